import Derived.Test.YtfdlfkdefbfhfaaOpen
set_option linter.unusedVariables false
set_option linter.unusedSimpArgs false
namespace Go.Proofs.Ytfdlfkdefbfhfaa
open Go.ChangeShapes Go.WideShapes Go.RowKit Go.Deep

section
variable {H : Type} {enc : TypeId × Value → H} {w : World}
theorem take_one (cs : List Value) (i : Nat) (h : i < cs.length) : ∃ v, (cs.drop i).take 1 = [v] ∧ cs[i]? = some v :=
  ⟨cs[i], by rw [List.drop_eq_getElem_cons h, List.take_succ_cons, List.take_zero], List.getElem?_eq_getElem h⟩
theorem open_array {P : Program} {t e : TypeId} {k : IntKind} {N : Nat} (ht : P.underlying t = some (.array N e)) (he : P.underlying e = some (.int k)) (h1 : P.cellsOf e = 1) (hN : P.cellsOf t = N) {n : Nat} {cs : List Value} {x : DataW H × List MemPlace}
    (h : DataW.trod enc P w 0 (fun _ => true) true n t cs = some x) : ∃ l, cs = nums k l ∧ l.length = N ∧ ∀ i ∈ l, (Lit.int k i).wf = true := by
  obtain ⟨xs, m, _, _, hl, hxl, hi⟩ := DataW.trod_array ht h
  rw [h1] at hi
  rw [hN] at hl
  obtain ⟨l, hll, hp⟩ := choose_list (fun i s => cs[i]? = some (.int k s) ∧ (Lit.int k s).wf = true) N (fun i hiN => by
    obtain ⟨v, hv, hc⟩ := take_one cs i (by omega)
    have h2 := hi i hiN
    rw [Nat.mul_one, hv, List.getElem?_eq_getElem (by omega)] at h2
    obtain ⟨s, hs, hw⟩ := open_num he h2
    exact ⟨s, by rw [hc, hs], hw⟩)
  refine ⟨l, ?_, hll, fun s hs => ?_⟩
  · apply List.ext_getElem?
    intro i
    rcases Nat.lt_or_ge i N with hlt | hge
    · have hs : l[i]? = some (l[i]'(by omega)) := List.getElem?_eq_getElem (by omega)
      rw [(hp i _ hs).1]
      simp [nums, hs]
    · rw [List.getElem?_eq_none (by omega), List.getElem?_eq_none (by rw [nums_len]; omega)]
  · obtain ⟨i, hi', rfl⟩ := List.getElem_of_mem hs
    exact (hp i _ (List.getElem?_eq_getElem hi')).2
theorem split8 {cs : List Value} {a b c d e f g h : Value} (hl : 8 ≤ cs.length) (h0 : cs[0]? = some a) (h1 : cs[1]? = some b) (h2 : cs[2]? = some c) (h3 : cs[3]? = some d) (h4 : cs[4]? = some e) (h5 : cs[5]? = some f) (h6 : cs[6]? = some g) (h7 : cs[7]? = some h) :
    cs = [a, b, c, d, e, f, g, h] ++ cs.drop 8 := by
  match cs, hl with
  | x0 :: x1 :: x2 :: x3 :: x4 :: x5 :: x6 :: x7 :: r, _ =>
    simp only [List.getElem?_cons_zero, List.getElem?_cons_succ, Option.some.injEq] at h0 h1 h2 h3 h4 h5 h6 h7
    rw [h0, h1, h2, h3, h4, h5, h6, h7]
    rfl
theorem open_field {P : Program} {cs : List Value} {xs : List (DataW H × List MemPlace)} {n i : Nat} {f : Field} {k : IntKind} (hk : P.underlying f.type = some (.int k)) (hC : P.cellsOf f.type = 1) (hoff : f.offset = i) (hi : i < cs.length) (hx : i < xs.length)
    (h : DataW.trod enc P w 0 (fun _ => true) true n f.type ((cs.drop f.offset).take (P.cellsOf f.type)) = xs[i]?) : ∃ s, cs[i]? = some (.int k s) ∧ (Lit.int k s).wf = true := by
  obtain ⟨v, hv, hc⟩ := take_one cs i hi
  rw [hoff, hC, hv, List.getElem?_eq_getElem hx] at h
  obtain ⟨s, hs, hw⟩ := open_num hk h
  exact ⟨s, by rw [hc, hs], hw⟩
set_option maxRecDepth 100000 in
theorem open_frame_cells {n : Nat} {cs : List Value} {x : DataW H × List MemPlace} (h : DataW.trod enc Try.prog w 0 (fun _ => true) true n 36 cs = some x) : ∃ s : Frm, fC s = cs ∧ FrmWf s := by
  obtain ⟨xs, n', _, _, hl, hxl, hi⟩ := DataW.trod_struct Try.underlying36 h
  have hl : cs.length = 40 := hl.trans (by kernel_rfl)
  have hxl : xs.length = 9 := hxl
  obtain ⟨i0, c0, _⟩ := open_field (i := 0) (k := .i64) (by kernel_rfl) (by kernel_rfl) rfl (by omega) (by omega) (hi 0 _ rfl)
  obtain ⟨i1, c1, _⟩ := open_field (i := 1) (k := .i64) (by kernel_rfl) (by kernel_rfl) rfl (by omega) (by omega) (hi 1 _ rfl)
  obtain ⟨i2, c2, w2⟩ := open_field (i := 2) (k := .u64) (by kernel_rfl) (by kernel_rfl) rfl (by omega) (by omega) (hi 2 _ rfl)
  obtain ⟨i3, c3, w3⟩ := open_field (i := 3) (k := .u64) (by kernel_rfl) (by kernel_rfl) rfl (by omega) (by omega) (hi 3 _ rfl)
  obtain ⟨i4, c4, _⟩ := open_field (i := 4) (k := .i64) (by kernel_rfl) (by kernel_rfl) rfl (by omega) (by omega) (hi 4 _ rfl)
  obtain ⟨i5, c5, w5⟩ := open_field (i := 5) (k := .u64) (by kernel_rfl) (by kernel_rfl) rfl (by omega) (by omega) (hi 5 _ rfl)
  obtain ⟨i6, c6, _⟩ := open_field (i := 6) (k := .i64) (by kernel_rfl) (by kernel_rfl) rfl (by omega) (by omega) (hi 6 _ rfl)
  obtain ⟨i7, c7, _⟩ := open_field (i := 7) (k := .i64) (by kernel_rfl) (by kernel_rfl) rfl (by omega) (by omega) (hi 7 _ rfl)
  have h8 := hi 8 _ rfl
  rw [List.getElem?_eq_getElem (by omega)] at h8
  obtain ⟨tag, ht, htl, hw⟩ := open_array (k := .u8) Try.underlying34 Try.underlying5 (by kernel_rfl) (N := 32) (by kernel_rfl) h8
  have hd : (cs.drop 8).take 32 = cs.drop 8 := List.take_of_length_le (by rw [List.length_drop]; omega)
  have ht2 : cs.drop 8 = nums .u8 tag := hd.symm.trans ht
  refine ⟨⟨i0, i1, i2, i3, i4, i5, i6, i7, tag⟩, ?_, ⟨htl, wf_bytes hw⟩, wf_u64 w2, wf_u64 w3, wf_u64 w5⟩
  rw [split8 (by omega) c0 c1 c2 c3 c4 c5 c6 c7, ht2]
  rfl
set_option maxRecDepth 100000 in
theorem open_frame {base : Nat} {v : Value} {d : DataW H} {p : List MemPlace} (hv : Value.okWide Try.prog w .any base 36 v) (h : DataW.Trod enc Try.prog w 0 (fun _ => true) true 36 v d p) : ∃ s, v = .agg (fC s).toArray ∧ FrmWf s := by
  obtain ⟨cs, rfl, _⟩ := okWide_struct Try.underlying36 hv
  obtain ⟨fuel, hf⟩ := h
  obtain ⟨s, hs, hw⟩ := open_frame_cells hf
  have hs : fC s = cs.toList := hs
  exact ⟨s, by rw [hs], hw⟩
set_option maxRecDepth 100000 in
theorem open_ev {base : Nat} {v : Value} {d : DataW H} {p : List MemPlace} (hv : Value.okWide Try.prog w .any base 42 v) (h : DataW.Trod enc Try.prog w 0 (fun _ => true) true 42 v d p) : ∃ s : Ev, v = .agg s.cells.toArray ∧ EvOk w s := by
  obtain ⟨cs, rfl, _⟩ := okWide_struct Try.underlying42 hv
  obtain ⟨fuel, hf⟩ := h
  obtain ⟨s, hs, hw⟩ := open_ev_cells hf
  have hs : s.cells = cs.toList := hs
  exact ⟨s, by rw [hs], hw⟩
end
end Go.Proofs.Ytfdlfkdefbfhfaa
