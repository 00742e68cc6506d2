import Derived.Test.YtfdlfkdefbfhfaaWhose
set_option linter.unusedVariables false
set_option linter.unusedSimpArgs false
namespace Go.Proofs.Ytfdlfkdefbfhfaa
open Go.RowKit

theorem readEnd_plain (l : List Int) (f : Frm) (p : Int) : (readEnd l f p) = (kindF 0, 3) ∨ (plainB (readEnd l f p).1 = true ∧ (readEnd l f p).2 = 0 ∧ putF (readEnd l f p).1 = l) := by
  unfold readEnd
  split
  · rename_i h; exact .inr ⟨h.1, rfl, h.2.2⟩
  · exact .inl rfl
theorem readF_plain (l : List Int) : ((readF l).1 = kindF 0 ∧ (readF l).2 ≠ 0) ∨ (plainB (readF l).1 = true ∧ (readF l).2 = 0 ∧ putF (readF l).1 = l) := by
  unfold readF
  split
  · exact .inl ⟨rfl, by decide⟩
  · split
    · exact .inl ⟨rfl, by decide⟩
    · split
      · exact .inl ⟨rfl, by decide⟩
      · cases readS l (slotsOf (nth l 2)) (kindF (nth l 2)) 3 with
        | none => exact .inl ⟨rfl, by show (3 : Int) ≠ 0; decide⟩
        | some r =>
          rcases readEnd_plain l r.1 r.2 with h | h
          · exact .inl ⟨by show (readEnd l r.1 r.2).1 = _; rw [h], by show (readEnd l r.1 r.2).2 ≠ 0; rw [h]; show (3 : Int) ≠ 0; decide⟩
          · exact .inr h
theorem readF_user (l : List Int) : 0 ≤ (readF l).1.user ∧ (readF l).1.user ≤ 255 := by
  rcases readF_plain l with h | h
  · rw [h.1]; exact ⟨by decide, by decide⟩
  · have := h.1
    simp only [plainB, rangesB, Bool.and_eq_true, decide_eq_true_eq] at this
    omega
theorem readF_i64 (l : List Int) : i64B (readF l).1.user := by have := readF_user l; unfold i64B; omega

def evCells (l : List Ev) : List Value := l.flatMap Ev.cells
theorem evCells_at (l : List Ev) (j : Nat) (s : Ev) (h : l[j]? = some s) (i : Nat) (u : Value) (hu : s.cells[i]? = some u) : (evCells l)[j * 5 + i]? = some u := by
  induction l generalizing j with
  | nil => simp at h
  | cons x l ih =>
    have e : evCells (x :: l) = x.cells ++ evCells l := by simp [evCells]
    have hx : x.cells.length = 5 := rfl
    cases j with
    | zero =>
      simp at h
      subst h
      have hi : i < 5 := by have := (List.getElem?_eq_some_iff.1 hu).1; simpa [Ev.cells] using this
      rw [e, List.getElem?_append_left (by omega)]
      simpa using hu
    | succ j =>
      have := ih j (by simpa using h)
      rw [e, List.getElem?_append_right (by omega), hx, show (j + 1) * 5 + i - 5 = j * 5 + i by omega]
      exact this
theorem evCells_len (l : List Ev) : (evCells l).length = l.length * 5 := by
  induction l with
  | nil => rfl
  | cons x l ih =>
    have e : evCells (x :: l) = x.cells ++ evCells l := by simp [evCells]
    rw [e, List.length_append, ih, List.length_cons]
    show 5 + _ = _
    omega
/-- Events as they lie. -/
structure Evs (w : World) (A : Option Addr) (n cap : Nat) (l : List Ev) : Prop where
  row : Row w A n cap 5 (evCells l)
  ok : ∀ e ∈ l, EvOk w e
theorem Evs.keep {w w' : World} {A : Option Addr} {n cap : Nat} {l : List Ev} (h : Evs w A n cap l) (hk : Keep w w') : Evs w' A n cap l := ⟨h.row.keep hk, fun e he => (h.ok e he).keep hk⟩
theorem Evs.below {w w' : World} {A : Option Addr} {n cap : Nat} {l : List Ev} (h : Evs w A n cap l) (hb : Below w.heap.size w w') : Evs w' A n cap l := h.keep (.of_below hb)
theorem Evs.len {w : World} {A : Option Addr} {n cap : Nat} {l : List Ev} (h : Evs w A n cap l) : l.length = n := by
  have := h.row.len
  rw [evCells_len] at this
  omega

def stepM (l : List Usr) (M : List (Int × Int)) (e : Ev) : List (Int × Int) := if breaksB e then [] else (whoseF l M e).2
/-- part.Whose. -/
def whoseL (l : List Usr) : List (Int × Int) → List Ev → List Int
  | _, [] => []
  | M, e :: es => (whoseF l M e).1 :: whoseL l (stepM l M e) es
theorem whoseL_step (l : List Usr) (M : List (Int × Int)) (es : List Ev) (j : Nat) (e : Ev) (h : es[j]? = some e) : whoseL l M (es.drop j) = (whoseF l M e).1 :: whoseL l (stepM l M e) (es.drop (j + 1)) := by
  have hj : j < es.length := (List.getElem?_eq_some_iff.1 h).1
  rw [List.drop_eq_getElem_cons hj]
  rw [List.getElem?_eq_getElem hj] at h
  cases h
  rfl
theorem whoseF_len (l : List Usr) (M : List (Int × Int)) (e : Ev) : (whoseF l M e).2.length ≤ M.length + 1 := by
  unfold whoseF helloF
  repeat' split
  all_goals simp
theorem stepM_len (l : List Usr) (M : List (Int × Int)) (e : Ev) : (stepM l M e).length ≤ M.length + 1 := by
  unfold stepM
  split
  · simp
  · exact whoseF_len l M e
theorem info_int : (Try.prog.info? 3).map (fun i => (i.zero, i.size, i.bytes)) = some (some (.int .i64 0), 1, 8) := by kernel_rfl

theorem OwnsWho.belowB {B : Nat} {w w' : World} {b : Nat} {M : List (Int × Int)} (h : OwnsWho w b M) (hb : Below B w w') (hlt : b < B) : OwnsWho w' b M := by
  obtain ⟨D, h1, ⟨es, clock, h2, h3⟩, h4⟩ := h
  exact ⟨D, h1, ⟨es, clock, (hb.block b hlt).trans h2, h3⟩, h4⟩
theorem Book.belowB {B : Nat} {w w' : World} {g b n cap : Nat} {A : Option Addr} {l : List Usr} {M : List (Int × Int)} (h : Book w g b A n cap l M) (hb : Below B w w') (hg : g < B) (hlt : b < B) (hu : Usrs w' A n cap l) : Book w' g b A n cap l M :=
  ⟨(hb.cell (p := ⟨g, 0, none⟩) hg).trans h.c0, (hb.cell (p := ⟨g, 1, none⟩) hg).trans h.c1, hu, h.who.belowB hb hlt⟩
set_option maxRecDepth 100000 in
set_option maxHeartbeats 2000000 in
theorem part_whose (A : Option Addr) (n cap : Nat) (l : List Usr) (pv : Value) (idle room : Int) (E : Option Addr) (m ecap : Nat) (es : List Ev) (w : World) (HU : Usrs w A n cap l) (HE : Evs w E m ecap es) (hm : m < 1000) (hpv : pv.oneCell' = true) :
    Calls Try.prog 11 #[.agg #[.slice A n cap, pv, .int .i64 idle, .int .i64 room], .slice E m ecap] w fun e w' =>
      ∃ v, e = .returned v ∧ w'.ownsRow w.heap.size 3 1 v m (nums .i64 (whoseL l [] es)) ∧ Below w.heap.size w w' := by
  have hl := HE.len
  have hn := HE.row.le
  have hcap := HE.row.capLe
  have HUh := Lib.hid HU; have HEh := Lib.hid HE; have HL := Lib.hid hl
  clear HU HE hl
  have hmm := @run_makeMap Try.prog
  go_enter Try.func11, Try.ntmps11
  go_wp2
  obtain ⟨W0, hW0⟩ : ∃ W0, W0 = ((w.alloc (.cells #[.slice A n cap, pv, .int .i64 idle, .int .i64 room] 31)).alloc (.map #[] 0)).alloc (.cells #[.slice A n cap, .map (some (w.heap.size + 1))] 60) := ⟨_, rfl⟩
  rw [← hW0]
  have hB0 : Below w.heap.size w W0 := by
    rw [hW0]; exact (((Below.refl _ _).alloc (Nat.le_refl _) _).alloc (by simp) _).alloc (by simp; omega) _
  have s0 : W0.heap.size = w.heap.size + 3 := by rw [hW0]; simp
  have hBk0 : Hid (Book W0 (w.heap.size + 1 + 1) (w.heap.size + 1) A n cap l []) := by
    have hb : Blk W0 (w.heap.size + 1 + 1) 60 [.slice A n cap, .map (some (w.heap.size + 1))] := by
      rw [hW0]
      have := Blk.new ((w.alloc (.cells #[.slice A n cap, pv, .int .i64 idle, .int .i64 room] 31)).alloc (.map #[] 0)) 60 [.slice A n cap, .map (some (w.heap.size + 1))]
      simpa using this
    have ho : OwnsWho W0 (w.heap.size + 1) [] := by
      rw [hW0]
      have := OwnsWho.made (w.alloc (.cells #[.slice A n cap, pv, .int .i64 idle, .int .i64 room] 31))
      rw [World.size_alloc] at this
      exact this.kept (World.grownBy_alloc _ _ none) (by simp)
    have : Book W0 (w.heap.size + 1 + 1) (w.heap.size + 1) A n cap l [] := ⟨hb.cell 0, hb.cell 1, HUh.out.below hB0, ho⟩
    exact this
  have hB0 := Lib.hid hB0
  clear hW0 hmm
  go_loopw [6, 16] (fun v i wr => ∃ (j : Nat) (O : List Int) (M : List (Int × Int)), j ≤ m ∧ i = .int .i64 j ∧ O.length = j ∧ M.length ≤ j ∧ whoseL l [] es = O ++ whoseL l M (es.drop j) ∧ wr.ownsRow W0.heap.size 3 1 v j (nums .i64 O) ∧
    Book wr (w.heap.size + 1 + 1) (w.heap.size + 1) A n cap l M ∧ Keep w wr ∧ Below w.heap.size w wr ∧ W0.heap.size ≤ wr.heap.size) (fun _ i _ => m - (intOf i).toNat)
  case atStart => exact ⟨0, [], [], Nat.zero_le _, rfl, rfl, Nat.le_refl _, rfl, World.ownsRow_nil _ _ _ _, hBk0.out, .of_below hB0.out, hB0.out, Nat.le_refl _⟩
  case round =>
    obtain ⟨j, O, M, hj, rfl, hO, hMl, hW, hOwn, hBk, hKp, hBl, hsz⟩ := hrel
    have hO := Lib.hid hO; have hMl := Lib.hid hMl; have hW := Lib.hid hW; have hOwn := Lib.hid hOwn; have hBk := Lib.hid hBk; have hKp := Lib.hid hKp; have hBl := Lib.hid hBl
    by_cases hjn : j < m
    · obtain ⟨x, hx⟩ : ∃ x, es[j]? = some x := ⟨_, List.getElem?_eq_getElem (by rw [HL.out]; exact hjn)⟩
      have hst := Lib.hid (whoseL_step l M es j x hx)
      obtain ⟨eb, eoff, rfl, hc⟩ := HEh.out.row.cell (by omega)
      have p0 := hKp.out _ _ (hc _ _ (evCells_at es j x hx 0 _ rfl))
      have p1 := hKp.out _ _ (hc _ _ (evCells_at es j x hx 1 _ rfl))
      have p2 := hKp.out _ _ (hc _ _ (evCells_at es j x hx 2 _ rfl))
      have p3 := hKp.out _ _ (hc _ _ (evCells_at es j x hx 3 _ rfl))
      have p4 := hKp.out _ _ (hc _ _ (evCells_at es j x hx 4 _ rfl))
      have hxo := Lib.hid ((HEh.out.ok x (List.mem_of_getElem? hx)).keep hKp.out)
      simp only [Nat.add_zero, ← Nat.add_assoc] at p0 p1 p2 p3 p4
      clear hc hx
      go_wp2_with fail
      obtain ⟨V, hV⟩ : ∃ V, V = wr.alloc (.cells #[.int .i64 x.kind, .slice x.rA x.rn x.rcap, .int .u64 x.draw, .bool x.boom, .int .i64 x.keep] 42) := ⟨_, rfl⟩
      have hBV : Below wr.heap.size wr V := by rw [hV]; exact (Below.refl _ _).alloc (Nat.le_refl _) _
      have qb : Blk V wr.heap.size 42 x.cells := by rw [hV]; exact Blk.new' wr 42 _
      have sV : V.heap.size = wr.heap.size + 1 := by rw [hV]; simp
      rw [← hV]
      have hr : ∃ r, whoseF l M x = r := ⟨_, rfl⟩
      obtain ⟨r, hr⟩ := hr
      have hMr : Hid (r.2.length ≤ M.length + 1) := by have := whoseF_len l M x; rw [hr] at this; exact this
      have hcall := book_whose (w.heap.size + 1 + 1) (w.heap.size + 1) n cap A l M x V (hBk.out.below hBV) (hxo.out.below hBV) (readF_i64 x.raw) (by have := hMl.out; omega)
      rw [hr] at hcall hst
      have hr := Lib.hid hr
      refine hcall.mono ?_
      rintro e W2 ⟨rfl, hw2, hg2⟩
      have hK2 := Keep.of_map (hBk.out.below hBV).who hg2
      have hBk2 := Lib.hid ((hBk.out.below hBV).keep hK2 hw2)
      have hOwn2 := Lib.hid ((own_below hOwn.out hBV).kept hg2 (.inr (fun e => by have := own_base hOwn.out _ e; omega)))
      have hBl2 := Lib.hid (below_grownS (hBl.out.trans (hBV.mono hBl.out.size)) hg2 (by omega) (by have := hBl.out.size; omega))
      have qb2 := Lib.hid (qb.grown hg2 (by simp; omega))
      have s2 : wr.heap.size + 1 ≤ W2.heap.size := by have := hg2.size; omega
      have hlo := Lib.hid (fun k (h : _ = some k) => (hOwn.out.lt k h).2)
      clear hV hBV qb hcall hw2 hg2 hK2 p0 p1 p2 p3 p4 hKp
      go_wp2_with (at_builtin; go_must (refine wpList_app (w0 := W2) W0.heap.size rfl _ _ 27 rfl 3 (.int .i64 0) 1 8 Try.underlying27 info_int rfl (by decide) (by decide) _ j (nums .i64 O) _ 1 1 [.int .i64 r.1] rfl rfl ?h2 ?h3 ?h4 ?h5 ?h6 ?h7 ?h8))
      case h2 => exact hOwn2.out.alloc _
      case h3 => simpa using Row.new W2 3 1 1 #[.int .i64 r.1] rfl (by decide)
      case h4 => first | exact ⟨rfl, trivial⟩ | simp [Value.oneCell']
      case h5 => exact (Below.refl _ _).alloc (by omega) _
      case h6 => first | omega | (simp; omega)
      case h7 => omega
      case h8 =>
      intro v' W3 hown hB3 hgr _
      have qb3 : Blk W3 wr.heap.size 42 x.cells := (qb2.out.alloc _).grown hgr (fun e => by have := hlo.out _ e.symm; omega)
      have q0 : W3.cell? ⟨wr.heap.size, 0, none⟩ = some (.int .i64 x.kind) := qb3.cell 0
      have q1 : W3.cell? ⟨wr.heap.size, 1, none⟩ = some (.slice x.rA x.rn x.rcap) := qb3.cell 1
      have q2 : W3.cell? ⟨wr.heap.size, 2, none⟩ = some (.int .u64 x.draw) := qb3.cell 2
      have q3 : W3.cell? ⟨wr.heap.size, 3, none⟩ = some (.bool x.boom) := qb3.cell 3
      have q4 : W3.cell? ⟨wr.heap.size, 4, none⟩ = some (.int .i64 x.keep) := qb3.cell 4
      have hBl3 := Lib.hid (hBl2.out.trans (hB3.mono (by omega)))
      have hBk3 := Lib.hid (hBk2.out.belowB hB3 (by omega) (by omega) (HUh.out.below hBl3.out))
      have c1 := hBk3.out.c1
      have hOwn3 : Hid (W3.ownsRow W0.heap.size 3 1 v' (j + 1) (nums .i64 (O ++ [r.1]))) := by
        have : W3.ownsRow W0.heap.size 3 1 v' (j + 1) (nums .i64 (O ++ [r.1])) := by rw [nums_app, s0]; exact hown
        exact this
      have s3 := hB3.size
      have hbr := Lib.hid (part_breaks x W3)
      clear hown hB3 hgr qb3 hlo hOwn2 hBk2 hBl2 qb2
      obtain ⟨bx, hbx⟩ : ∃ bx, breaksB x = bx := ⟨_, rfl⟩
      have hbx := Lib.hid hbx
      obtain ⟨A', c', rfl, _⟩ := Row.of_own hOwn3.out
      cases bx with
      | true =>
        go_wp2_with (first | (go_at_call 22; refine hbr.out.mono ?_; rintro e W4 ⟨he4, hB4⟩; rw [hbx.out] at he4; subst he4; have c1 := cell_keep hB4 c1; have hBk4 := Lib.hid (hBk3.out.below hB4); have hOwn4 := Lib.hid (own_below hOwn3.out hB4); have hBl4 := Lib.hid (hBl3.out.trans (hB4.mono hBl3.out.size)); have hs4 := hB4.size; clear hB4) | (refine wpList_clearWho rfl _ rfl (w.heap.size + 1) _ rfl hBk4.out.who ?_; intro W5 hw5 hg5; have hw5 := Lib.hid hw5; have hg5 := Lib.hid hg5))
        have hstM : stepM l M x = [] := by unfold stepM; rw [hbx.out]; rfl
        rw [hstM] at hst
        refine ⟨⟨j + 1, O ++ [r.1], [], by omega, by go_num, by simp [hO.out], Nat.zero_le _, by rw [hW.out, hst.out]; simp, ?_, ?_, ?_, ?_, ?_⟩, by simp [intOf]; omega⟩
        · exact hOwn4.out.kept hg5.out (.inr (fun e => by have := own_base hOwn4.out _ e; omega))
        · exact (hBk4.out.keep (Keep.of_map hBk4.out.who hg5.out) hw5.out)
        · exact (Keep.of_below hBl4.out).trans (Keep.of_map hBk4.out.who hg5.out)
        · exact below_grownS hBl4.out hg5.out (by omega) hBl4.out.size
        · have := hg5.out.size; omega
      | false =>
        go_wp2_with (go_at_call 22; refine hbr.out.mono ?_; rintro e W4 ⟨he4, hB4⟩; rw [hbx.out] at he4; subst he4; have hB4 := Lib.hid hB4)
        have hstM : stepM l M x = r.2 := by unfold stepM; rw [hbx.out, hr.out]; rfl
        rw [hstM] at hst
        refine ⟨⟨j + 1, O ++ [r.1], r.2, by omega, by go_num, by simp [hO.out], by have := hMr.out; have := hMl.out; omega, by rw [hW.out, hst.out]; simp, own_below hOwn3.out hB4.out, hBk3.out.below hB4.out, ?_, ?_, ?_⟩, by simp [intOf]; omega⟩
        · exact (Keep.of_below (hBl3.out.trans (hB4.out.mono hBl3.out.size)))
        · exact hBl3.out.trans (hB4.out.mono hBl3.out.size)
        · have := hB4.out.size; omega
    · obtain rfl : j = m := by omega
      have hfin : Hid (whoseL l [] es = O) := by
        have : whoseL l [] es = O := by
          rw [hW.out, List.drop_of_length_le (by rw [HL.out]; exact Nat.le_refl _)]
          simp [whoseL]
        exact this
      obtain ⟨A', c', rfl, _⟩ := Row.of_own hOwn.out
      go_wp2
      go_ret
      refine ⟨_, rfl, ?_, hBl.out⟩
      rw [hfin.out]
      exact own_lower hOwn.out (by omega)
end Go.Proofs.Ytfdlfkdefbfhfaa
