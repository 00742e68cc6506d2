import Derived.Test.YtfdlfkdefbfhfaaFew
set_option linter.unusedVariables false
set_option linter.unusedSimpArgs false
namespace Go.Proofs.Ytfdlfkdefbfhfaa
open Go.RowKit

theorem mem_of_nth (l : List Int) (j : Nat) (h : j < l.length) : nth l j ∈ l := by
  rw [nth_eq l j h]; exact List.getElem_mem h
theorem nth_of_mem (l : List Int) (x : Int) (h : x ∈ l) : ∃ j, j < l.length ∧ nth l j = x := by
  obtain ⟨j, hj, e⟩ := List.getElem_of_mem h
  exact ⟨j, hj, by rw [nth_eq l j hj]; exact e⟩
theorem Row.intsK {w : World} {A : Option Addr} {n cap : Nat} {k : IntKind} {l : List Int} (h : Row w A n cap 1 (nums k l)) (hn : 0 < n) :
    ∃ b off, A = some ⟨b, off, none⟩ ∧ ∀ j, j < n → w.cell? ⟨b, off + j, none⟩ = some (.int k (nth l j)) := by
  obtain ⟨b, off, e, hc⟩ := h.ints hn
  exact ⟨b, off, e, hc⟩

theorem index_u64 (A : Option Addr) (n cap : Nat) (l : List Int) (x : Int) (w : World) (H : Row w A n cap 1 (nums .u64 l)) :
    Calls Try.prog 46 #[.slice A n cap, .int .u64 x] w fun e w' => (∃ r : Int, e = .returned (.int .i64 r) ∧ (0 ≤ r ↔ x ∈ l)) ∧ w' = w := by
  have hl := H.nums_at
  have hn := H.le
  have hcap := H.capLe
  go_enter Try.func46, Try.ntmps46
  go_wp2
  go_loopw [8] (fun i wr => wr = w ∧ ∃ j : Nat, j ≤ n ∧ i = .int .i64 j ∧ ∀ q, q < j → nth l q ≠ x) (fun i _ => n - (intOf i).toNat)
  case atStart => exact ⟨rfl, 0, Nat.zero_le _, rfl, fun q h => by omega⟩
  case round =>
    obtain ⟨rfl, j, hj, rfl, hq⟩ := hrel
    have hQ := Lib.hid hq
    clear hq
    by_cases hjn : j < n
    · obtain ⟨b, off, rfl, hc⟩ := H.intsK (by omega)
      have c1 := hc j (by omega)
      clear hc
      by_cases he : x = nth l j
      · go_wp2
        go_ret
        exact ⟨⟨_, rfl, by simp; rw [he]; exact mem_of_nth l j (by omega)⟩, rfl⟩
      · go_wp2
        refine ⟨⟨by first | rfl | trivial, j + 1, by omega, by go_num, ?_⟩, by simp [intOf]; omega⟩
        intro q h
        rcases Nat.lt_or_ge q j with h1 | h1
        · exact hQ.out q h1
        · obtain rfl : q = j := by omega
          exact fun e => he e.symm
    · obtain rfl : j = n := by omega
      go_wp2
      go_ret
      refine ⟨⟨_, rfl, ?_⟩, rfl⟩
      constructor
      · intro h; exact absurd h (by decide)
      · intro h
        obtain ⟨q, hq, e⟩ := nth_of_mem l x h
        exact absurd e (hQ.out q (by omega))
theorem contains_u64 (A : Option Addr) (n cap : Nat) (l : List Int) (x : Int) (w : World) (H : Row w A n cap 1 (nums .u64 l)) :
    Calls Try.prog 33 #[.slice A n cap, .int .u64 x] w fun e w' => e = .returned (.bool (decide (x ∈ l))) ∧ w' = w := by
  have hi := Lib.hid (index_u64 A n cap l x w H)
  clear H
  go_enter Try.func33, Try.ntmps33
  go_wp2_with (go_at_call 46; refine hi.out.mono ?_; rintro e w' ⟨⟨r, rfl, hr⟩, rfl⟩; have hr := Lib.hid hr)
  go_ret
  refine ⟨ret_bool ?_, rfl⟩
  by_cases h : x ∈ l
  · rw [decide_eq_true h]; try exact decide_eq_true (hr.out.2 h)
  · rw [decide_eq_false h]; try exact decide_eq_false (fun h2 => h (hr.out.1 h2))

set_option maxRecDepth 100000 in
set_option maxHeartbeats 1000000 in
theorem clone_u8 (A : Option Addr) (n cap : Nat) (l : List Int) (w : World) (H : Row w A n cap 1 (nums .u8 l)) (hn : n ≤ 1000) :
    Calls Try.prog 30 #[.slice A n cap] w fun e w' => ∃ v, e = .returned v ∧ w'.ownsRow w.heap.size 5 1 v n (nums .u8 l) ∧ Below w.heap.size w w' := by
  have hl := H.nums_at
  cases A with
  | none =>
    obtain ⟨rfl, rfl⟩ := H.nil rfl
    have hl0 : l = [] := List.eq_nil_of_length_eq_zero hl
    subst hl0
    have hz := fun w => Lib.run_eql_slice_nil (P := Try.prog) w 40 5 none 0 0 0 0 Try.underlying40
    go_enter Try.func30, Try.ntmps30
    go_wp2
    go_ret
    exact ⟨_, rfl, World.ownsRow_nil _ _ _ _, Below.refl _ _⟩
  | some a =>
    have HR := Lib.hid H
    have hn1 := H.le; have hn2 := H.capLe
    clear H
    have hz := fun w => Lib.run_eql_slice_nil (P := Try.prog) w 40 5 (some a) n cap 0 0 Try.underlying40
    go_enter Try.func30, Try.ntmps30
    go_wp2_with (at_builtin; go_loud (refine wpList_app (w0 := w) w.heap.size rfl _ _ 40 rfl 5 (.int .u8 0) 1 1 Try.underlying40 info_u8 rfl (by decide) (by decide) _ 0 [] _ n cap (nums .u8 l) rfl rfl (World.ownsRow_lit w #[] 0 (Nat.le_refl _) (by decide) rfl) (HR.out.below ((Below.refl _ _).alloc (Nat.le_refl _) _)) (nums_one _ _) ((Below.refl _ _).alloc (Nat.le_refl _) _) (by simp) (by omega) ?_; intro v' W4 hv' B4 _ _; have hv' := Lib.hid hv'; have hB4 := Lib.hid B4; clear B4))
    go_ret
    exact ⟨_, rfl, by simpa using hv'.out, hB4.out⟩

def beginsB (e : Ev) : Bool := decide (e.kind = 0) && (decide ((readF e.raw).2 = 0) && decide ((readF e.raw).1.kind = 0))
/-- part.Clear. -/
def clearL : List Int → List Ev → Bool
  | _, [] => true
  | had, e :: es => if beginsB e then (if e.draw ∈ had then false else clearL (had ++ [e.draw]) es) else clearL had es
theorem clearL_step (had : List Int) (es : List Ev) (j : Nat) (e : Ev) (h : es[j]? = some e) : clearL had (es.drop j) = if beginsB e then (if e.draw ∈ had then false else clearL (had ++ [e.draw]) (es.drop (j + 1))) else clearL had (es.drop (j + 1)) := by
  have hj : j < es.length := (List.getElem?_eq_some_iff.1 h).1
  rw [List.drop_eq_getElem_cons hj]
  rw [List.getElem?_eq_getElem hj] at h
  cases h
  rfl
theorem info_u64 : (Try.prog.info? 32).map (fun i => (i.zero, i.size, i.bytes)) = some (some (.int .u64 0), 1, 8) := by kernel_rfl

set_option maxRecDepth 100000 in
set_option maxHeartbeats 2000000 in
theorem part_clear (E : Option Addr) (m ecap : Nat) (es : List Ev) (w : World) (HE : Evs w E m ecap es) (hm : m < 1000) :
    Calls Try.prog 19 #[.slice E m ecap] w fun e w' => e = .returned (.bool (clearL [] es)) ∧ Below w.heap.size w w' := by
  have hl := HE.len
  have hn := HE.row.le
  have hcap := HE.row.capLe
  have HEh := Lib.hid HE; have HL := Lib.hid hl
  have HL0 := Lib.hid (fC_len (kindF 0) rfl)
  clear HE hl
  go_enter Try.func19, Try.ntmps19
  go_wp2
  go_loopw [3, 10] (fun v i wr => ∃ (j : Nat) (O : List Int), j ≤ m ∧ i = .int .i64 j ∧ O.length ≤ j ∧ clearL [] es = clearL O (es.drop j) ∧ wr.ownsRow w.heap.size 32 1 v O.length (nums .u64 O) ∧ Below w.heap.size w wr) (fun _ i _ => m - (intOf i).toNat)
  case atStart => exact ⟨0, [], Nat.zero_le _, rfl, Nat.le_refl _, rfl, World.ownsRow_nil _ _ _ _, Below.refl _ _⟩
  case round =>
    obtain ⟨j, O, hj, rfl, hO, hW, hOwn, hBl⟩ := hrel
    have hO := Lib.hid hO; have hW := Lib.hid hW; have hOwn := Lib.hid hOwn; have hBl := Lib.hid hBl
    obtain ⟨hA, hc, rfl, hR⟩ := Row.of_own hOwn.out
    have hR := Lib.hid hR
    by_cases hjn : j < m
    · obtain ⟨x, hx⟩ : ∃ x, es[j]? = some x := ⟨_, List.getElem?_eq_getElem (by rw [HL.out]; exact hjn)⟩
      have hst := Lib.hid (clearL_step O es j x hx)
      obtain ⟨eb, eoff, rfl, hcc⟩ := HEh.out.row.cell (by omega)
      have p0 := cell_keep hBl.out (hcc _ _ (evCells_at es j x hx 0 _ rfl))
      have p1 := cell_keep hBl.out (hcc _ _ (evCells_at es j x hx 1 _ rfl))
      have p2 := cell_keep hBl.out (hcc _ _ (evCells_at es j x hx 2 _ rfl))
      have p3 := cell_keep hBl.out (hcc _ _ (evCells_at es j x hx 3 _ rfl))
      have p4 := cell_keep hBl.out (hcc _ _ (evCells_at es j x hx 4 _ rfl))
      have hxo := Lib.hid ((HEh.out.ok x (List.mem_of_getElem? hx)).below hBl.out)
      simp only [Nat.add_zero, ← Nat.add_assoc] at p0 p1 p2 p3 p4
      clear hcc hx
      go_wp2_with fail
      obtain ⟨V, hV⟩ : ∃ V, V = wr.alloc (.cells #[.int .i64 x.kind, .slice x.rA x.rn x.rcap, .int .u64 x.draw, .bool x.boom, .int .i64 x.keep] 42) := ⟨_, rfl⟩
      have hBV : Below wr.heap.size wr V := by rw [hV]; exact (Below.refl _ _).alloc (Nat.le_refl _) _
      have qb : Blk V wr.heap.size 42 x.cells := by rw [hV]; exact Blk.new' wr 42 _
      have sV : V.heap.size = wr.heap.size + 1 := by rw [hV]; simp
      rw [← hV]
      refine (frame_read x.rA x.rn x.rcap x.raw V (hxo.out.row.below hBV) hxo.out.bytes).mono ?_
      rintro e W2 ⟨rfl, hB2⟩
      have qb2 := qb.belowS hB2
      have hBV2 : Below wr.heap.size wr W2 := hBV.trans (hB2.mono (by omega))
      have s2 := hB2.size
      have hwfr := Lib.hid (readF_wf x.raw hxo.out.bytes)
      clear hV hBV qb p0 p1 p2 p3 p4 hB2
      have hbeg : Hid (beginsB x = (decide (x.kind = 0) && (decide ((readF x.raw).2 = 0) && decide ((readF x.raw).1.kind = 0)))) := rfl
      generalize readF x.raw = rf at *
      obtain ⟨F, er⟩ := rf
      simp only at hwfr hbeg ⊢
      have hfl := Lib.hid (fC_len F hwfr.out.1.1)
      have hBl2 := Lib.hid (hBl.out.trans (hBV2.mono hBl.out.size))
      have hbs := hBl.out.size
      have hOwn2 := Lib.hid (own_below hOwn.out hBV2)
      clear hBV2
      go_wp2_with (refine wpList_allocS (w0 := w) w.heap.size rfl 36 rfl (fC (kindF 0)) _ zero_frame rfl hBl2.out (by omega) ?h1)
      case h1 =>
      intro W3 b3 k3 B3 s3
      go_wp2_with (refine wpList_storeW (w0 := w) w.heap.size rfl 36 _ _ rfl _ 0 rfl (fC F) rfl (by rw [hfl.out]; exact size_frame) (fC_one _) 36 (fC (kindF 0)) b3 (by rw [HL0.out, hfl.out]; decide) B3 (by omega) (fC F) (by simp [HL0.out, hfl.out]) ?h2)
      case h2 =>
      intro W4 b4 k4 B4 s4
      have hlo : ∀ k, Value.ownBlock (.slice hA O.length hc) = some k → k < wr.heap.size := fun k h => (hOwn.out.lt k h).2
      have qb4 := (qb2.grown k3 (by simp)).grown k4 (by simp; omega)
      have q0 : W4.cell? ⟨wr.heap.size, 0, none⟩ = some (.int .i64 x.kind) := qb4.cell 0
      have q2 : W4.cell? ⟨wr.heap.size, 2, none⟩ = some (.int .u64 x.draw) := qb4.cell 2
      have ck : W4.cell? ⟨W2.heap.size, 0, none⟩ = some (.int .i64 F.kind) := b4.cell 0
      have hOwn4 := Lib.hid ((hOwn2.out.kept k3 (by cases hA <;> simp [Value.ownBlock])).kept k4 (.inr (fun e => by have := hlo _ e; omega)))
      have hB4 := Lib.hid B4
      have hqb := Lib.hid qb4
      have s4' : wr.heap.size + 2 ≤ W4.heap.size := by omega
      clear b3 k3 B3 s3 k4 b4 B4 s4 qb2 qb4 hlo hOwn2 hBl2
      by_cases h0 : x.kind = 0
      · by_cases h1 : er = 0
        · subst h1
          by_cases h2 : F.kind = 0
          · have hb : Hid (beginsB x = true) := by
              have : beginsB x = true := by rw [hbeg.out]; simp [h0, h2]
              exact this
            obtain ⟨A2, c2, he2, hR2⟩ := Row.of_own hOwn4.out
            injection he2 with e1 _ e3
            subst e1; subst e3
            have hcon := Lib.hid (contains_u64 hA O.length hc O x.draw W4 hR2)
            clear hR2
            by_cases hmem : x.draw ∈ O
            · rw [decide_eq_true hmem] at hcon
              have hmem := Lib.hid hmem
              go_wp2_with (go_at_call 33; refine hcon.out.mono ?_; rintro e W5 ⟨rfl, rfl⟩)
              go_ret
              refine ⟨ret_bool ?_, hB4.out⟩
              rw [hW.out, hst.out, hb.out, if_pos rfl, if_pos hmem.out]
            · rw [decide_eq_false hmem] at hcon
              have hmem := Lib.hid hmem
              have hlen := hO.out
              go_wp2_with (first | (go_at_call 33; refine hcon.out.mono ?_; rintro e W5 ⟨rfl, rfl⟩) | (at_builtin; go_must (refine wpList_app (w0 := w) w.heap.size rfl _ _ 79 rfl 32 (.int .u64 0) 1 8 Try.underlying79 info_u64 rfl (by decide) (by decide) _ O.length (nums .u64 O) _ 1 1 [.int .u64 x.draw] rfl rfl ?h12 ?h13 ?h14 ?h15 ?h16 ?h17 ?h18)))
              case h12 => exact hOwn4.out.alloc _
              case h13 => simpa using Row.new _ 32 1 1 #[.int .u64 x.draw] rfl (by decide)
              case h14 => simp [Value.oneCell']
              case h15 => exact hB4.out.alloc hB4.out.size _
              case h16 => have := hB4.out.size; simp; omega
              case h17 => omega
              case h18 =>
              intro v' W6 hown hB6 _ _
              obtain ⟨A6, c6, rfl, _⟩ := Row.of_own hown
              have hown := Lib.hid hown; have hB6 := Lib.hid hB6
              go_wp2
              refine ⟨⟨j + 1, O ++ [x.draw], by omega, by go_num, by simp; omega, ?_, ?_, hB6.out⟩, by simp [intOf]; omega⟩
              · rw [hW.out, hst.out, hb.out, if_pos rfl, if_neg hmem.out]
              · rw [nums_app]; simpa [nums] using hown.out
          · have hb : Hid (beginsB x = false) := by
              have : beginsB x = false := by rw [hbeg.out]; simp [h2]
              exact this
            go_wp2
            refine ⟨⟨j + 1, O, by omega, by go_num, by have := hO.out; omega, by rw [hW.out, hst.out, hb.out]; rfl, hOwn4.out, hB4.out⟩, by simp [intOf]; omega⟩
        · have hb : Hid (beginsB x = false) := by
            have : beginsB x = false := by rw [hbeg.out]; simp [h1]
            exact this
          go_wp2
          refine ⟨⟨j + 1, O, by omega, by go_num, by have := hO.out; omega, by rw [hW.out, hst.out, hb.out]; rfl, hOwn4.out, hB4.out⟩, by simp [intOf]; omega⟩
      · have hb : Hid (beginsB x = false) := by
          have : beginsB x = false := by rw [hbeg.out]; simp [h0]
          exact this
        go_wp2
        refine ⟨⟨j + 1, O, by omega, by go_num, by have := hO.out; omega, by rw [hW.out, hst.out, hb.out]; rfl, hOwn4.out, hB4.out⟩, by simp [intOf]; omega⟩
    · obtain rfl : j = m := by omega
      have hfin : Hid (clearL [] es = true) := by
        have : clearL [] es = true := by
          rw [hW.out, List.drop_of_length_le (by rw [HL.out]; exact Nat.le_refl _)]
          simp [clearL]
        exact this
      go_wp2
      go_ret
      exact ⟨by rw [hfin.out]; rfl, hBl.out⟩
end Go.Proofs.Ytfdlfkdefbfhfaa
