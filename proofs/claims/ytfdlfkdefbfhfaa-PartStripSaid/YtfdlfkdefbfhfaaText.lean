import Derived.Test.YtfdlfkdefbfhfaaPlain
set_option linter.unusedVariables false
set_option linter.unusedSimpArgs false
namespace Go.Proofs.Ytfdlfkdefbfhfaa
open Go.RowKit

/-- The numbers are of their kinds. -/
def FrmWf (f : Frm) : Prop := FrmOk f ∧ (0 ≤ f.sess ∧ f.sess < 18446744073709551616) ∧ (0 ≤ f.cn ∧ f.cn < 18446744073709551616) ∧ (0 ≤ f.count ∧ f.count < 18446744073709551616)
def slotNum (f : Frm) (s : Slot) : Int × Int := (f.get s.off, s.k)
def sumK (l : List Slot) : Int := (l.map Slot.k).sum
def sizeF (f : Frm) : Int := 1 + sumK (slotsOf f.kind) + (if taggedB f.kind then 32 else 0)
def textL (f : Frm) : List (Int × Int) := (sizeF f, 2) :: (f.kind, 1) :: (slotsOf f.kind).map (slotNum f)
theorem sumK_snoc (l : List Slot) (s : Slot) : sumK (l ++ [s]) = sumK l + s.k := by simp [sumK]
theorem sumK_bound (l : List Slot) (h : ∀ s ∈ l, s.Ok) : 0 ≤ sumK l ∧ sumK l ≤ 8 * l.length := by
  induction l with
  | nil => simp [sumK]
  | cons s l ih =>
    have h1 := ih (fun x hx => h x (List.mem_cons_of_mem _ hx))
    have h2 := (h s List.mem_cons_self).2
    have e : sumK (s :: l) = s.k + sumK l := by simp [sumK]
    rw [e, List.length_cons]
    omega
theorem get_range (f : Frm) (hf : FrmWf f) (hr : rangesB f = true) (s : Slot) (h : s.Ok) : 0 ≤ f.get s.off ∧ f.get s.off < 18446744073709551616 ∧ (s.isInt = true → f.get s.off ≤ 9223372036854775807) := by
  obtain ⟨_, h1, h2, h3⟩ := hf
  simp only [rangesB, Bool.and_eq_true, decide_eq_true_eq] at hr
  unfold Slot.Ok at h
  rcases h.1 with ⟨e, h4 | h4 | h4 | h4⟩ | ⟨e, h4 | h4 | h4⟩ <;> rw [h4, e] <;> simp [Frm.get] <;> omega
theorem zero_num : (Try.prog.info? 95).map (·.zero) = some (some (.agg #[.int .u64 0, .int .i64 0])) := by kernel_rfl
theorem info_num : (Try.prog.info? 95).map (fun i => (i.zero, i.size, i.bytes)) = some (some (.agg #[.int .u64 0, .int .i64 0]), 2, 16) := by kernel_rfl
theorem numCells_app (l m : List (Int × Int)) : numCells (l ++ m) = numCells l ++ numCells m := by simp [numCells]

/-- what text has gathered after j slots -/
def partL (f : Frm) (S : List Slot) (j : Nat) : List Value := numCells ((0, 0) :: (f.kind, 1) :: (S.take j).map (slotNum f))
theorem partL_snoc (f : Frm) (S : List Slot) (j : Nat) (x : Slot) (h : S[j]? = some x) : partL f S (j + 1) = partL f S j ++ [.int .u64 (f.get x.off), .int .i64 x.k] := by
  unfold partL
  rw [List.take_add_one, h]
  simp [numCells, slotNum]

set_option maxRecDepth 100000 in
set_option maxHeartbeats 1000000 in
theorem frame_text (f : Frm) (w : World) (hf : FrmWf f) (hr : rangesB f = true) (hok : ∀ x ∈ textL f, okN x) : Calls Try.prog 32 #[.agg (fC f).toArray] w fun e w' =>
    ∃ v, e = .returned (.tuple #[v, .bool (taggedB f.kind)]) ∧ w'.ownsRow w.heap.size 5 1 v (catB (textL f)).length (nums .u8 (catB (textL f))) ∧ Below w.heap.size w w' := by
  have hF := Lib.hid hf; have hR := Lib.hid hr; have hOK := Lib.hid hok
  have hkr : 0 ≤ f.kind ∧ f.kind < 7 := by simp only [rangesB, Bool.and_eq_true, decide_eq_true_eq] at hr; omega
  obtain ⟨hk0, hk7⟩ := hkr
  clear hf hr hok
  go_enter Try.func32, Try.ntmps32
  go_wp2_with (refine wpList_boxS (w0 := w) w.heap.size rfl 36 _ rfl (fC f) rfl (Below.refl _ _) (Nat.le_refl _) ?h1)
  case h1 =>
  intro W1 b1 k1 B1 s1
  have c0 : W1.cell? ⟨w.heap.size, 0, none⟩ = some (.int .i64 f.kind) := b1.cell 0
  have hB1 := Lib.hid B1; have hb1 := Lib.hid b1
  clear k1 B1 b1
  go_wp2_with fail
  refine (frame_slots_row _ f.kind _ c0).mono ?_
  rintro e W2 ⟨A, c, rfl, HR, hA, B2⟩
  have s2 := B2.size
  have b2 := hb1.out.belowS B2
  have c0 : W2.cell? ⟨w.heap.size, 0, none⟩ = some (.int .i64 f.kind) := b2.cell 0
  have hB2 := Lib.hid (below_then hB1.out (by omega) B2); have hb2 := Lib.hid b2; have HR := Lib.hid HR
  clear hB1 hb1 B2 b2 hA
  have hN := slotsOf_len f.kind
  have hS := Lib.hid (slotsOf_ok f.kind)
  have hSz : Hid (sizeF f = 1 + sumK (slotsOf f.kind) + (if taggedB f.kind then 32 else 0)) := rfl
  have hTL : Hid (textL f = (sizeF f, 2) :: (f.kind, 1) :: (slotsOf f.kind).map (slotNum f)) := rfl
  generalize hSd : slotsOf f.kind = S at *
  clear hSd
  go_wp2
  go_loopw [6, 7, 25] (fun s v i wr => ∃ j : Nat, j ≤ S.length ∧ i = .int .i64 j ∧ s = .int .i64 (1 + sumK (S.take j)) ∧ wr.ownsRow W2.heap.size 95 2 v (2 + j) (partL f S j) ∧ Below W2.heap.size W2 wr) (fun _ _ i _ => S.length - (intOf i).toNat)
  case atStart =>
    exact ⟨0, Nat.zero_le _, rfl, rfl, World.ownsRow_lit W2 #[.int .u64 0, .int .i64 0, .int .u64 f.kind, .int .i64 1] 2 (Nat.le_refl _) (by decide) rfl, (Below.refl _ _).alloc (Nat.le_refl _) _⟩
  case round =>
    obtain ⟨j, hj, rfl, rfl, HO, HB⟩ := hrel
    have hO := Lib.hid HO; have hB := Lib.hid HB
    have hbs := HB.size
    have hsum := sumK_bound (S.take j) (fun s hs => hS.out s (List.mem_of_mem_take hs))
    have hl4 : (S.take j).length ≤ 4 := by rw [List.length_take]; omega
    obtain ⟨hs0, hs1⟩ := hsum
    obtain ⟨sm, hsm⟩ : ∃ q, sumK (S.take j) = q := ⟨_, rfl⟩
    rw [hsm] at hs0 hs1 ⊢
    have hSm := Lib.hid hsm
    clear HO HB hsm
    by_cases hjn : j < S.length
    · obtain ⟨x, hx⟩ : ∃ x, S[j]? = some x := ⟨_, List.getElem?_eq_getElem hjn⟩
      have hok := hS.out x (List.mem_of_getElem? hx)
      obtain ⟨b, off, rfl, hc⟩ := HR.out.cell (by omega)
      have p0 := cell_keep hB.out (hc _ _ (slotCells_at _ S j x hx 0 _ rfl))
      have p1 := cell_keep hB.out (hc _ _ (slotCells_at _ S j x hx 1 _ rfl))
      have p2 := cell_keep hB.out (hc _ _ (slotCells_at _ S j x hx 2 _ rfl))
      have gf := cell_keep hB.out ((hb2.out.cell x.off).trans (fC_get f x hok))
      obtain ⟨r1, r2, r3⟩ := get_range f hF.out hR.out x hok
      obtain ⟨k1, k2⟩ := hok.2
      simp only [Nat.add_zero, ← Nat.add_assoc] at p0 p1 p2
      have htk : Hid (partL f S (j + 1) = partL f S j ++ [.int .u64 (f.get x.off), .int .i64 x.k]) := partL_snoc f S j x hx
      have hsk : Hid (sumK (S.take (j + 1)) = sm + x.k) := by
        rw [List.take_add_one, hx, ← hSm.out]
        exact sumK_snoc _ _
      clear hc hx hok
      have hlt : w.heap.size < wr.heap.size := by omega
      have hlt1 : w.heap.size < wr.heap.size + 1 := by omega
      obtain ⟨o, i, k⟩ := x
      have hi1 : i = true → f.get o ≤ 9223372036854775807 := r3
      clear r3
      cases i with
      | true =>
        have r3 := hi1 rfl
        simp only [Slot.kd, if_true] at p0 p1 p2 gf r1 r2 k1 k2 hsk htk
        generalize f.get o = N at *
        go_wp2_with (at_builtin; go_must (refine wpList_app (w0 := W2) W2.heap.size rfl _ _ 96 rfl 95 (.agg #[.int .u64 0, .int .i64 0]) 2 16 Try.underlying96 info_num rfl (by decide) (by decide) _ (2 + j) (partL f S j) _ 1 1 [.int .u64 N, .int .i64 k] rfl rfl ?h2 ?h3 ?h4 ?h5 ?h6 ?h7 ?h8))
        case h2 => exact ((hO.out.alloc _).alloc _).alloc _
        case h3 => simpa using Row.new ((wr.alloc _).alloc _) 95 1 2 #[.int .u64 N, .int .i64 k] rfl (by decide)
        case h4 => first | exact ⟨rfl, rfl⟩ | simp [Value.oneCell']
        case h5 => exact ((hB.out.alloc hbs _).alloc (by simp; omega) _).alloc (by simp; omega) _
        case h6 => first | omega | (simp; omega)
        case h7 => omega
        case h8 =>
        intro v' w' hown hBn hgr _
        have q2 : w'.cell? ⟨wr.heap.size, 2, none⟩ = some (.int .i64 k) :=
          hgr.cell (cell_keep ((Below.refl _ _).alloc (Nat.le_refl _) _) (cell_keep ((Below.refl _ _).alloc (Nat.le_refl _) _) ((Blk.new' wr 71 _).cell 2))) (fun e => by have := hO.out.lt _ e.symm; simp at this)
        clear hgr
        obtain ⟨gv, cv, rfl⟩ := own_form hown (by omega)
        have hown := Lib.hid hown
        have hBn := Lib.hid hBn
        go_wp2
        refine ⟨⟨j + 1, by omega, by go_num, ?_, ?_, hBn.out⟩, by simp [intOf]; omega⟩
        · rw [hsk.out]; congr 1; omega
        · rw [htk.out]; exact hown.out
      | false =>
        simp only [Slot.kd, if_false, Bool.false_eq_true] at p0 p1 p2 gf r1 r2 k1 k2 hsk htk
        generalize f.get o = N at *
        go_wp2_with (at_builtin; go_must (refine wpList_app (w0 := W2) W2.heap.size rfl _ _ 96 rfl 95 (.agg #[.int .u64 0, .int .i64 0]) 2 16 Try.underlying96 info_num rfl (by decide) (by decide) _ (2 + j) (partL f S j) _ 1 1 [.int .u64 N, .int .i64 k] rfl rfl ?h2 ?h3 ?h4 ?h5 ?h6 ?h7 ?h8))
        case h2 => exact ((hO.out.alloc _).alloc _).alloc _
        case h3 => simpa using Row.new ((wr.alloc _).alloc _) 95 1 2 #[.int .u64 N, .int .i64 k] rfl (by decide)
        case h4 => first | exact ⟨rfl, rfl⟩ | simp [Value.oneCell']
        case h5 => exact ((hB.out.alloc hbs _).alloc (by simp; omega) _).alloc (by simp; omega) _
        case h6 => first | omega | (simp; omega)
        case h7 => omega
        case h8 =>
        intro v' w' hown hBn hgr _
        have q2 : w'.cell? ⟨wr.heap.size, 2, none⟩ = some (.int .i64 k) :=
          hgr.cell (cell_keep ((Below.refl _ _).alloc (Nat.le_refl _) _) (cell_keep ((Below.refl _ _).alloc (Nat.le_refl _) _) ((Blk.new' wr 71 _).cell 2))) (fun e => by have := hO.out.lt _ e.symm; simp at this)
        clear hgr
        obtain ⟨gv, cv, rfl⟩ := own_form hown (by omega)
        have hown := Lib.hid hown
        have hBn := Lib.hid hBn
        go_wp2
        refine ⟨⟨j + 1, by omega, by go_num, ?_, ?_, hBn.out⟩, by simp [intOf]; omega⟩
        · rw [hsk.out]; congr 1; omega
        · rw [htk.out]; exact hown.out
    · obtain rfl : j = S.length := by omega
      obtain ⟨gv, cv, rfl⟩ := own_form hO.out (by omega)
      have hSm2 : Hid (sumK S = sm) := by have := hSm.out; rw [List.take_length] at this; exact this
      have hcz := hO.out
      have d0 : wr.cell? ⟨gv, 0, none⟩ = some (.int .u64 0) := hcz.cellAt 0 (by omega)
      have d1 : wr.cell? ⟨gv, 1, none⟩ = some (.int .i64 0) := hcz.cellAt 1 (by omega)
      have f0 := hcz.frozenAt 0
      have f1 := hcz.frozenAt 1
      have hpos : 0 < 2 + S.length := by omega
      clear hcz c0
      have hset : Hid (∀ T : Int, ((wr.setCell ⟨gv, 0, none⟩ (.int .u64 T)).setCell ⟨gv, 1, none⟩ (.int .i64 2)).ownsRow W2.heap.size 95 2 (.slice (some ⟨gv, 0, none⟩) (2 + S.length) cv) (2 + S.length) (numCells ((T, 2) :: (f.kind, 1) :: S.map (slotNum f))) ∧
          Below W2.heap.size W2 ((wr.setCell ⟨gv, 0, none⟩ (.int .u64 T)).setCell ⟨gv, 1, none⟩ (.int .i64 2))) := by
        intro T
        have h1 := ((hO.out.stored 0 (.int .u64 T)).1.stored 1 (.int .i64 2)).1
        have e : ((partL f S S.length).set 0 (.int .u64 T)).set 1 (.int .i64 2) = numCells ((T, 2) :: (f.kind, 1) :: S.map (slotNum f)) := by
          unfold partL
          rw [List.take_length]
          simp [numCells]
        rw [e] at h1
        have hg := (hO.out.lt gv (by simp [Value.ownBlock])).1
        exact ⟨h1, (hB.out.setCell hg _).setCell hg _⟩
      have hcall : Hid (∀ T : Int, T = sizeF f → Calls Try.prog 45 #[.slice (some ⟨gv, 0, none⟩) (2 + S.length) cv] ((wr.setCell ⟨gv, 0, none⟩ (.int .u64 T)).setCell ⟨gv, 1, none⟩ (.int .i64 2)) fun e w' =>
          ∃ v, e = .returned (.tuple #[v, .bool true]) ∧ w'.ownsRow w.heap.size 5 1 v (catB (textL f)).length (nums .u8 (catB (textL f))) ∧ Below w.heap.size w w') := by
        intro T hT
        obtain ⟨h1, h2⟩ := hset.out T
        obtain ⟨A', c', he, HRow⟩ := Row.of_own h1
        injection he with e1 e2 e3
        subst e1 e3
        have hl : (T, (2 : Int)) :: (f.kind, 1) :: S.map (slotNum f) = textL f := by rw [hTL.out, hT]
        rw [hl] at HRow
        refine (num_cat_t _ _ _ (textL f) _ HRow hOK.out (by omega)).mono ?_
        rintro e w' ⟨v, rfl, hv, hb⟩
        have hsz := h2.size
        exact ⟨v, rfl, own_lower hv (by omega), below_then (hB2.out.trans (h2.mono (by omega))) (by omega) hb⟩
      clear hset hO hB hB2 hb2 HR
      obtain ⟨tb, htb⟩ : ∃ t, taggedB f.kind = t := ⟨_, rfl⟩
      have HTb := Lib.hid htb
      rw [htb] at hSz ⊢
      clear htb
      cases tb with
      | true =>
        have he : Hid (1 + sm + 32 = sizeF f) := by rw [hSz.out, hSm2.out]; rfl
        go_wp2_with (go_at_call 45; refine (hcall.out _ he.out).mono ?_; rintro e w' ⟨v, rfl, hv, hb⟩; obtain ⟨A', c', rfl, _⟩ := Row.of_own hv; have hv := Lib.hid hv; have hb := Lib.hid hb)
        go_ret2
        refine ⟨_, ?_, hv.out, hb.out⟩
        rw [HTb.out]
        rfl
      | false =>
        have he : Hid (1 + sm = sizeF f) := by
          have : 1 + sm = sizeF f := by rw [hSz.out, hSm2.out]; simp
          exact this
        go_wp2_with (go_at_call 45; refine (hcall.out _ he.out).mono ?_; rintro e w' ⟨v, rfl, hv, hb⟩; obtain ⟨A', c', rfl, _⟩ := Row.of_own hv; have hv := Lib.hid hv; have hb := Lib.hid hb)
        go_ret2
        refine ⟨_, ?_, hv.out, hb.out⟩
        rw [HTb.out]
        rfl
end Go.Proofs.Ytfdlfkdefbfhfaa
