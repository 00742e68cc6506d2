import Derived.Test.YtfdlfkdefbfhfaaFrm
set_option linter.unusedVariables false
set_option linter.unusedSimpArgs false
namespace Go.Proofs.Ytfdlfkdefbfhfaa
open Go.RowKit

/-- slots, said for a caller: a row that is read, in a block of its own. -/
theorem frame_slots_row (g : Nat) (kind : Int) (w : World) (hk : w.cell? ⟨g, 0, none⟩ = some (.int .i64 kind)) : Calls Try.prog 24 #[.pointer (some ⟨g, 0, none⟩)] w fun e w' =>
    ∃ A c, e = .returned (.tuple #[.slice A (slotsOf kind).length c, .bool (taggedB kind)]) ∧ Row w' A (slotsOf kind).length c 3 (slotCells g (slotsOf kind)) ∧ (∀ b off, A = some ⟨b, off, none⟩ → w.heap.size ≤ b) ∧ Below w.heap.size w w' := by
  refine (frame_slots g kind w hk).mono ?_
  rintro e w' ⟨A, c, rfl, ho, hb⟩
  obtain ⟨A', c', he, HR⟩ := Row.of_own ho
  injection he with he1 he2 he3
  subst he1; subst he3
  exact ⟨A, c, rfl, HR, fun b off e => own_base ho b (by rw [e]; rfl), hb⟩
theorem grown_drew_eq (w : World) : w.grownBy w.drew none := ⟨rfl, rfl, rfl, Nat.le_refl _, fun _ _ _ => rfl⟩

set_option maxRecDepth 100000 in
set_option maxHeartbeats 1000000 in
theorem frame_bare (f : Frm) (w : World) (hf : FrmOk f) : Calls Try.prog 44 #[.agg (fC f).toArray] w fun e w' => e = .returned (.agg (fC (bareF f)).toArray) ∧ Below w.heap.size w w' := by
  have h0 : (fC f)[0]? = some (.int .i64 f.kind) := rfl
  have hl0 := fC_len (kindF 0) rfl
  have hlk := fC_len (kindF f.kind) rfl
  have h1k := fC_one (kindF f.kind)
  have HL := Lib.hid hl0; have HLK := Lib.hid hlk; clear hl0 hlk
  go_enter Try.func44, Try.ntmps44
  go_wp2_with (refine wpList_boxS (w0 := w) w.heap.size rfl 36 _ rfl (fC f) rfl (Below.refl _ _) (Nat.le_refl _) ?h1)
  case h1 =>
  intro W1 b1 k1 B1 s1
  go_wp2_with (refine wpList_allocS (w0 := w) w.heap.size rfl 36 rfl (fC (kindF 0)) _ zero_frame rfl B1 (by omega) ?h2)
  case h2 =>
  intro W2 b2 k2 B2 s2
  try simp only [s1, Nat.add_assoc, Nat.reduceAdd] at b2 s2
  have b1' := b1.grown k2 (by simp)
  have c1 := b1'.cell 0
  rw [h0] at c1
  have D1 := Lib.hid b1'; have D2 := Lib.hid b2; have DB2 := Lib.hid B2
  clear b1 k1 B1 k2 b1' b2 B2
  go_wp2_with (first | (refine wpList_buildR rfl 36 _ rfl [(0, .int .i64 f.kind)] rfl _ (build_frame f.kind) ?_) | (refine wpList_allocS (w0 := w) w.heap.size rfl 36 rfl (fC (kindF 0)) _ zero_frame rfl DB2.out (by have := DB2.out.size; omega) ?h3))
  case h3 =>
  intro W3 b3 k3 B3 s3
  try simp only [s2, Nat.add_assoc, Nat.reduceAdd] at b3 s3
  go_wp2_with (refine wpList_storeW (w0 := w) w.heap.size rfl 36 _ _ rfl _ 0 rfl (fC (kindF f.kind)) rfl (by rw [HLK.out]; exact size_frame) h1k 36 (fC (kindF 0)) b3 (by rw [HL.out, HLK.out]; decide) B3 (by omega) (fC (kindF f.kind)) (by simp [HL.out, HLK.out]) ?h4)
  case h4 =>
  intro W4 b4 k4 B4 s4
  try simp only [s3, Nat.add_assoc, Nat.reduceAdd] at b4 s4
  have D1 := (D1.out.grown k3 (by simp)).grown k4 (by simp)
  have D2 := (D2.out.grown k3 (by simp)).grown k4 (by simp)
  have c1 := D1.cell 0
  rw [h0] at c1
  clear b3 k3 B3 s3 k4
  have c1 := Lib.hid c1
  have D1 := Lib.hid D1; have D2 := Lib.hid D2; have D3 := Lib.hid b4; have DB := Lib.hid B4
  clear b4 B4
  go_wp2_with fail
  refine (frame_slots_row _ f.kind _ c1.out).mono ?_
  rintro e W5 ⟨A, c, rfl, HR, hA, B5⟩
  have s5 := B5.size
  rw [s4] at s5 hA
  have c3 := (D3.out.belowS B5).cell 0
  have h0k : (fC (kindF f.kind))[0]? = some (.int .i64 f.kind) := rfl
  rw [h0k] at c3
  have D1 := Lib.hid (D1.out.belowS B5); have D2 := Lib.hid (D2.out.belowS B5); have D3 := Lib.hid (D3.out.belowS B5); have DB := Lib.hid (below_then DB.out (by omega) B5)
  have HR := Lib.hid HR; have c3 := Lib.hid c3; have hA := Lib.hid hA
  clear c1 B5 h0k
  go_wp2_with fail
  refine (frame_slots_row _ f.kind _ c3.out).mono ?_
  rintro e W6 ⟨A', c', rfl, HR', hA', B6⟩
  have D1 := Lib.hid (D1.out.belowS B6); have D2 := Lib.hid (D2.out.belowS B6); have D3 := Lib.hid (D3.out.belowS B6); have DB := Lib.hid (below_then DB.out (by omega) B6)
  have HR := Lib.hid (HR.out.below B6); have HR' := Lib.hid HR'
  have s6 : w.heap.size + 3 ≤ W6.heap.size := by have := B6.size; omega
  have hA' : Hid (∀ b off, A' = some ⟨b, off, none⟩ → w.heap.size + 3 ≤ b) := fun b off e => by have := hA' b off e; omega
  clear B6 c3 s5
  have hG : Hid (Blk W6 (w.heap.size + 2) 36 (fC (copyL f ((slotsOf f.kind).take 0) (kindF f.kind)))) := D3.out
  have hN := slotsOf_len f.kind
  have hS := Lib.hid (slotsOf_ok f.kind)
  have hA : Hid (∀ b off, A = some ⟨b, off, none⟩ → w.heap.size + 3 ≤ b) := hA.out
  clear h0 h1k HL HLK D3
  generalize hSd : slotsOf f.kind = S at *
  have HSd := Lib.hid hSd
  clear hSd
  go_wp2
  go_loopw [23] (fun i wr => ∃ j : Nat, j ≤ S.length ∧ i = .int .i64 j ∧ Blk wr (w.heap.size + 2) 36 (fC (copyL f (S.take j) (kindF f.kind))) ∧ W6.grownBy wr (some (w.heap.size + 2)) ∧ Below w.heap.size w wr) (fun i _ => S.length - (intOf i).toNat)
  case atStart => exact ⟨0, Nat.zero_le _, rfl, hG.out, grown_refl _ _, DB.out⟩
  case round =>
    obtain ⟨j, hj, rfl, HB3, HG, HB⟩ := hrel
    by_cases hjn : j < S.length
    · obtain ⟨x, hx⟩ : ∃ x, S[j]? = some x := ⟨_, List.getElem?_eq_getElem hjn⟩
      have hok := hS.out x (List.mem_of_getElem? hx)
      obtain ⟨b', off', rfl, hc'⟩ := HR'.out.cell (by omega)
      obtain ⟨b, off, rfl, hc⟩ := HR.out.cell (by omega)
      have hb' := hA'.out b' off' rfl
      have q0 := HG.cell (hc' _ _ (slotCells_at _ S j x hx 0 _ rfl)) (by simp; omega)
      have q1 := HG.cell (hc' _ _ (slotCells_at _ S j x hx 1 _ rfl)) (by simp; omega)
      have q2 := HG.cell (hc' _ _ (slotCells_at _ S j x hx 2 _ rfl)) (by simp; omega)
      have hb := hA.out b off rfl
      have p0 := HG.cell (hc _ _ (slotCells_at _ S j x hx 0 _ rfl)) (by simp; omega)
      have p1 := HG.cell (hc _ _ (slotCells_at _ S j x hx 1 _ rfl)) (by simp; omega)
      have gf := HG.cell ((D1.out.cell x.off).trans (fC_get f x hok)) (by simp)
      have of := (HB3.cell x.off).trans (fC_get _ x hok)
      have ff := HB3.frozen x.off
      have hset := Lib.hid (fC_set (copyL f (S.take j) (kindF f.kind)) x (f.get x.off) hok)
      have htk : Hid (copyL f (S.take (j + 1)) (kindF f.kind) = (copyL f (S.take j) (kindF f.kind)).set x.off (f.get x.off)) := by
        rw [List.take_add_one, hx]; exact copyL_snoc _ _ _ _
      simp only [Nat.add_zero, ← Nat.add_assoc] at q0 q1 q2 p0 p1
      have hB3 := Lib.hid HB3; have hG := Lib.hid HG; have hB := Lib.hid HB
      clear HB3 HG HB hc hc' hx hok
      have hlt := hB.out.size
      obtain ⟨o, i, k⟩ := x
      cases i with
      | true =>
        simp only [Slot.kd, if_true] at q0 q1 q2 p0 p1 gf of hset
        go_wp2_with fail
        obtain ⟨V, hV⟩ : ∃ V, wr.alloc (.cells #[.pointer (some ⟨w.heap.size + 2, o, none⟩), .pointer none, .int .i64 k] 71) = V := ⟨_, rfl⟩
        have hBV : Below wr.heap.size wr V := hV ▸ (Below.refl _ _).alloc (Nat.le_refl _) _
        have n0 : V.cell? ⟨wr.heap.size, 0, none⟩ = some (.pointer (some ⟨w.heap.size + 2, o, none⟩)) := by rw [← hV]; exact (Blk.new' wr 71 _).cell 0
        have p0 := cell_keep hBV p0
        have gf := cell_keep hBV gf
        have of := cell_keep hBV of
        have ff : V.frozen? ⟨w.heap.size + 2, o, none⟩ = false := (hB3.out.belowS hBV).frozen o
        have hBV := Lib.hid hBV
        rw [hV]
        clear hV p1 q0 q1 q2
        go_still_tail 10, (by kernel_rfl)
        change wpList _ _ _ _ _ V.drew
        have of : V.drew.cell? ⟨w.heap.size + 2, o, none⟩ = _ := of
        have ff : V.drew.frozen? ⟨w.heap.size + 2, o, none⟩ = _ := ff
        have hBV : Hid (Below wr.heap.size wr V.drew) := hBV.out.drew
        generalize V.drew = V at *
        go_wp2
        refine ⟨⟨j + 1, by omega, by go_num, ?_, ?_, ?_⟩, by simp [intOf]; omega⟩
        · rw [htk.out, ← hset.out]
          exact (hB3.out.belowS hBV.out).setCell o _
        · exact grown_trans hG.out (grown_trans (grown_of_below hBV.out _) grown_setCell)
        · exact (below_then hB.out hlt hBV.out).setCell (by simp) _
      | false =>
        simp only [Slot.kd, if_false, Bool.false_eq_true] at q0 q1 q2 p0 p1 gf of hset
        go_wp2_with fail
        obtain ⟨V, hV⟩ : ∃ V, wr.alloc (.cells #[.pointer none, .pointer (some ⟨w.heap.size + 2, o, none⟩), .int .i64 k] 71) = V := ⟨_, rfl⟩
        have hBV : Below wr.heap.size wr V := hV ▸ (Below.refl _ _).alloc (Nat.le_refl _) _
        have n0 : V.cell? ⟨wr.heap.size, 1, none⟩ = some (.pointer (some ⟨w.heap.size + 2, o, none⟩)) := by rw [← hV]; exact (Blk.new' wr 71 _).cell 1
        have p0 := cell_keep hBV p1
        have gf := cell_keep hBV gf
        have of := cell_keep hBV of
        have ff : V.frozen? ⟨w.heap.size + 2, o, none⟩ = false := (hB3.out.belowS hBV).frozen o
        have hBV := Lib.hid hBV
        rw [hV]
        clear hV p1 q0 q1 q2
        go_still_tail 10, (by kernel_rfl)
        change wpList _ _ _ _ _ V.drew
        have of : V.drew.cell? ⟨w.heap.size + 2, o, none⟩ = _ := of
        have ff : V.drew.frozen? ⟨w.heap.size + 2, o, none⟩ = _ := ff
        have hBV : Hid (Below wr.heap.size wr V.drew) := hBV.out.drew
        generalize V.drew = V at *
        go_wp2
        refine ⟨⟨j + 1, by omega, by go_num, ?_, ?_, ?_⟩, by simp [intOf]; omega⟩
        · rw [htk.out, ← hset.out]
          exact (hB3.out.belowS hBV.out).setCell o _
        · exact grown_trans hG.out (grown_trans (grown_of_below hBV.out _) grown_setCell)
        · exact (below_then hB.out hlt hBV.out).setCell (by simp) _
    · obtain rfl : j = S.length := by omega
      rw [List.take_length] at HB3
      have E1 := D1.out.grown HG (by simp)
      have E2 := D2.out.grown HG (by simp)
      have hB := Lib.hid HB
      have hB3 := Lib.hid HB3
      have hE1 := Lib.hid E1
      have hE2 := Lib.hid E2
      obtain ⟨kk, kt⟩ := copyL_kind f S (kindF f.kind)
      have ht0 : Hid ((copyL f S (kindF f.kind)).tag.length = 32) := by
        have : (copyL f S (kindF f.kind)).tag.length = 32 := by rw [kt]; rfl
        exact this
      have htf := Lib.hid hf.1
      have hlen0 := Lib.hid (fC_len _ ht0.out)
      have hz0 := Lib.hid (fC_len (kindF 0) rfl)
      have hbf : Hid (bareF f = if taggedB f.kind then { copyL f S (kindF f.kind) with tag := f.tag } else copyL f S (kindF f.kind)) := by
        have : bareF f = if taggedB f.kind then { copyL f S (kindF f.kind) with tag := f.tag } else copyL f S (kindF f.kind) := by
          simp only [bareF, HSd.out]
        exact this
      have hb0 := HB.size
      have n32 : Hid ((nums .u8 f.tag).length = 32) := (nums_len _ _).trans hf.1
      clear HB HB3 HG E1 E2 D1 D2 kk kt HR HR' hf hG DB hA hA' hS
      obtain ⟨tb, htb⟩ : ∃ t, taggedB f.kind = t := ⟨_, rfl⟩
      rw [htb] at hbf ⊢
      clear htb
      generalize copyL f S (kindF f.kind) = r at *
      cases tb with
      | true =>
        go_wp2_with (first | (refine wpList_loadS rfl 34 _ rfl w.heap.size 8 rfl _ Try.underlying34 rfl (nums .u8 f.tag) (by rw [n32.out]; exact size_id) (fun j u hu => by rw [hE1.out.cell]; exact fC_tag f j u hu) ?_) |
          (refine wpList_storeW (w0 := w) w.heap.size rfl 34 _ _ rfl (w.heap.size + 2) 8 rfl (nums .u8 f.tag) rfl (by rw [n32.out]; exact size_id) (nums_one _ _) 36 (fC r) hB3.out (by rw [n32.out, hlen0.out]; decide) hB.out (by omega) (fC { r with tag := f.tag }) (fC_setTag r f.tag ht0.out htf.out) ?h5))
        case h5 =>
        intro V c3 kV BV sV
        have hE2 := Lib.hid (hE2.out.grown kV (by simp))
        have hc3 := Lib.hid c3
        have hl3 := Lib.hid (fC_len { r with tag := f.tag } htf.out)
        have hBV := Lib.hid BV
        go_wp2_with (first | (refine wpList_loadS rfl 36 _ rfl (w.heap.size + 2) 0 rfl _ Try.underlying36 rfl (fC ({ r with tag := f.tag } : Frm)) (by rw [hl3.out]; exact size_frame) (fun j u hu => by rw [Nat.zero_add, hc3.out.cell]; exact hu) ?_) |
          (refine wpList_storeW (w0 := w) w.heap.size rfl 36 _ _ rfl (w.heap.size + 1) 0 rfl (fC ({ r with tag := f.tag } : Frm)) rfl (by rw [hl3.out]; exact size_frame) (fC_one _) 36 (fC (kindF 0)) hE2.out (by rw [hl3.out, hz0.out]; decide) hBV.out (by omega) (fC ({ r with tag := f.tag } : Frm)) (by simp [hl3.out, hz0.out]) ?h6))
        case h6 =>
        intro X cX kX BX sX
        go_wp2
        refine bodyPost_ret (results_cell_row (cs := (fC ({ r with tag := f.tag } : Frm)).toArray) (t := 36) (fr := (0, 0)) rfl _ _ (w.heap.size + 1) (d := _) rfl cX Try.underlying36 rfl (by rw [List.size_toArray, hl3.out]; exact size_frame)) rfl ⟨?_, BX⟩
        rw [hbf.out]
        rfl
      | false =>
        have hc3 := hB3
        have hl3 := hlen0
        have hBV := hB
        go_wp2_with (first | (refine wpList_loadS rfl 36 _ rfl (w.heap.size + 2) 0 rfl _ Try.underlying36 rfl (fC r) (by rw [hl3.out]; exact size_frame) (fun j u hu => by rw [Nat.zero_add, hc3.out.cell]; exact hu) ?_) |
          (refine wpList_storeW (w0 := w) w.heap.size rfl 36 _ _ rfl (w.heap.size + 1) 0 rfl (fC r) rfl (by rw [hl3.out]; exact size_frame) (fC_one _) 36 (fC (kindF 0)) hE2.out (by rw [hl3.out, hz0.out]; decide) hBV.out (by omega) (fC r) (by simp [hl3.out, hz0.out]) ?h7))
        case h7 =>
        intro X cX kX BX sX
        go_wp2
        refine bodyPost_ret (results_cell_row (cs := (fC r).toArray) (t := 36) (fr := (0, 0)) rfl _ _ (w.heap.size + 1) (d := _) rfl cX Try.underlying36 rfl (by rw [List.size_toArray, hl3.out]; exact size_frame)) rfl ⟨?_, BX⟩
        rw [hbf.out]
        rfl
end Go.Proofs.Ytfdlfkdefbfhfaa
