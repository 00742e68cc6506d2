import Derived.Test.YtfdlfkdefbfhfaaRd
import Derived.Deep.QuietTactic
import Derived.BigQuiet
set_option linter.unusedVariables false
set_option linter.unusedSimpArgs false
namespace Go.Proofs.Ytfdlfkdefbfhfaa
open Go.RowKit

/-- What frame.Read's result is, said once. -/
def ReadPost (l : List Int) (w : World) (e : Ending) (w' : World) : Prop := e = .returned (.tuple #[.agg (fC (readF l).1).toArray, .int .i64 (readF l).2]) ∧ Below w.heap.size w w'

theorem frame_put_t (f : Frm) (w : World) (hf : FrmWf f) (hp : plainB f = true) : Calls Try.prog 18 #[.agg (fC f).toArray] w fun e w' =>
    ∃ A c, e = .returned (.tuple #[.slice A (putF f).length c, .bool true]) ∧ Row w' A (putF f).length c 1 (nums .u8 (putF f)) ∧ Below w.heap.size w w' := by
  refine (frame_put f w hf).mono ?_
  rintro e w' ⟨h, _, hb⟩
  obtain ⟨v, rfl, hv⟩ := h hp
  obtain ⟨A, c, rfl, hr⟩ := Row.of_own hv
  exact ⟨A, c, rfl, hr, hb⟩
theorem frame_put_f (f : Frm) (w : World) (hf : FrmWf f) (hp : plainB f = false) : Calls Try.prog 18 #[.agg (fC f).toArray] w fun e w' =>
    e = .returned (.tuple #[.slice none 0 0, .bool false]) ∧ Below w.heap.size w w' := (frame_put f w hf).mono fun _ _ h => ⟨h.2.1 hp, h.2.2⟩

set_option maxRecDepth 100000 in
set_option maxHeartbeats 2000000 in
theorem frame_read (A : Option Addr) (n cap : Nat) (l : List Int) (w : World) (H : Row w A n cap 1 (nums .u8 l)) (hb : IsBytes l) :
    Calls Try.prog 12 #[.slice A n cap] w (ReadPost l w) := by
  have hl := H.nums_at
  have hn := H.le
  have hcap := H.capLe
  have HL0 := Lib.hid (fC_len (kindF 0) rfl)
  by_cases h64 : n > 64
  · have hR : Hid (readF l = (kindF 0, 2)) := by
      have : readF l = (kindF 0, 2) := by unfold readF; rw [if_pos (by omega)]
      exact this
    go_enter Try.func12, Try.ntmps12
    go_wp2_with (refine wpList_allocS (w0 := w) w.heap.size rfl 36 rfl (fC (kindF 0)) _ zero_frame rfl (Below.refl _ _) (Nat.le_refl _) ?h1)
    case h1 =>
    intro W1 b1 k1 B1 s1
    have hb1 := Lib.hid b1; have hB1 := Lib.hid B1
    clear b1 k1 B1
    go_wp2_with ((
      first | (refine wpList_buildR rfl 36 _ rfl [] rfl _ (build_frame0) ?_) |
          (refine wpList_storeW (w0 := w) w.heap.size rfl 36 _ _ rfl w.heap.size 0 rfl (fC (kindF 0)) rfl (by rw [HL0.out]; exact size_frame) (fC_one _) 36 (fC (kindF 0)) hb1.out (by rw [HL0.out]; decide) hB1.out (Nat.le_refl _) (fC (kindF 0)) (by simp [HL0.out]) ?h4)))
    (
      case h4 =>
      intro WX cX kX BX sX
      go_wp2
      refine bodyPost_ret (results_cell_tmp rfl _ _ w.heap.size 36 (fC (kindF 0)) _ rfl cX Try.underlying36 rfl (by rw [HL0.out]; exact size_frame)) rfl ⟨?_, BX⟩
      rw [hR.out]
      rfl)
  have hlong := Lib.hid (fun W HB => frame_long A n cap l W (H.below HB) hb)
  by_cases hm1 : longL l = -1
  · have hR : Hid (readF l = (kindF 0, 4)) := by
      have : readF l = (kindF 0, 4) := by unfold readF; rw [if_neg (by omega), if_pos hm1]
      exact this
    rw [hm1] at hlong
    go_enter Try.func12, Try.ntmps12
    go_wp2_with (refine wpList_allocS (w0 := w) w.heap.size rfl 36 rfl (fC (kindF 0)) _ zero_frame rfl (Below.refl _ _) (Nat.le_refl _) ?h1)
    case h1 =>
    intro W1 b1 k1 B1 s1
    have hb1 := Lib.hid b1; have hB1 := Lib.hid B1
    clear b1 k1 B1
    go_wp2_with (first | (go_at_call 23; refine (hlong.out _ (hB1.out)).mono ?_; rintro e W2 ⟨rfl, rfl⟩) | (
      first | (refine wpList_buildR rfl 36 _ rfl [] rfl _ (build_frame0) ?_) |
          (refine wpList_storeW (w0 := w) w.heap.size rfl 36 _ _ rfl w.heap.size 0 rfl (fC (kindF 0)) rfl (by rw [HL0.out]; exact size_frame) (fC_one _) 36 (fC (kindF 0)) hb1.out (by rw [HL0.out]; decide) hB1.out (Nat.le_refl _) (fC (kindF 0)) (by simp [HL0.out]) ?h4)))
    (
      case h4 =>
      intro WX cX kX BX sX
      go_wp2
      refine bodyPost_ret (results_cell_tmp rfl _ _ w.heap.size 36 (fC (kindF 0)) _ rfl cX Try.underlying36 rfl (by rw [HL0.out]; exact size_frame)) rfl ⟨?_, BX⟩
      rw [hR.out]
      rfl)
  have hlo : 2 ≤ longL l := by
    have := be_take2 l hb
    revert hm1
    unfold longL
    split
    · intro h; exact absurd rfl h
    · split
      · intro h; exact absurd rfl h
      · intro _; omega
  by_cases hln : longL l ≠ n ∨ n = 2
  · have hR : Hid (readF l = (kindF 0, 3)) := by
      have : readF l = (kindF 0, 3) := by
        unfold readF; rw [if_neg (by omega), if_neg hm1, if_pos]
        omega
      exact this
    rcases Int.lt_trichotomy (longL l) n with hx | hx | hx
    all_goals (
      generalize longL l = N at *
      go_enter Try.func12, Try.ntmps12
      go_wp2_with (refine wpList_allocS (w0 := w) w.heap.size rfl 36 rfl (fC (kindF 0)) _ zero_frame rfl (Below.refl _ _) (Nat.le_refl _) ?h1)
      case h1 =>
      intro W1 b1 k1 B1 s1
      have hb1 := Lib.hid b1; have hB1 := Lib.hid B1
      clear b1 k1 B1
      go_wp2_with (first | (go_at_call 23; refine (hlong.out _ (hB1.out)).mono ?_; rintro e W2 ⟨rfl, rfl⟩) | (
        first | (refine wpList_buildR rfl 36 _ rfl [] rfl _ (build_frame0) ?_) |
            (refine wpList_storeW (w0 := w) w.heap.size rfl 36 _ _ rfl w.heap.size 0 rfl (fC (kindF 0)) rfl (by rw [HL0.out]; exact size_frame) (fC_one _) 36 (fC (kindF 0)) hb1.out (by rw [HL0.out]; decide) hB1.out (Nat.le_refl _) (fC (kindF 0)) (by simp [HL0.out]) ?h4)))
      (
        case h4 =>
        intro WX cX kX BX sX
        go_wp2
        refine bodyPost_ret (results_cell_tmp rfl _ _ w.heap.size 36 (fC (kindF 0)) _ rfl cX Try.underlying36 rfl (by rw [HL0.out]; exact size_frame)) rfl ⟨?_, BX⟩
        rw [hR.out]
        rfl))
  obtain ⟨hln, hn2⟩ : longL l = n ∧ 3 ≤ n := by omega
  rw [hln] at hlong
  have hR : Hid (readF l = readBody l (readS l (slotsOf (nth l 2)) (kindF (nth l 2)) 3)) := by
    have : readF l = readBody l (readS l (slotsOf (nth l 2)) (kindF (nth l 2)) 3) := by
      unfold readF; rw [if_neg (by omega), if_neg hm1, if_neg (by omega)]
    exact this
  have hget := Lib.hid (fun (p k : Int) W HB => num_get_t A n cap l p k W (H.below HB) hb)
  have hgno := Lib.hid (fun (p k : Int) W => num_get_no A n cap p k W H.le H.capLe)
  have hrow := Lib.hid H
  have hbyte := hb.at_ 2
  obtain ⟨b, off, rfl, hc⟩ := H.ints (by omega)
  have hc2 := hc 2 (by omega)
  have hB := Lib.hid hb
  have hL := Lib.hid hl
  clear hc hm1 hlo hln hb hl H
  generalize hkd : nth l 2 = kd at *
  clear hkd
  have hlk := Lib.hid (fC_len (kindF kd) rfl)
  have h1k := Lib.hid (fC_one (kindF kd))
  go_enter Try.func12, Try.ntmps12
  go_wp2_with (refine wpList_allocS (w0 := w) w.heap.size rfl 36 rfl (fC (kindF 0)) _ zero_frame rfl (Below.refl _ _) (Nat.le_refl _) ?h1)
  case h1 =>
  intro W1 b1 k1 B1 s1
  have hc2 := cell_keep B1 hc2
  have hb1 := Lib.hid b1; have hB1 := Lib.hid B1
  clear b1 k1 B1
  go_wp2_with (first | (go_at_call 23; refine (hlong.out _ (hB1.out)).mono ?_; rintro e W2 ⟨rfl, rfl⟩) | (refine wpList_buildR rfl 36 _ rfl [(0, .int .i64 kd)] rfl _ (build_frame kd) ?_) |
    (refine wpList_allocS (w0 := w) w.heap.size rfl 36 rfl (fC (kindF 0)) _ zero_frame rfl hB1.out (by have := hB1.out.size; omega) ?h2))
  case h2 =>
  intro W2 b2 k2 B2 s2
  have hb1 := Lib.hid (hb1.out.grown k2 (by simp))
  try simp only [s1, Nat.add_assoc, Nat.reduceAdd] at b2 s2
  go_wp2_with (refine wpList_storeW (w0 := w) w.heap.size rfl 36 _ _ rfl _ 0 rfl (fC (kindF kd)) rfl (by rw [hlk.out]; exact size_frame) h1k.out 36 (fC (kindF 0)) b2 (by rw [HL0.out, hlk.out]; decide) B2 (by omega) (fC (kindF kd)) (by simp [HL0.out, hlk.out]) ?h3)
  case h3 =>
  intro W3 b3 k3 B3 s3
  try simp only [s2] at s3
  have hb1 := Lib.hid (hb1.out.grown k3 (by simp))
  have c0 : W3.cell? ⟨w.heap.size + 1, 0, none⟩ = some (.int .i64 kd) := b3.cell 0
  have hb3 := Lib.hid b3; have hB3 := Lib.hid B3
  clear b2 k2 B2 b3 k3 B3 hc2 h1k hlong hlk hB1
  go_wp2_with fail
  refine (frame_slots_row _ kd _ c0).mono ?_
  rintro e W4 ⟨A, c, rfl, HR', hA', B4⟩
  have s4 := B4.size
  have hb1 := Lib.hid (hb1.out.belowS B4); have hb3 := Lib.hid (hb3.out.belowS B4); have hB4 := Lib.hid (below_then hB3.out (by omega) B4)
  have HR := Lib.hid HR'; have hA : Hid (∀ b off, A = some ⟨b, off, none⟩ → w.heap.size + 2 ≤ b) := fun b off e => by have := hA' b off e; omega
  clear B4 hB3 c0 HR' hA'
  have hN := slotsOf_len kd
  have hS := Lib.hid (slotsOf_ok kd)
  have hS4 := Lib.hid (slotsOf_small kd)
  generalize hSd : slotsOf kd = S at *
  clear hSd
  obtain ⟨R, hRR⟩ : ∃ R, readS l S (kindF kd) 3 = R := ⟨_, rfl⟩
  rw [hRR] at hR
  go_wp2
  go_loopw [8, 44] (fun p i wr => ∃ (j : Nat) (F : Frm) (q : Int), j ≤ S.length ∧ i = .int .i64 j ∧ p = .int .i64 q ∧ 3 ≤ q ∧ q ≤ n ∧ readS l (S.drop j) F q = R ∧ FrmWf F ∧ F.kind = kd ∧ F.tag = zeroTag ∧ Blk wr (w.heap.size + 1) 36 (fC F) ∧ W4.grownBy wr (some (w.heap.size + 1)) ∧ Below w.heap.size w wr) (fun _ i _ => S.length - (intOf i).toNat)
  case atStart => exact ⟨0, kindF kd, 3, Nat.zero_le _, rfl, rfl, by omega, by omega, hRR, kindF_wf kd, rfl, rfl, hb3.out, grown_refl _ _, hB4.out⟩
  case round =>
    obtain ⟨j, F, q, hj, rfl, rfl, hq3, hqn, hRS, hF, hFk, hFt, HBk, HG, HB⟩ := hrel
    have hGG := Lib.hid HG; have hB5 := Lib.hid HB; have hBk := Lib.hid HBk; have hF := Lib.hid hF; have hFk := Lib.hid hFk; have hFt := Lib.hid hFt
    have hE1 := Lib.hid (hb1.out.grown HG (by simp))
    have hlt := HB.size
    have hlt1 : w.heap.size + 1 < wr.heap.size := HBk.lt
    by_cases hjn : j < S.length
    · obtain ⟨x, hx⟩ : ∃ x, S[j]? = some x := ⟨_, List.getElem?_eq_getElem hjn⟩
      have hmem := List.mem_of_getElem? hx
      have hok := hS.out x hmem
      have h4 : x.isInt = true → x.k ≤ 4 := hS4.out x hmem
      obtain ⟨b', off', rfl, hc'⟩ := HR.out.cell (by omega)
      have hb' := hA.out b' off' rfl
      have p0 := HG.cell (hc' _ _ (slotCells_at _ S j x hx 0 _ rfl)) (by simp; omega)
      have p1 := HG.cell (hc' _ _ (slotCells_at _ S j x hx 1 _ rfl)) (by simp; omega)
      have p2 := HG.cell (hc' _ _ (slotCells_at _ S j x hx 2 _ rfl)) (by simp; omega)
      have of := (HBk.cell x.off).trans (fC_get _ x hok)
      have ff := HBk.frozen x.off
      have hset := Lib.hid (fun v => fC_set F x v hok)
      have hst : Hid (R = if (l.length : Int) - q < x.k then none else readS l (S.drop (j + 1)) (F.set x.off (getAt l q x.k)) (q + x.k)) := by
        have e : S.drop j = x :: S.drop (j + 1) := by
          rw [List.drop_eq_getElem_cons hjn]
          congr 1
          rw [List.getElem?_eq_getElem hjn] at hx
          exact Option.some.inj hx
        have : R = if (l.length : Int) - q < x.k then none else readS l (S.drop (j + 1)) (F.set x.off (getAt l q x.k)) (q + x.k) := by
          rw [← hRS, e]; rfl
        exact this
      simp only [Nat.add_zero, ← Nat.add_assoc] at p0 p1 p2
      obtain ⟨k1, k2⟩ := hok.2
      clear HBk HG HB hc' hx hok hmem hRS
      obtain ⟨o, i, k⟩ := x
      simp only at k1 k2 h4 hst
      cases i with
      | true =>
        simp only [Slot.kd, if_true] at p0 p1 p2 of hset
        by_cases hk : (n : Int) - q < k
        · have hRn : Hid (readF l = (kindF 0, 3)) := by
            have e : R = none := by rw [hst.out, if_pos (by rw [hL.out]; exact hk)]
            have : readF l = (kindF 0, 3) := by rw [hR.out, e]; rfl
            exact this
          have hR := hRn
          have hB1 := hB5
          have hcall := Lib.hid (fun W => hgno.out q k W k1 k2 (by omega) (by omega) (by omega))
          have hb1 : Hid (Blk (wr.alloc (.cells #[.pointer (some ⟨w.heap.size + 1, o, none⟩), .pointer none, .int .i64 k] 71)) w.heap.size 36 (fC (kindF 0))) := hE1.out.alloc _
          have hB1 : Hid (Below w.heap.size w (wr.alloc (.cells #[.pointer (some ⟨w.heap.size + 1, o, none⟩), .pointer none, .int .i64 k] 71))) := hB5.out.alloc hlt _
          go_wp2_with (first | (go_at_call 25; refine (hcall.out _).mono ?_; rintro e W2 ⟨rfl, rfl⟩) | (
            first | (refine wpList_buildR rfl 36 _ rfl [] rfl _ (build_frame0) ?_) |
                (refine wpList_storeW (w0 := w) w.heap.size rfl 36 _ _ rfl w.heap.size 0 rfl (fC (kindF 0)) rfl (by rw [HL0.out]; exact size_frame) (fC_one _) 36 (fC (kindF 0)) hb1.out (by rw [HL0.out]; decide) hB1.out (Nat.le_refl _) (fC (kindF 0)) (by simp [HL0.out]) ?h4)))
          (
            case h4 =>
            intro WX cX kX BX sX
            go_wp2
            refine bodyPost_ret (results_cell_tmp rfl _ _ w.heap.size 36 (fC (kindF 0)) _ rfl cX Try.underlying36 rfl (by rw [HL0.out]; exact size_frame)) rfl ⟨?_, BX⟩
            rw [hR.out]
            rfl)
        · have hst2 := hst.out
          rw [if_neg (by rw [hL.out]; exact hk)] at hst2
          have hst := Lib.hid hst2
          clear hst2
          have hcall := Lib.hid (hget.out q k (wr.alloc (.cells #[.pointer (some ⟨w.heap.size + 1, o, none⟩), .pointer none, .int .i64 k] 71)) (hB5.out.alloc hlt _) k1 k2 (by omega) (by omega))
          have hgr := getAt_range l hB.out q k (by omega) (by omega)
          obtain ⟨r1, r2, r3⟩ := hgr
          have hNd : Hid (be ((l.drop q.toNat).take k.toNat) = getAt l q k) := rfl
          rw [hNd.out] at hcall
          clear hNd
          have r3 := r3 (h4 rfl)
          generalize getAt l q k = N at *
          have n0 : (wr.alloc (.cells #[.pointer (some ⟨w.heap.size + 1, o, none⟩), .pointer none, .int .i64 k] 71)).cell? ⟨wr.heap.size, 0, none⟩ = some (.pointer (some ⟨w.heap.size + 1, o, none⟩)) := (Blk.new' wr 71 _).cell 0
          go_wp2_with (first | (go_at_call 25; refine hcall.out.mono ?_; rintro e W2 ⟨rfl, rfl⟩))
          refine ⟨⟨j + 1, F.set o N, q + k, by omega, by go_num, by go_num, by omega, by omega, hst.out.symm, set_wf F hF.out o N r1 r2, (set_kind _ _ _).trans hFk.out, (set_tag _ _ _).trans hFt.out, ?_, ?_, ?_⟩, by simp [intOf]; omega⟩
          · rw [← hset.out]
            exact (hBk.out.setCell o _).alloc _
          · exact grown_trans hGG.out (grown_trans grown_setCell (grown_of_below ((Below.refl _ _).alloc (Nat.le_refl _) _) _))
          · exact (hB5.out.setCell (Nat.le_succ _) _).alloc (by simpa using hlt) _
      | false =>
        simp only [Slot.kd, if_false, Bool.false_eq_true] at p0 p1 p2 of hset
        by_cases hk : (n : Int) - q < k
        · have hRn : Hid (readF l = (kindF 0, 3)) := by
            have e : R = none := by rw [hst.out, if_pos (by rw [hL.out]; exact hk)]
            have : readF l = (kindF 0, 3) := by rw [hR.out, e]; rfl
            exact this
          have hR := hRn
          have hB1 := hB5
          have hcall := Lib.hid (fun W => hgno.out q k W k1 k2 (by omega) (by omega) (by omega))
          have hb1 : Hid (Blk (wr.alloc (.cells #[.pointer none, .pointer (some ⟨w.heap.size + 1, o, none⟩), .int .i64 k] 71)) w.heap.size 36 (fC (kindF 0))) := hE1.out.alloc _
          have hB1 : Hid (Below w.heap.size w (wr.alloc (.cells #[.pointer none, .pointer (some ⟨w.heap.size + 1, o, none⟩), .int .i64 k] 71))) := hB5.out.alloc hlt _
          go_wp2_with (first | (go_at_call 25; refine (hcall.out _).mono ?_; rintro e W2 ⟨rfl, rfl⟩) | (
            first | (refine wpList_buildR rfl 36 _ rfl [] rfl _ (build_frame0) ?_) |
                (refine wpList_storeW (w0 := w) w.heap.size rfl 36 _ _ rfl w.heap.size 0 rfl (fC (kindF 0)) rfl (by rw [HL0.out]; exact size_frame) (fC_one _) 36 (fC (kindF 0)) hb1.out (by rw [HL0.out]; decide) hB1.out (Nat.le_refl _) (fC (kindF 0)) (by simp [HL0.out]) ?h4)))
          (
            case h4 =>
            intro WX cX kX BX sX
            go_wp2
            refine bodyPost_ret (results_cell_tmp rfl _ _ w.heap.size 36 (fC (kindF 0)) _ rfl cX Try.underlying36 rfl (by rw [HL0.out]; exact size_frame)) rfl ⟨?_, BX⟩
            rw [hR.out]
            rfl)
        · have hst2 := hst.out
          rw [if_neg (by rw [hL.out]; exact hk)] at hst2
          have hst := Lib.hid hst2
          clear hst2
          have hcall := Lib.hid (hget.out q k (wr.alloc (.cells #[.pointer none, .pointer (some ⟨w.heap.size + 1, o, none⟩), .int .i64 k] 71)) (hB5.out.alloc hlt _) k1 k2 (by omega) (by omega))
          have hgr := getAt_range l hB.out q k (by omega) (by omega)
          obtain ⟨r1, r2, r3⟩ := hgr
          have hNd : Hid (be ((l.drop q.toNat).take k.toNat) = getAt l q k) := rfl
          rw [hNd.out] at hcall
          clear hNd
          clear r3
          generalize getAt l q k = N at *
          have n0 : (wr.alloc (.cells #[.pointer none, .pointer (some ⟨w.heap.size + 1, o, none⟩), .int .i64 k] 71)).cell? ⟨wr.heap.size, 1, none⟩ = some (.pointer (some ⟨w.heap.size + 1, o, none⟩)) := (Blk.new' wr 71 _).cell 1
          go_wp2_with (first | (go_at_call 25; refine hcall.out.mono ?_; rintro e W2 ⟨rfl, rfl⟩))
          refine ⟨⟨j + 1, F.set o N, q + k, by omega, by go_num, by go_num, by omega, by omega, hst.out.symm, set_wf F hF.out o N r1 r2, (set_kind _ _ _).trans hFk.out, (set_tag _ _ _).trans hFt.out, ?_, ?_, ?_⟩, by simp [intOf]; omega⟩
          · rw [← hset.out]
            exact (hBk.out.setCell o _).alloc _
          · exact grown_trans hGG.out (grown_trans grown_setCell (grown_of_below ((Below.refl _ _).alloc (Nat.le_refl _) _) _))
          · exact (hB5.out.setCell (Nat.le_succ _) _).alloc (by simpa using hlt) _
    · obtain rfl : j = S.length := by omega
      have hR2 : Hid (readF l = readEnd l F q) := by
        have e : R = some (F, q) := by rw [← hRS, List.drop_length]; rfl
        have : readF l = readEnd l F q := by rw [hR.out, e]; rfl
        exact this
      have hR := hR2
      clear hR2 hRS HBk HG HB hgno hget hS hS4 HR hA
      obtain ⟨Q, rfl⟩ := Int.eq_ofNat_of_zero_le (show 0 ≤ q by omega)
      obtain ⟨tb, htb⟩ : ∃ t, taggedB kd = t := ⟨_, rfl⟩
      rw [htb]
      have hTb := Lib.hid htb
      clear htb
      have hfl := Lib.hid (fC_len F hF.out.1.1)
      have hb1 := hE1
      clear hE1 hb3 hB4 hGG
      cases tb with
      | true =>
        have hfit : Hid (8 + Nat.min (n - Q) 32 * 1 ≤ (fC F).length) := by
          have : 8 + Nat.min (n - Q) 32 * 1 ≤ (fC F).length := by rw [hfl.out, Nat.mul_one]; exact Nat.le_trans (Nat.add_le_add_left (Nat.min_le_right _ _) 8) (by decide)
          exact this
        have htg : Hid (tagF l F Q = { F with tag := tagAt l Q }) := by
          have : tagF l F Q = { F with tag := tagAt l Q } := by unfold tagF; rw [hFk.out, hTb.out]; rfl
          exact this
        have htp : Hid (tagP l F Q = (Q : Int) + ((Nat.min (n - Q) 32 : Nat) : Int)) := by
          have : tagP l F Q = (Q : Int) + ((Nat.min (n - Q) 32 : Nat) : Int) := by
            unfold tagP; rw [hFk.out, hTb.out, if_pos rfl, List.length_drop, hL.out]; rfl
          exact this
        have hcells : Hid ((fC F).take 8 ++ (nums .u8 (l.drop Q)).take (Nat.min (n - Q) 32 * 1) ++ (fC F).drop (8 + Nat.min (n - Q) 32 * 1) = fC (tagF l F Q)) := by
          have : (fC F).take 8 ++ (nums .u8 (l.drop Q)).take (Nat.min (n - Q) 32 * 1) ++ (fC F).drop (8 + Nat.min (n - Q) 32 * 1) = fC (tagF l F Q) := by
            rw [htg.out]
            exact fC_tagAt l F Q _ (by rw [List.length_drop, hL.out]; rfl) hFt.out
          exact this
        have hWf := Lib.hid (tagF_wf l hB.out F Q hF.out)
        have hmn : Nat.min (n - Q) 32 ≤ n - Q := Nat.min_le_left _ _
        have hrx : ∀ off' cap', Hid (n - Q ≤ cap' → cap' ≤ 9223372036854775807 → (0 < n - Q → off' = off + Q) → Row wr.drew (some ⟨b, off', none⟩) (n - Q) cap' 1 (nums .u8 (l.drop Q))) := by
          intro off' cap' h1 h2 h3
          have hr := (hrow.out.below hB5.out)
          refine ⟨?_, h1, h2, fun h => by (cases h), fun h => ⟨_, _, rfl, fun j u hu => ?_⟩⟩
          · rw [nums_len, List.length_drop, hL.out]; omega
          · obtain ⟨b2, off2, he, hcell⟩ := hr.cell (by omega)
            cases he
            rw [h3 (by omega), Nat.add_assoc]
            refine hcell (Q + j) u ?_
            rw [← hu, nums, nums, List.getElem?_map, List.getElem?_map, List.getElem?_drop]
        by_cases hcq : cap = Q
        · obtain rfl : n = Q := by omega
          obtain rfl : cap = n := hcq
          have h0 : cap - cap = 0 := Nat.sub_self cap
          have hrowQ : Hid (Row wr.drew (some ⟨b, off, none⟩) 0 0 1 (nums .u8 (l.drop cap))) := by
            have := (hrx off 0).out (by omega) (by omega) (fun h => by omega)
            rw [h0] at this
            exact this
          rw [h0] at hfit htp hcells
          clear h0
          go_wp2_with fail
          go_region_law (refine step_copyB w.heap.size rfl (.tmp 76) (.tmp 79) 40 40 rfl 5 Try.underlying40 1 size_u8 (w.heap.size+1) 36 (fC F) hBk.out.drew 8 32 32 (by simp [Act.eval, Act.put]) (some ⟨b, off, none⟩) 0 0 (nums .u8 (l.drop cap)) (by simp [Act.eval, Act.put]) hrowQ.out (nums_one _ _) (Nat.min 0 32) rfl hfit.out hB5.out.drew (by omega) ?_; intro w' hw1 hw2 hw3)
          rw [hcells.out] at hw1
          have hX := Lib.hid hw1
          have hb1 := Lib.hid (hb1.out.drew.grown hw3 (by simp))
          have hB1 := Lib.hid hw2
          have hR4 : Hid (readF l = if plainB (tagF l F cap) = true ∧ (cap : Int) = l.length ∧ putF (tagF l F cap) = l then (tagF l F cap, 0) else (kindF 0, 3)) := by
            have := hR.out
            rw [readEnd, htp.out, show ((cap : Int) + ((Nat.min 0 32 : Nat) : Int)) = cap from Int.add_zero _] at this
            exact this
          clear hR
          have hR := hR4
          clear hw1 hw2 hw3 hrowQ hrx hcells htp htg hfit hR4 hTb hBk hB5 hmn
          generalize tagF l F cap = F' at *
          have hfl' := Lib.hid (fC_len F' hWf.out.1.1)
          cases hp0 : plainB F' with
          | false => (
            have hp := Lib.hid hp0
            have hR3 : Hid (readF l = (kindF 0, 3)) := by
              have : readF l = (kindF 0, 3) := by rw [hR.out, if_neg]; rintro ⟨h, _⟩; rw [hp0] at h; cases h
              exact this
            clear hR; have hR := hR3
            clear hp0 hR3
            go_wp2_with (first | (refine wpList_loadS rfl 36 _ rfl (w.heap.size + 1) 0 rfl _ Try.underlying36 rfl (fC F') (by rw [hfl'.out]; exact size_frame) (fun j u hu => by rw [Nat.zero_add, hX.out.cell]; exact hu) ?_) | (go_at_call 18; refine (frame_put_f F' _ hWf.out hp.out).mono ?_; rintro e W5 ⟨rfl, B5⟩; have hX := Lib.hid (hX.out.belowS B5); have hb1 := Lib.hid (hb1.out.belowS B5); have hB1 := Lib.hid (below_then hB1.out hB1.out.size B5); clear B5) | (
              first | (refine wpList_buildR rfl 36 _ rfl [] rfl _ (build_frame0) ?_) |
                  (refine wpList_storeW (w0 := w) w.heap.size rfl 36 _ _ rfl w.heap.size 0 rfl (fC (kindF 0)) rfl (by rw [HL0.out]; exact size_frame) (fC_one _) 36 (fC (kindF 0)) hb1.out (by rw [HL0.out]; decide) hB1.out (Nat.le_refl _) (fC (kindF 0)) (by simp [HL0.out]) ?h4)))
            (
              case h4 =>
              intro WX cX kX BX sX
              go_wp2
              refine bodyPost_ret (results_cell_tmp rfl _ _ w.heap.size 36 (fC (kindF 0)) _ rfl cX Try.underlying36 rfl (by rw [HL0.out]; exact size_frame)) rfl ⟨?_, BX⟩
              rw [hR.out]
              rfl))
          | true =>
            have hp := Lib.hid hp0
            clear hp0
            (
              by_cases heq : putF F' = l
              · have hq : Hid (decide (putF F' = l) = true) := by
                  have : decide (putF F' = l) = true := decide_eq_true heq
                  exact this
                have hR3 : Hid (readF l = (F', 0)) := by
                  have : readF l = (F', 0) := by rw [hR.out, if_pos ⟨hp.out, by rw [hL.out], heq⟩]
                  exact this
                clear hR; have hR := hR3
                clear hR3 heq
                go_wp2_with (first | (refine wpList_loadS rfl 36 _ rfl (w.heap.size + 1) 0 rfl _ Try.underlying36 rfl (fC F') (by rw [hfl'.out]; exact size_frame) (fun j u hu => by rw [Nat.zero_add, hX.out.cell]; exact hu) ?_) | (go_at_call 18; refine (frame_put_t F' _ hWf.out hp.out).mono ?_; rintro e W5 ⟨A2, c2, rfl, hv, B5⟩; have hX := Lib.hid (hX.out.belowS B5); have hb1 := Lib.hid (hb1.out.belowS B5); have hB1 := Lib.hid (below_then hB1.out hB1.out.size B5); have hv := Lib.hid hv; clear B5) | (go_at_call 26; refine (equal_u8 _ _ _ _ _ _ _ _ _ hv.out (hrow.out.below hB1.out)).mono ?_; rintro e W6 ⟨he6, B6⟩; rw [hq.out] at he6; subst he6; have hX := Lib.hid (hX.out.belowS B6); have hb1 := Lib.hid (hb1.out.belowS B6); have hB1 := Lib.hid (below_then hB1.out hB1.out.size B6); clear B6) |
                  (refine wpList_storeW (w0 := w) w.heap.size rfl 36 _ _ rfl w.heap.size 0 rfl (fC F') rfl (by rw [hfl'.out]; exact size_frame) (fC_one _) 36 (fC (kindF 0)) hb1.out (by rw [hfl'.out, HL0.out]; decide) hB1.out (Nat.le_refl _) (fC F') (by simp [hfl'.out, HL0.out]) ?h7))
                case h7 =>
                intro WX cX kX BX sX
                go_wp2
                refine bodyPost_ret (results_cell_tmp rfl _ _ w.heap.size 36 (fC F') _ rfl cX Try.underlying36 rfl (by rw [hfl'.out]; exact size_frame)) rfl ⟨?_, BX⟩
                rw [hR.out]
                rfl
              · have hq : Hid (decide (putF F' = l) = false) := by
                  have : decide (putF F' = l) = false := decide_eq_false heq
                  exact this
                have hR3 : Hid (readF l = (kindF 0, 3)) := by
                  have : readF l = (kindF 0, 3) := by rw [hR.out, if_neg]; rintro ⟨_, _, h⟩; exact heq h
                  exact this
                clear hR; have hR := hR3
                clear hR3 heq
                go_wp2_with (first | (refine wpList_loadS rfl 36 _ rfl (w.heap.size + 1) 0 rfl _ Try.underlying36 rfl (fC F') (by rw [hfl'.out]; exact size_frame) (fun j u hu => by rw [Nat.zero_add, hX.out.cell]; exact hu) ?_) | (go_at_call 18; refine (frame_put_t F' _ hWf.out hp.out).mono ?_; rintro e W5 ⟨A2, c2, rfl, hv, B5⟩; have hX := Lib.hid (hX.out.belowS B5); have hb1 := Lib.hid (hb1.out.belowS B5); have hB1 := Lib.hid (below_then hB1.out hB1.out.size B5); have hv := Lib.hid hv; clear B5) | (go_at_call 26; refine (equal_u8 _ _ _ _ _ _ _ _ _ hv.out (hrow.out.below hB1.out)).mono ?_; rintro e W6 ⟨he6, B6⟩; rw [hq.out] at he6; subst he6; have hX := Lib.hid (hX.out.belowS B6); have hb1 := Lib.hid (hb1.out.belowS B6); have hB1 := Lib.hid (below_then hB1.out hB1.out.size B6); clear B6) | (
                  first | (refine wpList_buildR rfl 36 _ rfl [] rfl _ (build_frame0) ?_) |
                      (refine wpList_storeW (w0 := w) w.heap.size rfl 36 _ _ rfl w.heap.size 0 rfl (fC (kindF 0)) rfl (by rw [HL0.out]; exact size_frame) (fC_one _) 36 (fC (kindF 0)) hb1.out (by rw [HL0.out]; decide) hB1.out (Nat.le_refl _) (fC (kindF 0)) (by simp [HL0.out]) ?h4)))
                (
                  case h4 =>
                  intro WX cX kX BX sX
                  go_wp2
                  refine bodyPost_ret (results_cell_tmp rfl _ _ w.heap.size 36 (fC (kindF 0)) _ rfl cX Try.underlying36 rfl (by rw [HL0.out]; exact size_frame)) rfl ⟨?_, BX⟩
                  rw [hR.out]
                  rfl))
        · have hrowQ := Lib.hid ((hrx (off + Q) (cap - Q)).out (by omega) (by omega) (fun _ => rfl))
          go_wp2_with fail
          go_region_law (refine step_copyB w.heap.size rfl (.tmp 76) (.tmp 79) 40 40 rfl 5 Try.underlying40 1 size_u8 (w.heap.size+1) 36 (fC F) hBk.out.drew 8 32 32 (by simp [Act.eval, Act.put]) (some ⟨b, off + Q, none⟩) (n - Q) (cap - Q) (nums .u8 (l.drop Q)) (by simp [Act.eval, Act.put]) hrowQ.out (nums_one _ _) (Nat.min (n - Q) 32) rfl hfit.out hB5.out.drew (by omega) ?_; intro w' hw1 hw2 hw3)
          rw [hcells.out] at hw1
          have hX := Lib.hid hw1
          have hb1 := Lib.hid (hb1.out.drew.grown hw3 (by simp))
          have hB1 := Lib.hid hw2
          have hR4 : Hid (readF l = if plainB (tagF l F Q) = true ∧ ((Q : Int) + ((Nat.min (n - Q) 32 : Nat) : Int)) = l.length ∧ putF (tagF l F Q) = l then (tagF l F Q, 0) else (kindF 0, 3)) := by
            have := hR.out
            rw [readEnd, htp.out] at this
            exact this
          clear hR
          have hR := hR4
          clear hw1 hw2 hw3 hrowQ hrx hcells htp htg hfit hR4 hTb hBk hB5
          generalize tagF l F Q = F' at *
          have hfl' := Lib.hid (fC_len F' hWf.out.1.1)
          generalize hPP : (Q : Int) + ((Nat.min (n - Q) 32 : Nat) : Int) = PP at *
          have hpp : 0 ≤ PP ∧ PP ≤ n := by omega
          clear hPP hmn
          (
            cases hp0 : plainB F' with
            | false => (
              have hp := Lib.hid hp0
              have hR3 : Hid (readF l = (kindF 0, 3)) := by
                have : readF l = (kindF 0, 3) := by rw [hR.out, if_neg]; rintro ⟨h, _⟩; rw [hp0] at h; cases h
                exact this
              clear hR; have hR := hR3
              clear hp0 hR3
              go_wp2_with (first | (refine wpList_loadS rfl 36 _ rfl (w.heap.size + 1) 0 rfl _ Try.underlying36 rfl (fC F') (by rw [hfl'.out]; exact size_frame) (fun j u hu => by rw [Nat.zero_add, hX.out.cell]; exact hu) ?_) | (go_at_call 18; refine (frame_put_f F' _ hWf.out hp.out).mono ?_; rintro e W5 ⟨rfl, B5⟩; have hX := Lib.hid (hX.out.belowS B5); have hb1 := Lib.hid (hb1.out.belowS B5); have hB1 := Lib.hid (below_then hB1.out hB1.out.size B5); clear B5) | (
                first | (refine wpList_buildR rfl 36 _ rfl [] rfl _ (build_frame0) ?_) |
                    (refine wpList_storeW (w0 := w) w.heap.size rfl 36 _ _ rfl w.heap.size 0 rfl (fC (kindF 0)) rfl (by rw [HL0.out]; exact size_frame) (fC_one _) 36 (fC (kindF 0)) hb1.out (by rw [HL0.out]; decide) hB1.out (Nat.le_refl _) (fC (kindF 0)) (by simp [HL0.out]) ?h4)))
              (
                case h4 =>
                intro WX cX kX BX sX
                go_wp2
                refine bodyPost_ret (results_cell_tmp rfl _ _ w.heap.size 36 (fC (kindF 0)) _ rfl cX Try.underlying36 rfl (by rw [HL0.out]; exact size_frame)) rfl ⟨?_, BX⟩
                rw [hR.out]
                rfl))
            | true =>
              have hp := Lib.hid hp0
              clear hp0
              by_cases hat : PP = n
              · subst hat
                (
                  by_cases heq : putF F' = l
                  · have hq : Hid (decide (putF F' = l) = true) := by
                      have : decide (putF F' = l) = true := decide_eq_true heq
                      exact this
                    have hR3 : Hid (readF l = (F', 0)) := by
                      have : readF l = (F', 0) := by rw [hR.out, if_pos ⟨hp.out, by rw [hL.out], heq⟩]
                      exact this
                    clear hR; have hR := hR3
                    clear hR3 heq
                    go_wp2_with (first | (refine wpList_loadS rfl 36 _ rfl (w.heap.size + 1) 0 rfl _ Try.underlying36 rfl (fC F') (by rw [hfl'.out]; exact size_frame) (fun j u hu => by rw [Nat.zero_add, hX.out.cell]; exact hu) ?_) | (go_at_call 18; refine (frame_put_t F' _ hWf.out hp.out).mono ?_; rintro e W5 ⟨A2, c2, rfl, hv, B5⟩; have hX := Lib.hid (hX.out.belowS B5); have hb1 := Lib.hid (hb1.out.belowS B5); have hB1 := Lib.hid (below_then hB1.out hB1.out.size B5); have hv := Lib.hid hv; clear B5) | (go_at_call 26; refine (equal_u8 _ _ _ _ _ _ _ _ _ hv.out (hrow.out.below hB1.out)).mono ?_; rintro e W6 ⟨he6, B6⟩; rw [hq.out] at he6; subst he6; have hX := Lib.hid (hX.out.belowS B6); have hb1 := Lib.hid (hb1.out.belowS B6); have hB1 := Lib.hid (below_then hB1.out hB1.out.size B6); clear B6) |
                      (refine wpList_storeW (w0 := w) w.heap.size rfl 36 _ _ rfl w.heap.size 0 rfl (fC F') rfl (by rw [hfl'.out]; exact size_frame) (fC_one _) 36 (fC (kindF 0)) hb1.out (by rw [hfl'.out, HL0.out]; decide) hB1.out (Nat.le_refl _) (fC F') (by simp [hfl'.out, HL0.out]) ?h7))
                    case h7 =>
                    intro WX cX kX BX sX
                    go_wp2
                    refine bodyPost_ret (results_cell_tmp rfl _ _ w.heap.size 36 (fC F') _ rfl cX Try.underlying36 rfl (by rw [hfl'.out]; exact size_frame)) rfl ⟨?_, BX⟩
                    rw [hR.out]
                    rfl
                  · have hq : Hid (decide (putF F' = l) = false) := by
                      have : decide (putF F' = l) = false := decide_eq_false heq
                      exact this
                    have hR3 : Hid (readF l = (kindF 0, 3)) := by
                      have : readF l = (kindF 0, 3) := by rw [hR.out, if_neg]; rintro ⟨_, _, h⟩; exact heq h
                      exact this
                    clear hR; have hR := hR3
                    clear hR3 heq
                    go_wp2_with (first | (refine wpList_loadS rfl 36 _ rfl (w.heap.size + 1) 0 rfl _ Try.underlying36 rfl (fC F') (by rw [hfl'.out]; exact size_frame) (fun j u hu => by rw [Nat.zero_add, hX.out.cell]; exact hu) ?_) | (go_at_call 18; refine (frame_put_t F' _ hWf.out hp.out).mono ?_; rintro e W5 ⟨A2, c2, rfl, hv, B5⟩; have hX := Lib.hid (hX.out.belowS B5); have hb1 := Lib.hid (hb1.out.belowS B5); have hB1 := Lib.hid (below_then hB1.out hB1.out.size B5); have hv := Lib.hid hv; clear B5) | (go_at_call 26; refine (equal_u8 _ _ _ _ _ _ _ _ _ hv.out (hrow.out.below hB1.out)).mono ?_; rintro e W6 ⟨he6, B6⟩; rw [hq.out] at he6; subst he6; have hX := Lib.hid (hX.out.belowS B6); have hb1 := Lib.hid (hb1.out.belowS B6); have hB1 := Lib.hid (below_then hB1.out hB1.out.size B6); clear B6) | (
                      first | (refine wpList_buildR rfl 36 _ rfl [] rfl _ (build_frame0) ?_) |
                          (refine wpList_storeW (w0 := w) w.heap.size rfl 36 _ _ rfl w.heap.size 0 rfl (fC (kindF 0)) rfl (by rw [HL0.out]; exact size_frame) (fC_one _) 36 (fC (kindF 0)) hb1.out (by rw [HL0.out]; decide) hB1.out (Nat.le_refl _) (fC (kindF 0)) (by simp [HL0.out]) ?h4)))
                    (
                      case h4 =>
                      intro WX cX kX BX sX
                      go_wp2
                      refine bodyPost_ret (results_cell_tmp rfl _ _ w.heap.size 36 (fC (kindF 0)) _ rfl cX Try.underlying36 rfl (by rw [HL0.out]; exact size_frame)) rfl ⟨?_, BX⟩
                      rw [hR.out]
                      rfl))
              · have hR3 : Hid (readF l = (kindF 0, 3)) := by
                  have : readF l = (kindF 0, 3) := by rw [hR.out, if_neg]; rintro ⟨_, h, _⟩; exact hat (by rw [← hL.out]; exact h)
                  exact this
                clear hR; have hR := hR3
                clear hR3
                go_wp2_with (first | (refine wpList_loadS rfl 36 _ rfl (w.heap.size + 1) 0 rfl _ Try.underlying36 rfl (fC F') (by rw [hfl'.out]; exact size_frame) (fun j u hu => by rw [Nat.zero_add, hX.out.cell]; exact hu) ?_) | (go_at_call 18; refine (frame_put_t F' _ hWf.out hp.out).mono ?_; rintro e W5 ⟨A2, c2, rfl, hv, B5⟩; have hX := Lib.hid (hX.out.belowS B5); have hb1 := Lib.hid (hb1.out.belowS B5); have hB1 := Lib.hid (below_then hB1.out hB1.out.size B5); have hv := Lib.hid hv; clear B5) | (
                  first | (refine wpList_buildR rfl 36 _ rfl [] rfl _ (build_frame0) ?_) |
                      (refine wpList_storeW (w0 := w) w.heap.size rfl 36 _ _ rfl w.heap.size 0 rfl (fC (kindF 0)) rfl (by rw [HL0.out]; exact size_frame) (fC_one _) 36 (fC (kindF 0)) hb1.out (by rw [HL0.out]; decide) hB1.out (Nat.le_refl _) (fC (kindF 0)) (by simp [HL0.out]) ?h4)))
                (
                  case h4 =>
                  intro WX cX kX BX sX
                  go_wp2
                  refine bodyPost_ret (results_cell_tmp rfl _ _ w.heap.size 36 (fC (kindF 0)) _ rfl cX Try.underlying36 rfl (by rw [HL0.out]; exact size_frame)) rfl ⟨?_, BX⟩
                  rw [hR.out]
                  rfl))
      | false =>
        have htg : Hid (tagF l F Q = F) := by
          have : tagF l F Q = F := by unfold tagF; rw [hFk.out, hTb.out]; rfl
          exact this
        have htp : Hid (tagP l F Q = (Q : Int)) := by
          have : tagP l F Q = (Q : Int) := by unfold tagP; rw [hFk.out, hTb.out]; rfl
          exact this
        have hX := hBk
        have hB1 := hB5
        have hWf := hF
        have hR4 : Hid (readF l = if plainB F = true ∧ (Q : Int) = l.length ∧ putF F = l then (F, 0) else (kindF 0, 3)) := by
          have := hR.out
          rw [readEnd, htp.out, htg.out] at this
          exact this
        clear hR
        have hR := hR4
        clear htp htg hR4 hTb hBk hB5
        have hfl' := Lib.hid (fC_len F hWf.out.1.1)
        generalize F = F' at *
        generalize hPP : (Q : Int) = PP at *
        clear hPP
        (
          cases hp0 : plainB F' with
          | false => (
            have hp := Lib.hid hp0
            have hR3 : Hid (readF l = (kindF 0, 3)) := by
              have : readF l = (kindF 0, 3) := by rw [hR.out, if_neg]; rintro ⟨h, _⟩; rw [hp0] at h; cases h
              exact this
            clear hR; have hR := hR3
            clear hp0 hR3
            go_wp2_with (first | (refine wpList_loadS rfl 36 _ rfl (w.heap.size + 1) 0 rfl _ Try.underlying36 rfl (fC F') (by rw [hfl'.out]; exact size_frame) (fun j u hu => by rw [Nat.zero_add, hX.out.cell]; exact hu) ?_) | (go_at_call 18; refine (frame_put_f F' _ hWf.out hp.out).mono ?_; rintro e W5 ⟨rfl, B5⟩; have hX := Lib.hid (hX.out.belowS B5); have hb1 := Lib.hid (hb1.out.belowS B5); have hB1 := Lib.hid (below_then hB1.out hB1.out.size B5); clear B5) | (
              first | (refine wpList_buildR rfl 36 _ rfl [] rfl _ (build_frame0) ?_) |
                  (refine wpList_storeW (w0 := w) w.heap.size rfl 36 _ _ rfl w.heap.size 0 rfl (fC (kindF 0)) rfl (by rw [HL0.out]; exact size_frame) (fC_one _) 36 (fC (kindF 0)) hb1.out (by rw [HL0.out]; decide) hB1.out (Nat.le_refl _) (fC (kindF 0)) (by simp [HL0.out]) ?h4)))
            (
              case h4 =>
              intro WX cX kX BX sX
              go_wp2
              refine bodyPost_ret (results_cell_tmp rfl _ _ w.heap.size 36 (fC (kindF 0)) _ rfl cX Try.underlying36 rfl (by rw [HL0.out]; exact size_frame)) rfl ⟨?_, BX⟩
              rw [hR.out]
              rfl))
          | true =>
            have hp := Lib.hid hp0
            clear hp0
            by_cases hat : PP = n
            · subst hat
              (
                by_cases heq : putF F' = l
                · have hq : Hid (decide (putF F' = l) = true) := by
                    have : decide (putF F' = l) = true := decide_eq_true heq
                    exact this
                  have hR3 : Hid (readF l = (F', 0)) := by
                    have : readF l = (F', 0) := by rw [hR.out, if_pos ⟨hp.out, by rw [hL.out], heq⟩]
                    exact this
                  clear hR; have hR := hR3
                  clear hR3 heq
                  go_wp2_with (first | (refine wpList_loadS rfl 36 _ rfl (w.heap.size + 1) 0 rfl _ Try.underlying36 rfl (fC F') (by rw [hfl'.out]; exact size_frame) (fun j u hu => by rw [Nat.zero_add, hX.out.cell]; exact hu) ?_) | (go_at_call 18; refine (frame_put_t F' _ hWf.out hp.out).mono ?_; rintro e W5 ⟨A2, c2, rfl, hv, B5⟩; have hX := Lib.hid (hX.out.belowS B5); have hb1 := Lib.hid (hb1.out.belowS B5); have hB1 := Lib.hid (below_then hB1.out hB1.out.size B5); have hv := Lib.hid hv; clear B5) | (go_at_call 26; refine (equal_u8 _ _ _ _ _ _ _ _ _ hv.out (hrow.out.below hB1.out)).mono ?_; rintro e W6 ⟨he6, B6⟩; rw [hq.out] at he6; subst he6; have hX := Lib.hid (hX.out.belowS B6); have hb1 := Lib.hid (hb1.out.belowS B6); have hB1 := Lib.hid (below_then hB1.out hB1.out.size B6); clear B6) |
                    (refine wpList_storeW (w0 := w) w.heap.size rfl 36 _ _ rfl w.heap.size 0 rfl (fC F') rfl (by rw [hfl'.out]; exact size_frame) (fC_one _) 36 (fC (kindF 0)) hb1.out (by rw [hfl'.out, HL0.out]; decide) hB1.out (Nat.le_refl _) (fC F') (by simp [hfl'.out, HL0.out]) ?h7))
                  case h7 =>
                  intro WX cX kX BX sX
                  go_wp2
                  refine bodyPost_ret (results_cell_tmp rfl _ _ w.heap.size 36 (fC F') _ rfl cX Try.underlying36 rfl (by rw [hfl'.out]; exact size_frame)) rfl ⟨?_, BX⟩
                  rw [hR.out]
                  rfl
                · have hq : Hid (decide (putF F' = l) = false) := by
                    have : decide (putF F' = l) = false := decide_eq_false heq
                    exact this
                  have hR3 : Hid (readF l = (kindF 0, 3)) := by
                    have : readF l = (kindF 0, 3) := by rw [hR.out, if_neg]; rintro ⟨_, _, h⟩; exact heq h
                    exact this
                  clear hR; have hR := hR3
                  clear hR3 heq
                  go_wp2_with (first | (refine wpList_loadS rfl 36 _ rfl (w.heap.size + 1) 0 rfl _ Try.underlying36 rfl (fC F') (by rw [hfl'.out]; exact size_frame) (fun j u hu => by rw [Nat.zero_add, hX.out.cell]; exact hu) ?_) | (go_at_call 18; refine (frame_put_t F' _ hWf.out hp.out).mono ?_; rintro e W5 ⟨A2, c2, rfl, hv, B5⟩; have hX := Lib.hid (hX.out.belowS B5); have hb1 := Lib.hid (hb1.out.belowS B5); have hB1 := Lib.hid (below_then hB1.out hB1.out.size B5); have hv := Lib.hid hv; clear B5) | (go_at_call 26; refine (equal_u8 _ _ _ _ _ _ _ _ _ hv.out (hrow.out.below hB1.out)).mono ?_; rintro e W6 ⟨he6, B6⟩; rw [hq.out] at he6; subst he6; have hX := Lib.hid (hX.out.belowS B6); have hb1 := Lib.hid (hb1.out.belowS B6); have hB1 := Lib.hid (below_then hB1.out hB1.out.size B6); clear B6) | (
                    first | (refine wpList_buildR rfl 36 _ rfl [] rfl _ (build_frame0) ?_) |
                        (refine wpList_storeW (w0 := w) w.heap.size rfl 36 _ _ rfl w.heap.size 0 rfl (fC (kindF 0)) rfl (by rw [HL0.out]; exact size_frame) (fC_one _) 36 (fC (kindF 0)) hb1.out (by rw [HL0.out]; decide) hB1.out (Nat.le_refl _) (fC (kindF 0)) (by simp [HL0.out]) ?h4)))
                  (
                    case h4 =>
                    intro WX cX kX BX sX
                    go_wp2
                    refine bodyPost_ret (results_cell_tmp rfl _ _ w.heap.size 36 (fC (kindF 0)) _ rfl cX Try.underlying36 rfl (by rw [HL0.out]; exact size_frame)) rfl ⟨?_, BX⟩
                    rw [hR.out]
                    rfl))
            · have hR3 : Hid (readF l = (kindF 0, 3)) := by
                have : readF l = (kindF 0, 3) := by rw [hR.out, if_neg]; rintro ⟨_, h, _⟩; exact hat (by rw [← hL.out]; exact h)
                exact this
              clear hR; have hR := hR3
              clear hR3
              go_wp2_with (first | (refine wpList_loadS rfl 36 _ rfl (w.heap.size + 1) 0 rfl _ Try.underlying36 rfl (fC F') (by rw [hfl'.out]; exact size_frame) (fun j u hu => by rw [Nat.zero_add, hX.out.cell]; exact hu) ?_) | (go_at_call 18; refine (frame_put_t F' _ hWf.out hp.out).mono ?_; rintro e W5 ⟨A2, c2, rfl, hv, B5⟩; have hX := Lib.hid (hX.out.belowS B5); have hb1 := Lib.hid (hb1.out.belowS B5); have hB1 := Lib.hid (below_then hB1.out hB1.out.size B5); have hv := Lib.hid hv; clear B5) | (
                first | (refine wpList_buildR rfl 36 _ rfl [] rfl _ (build_frame0) ?_) |
                    (refine wpList_storeW (w0 := w) w.heap.size rfl 36 _ _ rfl w.heap.size 0 rfl (fC (kindF 0)) rfl (by rw [HL0.out]; exact size_frame) (fC_one _) 36 (fC (kindF 0)) hb1.out (by rw [HL0.out]; decide) hB1.out (Nat.le_refl _) (fC (kindF 0)) (by simp [HL0.out]) ?h4)))
              (
                case h4 =>
                intro WX cX kX BX sX
                go_wp2
                refine bodyPost_ret (results_cell_tmp rfl _ _ w.heap.size 36 (fC (kindF 0)) _ rfl cX Try.underlying36 rfl (by rw [HL0.out]; exact size_frame)) rfl ⟨?_, BX⟩
                rw [hR.out]
                rfl))
end Go.Proofs.Ytfdlfkdefbfhfaa
