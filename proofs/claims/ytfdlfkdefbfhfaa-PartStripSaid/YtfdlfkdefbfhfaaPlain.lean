import Derived.Test.YtfdlfkdefbfhfaaBare
import Derived.Test.YtfdlfkdefbfhfaaEq
import Derived.Deep.RegionWith
import Derived.Deep.RegionHeld3
import Derived.Deep.RegionLaw
set_option linter.unusedVariables false
set_option linter.unusedSimpArgs false
namespace Go.Proofs.Ytfdlfkdefbfhfaa
open Go.RowKit

theorem fields_frame : (Try.prog.fieldsOf 36).toList.map (fun f => (f.type, f.offset)) = [(3, 0), (3, 1), (32, 2), (32, 3), (3, 4), (32, 5), (3, 6), (3, 7), (34, 8)] := by kernel_rfl
theorem fC_tagRow (f : Frm) (h : f.tag.length = 32) : ((fC f).drop 8).take 32 = nums .u8 f.tag := by
  have e : (fC f).drop 8 = nums .u8 f.tag := rfl
  rw [e]
  exact List.take_of_length_le (by rw [nums_len, h]; omega)
theorem eql_frame (f g : Frm) (hf : f.tag.length = 32) (hg : g.tag.length = 32) (w : World) :
    (binOp .eql 36 (.agg (fC f).toArray) (.agg (fC g).toArray)).run Try.prog w = .ok (.bool (decide (f = g))) w ∧ (binOp .neq 36 (.agg (fC f).toArray) (.agg (fC g).toArray)).run Try.prog w = .ok (.bool (!decide (f = g))) w := by
  have hb : decide (f = g) = (decide (f.kind = g.kind) && (decide (f.user = g.user) && (decide (f.sess = g.sess) && (decide (f.cn = g.cn) && (decide (f.epoch = g.epoch) && (decide (f.count = g.count) && (decide (f.cmd = g.cmd) && (decide (f.arg = g.arg) && (decide (f.tag = g.tag) && true))))))))) := by
    cases f; cases g
    simp only [Frm.mk.injEq, Bool.decide_and, Bool.and_true]
  rw [hb]
  obtain ⟨i, hi, hi1⟩ := Option.map_eq_some_iff.1 (show (Try.prog.info? 5).map (·.size) = some 1 by kernel_rfl)
  obtain ⟨j, hj, hj1⟩ := Option.map_eq_some_iff.1 size_id
  exact run_eql_of 36 _ (fC f) (fC g) _ (by unfold Program.fieldsOf; rw [Try.underlying36]) (by kernel_rfl) fields_frame (by kernel_rfl)
    (.int Try.underlying3 rfl rfl (.int Try.underlying3 rfl rfl (.int Try.underlying32 rfl rfl (.int Try.underlying32 rfl rfl (.int Try.underlying3 rfl rfl (.int Try.underlying32 rfl rfl (.int Try.underlying3 rfl rfl (.int Try.underlying3 rfl rfl
      (.nums Try.underlying34 Try.underlying5 (by kernel_rfl) hi hj hj1 hf hg (fC_tagRow f hf) (fC_tagRow g hg) (.nil _ _ _)))))))))) w

theorem frame_kind_t (k : Int) (w : World) (h1 : 0 ≤ k) (h2 : k < 7) : Calls Try.prog 43 #[.int .i64 k] w fun e w' => e = .returned (.bool true) ∧ w = w' := by
  go_enter Try.func43, Try.ntmps43
  go_wp2
  go_ret
  exact ⟨by simp [h1, h2], rfl⟩
theorem frame_kind_f (k : Int) (w : World) (h : ¬ (0 ≤ k ∧ k < 7)) : Calls Try.prog 43 #[.int .i64 k] w fun e w' => e = .returned (.bool false) ∧ w = w' := by
  by_cases h1 : 0 ≤ k
  · go_enter Try.func43, Try.ntmps43
    go_wp2
    go_ret
    exact ⟨by simp; omega, rfl⟩
  · go_enter Try.func43, Try.ntmps43
    go_wp2
    go_ret
    exact ⟨by simp, rfl⟩
theorem frame_in_t (k m : Int) (w : World) (h1 : 0 ≤ k) (h2 : k ≤ m) : Calls Try.prog 42 #[.int .i64 k, .int .i64 m] w fun e w' => e = .returned (.bool true) ∧ w = w' := by
  go_enter Try.func42, Try.ntmps42
  go_wp2
  go_ret
  exact ⟨by simp [h1, h2], rfl⟩
theorem frame_in_f (k m : Int) (w : World) (h : ¬ (0 ≤ k ∧ k ≤ m)) : Calls Try.prog 42 #[.int .i64 k, .int .i64 m] w fun e w' => e = .returned (.bool false) ∧ w = w' := by
  by_cases h1 : 0 ≤ k
  · go_enter Try.func42, Try.ntmps42
    go_wp2
    go_ret
    exact ⟨by simp; omega, rfl⟩
  · go_enter Try.func42, Try.ntmps42
    go_wp2
    go_ret
    exact ⟨by simp, rfl⟩

theorem exec_load_frame (ρ : Operand → Value) (x : Operand) (dst : Option Tmp) (ty' : TypeId) (pos : String) (af : Array Edge) (gd : Option (Nat × Bool)) (w : World) (hh : (headOf (ρ x)).isSome = true) (hs : (rowOf w.heap ((headOf (ρ x)).getD 0)).size = 40) :
    (execOp ρ ⟨dst, .load 36 x, ty', pos, af, gd⟩).run Try.prog w = .ok (.value (.agg (rowOf w.heap ((headOf (ρ x)).getD 0)))) w :=
  exec_load_row 36 _ Try.underlying36 rfl 40 (by decide) size_frame ρ x dst ty' pos af gd w hh hs
theorem drew_heap (w : World) : w.drew.heap = w.heap := rfl
attribute [local go_sem] headOf_ptr drew_heap
attribute [local go_sem ↓] exec_load_frame

/-- frame.plain -/
def rangesB (f : Frm) : Bool :=
  decide (0 ≤ f.kind) && decide (f.kind < 7) && decide (0 ≤ f.user) && decide (f.user ≤ 255) && decide (0 ≤ f.epoch) && decide (f.epoch ≤ 1073741824) && decide (0 ≤ f.cmd) && decide (f.cmd ≤ 255) && decide (0 ≤ f.arg) && decide (f.arg ≤ 65535)
def plainB (f : Frm) : Bool := rangesB f && decide (bareF f = f)
theorem bareF_tag (f : Frm) (h : f.tag.length = 32) : (bareF f).tag.length = 32 := by
  unfold bareF
  simp only
  split
  · exact h
  · rw [(copyL_kind _ _ _).2]; rfl

set_option maxRecDepth 100000 in
set_option maxHeartbeats 2000000 in
theorem plain_all (f : Frm) (w : World) (hf : FrmOk f) (h1 : 0 ≤ f.kind) (h2 : f.kind < 7) (h3 : 0 ≤ f.user) (h4 : f.user ≤ 255) (h5 : 0 ≤ f.epoch) (h6 : f.epoch ≤ 1073741824) (h7 : 0 ≤ f.cmd) (h8 : f.cmd ≤ 255) (h9 : 0 ≤ f.arg) (h10 : f.arg ≤ 65535) :
    Calls Try.prog 31 #[.agg (fC f).toArray] w fun e w' => e = .returned (.bool (decide (bareF f = f))) ∧ Below w.heap.size w w' := by
  have hl := fC_len f hf.1
  have heq := fun w => (eql_frame (bareF f) f (bareF_tag f hf.1) hf.1 w).1
  have hF := Lib.hid hf
  clear hf
  go_enter Try.func31, Try.ntmps31
  go_wp2_with (refine wpList_boxS (w0 := w) w.heap.size rfl 36 _ rfl (fC f) rfl (Below.refl _ _) (Nat.le_refl _) ?h1)
  case h1 =>
  intro W b k B s
  have c0 : W.cell? ⟨w.heap.size, 0, none⟩ = some (.int .i64 f.kind) := b.cell 0
  have c1 : W.cell? ⟨w.heap.size, 1, none⟩ = some (.int .i64 f.user) := b.cell 1
  have c4 : W.cell? ⟨w.heap.size, 4, none⟩ = some (.int .i64 f.epoch) := b.cell 4
  have c6 : W.cell? ⟨w.heap.size, 6, none⟩ = some (.int .i64 f.cmd) := b.cell 6
  have c7 : W.cell? ⟨w.heap.size, 7, none⟩ = some (.int .i64 f.arg) := b.cell 7
  have hE : rowOf W.heap w.heap.size = (fC f).toArray := b.rowOf
  have hBk := Lib.hid b
  clear b k
  have hB := Lib.hid B
  clear B
  have hbare : Hid (Calls Try.prog 44 #[.agg (fC f).toArray] W.drew fun e w2 => e = .returned (.agg (fC (bareF f)).toArray) ∧ rowOf w2.heap w.heap.size = (fC f).toArray ∧ Hid (Below w.heap.size w w2)) :=
    (frame_bare f W.drew hF.out).mono fun e w2 h => ⟨h.1, (Blk.below (show Blk W.drew w.heap.size _ (fC f) from hBk.out) h.2 (show w.heap.size < W.heap.size by omega)).rowOf, (hB.out.drew).trans (h.2.mono (show w.heap.size ≤ W.heap.size by omega))⟩
  clear hF hB s hBk
  go_wp2_with fail
  go_region_law (first | (go_simp; go_at_call 43; refine (frame_kind_t _ _ h1 h2).mono ?_; rintro e w' ⟨rfl, rfl⟩) | (go_simp; go_at_call 42; refine (frame_in_t _ _ _ (by assumption) (by assumption)).mono ?_; rintro e w' ⟨rfl, rfl⟩) | (go_simp; go_at_call 44; refine hbare.out.mono ?_; rintro e w2 ⟨rfl, hE2, hb2⟩))
  all_goals
    go_wp2
    go_ret
    exact ⟨rfl, hb2.out⟩

set_option maxRecDepth 100000 in
set_option maxHeartbeats 2000000 in
theorem plain_no (f : Frm) (w : World) (bk bu be bc ba : Bool)
    (HK : Hid (∀ w, Calls Try.prog 43 #[.int .i64 f.kind] w fun e w' => e = .returned (.bool bk) ∧ w' = w))
    (HU : Hid (∀ w, Calls Try.prog 42 #[.int .i64 f.user, .int .i64 255] w fun e w' => e = .returned (.bool bu) ∧ w' = w))
    (HE : Hid (∀ w, Calls Try.prog 42 #[.int .i64 f.epoch, .int .i64 1073741824] w fun e w' => e = .returned (.bool be) ∧ w' = w))
    (HC : Hid (∀ w, Calls Try.prog 42 #[.int .i64 f.cmd, .int .i64 255] w fun e w' => e = .returned (.bool bc) ∧ w' = w))
    (HA : Hid (∀ w, Calls Try.prog 42 #[.int .i64 f.arg, .int .i64 65535] w fun e w' => e = .returned (.bool ba) ∧ w' = w))
    (h : (bk && bu && be && bc && ba) = false) :
    Calls Try.prog 31 #[.agg (fC f).toArray] w fun e w' => e = .returned (.bool false) ∧ Below w.heap.size w w' := by
  have hcase : bk = false ∨ (bk = true ∧ bu = false) ∨ (bk = true ∧ bu = true ∧ be = false) ∨ (bk = true ∧ bu = true ∧ be = true ∧ bc = false) ∨ (bk = true ∧ bu = true ∧ be = true ∧ bc = true ∧ ba = false) := by
    cases bk <;> cases bu <;> cases be <;> cases bc <;> cases ba <;> simp_all
  clear h
  rcases hcase with rfl | ⟨rfl, rfl⟩ | ⟨rfl, rfl, rfl⟩ | ⟨rfl, rfl, rfl, rfl⟩ | ⟨rfl, rfl, rfl, rfl, rfl⟩
  all_goals
    go_enter Try.func31, Try.ntmps31
    go_wp2_with (refine wpList_boxS (w0 := w) w.heap.size rfl 36 _ rfl (fC f) rfl (Below.refl _ _) (Nat.le_refl _) ?h1)
    case h1 =>
    intro W b k B s
    have c0 : W.cell? ⟨w.heap.size, 0, none⟩ = some (.int .i64 f.kind) := b.cell 0
    have c1 : W.cell? ⟨w.heap.size, 1, none⟩ = some (.int .i64 f.user) := b.cell 1
    have c4 : W.cell? ⟨w.heap.size, 4, none⟩ = some (.int .i64 f.epoch) := b.cell 4
    have c6 : W.cell? ⟨w.heap.size, 6, none⟩ = some (.int .i64 f.cmd) := b.cell 6
    have c7 : W.cell? ⟨w.heap.size, 7, none⟩ = some (.int .i64 f.arg) := b.cell 7
    clear b k
    have hB := Lib.hid B
    clear B
    go_wp2_with fail
    go_quiet ((first | (go_at_call 43; exact Calls.quiet_of_same (HK.out _)) | (go_at_call 42; first | (with_reducible exact Calls.quiet_of_same (HU.out _)) | (with_reducible exact Calls.quiet_of_same (HE.out _)) | (with_reducible exact Calls.quiet_of_same (HC.out _)) | (with_reducible exact Calls.quiet_of_same (HA.out _)))))
    go_wp2
    go_ret
    refine ⟨rfl, ?_⟩
    exact ⟨hB.out.os, hB.out.tape, hB.out.output, hB.out.size, hB.out.block⟩

theorem kind_any (k : Int) : Hid (∀ w, Calls Try.prog 43 #[.int .i64 k] w fun e w' => e = .returned (.bool (decide (0 ≤ k) && decide (k < 7))) ∧ w' = w) := by
  intro w
  by_cases h : 0 ≤ k ∧ k < 7
  · exact (frame_kind_t k w h.1 h.2).mono fun e w' hh => ⟨by rw [hh.1]; simp [h.1, h.2], hh.2.symm⟩
  · exact (frame_kind_f k w h).mono fun e w' hh => ⟨by rw [hh.1]; simp; omega, hh.2.symm⟩
theorem in_any (k m : Int) : Hid (∀ w, Calls Try.prog 42 #[.int .i64 k, .int .i64 m] w fun e w' => e = .returned (.bool (decide (0 ≤ k) && decide (k ≤ m))) ∧ w' = w) := by
  intro w
  by_cases h : 0 ≤ k ∧ k ≤ m
  · exact (frame_in_t k m w h.1 h.2).mono fun e w' hh => ⟨by rw [hh.1]; simp [h.1, h.2], hh.2.symm⟩
  · exact (frame_in_f k m w h).mono fun e w' hh => ⟨by rw [hh.1]; simp; omega, hh.2.symm⟩

theorem frame_plain (f : Frm) (w : World) (hf : FrmOk f) : Calls Try.prog 31 #[.agg (fC f).toArray] w fun e w' => e = .returned (.bool (plainB f)) ∧ Below w.heap.size w w' := by
  by_cases hr : (0 ≤ f.kind ∧ f.kind < 7) ∧ (0 ≤ f.user ∧ f.user ≤ 255) ∧ (0 ≤ f.epoch ∧ f.epoch ≤ 1073741824) ∧ (0 ≤ f.cmd ∧ f.cmd ≤ 255) ∧ (0 ≤ f.arg ∧ f.arg ≤ 65535)
  · obtain ⟨⟨h1, h2⟩, ⟨h3, h4⟩, ⟨h5, h6⟩, ⟨h7, h8⟩, h9, h10⟩ := hr
    refine (plain_all f w hf h1 h2 h3 h4 h5 h6 h7 h8 h9 h10).mono ?_
    rintro e w' ⟨rfl, hb⟩
    refine ⟨ret_bool ?_, hb⟩
    simp [plainB, rangesB, h1, h2, h3, h4, h5, h6, h7, h8, h9, h10]
  · refine (plain_no f w _ _ _ _ _ (kind_any _) (in_any _ _) (in_any _ _) (in_any _ _) (in_any _ _) ?_).mono ?_
    · rw [Bool.eq_false_iff]
      intro h
      simp only [Bool.and_eq_true, decide_eq_true_eq] at h
      exact hr ⟨h.1.1.1.1, h.1.1.1.2, h.1.1.2, h.1.2, h.2⟩
    · rintro e w' ⟨rfl, hb⟩
      refine ⟨ret_bool ?_, hb⟩
      symm
      rw [Bool.eq_false_iff]
      intro h
      simp only [plainB, rangesB, Bool.and_eq_true, decide_eq_true_eq] at h
      omega
end Go.Proofs.Ytfdlfkdefbfhfaa
