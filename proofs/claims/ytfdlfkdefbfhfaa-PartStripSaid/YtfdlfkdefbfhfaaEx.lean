import Derived.Test.YtfdlfkdefbfhfaaSameW
set_option linter.unusedVariables false
set_option linter.unusedSimpArgs false
namespace Go.Proofs.Ytfdlfkdefbfhfaa
open Go.RowKit

set_option maxRecDepth 100000 in
set_option maxHeartbeats 1000000 in
theorem key16 (c : Int) (w : World) : Calls Try.prog 34 #[.int .u8 c] w fun e w' =>
    ∃ v, e = .returned v ∧ w'.ownsRow w.heap.size 5 1 v 16 (nums .u8 (List.replicate 16 c)) ∧ Below w.heap.size w w' := by
  go_enter Try.func34, Try.ntmps34
  go_wp2
  go_loopw [3, 4] (fun v i wr => ∃ j : Nat, j ≤ 16 ∧ i = .int .i64 j ∧ wr.ownsRow w.heap.size 5 1 v j (nums .u8 (List.replicate j c)) ∧ Below w.heap.size w wr) (fun _ i _ => 16 - (intOf i).toNat)
  case atStart => exact ⟨0, Nat.zero_le _, rfl, World.ownsRow_nil _ _ _ _, Below.refl _ _⟩
  case round =>
    obtain ⟨j, hj, rfl, hOwn, hB⟩ := hrel
    have hB := Lib.hid hB
    obtain ⟨hA, hc, rfl, _⟩ := Row.of_own hOwn
    have hOwn := Lib.hid hOwn
    by_cases hjn : j < 16
    · go_wp2_with (at_builtin; go_must (refine wpList_app (w0 := w) w.heap.size rfl _ _ 40 rfl 5 (.int .u8 0) 1 1 Try.underlying40 info_u8 rfl (by decide) (by decide) _ j (nums .u8 (List.replicate j c)) _ 1 1 [.int .u8 c] rfl rfl ?h12 ?h13 ?h14 ?h15 ?h16 ?h17 ?h18))
      case h12 => exact hOwn.out.alloc _
      case h13 => simpa using Row.new wr 5 1 1 #[.int .u8 c] rfl (by decide)
      case h14 => simp [Value.oneCell']
      case h15 => exact hB.out.alloc hB.out.size _
      case h16 => have := hB.out.size; simp; omega
      case h17 => omega
      case h18 =>
      intro v' W6 hown hB6 _ _
      obtain ⟨A6, c6, rfl, _⟩ := Row.of_own hown
      have hown := Lib.hid hown; have hB6 := Lib.hid hB6
      go_wp2
      refine ⟨⟨j + 1, by omega, by go_num, ?_, hB6.out⟩, by simp [intOf]; omega⟩
      rw [List.replicate_succ', nums_app]
      exact hown.out
    · obtain rfl : j = 16 := by omega
      go_wp2
      go_ret
      exact ⟨_, rfl, hOwn.out, hB.out⟩

set_option maxRecDepth 100000 in
set_option maxHeartbeats 1000000 in
theorem two_any (w : World) : Calls Try.prog 35 #[] w fun e w' =>
    ∃ A B, e = .returned (.agg #[.slice A 2 2, .slice B 2 2, .int .i64 3, .int .i64 2, .int .i64 4]) ∧ Below w.heap.size w w' := by
  go_enter Try.func35, Try.ntmps35
  go_wp2
  refine bodyPost_ret (v := .agg #[.slice (some ⟨w.heap.size + 1, 0, none⟩) 2 2, .slice (some ⟨w.heap.size + 2, 0, none⟩) 2 2, .int .i64 3, .int .i64 2, .int .i64 4]) (by simp [results, Try.results35, go_sem]) rfl ⟨_, _, rfl, ?_⟩
  exact (((Below.refl _ _).alloc (Nat.le_refl _) _).alloc (by simp) _).alloc (by simp; omega) _

theorem size_conf : (Try.prog.info? 31).map (·.size) = some 4 := by kernel_rfl
theorem zero_conf : (Try.prog.info? 31).map (·.zero) = some (some (.agg #[.slice none 0 0, .slice none 0 0, .int .i64 0, .int .i64 0])) := by kernel_rfl
set_option maxRecDepth 100000 in
set_option maxHeartbeats 1000000 in
theorem conf_any (room : Int) (w : World) : Calls Try.prog 20 #[.int .i64 room] w fun e w' =>
    ∃ A l P, e = .returned (.agg #[.slice A 2 2, .slice P 1 1, .int .i64 9, .int .i64 room]) ∧ Usrs w' A 2 2 l ∧ (∃ k1 c1 k2 c2, l = [⟨3, 2, k1, 16, c1⟩, ⟨7, 0, k2, 16, c2⟩]) ∧ Below w.heap.size w w' := by
  go_enter Try.func20, Try.ntmps20
  go_wp2_with (refine wpList_allocS (w0 := w) w.heap.size rfl 31 rfl [.slice none 0 0, .slice none 0 0, .int .i64 0, .int .i64 0] _ zero_conf rfl (Below.refl _ _) (Nat.le_refl _) ?h1)
  case h1 =>
  intro W0 b0 _ B0 s0
  have b0 := Lib.hid b0; have B0 := Lib.hid B0
  go_wp2_with fail
  refine (key16 1 _).mono ?_
  rintro e W1 ⟨v1, rfl, hv1, hB1⟩
  obtain ⟨A1, c1, rfl, hR1⟩ := Row.of_own hv1
  have b1 := Lib.hid (b0.out.belowS hB1)
  have B1 := Lib.hid (below_then B0.out (by omega) hB1)
  have l1 := Lib.hid (And.intro hR1.le hR1.capLe)
  have s1 : w.heap.size < W1.heap.size := by have := hB1.size; omega
  clear hv1 hR1 b0 B0 hB1 s0
  go_wp2_with fail
  refine (key16 2 _).mono ?_
  rintro e W2 ⟨v2, rfl, hv2, hB2⟩
  obtain ⟨A2, c2, rfl, hR2⟩ := Row.of_own hv2
  have b2 := Lib.hid (b1.out.belowS hB2)
  have B2 := Lib.hid (below_then B1.out (by omega) hB2)
  have l2 := Lib.hid (And.intro hR2.le hR2.capLe)
  have s2 : w.heap.size < W2.heap.size := by have := hB2.size; omega
  clear hv2 hR2 b1 B1 hB2 s1
  go_wp2_with fail
  obtain ⟨W3, hW3⟩ : ∃ W3, W3 = W2.alloc (.cells #[.int .i64 3, .int .i64 2, .slice A1 16 c1, .int .i64 7, .int .i64 0, .slice A2 16 c2] 56) := ⟨_, rfl⟩
  rw [← hW3]
  have s3 : W3.heap.size = W2.heap.size + 1 := by rw [hW3]; simp
  have b3 := Lib.hid (show Blk W3 w.heap.size 31 _ by rw [hW3]; exact b2.out.alloc _)
  have u3 := Lib.hid (show Blk W3 W2.heap.size 56 _ by rw [hW3]; exact Blk.new' W2 _ _)
  have B3 := Lib.hid (show Below w.heap.size w W3 by rw [hW3]; exact B2.out.alloc (by omega) _)
  clear hW3 b2 B2
  refine (two_any _).mono ?_
  rintro e W4 ⟨PA, PB, rfl, hB4⟩
  have b4 := Lib.hid (b3.out.belowS hB4)
  have u4 := Lib.hid (u3.out.belowS hB4)
  have B4 := Lib.hid (below_then B3.out (by omega) hB4)
  have s4 : W2.heap.size < W4.heap.size := by have := hB4.size; omega
  clear b3 u3 B3 hB4 s3
  go_wp2_with (refine wpList_storeW (w0 := w) w.heap.size rfl 31 _ _ rfl w.heap.size 0 rfl [.slice (some ⟨W2.heap.size, 0, none⟩) 2 2, .slice (some ⟨W4.heap.size, 0, none⟩) 1 1, .int .i64 9, .int .i64 room] rfl size_conf ?h21 31 [.slice none 0 0, .slice none 0 0, .int .i64 0, .int .i64 0] (b4.out.alloc _) (Nat.le_refl 4) (B4.out.alloc (by omega) _) (Nat.le_refl _) _ rfl ?h22)
  case h21 => simp [Value.oneCell']
  case h22 =>
  intro W5 b5 k5 B5 s5
  have k6 : W4.grownBy W5 (some w.heap.size) := grown_trans (grown_of_below ((Below.refl _ _).alloc (Nat.le_refl _) _) _) k5
  have u5 := Lib.hid (u4.out.grown k6 (by simp; omega))
  have b5 := Lib.hid b5; have B5 := Lib.hid B5
  clear k5 k6
  go_wp2
  refine bodyPost_ret (results_cell_row (cs := #[.slice (some ⟨W2.heap.size, 0, none⟩) 2 2, .slice (some ⟨W4.heap.size, 0, none⟩) 1 1, .int .i64 9, .int .i64 room]) (t := 31) (fr := (0, 0)) rfl _ _ w.heap.size (d := _) rfl b5.out Try.underlying31 rfl size_conf) rfl ⟨_, [⟨3, 2, A1, 16, c1⟩, ⟨7, 0, A2, 16, c2⟩], _, rfl, ?_, ⟨_, _, _, _, rfl⟩, B5.out⟩
  refine ⟨u5.out.row 2 3 rfl (by decide), fun u hu => ?_⟩
  simp only [List.mem_cons, List.not_mem_nil, or_false] at hu
  rcases hu with rfl | rfl
  · exact l1.out
  · exact l2.out
end Go.Proofs.Ytfdlfkdefbfhfaa
