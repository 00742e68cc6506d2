import Derived.Test.YtfdlfkdefbfhfaaAw
set_option linter.unusedVariables false
set_option linter.unusedSimpArgs false
namespace Go.Proofs.Ytfdlfkdefbfhfaa
open Go.RowKit

set_option maxRecDepth 100000 in
set_option maxHeartbeats 2000000 in
theorem awake_any (w : World) : Calls Try.prog 8 #[] w fun e w' => e = .returned (.bool true) ∧ Below w.heap.size w w' := by
  go_enter Try.func8, Try.ntmps8
  go_wp2_with fail
  refine (conf_any 900 _).mono ?_
  rintro e W1 ⟨UA, ul, PA, rfl, hU, ⟨k1, c1, k2, c2, rfl⟩, hB1⟩
  have hU := Lib.hid hU; have hB1 := Lib.hid hB1
  go_wp2_with (refine wpList_buildR rfl 36 _ rfl [(1, .int .i64 7), (3, .int .u64 5)] rfl _ build_hello ?_)
  obtain ⟨W2, hW2⟩ : ∃ W2, W2 = W1.alloc (.cells #[.slice UA 2 2, .slice PA 1 1, .int .i64 9, .int .i64 900] 31) := ⟨_, rfl⟩
  rw [← hW2]
  have hB2 := Lib.hid (show Below w.heap.size w W2 by rw [hW2]; exact hB1.out.alloc hB1.out.size _)
  have cb := Lib.hid (show Blk W2 W1.heap.size 31 _ by rw [hW2]; exact Blk.new' W1 _ _)
  have hU := Lib.hid (show Usrs W2 _ _ _ _ by rw [hW2]; exact hU.out.below ((Below.refl _ _).alloc (Nat.le_refl _) _))
  clear hW2 hB1
  refine (frame_put_t exHello _ wf_hello plain_hello).mono ?_
  rw [len_hello]
  rintro e W3 ⟨HA, hc, rfl, hH, hB3⟩
  have cb := Lib.hid (cb.out.belowS hB3)
  have hU := Lib.hid (hU.out.below hB3)
  have hB := Lib.hid (below_then hB2.out hB2.out.size hB3)
  have hH := Lib.hid hH
  clear hB2 hB3
  go_wp2_with (refine wpList_buildR rfl 36 _ rfl [(0, .int .i64 2), (2, .int .u64 8)] rfl _ build_proof ?_)
  refine (frame_put_t exProof _ wf_proof plain_proof).mono ?_
  rw [len_proof]
  rintro e W4 ⟨RA, rc, rfl, hP, hB4⟩
  have cb := Lib.hid (cb.out.belowS hB4)
  have hU := Lib.hid (hU.out.below hB4)
  have hH := Lib.hid (hH.out.below hB4)
  have hB := Lib.hid (below_then hB.out hB.out.size hB4)
  have hP := Lib.hid hP
  clear hB4
  have sz4 : W1.heap.size < W4.heap.size := cb.out.lt
  have q0 : W4.cell? ⟨W1.heap.size, 0, none⟩ = some (.slice UA 2 2) := cb.out.cell 0
  have q1 : W4.cell? ⟨W1.heap.size, 1, none⟩ = some (.slice PA 1 1) := cb.out.cell 1
  have q2 : W4.cell? ⟨W1.heap.size, 2, none⟩ = some (.int .i64 9) := cb.out.cell 2
  have q3 : W4.cell? ⟨W1.heap.size, 3, none⟩ = some (.int .i64 900) := cb.out.cell 3
  go_wp2_with fail
  obtain ⟨W5, hW5⟩ : ∃ W5, W5 = W4.alloc (.cells #[.int .i64 0, .slice HA 12 hc, .int .u64 8, .bool false, .int .i64 0, .int .i64 0, .slice RA 43 rc, .int .u64 0, .bool false, .int .i64 0, .int .i64 1, .slice none 0 0, .int .u64 0, .bool false, .int .i64 0] 42) := ⟨_, rfl⟩
  rw [← hW5]
  have b45 : Below W4.heap.size W4 W5 := by rw [hW5]; exact (Below.refl _ _).alloc (Nat.le_refl _) _
  have hE : Hid (Evs W5 (some ⟨W4.heap.size, 0, none⟩) 3 3 [⟨0, HA, 12, hc, putF exHello, 8, false, 0⟩, ⟨0, RA, 43, rc, putF exProof, 0, false, 0⟩, ⟨1, none, 0, 0, [], 0, false, 0⟩]) := by
    refine ⟨?_, ?_⟩
    · have hbk : Blk W5 W4.heap.size 42 (evCells [⟨0, HA, 12, hc, putF exHello, 8, false, 0⟩, ⟨0, RA, 43, rc, putF exProof, 0, false, 0⟩, ⟨1, none, 0, 0, [], 0, false, 0⟩]) := by rw [hW5]; exact Blk.new' W4 _ _
      exact hbk.row 3 5 rfl (by decide)
    · intro e he
      simp only [List.mem_cons, List.not_mem_nil, or_false] at he
      rcases he with rfl | rfl | rfl
      · exact ⟨hH.out.below b45, bytes_hello, by show u64B 8; unfold u64B; decide⟩
      · exact ⟨hP.out.below b45, bytes_proof, by show u64B 0; unfold u64B; decide⟩
      · exact ⟨Row.none_ _ _, (fun x hx => by cases hx), by show u64B 0; unfold u64B; decide⟩
  have q0 := cell_keep b45 q0
  have q1 := cell_keep b45 q1
  have q2 := cell_keep b45 q2
  have q3 := cell_keep b45 q3
  have hU := Lib.hid (hU.out.below b45)
  have hB := Lib.hid (below_then hB.out hB.out.size b45)
  clear hW5 b45 sz4 cb hH hP
  have hwho := Lib.hid (who_ex k1 k2 HA RA c1 c2 hc rc)
  have hstr := Lib.hid (strip_ex k1 k2 HA RA c1 c2 hc rc)
  have hcle := Lib.hid (clear_ex HA RA hc rc)
  have hpart := Lib.hid (part_whose UA 2 2 _ (.slice PA 1 1) 9 900 _ 3 3 _ W5 hU.out hE.out (by decide) rfl)
  refine hpart.out.mono ?_
  rintro e W6 ⟨v6, rfl, hv6, hB6⟩
  rw [hwho.out] at hv6
  obtain ⟨A6, c6, rfl, hR6⟩ := Row.of_own hv6
  obtain ⟨ib, ioff, rfl, hic⟩ := hR6.ints64 (by decide)
  have r0 := hic 0 (by decide)
  have r1 := hic 1 (by decide)
  have r2 := hic 2 (by decide)
  simp only [nth, List.getD_cons_zero, List.getD_cons_succ, Nat.add_zero] at r0 r1 r2
  have n6 := hR6.le; have k6 := hR6.capLe
  have q0 := cell_keep hB6 q0
  have q1 := cell_keep hB6 q1
  have q2 := cell_keep hB6 q2
  have q3 := cell_keep hB6 q3
  have hU := Lib.hid (hU.out.below hB6)
  have hE := Lib.hid (hE.out.below hB6)
  have hB := Lib.hid (below_then hB.out hB.out.size hB6)
  clear hic hv6 hR6 hpart hB6
  go_wp2_with fail
  have hps := Lib.hid (part_strip UA 2 2 _ (.slice PA 1 1) 9 900 _ 3 3 _ W6 hU.out hE.out (by decide) rfl (by
    intro e he
    simp only [List.mem_cons, List.not_mem_nil, or_false] at he
    rcases he with rfl | rfl | rfl <;> exact Nat.le_of_ble_eq_true rfl))
  refine hps.out.mono ?_
  rintro e W7 ⟨v7, out, rfl, hv7, hok, hout, hB7⟩
  rw [hwho.out, hstr.out] at hout
  obtain ⟨x, rfl, hx⟩ : ∃ x, out = [x] ∧ x.kind = 1 := by
    cases out with
    | nil => simp at hout
    | cons x t =>
      cases t with
      | nil => simp only [List.map_cons, List.map_nil, List.cons.injEq, and_true] at hout; exact ⟨x, rfl, congrArg Ev.kind hout⟩
      | cons y t => simp at hout
  obtain ⟨A7, c7, rfl, hR7⟩ := Row.of_own hv7
  simp only [List.length_cons, List.length_nil, Nat.zero_add] at hR7
  obtain ⟨sb, soff, rfl, hsc⟩ := hR7.cell (by decide)
  have z0 := hsc 0 (.int .i64 1) (by simp [evCells, Ev.cells, hx])
  simp only [Nat.add_zero] at z0
  have n7 := hR7.le; have k7 := hR7.capLe
  have r0 := cell_keep hB7 r0
  have r1 := cell_keep hB7 r1
  have r2 := cell_keep hB7 r2
  have hE := Lib.hid (hE.out.below hB7)
  have hB := Lib.hid (below_then hB.out hB.out.size hB7)
  clear hps hok hout hx hv7 hR7 hsc hB7 q0 q1 q2 q3 hU
  have hcl := Lib.hid (fun W (HB : Below W7.heap.size W7 W) => part_clear _ 3 3 _ W (hE.out.below HB) (by decide))
  simp only [List.length_cons, List.length_nil, Nat.zero_add]
  go_wp2_with (go_at_call 19; refine (hcl.out _ (Below.refl _ _)).mono ?_; rintro e W8 ⟨rfl, hB8⟩; have hB8 := Lib.hid hB8; rw [hcle.out])
  go_ret
  exact ⟨rfl, below_then hB.out hB.out.size hB8.out⟩
end Go.Proofs.Ytfdlfkdefbfhfaa
