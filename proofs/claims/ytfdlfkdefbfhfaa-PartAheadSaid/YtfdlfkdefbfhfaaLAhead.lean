import Derived.Test.YtfdlfkdefbfhfaaLaw
set_option linter.unusedVariables false
set_option linter.unusedSimpArgs false
namespace Go.Proofs.Ytfdlfkdefbfhfaa
open Go.RowKit

set_option maxRecDepth 100000 in
set_option maxHeartbeats 2000000 in
theorem law_ahead (A : Option Addr) (n cap : Nat) (l : List Usr) (E : Option Addr) (m ecap : Nat) (es : List Ev) (k : Int) (w : World) (HU : Usrs w A n cap l) (HE : Evs w E m ecap es) (hk1 : -9223372036854775808 ≤ k) (hk2 : k ≤ 9223372036854775807) :
    Calls Try.prog 4 #[.slice A n cap, .slice E m ecap, .int .i64 k] w (Done w) := by
  (
    have hB0 := fun W (_ : Below w.heap.size w W) => True
    have hfu := Lib.hid (fun W (HB : Below w.heap.size w W) => few_users A n cap l W (HU.below HB))
    have hfe := Lib.hid (fun W (HB : Below w.heap.size w W) => few_evs E m ecap es 40 W (HE.below HB) (by decide))
    obtain ⟨bu, hbu⟩ : ∃ b, fewU l = b := ⟨_, rfl⟩
    obtain ⟨be, hbe⟩ : ∃ b, fewE es 40 = b := ⟨_, rfl⟩
    rw [hbu] at hfu
    rw [hbe] at hfe
    clear hB0)
  have hm1 := HE.row.le
  have hm2 := HE.row.capLe
  cases bu with
  | false =>
    clear hbu hbe HU HE
    go_enter Try.func4, Try.ntmps4
    go_wp2_with (first | (go_at_call 8; refine (awake_any _).mono ?_; rintro e W1 ⟨rfl, hB1⟩; have hB1 := Lib.hid hB1) | (go_at_call 9; refine (hfu.out _ hB1.out).mono ?_; rintro e W2 ⟨rfl, hq⟩; replace hq := hq.symm; subst hq) | (go_at_call 10; refine (hfe.out _ hB1.out).mono ?_; rintro e W2 ⟨rfl, hq⟩; replace hq := hq.symm; subst hq))
    go_ret
    exact ⟨rfl, hB1.out⟩
  | true =>
    cases be with
    | false =>
      clear hbu hbe HU HE
      go_enter Try.func4, Try.ntmps4
      go_wp2_with (first | (go_at_call 8; refine (awake_any _).mono ?_; rintro e W1 ⟨rfl, hB1⟩; have hB1 := Lib.hid hB1) | (go_at_call 9; refine (hfu.out _ hB1.out).mono ?_; rintro e W2 ⟨rfl, hq⟩; replace hq := hq.symm; subst hq) | (go_at_call 10; refine (hfe.out _ hB1.out).mono ?_; rintro e W2 ⟨rfl, hq⟩; replace hq := hq.symm; subst hq))
      go_ret
      exact ⟨rfl, hB1.out⟩
    | true =>
      have hm := fewE_len es 40 hbe
      rw [HE.len] at hm
      by_cases h0 : k < 0
      · clear hbu hbe HU HE
        go_enter Try.func4, Try.ntmps4
        go_wp2_with (first | (go_at_call 8; refine (awake_any _).mono ?_; rintro e W1 ⟨rfl, hB1⟩; have hB1 := Lib.hid hB1) | (go_at_call 9; refine (hfu.out _ hB1.out).mono ?_; rintro e W2 ⟨rfl, hq⟩; replace hq := hq.symm; subst hq) | (go_at_call 10; refine (hfe.out _ hB1.out).mono ?_; rintro e W2 ⟨rfl, hq⟩; replace hq := hq.symm; subst hq))
        go_ret
        exact ⟨rfl, hB1.out⟩
      · obtain ⟨k, rfl⟩ := Int.eq_ofNat_of_zero_le (show 0 ≤ k by omega)
        by_cases h1 : k > m
        · clear hbu hbe HU HE
          go_enter Try.func4, Try.ntmps4
          go_wp2_with (first | (go_at_call 8; refine (awake_any _).mono ?_; rintro e W1 ⟨rfl, hB1⟩; have hB1 := Lib.hid hB1) | (go_at_call 9; refine (hfu.out _ hB1.out).mono ?_; rintro e W2 ⟨rfl, hq⟩; replace hq := hq.symm; subst hq) | (go_at_call 10; refine (hfe.out _ hB1.out).mono ?_; rintro e W2 ⟨rfl, hq⟩; replace hq := hq.symm; subst hq))
          go_ret
          exact ⟨rfl, hB1.out⟩
        · have hU := Lib.hid HU; have hE := Lib.hid HE
          have hEk := Lib.hid (HE.take k (by omega))
          clear hbu hbe HU HE h0
          go_enter Try.func4, Try.ntmps4
          go_wp2_with (first | (go_at_call 8; refine (awake_any _).mono ?_; rintro e W1 ⟨rfl, hB1⟩; have hB1 := Lib.hid hB1) | (go_at_call 9; refine (hfu.out _ hB1.out).mono ?_; rintro e W2 ⟨rfl, hq⟩; replace hq := hq.symm; subst hq) | (go_at_call 10; refine (hfe.out _ hB1.out).mono ?_; rintro e W2 ⟨rfl, hq⟩; replace hq := hq.symm; subst hq))
          refine (part_whose A n cap l (.slice none 0 0) 0 0 E m ecap es W1 (hU.out.below hB1.out) (hE.out.below hB1.out) (by omega) rfl).mono ?_
          rintro e W2 ⟨v2, rfl, hv2, hB2⟩
          obtain ⟨A2, c2, rfl, hR2⟩ := Row.of_own hv2
          have hBB := Lib.hid (below_then hB1.out hB1.out.size hB2)
          have hR2 := Lib.hid hR2
          have g1 := hR2.out.le; have g2 := hR2.out.capLe
          clear hv2 hB2 hB1
          go_wp2_with fail
          refine (part_whose A n cap l (.slice none 0 0) 0 0 E k ecap (es.take k) W2 (hU.out.below hBB.out) (hEk.out.below hBB.out) (by omega) rfl).mono ?_
          rintro e W3 ⟨v3, rfl, hv3, hB3⟩
          obtain ⟨A3, c3, rfl, hR3⟩ := Row.of_own hv3
          have hB3w := Lib.hid (below_then hBB.out hBB.out.size hB3)
          have hR2 := Lib.hid ((hR2.out.below hB3).take k (by omega))
          have hR3 := Lib.hid hR3
          clear hv3 hB3 hBB
          go_wp2_with fail
          have hR2' : Row W3 A2 k c2 1 (nums .i64 ((whoseL l [] es).take k)) := by
            have := hR2.out
            rw [Nat.mul_one] at this
            simpa [nums] using this
          refine (ref_ints _ _ _ _ _ _ _ _ W3 hR3.out hR2').mono ?_
          rintro e W4 ⟨rfl, hB4⟩
          rw [whoseL_take, decide_eq_true rfl]
          have hB4 := Lib.hid (below_then hB3w.out hB3w.out.size hB4)
          go_wp2
          go_ret
          exact ⟨rfl, hB4.out⟩
end Go.Proofs.Ytfdlfkdefbfhfaa
