import Derived.Test.YtfdlfkdefbfhfaaPut
set_option linter.unusedVariables false
set_option linter.unusedSimpArgs false
namespace Go.Proofs.Ytfdlfkdefbfhfaa
open Go.RowKit

theorem nth_ext (l m : List Int) (hl : l.length = m.length) (h : ∀ i, i < l.length → nth l i = nth m i) : l = m := by
  apply List.ext_getElem hl
  intro i h1 h2
  have := h i h1
  rwa [nth_eq l i h1, nth_eq m i h2] at this

/-- slices.Equal of bytes. -/
theorem equal_u8 (A A' : Option Addr) (n n' cap cap' : Nat) (l m : List Int) (w : World) (H : Row w A n cap 1 (nums .u8 l)) (H' : Row w A' n' cap' 1 (nums .u8 m)) :
    Calls Try.prog 26 #[.slice A n cap, .slice A' n' cap'] w fun e w' => e = .returned (.bool (decide (l = m))) ∧ Below w.heap.size w w' := by
  have hl := H.nums_at
  have hm := H'.nums_at
  have hn := H.le
  have hcap := H.capLe
  have hn' := H'.le
  have hcap' := H'.capLe
  by_cases hne : n = n'
  · subst hne
    go_enter Try.func26, Try.ntmps26
    go_wp2
    go_loopw [13] (fun i wr => ∃ j : Nat, j ≤ n ∧ i = .int .i64 j ∧ (∀ q, q < j → nth l q = nth m q) ∧ Below w.heap.size w wr) (fun i _ => n - (intOf i).toNat)
    case atStart => exact ⟨0, Nat.zero_le _, rfl, fun q h => by omega, Below.refl _ _⟩
    case round =>
      obtain ⟨j, hj, rfl, hq, HB⟩ := hrel
      have hB := Lib.hid HB
      have hQ := Lib.hid hq
      clear HB hq
      by_cases hjn : j < n
      · obtain ⟨b, off, rfl, hc⟩ := H.ints (by omega)
        obtain ⟨b', off', rfl, hc'⟩ := H'.ints (by omega)
        have c1 := cell_keep hB.out (hc j (by omega))
        have c2 := cell_keep hB.out (hc' j (by omega))
        clear hc hc'
        by_cases he : nth l j = nth m j
        · go_wp2
          go_quiet (fail)
          go_wp2
          refine ⟨⟨j + 1, by omega, by go_num, ?_, ?_⟩, by simp [intOf]; omega⟩
          · intro q h
            rcases Nat.lt_or_ge q j with h1 | h1
            · exact hQ.out q h1
            · obtain rfl : q = j := by omega
              exact he
          · exact ⟨hB.out.os, hB.out.tape, hB.out.output, hB.out.size, hB.out.block⟩
        · go_wp2
          go_quiet (fail)
          go_wp2
          go_ret
          refine ⟨ret_bool ?_, ⟨hB.out.os, hB.out.tape, hB.out.output, hB.out.size, hB.out.block⟩⟩
          simp; intro e; exact he (by rw [e])
      · obtain rfl : j = n := by omega
        go_wp2
        go_ret
        refine ⟨ret_bool ?_, hB.out⟩
        simp; exact nth_ext l m (by omega) (fun i h => hQ.out i (by omega))
  · go_enter Try.func26, Try.ntmps26
    go_wp2
    go_ret
    exact ⟨ret_bool (by simp; intro e; subst e; omega), Below.refl _ _⟩


/-- how long a frame is, as its first two bytes tell (with them) -/
def longL (l : List Int) : Int := if l.length < 2 then -1 else if be (l.take 2) > l.length - 2 then -1 else 2 + be (l.take 2)
theorem be_take2 (l : List Int) (h : IsBytes l) : 0 ≤ be (l.take 2) ∧ be (l.take 2) < 65536 := by
  have h1 := be_bound _ (h.take 2)
  refine ⟨h1.1, Int.lt_of_lt_of_le h1.2 ?_⟩
  have : (l.take 2).length ≤ 2 := by rw [List.length_take]; omega
  have h3 : (l.take 2).length = 0 ∨ (l.take 2).length = 1 ∨ (l.take 2).length = 2 := by omega
  rcases h3 with h | h | h <;> rw [h] <;> decide

theorem frame_long (A : Option Addr) (n cap : Nat) (l : List Int) (w : World) (H : Row w A n cap 1 (nums .u8 l)) (hb : IsBytes l) :
    Calls Try.prog 23 #[.slice A n cap] w fun e w' => e = .returned (.int .i64 (longL l)) ∧ w = w' := by
  have hl := H.nums_at
  have hn := H.le
  have hcap := H.capLe
  have h2 := be_take2 l hb
  by_cases h : n < 2
  · have hL : Hid (longL l = -1) := by
      have : longL l = -1 := by unfold longL; rw [if_pos (by omega)]
      exact this
    go_enter Try.func23, Try.ntmps23
    go_wp2_with (go_at_call 25; refine (num_get_no A n cap 0 2 w hn hcap (by decide) (by decide) (by decide) (by omega) (by omega)).mono ?_; rintro e w' ⟨rfl, rfl⟩)
    go_wp2
    go_ret
    exact ⟨by rw [hL.out]; rfl, rfl⟩
  · have hg := num_get_t A n cap l 0 2 w H hb (by decide) (by decide) (by decide) (by omega)
    rw [show ((l.drop (0 : Int).toNat).take (2 : Int).toNat) = l.take 2 from rfl] at hg
    have hG := Lib.hid hg
    clear hg
    by_cases hlt : be (l.take 2) > l.length - 2
    · have hL : Hid (longL l = -1) := by
        have : longL l = -1 := by unfold longL; rw [if_neg (by omega), if_pos hlt]
        exact this
      generalize be (l.take 2) = N at *
      go_enter Try.func23, Try.ntmps23
      go_wp2_with (go_at_call 25; refine hG.out.mono ?_; rintro e w' ⟨rfl, rfl⟩)
      go_wp2
      go_ret
      exact ⟨by rw [hL.out]; rfl, rfl⟩
    · have hL : Hid (longL l = 2 + be (l.take 2)) := by
        have : longL l = 2 + be (l.take 2) := by unfold longL; rw [if_neg (by omega), if_neg hlt]
        exact this
      generalize be (l.take 2) = N at *
      go_enter Try.func23, Try.ntmps23
      go_wp2_with (go_at_call 25; refine hG.out.mono ?_; rintro e w' ⟨rfl, rfl⟩)
      go_wp2
      go_ret
      exact ⟨by rw [hL.out]; rfl, rfl⟩

end Go.Proofs.Ytfdlfkdefbfhfaa
