import Derived.Test.YtfdlfkdefbfhfaaWhoseL
set_option linter.unusedVariables false
set_option linter.unusedSimpArgs false
namespace Go.Proofs.Ytfdlfkdefbfhfaa
open Go.RowKit

theorem Row.ints64 {w : World} {A : Option Addr} {n cap : Nat} {l : List Int} (h : Row w A n cap 1 (nums .i64 l)) (hn : 0 < n) :
    ∃ b off, A = some ⟨b, off, none⟩ ∧ ∀ j, j < n → w.cell? ⟨b, off + j, none⟩ = some (.int .i64 (nth l j)) := by
  obtain ⟨b, off, e, hc⟩ := h.ints hn
  exact ⟨b, off, e, hc⟩

/-- pelicanref05.Ints. -/
theorem ref_ints (A A' : Option Addr) (n n' cap cap' : Nat) (l m : List Int) (w : World) (H : Row w A n cap 1 (nums .i64 l)) (H' : Row w A' n' cap' 1 (nums .i64 m)) :
    Calls Try.prog 14 #[.slice A n cap, .slice A' n' cap'] w fun e w' => e = .returned (.bool (decide (l = m))) ∧ Below w.heap.size w w' := by
  have hl := H.nums_at
  have hm := H'.nums_at
  have hn := H.le
  have hcap := H.capLe
  have hn' := H'.le
  have hcap' := H'.capLe
  by_cases hne : n = n'
  · subst hne
    go_enter Try.func14, Try.ntmps14
    go_wp2
    go_loopw [5] (fun i wr => ∃ j : Nat, j ≤ n ∧ i = .int .i64 j ∧ (∀ q, q < j → nth l q = nth m q) ∧ Below w.heap.size w wr) (fun i _ => n - (intOf i).toNat)
    case atStart => exact ⟨0, Nat.zero_le _, rfl, fun q h => by omega, Below.refl _ _⟩
    case round =>
      obtain ⟨j, hj, rfl, hq, HB⟩ := hrel
      have hB := Lib.hid HB
      have hQ := Lib.hid hq
      clear HB hq
      by_cases hjn : j < n
      · obtain ⟨b, off, rfl, hc⟩ := H.ints64 (by omega)
        obtain ⟨b', off', rfl, hc'⟩ := H'.ints64 (by omega)
        have c1 := cell_keep hB.out (hc j (by omega))
        have c2 := cell_keep hB.out (hc' j (by omega))
        clear hc hc'
        by_cases he : nth l j = nth m j
        · go_wp2
          go_quiet (fail)
          go_wp2
          refine ⟨⟨j + 1, by omega, by go_num, ?_, ?_⟩, by simp [intOf]; omega⟩
          · intro q h
            rcases Nat.lt_or_ge q j with h1 | h1
            · exact hQ.out q h1
            · obtain rfl : q = j := by omega
              exact he
          · exact ⟨hB.out.os, hB.out.tape, hB.out.output, hB.out.size, hB.out.block⟩
        · go_wp2
          go_quiet (fail)
          go_wp2
          go_ret
          refine ⟨ret_bool ?_, ⟨hB.out.os, hB.out.tape, hB.out.output, hB.out.size, hB.out.block⟩⟩
          simp; intro e; exact he (by rw [e])
      · obtain rfl : j = n := by omega
        go_wp2
        go_ret
        refine ⟨ret_bool ?_, hB.out⟩
        simp; exact nth_ext l m (by omega) (fun i h => hQ.out i (by omega))
  · go_enter Try.func14, Try.ntmps14
    go_wp2
    go_ret
    exact ⟨ret_bool (by simp; intro e; subst e; omega), Below.refl _ _⟩

/-- pelicanlaw08.Few. -/
def fewU (l : List Usr) : Bool := decide (∀ u ∈ l.take 11, u.kn ≤ 100) && decide (l.length ≤ 10)
theorem take_snoc_all {α : Type} (p : α → Prop) (l : List α) (j : Nat) (x : α) (h : l[j]? = some x) (h1 : ∀ u ∈ l.take j, p u) (h2 : p x) : ∀ u ∈ l.take (j + 1), p u := by
  intro u hu
  rw [List.take_add_one, h] at hu
  rcases List.mem_append.1 hu with hu | hu
  · exact h1 u hu
  · simp at hu; subst hu; exact h2
set_option maxHeartbeats 1000000 in
theorem few_users (A : Option Addr) (n cap : Nat) (l : List Usr) (w : World) (H : Usrs w A n cap l) :
    Calls Try.prog 9 #[.slice A n cap] w fun e w' => e = .returned (.bool (fewU l)) ∧ w' = w := by
  have hl := H.len
  have hn := H.row.le
  have hcap := H.row.capLe
  have HU := Lib.hid H; have HL := Lib.hid hl
  clear H hl
  go_enter Try.func9, Try.ntmps9
  go_wp2
  go_loopw [3] (fun i wr => wr = w ∧ ∃ j : Nat, j ≤ n ∧ j ≤ 11 ∧ i = .int .i64 j ∧ ∀ u ∈ l.take j, u.kn ≤ 100) (fun i _ => n - (intOf i).toNat)
  case atStart => exact ⟨rfl, 0, Nat.zero_le _, by omega, rfl, fun u hu => by simp at hu⟩
  case round =>
    obtain ⟨rfl, j, hj, hj11, rfl, hq⟩ := hrel
    have hQ := Lib.hid hq
    clear hq
    by_cases hjn : j < n
    · by_cases hj10 : j ≤ 10
      · obtain ⟨x, hx⟩ : ∃ x, l[j]? = some x := ⟨_, List.getElem?_eq_getElem (by rw [HL.out]; exact hjn)⟩
        obtain ⟨b, off, rfl, hc⟩ := HU.out.row.cell (by omega)
        have p2 := hc _ _ (usrCells_at l j x hx 2 _ rfl)
        have hxo := HU.out.ok x (List.mem_of_getElem? hx)
        unfold UsrOk at hxo
        obtain ⟨hk1, hk2⟩ := hxo
        simp only [← Nat.add_assoc] at p2
        have hx := Lib.hid hx
        clear hc
        by_cases hk : x.kn ≤ 100
        · go_wp2
          exact ⟨⟨by first | rfl | trivial, j + 1, by omega, by omega, by go_num, take_snoc_all _ l j x hx.out hQ.out hk⟩, by simp [intOf]; omega⟩
        · go_wp2
          go_ret
          refine ⟨ret_bool ?_, rfl⟩
          unfold fewU
          have : ¬ ∀ u ∈ l.take 11, u.kn ≤ 100 := by
            intro h
            refine hk (h x ?_)
            refine List.mem_of_getElem? (i := j) ?_
            rw [List.getElem?_take, if_pos (by omega)]
            exact hx.out
          rw [decide_eq_false this]; rfl
      · go_wp2
        go_ret
        refine ⟨ret_bool ?_, rfl⟩
        unfold fewU
        rw [HL.out, decide_eq_false (show ¬ n ≤ 10 by omega), Bool.and_false]
        first | rfl | exact decide_eq_false (by omega)
    · obtain rfl : j = n := by omega
      go_wp2
      go_ret
      refine ⟨ret_bool ?_, rfl⟩
      unfold fewU
      have h1 : l.take 11 = l.take j := by rw [List.take_of_length_le (by rw [HL.out]; omega), List.take_of_length_le (by rw [HL.out]; omega)]
      rw [h1, decide_eq_true hQ.out, HL.out, Bool.true_and]
      exact decide_eq_decide.2 (by omega)

/-- pelicanlaw22.FewEvs. -/
def rnsB (l : List Ev) : Bool := l.all (fun e => decide (e.rn ≤ 200))
theorem rnsB_t (l : List Ev) (h : ∀ e ∈ l, e.rn ≤ 200) : rnsB l = true := by
  unfold rnsB; rw [List.all_eq_true]; intro x hx; exact decide_eq_true (h x hx)
theorem rnsB_f (l : List Ev) (h : ¬ ∀ e ∈ l, e.rn ≤ 200) : rnsB l = false := by
  cases hb : rnsB l with
  | false => rfl
  | true => exact absurd (fun x hx => by unfold rnsB at hb; rw [List.all_eq_true] at hb; exact of_decide_eq_true (hb x hx)) h
def fewE (l : List Ev) (k : Nat) : Bool := rnsB (l.take (k + 1)) && decide (l.length ≤ k)
set_option maxHeartbeats 1000000 in
theorem few_evs (A : Option Addr) (n cap : Nat) (l : List Ev) (k : Nat) (w : World) (H : Evs w A n cap l) (hk : k ≤ 1000) :
    Calls Try.prog 10 #[.slice A n cap, .int .i64 k] w fun e w' => e = .returned (.bool (fewE l k)) ∧ w' = w := by
  have hl := H.len
  have hn := H.row.le
  have hcap := H.row.capLe
  have HU := Lib.hid H; have HL := Lib.hid hl
  clear H hl
  go_enter Try.func10, Try.ntmps10
  go_wp2
  go_loopw [5] (fun i wr => wr = w ∧ ∃ j : Nat, j ≤ n ∧ j ≤ k + 1 ∧ i = .int .i64 j ∧ ∀ u ∈ l.take j, u.rn ≤ 200) (fun i _ => n - (intOf i).toNat)
  case atStart => exact ⟨rfl, 0, Nat.zero_le _, by omega, rfl, fun u hu => by simp at hu⟩
  case round =>
    obtain ⟨rfl, j, hj, hj11, rfl, hq⟩ := hrel
    have hQ := Lib.hid hq
    clear hq
    by_cases hjn : j < n
    · by_cases hj10 : j ≤ k
      · obtain ⟨x, hx⟩ : ∃ x, l[j]? = some x := ⟨_, List.getElem?_eq_getElem (by rw [HL.out]; exact hjn)⟩
        obtain ⟨b, off, rfl, hc⟩ := HU.out.row.cell (by omega)
        have p2 := hc _ _ (evCells_at l j x hx 1 _ rfl)
        have hxo := HU.out.ok x (List.mem_of_getElem? hx)
        have hk1 := hxo.row.le
        have hk2 := hxo.row.capLe
        simp only [← Nat.add_assoc] at p2
        have hx := Lib.hid hx
        clear hc hxo
        by_cases hk : x.rn ≤ 200
        · go_wp2
          exact ⟨⟨by first | rfl | trivial, j + 1, by omega, by omega, by go_num, take_snoc_all _ l j x hx.out hQ.out hk⟩, by simp [intOf]; omega⟩
        · go_wp2
          go_ret
          refine ⟨ret_bool ?_, rfl⟩
          unfold fewE
          have : ¬ ∀ u ∈ l.take (k + 1), u.rn ≤ 200 := by
            intro h
            refine hk (h x ?_)
            refine List.mem_of_getElem? (i := j) ?_
            rw [List.getElem?_take, if_pos (by omega)]
            exact hx.out
          rw [rnsB_f _ this]; rfl
      · go_wp2
        go_ret
        refine ⟨ret_bool ?_, rfl⟩
        unfold fewE
        rw [HL.out, decide_eq_false (show ¬ n ≤ k by omega), Bool.and_false]
        try (exact decide_eq_false (by omega))
    · obtain rfl : j = n := by omega
      go_wp2
      go_ret
      refine ⟨ret_bool ?_, rfl⟩
      unfold fewE
      have h1 : l.take (k + 1) = l.take j := by rw [List.take_of_length_le (by rw [HL.out]; omega), List.take_of_length_le (by rw [HL.out]; omega)]
      rw [h1, rnsB_t _ hQ.out, HL.out, Bool.true_and]
      try (exact decide_eq_decide.2 (by omega))
end Go.Proofs.Ytfdlfkdefbfhfaa
