import Derived.Test.YtfdlfkdefbfhfaaNum
import Derived.Deep.DeepMust
set_option linter.unusedVariables false
set_option linter.unusedSimpArgs false
namespace Go.Proofs.Ytfdlfkdefbfhfaa
open Go.RowKit Go.Deep

theorem flat_take {α : Type} (f : α → List Int) (l : List α) (j : Nat) (x : α) (h : l[j]? = some x) : (l.take (j + 1)).flatMap f = (l.take j).flatMap f ++ f x := by
  rw [List.take_add_one, h]
  simp
/-- the bytes of several *values* -/
def catB (l : List (Int × Int)) : List Int := l.flatMap bytesN
theorem flat_len_le (l : List (Int × Int)) (h : ∀ x ∈ l, okN x) : (catB l).length ≤ l.length * 8 := by
  unfold catB
  induction l with
  | nil => simp
  | cons x l ih =>
    have h1 := ih (fun y hy => h y (List.mem_cons_of_mem _ hy))
    have h2 := h x List.mem_cons_self
    have h3 : (bytesN x).length = x.2.toNat := putB_len _ _
    unfold okN at h2
    rw [List.flatMap_cons, List.length_append, List.length_cons]
    omega

theorem num_put_x (x : Int × Int) (w : World) (h : okN x) :
    Calls Try.prog 49 #[.int .u64 x.1, .int .i64 x.2] w fun e w' => ∃ A c, e = .returned (.tuple #[.slice A (bytesN x).length c, .bool true]) ∧ Row w' A (bytesN x).length c 1 (nums .u8 (bytesN x)) ∧ Below w.heap.size w w' := by
  obtain ⟨h1, h2, h3, h4, h5⟩ := h
  have e : x.2 = ((x.2.toNat : Nat) : Int) := by omega
  rw [e]
  refine (num_put_t x.1 x.2.toNat w (by omega) (by omega) h3 h4 h5).mono ?_
  rintro e w' ⟨v, rfl, hv, hb⟩
  have hl : (bytesN x).length = x.2.toNat := putB_len _ _
  obtain ⟨A, c, rfl, HR⟩ := Row.of_own hv
  rw [hl]
  exact ⟨A, c, rfl, HR, hb⟩

set_option maxRecDepth 100000 in
theorem num_cat_t (A : Option Addr) (n cap : Nat) (l : List (Int × Int)) (w : World) (H : Row w A n cap 2 (numCells l)) (hok : ∀ x ∈ l, okN x) (h40 : n ≤ 40) :
    Calls Try.prog 45 #[.slice A n cap] w fun e w' => ∃ v, e = .returned (.tuple #[v, .bool true]) ∧ w'.ownsRow w.heap.size 5 1 v (catB l).length (nums .u8 (catB l)) ∧ Below w.heap.size w w' := by
  have hlen : Hid (l.length = n) := by have := H.len; rw [numCells_len] at this; exact (by omega : l.length = n)
  have hn := H.le
  have hcap := H.capLe
  have HR := Lib.hid H
  have HK := Lib.hid hok
  clear H hok
  go_enter Try.func45, Try.ntmps45
  go_wp2
  go_loopw [4, 14] (fun v i wr => ∃ j : Nat, j ≤ n ∧ i = .int .i64 j ∧ wr.ownsRow w.heap.size 5 1 v (catB (l.take j)).length (nums .u8 (catB (l.take j))) ∧ Below w.heap.size w wr) (fun _ i _ => n - (intOf i).toNat)
  case atStart => exact ⟨0, Nat.zero_le _, rfl, by simpa [nums, catB] using World.ownsRow_nil w w.heap.size 5 1, Below.refl _ _⟩
  case round =>
    obtain ⟨j, hj, rfl, HO, HB⟩ := hrel
    have HO := Lib.hid HO
    have HB := Lib.hid HB
    by_cases hjn : j < n
    · obtain ⟨b, off, rfl, hc⟩ := HR.out.cell (by omega)
      have hx : l[j]? = some (l[j]'(by rw [hlen.out]; omega)) := List.getElem?_eq_getElem _
      generalize (l[j]'(by rw [hlen.out]; omega)) = x at hx
      have hx0 := cell_keep HB.out (hc _ _ (numCells_at l j x hx).1)
      have hx1 := cell_keep HB.out (hc _ _ (numCells_at l j x hx).2)
      rw [← Nat.add_assoc] at hx1
      have hk := HK.out x (List.mem_of_getElem? hx)
      have HX := Lib.hid hx
      clear hc hx
      have hbl : Hid ((bytesN x).length ≤ 8) := by
        have : (bytesN x).length = x.2.toNat := putB_len _ _
        have := hk.2.1
        exact (by omega : (bytesN x).length ≤ 8)
      have hfl : Hid ((catB (l.take j)).length ≤ 320) := by
        have h1 := flat_len_le (l.take j) (fun y hy => HK.out y (List.mem_of_mem_take hy))
        have h2 : (l.take j).length ≤ j := List.length_take_le _ _
        exact (by omega : (catB (l.take j)).length ≤ 320)
      have hft : Hid (catB (l.take (j + 1)) = catB (l.take j) ++ bytesN x) := flat_take _ _ _ _ HX.out
      have hk := Lib.hid hk
      go_wp2_with (first | (go_at_call 49; refine (num_put_x _ _ hk.out).mono ?_; rintro e w1 ⟨A', c', rfl, hv, hb⟩; have hv := Lib.hid hv; have hb := Lib.hid hb) | (at_builtin; go_must (refine wpList_app (w0 := w) w.heap.size rfl _ _ 40 rfl 5 (.int .u8 0) 1 1 Try.underlying40 info_u8 rfl (by decide) (by decide) _ (catB (l.take j)).length (nums .u8 (catB (l.take j))) _ _ _ _ rfl rfl ?h1 hv.out ?h2 ?h3 ?h4 ?h5 ?_)))
      case h1 => exact own_below HO.out (below_then ((Below.refl _ _).alloc (Nat.le_refl _) _) (by simp) hb.out)
      case h2 => simp [nums, Value.oneCell']
      case h3 => exact below_then (HB.out.alloc HB.out.size _) (by simpa using Nat.le_succ_of_le HB.out.size) hb.out
      case h4 => have h1 := hb.out.size; have h2 := HB.out.size; simp at h1; omega
      case h5 => have := hfl.out; have := hbl.out; omega
      intro v' w' hown hB _ _
      have hown := Lib.hid hown
      have hB := Lib.hid hB
      go_wp2
      refine ⟨⟨j + 1, by omega, by go_num, ?_, hB.out⟩, by simp [intOf]; omega⟩
      have := hown.out
      rw [hft.out, List.length_append, nums_app]
      exact this
    · obtain rfl : j = n := by omega
      go_wp2
      go_ret2
      refine ⟨_, rfl, ?_, HB.out⟩
      have := HO.out
      rwa [← hlen.out, List.take_length] at this
end Go.Proofs.Ytfdlfkdefbfhfaa
