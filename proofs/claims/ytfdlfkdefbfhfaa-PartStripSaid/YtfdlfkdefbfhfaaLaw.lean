import Derived.Test.YtfdlfkdefbfhfaaAwW
set_option linter.unusedVariables false
set_option linter.unusedSimpArgs false
namespace Go.Proofs.Ytfdlfkdefbfhfaa
open Go.RowKit

/-! What the laws share. -/
theorem Row.take {w : World} {A : Option Addr} {n cap sz : Nat} {cs : List Value} (h : Row w A n cap sz cs) (k : Nat) (hk : k ≤ n) : Row w A k cap sz (cs.take (k * sz)) := by
  have hle := Nat.mul_le_mul_right sz hk
  refine ⟨by rw [List.length_take, h.len]; omega, by have := h.le; omega, h.capLe, fun hn => ?_, fun hp => ?_⟩
  · obtain ⟨h1, h2⟩ := h.nil hn
    exact ⟨by omega, h2⟩
  · obtain ⟨b, off, e, hc⟩ := h.cell (by omega)
    refine ⟨b, off, e, fun j u hu => hc j u ?_⟩
    rw [List.getElem?_take] at hu
    split at hu
    · exact hu
    · cases hu
theorem evCells_take (es : List Ev) : ∀ k, evCells (es.take k) = (evCells es).take (k * 5) := by
  induction es with
  | nil => intro k; simp [evCells]
  | cons x t ih =>
    intro k
    cases k with
    | zero => simp [evCells]
    | succ k =>
      have e1 : evCells (x :: t) = x.cells ++ evCells t := by simp [evCells]
      have e2 : evCells (x :: t.take k) = x.cells ++ evCells (t.take k) := by simp [evCells]
      have e3 : x.cells.length = 5 := rfl
      rw [List.take_succ_cons, e2, e1, ih, List.take_append, e3, show (k + 1) * 5 - 5 = k * 5 by omega, List.take_of_length_le (l := x.cells) (by omega)]
theorem Evs.take {w : World} {A : Option Addr} {n cap : Nat} {l : List Ev} (h : Evs w A n cap l) (k : Nat) (hk : k ≤ n) : Evs w A k cap (l.take k) :=
  ⟨by rw [evCells_take]; exact h.row.take k hk, fun e he => h.ok e (List.mem_of_mem_take he)⟩
theorem whoseL_take (l : List Usr) (es : List Ev) : ∀ (M : List (Int × Int)) (k : Nat), whoseL l M (es.take k) = (whoseL l M es).take k := by
  induction es with
  | nil => intro M k; simp [whoseL]
  | cons e es ih =>
    intro M k
    cases k with
    | zero => simp [whoseL]
    | succ k =>
      show (whoseF l M e).1 :: whoseL l (stepM l M e) (es.take k) = _
      rw [ih]
      rfl
theorem fewE_len (l : List Ev) (k : Nat) (h : fewE l k = true) : l.length ≤ k := by
  unfold fewE at h
  simp only [Bool.and_eq_true, decide_eq_true_eq] at h
  exact h.2
theorem fewE_raw (l : List Ev) (k : Nat) (h : fewE l k = true) : ∀ e ∈ l, e.rn ≤ 200 := by
  have hl := fewE_len l k h
  unfold fewE at h
  simp only [Bool.and_eq_true, decide_eq_true_eq] at h
  have h1 := h.1
  rw [List.take_of_length_le (by omega)] at h1
  unfold rnsB at h1
  intro e he
  have := List.all_eq_true.1 h1 e he
  simpa using this
def Done (w : World) (e : Ending) (w' : World) : Prop := e = .returned (.bool true) ∧ Below w.heap.size w w'
end Go.Proofs.Ytfdlfkdefbfhfaa
