import Derived.Test.YtfdlfkdefbfhfaaStripW
import Derived.Laws.BytesString
set_option linter.unusedVariables false
set_option linter.unusedSimpArgs false
namespace Go.Proofs.Ytfdlfkdefbfhfaa
open Go.RowKit

/-- the string of bytes -/
def strB (l : List Int) : ByteArray := l.foldl (fun r n => r.push (UInt8.ofNat n.toNat)) ByteArray.empty
theorem strB_list (l : List Int) : ∀ b : ByteArray, (l.foldl (fun r n => r.push (UInt8.ofNat n.toNat)) b).data.toList = b.data.toList ++ l.map (fun n => UInt8.ofNat n.toNat) := by
  induction l with
  | nil => intro b; simp
  | cons x l ih => intro b; rw [List.foldl_cons, ih]; simp [ByteArray.push]
theorem strB_inj (l m : List Int) (hl : IsBytes l) (hm : IsBytes m) (h : strB l = strB m) : l = m := by
  have h2 := congrArg (fun b => b.data.toList) h
  simp only [strB, strB_list] at h2
  simp only [ByteArray.empty, ByteArray.emptyWithCapacity] at h2
  have h3 : l.map (fun n => UInt8.ofNat n.toNat) = m.map (fun n => UInt8.ofNat n.toNat) := by simpa using h2
  clear h h2
  induction l generalizing m with
  | nil => cases m with
    | nil => rfl
    | cons y m => simp at h3
  | cons x l ih =>
    cases m with
    | nil => simp at h3
    | cons y m =>
      simp only [List.map_cons, List.cons.injEq] at h3
      have hx := hl x List.mem_cons_self
      have hy := hm y List.mem_cons_self
      have e : x = y := by
        have := congrArg UInt8.toNat h3.1
        simp at this
        omega
      rw [e, ih m (fun z hz => hl z (List.mem_cons_of_mem _ hz)) (fun z hz => hm z (List.mem_cons_of_mem _ hz)) h3.2]
theorem conv_str (A : Option Addr) (n cap : Nat) (l : List Int) (w : World) (H : Row w A n cap 1 (nums .u8 l)) :
    (convert 40 9 (.slice A n cap)).run Try.prog w = .ok (.string (strB l)) w := by
  rw [run_convert_bytes_string w _ _ 5 A n cap Try.underlying40 Try.underlying5 Try.underlying9]
  cases A with
  | none =>
    obtain ⟨rfl, rfl⟩ := H.nil rfl
    have : l = [] := List.eq_nil_of_length_eq_zero H.nums_at
    subst this
    rfl
  | some a =>
    refine run_bytesToString w a n cap l ?_
    have hl := H.nums_at
    rcases Nat.eq_zero_or_pos n with h0 | h0
    · subst h0
      have : l = [] := List.eq_nil_of_length_eq_zero hl
      subst this
      simp [loadCells, loadCellsFrom]
    · obtain ⟨b, off, he, hc⟩ := H.cell (by omega)
      cases he
      have hr := run_loadCells_list (P := Try.prog) (w := w) ⟨b, off, none⟩ (nums .u8 l) (fun j v hv => by rw [add_none]; exact hc j v hv)
      rw [nums_len, hl] at hr
      exact hr
end Go.Proofs.Ytfdlfkdefbfhfaa
