import Derived.Test.YtfdlfkdefbfhfaaEx
set_option linter.unusedVariables false
set_option linter.unusedSimpArgs false
namespace Go.Proofs.Ytfdlfkdefbfhfaa
open Go.RowKit

def exHello : Frm := ⟨0, 7, 0, 5, 0, 0, 0, 0, zeroTag⟩
def exProof : Frm := ⟨2, 0, 8, 0, 0, 0, 0, 0, zeroTag⟩
theorem build_hello (w : World) : (Instr.build 36 #[(1, .int .i64 7), (3, .int .u64 5)]).run Try.prog w = .ok (.agg (fC exHello).toArray) w := by kernel_rfl
theorem build_proof (w : World) : (Instr.build 36 #[(0, .int .i64 2), (2, .int .u64 8)]).run Try.prog w = .ok (.agg (fC exProof).toArray) w := by kernel_rfl
theorem wf_hello : FrmWf exHello := by unfold FrmWf FrmOk exHello IsBytes zeroTag; decide
theorem wf_proof : FrmWf exProof := by unfold FrmWf FrmOk exProof IsBytes zeroTag; decide
theorem plain_hello : plainB exHello = true := by kernel_rfl
theorem plain_proof : plainB exProof = true := by kernel_rfl
theorem len_hello : (putF exHello).length = 12 := by kernel_rfl
theorem len_proof : (putF exProof).length = 43 := by kernel_rfl
theorem bytes_hello : IsBytes (putF exHello) := by
  have e : putF exHello = [0, 10, 0, 7, 0, 0, 0, 0, 0, 0, 0, 5] := by kernel_rfl
  rw [e]; unfold IsBytes; decide
theorem bytes_proof : IsBytes (putF exProof) := by
  have e : putF exProof = [0, 41, 2, 0, 0, 0, 0, 0, 0, 0, 8] ++ zeroTag := by kernel_rfl
  rw [e]; unfold IsBytes zeroTag; decide
theorem who_ex (k1 k2 a1 a2 : Option Addr) (c1 c2 d1 d2 : Nat) :
    whoseL [⟨3, 2, k1, 16, c1⟩, ⟨7, 0, k2, 16, c2⟩] [] [⟨0, a1, 12, d1, putF exHello, 8, false, 0⟩, ⟨0, a2, 43, d2, putF exProof, 0, false, 0⟩, ⟨1, none, 0, 0, [], 0, false, 0⟩] = [7, 7, 0] := by kernel_rfl
theorem strip_ex (k1 k2 a1 a2 : Option Addr) (c1 c2 d1 d2 : Nat) :
    stripN [⟨3, 2, k1, 16, c1⟩, ⟨7, 0, k2, 16, c2⟩] [7, 7, 0] [⟨0, a1, 12, d1, putF exHello, 8, false, 0⟩, ⟨0, a2, 43, d2, putF exProof, 0, false, 0⟩, ⟨1, none, 0, 0, [], 0, false, 0⟩] = [⟨1, none, 0, 0, [], 0, false, 0⟩] := by kernel_rfl
theorem clear_ex (a1 a2 : Option Addr) (d1 d2 : Nat) :
    clearL [] [⟨0, a1, 12, d1, putF exHello, 8, false, 0⟩, ⟨0, a2, 43, d2, putF exProof, 0, false, 0⟩, ⟨1, none, 0, 0, [], 0, false, 0⟩] = true := by kernel_rfl
end Go.Proofs.Ytfdlfkdefbfhfaa
