import Derived.Test.YtfdlfkdefbfhfaaLong
import Derived.Deep.RegionLaw
set_option linter.unusedVariables false
set_option linter.unusedSimpArgs false
namespace Go.Proofs.Ytfdlfkdefbfhfaa
open Go.RowKit

section laws
variable {P : Program} {w0 w : World} {ops : Array Oper} {rest : List Oper} {o : Oper} {a : Act} {Q : Exit → Act → World → Prop}
/-- copy(v[k:..], x): into a block of the call's own, of any kind. -/
theorem wpList_copyB (B : Nat) (hgd : o.guard = none) (d s : Operand) (dT sT : TypeId)
    (ho : o.op = .call { callee := .builtin .copy, args := #[d, s], argTypes := #[dT, sT] }) (e : TypeId) (hu : P.underlying dT = some (.slice e)) (sz : Nat) (hsz : (P.info? e).map (·.size) = some sz)
    (g : Nat) (E : TypeId) (xs : List Value) (HO : Blk w g E xs) (off dLen dCap : Nat) (hd : a.eval d = .slice (some ⟨g, off, none⟩) dLen dCap)
    (A : Option Addr) (sLen sCap : Nat) (cs : List Value) (hs : a.eval s = .slice A sLen sCap) (HR : Row w A sLen sCap sz cs) (h1 : ∀ u ∈ cs, u.oneCell' = true) (m : Nat) (hm : Nat.min sLen dLen = m)
    (hfit : off + m * sz ≤ xs.length) (HB : Below B w0 w) (hBb : B ≤ g)
    (h : ∀ w', Blk w' g E (xs.take off ++ cs.take (m * sz) ++ xs.drop (off + m * sz)) → Below B w0 w' → w.grownBy w' (some g) → wpList P ops Q rest (a.put o.dst (goInt m)) w') :
    wpList P ops Q (o :: rest) a w := by
  have hml : m ≤ sLen := by rw [← hm]; exact Nat.min_le_left _ _
  have hcl : (cs.take (m * sz)).length = m * sz := by
    rw [List.length_take, HR.len]
    have := Nat.mul_le_mul_right sz hml
    omega
  have hst := run_storeCells_at (P := P) g off E (cs.take (m * sz)) 0 xs.toArray w HO (by simp; omega) (fun u hu' => h1 u (List.mem_of_mem_take hu'))
  simp only [Nat.add_zero] at hst
  rw [hcl] at hst
  have hload : (Builtin.firstCells sz m (.slice A sLen sCap)).run P w = .ok (cs.take (m * sz)).toArray w := by
    cases A with
    | none =>
      obtain ⟨rfl, _⟩ := HR.nil rfl
      obtain rfl : m = 0 := by omega
      simp [Builtin.firstCells]
    | some ad =>
      rcases Nat.eq_zero_or_pos (m * sz) with h0 | h0
      · rw [h0]
        simp [Builtin.firstCells, h0, loadCells, loadCellsFrom]
      · have := Nat.mul_le_mul_right sz hml
        obtain ⟨b, of, he, hc⟩ := HR.cell (by omega)
        cases he
        have hl := run_loadCells_list (P := P) (w := w) ⟨b, of, none⟩ (cs.take (m * sz)) (fun j v hv => by
          rw [add_none]
          exact hc j v (by rw [List.getElem?_take] at hv; split at hv; exact hv; cases hv))
        rw [hcl] at hl
        simpa [Builtin.firstCells] using hl
  refine wpList_plain hgd fun K hK => ?_
  obtain ⟨i, hi, his⟩ := Option.map_eq_some_iff.1 hsz
  have hrun : (Builtin.copy_ #[dT, sT] o.type #[.slice (some ⟨g, off, none⟩) dLen dCap, .slice A sLen sCap]).run P w = .ok (goInt m) (w.setRow g (xs.toArray.toList.take off ++ cs.take (m * sz) ++ xs.toArray.toList.drop (off + m * sz)).toArray) := by
    simp [Builtin.copy_, Builtin.lenOf, sizeOf, typeInfo, hi, his, run_underlying hu, hm, hload] at hst ⊢
    simp [hst]
  have hfin := hK _ _ (h _ (HO.set _) (below_setRow HB (by omega) _) (grown_setRow _))
  rw [List.toList_toArray] at hrun
  generalize (w.setRow g (xs.take off ++ cs.take (m * sz) ++ xs.drop (off + m * sz)).toArray) = W at hrun hfin
  unfold Oper.wp execOp
  simp [ho, resolve, invoke, builtin, hd, hs, hrun]
  exact hfin
/-- The same, as one step of a region that draws. -/
theorem step_copyB {K : Act → World → Prop} {E' : Prop} (B : Nat) (hgd : o.guard = none) (d s : Operand) (dT sT : TypeId)
    (ho : o.op = .call { callee := .builtin .copy, args := #[d, s], argTypes := #[dT, sT] }) (e : TypeId) (hu : P.underlying dT = some (.slice e)) (sz : Nat) (hsz : (P.info? e).map (·.size) = some sz)
    (g : Nat) (E : TypeId) (xs : List Value) (HO : Blk w g E xs) (off dLen dCap : Nat) (hd : a.eval d = .slice (some ⟨g, off, none⟩) dLen dCap)
    (A : Option Addr) (sLen sCap : Nat) (cs : List Value) (hs : a.eval s = .slice A sLen sCap) (HR : Row w A sLen sCap sz cs) (h1 : ∀ u ∈ cs, u.oneCell' = true) (m : Nat) (hm : Nat.min sLen dLen = m)
    (hfit : off + m * sz ≤ xs.length) (HB : Below B w0 w) (hBb : B ≤ g)
    (h : ∀ w', Blk w' g E (xs.take off ++ cs.take (m * sz) ++ xs.drop (off + m * sz)) → Below B w0 w' → w.grownBy w' (some g) → K (a.put o.dst (goInt m)) w') :
    if Region.wanted o (yielded ops a.tmps) = true then Oper.wp P o a w K Q else E' := by
  have hw : Region.wanted o (yielded ops a.tmps) = true := by simp [Region.wanted, hgd]
  rw [if_pos hw]
  have hml : m ≤ sLen := by rw [← hm]; exact Nat.min_le_left _ _
  have hcl : (cs.take (m * sz)).length = m * sz := by
    rw [List.length_take, HR.len]
    have := Nat.mul_le_mul_right sz hml
    omega
  have hst := run_storeCells_at (P := P) g off E (cs.take (m * sz)) 0 xs.toArray w HO (by simp; omega) (fun u hu' => h1 u (List.mem_of_mem_take hu'))
  simp only [Nat.add_zero] at hst
  rw [hcl] at hst
  have hload : (Builtin.firstCells sz m (.slice A sLen sCap)).run P w = .ok (cs.take (m * sz)).toArray w := by
    cases A with
    | none =>
      obtain ⟨rfl, _⟩ := HR.nil rfl
      obtain rfl : m = 0 := by omega
      simp [Builtin.firstCells]
    | some ad =>
      rcases Nat.eq_zero_or_pos (m * sz) with h0 | h0
      · rw [h0]
        simp [Builtin.firstCells, h0, loadCells, loadCellsFrom]
      · have := Nat.mul_le_mul_right sz hml
        obtain ⟨b, of, he, hc⟩ := HR.cell (by omega)
        cases he
        have hl := run_loadCells_list (P := P) (w := w) ⟨b, of, none⟩ (cs.take (m * sz)) (fun j v hv => by
          rw [add_none]
          exact hc j v (by rw [List.getElem?_take] at hv; split at hv; exact hv; cases hv))
        rw [hcl] at hl
        simpa [Builtin.firstCells] using hl
  obtain ⟨i, hi, his⟩ := Option.map_eq_some_iff.1 hsz
  have hrun : (Builtin.copy_ #[dT, sT] o.type #[.slice (some ⟨g, off, none⟩) dLen dCap, .slice A sLen sCap]).run P w = .ok (goInt m) (w.setRow g (xs.toArray.toList.take off ++ cs.take (m * sz) ++ xs.toArray.toList.drop (off + m * sz)).toArray) := by
    simp [Builtin.copy_, Builtin.lenOf, sizeOf, typeInfo, hi, his, run_underlying hu, hm, hload] at hst ⊢
    simp [hst]
  have hfin := h _ (HO.set _) (below_setRow HB (by omega) _) (grown_setRow _)
  rw [List.toList_toArray] at hrun
  generalize (w.setRow g (xs.take off ++ cs.take (m * sz) ++ xs.drop (off + m * sz)).toArray) = W at hrun hfin
  unfold Oper.wp execOp
  simp [ho, resolve, invoke, builtin, hd, hs, hrun, Result.andThen]
  exact hfin
theorem size_u8 : (Try.prog.info? 5).map (·.size) = some 1 := by kernel_rfl
end laws
end Go.Proofs.Ytfdlfkdefbfhfaa
