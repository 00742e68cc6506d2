import Derived.Test.YtfdlfkdefbfhfaaFind
import Derived.Maps.Own
import Derived.Maps.OwnOps
import Derived.Maps.Views
set_option linter.unusedVariables false
set_option linter.unusedSimpArgs false
namespace Go.Proofs.Ytfdlfkdefbfhfaa
open Go.RowKit

/-! A map[uint64]int of the call's own: of what has been put a list tells. -/
def whoGet (m : List (Int × Int)) (k : Int) : Int := match m.find? (fun p => p.1 == k) with | some p => p.2 | none => 0
theorem whoGet_nil (k : Int) : whoGet [] k = 0 := rfl
theorem whoGet_same (m : List (Int × Int)) (k v : Int) : whoGet ((k, v) :: m) k = v := by simp [whoGet]
theorem whoGet_other (m : List (Int × Int)) (k k' v : Int) (h : k ≠ k') : whoGet ((k, v) :: m) k' = whoGet m k' := by
  simp [whoGet, List.find?_cons, h]
def u64B (k : Int) : Prop := 0 ≤ k ∧ k < 18446744073709551616
def OwnsWho (w : World) (b : Nat) (m : List (Int × Int)) : Prop :=
  ∃ D : DataW Unit, Maps.IsMap D ∧ w.ownsMap Try.prog 32 (plainElem Try.prog 3) b m.length D ∧
    ∀ k : Int, u64B k → D.atKey (.int .u64 k) (.lit (.int .i64 0)) = .lit (.int .i64 (whoGet m k))
theorem OwnsWho.lt {w : World} {b : Nat} {m : List (Int × Int)} (h : OwnsWho w b m) : b < w.heap.size := by obtain ⟨D, _, h, _⟩ := h; exact h.lt
theorem OwnsWho.kept {w w' : World} {b : Nat} {m : List (Int × Int)} {row : Option Nat} (h : OwnsWho w b m) (hg : w.grownBy w' row) (hne : some b ≠ row) : OwnsWho w' b m := by
  obtain ⟨D, h1, h2, h3⟩ := h
  exact ⟨D, h1, h2.kept hg hne, h3⟩
theorem OwnsWho.belowS {w w' : World} {b : Nat} {m : List (Int × Int)} (h : OwnsWho w b m) (hb : Below w.heap.size w w') : OwnsWho w' b m := h.kept (grown_of_below hb none) (by simp)
theorem OwnsWho.made (w : World) : OwnsWho (w.alloc (.map #[] 0)) w.heap.size [] :=
  ⟨.map [], Maps.isMap_empty, World.ownsMap_made _ _ _ _, fun _ _ => rfl⟩
theorem OwnsWho.cleared {w : World} {b : Nat} {m : List (Int × Int)} (h : OwnsWho w b m) (ty : TypeId) :
    ∃ w', (Builtin.clear_ #[58] ty #[.map (some b)]).run Try.prog w = .ok (.tuple #[]) w' ∧ OwnsWho w' b [] ∧ w.grownBy w' (some b) := by
  obtain ⟨D, _, ⟨es, clock, hb, _⟩, _⟩ := h
  refine ⟨_, by simp [Builtin.clear_, run_underlying (show Try.prog.underlying 58 = _ from Try.underlying58), MapKept.run_getObj_map hb, MapKept.run_setObj_map _ hb]; rfl, ⟨.map [], Maps.isMap_empty, ⟨#[], clock, (MapKept.heap_set hb).1, ⟨by simp, MapKept.stamped_empty _, by simp⟩, Nat.le_refl _, rfl⟩, fun _ _ => rfl⟩, ?_⟩
  exact ⟨rfl, rfl, rfl, by simp, fun i _ hi => (MapKept.heap_set hb).2 i (fun e => hi (by rw [e]))⟩

theorem zeroE_Ytfdlfkdefbfhfaa (w : World) : (zeroValue 3).run Try.prog w = .ok (.int .i64 0) w := by kernel_rfl
section laws
variable {w0 w : World} {ops : Array Oper} {rest : List Oper} {o : Oper} {a : Act} {Q : Exit → Act → World → Prop}
theorem wpList_putWho (hgd : o.guard = none) (m x v : Operand) (ho : o.op = Op.mapUpdate 58 m x v) (b : Nat) (M : List (Int × Int)) (hm : a.eval m = .map (some b)) (hown : OwnsWho w b M) (hn : M.length < 1000)
    (k : Int) (hx : a.eval x = .int .u64 k) (hk : u64B k) (n : Int) (hv : a.eval v = .int .i64 n) (hw : -9223372036854775808 ≤ n ∧ n ≤ 9223372036854775807)
    (h : ∀ w', OwnsWho w' b ((k, n) :: M) → w.grownBy w' (some b) → wpList Try.prog ops Q rest (a.put o.dst undef) w') : wpList Try.prog ops Q (o :: rest) a w := by
  obtain ⟨D, hD, hO, hat⟩ := hown
  refine wpList_mapUpdate_own w hgd m x v 58 ho 32 3 (Maps.int_keyed Try.underlying32) Try.underlying58 _ b M.length D hm hO (by unfold maxLen; omega) _ _ (.int .u64 k) hx hv
    (Maps.keyOf_int_mk Try.underlying32 (Go.WalkArith.wf_u64 (by unfold u64B at hk; omega))) (.lit (.int .i64 n)) [] (plainElem_int Try.underlying3 (Go.WalkArith.wf_i64 hw)) ?_
  intro w' hO' hg
  refine h w' ⟨_, hD.put _ _, hO', fun k' hk' => ?_⟩ hg
  by_cases e : k = k'
  · subst e
    rw [Maps.atKey_put_same hD (show WideAt.IsKeyLit (.int .u64 k) from trivial), whoGet_same]
  · rw [Maps.atKey_put_other (by intro e2; injection e2 with _ e3; exact e e3.symm), whoGet_other _ _ _ _ e]
    exact hat k' hk'
theorem wpList_getWho (hgd : o.guard = none) (m x : Operand) (ho : o.op = Op.lookup 58 m x false) (b : Nat) (M : List (Int × Int)) (hm : a.eval m = .map (some b)) (hown : OwnsWho w b M)
    (k : Int) (hx : a.eval x = .int .u64 k) (hk : u64B k) (h : wpList Try.prog ops Q rest (a.put o.dst (.int .i64 (whoGet M k))) w) : wpList Try.prog ops Q (o :: rest) a w := by
  obtain ⟨D, hD, hO, hat⟩ := hown
  refine wpList_lookup_own_int w hgd m x 58 ho 32 3 .i64 (Maps.int_keyed Try.underlying32) Try.underlying58 Try.underlying3 (zeroE_Ytfdlfkdefbfhfaa w) b M.length D hm hO _ (.int .u64 k) hx (Maps.keyOf_int_mk Try.underlying32 (Go.WalkArith.wf_u64 (by unfold u64B at hk; omega))) ?_
  intro c hc _
  rw [hat k hk] at hc
  injection hc with hc
  injection hc with _ hc
  subst hc
  exact h
theorem wpList_clearWho (hgd : o.guard = none) (x : Operand) (ho : o.op = .call { callee := .builtin .clear, args := #[x], argTypes := #[58] }) (b : Nat) (M : List (Int × Int)) (hx : a.eval x = .map (some b)) (hown : OwnsWho w b M)
    (h : ∀ w', OwnsWho w' b [] → w.grownBy w' (some b) → wpList Try.prog ops Q rest (a.put o.dst (.tuple #[])) w') : wpList Try.prog ops Q (o :: rest) a w := by
  obtain ⟨w', hr, h1, h2⟩ := hown.cleared o.type
  refine wpList_plain hgd fun K hK => ?_
  unfold Oper.wp execOp
  simp [ho, resolve, invoke, builtin, hx, hr]
  exact hK _ _ (h w' h1 h2)
end laws
end Go.Proofs.Ytfdlfkdefbfhfaa
