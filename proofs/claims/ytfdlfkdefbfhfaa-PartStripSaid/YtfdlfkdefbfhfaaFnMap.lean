import Derived.Test.YtfdlfkdefbfhfaaHello
set_option linter.unusedVariables false
set_option linter.unusedSimpArgs false
namespace Go.Proofs.Ytfdlfkdefbfhfaa
open Go.RowKit

/-! A map from int to functions, made and asked by the call itself. -/
def FnBlk (w : World) (g : Nat) (es : List MapEntry) (clock : Nat) : Prop := w.heap[g]? = some (.map es.toArray clock)
section laws
variable {P : Program} {w0 w : World} {ops : Array Oper} {rest : List Oper} {o : Oper} {a : Act} {Q : Exit → Act → World → Prop}
theorem wpList_makeFn (hgd : o.guard = none) (t : TypeId) (ho : o.op = .makeMap t none)
    (h : ∀ w', FnBlk w' w.heap.size [] 0 → Below w.heap.size w w' → w'.heap.size = w.heap.size + 1 → wpList P ops Q rest (a.put o.dst (.map (some w.heap.size))) w') : wpList P ops Q (o :: rest) a w := by
  refine wpList_plain hgd fun K hK => ?_
  have hfin := hK _ _ (h _ (MapKept.heap_alloc w (.map #[] 0)).1 ((Below.refl _ _).alloc (Nat.le_refl _) _) (by simp))
  generalize hW : w.alloc (.map #[] 0) = W at hfin
  unfold Oper.wp execOp
  simp [ho, run_makeMap, hW]
  exact hfin
theorem wpList_insertFn (hgd : o.guard = none) (t : TypeId) (m k x : Operand) (ho : o.op = .insert t m k x) (kt et : TypeId) (hu : P.underlying t = some (.map kt et)) (hk : P.underlying kt = some (.int .i64))
    (g : Nat) (hm : a.eval m = .map (some g)) (i : Int) (hi : a.eval k = .int .i64 i) (es : List MapEntry) (clock : Nat) (hb : FnBlk w g es clock) (hf : Instr.findNow (.int .i64) (.int .i64 i) es 0 = some none)
    (h : ∀ w', FnBlk w' g (es ++ [MapEntry.mk (.int .i64 i) (a.eval x) clock]) (clock + 1) → w.grownBy w' (some g) → wpList P ops Q rest (a.put o.dst undef) w') : wpList P ops Q (o :: rest) a w := by
  have hb' : w.heap[g]? = some (.map es.toArray clock) := hb
  have hfk : (Instr.findKey kt (.int .i64 i) es).run P w = .ok none w := MapKept.run_findKey hk hf
  have hck : (Instr.checkKey false 10000 kt (.int .i64 i)).run P w = .ok () w := MapKept.run_checkKey (n := 9999) hk (by simp [MapKept.IsKey]) false
  refine wpList_plain hgd fun K hK => ?_
  have hfin := hK _ _ (h { w with heap := w.heap.setIfInBounds g (.map (es ++ [MapEntry.mk (.int .i64 i) (a.eval x) clock]).toArray (clock + 1)) } (MapKept.heap_set hb').1 ⟨rfl, rfl, rfl, by simp, fun j _ hj => (MapKept.heap_set hb').2 j (fun e => hj (by rw [e]))⟩)
  have hrun : (Instr.mapUpdate t (.map (some g)) (.int .i64 i) (a.eval x)).run P w = .ok () { w with heap := w.heap.setIfInBounds g (.map (es ++ [MapEntry.mk (.int .i64 i) (a.eval x) clock]).toArray (clock + 1)) } := by
    simp [Instr.mapUpdate, run_underlying hu, MapKept.run_getObj_map hb', hck, hfk, MapKept.run_setObj_map _ hb', Result.andThen]
  generalize ({ w with heap := w.heap.setIfInBounds g (.map (es ++ [MapEntry.mk (.int .i64 i) (a.eval x) clock]).toArray (clock + 1)) } : World) = W at hfin hrun
  unfold Oper.wp execOp
  simp [ho, hm, hi, hrun, Result.andThen]
  exact hfin
theorem wpList_lookupFn (hgd : o.guard = none) (t : TypeId) (m k : Operand) (ho : o.op = .lookup t m k false) (kt et : TypeId) (hu : P.underlying t = some (.map kt et)) (hk : P.underlying kt = some (.int .i64))
    (g : Nat) (hm : a.eval m = .map (some g)) (i : Int) (hi : a.eval k = .int .i64 i) (es : List MapEntry) (clock : Nat) (hb : FnBlk w g es clock) (z : Value) (hz : (zeroValue et).run P w = .ok z w)
    (r : Option (Nat × Value)) (hf : Instr.findNow (.int .i64) (.int .i64 i) es 0 = some r) (v : Value) (hv : v = match r with | some p => p.2 | none => z)
    (h : wpList P ops Q rest (a.put o.dst v) w) : wpList P ops Q (o :: rest) a w := by
  have hb' : w.heap[g]? = some (.map es.toArray clock) := hb
  have hfk : (Instr.findKey kt (.int .i64 i) es).run P w = .ok r w := MapKept.run_findKey hk hf
  have hck : (Instr.checkKey es.isEmpty 10000 kt (.int .i64 i)).run P w = .ok () w := MapKept.run_checkKey (n := 9999) hk (by simp [MapKept.IsKey]) _
  refine wpList_plain hgd fun K hK => ?_
  have hfin := hK _ _ h
  have hrun : (Instr.lookup t (.map (some g)) (.int .i64 i) false).run P w = .ok v w := by
    cases r with
    | none =>
      subst hv
      simp [Instr.lookup, run_underlying hu, MapKept.run_getObj_map hb', hck, hfk, hz, Result.andThen]
    | some p =>
      subst hv
      simp [Instr.lookup, run_underlying hu, MapKept.run_getObj_map hb', hck, hfk, Result.andThen]
  unfold Oper.wp execOp
  simp [ho, hm, hi, hrun, Result.andThen]
  exact hfin
end laws
theorem FnBlk.keepG {w w' : World} {g : Nat} {es : List MapEntry} {c : Nat} {row : Option Nat} (h : FnBlk w g es c) (hg : w.grownBy w' row) (hne : some g ≠ row) : FnBlk w' g es c :=
  (hg.block g (Array.getElem?_eq_some_iff.1 h).1 hne).trans h
end Go.Proofs.Ytfdlfkdefbfhfaa
