import Derived.Test.YtfdlfkdefbfhfaaBase
import Derived.Deep.QuietTactic
import Derived.BigQuiet
set_option linter.unusedVariables false
set_option linter.unusedSimpArgs false
namespace Go.Proofs.Ytfdlfkdefbfhfaa
open Go.RowKit

/-! A region that draws its order, that reads, and whose callees read and make memory: one walk in the order of the text.
   The class of worlds: all that w has is there as it was. -/
/-- A world in which all that w has is as it was. -/
def Wd (w : World) : Type := { W : World // Below w.heap.size w W }
instance Wd.any (w : World) : Nonempty (Wd w) := ⟨⟨w, Below.refl _ _⟩⟩
def Wd.w {w : World} (z : Wd w) : World := z.1
theorem Wd.below {w : World} (z : Wd w) : Below w.heap.size w z.w := z.2
theorem Wd.cell {w : World} (z : Wd w) {a : Addr} {v : Value} (h : w.cell? a = some v) : z.w.cell? a = some v := cell_keep z.2 h
theorem wp_region_wd {P : Program} {id : Nat} {Q : Exit → Act → World → Prop} {a : Act} {w : World} {l : List Oper} (hm : P.follows .mixedOrders = true) (hB : Region.lexB .any l.toArray = true)
    (h : wpQuiet P l.toArray (fun w' => ∃ z : Wd w, w' = z.w) (fun a' => ∀ w', (∃ z : Wd w, w' = z.w) → Q .normal a' w') l a) : (Code.region id l.toArray true).wp P Q a w :=
  wp_region_quiet (C := fun w' => ∃ z : Wd w, w' = z.w) hm hB ⟨⟨w.drew, (Below.refl _ _).drew⟩, rfl⟩ (by simpa using h)
/-- At a call. -/
theorem Calls.wd {P : Program} {f : FuncId} {args : Array Value} {w : World} {z : Wd w} {v : Value} (h : Calls P f args z.w fun e w' => e = .returned v ∧ Below z.w.heap.size z.w w') :
    Calls P f args z.w fun e w'' => e = .returned v ∧ ∃ y : Wd w, w'' = y.w :=
  h.mono fun _ w' ⟨he, hb⟩ => ⟨he, ⟨w', z.2.trans (hb.mono z.2.size)⟩, rfl⟩
theorem Calls.wd_same {P : Program} {f : FuncId} {args : Array Value} {w : World} {z : Wd w} {v : Value} (h : Calls P f args z.w fun e w' => e = .returned v ∧ w' = z.w) :
    Calls P f args z.w fun e w'' => e = .returned v ∧ ∃ y : Wd w, w'' = y.w :=
  h.mono fun _ _ ⟨he, hb⟩ => ⟨he, z, hb⟩
theorem Calls.wd_same' {P : Program} {f : FuncId} {args : Array Value} {w : World} {z : Wd w} {v : Value} (h : Calls P f args z.w fun e w' => e = .returned v ∧ z.w = w') :
    Calls P f args z.w fun e w'' => e = .returned v ∧ ∃ y : Wd w, w'' = y.w :=
  h.mono fun _ _ ⟨he, hb⟩ => ⟨he, z, hb.symm⟩
end Go.Proofs.Ytfdlfkdefbfhfaa
