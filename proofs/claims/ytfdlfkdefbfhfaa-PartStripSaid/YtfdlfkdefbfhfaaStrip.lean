import Derived.Test.YtfdlfkdefbfhfaaClear
set_option linter.unusedVariables false
set_option linter.unusedSimpArgs false
namespace Go.Proofs.Ytfdlfkdefbfhfaa
open Go.RowKit

/-- An event without its place. -/
def norm (e : Ev) : Ev := { e with rA := none, rn := 0, rcap := 0 }
def crashE : Ev := ⟨2, none, 0, 0, [], 0, false, 0⟩
theorem whoseF_norm (l : List Usr) (M : List (Int × Int)) (e : Ev) : whoseF l M (norm e) = whoseF l M e := rfl
theorem breaksB_norm (e : Ev) : breaksB (norm e) = breaksB e := rfl
theorem beginsB_norm (e : Ev) : beginsB (norm e) = beginsB e := rfl
theorem norm_norm (e : Ev) : norm (norm e) = norm e := rfl
theorem whoseL_norm (l : List Usr) (es : List Ev) : ∀ M, whoseL l M (es.map norm) = whoseL l M es := by
  induction es with
  | nil => intro M; rfl
  | cons e es ih =>
    intro M
    show (whoseF l M (norm e)).1 :: whoseL l (stepM l M (norm e)) (es.map norm) = _
    rw [ih]
    rfl
def stripE (l : List Usr) (w : Int) (e : Ev) : List Ev := if roleU l w ≠ 0 then [norm e] else if breaksB e then [crashE] else []
/-- part.Strip, without places. -/
def stripN (l : List Usr) : List Int → List Ev → List Ev
  | w :: ws, e :: es => stripE l w e ++ stripN l ws es
  | _, _ => []
theorem stripN_step (l : List Usr) (ws : List Int) (es : List Ev) (j : Nat) (e : Ev) (h : es[j]? = some e) (hw : j < ws.length) : stripN l (ws.drop j) (es.drop j) = stripE l (nth ws j) e ++ stripN l (ws.drop (j + 1)) (es.drop (j + 1)) := by
  have hj : j < es.length := (List.getElem?_eq_some_iff.1 h).1
  rw [List.drop_eq_getElem_cons hj, List.drop_eq_getElem_cons hw, nth_eq ws j hw]
  rw [List.getElem?_eq_getElem hj] at h
  cases h
  rfl
theorem whoseL_len (l : List Usr) (es : List Ev) : ∀ M, (whoseL l M es).length = es.length := by
  induction es with
  | nil => intro M; rfl
  | cons e es ih => intro M; simp [whoseL, ih]
theorem info_ev : (Try.prog.info? 42).map (fun i => (i.zero, i.size, i.bytes)) = some (some (.agg #[.int .i64 0, .slice none 0 0, .int .u64 0, .bool false, .int .i64 0]), 5, 56) := by kernel_rfl
theorem Ev.one (e : Ev) : ∀ u ∈ e.cells, u.oneCell' = true := by
  intro u hu
  simp only [Ev.cells, List.mem_cons, List.not_mem_nil, or_false] at hu
  rcases hu with rfl | rfl | rfl | rfl | rfl <;> rfl
/-- A row's block lies apart from a block. -/
def Apart (w : World) (e : Ev) (g : Option Nat) : Prop := ∀ b off, e.rA = some ⟨b, off, none⟩ → b < w.heap.size ∧ g ≠ some b
theorem EvOk.apart {w w' : World} {e : Ev} {g : Option Nat} (h : EvOk w e) (hg : w.grownBy w' g) (ha : Apart w e g) : EvOk w' e := by
  refine ⟨⟨h.row.len, h.row.le, h.row.capLe, h.row.nil, fun h0 => ?_⟩, h.bytes, h.draw⟩
  obtain ⟨b, off, he, hc⟩ := h.row.cell h0
  exact ⟨b, off, he, fun j u hu => hg.cell (hc j u hu) (fun e2 => (ha b off he).2 e2.symm)⟩
end Go.Proofs.Ytfdlfkdefbfhfaa
