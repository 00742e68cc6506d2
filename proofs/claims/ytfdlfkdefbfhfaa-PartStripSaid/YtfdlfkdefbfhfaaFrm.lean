import Derived.Test.YtfdlfkdefbfhfaaSlots
import Derived.Test.YtfdlfkdefbfhfaaCat
set_option linter.unusedVariables false
set_option linter.unusedSimpArgs false
namespace Go.Proofs.Ytfdlfkdefbfhfaa
open Go.RowKit

/-- api.Frame -/
structure Frm where
  kind : Int
  user : Int
  sess : Int
  cn : Int
  epoch : Int
  count : Int
  cmd : Int
  arg : Int
  tag : List Int
deriving DecidableEq
def fC (f : Frm) : List Value :=
  [.int .i64 f.kind, .int .i64 f.user, .int .u64 f.sess, .int .u64 f.cn, .int .i64 f.epoch, .int .u64 f.count, .int .i64 f.cmd, .int .i64 f.arg] ++ nums .u8 f.tag
def zeroTag : List Int := List.replicate 32 0
def kindF (k : Int) : Frm := ⟨k, 0, 0, 0, 0, 0, 0, 0, zeroTag⟩
def FrmOk (f : Frm) : Prop := f.tag.length = 32 ∧ IsBytes f.tag
theorem fC_len (f : Frm) (h : f.tag.length = 32) : (fC f).length = 40 := by simp [fC, nums, h]
theorem fC_one (f : Frm) : ∀ u ∈ fC f, u.oneCell' = true := by
  intro u hu
  simp only [fC, List.mem_append, List.mem_cons, List.not_mem_nil, or_false, nums, List.mem_map] at hu
  rcases hu with (rfl | rfl | rfl | rfl | rfl | rfl | rfl | rfl) | ⟨x, _, rfl⟩ <;> rfl


def Frm.get (f : Frm) (o : Nat) : Int :=
  if o = 1 then f.user else if o = 2 then f.sess else if o = 3 then f.cn else if o = 4 then f.epoch else if o = 5 then f.count else if o = 6 then f.cmd else f.arg
def Frm.set (f : Frm) (o : Nat) (v : Int) : Frm :=
  if o = 1 then { f with user := v } else if o = 2 then { f with sess := v } else if o = 3 then { f with cn := v } else if o = 4 then { f with epoch := v }
  else if o = 5 then { f with count := v } else if o = 6 then { f with cmd := v } else { f with arg := v }
def Slot.Ok (s : Slot) : Prop :=
  (s.isInt = true ∧ (s.off = 1 ∨ s.off = 4 ∨ s.off = 6 ∨ s.off = 7) ∨ s.isInt = false ∧ (s.off = 2 ∨ s.off = 3 ∨ s.off = 5)) ∧ 1 ≤ s.k ∧ s.k ≤ 8
def Slot.kd (s : Slot) : IntKind := if s.isInt then .i64 else .u64
theorem slotsOf_ok (kind : Int) : ∀ s ∈ slotsOf kind, s.Ok := by
  intro s hs
  unfold slotsOf at hs
  split at hs
  · simp at hs; rcases hs with rfl | rfl <;> simp [Slot.Ok]
  · split at hs
    · simp at hs; rcases hs with rfl | rfl <;> simp [Slot.Ok]
    · split at hs
      · simp at hs; subst hs; simp [Slot.Ok]
      · split at hs
        · simp at hs; subst hs; simp [Slot.Ok]
        · split at hs
          · simp at hs; rcases hs with rfl | rfl | rfl | rfl <;> simp [Slot.Ok]
          · cases hs
theorem slotsOf_len (kind : Int) : (slotsOf kind).length ≤ 4 := by
  unfold slotsOf
  repeat' split
  all_goals simp
theorem fC_get (f : Frm) (s : Slot) (h : s.Ok) : (fC f)[s.off]? = some (.int s.kd (f.get s.off)) := by
  unfold Slot.Ok at h
  unfold Slot.kd Frm.get
  rcases h.1 with ⟨h1, h2 | h2 | h2 | h2⟩ | ⟨h1, h2 | h2 | h2⟩ <;> rw [h1, h2] <;> rfl
theorem fC_set (f : Frm) (s : Slot) (v : Int) (h : s.Ok) : (fC f).set s.off (.int s.kd v) = fC (f.set s.off v) := by
  unfold Slot.Ok at h
  unfold Slot.kd Frm.set
  rcases h.1 with ⟨h1, h2 | h2 | h2 | h2⟩ | ⟨h1, h2 | h2 | h2⟩ <;> rw [h1, h2] <;> rfl
theorem set_kind (f : Frm) (o : Nat) (v : Int) : (f.set o v).kind = f.kind := by simp only [Frm.set, apply_ite Frm.kind, ite_self]
theorem set_tag (f : Frm) (o : Nat) (v : Int) : (f.set o v).tag = f.tag := by simp only [Frm.set, apply_ite Frm.tag, ite_self]

/-- The cells of slot j. -/
theorem slotCells_at (g : Nat) (l : List Slot) (j : Nat) (s : Slot) (h : l[j]? = some s) (i : Nat) (u : Value) (hu : (slotCell g s)[i]? = some u) : (slotCells g l)[j * 3 + i]? = some u := by
  induction l generalizing j with
  | nil => simp at h
  | cons y l ih =>
    have hi : i < 3 := by have := (List.getElem?_eq_some_iff.1 hu).1; simpa [slotCell] using this
    have hl : (slotCell g y).length = 3 := rfl
    unfold slotCells at ih ⊢
    rw [List.flatMap_cons]
    cases j with
    | zero =>
      obtain rfl : y = s := by simpa using h
      rw [List.getElem?_append_left (by omega)]
      simpa using hu
    | succ j =>
      rw [List.getElem?_append_right (by omega)]
      rw [show (j + 1) * 3 + i - (slotCell g y).length = j * 3 + i from by omega]
      exact ih j (by simpa using h)

/-- frame.bare -/
def copyL (f : Frm) (l : List Slot) (o : Frm) : Frm := l.foldl (fun o s => o.set s.off (f.get s.off)) o
theorem copyL_snoc (f : Frm) (l : List Slot) (s : Slot) (o : Frm) : copyL f (l ++ [s]) o = (copyL f l o).set s.off (f.get s.off) := by simp [copyL]
def bareF (f : Frm) : Frm :=
  let o := copyL f (slotsOf f.kind) (kindF f.kind)
  if taggedB f.kind then { o with tag := f.tag } else o
theorem copyL_kind (f : Frm) (l : List Slot) (o : Frm) : (copyL f l o).kind = o.kind ∧ (copyL f l o).tag = o.tag := by
  induction l generalizing o with
  | nil => exact ⟨rfl, rfl⟩
  | cons s l ih => have := ih (o.set s.off (f.get s.off)); rw [set_kind, set_tag] at this; exact this

theorem zero_frame : (Try.prog.info? 36).map (·.zero) = some (some (.agg (fC (kindF 0)).toArray)) := by kernel_rfl
theorem size_frame : (Try.prog.info? 36).map (·.size) = some 40 := by kernel_rfl
theorem size_id : (Try.prog.info? 34).map (·.size) = some 32 := by kernel_rfl
theorem size_slot : (Try.prog.info? 71).map (·.size) = some 3 := by kernel_rfl
theorem zero_slot : (Try.prog.info? 71).map (·.zero) = some (some (.agg #[.pointer none, .pointer none, .int .i64 0])) := by kernel_rfl
theorem build_frame (k : Int) (w : World) : (Instr.build 36 #[(0, .int .i64 k)]).run Try.prog w = .ok (.agg (fC (kindF k)).toArray) w := by kernel_rfl
theorem build_frame0 (w : World) : (Instr.build 36 #[]).run Try.prog w = .ok (.agg (fC (kindF 0)).toArray) w := by kernel_rfl
theorem fC_tag (f : Frm) (j : Nat) (u : Value) (h : (nums .u8 f.tag)[j]? = some u) : (fC f)[8 + j]? = some u := by
  unfold fC
  rw [List.getElem?_append_right (by simp)]
  simpa using h
theorem fC_setTag (f : Frm) (t : List Int) (h : f.tag.length = 32) (ht : t.length = 32) : (fC f).take 8 ++ nums .u8 t ++ (fC f).drop (8 + (nums .u8 t).length) = fC { f with tag := t } := by
  have e : (fC f).drop 40 = [] := List.drop_of_length_le (by rw [fC_len f h]; omega)
  rw [nums_len, ht, e, List.append_nil]
  rfl
theorem nums_one (k : IntKind) (l : List Int) : ∀ u ∈ nums k l, u.oneCell' = true := by
  intro u hu
  obtain ⟨x, _, rfl⟩ := List.mem_map.1 hu
  rfl
end Go.Proofs.Ytfdlfkdefbfhfaa
