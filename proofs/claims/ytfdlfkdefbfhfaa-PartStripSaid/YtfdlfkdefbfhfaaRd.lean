import Derived.Test.YtfdlfkdefbfhfaaRead
set_option linter.unusedVariables false
set_option linter.unusedSimpArgs false
namespace Go.Proofs.Ytfdlfkdefbfhfaa
open Go.RowKit

def getAt (l : List Int) (p k : Int) : Int := be ((l.drop p.toNat).take k.toNat)
def readS (l : List Int) : List Slot → Frm → Int → Option (Frm × Int)
  | [], f, p => some (f, p)
  | s :: S, f, p => if (l.length : Int) - p < s.k then none else readS l S (f.set s.off (getAt l p s.k)) (p + s.k)
def tagAt (l : List Int) (p : Int) : List Int := (l.drop p.toNat).take 32 ++ zeroTag.drop (l.drop p.toNat).length
def tagF (l : List Int) (f : Frm) (p : Int) : Frm := if taggedB f.kind then { f with tag := tagAt l p } else f
def tagP (l : List Int) (f : Frm) (p : Int) : Int := if taggedB f.kind then p + ((Nat.min (l.drop p.toNat).length 32 : Nat) : Int) else p
def readEnd (l : List Int) (f : Frm) (p : Int) : Frm × Int := if plainB (tagF l f p) = true ∧ tagP l f p = l.length ∧ putF (tagF l f p) = l then (tagF l f p, 0) else (kindF 0, 3)
def readBody (l : List Int) : Option (Frm × Int) → Frm × Int
  | none => (kindF 0, 3)
  | some r => readEnd l r.1 r.2
/-- frame.Read. -/
def readF (l : List Int) : Frm × Int :=
  if l.length > 64 then (kindF 0, 2) else if longL l = -1 then (kindF 0, 4) else if longL l ≠ l.length ∨ longL l = 2 then (kindF 0, 3)
  else readBody l (readS l (slotsOf (nth l 2)) (kindF (nth l 2)) 3)

theorem slotsOf_small (kind : Int) : ∀ s ∈ slotsOf kind, s.isInt = true → s.k ≤ 4 := by
  intro s hs
  unfold slotsOf at hs
  split at hs
  · simp at hs; rcases hs with rfl | rfl <;> simp
  · split at hs
    · simp at hs; rcases hs with rfl | rfl <;> simp
    · split at hs
      · simp at hs; subst hs; simp
      · split at hs
        · simp at hs; subst hs; simp
        · split at hs
          · simp at hs; rcases hs with rfl | rfl | rfl | rfl <;> simp
          · cases hs
theorem pow_small (k : Nat) (h : k ≤ 8) : (256 : Int) ^ k ≤ 18446744073709551616 ∧ (k ≤ 4 → (256 : Int) ^ k ≤ 4294967296) := by
  have : k = 0 ∨ k = 1 ∨ k = 2 ∨ k = 3 ∨ k = 4 ∨ k = 5 ∨ k = 6 ∨ k = 7 ∨ k = 8 := by omega
  rcases this with h | h | h | h | h | h | h | h | h <;> rw [h] <;> decide
theorem pow_mono (a b : Nat) (h : a ≤ b) : (256 : Int) ^ a ≤ 256 ^ b := by
  obtain ⟨d, rfl⟩ : ∃ d, b = a + d := ⟨b - a, by omega⟩
  rw [Int.pow_add]
  have h1 : (0 : Int) < 256 ^ a := Int.pow_pos (by decide)
  have h2 : (0 : Int) < 256 ^ d := Int.pow_pos (by decide)
  have h3 := Int.mul_le_mul_of_nonneg_left (show (1 : Int) ≤ 256 ^ d by omega) (Int.le_of_lt h1)
  rwa [Int.mul_one] at h3
theorem getAt_range (l : List Int) (h : IsBytes l) (p k : Int) (hk : 0 ≤ k) (h8 : k ≤ 8) : 0 ≤ getAt l p k ∧ getAt l p k < 18446744073709551616 ∧ (k ≤ 4 → getAt l p k < 4294967296) := by
  have h1 := be_bound _ ((h.drop p.toNat).take k.toNat)
  have h2 : ((l.drop p.toNat).take k.toNat).length ≤ k.toNat := by rw [List.length_take]; omega
  have h3 := pow_mono _ _ h2
  have h4 := pow_small k.toNat (by omega)
  unfold getAt
  refine ⟨h1.1, by omega, fun h => ?_⟩
  have := h4.2 (by omega)
  omega
theorem set_wf (f : Frm) (hf : FrmWf f) (o : Nat) (v : Int) (h0 : 0 ≤ v) (h1 : v < 18446744073709551616) : FrmWf (f.set o v) := by
  obtain ⟨⟨a, b⟩, c, d, e⟩ := hf
  unfold Frm.set
  repeat' split
  all_goals exact ⟨⟨a, b⟩, by first | exact ⟨h0, h1⟩ | exact c, by first | exact ⟨h0, h1⟩ | exact d, by first | exact ⟨h0, h1⟩ | exact e⟩
theorem zeroTag_bytes : IsBytes zeroTag := by
  intro x hx
  have := List.eq_of_mem_replicate hx
  omega
theorem kindF_wf (k : Int) : FrmWf (kindF k) := ⟨⟨rfl, zeroTag_bytes⟩, by show (0:Int) ≤ 0 ∧ (0:Int) < _; decide, by show (0:Int) ≤ 0 ∧ (0:Int) < _; decide, by show (0:Int) ≤ 0 ∧ (0:Int) < _; decide⟩
theorem tagAt_len (l : List Int) (p : Int) : (tagAt l p).length = 32 := by
  unfold tagAt zeroTag
  rw [List.length_append, List.length_take, List.length_drop, List.length_drop, List.length_replicate]
  omega
theorem tagF_wf (l : List Int) (h : IsBytes l) (f : Frm) (p : Int) (hf : FrmWf f) : FrmWf (tagF l f p) := by
  unfold tagF
  split
  · exact ⟨⟨tagAt_len l p, ((h.drop _).take _).app (zeroTag_bytes.drop _)⟩, hf.2⟩
  · exact hf
theorem fC_tagAt (l : List Int) (f : Frm) (p : Int) (m : Nat) (hm : m = Nat.min (l.drop p.toNat).length 32) (ht : f.tag = zeroTag) :
    (fC f).take 8 ++ (nums .u8 (l.drop p.toNat)).take (m * 1) ++ (fC f).drop (8 + m * 1) = fC { f with tag := tagAt l p } := by
  have e : (fC f).take 8 ++ (nums .u8 (l.drop p.toNat)).take (m * 1) ++ (fC f).drop (8 + m * 1) = (fC f).take 8 ++ nums .u8 (tagAt l p) := by
    rw [List.append_assoc]
    congr 1
    have e1 : (fC f).drop (8 + m * 1) = nums .u8 (zeroTag.drop m) := by
      unfold fC
      rw [ht, List.drop_append]
      simp [nums]
    rw [e1]
    unfold tagAt
    rw [nums_app, Nat.mul_one]
    rcases Nat.lt_or_ge (l.drop p.toNat).length 32 with h | h
    · have hm' : m = (l.drop p.toNat).length := by rw [hm]; exact Nat.min_eq_left (by omega)
      rw [hm', List.take_of_length_le (by simp [nums]), List.take_of_length_le (by omega)]
    · have hm' : m = 32 := by rw [hm]; exact Nat.min_eq_right h
      rw [hm']
      have e2 : zeroTag.drop 32 = [] := rfl
      have e3 : zeroTag.drop (l.drop p.toNat).length = [] := List.drop_eq_nil_of_le h
      rw [e2, e3]
      simp [nums, List.map_take]
  rw [e]
  rfl
end Go.Proofs.Ytfdlfkdefbfhfaa
