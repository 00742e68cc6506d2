import Derived.Test.YtfdlfkdefbfhfaaText
set_option linter.unusedVariables false
set_option linter.unusedSimpArgs false
namespace Go.Proofs.Ytfdlfkdefbfhfaa
open Go.RowKit

theorem textL_ok (f : Frm) (hf : FrmWf f) (hr : rangesB f = true) : ∀ x ∈ textL f, okN x := by
  have hS := sumK_bound (slotsOf f.kind) (slotsOf_ok f.kind)
  have hl := slotsOf_len f.kind
  obtain ⟨_, h1, h2, h3⟩ := hf
  have hr' := hr
  simp only [rangesB, Bool.and_eq_true, decide_eq_true_eq] at hr'
  intro x hx
  unfold textL at hx
  rcases List.mem_cons.1 hx with rfl | hx
  · have : 0 ≤ sizeF f ∧ sizeF f ≤ 65 := by unfold sizeF; split <;> omega
    refine ⟨by show (1:Int) ≤ 2; decide, by show (2:Int) ≤ 8; decide, this.1, ?_, ?_⟩
    · show sizeF f < 18446744073709551616; omega
    · show sizeF f < 65536; omega
  · rcases List.mem_cons.1 hx with rfl | hx
    · refine ⟨by show (1:Int) ≤ 1; decide, by show (1:Int) ≤ 8; decide, ?_, ?_, ?_⟩
      · show 0 ≤ f.kind; omega
      · show f.kind < 18446744073709551616; omega
      · show f.kind < 256; omega
    · obtain ⟨s, hs, rfl⟩ := List.mem_map.1 hx
      unfold slotsOf at hs
      unfold okN slotNum
      split at hs
      · simp at hs; rcases hs with rfl | rfl <;> simp [Frm.get] <;> omega
      · split at hs
        · simp at hs; rcases hs with rfl | rfl <;> simp [Frm.get] <;> omega
        · split at hs
          · simp at hs; subst hs; simp [Frm.get]; omega
          · split at hs
            · simp at hs; subst hs; simp [Frm.get]; omega
            · split at hs
              · simp at hs; rcases hs with rfl | rfl | rfl | rfl <;> simp [Frm.get] <;> omega
              · cases hs

/-- frame.Put's bytes. -/
def textB (f : Frm) : List Int := catB (textL f)
def putF (f : Frm) : List Int := textB f ++ (if taggedB f.kind then f.tag else [])
theorem textB_len (f : Frm) (hf : FrmWf f) (hr : rangesB f = true) : (textB f).length ≤ 48 := by
  have h := flat_len_le (textL f) (textL_ok f hf hr)
  have hl := slotsOf_len f.kind
  have : (textL f).length = (slotsOf f.kind).length + 2 := by simp [textL]
  unfold textB
  omega

set_option maxRecDepth 100000 in
set_option maxHeartbeats 1000000 in
theorem frame_put (f : Frm) (w : World) (hf : FrmWf f) : Calls Try.prog 18 #[.agg (fC f).toArray] w fun e w' =>
    (plainB f = true → ∃ v, e = .returned (.tuple #[v, .bool true]) ∧ w'.ownsRow w.heap.size 5 1 v (putF f).length (nums .u8 (putF f))) ∧
    (plainB f = false → e = .returned (.tuple #[.slice none 0 0, .bool false])) ∧ Below w.heap.size w w' := by
  have hl := fC_len f hf.1.1
  have htl := hf.1.1
  have HL := Lib.hid hl
  have HTL := Lib.hid htl
  clear hl htl
  have HF := Lib.hid hf
  clear hf
  cases hp : plainB f with
  | false =>
    have hpl := fun W => frame_plain f W HF.out.1
    rw [hp] at hpl
    have hP := Lib.hid hpl
    clear hpl hp
    go_enter Try.func18, Try.ntmps18
    go_wp2_with (refine wpList_boxS (w0 := w) w.heap.size rfl 36 _ rfl (fC f) rfl (Below.refl _ _) (Nat.le_refl _) ?h1)
    case h1 =>
    intro W1 b1 k1 B1 s1
    have hb1 := Lib.hid b1; have hB1 := Lib.hid B1
    clear b1 k1 B1
    go_wp2_with (first | (refine wpList_loadS rfl 36 _ rfl w.heap.size 0 rfl _ Try.underlying36 rfl (fC f) (by rw [HL.out]; exact size_frame) (fun j u hu => by rw [Nat.zero_add, hb1.out.cell]; exact hu) ?_) | (go_at_call 31; refine (hP.out _).mono ?_; rintro e W2 ⟨rfl, B2⟩; have B2 := Lib.hid B2))
    go_ret2
    exact ⟨fun h => by simp at h, fun _ => rfl, below_then hB1.out (by omega) B2.out⟩
  | true =>
    have hr : Hid (rangesB f = true) := by
      have : rangesB f = true := by simp only [plainB, Bool.and_eq_true] at hp; exact hp.1
      exact this
    have hpl := fun W => frame_plain f W HF.out.1
    rw [hp] at hpl
    have hP := Lib.hid hpl
    have hT := Lib.hid (fun W => frame_text f W HF.out hr.out (textL_ok f HF.out hr.out))
    have hlen := Lib.hid (textB_len f HF.out hr.out)
    clear hpl hp
    have hpf : Hid (putF f = textB f ++ (if taggedB f.kind then f.tag else [])) := by
      have : putF f = textB f ++ (if taggedB f.kind then f.tag else []) := rfl
      exact this
    cases htb : taggedB f.kind with
    | false =>
      have HTb := Lib.hid htb
      clear htb
      go_enter Try.func18, Try.ntmps18
      go_wp2_with (refine wpList_boxS (w0 := w) w.heap.size rfl 36 _ rfl (fC f) rfl (Below.refl _ _) (Nat.le_refl _) ?h1)
      case h1 =>
      intro W1 b1 k1 B1 s1
      have hb1 := Lib.hid b1; have hB1 := Lib.hid B1
      clear b1 k1 B1
      go_wp2_with (first | (refine wpList_loadS rfl 36 _ rfl w.heap.size 0 rfl _ Try.underlying36 rfl (fC f) (by rw [HL.out]; exact size_frame) (fun j u hu => by rw [Nat.zero_add, hb1.out.cell]; exact hu) ?_) | (go_at_call 31; refine (hP.out _).mono ?_; rintro e W2 ⟨rfl, B2⟩; have hb1 := Lib.hid (hb1.out.belowS B2); have hB1 := Lib.hid (below_then hB1.out (by omega) B2); have s2 := B2.size; clear B2) |
        (go_at_call 32; go_loud (refine (hT.out _).mono ?_; rintro e W3 ⟨v, rfl, hv, B3⟩; rw [HTb.out]; have hz := hB1.out.size; have hb1 := Lib.hid (hb1.out.belowS B3); have hB1 := Lib.hid (below_then hB1.out (by omega) B3); have s3 := B3.size; clear B3; obtain ⟨A, c, rfl, _⟩ := Row.of_own hv; have hv := Lib.hid (own_lower (base' := w.heap.size) hv hz))))
      go_ret2
      refine ⟨fun _ => ⟨_, rfl, ?_⟩, fun h => by simp at h, hB1.out⟩
      rw [hpf.out, HTb.out]
      simpa [textB] using hv.out
    | true =>
      have HTb := Lib.hid htb
      clear htb
      go_enter Try.func18, Try.ntmps18
      go_wp2_with (refine wpList_boxS (w0 := w) w.heap.size rfl 36 _ rfl (fC f) rfl (Below.refl _ _) (Nat.le_refl _) ?h1)
      case h1 =>
      intro W1 b1 k1 B1 s1
      have hb1 := Lib.hid b1; have hB1 := Lib.hid B1
      clear b1 k1 B1
      go_wp2_with (first | (refine wpList_loadS rfl 36 _ rfl w.heap.size 0 rfl _ Try.underlying36 rfl (fC f) (by rw [HL.out]; exact size_frame) (fun j u hu => by rw [Nat.zero_add, hb1.out.cell]; exact hu) ?_) | (go_at_call 31; refine (hP.out _).mono ?_; rintro e W2 ⟨rfl, B2⟩; have hb1 := Lib.hid (hb1.out.belowS B2); have hB1 := Lib.hid (below_then hB1.out (by omega) B2); have s2 := B2.size; clear B2) |
        (go_at_call 32; go_loud (refine (hT.out _).mono ?_; rintro e W3 ⟨v, rfl, hv, B3⟩; rw [HTb.out]; have hz := hB1.out.size; have hb1 := Lib.hid (hb1.out.belowS B3); have hB1 := Lib.hid (below_then hB1.out (by omega) B3); have s3 := B3.size; clear B3; obtain ⟨A, c, rfl, _⟩ := Row.of_own hv; have hv := Lib.hid (own_lower (base' := w.heap.size) hv hz))) |
        (at_builtin; go_loud (refine wpList_app (w0 := w) w.heap.size rfl _ _ 40 rfl 5 (.int .u8 0) 1 1 rfl rfl rfl (by decide) (by decide) _ (textB f).length (nums .u8 (textB f)) _ 32 32 (nums .u8 f.tag) rfl rfl hv.out ⟨(by rw [nums_len, HTL.out]), (by omega), (by omega), (fun h => by cases h), (fun _ => ⟨_, _, rfl, fun j u hu => by rw [hb1.out.cell]; exact fC_tag f j u hu⟩)⟩ (nums_one _ _) hB1.out (by omega) (by have := hlen.out; omega) ?_; intro v' W4 hv' B4 _ _; have hv' := Lib.hid hv'; have hB4 := Lib.hid B4; clear B4)))
      go_ret2
      refine ⟨fun _ => ⟨_, rfl, ?_⟩, fun h => by simp at h, hB4.out⟩
      rw [hpf.out, HTb.out]
      have := hv'.out
      rw [← nums_app] at this
      simpa [HTL.out] using this
end Go.Proofs.Ytfdlfkdefbfhfaa
