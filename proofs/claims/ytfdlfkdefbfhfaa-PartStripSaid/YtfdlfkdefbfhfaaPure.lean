import Derived.Test.YtfdlfkdefbfhfaaLaw
set_option linter.unusedVariables false
set_option linter.unusedSimpArgs false
namespace Go.Proofs.Ytfdlfkdefbfhfaa
open Go.RowKit

/-! The plain laws of part. -/
def Known (l : List Usr) (M : List (Int × Int)) : Prop := ∀ k, whoGet M k = 0 ∨ 0 ≤ findU l (whoGet M k)
theorem known_nil (l : List Usr) : Known l [] := fun _ => .inl rfl
theorem known_cons (l : List Usr) (M : List (Int × Int)) (h : Known l M) (d u : Int) (hu : 0 ≤ findU l u) : Known l ((d, u) :: M) := fun k => by
  by_cases e : d = k
  · subst e; rw [whoGet_same]; exact .inr hu
  · rw [whoGet_other M d k u e]; exact h k
theorem whoseF_known (l : List Usr) (M : List (Int × Int)) (e : Ev) (h : Known l M) : ((whoseF l M e).1 = 0 ∨ 0 ≤ findU l (whoseF l M e).1) ∧ Known l (whoseF l M e).2 := by
  unfold whoseF
  split
  · exact ⟨.inl rfl, h⟩
  · split
    · exact ⟨.inl rfl, h⟩
    · split
      · unfold helloF
        split
        · exact ⟨.inl rfl, h⟩
        · rename_i hf
          exact ⟨.inr (show 0 ≤ findU l (readF e.raw).1.user by omega), known_cons l M h _ _ (show 0 ≤ findU l (readF e.raw).1.user by omega)⟩
      · split
        · exact ⟨h _, h⟩
        · exact ⟨.inl rfl, h⟩
theorem stepM_known (l : List Usr) (M : List (Int × Int)) (e : Ev) (h : Known l M) : Known l (stepM l M e) := by
  unfold stepM
  split
  · exact known_nil l
  · exact (whoseF_known l M e h).2
theorem whoseL_at (l : List Usr) (es : List Ev) : ∀ (M : List (Int × Int)) (i : Nat) (e : Ev), Known l M → es[i]? = some e → ∃ M', Known l M' ∧ nth (whoseL l M es) i = (whoseF l M' e).1 := by
  induction es with
  | nil => intro M i e _ h; simp at h
  | cons x t ih =>
    intro M i e hM h
    cases i with
    | zero => simp at h; subst h; exact ⟨M, hM, rfl⟩
    | succ i =>
      obtain ⟨M', h1, h2⟩ := ih (stepM l M x) i e (stepM_known l M x hM) (by simpa using h)
      exact ⟨M', h1, h2⟩
/-- PartUsers -/
theorem users_law (l : List Usr) (es : List Ev) (i : Nat) (e : Ev) (h : es[i]? = some e) :
    (¬ (e.kind = 0 ∧ (readF e.raw).2 = 0) → nth (whoseL l [] es) i = 0) ∧ (nth (whoseL l [] es) i ≠ 0 → 0 ≤ findU l (nth (whoseL l [] es) i)) ∧
    ((e.kind = 0 ∧ (readF e.raw).2 = 0) ∧ (readF e.raw).1.kind = 0 → (0 ≤ findU l (readF e.raw).1.user ∧ nth (whoseL l [] es) i = (readF e.raw).1.user) ∨ (findU l (readF e.raw).1.user < 0 ∧ nth (whoseL l [] es) i = 0)) := by
  obtain ⟨M, hM, hw⟩ := whoseL_at l es [] i e (known_nil l) h
  rw [hw]
  refine ⟨fun hn => ?_, fun hn => ?_, fun hh => ?_⟩
  · unfold whoseF
    by_cases h1 : e.kind = 0
    · rw [if_neg (by omega), if_pos (fun h2 => hn ⟨h1, h2⟩)]
    · rw [if_pos h1]
  · rcases (whoseF_known l M e hM).1 with h1 | h1
    · exact absurd h1 hn
    · exact h1
  · obtain ⟨⟨h1, h2⟩, h3⟩ := hh
    unfold whoseF
    rw [if_neg (by omega), if_neg (by omega), if_pos h3]
    unfold helloF
    by_cases h4 : findU l (readF e.raw).1.user < 0
    · rw [if_pos h4]; exact .inr ⟨h4, rfl⟩
    · rw [if_neg h4]; exact .inl ⟨by omega, rfl⟩
/-- PartBreaks -/
theorem whoseL_app (l : List Usr) (a : List Ev) : ∀ (M : List (Int × Int)) (b : List Ev), whoseL l M (a ++ b) = whoseL l M a ++ whoseL l (a.foldl (stepM l) M) b := by
  induction a with
  | nil => intro M b; rfl
  | cons x t ih =>
    intro M b
    show (whoseF l M x).1 :: whoseL l (stepM l M x) (t ++ b) = _
    rw [ih]
    rfl
theorem putF_kind (F : Frm) (h1 : plainB F = true) : nth (putF F) 2 = F.kind := by
  have hr : rangesB F = true := by unfold plainB at h1; simp only [Bool.and_eq_true] at h1; exact h1.1
  have hb : 0 ≤ F.kind ∧ F.kind < 7 := by
    unfold rangesB at hr
    simp only [Bool.and_eq_true, decide_eq_true_eq] at hr
    exact ⟨hr.1.1.1.1.1.1.1.1.1, hr.1.1.1.1.1.1.1.1.2⟩
  have e : putF F = [sizeF F / 256 % 256, sizeF F % 256, F.kind % 256] ++ ((((slotsOf F.kind).map (slotNum F)).flatMap bytesN) ++ (if taggedB F.kind then F.tag else [])) := by
    unfold putF textB catB textL
    rw [List.flatMap_cons, List.flatMap_cons, ← List.append_assoc]
    rfl
  rw [e]
  show F.kind % 256 = F.kind
  omega
theorem readF_kind (raw : List Int) (h : (readF raw).2 = 0) : (readF raw).1.kind = nth raw 2 := by
  rcases readF_plain raw with ⟨_, h2⟩ | ⟨h1, _, h3⟩
  · exact absurd h h2
  · have hk := putF_kind _ h1
    rw [h3] at hk
    exact hk.symm
theorem catB_bytes (l : List (Int × Int)) : IsBytes (catB l) := fun x hx => by
  obtain ⟨y, _, hy⟩ := List.mem_flatMap.1 hx
  exact putB_bytes _ _ x hy
theorem putF_bytes (f : Frm) (hf : FrmWf f) : IsBytes (putF f) := by
  unfold putF textB
  refine (catB_bytes _).app ?_
  split
  · exact hf.1.2
  · intro x hx; cases hx
theorem breaks_law (l : List Usr) (es : List Ev) (e : Ev) (k : Int) (hk : nth e.raw 2 = k) (h : k = 2 ∨ k = 4) (h0 : e.kind = 0) :
    nth (whoseL l [] (es ++ [crashE, e])) (es.length + 1) = 0 ∧ nth (whoseL l [] (es ++ [crashE, e])) es.length = 0 := by
  rw [whoseL_app]
  have hl := whoseL_len l es []
  have e2 : whoseL l (es.foldl (stepM l) []) [crashE, e] = [0, 0] := by
    show [(0 : Int), (whoseF l [] e).1] = [0, 0]
    have : (whoseF l [] e).1 = 0 := by
      unfold whoseF
      rw [if_neg (by omega)]
      by_cases h2 : (readF e.raw).2 = 0
      · have h3 := readF_kind e.raw h2
        rw [if_neg (by omega), if_neg (by omega), if_pos (by omega)]
        rfl
      · rw [if_pos h2]
    rw [this]
  rw [e2]
  unfold nth
  constructor
  · rw [List.getD_eq_getElem?_getD, List.getElem?_append_right (by omega), hl]
    simp
  · rw [List.getD_eq_getElem?_getD, List.getElem?_append_right (by omega), hl]
    simp
/-- PartClear -/
def hadB (es : List Ev) (d : Int) : Bool := es.any (fun e => beginsB e && decide (e.draw = d))
theorem clear_law (ev : Ev) (es : List Ev) : ∀ O : List Int, clearL O (es ++ [ev]) = (clearL O es && !(beginsB ev && (decide (ev.draw ∈ O) || hadB es ev.draw))) := by
  induction es with
  | nil =>
    intro O
    cases hb : beginsB ev <;> by_cases hm : ev.draw ∈ O <;> simp [clearL, hadB, hb, hm]
  | cons x t ih =>
    intro O
    show clearL O (x :: (t ++ [ev])) = _
    unfold clearL
    cases hx : beginsB x with
    | false => simp [ih, hadB, hx]
    | true =>
      by_cases hm : x.draw ∈ O
      · simp [hm]
      · simp only [if_true, if_neg hm, ih]
        congr 1
        congr 1
        congr 1
        simp only [hadB, List.any_cons, hx, Bool.true_and]
        rw [← Bool.or_assoc]
        congr 1
        by_cases h1 : ev.draw ∈ O <;> by_cases h2 : x.draw = ev.draw <;> simp [h1, h2]
        exact fun e => h2 e.symm
/-- PartStrip -/
theorem role_zero (l : List Usr) : roleU l 0 ≠ 0 := by
  have h : findU l 0 = -1 := by
    unfold findU
    rw [if_neg]
    rintro ⟨h1, h2, h3⟩
    have h4 : mayF 0 l = true := by unfold mayU at h1; simp only [Bool.and_eq_true] at h1; exact h1.1
    have := mayF_gt l 0 h4 (findI l 0) h2
    omega
  unfold roleU
  rw [if_pos h]
  decide
def Rel (l : List Usr) (M M' : List (Int × Int)) : Prop := ∀ k, whoGet M' k = whoGet M k ∨ roleU l (whoGet M k) = 0
theorem Rel.refl (l : List Usr) (M : List (Int × Int)) : Rel l M M := fun _ => .inl rfl
theorem Rel.cons {l : List Usr} {M M' : List (Int × Int)} (h : Rel l M M') (d u : Int) : Rel l ((d, u) :: M) ((d, u) :: M') := fun k => by
  by_cases e : d = k
  · subst e; rw [whoGet_same, whoGet_same]; exact .inl rfl
  · rw [whoGet_other M d k u e, whoGet_other M' d k u e]; exact h k
theorem Rel.left {l : List Usr} {M M' : List (Int × Int)} (h : Rel l M M') (d u : Int) (hu : roleU l u = 0) : Rel l ((d, u) :: M) M' := fun k => by
  by_cases e : d = k
  · subst e; rw [whoGet_same]; exact .inr hu
  · rw [whoGet_other M d k u e]; exact h k
/-- an event that is not a viewer's: the same behind both maps -/
theorem whoseF_rel (l : List Usr) (M M' : List (Int × Int)) (e : Ev) (h : Rel l M M') (hr : roleU l (whoseF l M e).1 ≠ 0) : (whoseF l M' e).1 = (whoseF l M e).1 ∧ Rel l (whoseF l M e).2 (whoseF l M' e).2 := by
  unfold whoseF at hr ⊢
  split
  · exact ⟨rfl, h⟩
  · rename_i h1
    rw [if_neg h1] at hr
    split
    · exact ⟨rfl, h⟩
    · rename_i h2
      rw [if_neg h2] at hr
      split
      · unfold helloF
        split
        · exact ⟨rfl, h⟩
        · exact ⟨rfl, h.cons _ _⟩
      · rename_i h3
        rw [if_neg h3] at hr
        split
        · rename_i h4
          rw [if_pos h4] at hr
          rcases h (readF e.raw).1.sess with h5 | h5
          · exact ⟨h5, h⟩
          · exact absurd h5 hr
        · exact ⟨rfl, h⟩
/-- one that is a viewer's: the map of what is left stays -/
theorem whoseF_rel0 (l : List Usr) (M M' : List (Int × Int)) (e : Ev) (h : Rel l M M') (hr : roleU l (whoseF l M e).1 = 0) : Rel l (whoseF l M e).2 M' := by
  unfold whoseF at hr ⊢
  split
  · exact h
  · rename_i h1
    rw [if_neg h1] at hr
    split
    · exact h
    · rename_i h2
      rw [if_neg h2] at hr
      split
      · rename_i h3
        rw [if_pos h3] at hr
        unfold helloF at hr ⊢
        split
        · exact h
        · rename_i h4
          rw [if_neg h4] at hr
          exact h.left _ _ hr
      · split
        · exact h
        · exact h
theorem stripE_norm (l : List Usr) (w : Int) (e : Ev) : stripE l w (norm e) = stripE l w e := rfl
theorem strip_rel (l : List Usr) (es : List Ev) : ∀ M M', Rel l M M' →
    (∀ x ∈ whoseL l M' (stripN l (whoseL l M es) es), roleU l x ≠ 0) ∧ stripN l (whoseL l M' (stripN l (whoseL l M es) es)) (stripN l (whoseL l M es) es) = stripN l (whoseL l M es) es := by
  induction es with
  | nil => intro M M' _; exact ⟨fun x hx => (by cases hx), rfl⟩
  | cons e t ih =>
    intro M M' h
    show (∀ x ∈ whoseL l M' (stripE l (whoseF l M e).1 e ++ stripN l (whoseL l (stepM l M e) t) t), _) ∧ stripN l (whoseL l M' (stripE l (whoseF l M e).1 e ++ stripN l (whoseL l (stepM l M e) t) t)) (stripE l (whoseF l M e).1 e ++ stripN l (whoseL l (stepM l M e) t) t) = (stripE l (whoseF l M e).1 e ++ stripN l (whoseL l (stepM l M e) t) t)
    by_cases hr : roleU l (whoseF l M e).1 = 0
    · cases hb : breaksB e with
      | true =>
        have e1 : stripE l (whoseF l M e).1 e = [crashE] := by unfold stripE; rw [if_neg (fun h => h hr), hb]; rfl
        have e2 : stepM l M e = [] := by unfold stepM; rw [hb]; rfl
        obtain ⟨i1, i2⟩ := ih [] [] (Rel.refl l [])
        rw [e1, e2]
        show (∀ x ∈ (0 : Int) :: whoseL l [] (stripN l (whoseL l [] t) t), _) ∧ stripE l 0 crashE ++ stripN l (whoseL l [] (stripN l (whoseL l [] t) t)) (stripN l (whoseL l [] t) t) = crashE :: stripN l (whoseL l [] t) t
        refine ⟨fun x hx => ?_, ?_⟩
        · rcases List.mem_cons.1 hx with rfl | hx
          · exact role_zero l
          · exact i1 x hx
        · have e3 : stripE l 0 crashE = [crashE] := by unfold stripE; rw [if_pos (role_zero l)]; rfl
          rw [e3, i2]
          rfl
      | false =>
        have e1 : stripE l (whoseF l M e).1 e = [] := by unfold stripE; rw [if_neg (fun h => h hr), hb]; rfl
        have e2 : stepM l M e = (whoseF l M e).2 := by unfold stepM; rw [hb]; rfl
        rw [e1, e2, List.nil_append]
        exact ih _ _ (whoseF_rel0 l M M' e h hr)
    · have e1 : stripE l (whoseF l M e).1 e = [norm e] := by unfold stripE; rw [if_pos hr]
      obtain ⟨f1, f2⟩ := whoseF_rel l M M' e h hr
      have f3 : Rel l (stepM l M e) (stepM l M' (norm e)) := by
        unfold stepM
        rw [breaksB_norm, whoseF_norm]
        split
        · exact Rel.refl l []
        · exact f2
      obtain ⟨i1, i2⟩ := ih _ _ f3
      rw [e1]
      show (∀ x ∈ (whoseF l M' (norm e)).1 :: whoseL l (stepM l M' (norm e)) (stripN l (whoseL l (stepM l M e) t) t), _) ∧ stripE l (whoseF l M' (norm e)).1 (norm e) ++ stripN l (whoseL l (stepM l M' (norm e)) (stripN l (whoseL l (stepM l M e) t) t)) (stripN l (whoseL l (stepM l M e) t) t) = norm e :: stripN l (whoseL l (stepM l M e) t) t
      rw [whoseF_norm, f1, stripE_norm, e1, i2]
      refine ⟨fun x hx => ?_, rfl⟩
      rcases List.mem_cons.1 hx with rfl | hx
      · exact hr
      · exact i1 x hx
theorem stripN_norm (l : List Usr) (es : List Ev) : ∀ ws : List Int, stripN l ws (es.map norm) = stripN l ws es := by
  induction es with
  | nil => intro ws; cases ws <;> rfl
  | cons e t ih =>
    intro ws
    cases ws with
    | nil => rfl
    | cons w ws =>
      show stripE l w (norm e) ++ stripN l ws (t.map norm) = stripE l w e ++ stripN l ws t
      rw [ih, stripE_norm]
/-- what is left, in any places: nobody of it is a viewer, and it is left again -/
theorem strip_law (l : List Usr) (es s : List Ev) (hs : s.map norm = stripN l (whoseL l [] es) es) : (∀ x ∈ whoseL l [] s, roleU l x ≠ 0) ∧ stripN l (whoseL l [] s) s = s.map norm := by
  have h := strip_rel l es [] [] (Rel.refl l [])
  rw [← hs, whoseL_norm, stripN_norm] at h
  exact h
theorem eqE_norm (e f : Ev) (h : norm e = norm f) : eqE e f = true := by
  have h1 : e.kind = f.kind := by have := congrArg Ev.kind h; exact this
  have h2 : e.raw = f.raw := by have := congrArg Ev.raw h; exact this
  have h3 : e.draw = f.draw := by have := congrArg Ev.draw h; exact this
  have h4 : e.boom = f.boom := by have := congrArg Ev.boom h; exact this
  have h5 : e.keep = f.keep := by have := congrArg Ev.keep h; exact this
  unfold eqE
  simp [h1, h2, h3, h4, h5]
theorem sameE_norm (a : List Ev) : ∀ b : List Ev, a.map norm = b.map norm → sameE a b = true := by
  induction a with
  | nil => intro b h; cases b with
    | nil => rfl
    | cons f fs => simp at h
  | cons e t ih => intro b h; cases b with
    | nil => simp at h
    | cons f fs =>
      simp only [List.map_cons, List.cons.injEq] at h
      unfold sameE
      rw [eqE_norm e f h.1, ih fs h.2]
      rfl
theorem norm_len (l : List Usr) (ws : List Int) (es : List Ev) : (stripN l ws es).length ≤ es.length := by
  induction es generalizing ws with
  | nil => cases ws <;> exact Nat.le_refl _
  | cons e t ih =>
    cases ws with
    | nil => exact Nat.zero_le _
    | cons w ws =>
      show (stripE l w e ++ stripN l ws t).length ≤ _
      rw [List.length_append, List.length_cons]
      have := ih ws
      have : (stripE l w e).length ≤ 1 := by unfold stripE; split; · exact Nat.le_refl _
                                             · split; · exact Nat.le_refl _
                                               · exact Nat.zero_le _
      omega
theorem strip_raw (l : List Usr) (es : List Ev) : ∀ (ws : List Int) (y : Ev), y ∈ stripN l ws es → y.raw = [] ∨ ∃ e ∈ es, y.raw = e.raw := by
  induction es with
  | nil => intro ws y h; cases ws <;> cases h
  | cons e t ih =>
    intro ws y h
    cases ws with
    | nil => cases h
    | cons w ws =>
      have h : y ∈ stripE l w e ++ stripN l ws t := h
      rcases List.mem_append.1 h with h | h
      · unfold stripE at h
        split at h
        · rw [List.mem_singleton.1 h]; exact .inr ⟨e, List.mem_cons_self, rfl⟩
        · split at h
          · rw [List.mem_singleton.1 h]; exact .inl rfl
          · cases h
      · rcases ih ws y h with h | ⟨e', h1, h2⟩
        · exact .inl h
        · exact .inr ⟨e', List.mem_cons_of_mem _ h1, h2⟩
end Go.Proofs.Ytfdlfkdefbfhfaa
