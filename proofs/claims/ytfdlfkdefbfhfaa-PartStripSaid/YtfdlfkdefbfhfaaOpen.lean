import Derived.Test.YtfdlfkdefbfhfaaLaw
import Derived.Test.YtfdlfkdefbfhfaaRows
import Derived.Deep.Slices
import Derived.Deep.Fields
import Derived.ChangeSame
import Derived.ProofKit
import Derived.OpenShut
import Derived.ShutString
import Derived.ChangeOld
import Derived.SizedLaws
import Derived.Carry
set_option linter.unusedVariables false
set_option linter.unusedSimpArgs false
namespace Go.Proofs.Ytfdlfkdefbfhfaa
open Go.ChangeShapes Go.WideShapes Go.RowKit Go.Deep

section
variable {H : Type} {enc : TypeId × Value → H} {P : Program} {w : World}

theorem add_zero_ (a : Addr) : a.add 0 = a := by simp [Addr.add]
theorem choose_list {S : Type} (p : Nat → S → Prop) : ∀ n, (∀ i, i < n → ∃ s, p i s) → ∃ l : List S, l.length = n ∧ ∀ i s, l[i]? = some s → p i s := by
  intro n
  induction n with
  | zero => intro _; exact ⟨[], rfl, fun i s h => by simp at h⟩
  | succ n ih =>
    intro h
    obtain ⟨l, hl, hp⟩ := ih (fun i hi => h i (by omega))
    obtain ⟨s, hs⟩ := h n (by omega)
    refine ⟨l ++ [s], by simp [hl], fun i u hu => ?_⟩
    rcases Nat.lt_or_ge i n with hi | hi
    · rw [List.getElem?_append_left (by omega)] at hu
      exact hp i u hu
    · have hi2 : i < n + 1 := by have := (List.getElem?_eq_some_iff.1 hu).1; simpa [hl] using this
      obtain rfl : i = n := by omega
      rw [List.getElem?_append_right (by omega), hl, Nat.sub_self] at hu
      cases hu
      exact hs
theorem flat_at {S : Type} (f : S → List Value) (sz : Nat) (hsz : ∀ s, (f s).length = sz) (l : List S) : ∀ (j : Nat) (u : Value), (l.flatMap f)[j]? = some u → ∃ i k s, j = i * sz + k ∧ k < sz ∧ l[i]? = some s ∧ (f s)[k]? = some u := by
  induction l with
  | nil => intro j u h; simp at h
  | cons x l ih =>
    intro j u h
    rw [List.flatMap_cons] at h
    rcases Nat.lt_or_ge j sz with hj | hj
    · rw [List.getElem?_append_left (by rw [hsz]; exact hj)] at h
      exact ⟨0, j, x, by omega, hj, rfl, h⟩
    · rw [List.getElem?_append_right (by rw [hsz]; exact hj), hsz] at h
      obtain ⟨i, k, s, e, hk, hi, hs⟩ := ih _ _ h
      exact ⟨i + 1, k, s, by rw [Nat.add_mul]; omega, hk, hi, hs⟩
theorem flat_len {S : Type} (f : S → List Value) (sz : Nat) (hsz : ∀ s, (f s).length = sz) (l : List S) : (l.flatMap f).length = l.length * sz := by
  induction l with
  | nil => simp
  | cons x l ih => rw [List.flatMap_cons, List.length_append, hsz, ih, List.length_cons, Nat.add_mul]; omega

/-- A slice that came in, each of its elements being told by a Lean value. -/
theorem open_row {S : Type} (f : S → List Value) (Ok : S → Prop) {t e : TypeId} (sz : Nat) (h0 : 0 < sz) (hf : ∀ s, (f s).length = sz) (ht : P.underlying t = some (.slice e)) (hsz : P.cellsOf e = sz)
    (hone : ∀ n cs x, DataW.trod enc P w 0 (fun _ => true) true n e cs = some x → ∃ s, f s = cs ∧ Ok s) {fuel : Nat} {cs0 : List Value} {x : DataW H × List MemPlace}
    (h : DataW.trod enc P w 0 (fun _ => true) true fuel t cs0 = some x) : ∃ (A : Option Addr) (n cap : Nat) (l : List S), cs0 = [.slice A n cap] ∧ Row w A n cap sz (l.flatMap f) ∧ ∀ s ∈ l, Ok s := by
  rcases open_slice ht h with ⟨h1, _⟩ | ⟨a, len, cap, m, n, D, Pl, hcs, _, hl, hm, hmm, _, hi⟩
  · exact ⟨none, 0, 0, [], h1, by simpa using Row.none_ w sz, fun s hs => by cases hs⟩
  · simp only [if_true] at hmm
    rw [hsz, hmm] at hi
    obtain ⟨l, hll, hp⟩ := choose_list (fun i s => Ok s ∧ ∀ k u, (f s)[k]? = some u → w.cell? (a.add (i * sz + k)) = some u) len (fun i hi' => by
      obtain ⟨cs', hc, ht'⟩ := hi i (by omega)
      obtain ⟨s, hs, ho⟩ := hone _ _ _ ht'
      obtain ⟨_, hcl, hat⟩ := World.cells?_some hc
      refine ⟨s, ho, fun k u hu => ?_⟩
      rw [hs] at hu
      have hk : k < sz := by rw [← hcl]; exact (List.getElem?_eq_some_iff.1 hu).1
      have := hat k hk
      rw [← add_add, this, hu])
    refine ⟨some a, len, cap, l, hcs, ⟨by rw [flat_len f sz hf, hll], hl, by simpa [maxLen] using hm, (fun h => by cases h), fun hp0 => ?_⟩, fun s hs => ?_⟩
    · have hn : 0 < len := by
        rcases Nat.eq_zero_or_pos len with h | h
        · rw [h] at hp0; omega
        · exact h
      obtain ⟨s, hs⟩ : ∃ s, l[0]? = some s := ⟨_, List.getElem?_eq_getElem (by omega)⟩
      obtain ⟨u, hu⟩ : ∃ u, (f s)[0]? = some u := ⟨_, List.getElem?_eq_getElem (by rw [hf]; exact h0)⟩
      have hc0 := (hp 0 s hs).2 0 u hu
      rw [Nat.zero_mul, Nat.zero_add, add_zero_] at hc0
      have hsp := World.cell?_spot hc0
      obtain ⟨b, off, spot⟩ := a
      simp only at hsp
      subst hsp
      refine ⟨b, off, rfl, fun j u hu => ?_⟩
      obtain ⟨i, k, s, rfl, _, hi', hk⟩ := flat_at f sz hf l j u hu
      have := (hp i s hi').2 k u hk
      rwa [add_none] at this
    · obtain ⟨i, hi', rfl⟩ := List.getElem_of_mem hs
      exact (hp i _ (List.getElem?_eq_getElem hi')).1
/-- A struct's fields that are one cell each. -/
theorem open_fields {e : TypeId} {fs : Array Field} (he : P.underlying e = some (.struct fs)) (hone : oneCellFields P fs = true) (hC : P.cellsOf e = fs.size) {fuel : Nat} {cs : List Value} {x : DataW H × List MemPlace}
    (h : DataW.trod enc P w 0 (fun _ => true) true fuel e cs = some x) :
    cs.length = fs.size ∧ ∃ n : Nat, ∀ (j : Nat) (f : Field), fs[j]? = some f → ∃ (v : Value) (y : DataW H × List MemPlace), cs[j]? = some v ∧ DataW.trod enc P w 0 (fun _ => true) true n f.type [v] = some y := by
  obtain ⟨ys, n, _, _, hlen, hyl, hf⟩ := DataW.trod_struct he h
  refine ⟨hlen.trans hC, n, fun j f hj => ?_⟩
  obtain ⟨ho, hk⟩ := hone_of hone j f hj
  have hjl : j < fs.size := (Array.getElem?_eq_some_iff.1 hj).1
  have h1 := hf j f hj
  rw [ho, hk, List.drop_eq_getElem_cons (by omega), List.take_succ_cons, List.take_zero] at h1
  have hys : ys[j]? = some (ys[j]'(by omega)) := List.getElem?_eq_getElem (by omega)
  exact ⟨_, _, List.getElem?_eq_getElem (by omega), h1.trans hys⟩
theorem open_num {t : TypeId} {k : IntKind} (ht : P.underlying t = some (.int k)) {n : Nat} {v : Value} {y : DataW H × List MemPlace} (h : DataW.trod enc P w 0 (fun _ => true) true n t [v] = some y) : ∃ i, v = .int k i ∧ (Lit.int k i).wf = true := by
  obtain ⟨i, hi, _, hw⟩ := DataW.trod_int ht h
  exact ⟨i, by simpa using hi, hw⟩
theorem open_b {t : TypeId} (ht : P.underlying t = some .bool) {n : Nat} {v : Value} {y : DataW H × List MemPlace} (h : DataW.trod enc P w 0 (fun _ => true) true n t [v] = some y) : ∃ i, v = .bool i := by
  obtain ⟨i, hi, _⟩ := DataW.trod_bool ht h
  exact ⟨i, by simpa using hi⟩
theorem flat_one {α : Type} (f : α → Value) (l : List α) : l.flatMap (fun x => [f x]) = l.map f := by
  induction l with
  | nil => rfl
  | cons x l ih => simp [List.flatMap_cons, ih]
/-- A slice of whole numbers. -/
theorem open_nums {t e : TypeId} {k : IntKind} (ht : P.underlying t = some (.slice e)) (he : P.underlying e = some (.int k)) (hsz : P.cellsOf e = 1) {n : Nat} {v : Value} {y : DataW H × List MemPlace}
    (h : DataW.trod enc P w 0 (fun _ => true) true n t [v] = some y) : ∃ (A : Option Addr) (m cap : Nat) (l : List Int), v = .slice A m cap ∧ Row w A m cap 1 (nums k l) ∧ ∀ i ∈ l, (Lit.int k i).wf = true := by
  obtain ⟨A, m, cap, l, hv, hr, ho⟩ := open_row (fun i : Int => [.int k i]) (fun i => (Lit.int k i).wf = true) 1 (by decide) (fun _ => rfl) ht hsz (fun n cs x hx => by
    obtain ⟨i, hi, _, hw⟩ := DataW.trod_int he hx
    exact ⟨i, hi.symm, hw⟩) h
  rw [flat_one] at hr
  exact ⟨A, m, cap, l, by simpa using hv, hr, ho⟩
end

theorem wf_bytes {l : List Int} (h : ∀ i ∈ l, (Lit.int .u8 i).wf = true) : IsBytes l := fun i hi => by
  have := h i hi
  simp [Lit.wf, IntKind.min, IntKind.max, IntKind.signed, IntKind.bits] at this
  omega
theorem wf_u64 {i : Int} (h : (Lit.int .u64 i).wf = true) : u64B i := by
  simp [Lit.wf, IntKind.min, IntKind.max, IntKind.signed, IntKind.bits] at h
  unfold u64B
  omega
theorem wf_i64 {i : Int} (h : (Lit.int .i64 i).wf = true) : -9223372036854775808 ≤ i ∧ i ≤ 9223372036854775807 := by
  simp [Lit.wf, IntKind.min, IntKind.max, IntKind.signed, IntKind.bits] at h
  omega

section
variable {H : Type} {enc : TypeId × Value → H} {w : World}
theorem list3 {α : Type} {l : List α} (h : l.length = 3) {a b c : α} (h0 : l[0]? = some a) (h1 : l[1]? = some b) (h2 : l[2]? = some c) : l = [a, b, c] := by
  match l, h with
  | [x, y, z], _ =>
    simp only [List.getElem?_cons_zero, List.getElem?_cons_succ, Option.some.injEq] at h0 h1 h2
    rw [h0, h1, h2]
theorem list5 {α : Type} {l : List α} (h : l.length = 5) {a b c d e : α} (h0 : l[0]? = some a) (h1 : l[1]? = some b) (h2 : l[2]? = some c) (h3 : l[3]? = some d) (h4 : l[4]? = some e) : l = [a, b, c, d, e] := by
  match l, h with
  | [x, y, z, u, v], _ =>
    simp only [List.getElem?_cons_zero, List.getElem?_cons_succ, Option.some.injEq] at h0 h1 h2 h3 h4
    rw [h0, h1, h2, h3, h4]
/-- []api.User -/
theorem open_users {n : Nat} {cs0 : List Value} {x : DataW H × List MemPlace} (h : DataW.trod enc Try.prog w 0 (fun _ => true) true n 22 cs0 = some x) : ∃ A n cap l, cs0 = [.slice A n cap] ∧ Usrs w A n cap l := by
  obtain ⟨A, m, cap, l, hv, hr, ho⟩ := open_row Usr.cells UsrOk 3 (by decide) (fun _ => rfl) Try.underlying22 (by kernel_rfl) (fun n cs x hx => by
    obtain ⟨hl, n', hf⟩ := open_fields Try.underlying56 (by kernel_rfl) (by kernel_rfl) hx
    obtain ⟨v0, y0, c0, t0⟩ := hf 0 _ rfl
    obtain ⟨v1, y1, c1, t1⟩ := hf 1 _ rfl
    obtain ⟨v2, y2, c2, t2⟩ := hf 2 _ rfl
    obtain ⟨i0, rfl, _⟩ := open_num Try.underlying3 t0
    obtain ⟨i1, rfl, _⟩ := open_num Try.underlying3 t1
    obtain ⟨kA, kn, kc, kl, rfl, kr, _⟩ := open_nums Try.underlying40 Try.underlying5 (by kernel_rfl) t2
    exact ⟨⟨i0, i1, kA, kn, kc⟩, (list3 hl c0 c1 c2).symm, kr.le, kr.capLe⟩) h
  exact ⟨A, m, cap, l, hv, hr, ho⟩
theorem open_ev_cells {n : Nat} {cs : List Value} {x : DataW H × List MemPlace} (hx : DataW.trod enc Try.prog w 0 (fun _ => true) true n 42 cs = some x) : ∃ s : Ev, s.cells = cs ∧ EvOk w s := by
  obtain ⟨hl, n', hf⟩ := open_fields Try.underlying42 (by kernel_rfl) (by kernel_rfl) hx
  obtain ⟨v0, y0, c0, t0⟩ := hf 0 _ rfl
  obtain ⟨v1, y1, c1, t1⟩ := hf 1 _ rfl
  obtain ⟨v2, y2, c2, t2⟩ := hf 2 _ rfl
  obtain ⟨v3, y3, c3, t3⟩ := hf 3 _ rfl
  obtain ⟨v4, y4, c4, t4⟩ := hf 4 _ rfl
  obtain ⟨i0, rfl, _⟩ := open_num Try.underlying3 t0
  obtain ⟨kA, kn, kc, kl, rfl, kr, kw⟩ := open_nums Try.underlying40 Try.underlying5 (by kernel_rfl) t1
  obtain ⟨i2, rfl, w2⟩ := open_num Try.underlying32 t2
  obtain ⟨i3, rfl⟩ := open_b Try.underlying4 t3
  obtain ⟨i4, rfl, _⟩ := open_num Try.underlying3 t4
  exact ⟨⟨i0, kA, kn, kc, kl, i2, i3, i4⟩, (list5 hl c0 c1 c2 c3 c4).symm, kr, wf_bytes kw, wf_u64 w2⟩
/-- []api.Ev -/
theorem open_evs {n : Nat} {cs0 : List Value} {x : DataW H × List MemPlace} (h : DataW.trod enc Try.prog w 0 (fun _ => true) true n 23 cs0 = some x) : ∃ A n cap l, cs0 = [.slice A n cap] ∧ Evs w A n cap l := by
  obtain ⟨A, m, cap, l, hv, hr, ho⟩ := open_row Ev.cells (EvOk w) 5 (by decide) (fun _ => rfl) Try.underlying23 (by kernel_rfl) (fun n cs x hx => open_ev_cells hx) h
  exact ⟨A, m, cap, l, hv, hr, ho⟩
end
end Go.Proofs.Ytfdlfkdefbfhfaa
