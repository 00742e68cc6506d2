import Derived.Test.YtfdlfkdefbfhfaaRdw
set_option linter.unusedVariables false
set_option linter.unusedSimpArgs false
namespace Go.Proofs.Ytfdlfkdefbfhfaa
open Go.RowKit

/-- A user as it lies: its number, its role, its key's slice. -/
structure Usr where
  no : Int
  role : Int
  kA : Option Addr
  kn : Nat
  kcap : Nat
def Usr.cells (u : Usr) : List Value := [.int .i64 u.no, .int .i64 u.role, .slice u.kA u.kn u.kcap]
def usrCells (l : List Usr) : List Value := l.flatMap Usr.cells
theorem usrCells_at (l : List Usr) (j : Nat) (s : Usr) (h : l[j]? = some s) (i : Nat) (u : Value) (hu : s.cells[i]? = some u) : (usrCells l)[j * 3 + i]? = some u := by
  induction l generalizing j with
  | nil => simp at h
  | cons x l ih =>
    have e : usrCells (x :: l) = x.cells ++ usrCells l := by simp [usrCells]
    have hx : x.cells.length = 3 := rfl
    cases j with
    | zero =>
      simp at h
      subst h
      have hi : i < 3 := by have := (List.getElem?_eq_some_iff.1 hu).1; simpa [Usr.cells] using this
      rw [e, List.getElem?_append_left (by omega)]
      simpa using hu
    | succ j =>
      have := ih j (by simpa using h)
      rw [e, List.getElem?_append_right (by omega), hx, show (j + 1) * 3 + i - 3 = j * 3 + i by omega]
      exact this
theorem usrCells_len (l : List Usr) : (usrCells l).length = l.length * 3 := by
  induction l with
  | nil => rfl
  | cons x l ih =>
    have e : usrCells (x :: l) = x.cells ++ usrCells l := by simp [usrCells]
    rw [e, List.length_append, ih, List.length_cons]
    show 3 + _ = _
    omega
/-- A key's length is an int's. -/
def UsrOk (u : Usr) : Prop := u.kn ≤ u.kcap ∧ u.kcap ≤ 9223372036854775807
/-- Users as they lie. -/
structure Usrs (w : World) (A : Option Addr) (n cap : Nat) (l : List Usr) : Prop where
  row : Row w A n cap 3 (usrCells l)
  ok : ∀ u ∈ l, UsrOk u
theorem Usrs.below {w w' : World} {A : Option Addr} {n cap : Nat} {l : List Usr} (h : Usrs w A n cap l) (hb : Below w.heap.size w w') : Usrs w' A n cap l := ⟨h.row.below hb, h.ok⟩
theorem Usrs.len {w : World} {A : Option Addr} {n cap : Nat} {l : List Usr} (h : Usrs w A n cap l) : l.length = n := by
  have := h.row.len
  rw [usrCells_len] at this
  omega

def fitB (last : Int) (u : Usr) : Bool := (decide (last + 1 ≤ u.no) && decide (u.no ≤ 255)) && (decide (0 ≤ u.role) && decide (u.role < 4)) && (decide (16 ≤ u.kn) && decide (u.kn ≤ 64))
def mayF : Int → List Usr → Bool
  | _, [] => true
  | last, u :: l => fitB last u && mayF u.no l
/-- user.May. -/
def mayU (l : List Usr) : Bool := mayF 0 l && decide (l.length ≤ 8)

theorem user_in (n a b : Int) (w : World) : Calls Try.prog 40 #[.int .i64 n, .int .i64 a, .int .i64 b] w fun e w' => e = .returned (.bool (decide (a ≤ n) && decide (n ≤ b))) ∧ w = w' := by
  by_cases h1 : a ≤ n <;> by_cases h2 : n ≤ b
  all_goals
    go_enter Try.func40, Try.ntmps40
    go_wp2
    go_ret
    exact ⟨ret_bool (by simp [h1, h2]), rfl⟩
theorem role_is (n : Int) (w : World) : Calls Try.prog 41 #[.int .i64 n] w fun e w' => e = .returned (.bool (decide (0 ≤ n) && decide (n < 4))) ∧ w = w' := by
  by_cases h1 : 0 ≤ n <;> by_cases h2 : n < 4
  all_goals
    go_enter Try.func41, Try.ntmps41
    go_wp2
    go_ret
    exact ⟨ret_bool (by simp [h1, h2]), rfl⟩

/-- what the numbers ahead of place j leave: the last one -/
def lastNo (l : List Usr) (j : Nat) : Int := if j = 0 then 0 else match l[j - 1]? with | some u => u.no | none => 0
theorem mayF_step (last : Int) (l : List Usr) (j : Nat) (u : Usr) (h : l[j]? = some u) : mayF last (l.drop j) = (fitB last u && mayF u.no (l.drop (j + 1))) := by
  have hj : j < l.length := (List.getElem?_eq_some_iff.1 h).1
  rw [List.drop_eq_getElem_cons hj]
  rw [List.getElem?_eq_getElem hj] at h
  cases h
  rfl

set_option maxRecDepth 100000 in
set_option maxHeartbeats 1000000 in
theorem user_may (A : Option Addr) (n cap : Nat) (l : List Usr) (w : World) (H : Usrs w A n cap l) :
    Calls Try.prog 27 #[.slice A n cap] w fun e w' => e = .returned (.bool (mayU l)) ∧ Below w.heap.size w w' := by
  have hl := H.len
  have hn := H.row.le
  have hcap := H.row.capLe
  have HU := Lib.hid H
  have HL := Lib.hid hl
  clear H hl
  go_enter Try.func27, Try.ntmps27
  go_wp2
  refine wp_scope_jumps 0 (fun _ _ => False) (fun _ _ => 0) rfl ?_ (fun _ _ h => h.elim)
  go_wp2
  go_step3
  go_wp2
  go_loopw [3, 4, 9] (fun la bad i wr => ∃ (j : Nat) (q : Int), j ≤ n ∧ i = .int .i64 j ∧ la = .int .i64 q ∧ bad = .bool false ∧ 0 ≤ q ∧ q ≤ 255 ∧ mayF q (l.drop j) = mayF 0 l ∧ Below w.heap.size w wr) (fun _ _ i _ => n - (intOf i).toNat)
  case atStart => exact ⟨0, 0, Nat.zero_le _, rfl, rfl, rfl, by omega, by omega, rfl, Below.refl _ _⟩
  case round =>
    obtain ⟨j, q, hj, rfl, rfl, rfl, hq0, hq1, hM, HB⟩ := hrel
    have hB := Lib.hid HB
    have hlt := HB.size
    clear HB
    by_cases hjn : j < n
    · obtain ⟨x, hx⟩ : ∃ x, l[j]? = some x := ⟨_, List.getElem?_eq_getElem (by rw [HL.out]; exact hjn)⟩
      have hst := Lib.hid (mayF_step q l j x hx)
      have hM := Lib.hid hM
      obtain ⟨b, off, rfl, hc⟩ := HU.out.row.cell (by omega)
      have p0 := cell_keep hB.out (hc _ _ (usrCells_at l j x hx 0 _ rfl))
      have p1 := cell_keep hB.out (hc _ _ (usrCells_at l j x hx 1 _ rfl))
      have p2 := cell_keep hB.out (hc _ _ (usrCells_at l j x hx 2 _ rfl))
      have hxo := HU.out.ok x (List.mem_of_getElem? hx)
      unfold UsrOk at hxo
      simp only [Nat.add_zero, ← Nat.add_assoc] at p0 p1 p2
      obtain ⟨no, role, kA, kn, kcap⟩ := x
      simp only at hxo
      obtain ⟨hk1, hk2⟩ := hxo
      obtain ⟨b1, h1⟩ : ∃ b1, (decide (q + 1 ≤ no) && decide (no ≤ 255)) = b1 := ⟨_, rfl⟩
      obtain ⟨b2, h2⟩ : ∃ b2, (decide (0 ≤ role) && decide (role < 4)) = b2 := ⟨_, rfl⟩
      obtain ⟨b3, h3⟩ : ∃ b3, (decide ((16 : Int) ≤ kn) && decide ((kn : Int) ≤ 64)) = b3 := ⟨_, rfl⟩
      have hfit : Hid (fitB q ⟨no, role, kA, kn, kcap⟩ = (b1 && b2 && b3)) := by
        have : fitB q ⟨no, role, kA, kn, kcap⟩ = (b1 && b2 && b3) := by
          rw [← h1, ← h2, ← h3]; unfold fitB
          congr 2
          · exact decide_eq_decide.2 (by simp only; omega)
          · exact decide_eq_decide.2 (by simp only; omega)
        exact this
      have hno : b1 = true → 0 ≤ no ∧ no ≤ 255 := by intro e; rw [e] at h1; simp at h1; omega
      have H1 := Lib.hid h1; have H2 := Lib.hid h2; have H3 := Lib.hid h3
      clear h1 h2 h3 hc hx
      cases b1 <;> cases b2 <;> cases b3
      all_goals
        try (have hno2 := hno rfl; obtain ⟨hn0, hn1⟩ := hno2)
        clear hno
        go_wp2_with (first | (go_at_call 40; refine (user_in _ _ _ _).mono ?_; rintro e w' ⟨rfl, rfl⟩; (first | rw [H1.out] | rw [H3.out])) | (go_at_call 41; refine (role_is _ _).mono ?_; rintro e w' ⟨rfl, rfl⟩; rw [H2.out]))
        first
        | (refine ⟨⟨j + 1, no, by omega, by go_num, rfl, rfl, hn0, hn1, ?_, hB.out.alloc hlt _⟩, by simp [intOf]; omega⟩
           rw [← hM.out, hst.out, hfit.out]; rfl)
        | (simp only [Exit.jump]
           go_ret
           refine ⟨ret_bool ?_, hB.out.alloc hlt _⟩
           unfold mayU
           rw [← hM.out, hst.out, hfit.out]; rfl)
    · obtain rfl : j = n := by omega
      have hmay : Hid (mayU l = decide (j ≤ 8)) := by
        have : mayU l = decide (j ≤ 8) := by
          unfold mayU
          rw [← hM, List.drop_of_length_le (by rw [HL.out]; exact Nat.le_refl _), HL.out]
          rfl
        exact this
      clear hM
      by_cases h8 : j ≤ 8
      all_goals
        go_wp2
        simp only [Exit.jump]
        go_ret
        exact ⟨ret_bool (by rw [hmay.out]; simp; omega), hB.out⟩
end Go.Proofs.Ytfdlfkdefbfhfaa
