import Derived.Test.YtfdlfkdefbfhfaaUsr
import Derived.Shelf.SlSorted.Search
import Derived.Ground.SlsoProg
set_option linter.unusedVariables false
set_option linter.unusedSimpArgs false
namespace Go.Proofs.Ytfdlfkdefbfhfaa
open Go.Shelf Go.RowKit Go.Lib Go.Sort
/-- sort.Search's laying by the shelf, in plain words. -/
def searchL_ren : Go.Shelf.Ren := ⟨fun | 16 => 28 | n => n, fun | 3 => 3 | 35 => 76 | 4 => 4 | 38 => 90 | n => n, fun | n => n⟩
theorem searchL : Go.Proofs.SlLaysO.n16 Try.prog searchL_ren := {
  mixed := by kernel_rfl
  f16 := Try.func28.trans (congrArg some (by kernel_rfl))
  t3 := Try.underlying3
  a3 := Try.isAgg3
  z3 := Try.sizeOf3
  v3 := Try.zeroValue3
  t4 := Try.underlying4
  a4 := Try.isAgg4
  z4 := Try.sizeOf4
  v4 := Try.zeroValue4
  t35 := Try.underlying76
  a35 := Try.isAgg76
  z35 := Try.sizeOf76
  v35 := Try.zeroValue76
  t38 := Try.underlying90
  a38 := Try.isAgg90
  z38 := Try.sizeOf90
  v38 := Try.zeroValue90 }

def noAt (l : List Usr) (i : Nat) : Int := match l[i]? with | some u => u.no | none => 0
theorem noAt_some (l : List Usr) (i : Nat) (u : Usr) (h : l[i]? = some u) : noAt l i = u.no := by unfold noAt; rw [h]
/-- how many users have a number less than no -/
def findI (l : List Usr) (no : Int) : Nat := (List.range l.length).countP (fun i => !decide (no ≤ noAt l i))
/-- user.Find. -/
def findU (l : List Usr) (no : Int) : Int := if mayU l = true ∧ findI l no < l.length ∧ noAt l (findI l no) = no then findI l no else -1

theorem mayF_gt (l : List Usr) : ∀ (q : Int), mayF q l = true → ∀ j, j < l.length → q < noAt l j := by
  induction l with
  | nil => intro q _ j hj; simp at hj
  | cons u l ih =>
    intro q h j hj
    simp only [mayF, Bool.and_eq_true] at h
    have h1 : q + 1 ≤ u.no := by
      have := h.1
      simp only [fitB, Bool.and_eq_true, decide_eq_true_eq] at this
      exact this.1.1.1
    cases j with
    | zero => show q < u.no; omega
    | succ j =>
      have := ih u.no h.2 j (by simpa using hj)
      have e : noAt (u :: l) (j + 1) = noAt l j := by unfold noAt; rw [List.getElem?_cons_succ]
      rw [e]
      omega
theorem mayF_sorted (l : List Usr) : ∀ (q : Int), mayF q l = true → ∀ a b, a ≤ b → b < l.length → noAt l a ≤ noAt l b := by
  induction l with
  | nil => intro q _ a b _ hb; simp at hb
  | cons u l ih =>
    intro q h a b hab hb
    simp only [mayF, Bool.and_eq_true] at h
    cases b with
    | zero => obtain rfl : a = 0 := by omega
              exact Int.le_refl _
    | succ b =>
      have e : ∀ j, noAt (u :: l) (j + 1) = noAt l j := fun j => by unfold noAt; rw [List.getElem?_cons_succ]
      have hb' : b < l.length := by simpa using hb
      cases a with
      | zero =>
        rw [e]
        have := mayF_gt l u.no h.2 b hb'
        show u.no ≤ _
        omega
      | succ a =>
        rw [e, e]
        exact ih u.no h.2 a b (by omega) hb'

set_option maxHeartbeats 2000000 in
theorem find_closure (ga gx b off n cap : Nat) (l : List Usr) (no : Int) (i : Nat) (W : World) (hi : i < n) (hn : n ≤ cap) (hcap : cap ≤ 9223372036854775807)
    (ha : W.cell? ⟨ga, 0, none⟩ = some (.slice (some ⟨b, off, none⟩) n cap)) (hx : W.cell? ⟨gx, 0, none⟩ = some (.int .i64 no)) (hc : W.cell? ⟨b, off + i * 3, none⟩ = some (.int .i64 (noAt l i))) :
    Calls Try.prog 29 (#[.int .i64 i] ++ #[.pointer (some ⟨ga, 0, none⟩), .pointer (some ⟨gx, 0, none⟩)]) W fun e w' => e = .returned (.bool (decide (no ≤ noAt l i))) ∧ ∃ q, w' = W.drewN q := by
  generalize noAt l i = y at hc ⊢
  have hiz : (i : Int) < (n : Int) := by omega
  go_enter Try.func29, Try.ntmps29
  go_wp2
  go_quiet (fail)
  all_goals go_wp2
  all_goals go_ret
  all_goals exact ⟨by first | rfl | simp, _, rfl⟩

set_option maxRecDepth 100000 in
set_option maxHeartbeats 2000000 in
theorem user_find (A : Option Addr) (n cap : Nat) (l : List Usr) (no : Int) (w : World) (H : Usrs w A n cap l) :
    Calls Try.prog 13 #[.slice A n cap, .int .i64 no] w fun e w' => e = .returned (.int .i64 (findU l no)) ∧ Below w.heap.size w w' := by
  have hl := H.len
  have hn := H.row.le
  have hcap := H.row.capLe
  have HU := Lib.hid H
  have HL := Lib.hid hl
  have hlt : ∀ g, A = g → True := fun _ _ => trivial
  clear H hl hlt
  cases hm : mayU l with
  | false =>
    have hR : Hid (findU l no = -1) := by
      have : findU l no = -1 := by unfold findU; rw [hm]; simp
      exact this
    have hmay := Lib.hid (fun W HB => user_may A n cap l W (HU.out.below HB))
    rw [hm] at hmay
    clear hm
    go_enter Try.func13, Try.ntmps13
    go_wp2_with (go_at_call 27; (refine (hmay.out _ (((Below.refl _ _).alloc (Nat.le_refl _) _).alloc (by simp) _)).mono ?_; rintro e w2 ⟨rfl, hB⟩))
    go_ret
    exact ⟨by rw [hR.out]; rfl, (((Below.refl _ _).alloc (Nat.le_refl _) _).alloc (by simp) _).trans (hB.mono (by simp; omega))⟩
  | true =>
    have hml : mayF 0 l = true ∧ l.length ≤ 8 := by unfold mayU at hm; simpa using hm
    have hmay := Lib.hid (fun W HB => user_may A n cap l W (HU.out.below HB))
    rw [hm] at hmay
    have hFd : Hid (findU l no = if findI l no < n ∧ noAt l (findI l no) = no then (findI l no : Int) else -1) := by
      have : findU l no = if findI l no < n ∧ noAt l (findI l no) = no then (findI l no : Int) else -1 := by unfold findU; rw [hm, HL.out]; simp
      exact this
    have hle : findI l no ≤ n := by
      have := List.countP_le_length (p := fun i => !decide (no ≤ noAt l i)) (l := List.range l.length)
      rw [List.length_range, HL.out] at this
      unfold findI; rw [HL.out]; exact this
    have hsorted := Lib.hid (mayF_sorted l 0 hml.1)
    have hn8 : n ≤ 8 := by rw [← HL.out]; exact hml.2
    clear hm hml
    have eg : ∀ args w, (callFunc 29 args).run Try.prog w = .ok (.enter 29 args) w := enters_of Try.func29 (by kernel_rfl) rfl
    have hcells : Hid (∀ i, i < n → ∃ b off, A = some ⟨b, off, none⟩ ∧ w.cell? ⟨b, off + i * 3, none⟩ = some (.int .i64 (noAt l i))) := by
      intro i hi
      obtain ⟨x, hx⟩ : ∃ x, l[i]? = some x := ⟨_, List.getElem?_eq_getElem (by rw [HL.out]; exact hi)⟩
      obtain ⟨b, off, he, hc⟩ := HU.out.row.cell (by omega)
      refine ⟨b, off, he, ?_⟩
      have := hc _ _ (usrCells_at l i x hx 0 _ rfl)
      rw [noAt_some l i x hx]
      simpa using this
    obtain ⟨W0, hW0⟩ : ∃ W0, W0 = (w.alloc (.cells #[.slice A n cap] 22)).alloc (.cells #[.int .i64 no] 3) := ⟨_, rfl⟩
    have hsize : W0.heap.size = w.heap.size + 1 + 1 := by rw [hW0]; simp
    have ca : W0.cell? ⟨w.heap.size, 0, none⟩ = some (.slice A n cap) := by rw [hW0]; exact cell_alloc_sl _ (cell_new_sl w _ _)
    have cx : W0.cell? ⟨w.heap.size + 1, 0, none⟩ = some (.int .i64 no) := by
      rw [hW0]; have := cell_new_sl (w.alloc (.cells #[.slice A n cap] 22)) (.int .i64 no) 3; rwa [World.size_alloc] at this
    have hB0 : Below w.heap.size w W0 := by rw [hW0]; exact ((Below.refl _ w).alloc (Nat.le_refl _) _).alloc (by simp) _
    have hB0 := Lib.hid hB0
    have hca := Lib.hid ca; have hcx := Lib.hid cx
    clear ca cx
    have hsearch : Hid (∀ W, Below W0.heap.size W0 W → Calls Try.prog 28 #[.int .i64 n, .func (.func 29) #[] #[.pointer (some ⟨w.heap.size, 0, none⟩), .pointer (some ⟨w.heap.size + 1, 0, none⟩)]] W fun e w' => e = .returned (.int .i64 (findI l no)) ∧ Below W.heap.size W w') := by
      intro W hW
      have hWs := hW.size
      have hS := Any.sort_Search searchL 29 #[.pointer (some ⟨w.heap.size, 0, none⟩), .pointer (some ⟨w.heap.size + 1, 0, none⟩)] n (fun i => decide (no ≤ noAt l i)) W eg (by omega)
        (fun m os i hi => by
          obtain ⟨b, off, rfl, hcell⟩ := hcells.out i hi
          refine (find_closure w.heap.size (w.heap.size + 1) b off n cap l no i _ hi hn hcap (cell_grown (World.block_lt_of_cell? _ _ (cell_keep hW hca.out)) (cell_keep hW hca.out) m os) (cell_grown (World.block_lt_of_cell? _ _ (cell_keep hW hcx.out)) (cell_keep hW hcx.out) m os) ?_).mono (fun _ _ ⟨he, q, hq⟩ => ⟨he, q, #[], by rw [hq, grow_empty]⟩)
          exact cell_grown (World.block_lt_of_cell? _ _ (cell_keep (hB0.out.trans (hW.mono (by omega))) hcell)) (cell_keep (hB0.out.trans (hW.mono (by omega))) hcell) m os)
        (fun a b hab hb h => by have := hsorted.out a b hab (by rw [HL.out]; exact hb); simp at h ⊢; omega)
      change Calls Try.prog 28 _ _ _ at hS
      refine hS.mono ?_
      rintro e w' ⟨rfl, q, os, rfl⟩
      refine ⟨?_, below_grown_sl W.heap.size W q os (Nat.le_refl _)⟩
      unfold findI; rw [HL.out]
    clear eg hsorted
    go_enter Try.func13, Try.ntmps13
    have hend : ∀ W, Below W0.heap.size W0 W → Hid (Below w.heap.size w W) := fun W h => hB0.out.trans (h.mono (by omega))
    have hend := Lib.hid hend
    go_wp2_with (first | (go_at_call 27; rw [← hW0]; refine (hmay.out _ hB0.out).mono ?_; rintro e w2 ⟨rfl, hB2⟩; have c0 := cell_keep hB2 hca.out; have c1 := cell_keep hB2 hcx.out; have hB2 := Lib.hid hB2) |
      (go_at_call 28; refine (hsearch.out _ hB2.out).mono ?_; rintro e w3 ⟨rfl, hB3⟩; have c0 := cell_keep hB3 c0; have c1 := cell_keep hB3 c1; have hB3 := Lib.hid (hB2.out.trans (hB3.mono hB2.out.size))))
    by_cases hrn : findI l no < n
    · obtain ⟨b, off, rfl, hcell⟩ := hcells.out _ hrn
      have hB4 := Lib.hid (hB0.out.trans (hB3.out.mono hB0.out.size))
      have c3 := cell_keep hB4.out hcell
      clear hcell hcells hsearch hmay hend hB2 hca hcx
      obtain ⟨r, hr⟩ : ∃ r, findI l no = r := ⟨_, rfl⟩
      rw [hr] at hFd hrn c3 hle ⊢
      obtain ⟨y, hy⟩ : ∃ y, noAt l r = y := ⟨_, rfl⟩
      rw [hy] at hFd c3
      clear hr hy
      have hrz : ¬ ((r : Int) = (n : Int)) := by omega
      have hrz1 : ¬ (r = n) := by omega
      have hrz2 : (r : Int) < (n : Int) := by omega
      by_cases hyn : y = no
      · subst hyn
        go_quiet (fail)
        go_wp2
        go_ret
        refine ⟨?_, ⟨hB4.out.os, hB4.out.tape, hB4.out.output, hB4.out.size, hB4.out.block⟩⟩
        rw [hFd.out, if_pos (by simp [hrn])]; rfl
      · have hyb : (y != no) = true := by simpa using hyn
        have hrb : ((r : Int) == (n : Int)) = false := by simp; omega
        go_quiet (fail)
        go_wp2
        go_ret
        refine ⟨?_, ⟨hB4.out.os, hB4.out.tape, hB4.out.output, hB4.out.size, hB4.out.block⟩⟩
        rw [hFd.out, if_neg (by simp; intro _; exact hyn)]; rfl
    · have hB4 := Lib.hid (hB0.out.trans (hB3.out.mono hB0.out.size))
      clear hcells hsearch hmay hend hB2 hca hcx
      obtain ⟨r, hr⟩ : ∃ r, findI l no = r := ⟨_, rfl⟩
      rw [hr] at hFd hrn hle ⊢
      have hrn' : r = n := by omega
      subst hrn'
      go_quiet (fail)
      go_wp2
      go_ret
      refine ⟨?_, ⟨hB4.out.os, hB4.out.tape, hB4.out.output, hB4.out.size, hB4.out.block⟩⟩
      rw [hFd.out, if_neg (fun h => hrn h.1)]; rfl
end Go.Proofs.Ytfdlfkdefbfhfaa
