import Derived.Test.YtfdlfkdefbfhfaaWho
import Derived.StillTailTactics
set_option linter.unusedVariables false
set_option linter.unusedSimpArgs false
namespace Go.Proofs.Ytfdlfkdefbfhfaa
open Go.RowKit

def roleAt (l : List Usr) (i : Nat) : Int := match l[i]? with | some u => u.role | none => 0
/-- user.Role. -/
def roleU (l : List Usr) (no : Int) : Int := if findU l no = -1 then -1 else roleAt l (findU l no).toNat
theorem findU_lt (l : List Usr) (no : Int) (h : findU l no ≠ -1) : 0 ≤ findU l no ∧ findU l no < l.length := by
  unfold findU at h ⊢
  split
  · omega
  · rename_i h2; rw [if_neg h2] at h; exact absurd rfl h

set_option maxHeartbeats 1000000 in
theorem user_role (A : Option Addr) (n cap : Nat) (l : List Usr) (no : Int) (w : World) (H : Usrs w A n cap l) :
    Calls Try.prog 17 #[.slice A n cap, .int .i64 no] w fun e w' => e = .returned (.int .i64 (roleU l no)) ∧ Below w.heap.size w w' := by
  have hl := H.len
  have hn := H.row.le
  have hcap := H.row.capLe
  have hfind := Lib.hid (user_find A n cap l no w H)
  have hlt := findU_lt l no
  have hR : Hid (roleU l no = if findU l no = -1 then -1 else roleAt l (findU l no).toNat) := rfl
  have hcell : Hid (∀ i, i < n → ∃ b off, A = some ⟨b, off, none⟩ ∧ w.cell? ⟨b, off + i * 3 + 1, none⟩ = some (.int .i64 (roleAt l i))) := by
    intro i hi
    obtain ⟨x, hx⟩ : ∃ x, l[i]? = some x := ⟨_, List.getElem?_eq_getElem (by omega)⟩
    obtain ⟨b, off, he, hc⟩ := H.row.cell (by omega)
    refine ⟨b, off, he, ?_⟩
    have := hc _ _ (usrCells_at l i x hx 1 _ rfl)
    rw [show roleAt l i = x.role by unfold roleAt; rw [hx], Nat.add_assoc]
    exact this
  obtain ⟨r, hr⟩ : ∃ r, findU l no = r := ⟨_, rfl⟩
  rw [hr] at hfind hlt hR
  clear hr H
  by_cases h1 : r = -1
  · subst h1
    clear hlt
    go_enter Try.func17, Try.ntmps17
    go_wp2_with (go_at_call 13; refine hfind.out.mono ?_; rintro e w' ⟨rfl, hB⟩; have hB := Lib.hid hB)
    go_ret
    exact ⟨by rw [hR.out]; rfl, hB.out⟩
  · obtain ⟨q, rfl⟩ := Int.eq_ofNat_of_zero_le (hlt h1).1
    have hq : q < n := by have := (hlt h1).2; omega
    obtain ⟨b, off, rfl, hc⟩ := hcell.out q hq
    have hR2 : Hid (roleU l no = roleAt l q) := by
      have : roleU l no = roleAt l q := by rw [hR.out, if_neg h1]; rfl
      exact this
    clear hR hlt hcell
    generalize roleAt l q = y at *
    go_enter Try.func17, Try.ntmps17
    go_wp2_with (go_at_call 13; refine hfind.out.mono ?_; rintro e w' ⟨rfl, hB⟩; have hc := cell_keep hB hc; have hB := Lib.hid hB)
    go_ret
    exact ⟨by rw [hR2.out]; rfl, hB.out⟩

/-- An event as it lies. -/
structure Ev where
  kind : Int
  rA : Option Addr
  rn : Nat
  rcap : Nat
  raw : List Int
  draw : Int
  boom : Bool
  keep : Int
def Ev.cells (e : Ev) : List Value := [.int .i64 e.kind, .slice e.rA e.rn e.rcap, .int .u64 e.draw, .bool e.boom, .int .i64 e.keep]
structure EvOk (w : World) (e : Ev) : Prop where
  row : Row w e.rA e.rn e.rcap 1 (nums .u8 e.raw)
  bytes : IsBytes e.raw
  draw : u64B e.draw
theorem EvOk.below {w w' : World} {e : Ev} (h : EvOk w e) (hb : Below w.heap.size w w') : EvOk w' e := ⟨h.row.below hb, h.bytes, h.draw⟩
def breaksB (e : Ev) : Bool := decide (e.kind = 2) || decide (e.kind = 0) && e.boom

theorem part_breaks (e : Ev) (w : World) : Calls Try.prog 22 #[.agg e.cells.toArray] w fun x w' => x = .returned (.bool (breaksB e)) ∧ Below w.heap.size w w' := by
  obtain ⟨kind, rA, rn, rcap, raw, draw, boom, keep⟩ := e
  simp only [Ev.cells, breaksB]
  by_cases h2 : kind = 2
  · subst h2
    go_enter Try.func22, Try.ntmps22
    go_wp2
    go_ret
    exact ⟨ret_bool (by simp), (Below.refl _ _).alloc (Nat.le_refl _) _⟩
  · by_cases h0 : kind = 0
    · subst h0
      go_enter Try.func22, Try.ntmps22
      go_wp2
      go_ret
      exact ⟨ret_bool (by simp), (Below.refl _ _).alloc (Nat.le_refl _) _⟩
    · go_enter Try.func22, Try.ntmps22
      go_wp2
      go_ret
      exact ⟨ret_bool (by simp [h2, h0]), (Below.refl _ _).alloc (Nat.le_refl _) _⟩

/-- The book: its users, and its map. -/
structure Book (w : World) (g b : Nat) (A : Option Addr) (n cap : Nat) (l : List Usr) (M : List (Int × Int)) : Prop where
  c0 : w.cell? ⟨g, 0, none⟩ = some (.slice A n cap)
  c1 : w.cell? ⟨g, 1, none⟩ = some (.map (some b))
  usrs : Usrs w A n cap l
  who : OwnsWho w b M
theorem Book.below {w w' : World} {g b n cap : Nat} {A : Option Addr} {l : List Usr} {M : List (Int × Int)} (h : Book w g b A n cap l M) (hb : Below w.heap.size w w') : Book w' g b A n cap l M :=
  ⟨cell_keep hb h.c0, cell_keep hb h.c1, h.usrs.below hb, h.who.belowS hb⟩

set_option maxRecDepth 100000 in
set_option maxHeartbeats 1000000 in
theorem book_use (g b n cap : Nat) (A : Option Addr) (l : List Usr) (M : List (Int × Int)) (f : Frm) (draw : Int) (w : World) (hB : Book w g b A n cap l M) (hf : FrmWf f) :
    Calls Try.prog 37 #[.pointer (some ⟨g, 0, none⟩), .agg (fC f).toArray, .int .u64 draw] w fun e w' => e = .returned (.int .i64 (whoGet M f.sess)) ∧ Below w.heap.size w w' := by
  have hs : (fC f)[2]? = some (.int .u64 f.sess) := rfl
  have hBk := Lib.hid hB
  have hsr := Lib.hid hf.2.1
  have c1 := hB.c1
  clear hB hf
  go_enter Try.func37, Try.ntmps37
  go_wp2_with (refine wpList_boxS (w0 := w) w.heap.size rfl 36 _ rfl (fC f) rfl (Below.refl _ _) (Nat.le_refl _) ?h1)
  case h1 =>
  intro W b1 k1 B1 s1
  have c2 := b1.cell 2
  rw [hs] at c2
  have c1 := cell_keep B1 c1
  have hBk := Lib.hid (hBk.out.below B1)
  have hB1 := Lib.hid B1
  clear b1 k1 B1 hs
  go_wp2_with fail
  go_still_tail 6, (by kernel_rfl)
  change wpList _ _ _ _ _ W.drew
  have hBk : Hid (Book W.drew g b A n cap l M) := hBk.out.below (by exact (Below.refl _ _).drew)
  have hB1 : Hid (Below w.heap.size w W.drew) := hB1.out.drew
  generalize W.drew = V at *
  go_wp2_with (at_lookup; refine wpList_getWho rfl _ _ rfl b M rfl hBk.out.who _ rfl hsr.out ?_)
  go_ret
  exact ⟨rfl, hB1.out⟩
end Go.Proofs.Ytfdlfkdefbfhfaa
