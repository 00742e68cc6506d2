import Derived.Test.YtfdlfkdefbfhfaaBook
set_option linter.unusedVariables false
set_option linter.unusedSimpArgs false
namespace Go.Proofs.Ytfdlfkdefbfhfaa
open Go.RowKit

/-- What held a value holds it still. -/
def Keep (w w' : World) : Prop := ∀ a v, w.cell? a = some v → w'.cell? a = some v
theorem Keep.of_below {w w' : World} (h : Below w.heap.size w w') : Keep w w' := fun _ _ hc => cell_keep h hc
theorem Keep.of_map {w w' : World} {b : Nat} {M : List (Int × Int)} (h : OwnsWho w b M) (hg : w.grownBy w' (some b)) : Keep w w' := by
  intro a v hc
  obtain ⟨D, _, ⟨es, clock, hb, _⟩, _⟩ := h
  refine hg.cell hc ?_
  intro e
  injection e with e
  unfold World.cell? at hc
  rw [e, hb] at hc
  cases hc
theorem Keep.trans {a b c : World} (h : Keep a b) (k : Keep b c) : Keep a c := fun p v hc => k p v (h p v hc)
theorem Row.keep {w w' : World} {A : Option Addr} {n cap sz : Nat} {cs : List Value} (h : Row w A n cap sz cs) (hk : Keep w w') : Row w' A n cap sz cs :=
  ⟨h.len, h.le, h.capLe, h.nil, fun h0 => by
    obtain ⟨b, off, e, hc⟩ := h.cell h0
    exact ⟨b, off, e, fun j u hu => hk _ _ (hc j u hu)⟩⟩
theorem Usrs.keep {w w' : World} {A : Option Addr} {n cap : Nat} {l : List Usr} (h : Usrs w A n cap l) (hk : Keep w w') : Usrs w' A n cap l := ⟨h.row.keep hk, h.ok⟩
theorem EvOk.keep {w w' : World} {e : Ev} (h : EvOk w e) (hk : Keep w w') : EvOk w' e := ⟨h.row.keep hk, h.bytes, h.draw⟩
theorem Book.keep {w w' : World} {g b n cap : Nat} {A : Option Addr} {l : List Usr} {M M' : List (Int × Int)} (h : Book w g b A n cap l M) (hk : Keep w w') (hw : OwnsWho w' b M') : Book w' g b A n cap l M' :=
  ⟨hk _ _ h.c0, hk _ _ h.c1, h.usrs.keep hk, hw⟩

/-- (*book).hello: what it says, and what the map is then. -/
def helloF (l : List Usr) (M : List (Int × Int)) (f : Frm) (draw : Int) : Int × List (Int × Int) := if findU l f.user < 0 then (0, M) else (f.user, (draw, f.user) :: M)

theorem readS_wf (l : List Int) (h : IsBytes l) : ∀ (S : List Slot) (f : Frm) (p : Int), (∀ s ∈ S, s.Ok) → FrmWf f → ∀ r, readS l S f p = some r → FrmWf r.1 := by
  intro S
  induction S with
  | nil => intro f p _ hf r hr; cases hr; exact hf
  | cons s S ih =>
    intro f p hS hf r hr
    unfold readS at hr
    split at hr
    · cases hr
    · have hs := hS s List.mem_cons_self
      have hg := getAt_range l h p s.k (by have := hs.2; omega) hs.2.2
      exact ih _ _ (fun x hx => hS x (List.mem_cons_of_mem _ hx)) (set_wf f hf s.off _ hg.1 hg.2.1) r hr
theorem readF_wf (l : List Int) (h : IsBytes l) : FrmWf (readF l).1 := by
  unfold readF
  split
  · exact kindF_wf 0
  · split
    · exact kindF_wf 0
    · split
      · exact kindF_wf 0
      · cases hr : readS l (slotsOf (nth l 2)) (kindF (nth l 2)) 3 with
        | none => exact kindF_wf 0
        | some r =>
          have := readS_wf l h _ _ _ (slotsOf_ok _) (kindF_wf _) r hr
          show FrmWf (readEnd l r.1 r.2).1
          unfold readEnd
          split
          · exact tagF_wf l h _ _ this
          · exact kindF_wf 0

def i64B (k : Int) : Prop := -9223372036854775808 ≤ k ∧ k ≤ 9223372036854775807
set_option maxRecDepth 100000 in
set_option maxHeartbeats 1000000 in
theorem book_hello (g b n cap : Nat) (A : Option Addr) (l : List Usr) (M : List (Int × Int)) (f : Frm) (draw : Int) (w : World) (hB : Book w g b A n cap l M) (hf : FrmWf f) (hu : i64B f.user) (hd : u64B draw) (hM : M.length < 1000) :
    Calls Try.prog 36 #[.pointer (some ⟨g, 0, none⟩), .agg (fC f).toArray, .int .u64 draw] w fun e w' =>
      e = .returned (.int .i64 (helloF l M f draw).1) ∧ OwnsWho w' b (helloF l M f draw).2 ∧ w.grownBy w' (some b) := by
  have hs : (fC f)[1]? = some (.int .i64 f.user) := rfl
  have hBk := Lib.hid hB
  have hU := Lib.hid hu; have hD := Lib.hid hd; have hML := Lib.hid hM
  have c0 := hB.c0
  clear hB hf hu hd hM
  have hH : Hid (helloF l M f draw = if findU l f.user < 0 then (0, M) else (f.user, (draw, f.user) :: M)) := rfl
  have hfind := Lib.hid (fun W H => user_find A n cap l f.user W H)
  generalize findU l f.user = r at *
  go_enter Try.func36, Try.ntmps36
  go_wp2_with (refine wpList_boxS (w0 := w) w.heap.size rfl 36 _ rfl (fC f) rfl (Below.refl _ _) (Nat.le_refl _) ?h1)
  case h1 =>
  intro W b1 k1 B1 s1
  have c2 := b1.cell 1
  rw [hs] at c2
  have c0 := cell_keep B1 c0
  have hBk := Lib.hid (hBk.out.below B1)
  have hB1 := Lib.hid B1
  clear b1 k1 B1 hs
  go_wp2_with fail
  go_still_tail 6, (by kernel_rfl)
  change wpList _ _ _ _ _ W.drew
  have hBk : Hid (Book W.drew g b A n cap l M) := hBk.out.below (by exact (Below.refl _ _).drew)
  have hB1 : Hid (Below w.heap.size w W.drew) := hB1.out.drew
  have c2 : W.drew.cell? ⟨w.heap.size, 1, none⟩ = some (.int .i64 f.user) := c2
  have c0 : W.drew.cell? ⟨g, 0, none⟩ = _ := c0
  have hfr : w.heap.size ≤ W.drew.heap.size := hB1.out.size
  generalize W.drew = V at *
  have hcall := Lib.hid (hfind.out V hBk.out.usrs)
  clear hfind
  by_cases hr : r < 0
  · go_wp2_with (go_at_call 13; refine hcall.out.mono ?_; rintro e V2 ⟨rfl, hB2⟩; have hBk := Lib.hid (hBk.out.below hB2); have hB1 := Lib.hid (below_then hB1.out hB1.out.size hB2); clear hB2)
    go_ret
    exact ⟨by rw [hH.out, if_pos hr]; rfl, by rw [hH.out, if_pos hr]; exact hBk.out.who, grown_of_below hB1.out _⟩
  · go_wp2_with (go_at_call 13; refine hcall.out.mono ?_; rintro e V2 ⟨rfl, hB2⟩; have c2 := cell_keep hB2 c2; have c1 := cell_keep hB2 hBk.out.c1; have hBk := Lib.hid (hBk.out.below hB2); have hB1 := Lib.hid (below_then hB1.out hB1.out.size hB2); clear hB2)
    go_still_tail 7, (by kernel_rfl)
    change wpList _ _ _ _ _ (World.drew _)
    have hBk : Hid (Book V2.drew g b A n cap l M) := hBk.out.below (by exact (Below.refl _ _).drew)
    have hB1 : Hid (Below w.heap.size w V2.drew) := hB1.out.drew
    have c2 : V2.drew.cell? ⟨w.heap.size, 1, none⟩ = some (.int .i64 f.user) := c2
    have c1 : V2.drew.cell? ⟨g, 1, none⟩ = _ := c1
    generalize V2.drew = V3 at *
    go_wp2_with (refine wpList_putWho rfl _ _ _ rfl b M rfl hBk.out.who hML.out draw rfl hD.out f.user rfl hU.out ?_; intro w' hw' hg'; have c2 := Keep.of_map hBk.out.who hg' _ _ c2; have hw' := Lib.hid hw'; have hg' := Lib.hid hg')
    go_ret
    exact ⟨by rw [hH.out, if_neg (by omega)]; rfl, by rw [hH.out, if_neg (by omega)]; exact hw'.out, grown_trans (grown_of_below hB1.out _) hg'.out⟩
end Go.Proofs.Ytfdlfkdefbfhfaa
