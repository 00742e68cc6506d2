import Derived.Test.YtfdlfkdefbfhfaaMem
import Derived.Test.YtfdlfkdefbfhfaaProg
import Derived.Deep.DeepMust
set_option linter.unusedVariables false
set_option linter.unusedSimpArgs false
namespace Go.Proofs.Ytfdlfkdefbfhfaa
open Go.RowKit

theorem info_slot : (Try.prog.info? 71).map (fun i => (i.zero, i.size, i.bytes)) = some (some (.agg #[.pointer none, .pointer none, .int .i64 0]), 3, 24) := by kernel_rfl
theorem isz_slot : (Try.prog.info? 71).map (·.size) = some 3 := by kernel_rfl

theorem insert_nil (g c : Nat) (x y z : Value) (w : World) (hb : Blk w g 71 [x, y, z]) (hone : ∀ u ∈ [x, y, z], u.oneCell' = true) :
    Calls Try.prog 38 #[.slice none 0 0, .int .i64 0, .slice (some ⟨g, 0, none⟩) 1 1] w fun e w' => ∃ v, e = .returned v ∧ w'.ownsRow w.heap.size 71 3 v 1 [x, y, z] ∧ Below w.heap.size w w' := by
  go_enter Try.func38, Try.ntmps38
  go_wp2_with (at_builtin; refine wpList_app (w0 := w) w.heap.size rfl _ _ 64 rfl 71 (.agg #[.pointer none, .pointer none, .int .i64 0]) 3 24 Try.underlying64 info_slot rfl (by decide) (by decide) _ 0 [] _ 1 1 [x, y, z] rfl rfl (World.ownsRow_nil _ _ _ _) (hb.row 1 3 rfl (by omega)) hone (Below.refl _ _) (Nat.le_refl _) (by decide) ?h1)
  case h1 =>
    intro v' w' hown hB _ _
    obtain ⟨A, c, rfl, _⟩ := Row.of_own hown
    have hown := Lib.hid hown
    have hB := Lib.hid hB
    go_wp2
    go_ret
    exact ⟨_, rfl, hown.out, hB.out⟩

set_option maxRecDepth 100000 in
theorem insert_grow (g c : Nat) (x y z : Value) (s : Nat) (cs : List Value) (w : World) (hb : Blk w g 71 [x, y, z]) (hone : ∀ u ∈ [x, y, z], u.oneCell' = true)
    (hs : Blk w s 71 cs) (hl : cs.length = 9) (hone2 : ∀ u ∈ cs, u.oneCell' = true) :
    Calls Try.prog 38 #[.slice (some ⟨s, 0, none⟩) 3 3, .int .i64 0, .slice (some ⟨g, 0, none⟩) 1 1] w fun e w' => ∃ v, e = .returned v ∧ w'.ownsRow w.heap.size 71 3 v 4 ([x, y, z] ++ cs) ∧ Below w.heap.size w w' := by
  have hl := Lib.hid hl
  have hb := Lib.hid hb
  have hs := Lib.hid hs
  go_enter Try.func38, Try.ntmps38
  go_wp2_with (at_builtin; refine wpList_app_zeros0 (w0 := w) w.heap.size rfl _ _ 64 3 rfl 71 (.agg #[.pointer none, .pointer none, .int .i64 0]) 3 24 Try.underlying64 .i64 Try.underlying3 info_slot rfl (by decide) _ 3 rfl .i64 4 rfl (by decide) (by decide) (by decide) (by decide) (by decide) (Below.refl _ _) (Nat.le_refl _) ?h1)
  case h1 =>
    intro cap' W hown hB hgr hcap
    have hown := Lib.hid hown
    have hB := Lib.hid hB
    go_wp2_with (refine wpList_copyS (w0 := w) w.heap.size rfl _ _ 64 64 rfl 71 Try.underlying64 3 isz_slot w.heap.size w.heap.size 4 cap' _ hown.out 0 _ _ rfl _ 1 1 [x, y, z] rfl ((hb.out.below hB.out hb.out.lt).row 1 3 rfl (by omega)) hone 1 rfl (by decide) hB.out (Nat.le_refl _) ?h2)
    case h2 =>
      intro W2 hown2 hB2 hgr2
      have hown2 := Lib.hid hown2
      have hB2 := Lib.hid hB2
      have hc1 : ¬ cap' = 1 := by omega
      have hw1 : IntKind.i64.wrap 1 = 1 := by decide
      have hw0 : IntKind.i64.wrap 0 = 0 := by decide
      go_wp2_with fail
      go_still_tail 8, (by kernel_rfl)
      change wpList _ _ _ _ _ W2.drew
      have hown3 : Hid (W2.drew.ownsRow w.heap.size 71 3 (.slice (some ⟨w.heap.size, 0, none⟩) 4 cap') 4 _) := hown2.out
      have hB3 : Hid (Below w.heap.size w W2.drew) := hB2.out.drew
      generalize W2.drew = W3 at hown3 hB3 ⊢
      clear hown2 hB2 hgr2 hw1 hw0 hc1
      go_wp2_with (refine wpList_copyS (w0 := w) w.heap.size rfl _ _ 64 64 rfl 71 Try.underlying64 3 isz_slot w.heap.size w.heap.size 4 cap' _ hown3.out 3 _ _ rfl _ 3 3 cs rfl ((hs.out.below hB3.out hs.out.lt).row 3 3 hl.out (by omega)) hone2 3 rfl (by decide) hB3.out (Nat.le_refl _) ?h3)
      case h3 =>
        intro W4 hown4 hB4 _
        have hfin : Hid (W4.ownsRow w.heap.size 71 3 (.slice (some ⟨w.heap.size, 0, none⟩) 4 cap') 4 ([x, y, z] ++ cs)) := by
          have e : cs.take 9 = cs := List.take_of_length_le (by rw [hl.out]; omega)
          have e2 : W4.ownsRow w.heap.size 71 3 (.slice (some ⟨w.heap.size, 0, none⟩) 4 cap') 4 ([x, y, z] ++ cs) := by
            simpa [e, Builtin.zeroCells, List.range_succ] using hown4
          exact e2
        have hB4 := Lib.hid hB4
        clear hown4
        go_wp2
        go_ret
        exact ⟨_, rfl, hfin.out, hB4.out⟩

/-- A slot of a frame: where, an int (or an uint64), how many bytes. -/
structure Slot where
  off : Nat
  isInt : Bool
  k : Int
def slotsOf (kind : Int) : List Slot :=
  if kind = 0 then [⟨1, true, 1⟩, ⟨3, false, 8⟩]
  else if kind = 1 then [⟨2, false, 8⟩, ⟨4, true, 4⟩]
  else if kind = 6 then [⟨6, true, 1⟩]
  else if kind = 2 ∨ kind = 3 then [⟨2, false, 8⟩]
  else if kind = 4 ∨ kind = 5 then [⟨2, false, 8⟩, ⟨5, false, 8⟩, ⟨6, true, 1⟩, ⟨7, true, 2⟩]
  else []
def taggedB (kind : Int) : Bool := decide (2 ≤ kind) && decide (kind ≤ 5)
def slotCell (g : Nat) (s : Slot) : List Value :=
  [if s.isInt then .pointer (some ⟨g, s.off, none⟩) else .pointer none, if s.isInt then .pointer none else .pointer (some ⟨g, s.off, none⟩), .int .i64 s.k]
def slotCells (g : Nat) (l : List Slot) : List Value := l.flatMap (slotCell g)

/-- What slots hands back. -/
def SlotsPost (g : Nat) (kind : Int) (w : World) (e : Ending) (w' : World) : Prop :=
  ∃ A c, e = .returned (.tuple #[.slice A (slotsOf kind).length c, .bool (taggedB kind)]) ∧
    w'.ownsRow w.heap.size 71 3 (.slice A (slotsOf kind).length c) (slotsOf kind).length (slotCells g (slotsOf kind)) ∧ Below w.heap.size w w'

theorem lit_drew (w : World) (e : TypeId) (cs : Array Value) (n sz : Nat) (hl : cs.size = n * sz) (hn : n ≤ 9223372036854775807) :
    ((w.alloc (.cells cs e)).drew).ownsRow w.heap.size e sz (.slice (some ⟨w.heap.size, 0, none⟩) n n) n cs.toList ∧ Below w.heap.size w ((w.alloc (.cells cs e)).drew) :=
  ⟨(show (w.alloc (.cells cs e)).ownsRow w.heap.size e sz (.slice (some ⟨w.heap.size, 0, none⟩) n n) n cs.toList from (Blk.new' w e cs).own n sz (by simpa using hl) hn (Nat.le_refl _)), ((Below.refl _ _).alloc (Nat.le_refl _) _).drew⟩
theorem lit_plain (w : World) (e : TypeId) (cs : Array Value) (n sz : Nat) (hl : cs.size = n * sz) (hn : n ≤ 9223372036854775807) :
    (w.alloc (.cells cs e)).ownsRow w.heap.size e sz (.slice (some ⟨w.heap.size, 0, none⟩) n n) n cs.toList ∧ Below w.heap.size w (w.alloc (.cells cs e)) :=
  ⟨(Blk.new' w e cs).own n sz (by simpa using hl) hn (Nat.le_refl _), (Below.refl _ _).alloc (Nat.le_refl _) _⟩

theorem slots_0 (g : Nat) (w : World) (hk : w.cell? ⟨g, 0, none⟩ = some (.int .i64 0)) : Calls Try.prog 24 #[.pointer (some ⟨g, 0, none⟩)] w (SlotsPost g 0 w) := by
  go_enter Try.func24, Try.ntmps24
  go_wp2
  go_region
  go_wp2
  go_ret2
  exact ⟨_, _, rfl, lit_drew w 71 _ 2 3 rfl (by decide)⟩
theorem slots_1 (g : Nat) (w : World) (hk : w.cell? ⟨g, 0, none⟩ = some (.int .i64 1)) : Calls Try.prog 24 #[.pointer (some ⟨g, 0, none⟩)] w (SlotsPost g 1 w) := by
  go_enter Try.func24, Try.ntmps24
  go_wp2
  go_region
  go_wp2
  go_ret2
  exact ⟨_, _, rfl, lit_drew w 71 _ 2 3 rfl (by decide)⟩
theorem slots_6 (g : Nat) (w : World) (hk : w.cell? ⟨g, 0, none⟩ = some (.int .i64 6)) : Calls Try.prog 24 #[.pointer (some ⟨g, 0, none⟩)] w (SlotsPost g 6 w) := by
  go_enter Try.func24, Try.ntmps24
  go_wp2
  go_ret2
  exact ⟨_, _, rfl, lit_plain w 71 _ 1 3 rfl (by decide)⟩
theorem slots_no (g : Nat) (kind : Int) (w : World) (hk : w.cell? ⟨g, 0, none⟩ = some (.int .i64 kind)) (h : kind < 0 ∨ 6 < kind) : Calls Try.prog 24 #[.pointer (some ⟨g, 0, none⟩)] w (SlotsPost g kind w) := by
  have b0 : (kind == 0) = false := by simp; omega
  have b1 : (kind == 1) = false := by simp; omega
  have b2 : (kind == 2) = false := by simp; omega
  have b3 : (kind == 3) = false := by simp; omega
  have b4 : (kind == 4) = false := by simp; omega
  have b5 : (kind == 5) = false := by simp; omega
  have b6 : (kind == 6) = false := by simp; omega
  have hnil := fun (w : World) => run_neq_slice_nil_any (P := Try.prog) w 64 71 none 0 0 0 0 Try.underlying64
  have e1 : Hid (slotsOf kind = []) := by
    have : slotsOf kind = [] := by unfold slotsOf; rw [if_neg (by omega), if_neg (by omega), if_neg (by omega), if_neg (by omega), if_neg (by omega)]
    exact this
  have e2 : Hid (taggedB kind = false) := by
    have : taggedB kind = false := by unfold taggedB; rcases h with h | h <;> simp <;> omega
    exact this
  go_enter Try.func24, Try.ntmps24
  go_wp2
  go_ret2
  unfold SlotsPost
  rw [e1.out, e2.out]
  exact ⟨_, _, rfl, World.ownsRow_nil _ _ _ _, Below.refl _ _⟩

theorem slots_23 (g : Nat) (kind : Int) (w : World) (hk : w.cell? ⟨g, 0, none⟩ = some (.int .i64 kind)) (h : kind = 2 ∨ kind = 3) : Calls Try.prog 24 #[.pointer (some ⟨g, 0, none⟩)] w (SlotsPost g kind w) := by
  have hnil := fun (w : World) (A : Addr) (n c : Nat) => run_neq_slice_nil_any (P := Try.prog) w 64 71 (some A) n c 0 0 Try.underlying64
  have hins := insert_nil w.heap.size 1 (.pointer none) (.pointer (some ⟨g, 2, none⟩)) (.int .i64 8) (w.alloc (.cells #[.pointer none, .pointer (some ⟨g, 2, none⟩), .int .i64 8] 71)) (Blk.new w 71 [.pointer none, .pointer (some ⟨g, 2, none⟩), .int .i64 8]) (by simp [Value.oneCell'])
  have HI := Lib.hid hins
  clear hins
  rcases h with rfl | rfl
  all_goals
    go_enter Try.func24, Try.ntmps24
    go_wp2_with (go_at_call 38; refine HI.out.mono ?_; rintro e w1 ⟨v, rfl, hv, hb⟩; obtain ⟨g1, c1, rfl⟩ := own_form hv (by decide); have hv := Lib.hid hv; have hb := Lib.hid hb)
    go_ret2
    refine ⟨_, _, rfl, own_lower hv.out (by simp), ((Below.refl _ _).alloc (Nat.le_refl _) _).trans (hb.out.mono (by simp))⟩

theorem blk_two (w : World) (e e' : TypeId) (cs ds : List Value) :
    Blk (((w.alloc (.cells cs.toArray e)).alloc (.cells ds.toArray e')).drew) (w.heap.size + 1) e' ds ∧ Blk (((w.alloc (.cells cs.toArray e)).alloc (.cells ds.toArray e')).drew) w.heap.size e cs := by
  constructor
  · have h := Blk.new (w.alloc (.cells cs.toArray e)) e' ds
    have hs : (w.alloc (.cells cs.toArray e)).heap.size = w.heap.size + 1 := by simp
    rw [hs] at h
    exact h
  · exact (Blk.new w e cs).alloc _

theorem slots_45 (g : Nat) (kind : Int) (w : World) (hk : w.cell? ⟨g, 0, none⟩ = some (.int .i64 kind)) (h : kind = 4 ∨ kind = 5) : Calls Try.prog 24 #[.pointer (some ⟨g, 0, none⟩)] w (SlotsPost g kind w) := by
  have hnil := fun (w : World) (A : Addr) (n c : Nat) => run_neq_slice_nil_any (P := Try.prog) w 64 71 (some A) n c 0 0 Try.underlying64
  have HW := blk_two w 71 71 [.pointer none, .pointer (some ⟨g, 5, none⟩), .int .i64 8, .pointer (some ⟨g, 6, none⟩), .pointer none, .int .i64 1, .pointer (some ⟨g, 7, none⟩), .pointer none, .int .i64 2]
    [.pointer none, .pointer (some ⟨g, 2, none⟩), .int .i64 8]
  have HI := Lib.hid (insert_grow (w.heap.size + 1) 1 (.pointer none) (.pointer (some ⟨g, 2, none⟩)) (.int .i64 8) w.heap.size _ _ HW.1 (by simp [Value.oneCell']) HW.2 rfl (by simp [Value.oneCell']))
  clear HW
  rcases h with rfl | rfl
  all_goals
    go_enter Try.func24, Try.ntmps24
    go_wp2
    go_region
    go_wp2_with (go_at_call 38; refine HI.out.mono ?_; rintro e w1 ⟨v, rfl, hv, hb⟩; obtain ⟨g1, c1, rfl⟩ := own_form hv (by decide); have hv := Lib.hid hv; have hb := Lib.hid hb)
    go_ret2
    refine ⟨_, _, rfl, own_lower hv.out (show w.heap.size ≤ ((w.alloc _).alloc _).heap.size by simp; omega), ?_⟩
    exact (((Below.refl _ _).alloc (Nat.le_refl _) _).alloc (by simp) _).drew.trans (hb.out.mono (show w.heap.size ≤ ((w.alloc _).alloc _).heap.size by simp; omega))

/-- frame.slots, of whatever kind. -/
theorem frame_slots (g : Nat) (kind : Int) (w : World) (hk : w.cell? ⟨g, 0, none⟩ = some (.int .i64 kind)) : Calls Try.prog 24 #[.pointer (some ⟨g, 0, none⟩)] w (SlotsPost g kind w) := by
  by_cases h : kind < 0 ∨ 6 < kind
  · exact slots_no g kind w hk h
  · have : kind = 0 ∨ kind = 1 ∨ (kind = 2 ∨ kind = 3) ∨ (kind = 4 ∨ kind = 5) ∨ kind = 6 := by omega
    rcases this with rfl | rfl | h | h | rfl
    · exact slots_0 g w hk
    · exact slots_1 g w hk
    · exact slots_23 g kind w hk h
    · exact slots_45 g kind w hk h
    · exact slots_6 g w hk
end Go.Proofs.Ytfdlfkdefbfhfaa
