import Derived.Test.YtfdlfkdefbfhfaaSame
set_option linter.unusedVariables false
set_option linter.unusedSimpArgs false
namespace Go.Proofs.Ytfdlfkdefbfhfaa
open Go.RowKit

def eqE (e f : Ev) : Bool := decide (e.kind = f.kind) && (decide (e.raw = f.raw) && (decide (e.draw = f.draw) && (decide (e.boom = f.boom) && decide (e.keep = f.keep))))
/-- pelicanref24.Same. -/
def sameE : List Ev → List Ev → Bool
  | [], [] => true
  | e :: es, f :: fs => eqE e f && sameE es fs
  | _, _ => false
theorem sameE_len (a : List Ev) : ∀ b, a.length ≠ b.length → sameE a b = false := by
  induction a with
  | nil => intro b h; cases b with
    | nil => exact absurd rfl h
    | cons f fs => rfl
  | cons e es ih => intro b h; cases b with
    | nil => rfl
    | cons f fs => unfold sameE; rw [ih fs (by simpa using h), Bool.and_false]
theorem sameE_step (a b : List Ev) (j : Nat) (e f : Ev) (he : a[j]? = some e) (hf : b[j]? = some f) : sameE (a.drop j) (b.drop j) = (eqE e f && sameE (a.drop (j + 1)) (b.drop (j + 1))) := by
  have h1 := (List.getElem?_eq_some_iff.1 he).1
  have h2 := (List.getElem?_eq_some_iff.1 hf).1
  rw [List.drop_eq_getElem_cons h1, List.drop_eq_getElem_cons h2]
  rw [List.getElem?_eq_getElem h1] at he
  rw [List.getElem?_eq_getElem h2] at hf
  cases he; cases hf
  rfl
theorem below_drewN (w : World) (q : Nat) : Below w.heap.size w (w.drewN q) := ⟨rfl, rfl, rfl, Nat.le_refl _, fun _ _ => rfl⟩
theorem toList_inj {a b : ByteArray} (h : a.toList = b.toList) : a = b := by
  rw [ByteArray.toList_eq, ByteArray.toList_eq] at h
  exact ByteArray.ext (Array.toList_inj.1 h)
set_option maxRecDepth 100000 in
set_option maxHeartbeats 4000000 in
theorem ref_same (A A' : Option Addr) (n n' cap cap' : Nat) (a b : List Ev) (w : World) (H : Evs w A n cap a) (H' : Evs w A' n' cap' b) :
    Calls Try.prog 16 #[.slice A n cap, .slice A' n' cap'] w fun e w' => e = .returned (.bool (sameE a b)) ∧ Below w.heap.size w w' := by
  have hl := H.len
  have hl' := H'.len
  have hn := H.row.le
  have hcap := H.row.capLe
  have hn' := H'.row.le
  have hcap' := H'.row.capLe
  have HE := Lib.hid H; have HE' := Lib.hid H'; have HL := Lib.hid hl; have HL' := Lib.hid hl'
  clear H H'
  by_cases hne : n = n'
  · subst hne
    clear hl hl'
    go_enter Try.func16, Try.ntmps16
    go_wp2
    go_loopw [5] (fun i wr => ∃ j : Nat, j ≤ n ∧ i = .int .i64 j ∧ sameE a b = sameE (a.drop j) (b.drop j) ∧ Below w.heap.size w wr) (fun i _ => n - (intOf i).toNat)
    case atStart => exact ⟨0, Nat.zero_le _, rfl, rfl, Below.refl _ _⟩
    case round =>
      obtain ⟨j, hj, rfl, hq, HB⟩ := hrel
      have hB := Lib.hid HB
      have hQ := Lib.hid hq
      clear HB hq
      by_cases hjn : j < n
      · obtain ⟨x, hx⟩ : ∃ x, a[j]? = some x := ⟨_, List.getElem?_eq_getElem (by rw [HL.out]; exact hjn)⟩
        obtain ⟨y, hy⟩ : ∃ y, b[j]? = some y := ⟨_, List.getElem?_eq_getElem (by rw [HL'.out]; exact hjn)⟩
        have hst := Lib.hid (sameE_step a b j x y hx hy)
        have hEs := HE.out.below hB.out
        have hEs' := HE'.out.below hB.out
        obtain ⟨ab, ao, rfl, hc⟩ := hEs.row.cell (by omega)
        obtain ⟨bb, bo, rfl, hc'⟩ := hEs'.row.cell (by omega)
        have p0 := hc _ _ (evCells_at a j x hx 0 _ rfl)
        have p1 := hc _ _ (evCells_at a j x hx 1 _ rfl)
        have p2 := hc _ _ (evCells_at a j x hx 2 _ rfl)
        have p3 := hc _ _ (evCells_at a j x hx 3 _ rfl)
        have p4 := hc _ _ (evCells_at a j x hx 4 _ rfl)
        have r0 := hc' _ _ (evCells_at b j y hy 0 _ rfl)
        have r1 := hc' _ _ (evCells_at b j y hy 1 _ rfl)
        have r2 := hc' _ _ (evCells_at b j y hy 2 _ rfl)
        have r3 := hc' _ _ (evCells_at b j y hy 3 _ rfl)
        have r4 := hc' _ _ (evCells_at b j y hy 4 _ rfl)
        have ox := hEs.ok x (List.mem_of_getElem? hx)
        have oy := hEs'.ok y (List.mem_of_getElem? hy)
        have cx : ∀ q, (convert 40 9 (.slice x.rA x.rn x.rcap)).run Try.prog (wr.drewN q) = .ok (.string (strB x.raw)) (wr.drewN q) := fun q => conv_str _ _ _ _ _ (ox.row.below (below_drewN wr q))
        have cy : ∀ q, (convert 40 9 (.slice y.rA y.rn y.rcap)).run Try.prog (wr.drewN q) = .ok (.string (strB y.raw)) (wr.drewN q) := fun q => conv_str _ _ _ _ _ (oy.row.below (below_drewN wr q))
        have hraw : Hid (x.raw ≠ y.raw → strB x.raw ≠ strB y.raw) := fun h e => h (strB_inj _ _ ox.bytes oy.bytes e)
        simp only [Nat.add_zero, ← Nat.add_assoc] at p0 p1 p2 p3 p4 r0 r1 r2 r3 r4
        have heq : Hid (eqE x y = (decide (x.kind = y.kind) && (decide (x.raw = y.raw) && (decide (x.draw = y.draw) && (decide (x.boom = y.boom) && decide (x.keep = y.keep)))))) := rfl
        clear hc hc' hEs hEs' ox oy hx hy
        obtain ⟨b1, hb1⟩ : ∃ b, decide (x.kind = y.kind) = b := ⟨_, rfl⟩
        obtain ⟨b2, hb2⟩ : ∃ b, decide (x.raw = y.raw) = b := ⟨_, rfl⟩
        obtain ⟨b3, hb3⟩ : ∃ b, decide (x.draw = y.draw) = b := ⟨_, rfl⟩
        obtain ⟨xb, hxb⟩ : ∃ b, x.boom = b := ⟨_, rfl⟩
        obtain ⟨yb, hyb⟩ : ∃ b, y.boom = b := ⟨_, rfl⟩
        rw [hxb] at p3
        rw [hyb] at r3
        obtain ⟨b5, hb5⟩ : ∃ b, decide (x.keep = y.keep) = b := ⟨_, rfl⟩
        rw [hb1, hb2, hb3, hxb, hyb, hb5] at heq
        have c1 : (x.kind != y.kind) = !b1 := by rw [← hb1]; by_cases h : x.kind = y.kind <;> simp [h]
        have c2 : ((strB x.raw).toList == (strB y.raw).toList) = b2 := by
          rw [← hb2]
          by_cases h : x.raw = y.raw
          · simp [h]
          · have : ¬ (strB x.raw).toList = (strB y.raw).toList := fun e => hraw.out h (toList_inj e)
            simp [h, this]
        have c3 : (x.draw != y.draw) = !b3 := by rw [← hb3]; by_cases h : x.draw = y.draw <;> simp [h]
        have c5 : (x.keep != y.keep) = !b5 := by rw [← hb5]; by_cases h : x.keep = y.keep <;> simp [h]
        clear hb1 hb2 hb3 hxb hyb hb5 hraw
        cases b1 with
        | false => (
          simp only [Bool.not_true, Bool.not_false] at c1 c2 c3 c5
          have hr : Hid (eqE x y = false) := by
            have : eqE x y = false := by rw [heq.out]; rfl
            exact this
          clear heq
          go_wp2
          (
            refine wp_region_quiet_lit (by kernel_rfl) (by kernel_rfl) ?_
            simp only [List.append_eq, List.cons_append, List.nil_append]
            repeat (go_big_quiet_step (fail))
            refine wpQuiet_nil ?_
            intro _ hw'
            obtain ⟨nq, hw''⟩ := hw'
            subst hw'')
          go_wp2
          go_ret
          exact ⟨by rw [hQ.out, hst.out, hr.out]; rfl, hB.out.trans ((below_drewN _ _).mono hB.out.size)⟩)
        | true =>
          cases b2 with
          | false => (
            simp only [Bool.not_true, Bool.not_false] at c1 c2 c3 c5
            have hr : Hid (eqE x y = false) := by
              have : eqE x y = false := by rw [heq.out]; rfl
              exact this
            clear heq
            go_wp2
            (
              refine wp_region_quiet_lit (by kernel_rfl) (by kernel_rfl) ?_
              simp only [List.append_eq, List.cons_append, List.nil_append]
              repeat (go_big_quiet_step (fail))
              refine wpQuiet_nil ?_
              intro _ hw'
              obtain ⟨nq, hw''⟩ := hw'
              subst hw'')
            go_wp2
            go_ret
            exact ⟨by rw [hQ.out, hst.out, hr.out]; rfl, hB.out.trans ((below_drewN _ _).mono hB.out.size)⟩)
          | true =>
            cases b3 with
            | false => (
              simp only [Bool.not_true, Bool.not_false] at c1 c2 c3 c5
              have hr : Hid (eqE x y = false) := by
                have : eqE x y = false := by rw [heq.out]; rfl
                exact this
              clear heq
              go_wp2
              (
                refine wp_region_quiet_lit (by kernel_rfl) (by kernel_rfl) ?_
                simp only [List.append_eq, List.cons_append, List.nil_append]
                repeat (go_big_quiet_step (fail))
                refine wpQuiet_nil ?_
                intro _ hw'
                obtain ⟨nq, hw''⟩ := hw'
                subst hw'')
              go_wp2
              go_ret
              exact ⟨by rw [hQ.out, hst.out, hr.out]; rfl, hB.out.trans ((below_drewN _ _).mono hB.out.size)⟩)
            | true =>
              cases xb <;> cases yb
              case false.true => (
                simp only [Bool.not_true, Bool.not_false] at c1 c2 c3 c5
                have hr : Hid (eqE x y = false) := by
                  have : eqE x y = false := by rw [heq.out]; rfl
                  exact this
                clear heq
                go_wp2
                (
                  refine wp_region_quiet_lit (by kernel_rfl) (by kernel_rfl) ?_
                  simp only [List.append_eq, List.cons_append, List.nil_append]
                  repeat (go_big_quiet_step (fail))
                  refine wpQuiet_nil ?_
                  intro _ hw'
                  obtain ⟨nq, hw''⟩ := hw'
                  subst hw'')
                go_wp2
                go_ret
                exact ⟨by rw [hQ.out, hst.out, hr.out]; rfl, hB.out.trans ((below_drewN _ _).mono hB.out.size)⟩)
              case true.false => (
                simp only [Bool.not_true, Bool.not_false] at c1 c2 c3 c5
                have hr : Hid (eqE x y = false) := by
                  have : eqE x y = false := by rw [heq.out]; rfl
                  exact this
                clear heq
                go_wp2
                (
                  refine wp_region_quiet_lit (by kernel_rfl) (by kernel_rfl) ?_
                  simp only [List.append_eq, List.cons_append, List.nil_append]
                  repeat (go_big_quiet_step (fail))
                  refine wpQuiet_nil ?_
                  intro _ hw'
                  obtain ⟨nq, hw''⟩ := hw'
                  subst hw'')
                go_wp2
                go_ret
                exact ⟨by rw [hQ.out, hst.out, hr.out]; rfl, hB.out.trans ((below_drewN _ _).mono hB.out.size)⟩)
              all_goals
                cases b5 with
                | false => (
                  simp only [Bool.not_true, Bool.not_false] at c1 c2 c3 c5
                  have hr : Hid (eqE x y = false) := by
                    have : eqE x y = false := by rw [heq.out]; rfl
                    exact this
                  clear heq
                  go_wp2
                  (
                    refine wp_region_quiet_lit (by kernel_rfl) (by kernel_rfl) ?_
                    simp only [List.append_eq, List.cons_append, List.nil_append]
                    repeat (go_big_quiet_step (fail))
                    refine wpQuiet_nil ?_
                    intro _ hw'
                    obtain ⟨nq, hw''⟩ := hw'
                    subst hw'')
                  go_wp2
                  go_ret
                  exact ⟨by rw [hQ.out, hst.out, hr.out]; rfl, hB.out.trans ((below_drewN _ _).mono hB.out.size)⟩)
                | true =>
                  simp only [Bool.not_true, Bool.not_false] at c1 c2 c3 c5
                  have hr : Hid (eqE x y = true) := by
                    have : eqE x y = true := by rw [heq.out]; rfl
                    exact this
                  clear heq
                  go_wp2
                  (
                    refine wp_region_quiet_lit (by kernel_rfl) (by kernel_rfl) ?_
                    simp only [List.append_eq, List.cons_append, List.nil_append]
                    repeat (go_big_quiet_step (fail))
                    refine wpQuiet_nil ?_
                    intro _ hw'
                    obtain ⟨nq, hw''⟩ := hw'
                    subst hw'')
                  go_wp2
                  refine ⟨⟨j + 1, by omega, by go_num, by rw [hQ.out, hst.out, hr.out]; rfl, hB.out.trans ((below_drewN _ _).mono hB.out.size)⟩, by simp [intOf]; omega⟩
      · obtain rfl : j = n := by omega
        have hfin : Hid (sameE a b = true) := by
          have : sameE a b = true := by
            rw [hQ.out, List.drop_of_length_le (by rw [HL.out]; exact Nat.le_refl _), List.drop_of_length_le (by rw [HL'.out]; exact Nat.le_refl _)]
            rfl
          exact this
        go_wp2
        go_ret
        exact ⟨by rw [hfin.out]; rfl, hB.out⟩
  · have hfin : Hid (sameE a b = false) := sameE_len a b (by omega)
    clear hl hl'
    go_enter Try.func16, Try.ntmps16
    go_wp2
    go_ret
    exact ⟨by rw [hfin.out]; rfl, Below.refl _ _⟩
end Go.Proofs.Ytfdlfkdefbfhfaa
