import Derived.Test.YtfdlfkdefbfhfaaPure
import Derived.Test.YtfdlfkdefbfhfaaStep
set_option linter.unusedVariables false
set_option linter.unusedSimpArgs false
namespace Go.Proofs.Ytfdlfkdefbfhfaa
open Go.RowKit

theorem out_raw {W : World} {l : List Usr} {ws : List Int} {es out : List Ev} (hout : out.map norm = stripN l ws es) (hok : ∀ x ∈ out, EvOk W x) (h200 : ∀ e ∈ es, e.rn ≤ 200) (hes : ∀ e ∈ es, e.raw.length = e.rn) : ∀ x ∈ out, x.rn ≤ 1000 := by
  intro x hx
  have h1 : (norm x) ∈ stripN l ws es := by rw [← hout]; exact List.mem_map_of_mem hx
  have h2 := (hok x hx).row.nums_at
  rcases strip_raw l es ws _ h1 with h | ⟨e, he, h⟩
  · have h : x.raw = [] := h
    rw [h] at h2
    simp at h2
    omega
  · have h : x.raw = e.raw := h
    rw [h, hes e he] at h2
    have := h200 e he
    omega
set_option maxRecDepth 100000 in
set_option maxHeartbeats 4000000 in
theorem law_strip (A : Option Addr) (n cap : Nat) (l : List Usr) (E : Option Addr) (m ecap : Nat) (es : List Ev) (w : World) (HU : Usrs w A n cap l) (HE : Evs w E m ecap es) :
    Calls Try.prog 5 #[.slice A n cap, .slice E m ecap] w (Done w) := by
  have hB0 := fun W (_ : Below w.heap.size w W) => True
  have hfu := Lib.hid (fun W (HB : Below w.heap.size w W) => few_users A n cap l W (HU.below HB))
  have hfe := Lib.hid (fun W (HB : Below w.heap.size w W) => few_evs E m ecap es 40 W (HE.below HB) (by decide))
  obtain ⟨bu, hbu⟩ : ∃ b, fewU l = b := ⟨_, rfl⟩
  obtain ⟨be, hbe⟩ : ∃ b, fewE es 40 = b := ⟨_, rfl⟩
  rw [hbu] at hfu
  rw [hbe] at hfe
  clear hB0
  have hm1 := HE.row.le
  have hm2 := HE.row.capLe
  cases bu with
  | false => (
    clear hbu hbe HU HE
    go_enter Try.func5, Try.ntmps5
    go_wp2_with (first | (go_at_call 8; refine (awake_any _).mono ?_; rintro e W1 ⟨rfl, hB1⟩; have hB1 := Lib.hid hB1) | (go_at_call 9; refine (hfu.out _ hB1.out).mono ?_; rintro e W2 ⟨rfl, hq⟩; replace hq := hq.symm; subst hq) | (go_at_call 10; refine (hfe.out _ hB1.out).mono ?_; rintro e W2 ⟨rfl, hq⟩; replace hq := hq.symm; subst hq))
    go_ret
    exact ⟨rfl, hB1.out⟩)
  | true =>
    cases be with
    | false => (
      clear hbu hbe HU HE
      go_enter Try.func5, Try.ntmps5
      go_wp2_with (first | (go_at_call 8; refine (awake_any _).mono ?_; rintro e W1 ⟨rfl, hB1⟩; have hB1 := Lib.hid hB1) | (go_at_call 9; refine (hfu.out _ hB1.out).mono ?_; rintro e W2 ⟨rfl, hq⟩; replace hq := hq.symm; subst hq) | (go_at_call 10; refine (hfe.out _ hB1.out).mono ?_; rintro e W2 ⟨rfl, hq⟩; replace hq := hq.symm; subst hq))
      go_ret
      exact ⟨rfl, hB1.out⟩)
    | true =>
      have hm := fewE_len es 40 hbe
      rw [HE.len] at hm
      have h200 := Lib.hid (fewE_raw es 40 hbe)
      have hesr : Hid (∀ e ∈ es, e.raw.length = e.rn) := fun e he => (HE.ok e he).row.nums_at
      have hU := Lib.hid HU; have hE := Lib.hid HE; have hel := Lib.hid HE.len
      clear hbu hbe HU HE
      go_enter Try.func5, Try.ntmps5
      go_wp2_with (first | (go_at_call 8; refine (awake_any _).mono ?_; rintro e W1 ⟨rfl, hB1⟩; have hB1 := Lib.hid hB1) | (go_at_call 9; refine (hfu.out _ hB1.out).mono ?_; rintro e W2 ⟨rfl, hq⟩; replace hq := hq.symm; subst hq) | (go_at_call 10; refine (hfe.out _ hB1.out).mono ?_; rintro e W2 ⟨rfl, hq⟩; replace hq := hq.symm; subst hq))
      clear hfu hfe
      obtain ⟨W2, hW2⟩ : ∃ W2, W2 = W1.alloc (.cells #[.slice A n cap, .slice none 0 0, .int .i64 0, .int .i64 0] 31) := ⟨_, rfl⟩
      rw [← hW2]
      have hB2 := Lib.hid (show Below w.heap.size w W2 by rw [hW2]; exact hB1.out.alloc hB1.out.size _)
      have cb := Lib.hid (show Blk W2 W1.heap.size 31 _ by rw [hW2]; exact Blk.new' W1 _ _)
      clear hW2 hB1
      generalize W1.heap.size = cg at *
      refine (part_whose A n cap l (.slice none 0 0) 0 0 E m ecap es W2 (hU.out.below hB2.out) (hE.out.below hB2.out) (by omega) rfl).mono ?_
      rintro e W3 ⟨v3, rfl, hv3, hB3⟩
      obtain ⟨ws, hwe⟩ : ∃ ws, whoseL l [] es = ws := ⟨_, rfl⟩
      have hws : Hid (ws.length = m) := by
        have : ws.length = m := by rw [← hwe]; exact (whoseL_len l es []).trans hel.out
        exact this
      have hlaw := strip_law l es
      rw [hwe] at hv3 hlaw
      have hlaw := Lib.hid hlaw
      have hwe := Lib.hid hwe
      obtain ⟨A3, c3, rfl, hR3⟩ := Row.of_own hv3
      have cb := Lib.hid (cb.out.belowS hB3)
      have hB3w := Lib.hid (below_then hB2.out hB2.out.size hB3)
      have g31 := hR3.le; have g32 := hR3.capLe
      have hR3 := Lib.hid hR3
      have q0 : W3.cell? ⟨cg, 0, none⟩ = some (.slice A n cap) := cb.out.cell 0
      have q1 : W3.cell? ⟨cg, 1, none⟩ = some (.slice none 0 0) := cb.out.cell 1
      have q2 : W3.cell? ⟨cg, 2, none⟩ = some (.int .i64 0) := cb.out.cell 2
      have q3 : W3.cell? ⟨cg, 3, none⟩ = some (.int .i64 0) := cb.out.cell 3
      clear hv3 hB3 hB2
      go_wp2_with fail
      refine (part_strip A n cap l (.slice none 0 0) 0 0 E m ecap es W3 (hU.out.below hB3w.out) (hE.out.below hB3w.out) (by omega) rfl (fun e he => by have := h200.out e he; omega)).mono ?_
      rintro e W4 ⟨v4, out, rfl, hv4, hok4, hout, hB4⟩
      rw [hwe.out] at hout
      have hlw := Lib.hid (hlaw.out out hout)
      have hraw4 := Lib.hid (out_raw hout hok4 h200.out hesr.out)
      have holen : out.length ≤ 40 := by
        have := norm_len l ws es
        rw [← hout, List.length_map, hel.out] at this
        omega
      have hout := Lib.hid hout
      obtain ⟨A4, c4, rfl, hR4⟩ := Row.of_own hv4
      have g41 := hR4.le; have g42 := hR4.capLe
      have hE4 := Lib.hid (Evs.mk hR4 hok4)
      have hR3 := Lib.hid (hR3.out.below hB4)
      have q0 := cell_keep hB4 q0
      have q1 := cell_keep hB4 q1
      have q2 := cell_keep hB4 q2
      have q3 := cell_keep hB4 q3
      have hB4w := Lib.hid (below_then hB3w.out hB3w.out.size hB4)
      clear hv4 hok4 hR4 hB4 hB3w hlaw hesr hwe cb
      go_wp2_with fail
      refine (part_strip A n cap l (.slice none 0 0) 0 0 A4 out.length c4 out W4 (hU.out.below hB4w.out) hE4.out (by omega) rfl hraw4.out).mono ?_
      rintro e W5 ⟨v5, again, rfl, hv5, hok5, hagain, hB5⟩
      rw [hlw.out.2] at hagain
      have hsame := Lib.hid (sameE_norm again out hagain)
      obtain ⟨A5, c5, rfl, hR5⟩ := Row.of_own hv5
      have g51 := hR5.le; have g52 := hR5.capLe
      have hE5 := Lib.hid (Evs.mk hR5 hok5)
      have hE4 := Lib.hid (hE4.out.below hB5)
      have hR3 := Lib.hid (hR3.out.below hB5)
      have q0 := cell_keep hB5 q0
      have q1 := cell_keep hB5 q1
      have q2 := cell_keep hB5 q2
      have q3 := cell_keep hB5 q3
      have hB5w := Lib.hid (below_then hB4w.out hB4w.out.size hB5)
      clear hv5 hok5 hR5 hB5 hB4w hagain hraw4
      go_wp2_with fail
      refine (ref_same A5 A4 again.length out.length c5 c4 again out W5 hE5.out hE4.out).mono ?_
      rintro e W6 ⟨rfl, hB6⟩
      rw [hsame.out]
      have hE4 := Lib.hid (hE4.out.below hB6)
      have hR3 := Lib.hid (hR3.out.below hB6)
      have q0 := cell_keep hB6 q0
      have q1 := cell_keep hB6 q1
      have q2 := cell_keep hB6 q2
      have q3 := cell_keep hB6 q3
      have hB6w := Lib.hid (below_then hB5w.out hB5w.out.size hB6)
      clear hB6 hB5w hE5 hsame g51 g52
      go_wp2
      go_loopw [12, 13] (fun v i wr => ∃ (j : Nat) (kept : List Ev), j ≤ m ∧ i = .int .i64 j ∧ stripN l ws es = kept.map norm ++ stripN l (ws.drop j) (es.drop j) ∧ kept.length ≤ j ∧ wr.ownsRow W6.heap.size 42 5 v kept.length (evCells kept) ∧ (∀ y ∈ kept, EvOk w y) ∧ Below W6.heap.size W6 wr) (fun _ i _ => m - (intOf i).toNat)
      case atStart => exact ⟨0, [], Nat.zero_le _, rfl, rfl, Nat.le_refl _, World.ownsRow_nil _ _ _ _, (fun y hy => by cases hy), Below.refl _ _⟩
      case round =>
        obtain ⟨j, kept, hj, rfl, hS, hO, hOwn, hOk, hB⟩ := hrel
        obtain ⟨A7, c7, rfl, _⟩ := Row.of_own hOwn
        have hS := Lib.hid hS; have hO := Lib.hid hO; have hOwn := Lib.hid hOwn; have hOk := Lib.hid hOk; have hB := Lib.hid hB
        have hBw := Lib.hid (below_then hB6w.out hB6w.out.size hB.out)
        by_cases hjn : j < m
        · obtain ⟨x, hx⟩ : ∃ x, es[j]? = some x := ⟨_, List.getElem?_eq_getElem (by rw [hel.out]; exact hjn)⟩
          have hst := Lib.hid (stripN_step l ws es j x hx (by rw [hws.out]; exact hjn))
          obtain ⟨eb, eoff, rfl, hcc⟩ := (hE.out.below hBw.out).row.cell (by omega)
          have p0 := hcc _ _ (evCells_at es j x hx 0 _ rfl)
          have p1 := hcc _ _ (evCells_at es j x hx 1 _ rfl)
          have p2 := hcc _ _ (evCells_at es j x hx 2 _ rfl)
          have p3 := hcc _ _ (evCells_at es j x hx 3 _ rfl)
          have p4 := hcc _ _ (evCells_at es j x hx 4 _ rfl)
          have hxo := Lib.hid (hE.out.ok x (List.mem_of_getElem? hx))
          obtain ⟨ib, ioff, rfl, hic⟩ := hR3.out.ints64 (by omega)
          have pi := cell_keep hB.out (hic j hjn)
          simp only [Nat.add_zero, ← Nat.add_assoc] at p0 p1 p2 p3 p4
          have hse : Hid (stripE l (nth ws j) x = if roleU l (nth ws j) ≠ 0 then [norm x] else if breaksB x then [crashE] else []) := rfl
          have hrole := Lib.hid (user_role A n cap l (nth ws j) wr (hU.out.below hBw.out))
          clear hcc hx hic
          generalize roleU l (nth ws j) = ro at *
          go_wp2_with fail
          refine hrole.out.mono ?_
          rintro e V ⟨rfl, hBV⟩
          have p0 := cell_keep hBV p0
          have p1 := cell_keep hBV p1
          have p2 := cell_keep hBV p2
          have p3 := cell_keep hBV p3
          have p4 := cell_keep hBV p4
          have hOwn := Lib.hid (own_below hOwn.out hBV)
          have hB := Lib.hid (below_then hB.out hB.out.size hBV)
          clear hrole hBV pi hBw
          obtain ⟨bv, hbv⟩ : ∃ b, (ro == 0) = b := ⟨_, rfl⟩
          obtain ⟨bb, hbb⟩ : ∃ b, breaksB x = b := ⟨_, rfl⟩
          have hse2 : Hid (stripE l (nth ws j) x = if bv = false then [norm x] else if bb then [crashE] else []) := by
            have : stripE l (nth ws j) x = if bv = false then [norm x] else if bb then [crashE] else [] := by
              rw [hse.out, hbb, ← hbv]
              by_cases h : ro = 0
              · simp [h]
              · simp [h]
            exact this
          have hbbh := Lib.hid hbb
          clear hse hbb
          go_upto_region 17 with (fail)
          go_cut [15] (fun s15 wx => s15 = .bool bb ∧ wx = V)
          case first =>
            obtain ⟨b2, hb2⟩ : ∃ b, (x.kind == 2) = b := ⟨_, rfl⟩
            obtain ⟨b0, hb0⟩ : ∃ b, (x.kind == 0) = b := ⟨_, rfl⟩
            obtain ⟨xb, hxb⟩ : ∃ b, x.boom = b := ⟨_, rfl⟩
            rw [hxb] at p3
            have hb : Hid (bb = (b2 || (b0 && xb))) := by
              have e1 : decide (x.kind = 2) = b2 := by rw [← hb2]; rfl
              have e2 : decide (x.kind = 0) = b0 := by rw [← hb0]; rfl
              have : bb = (b2 || (b0 && xb)) := by rw [← hbbh.out]; unfold breaksB; rw [e1, e2, hxb]
              exact this
            clear hxb hbv
            cases b2 with
            | true =>
              clear hb0
              go_wp2
              go_meet
              exact ⟨by rw [hb.out]; rfl, rfl⟩
            | false =>
              cases b0 with
              | false =>
                go_wp2
                go_meet
                exact ⟨by rw [hb.out]; rfl, rfl⟩
              | true =>
                cases xb
                all_goals
                  go_wp2
                  go_meet
                  exact ⟨by rw [hb.out]; rfl, rfl⟩
          case rest =>
            obtain ⟨hq1, hq2⟩ := hcut
            subst hq1
            replace hq2 := hq2.symm
            subst hq2
            clear hbbh
            cases bv with
            | true =>
              cases bb with
              | false =>
                have hO := hO.out
                go_wp2
                refine ⟨⟨j + 1, kept, by omega, by go_num, by rw [hS.out, hst.out, hse2.out]; rfl, by omega, hOwn.out, hOk.out, hB.out⟩, by simp [intOf]; omega⟩
              | true =>
                have hO := hO.out
                go_wp2_with (at_builtin; go_must (refine wpList_app (w0 := W6) W6.heap.size rfl _ _ 23 rfl 42 (.agg #[.int .i64 0, .slice none 0 0, .int .u64 0, .bool false, .int .i64 0]) 5 56 Try.underlying23 info_ev rfl (by decide) (by decide) _ kept.length (evCells kept) _ 1 1 crashE.cells rfl rfl ?h21 ?h22 ?h23 ?h24 ?h25 ?h26 ?h27))
                case h21 => exact hOwn.out.alloc _
                case h22 => exact Row.new V 42 1 5 crashE.cells.toArray rfl (by decide)
                case h23 => exact Ev.one crashE
                case h24 => exact hB.out.alloc hB.out.size _
                case h25 => have := hB.out.size; simp; omega
                case h26 => omega
                case h27 =>
                intro v' W7 hown hB7 _ _
                obtain ⟨A8, c8, rfl, _⟩ := Row.of_own hown
                have hown := Lib.hid hown; have hB7 := Lib.hid hB7
                go_wp2
                refine ⟨⟨j + 1, kept ++ [crashE], by omega, by go_num, by rw [hS.out, hst.out, hse2.out]; simp [norm, crashE], by simp; omega, ?_, ?_, hB7.out⟩, by simp [intOf]; omega⟩
                · rw [evCells_app]; simpa [evCells] using hown.out
                · intro y hy
                  rcases List.mem_append.1 hy with hy | hy
                  · exact hOk.out y hy
                  · rw [List.mem_singleton.1 hy]; (exact ⟨Row.none_ _ 1, (fun z hz => by cases hz), by show u64B 0; unfold u64B; decide⟩)
            | false =>
              have hO := hO.out
              go_wp2_with (at_builtin; go_must (refine wpList_app (w0 := W6) W6.heap.size rfl _ _ 23 rfl 42 (.agg #[.int .i64 0, .slice none 0 0, .int .u64 0, .bool false, .int .i64 0]) 5 56 Try.underlying23 info_ev rfl (by decide) (by decide) _ kept.length (evCells kept) _ 1 1 x.cells rfl rfl ?h31 ?h32 ?h33 ?h34 ?h35 ?h36 ?h37))
              case h31 => exact hOwn.out.alloc _
              case h32 => exact Row.new V 42 1 5 x.cells.toArray rfl (by decide)
              case h33 => exact Ev.one x
              case h34 => exact hB.out.alloc hB.out.size _
              case h35 => have := hB.out.size; simp; omega
              case h36 => omega
              case h37 =>
              intro v' W7 hown hB7 _ _
              obtain ⟨A8, c8, rfl, _⟩ := Row.of_own hown
              have hown := Lib.hid hown; have hB7 := Lib.hid hB7
              go_wp2
              refine ⟨⟨j + 1, kept ++ [x], by omega, by go_num, by rw [hS.out, hst.out, hse2.out]; simp [norm, crashE], by simp; omega, ?_, ?_, hB7.out⟩, by simp [intOf]; omega⟩
              · rw [evCells_app]; simpa [evCells] using hown.out
              · intro y hy
                rcases List.mem_append.1 hy with hy | hy
                · exact hOk.out y hy
                · rw [List.mem_singleton.1 hy]; (exact hxo.out)
        · obtain rfl : j = m := by omega
          have hfin := hS.out
          rw [List.drop_of_length_le (l := es) (by rw [hel.out]; exact Nat.le_refl _)] at hfin
          have hfin : Hid (out.map norm = kept.map norm) := by
            have : out.map norm = kept.map norm := by
              rw [hout.out, hfin]
              cases ws.drop j <;> simp [stripN]
            exact this
          have hsame := Lib.hid (sameE_norm out kept hfin.out)
          have hEk : Hid (Evs wr A7 kept.length c7 kept) := by
            obtain ⟨A9, c9, he, hR⟩ := Row.of_own hOwn.out
            injection he with e1 _ e3
            subst e1; subst e3
            exact Evs.mk hR (fun y hy => (hOk.out y hy).below hBw.out)
          have hE4 := Lib.hid (hE4.out.below hB.out)
          have q0 := cell_keep hB.out q0
          have q1 := cell_keep hB.out q1
          have q2 := cell_keep hB.out q2
          have q3 := cell_keep hB.out q3
          clear hOwn hOk hS hfin
          go_wp2_with fail
          refine (ref_same A4 A7 out.length kept.length c4 c7 out kept wr hE4.out hEk.out).mono ?_
          rintro e W8 ⟨rfl, hB8⟩
          rw [hsame.out]
          have hE4 := Lib.hid (hE4.out.below hB8)
          have q0 := cell_keep hB8 q0
          have q1 := cell_keep hB8 q1
          have q2 := cell_keep hB8 q2
          have q3 := cell_keep hB8 q3
          have hB8w := Lib.hid (below_then hBw.out hBw.out.size hB8)
          clear hB8 hEk
          go_wp2_with fail
          refine (part_whose A n cap l (.slice none 0 0) 0 0 A4 out.length c4 out W8 (hU.out.below hB8w.out) hE4.out (by omega) rfl).mono ?_
          rintro e W9 ⟨v9, rfl, hv9, hB9⟩
          obtain ⟨A9, c9, rfl, hR9⟩ := Row.of_own hv9
          have g91 := hR9.le; have g92 := hR9.capLe
          have hB9w := Lib.hid (below_then hB8w.out hB8w.out.size hB9)
          have hno : Hid (∀ x ∈ whoseL l [] out, roleU l x ≠ 0) := hlw.out.1
          have hwl : Hid ((whoseL l [] out).length = out.length) := whoseL_len l out []
          have hR9 := Lib.hid hR9
          clear hv9 hB9 hB8w hlw hsame
          generalize whoseL l [] out = xs at *
          go_wp2
          go_loopw [18] (fun i wr => ∃ j : Nat, j ≤ out.length ∧ i = .int .i64 j ∧ Below W9.heap.size W9 wr) (fun i _ => out.length - (intOf i).toNat)
          case atStart => exact ⟨0, Nat.zero_le _, rfl, Below.refl _ _⟩
          case round =>
            obtain ⟨i, hi, rfl, hBi⟩ := hrel
            have hBi := Lib.hid hBi
            by_cases hin : i < out.length
            · obtain ⟨xb, xoff, rfl, hxc⟩ := hR9.out.ints64 (by omega)
              have pj := cell_keep hBi.out (hxc i hin)
              have hr0 := hno.out (nth xs i) (mem_of_nth xs i (by rw [hwl.out]; exact hin))
              have hrole := Lib.hid (user_role A n cap l (nth xs i) wr (hU.out.below (below_then hB9w.out hB9w.out.size hBi.out)))
              generalize roleU l (nth xs i) = r at *
              have hr1 : (r == 0) = false := by simpa using hr0
              clear hxc hr0
              go_wp2_with (go_at_call 17; refine hrole.out.mono ?_; rintro e V2 ⟨rfl, hV2⟩; have hBi := Lib.hid (below_then hBi.out hBi.out.size hV2))
              refine ⟨⟨i + 1, by omega, by go_num, hBi.out⟩, by simp [intOf]; omega⟩
            · obtain rfl : i = out.length := by omega
              go_wp2
              go_ret
              exact ⟨rfl, below_then hB9w.out hB9w.out.size hBi.out⟩
end Go.Proofs.Ytfdlfkdefbfhfaa
