import Derived.Test.YtfdlfkdefbfhfaaPure
import Derived.Test.YtfdlfkdefbfhfaaWd
set_option linter.unusedVariables false
set_option linter.unusedSimpArgs false
namespace Go.Proofs.Ytfdlfkdefbfhfaa
open Go.RowKit

set_option maxRecDepth 100000 in
set_option maxHeartbeats 4000000 in
theorem law_users (A : Option Addr) (n cap : Nat) (l : List Usr) (E : Option Addr) (m ecap : Nat) (es : List Ev) (k : Int) (w : World) (HU : Usrs w A n cap l) (HE : Evs w E m ecap es) (hk1 : -9223372036854775808 ≤ k) (hk2 : k ≤ 9223372036854775807) :
    Calls Try.prog 3 #[.slice A n cap, .slice E m ecap, .int .i64 k] w (Done w) := by
  (
    have hB0 := fun W (_ : Below w.heap.size w W) => True
    have hfu := Lib.hid (fun W (HB : Below w.heap.size w W) => few_users A n cap l W (HU.below HB))
    have hfe := Lib.hid (fun W (HB : Below w.heap.size w W) => few_evs E m ecap es 40 W (HE.below HB) (by decide))
    obtain ⟨bu, hbu⟩ : ∃ b, fewU l = b := ⟨_, rfl⟩
    obtain ⟨be, hbe⟩ : ∃ b, fewE es 40 = b := ⟨_, rfl⟩
    rw [hbu] at hfu
    rw [hbe] at hfe
    clear hB0)
  have hm1 := HE.row.le
  have hm2 := HE.row.capLe
  cases bu with
  | false => (
    clear hbu hbe HU HE
    go_enter Try.func3, Try.ntmps3
    go_wp2_with (first | (go_at_call 8; refine (awake_any _).mono ?_; rintro e W1 ⟨rfl, hB1⟩; have hB1 := Lib.hid hB1) | (go_at_call 9; refine (hfu.out _ hB1.out).mono ?_; rintro e W2 ⟨rfl, hq⟩; replace hq := hq.symm; subst hq) | (go_at_call 10; refine (hfe.out _ hB1.out).mono ?_; rintro e W2 ⟨rfl, hq⟩; replace hq := hq.symm; subst hq))
    go_ret
    exact ⟨rfl, hB1.out⟩)
  | true =>
    cases be with
    | false => (
      clear hbu hbe HU HE
      go_enter Try.func3, Try.ntmps3
      go_wp2_with (first | (go_at_call 8; refine (awake_any _).mono ?_; rintro e W1 ⟨rfl, hB1⟩; have hB1 := Lib.hid hB1) | (go_at_call 9; refine (hfu.out _ hB1.out).mono ?_; rintro e W2 ⟨rfl, hq⟩; replace hq := hq.symm; subst hq) | (go_at_call 10; refine (hfe.out _ hB1.out).mono ?_; rintro e W2 ⟨rfl, hq⟩; replace hq := hq.symm; subst hq))
      go_ret
      exact ⟨rfl, hB1.out⟩)
    | true =>
      have hm := fewE_len es 40 hbe
      rw [HE.len] at hm
      by_cases h0 : k < 0
      · (
        clear hbu hbe HU HE
        go_enter Try.func3, Try.ntmps3
        go_wp2_with (first | (go_at_call 8; refine (awake_any _).mono ?_; rintro e W1 ⟨rfl, hB1⟩; have hB1 := Lib.hid hB1) | (go_at_call 9; refine (hfu.out _ hB1.out).mono ?_; rintro e W2 ⟨rfl, hq⟩; replace hq := hq.symm; subst hq) | (go_at_call 10; refine (hfe.out _ hB1.out).mono ?_; rintro e W2 ⟨rfl, hq⟩; replace hq := hq.symm; subst hq))
        go_ret
        exact ⟨rfl, hB1.out⟩)
      · obtain ⟨k, rfl⟩ := Int.eq_ofNat_of_zero_le (show 0 ≤ k by omega)
        by_cases h1 : k ≥ (m : Int)
        · (
          clear hbu hbe HU HE
          go_enter Try.func3, Try.ntmps3
          go_wp2_with (first | (go_at_call 8; refine (awake_any _).mono ?_; rintro e W1 ⟨rfl, hB1⟩; have hB1 := Lib.hid hB1) | (go_at_call 9; refine (hfu.out _ hB1.out).mono ?_; rintro e W2 ⟨rfl, hq⟩; replace hq := hq.symm; subst hq) | (go_at_call 10; refine (hfe.out _ hB1.out).mono ?_; rintro e W2 ⟨rfl, hq⟩; replace hq := hq.symm; subst hq))
          go_ret
          exact ⟨rfl, hB1.out⟩)
        · obtain ⟨x, hx⟩ : ∃ x, es[k]? = some x := ⟨_, List.getElem?_eq_getElem (by rw [HE.len]; omega)⟩
          have hlaw := Lib.hid (users_law l es k x hx)
          have hU := Lib.hid HU; have hE := Lib.hid HE
          obtain ⟨eb, eoff, rfl, hcc⟩ := HE.row.cell (by omega)
          have p0 := hcc _ _ (evCells_at es k x hx 0 _ rfl)
          have p1 := hcc _ _ (evCells_at es k x hx 1 _ rfl)
          simp only [Nat.add_zero, ← Nat.add_assoc] at p0 p1
          have hxo := Lib.hid (HE.ok x (List.mem_of_getElem? hx))
          clear hbu hbe HU HE h0 hcc hx
          go_enter Try.func3, Try.ntmps3
          go_wp2_with (first | (go_at_call 8; refine (awake_any _).mono ?_; rintro e W1 ⟨rfl, hB1⟩; have hB1 := Lib.hid hB1) | (go_at_call 9; refine (hfu.out _ hB1.out).mono ?_; rintro e W2 ⟨rfl, hq⟩; replace hq := hq.symm; subst hq) | (go_at_call 10; refine (hfe.out _ hB1.out).mono ?_; rintro e W2 ⟨rfl, hq⟩; replace hq := hq.symm; subst hq))
          refine (part_whose A n cap l (.slice none 0 0) 0 0 _ m ecap es W1 (hU.out.below hB1.out) (hE.out.below hB1.out) (by omega) rfl).mono ?_
          rintro e W2 ⟨v2, rfl, hv2, hB2⟩
          obtain ⟨A2, c2, rfl, hR2⟩ := Row.of_own hv2
          have hBB := Lib.hid (below_then hB1.out hB1.out.size hB2)
          obtain ⟨ib, ioff, rfl, hic⟩ := hR2.ints64 (by omega)
          have pi := hic k (by omega)
          have g1 := hR2.le; have g2 := hR2.capLe
          have p0 := cell_keep hBB.out p0
          have p1 := cell_keep hBB.out p1
          clear hv2 hB2 hB1 hic hR2 hE hfu hfe
          generalize nth (whoseL l [] es) k = wi at *
          go_wp2_with fail
          refine (frame_read x.rA x.rn x.rcap x.raw W2 (hxo.out.row.below hBB.out) hxo.out.bytes).mono ?_
          rintro e W3 ⟨rfl, hB3⟩
          have hwfr := Lib.hid (readF_wf x.raw hxo.out.bytes)
          have p0 := cell_keep hB3 p0
          have pi := cell_keep hB3 pi
          have hBB := Lib.hid (below_then hBB.out hBB.out.size hB3)
          have hL0 := Lib.hid (fC_len (kindF 0) rfl)
          clear hB3 p1
          generalize readF x.raw = rf at *
          obtain ⟨F, er⟩ := rf
          simp only at hwfr hlaw ⊢
          have hfl := Lib.hid (fC_len F hwfr.out.1.1)
          have sB := hBB.out.size
          go_wp2_with (refine wpList_allocS (w0 := w) w.heap.size rfl 36 rfl (fC (kindF 0)) _ zero_frame rfl hBB.out (by omega) ?h1)
          case h1 =>
          intro W4 b4 k4 B4 s4
          go_wp2_with (refine wpList_storeW (w0 := w) w.heap.size rfl 36 _ _ rfl _ 0 rfl (fC F) rfl (by rw [hfl.out]; exact size_frame) (fC_one _) 36 (fC (kindF 0)) b4 (by rw [hL0.out, hfl.out]; decide) B4 (by omega) (fC F) (by simp [hL0.out, hfl.out]) ?h2)
          case h2 =>
          intro W5 b5 k5 B5 s5
          have f0 : W5.cell? ⟨W3.heap.size, 0, none⟩ = some (.int .i64 F.kind) := b5.cell 0
          have f1 : W5.cell? ⟨W3.heap.size, 1, none⟩ = some (.int .i64 F.user) := b5.cell 1
          have i3 := World.block_lt_of_cell? W3 _ pi
          have i0 := World.block_lt_of_cell? W3 _ p0
          simp only at i3 i0
          have pi := (grown_trans (grown_of_none k4 (some W3.heap.size)) k5).cell pi (by simp; omega)
          have p0 := (grown_trans (grown_of_none k4 (some W3.heap.size)) k5).cell p0 (by simp; omega)
          have hB5 := Lib.hid B5
          clear b4 k4 B4 s4 b5 k5 B5 s5 sB hBB hL0 hfl hwfr i3 i0
          have hfd := Lib.hid (fun (z : Int) W (HB : Below w.heap.size w W) => user_find A n cap l z W (hU.out.below HB))
          generalize W3.heap.size = fb at *
          clear hU
          obtain ⟨bk, hbk⟩ : ∃ b, (x.kind == 0) = b := ⟨_, rfl⟩
          obtain ⟨be, hbe⟩ : ∃ b, (er == 0) = b := ⟨_, rfl⟩
          obtain ⟨bf, hbf⟩ : ∃ b, (F.kind == 0) = b := ⟨_, rfl⟩
          obtain ⟨bw, hbw⟩ : ∃ b, (wi != 0) = b := ⟨_, rfl⟩
          obtain ⟨L1, L2, L3⟩ := hlaw.out
          clear hlaw
          have s5 := hB5.out.size
          cases bk with
          | false =>
            have hw0 : wi = 0 := L1 (fun h => by rw [h.1] at hbk; simp at hbk)
            subst hw0
            have hbw : ((0 : Int) != 0) = false := rfl
            clear L1 L2 L3 hbe hbf
            (
              go_wp2
              go_quiet (fail)
              go_wp2
              go_ret
              exact ⟨rfl, hB5.out.trans ((below_drewN _ _).mono hB5.out.size)⟩)
          | true =>
            cases be with
            | false =>
              have hw0 : wi = 0 := L1 (fun h => by rw [h.2] at hbe; simp at hbe)
              subst hw0
              have hbw : ((0 : Int) != 0) = false := rfl
              clear L1 L2 L3 hbf
              (
                go_wp2
                go_quiet (fail)
                go_wp2
                go_ret
                exact ⟨rfl, hB5.out.trans ((below_drewN _ _).mono hB5.out.size)⟩)
            | true =>
              have hk0 : x.kind = 0 := by simpa using hbk
              have he0 : er = 0 := by simpa using hbe
              have L3 := fun h => L3 ⟨⟨hk0, he0⟩, h⟩
              clear L1 hk0 he0
              cases bf with
              | false =>
                clear L3
                cases bw with
                | false =>
                  clear L2
                  (
                    go_wp2
                    go_quiet (fail)
                    go_wp2
                    go_ret
                    exact ⟨rfl, hB5.out.trans ((below_drewN _ _).mono hB5.out.size)⟩)
                | true =>
                  have L2 := L2 (by simpa using hbw)
                  have hfw : Hid (∀ W, Below w.heap.size w W → Calls Try.prog 13 #[.slice A n cap, .int .i64 wi] W fun e w' => e = .returned (.int .i64 (findU l wi)) ∧ Below W.heap.size W w') := fun W HB => hfd.out wi W HB
                  generalize findU l wi = fw at *
                  (
                    go_wp2_with (go_at_call 13; refine (hfw.out _ hB5.out).mono ?_; rintro e W6 ⟨rfl, hB6⟩; have hB6 := Lib.hid (below_then hB5.out hB5.out.size hB6))
                    go_quiet (fail)
                    go_wp2
                    go_ret
                    exact ⟨rfl, hB6.out.trans ((below_drewN _ _).mono hB6.out.size)⟩)
              | true =>
                have L3 := L3 (by simpa using hbf)
                have hfu' : Hid (∀ W, Below w.heap.size w W → Calls Try.prog 13 #[.slice A n cap, .int .i64 F.user] W fun e w' => e = .returned (.int .i64 (findU l F.user)) ∧ Below W.heap.size W w') := fun W HB => hfd.out F.user W HB
                have ib5 := World.block_lt_of_cell? W5 _ pi
                have fb5 := World.block_lt_of_cell? W5 _ f1
                simp only at ib5 fb5
                rcases L3 with ⟨h3, h4⟩ | ⟨h3, h4⟩
                · subst h4
                  clear L2
                  generalize findU l F.user = fu at *
                  have hd1 : decide (0 ≤ fu) = true := by simp; omega
                  have hd2 : decide (fu < 0) = false := by simp; omega
                  have hq : (F.user == F.user) = true := by simp
                  have hlt : ¬ fu < 0 := by omega
                  clear h3
                  cases bw with
                  | false =>
                    go_wp2
                    have f1z : ∀ z : Wd W5, z.w.cell? ⟨fb, 1, none⟩ = some (.int .i64 F.user) := fun z => z.cell f1
                    have piz : ∀ z : Wd W5, z.w.cell? ⟨ib, ioff + k, none⟩ = some (.int .i64 F.user) := fun z => z.cell pi
                    (
                      refine wp_region_wd (by kernel_rfl) (by kernel_rfl) ?_
                      repeat (go_big_quiet_step ((go_at_call 13; exact Calls.wd (hfu'.out _ (hB5.out.trans ((Wd.below _).mono hB5.out.size))))))
                      refine wpQuiet_nil ?_
                      intro _ hw'
                      obtain ⟨z, hw''⟩ := hw'
                      subst hw''
                      go_wp2
                      go_ret
                      exact ⟨rfl, hB5.out.trans (z.below.mono hB5.out.size)⟩)
                  | true =>
                    go_wp2_with (go_at_call 13; refine (hfu'.out _ hB5.out).mono ?_; rintro e W6 ⟨rfl, hB6⟩; have f1 := cell_keep hB6 f1; have pi := cell_keep hB6 pi; have s5 := hB6.size; have hB5 := Lib.hid (below_then hB5.out hB5.out.size hB6))
                    have f1z : ∀ z : Wd W6, z.w.cell? ⟨fb, 1, none⟩ = some (.int .i64 F.user) := fun z => z.cell f1
                    have piz : ∀ z : Wd W6, z.w.cell? ⟨ib, ioff + k, none⟩ = some (.int .i64 F.user) := fun z => z.cell pi
                    (
                      refine wp_region_wd (by kernel_rfl) (by kernel_rfl) ?_
                      repeat (go_big_quiet_step ((go_at_call 13; exact Calls.wd (hfu'.out _ (hB5.out.trans ((Wd.below _).mono hB5.out.size))))))
                      refine wpQuiet_nil ?_
                      intro _ hw'
                      obtain ⟨z, hw''⟩ := hw'
                      subst hw''
                      go_wp2
                      go_ret
                      exact ⟨rfl, hB5.out.trans (z.below.mono hB5.out.size)⟩)
                · subst h4
                  have hbw : ((0 : Int) != 0) = false := rfl
                  clear L2
                  generalize findU l F.user = fu at *
                  go_wp2
                  have hd1 : decide (0 ≤ fu) = false := by simp; omega
                  have hd2 : decide (fu < 0) = true := by simp; omega
                  clear h3
                  have f1z : ∀ z : Wd W5, z.w.cell? ⟨fb, 1, none⟩ = some (.int .i64 F.user) := fun z => z.cell f1
                  have piz : ∀ z : Wd W5, z.w.cell? ⟨ib, ioff + k, none⟩ = some (.int .i64 0) := fun z => z.cell pi
                  (
                    refine wp_region_wd (by kernel_rfl) (by kernel_rfl) ?_
                    repeat (go_big_quiet_step ((go_at_call 13; exact Calls.wd (hfu'.out _ (hB5.out.trans ((Wd.below _).mono hB5.out.size))))))
                    refine wpQuiet_nil ?_
                    intro _ hw'
                    obtain ⟨z, hw''⟩ := hw'
                    subst hw''
                    go_wp2
                    go_ret
                    exact ⟨rfl, hB5.out.trans (z.below.mono hB5.out.size)⟩)
end Go.Proofs.Ytfdlfkdefbfhfaa
