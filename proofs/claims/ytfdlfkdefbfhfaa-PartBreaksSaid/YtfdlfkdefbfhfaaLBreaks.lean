import Derived.Test.YtfdlfkdefbfhfaaPure
import Derived.Test.YtfdlfkdefbfhfaaWd
set_option linter.unusedVariables false
set_option linter.unusedSimpArgs false
namespace Go.Proofs.Ytfdlfkdefbfhfaa
open Go.RowKit

theorem evCells_one (l : List Ev) : ∀ u ∈ evCells l, u.oneCell' = true := by
  intro u hu
  obtain ⟨e, _, he⟩ := List.mem_flatMap.1 hu
  exact Ev.one e u he
set_option maxRecDepth 100000 in
set_option maxHeartbeats 4000000 in
theorem law_breaks (A : Option Addr) (n cap : Nat) (l : List Usr) (E : Option Addr) (m ecap : Nat) (es : List Ev) (f : Frm) (w : World) (HU : Usrs w A n cap l) (HE : Evs w E m ecap es) (hf : FrmWf f) :
    Calls Try.prog 6 #[.slice A n cap, .slice E m ecap, .agg (fC f).toArray] w (Done w) := by
  have hB0 := fun W (_ : Below w.heap.size w W) => True
  have hfu := Lib.hid (fun W (HB : Below w.heap.size w W) => few_users A n cap l W (HU.below HB))
  have hfe := Lib.hid (fun W (HB : Below w.heap.size w W) => few_evs E m ecap es 40 W (HE.below HB) (by decide))
  obtain ⟨bu, hbu⟩ : ∃ b, fewU l = b := ⟨_, rfl⟩
  obtain ⟨be, hbe⟩ : ∃ b, fewE es 40 = b := ⟨_, rfl⟩
  rw [hbu] at hfu
  rw [hbe] at hfe
  clear hB0
  have hfl := Lib.hid (fC_len f hf.1.1)
  have hm1 := HE.row.le
  have hm2 := HE.row.capLe
  cases hp : plainB f with
  | false =>
    have hput := Lib.hid (fun W => frame_put_f f W hf hp)
    have hpb : Hid (∀ (e : Ending) (W W' : World), (e = .returned (.tuple #[.slice none 0 0, .bool false]) ∧ Below W.heap.size W W') → Below W.heap.size W W') := fun _ _ _ h => h.2
    clear hbu hbe HU HE hf hp
    cases bu <;> cases be
    all_goals
      go_enter Try.func6, Try.ntmps6
      go_wp2_with (refine wpList_boxS (w0 := w) w.heap.size rfl 36 _ rfl (fC f) rfl (Below.refl _ _) (Nat.le_refl _) ?h1)
      case h1 =>
      intro W0 b0 k0 B0 s0
      have b0 := Lib.hid b0; have B0 := Lib.hid B0
      clear k0
      go_wp2_with fail
      refine (awake_any _).mono ?_; rintro e W1 ⟨rfl, hq⟩; have b0 := Lib.hid (b0.out.belowS hq); have hB1 := Lib.hid (below_then B0.out (by omega) hq); clear hq B0 s0
      go_wp2_with fail
      refine (hfu.out _ hB1.out).mono ?_; rintro e W2 ⟨rfl, hq⟩; replace hq := hq.symm; subst hq
      go_wp2_with fail
      refine (hfe.out _ hB1.out).mono ?_; rintro e W2 ⟨rfl, hq⟩; replace hq := hq.symm; subst hq
      go_wp2_with (refine wpList_loadS rfl 36 _ rfl w.heap.size 0 rfl _ Try.underlying36 rfl (fC f) (by rw [hfl.out]; exact size_frame) (fun j u hu => by rw [Nat.zero_add, b0.out.cell]; exact hu) ?_)
      refine (hput.out _).mono ?_; rintro e W3 hpost; have b0 := Lib.hid (b0.out.belowS (hpb.out _ _ _ hpost)); have hB3 := Lib.hid (below_then hB1.out hB1.out.size (hpb.out _ _ _ hpost)); have f0 : W3.cell? ⟨w.heap.size, 0, none⟩ = some (.int .i64 f.kind) := b0.out.cell 0
      (obtain ⟨rfl, hq⟩ := hpost; clear hq)
      go_wp2
      go_ret
      exact ⟨rfl, hB3.out⟩
  | true =>
    have hput := Lib.hid (fun W => frame_put_t f W hf hp)
    have hpb : Hid (∀ (e : Ending) (W W' : World), (∃ A c, e = .returned (.tuple #[.slice A (putF f).length c, .bool true]) ∧ Row W' A (putF f).length c 1 (nums .u8 (putF f)) ∧ Below W.heap.size W W') → Below W.heap.size W W') := fun _ _ _ ⟨_, _, _, _, h⟩ => h
    cases bu with
    | false =>
      clear hbu hbe HU HE hf hp
      go_enter Try.func6, Try.ntmps6
      go_wp2_with (refine wpList_boxS (w0 := w) w.heap.size rfl 36 _ rfl (fC f) rfl (Below.refl _ _) (Nat.le_refl _) ?h1)
      case h1 =>
      intro W0 b0 k0 B0 s0
      have b0 := Lib.hid b0; have B0 := Lib.hid B0
      clear k0
      go_wp2_with fail
      refine (awake_any _).mono ?_; rintro e W1 ⟨rfl, hq⟩; have b0 := Lib.hid (b0.out.belowS hq); have hB1 := Lib.hid (below_then B0.out (by omega) hq); clear hq B0 s0
      go_wp2_with fail
      refine (hfu.out _ hB1.out).mono ?_; rintro e W2 ⟨rfl, hq⟩; replace hq := hq.symm; subst hq
      go_wp2_with fail
      refine (hfe.out _ hB1.out).mono ?_; rintro e W2 ⟨rfl, hq⟩; replace hq := hq.symm; subst hq
      go_wp2_with (refine wpList_loadS rfl 36 _ rfl w.heap.size 0 rfl _ Try.underlying36 rfl (fC f) (by rw [hfl.out]; exact size_frame) (fun j u hu => by rw [Nat.zero_add, b0.out.cell]; exact hu) ?_)
      refine (hput.out _).mono ?_; rintro e W3 hpost; have b0 := Lib.hid (b0.out.belowS (hpb.out _ _ _ hpost)); have hB3 := Lib.hid (below_then hB1.out hB1.out.size (hpb.out _ _ _ hpost)); have f0 : W3.cell? ⟨w.heap.size, 0, none⟩ = some (.int .i64 f.kind) := b0.out.cell 0
      (obtain ⟨PA, pc, rfl, hP, hq⟩ := hpost; have hP := Lib.hid hP; clear hq)
      go_wp2
      go_ret
      exact ⟨rfl, hB3.out⟩
    | true =>
      cases be with
      | false =>
        clear hbu hbe HU HE hf hp
        go_enter Try.func6, Try.ntmps6
        go_wp2_with (refine wpList_boxS (w0 := w) w.heap.size rfl 36 _ rfl (fC f) rfl (Below.refl _ _) (Nat.le_refl _) ?h1)
        case h1 =>
        intro W0 b0 k0 B0 s0
        have b0 := Lib.hid b0; have B0 := Lib.hid B0
        clear k0
        go_wp2_with fail
        refine (awake_any _).mono ?_; rintro e W1 ⟨rfl, hq⟩; have b0 := Lib.hid (b0.out.belowS hq); have hB1 := Lib.hid (below_then B0.out (by omega) hq); clear hq B0 s0
        go_wp2_with fail
        refine (hfu.out _ hB1.out).mono ?_; rintro e W2 ⟨rfl, hq⟩; replace hq := hq.symm; subst hq
        go_wp2_with fail
        refine (hfe.out _ hB1.out).mono ?_; rintro e W2 ⟨rfl, hq⟩; replace hq := hq.symm; subst hq
        go_wp2_with (refine wpList_loadS rfl 36 _ rfl w.heap.size 0 rfl _ Try.underlying36 rfl (fC f) (by rw [hfl.out]; exact size_frame) (fun j u hu => by rw [Nat.zero_add, b0.out.cell]; exact hu) ?_)
        refine (hput.out _).mono ?_; rintro e W3 hpost; have b0 := Lib.hid (b0.out.belowS (hpb.out _ _ _ hpost)); have hB3 := Lib.hid (below_then hB1.out hB1.out.size (hpb.out _ _ _ hpost)); have f0 : W3.cell? ⟨w.heap.size, 0, none⟩ = some (.int .i64 f.kind) := b0.out.cell 0
        (obtain ⟨PA, pc, rfl, hP, hq⟩ := hpost; have hP := Lib.hid hP; clear hq)
        go_wp2
        go_ret
        exact ⟨rfl, hB3.out⟩
      | true =>
        have hm := fewE_len es 40 hbe
        rw [HE.len] at hm
        have hkd := Lib.hid (putF_kind f hp)
        have hpl := Lib.hid (putF_bytes f hf)
        have hU := Lib.hid HU; have hE := Lib.hid HE
        have hel := Lib.hid HE.len
        clear hbu hbe HU HE hf hp
        by_cases hk : f.kind = 2 ∨ f.kind = 4
        · have hlaw := fun e0 (h1 : e0.raw = putF f) (h2 : e0.kind = 0) => Lib.hid (breaks_law l es e0 f.kind (by rw [h1]; exact hkd.out) hk h2)
          have hlaw := Lib.hid hlaw
          generalize hlen : (putF f).length = pn at *
          have hlen := Lib.hid hlen
          obtain ⟨b2, hb2⟩ : ∃ b, (f.kind != 2) = b := ⟨_, rfl⟩
          obtain ⟨b4, hb4⟩ : ∃ b, (f.kind != 4) = b := ⟨_, rfl⟩
          have hbb : b2 = false ∨ b4 = false := by
            rcases hk with h | h
            · exact .inl (by rw [← hb2, h]; rfl)
            · exact .inr (by rw [← hb4, h]; rfl)
          clear hk
          have hmain : True := trivial
          rcases hbb with rfl | rfl
          · go_enter Try.func6, Try.ntmps6
            go_wp2_with (refine wpList_boxS (w0 := w) w.heap.size rfl 36 _ rfl (fC f) rfl (Below.refl _ _) (Nat.le_refl _) ?h1)
            case h1 =>
            intro W0 b0 k0 B0 s0
            have b0 := Lib.hid b0; have B0 := Lib.hid B0
            clear k0
            go_wp2_with fail
            refine (awake_any _).mono ?_; rintro e W1 ⟨rfl, hq⟩; have b0 := Lib.hid (b0.out.belowS hq); have hB1 := Lib.hid (below_then B0.out (by omega) hq); clear hq B0 s0
            go_wp2_with fail
            refine (hfu.out _ hB1.out).mono ?_; rintro e W2 ⟨rfl, hq⟩; replace hq := hq.symm; subst hq
            go_wp2_with fail
            refine (hfe.out _ hB1.out).mono ?_; rintro e W2 ⟨rfl, hq⟩; replace hq := hq.symm; subst hq
            go_wp2_with (refine wpList_loadS rfl 36 _ rfl w.heap.size 0 rfl _ Try.underlying36 rfl (fC f) (by rw [hfl.out]; exact size_frame) (fun j u hu => by rw [Nat.zero_add, b0.out.cell]; exact hu) ?_)
            refine (hput.out _).mono ?_; rintro e W3 hpost; have b0 := Lib.hid (b0.out.belowS (hpb.out _ _ _ hpost)); have hB3 := Lib.hid (below_then hB1.out hB1.out.size (hpb.out _ _ _ hpost)); have f0 : W3.cell? ⟨w.heap.size, 0, none⟩ = some (.int .i64 f.kind) := b0.out.cell 0
            (obtain ⟨PA, pc, rfl, hP, hq⟩ := hpost; have hP := Lib.hid hP; clear hq)
            go_wp2_with (at_builtin; go_must (refine wpList_app (w0 := W3) W3.heap.size rfl _ _ 23 rfl 42 (.agg #[.int .i64 0, .slice none 0 0, .int .u64 0, .bool false, .int .i64 0]) 5 56 Try.underlying23 info_ev rfl (by decide) (by decide) _ 0 [] _ m ecap (evCells es) rfl rfl (World.ownsRow_nil _ _ _ _) (hE.out.row.below hB3.out) (evCells_one _) (Below.refl _ _) (Nat.le_refl _) ?h15 ?h16))
            case h15 => omega
            case h16 =>
            intro v4 W4 hv4 hB4 _ _
            obtain ⟨A4, c4, rfl, _⟩ := Row.of_own hv4
            have hv4 := Lib.hid hv4; have hB4 := Lib.hid hB4
            go_wp2_with (at_builtin; go_must (refine wpList_app (w0 := W3) W3.heap.size rfl _ _ 23 rfl 42 (.agg #[.int .i64 0, .slice none 0 0, .int .u64 0, .bool false, .int .i64 0]) 5 56 Try.underlying23 info_ev rfl (by decide) (by decide) _ m (evCells es) _ 2 2 [.int .i64 2, .slice none 0 0, .int .u64 0, .bool false, .int .i64 0, .int .i64 0, .slice PA pn pc, .int .u64 0, .bool false, .int .i64 0] rfl rfl ?h21 ?h22 ?h23 ?h24 ?h25 ?h26 ?h27))
            case h21 => exact hv4.out.alloc _
            case h22 => simpa using Row.new W4 42 2 5 #[.int .i64 2, .slice none 0 0, .int .u64 0, .bool false, .int .i64 0, .int .i64 0, .slice PA pn pc, .int .u64 0, .bool false, .int .i64 0] rfl (by decide)
            case h23 => simp [Value.oneCell']
            case h24 => exact hB4.out.alloc hB4.out.size _
            case h25 => have := hB4.out.size; simp; omega
            case h26 => omega
            case h27 =>
            intro v5 W5 hv5 hB5 _ _
            obtain ⟨A5, c5, rfl, hR5⟩ := Row.of_own hv5
            have hok : ∀ y ∈ es ++ [crashE, (⟨0, PA, pn, pc, putF f, 0, false, 0⟩ : Ev)], EvOk W5 y := by
              intro y hy
              rcases List.mem_append.1 hy with hy | hy
              · exact (hE.out.ok y hy).below (below_then hB3.out hB3.out.size hB5)
              · simp only [List.mem_cons, List.not_mem_nil, or_false] at hy
                rcases hy with rfl | rfl
                · exact ⟨Row.none_ _ 1, (fun z hz => by cases hz), by show u64B 0; unfold u64B; decide⟩
                · exact ⟨hP.out.below hB5, hpl.out, by show u64B 0; unfold u64B; decide⟩
            have hE5 : Hid (Evs W5 A5 (m + 2) c5 (es ++ [crashE, (⟨0, PA, pn, pc, putF f, 0, false, 0⟩ : Ev)])) := ⟨by rw [evCells_app]; exact hR5, hok⟩
            have g1 := hR5.le; have g2 := hR5.capLe
            have hB5 := Lib.hid (below_then hB3.out hB3.out.size hB5)
            have hl5 := (hlaw.out ⟨0, PA, pn, pc, putF f, 0, false, 0⟩ rfl rfl).out
            rw [hel.out] at hl5
            have hl5 := Lib.hid hl5
            clear hok hR5 hv5 hv4 hB4 hP hpl hlaw b0 f0 hE
            go_wp2_with fail
            refine (part_whose A n cap l (.slice none 0 0) 0 0 _ (m + 2) c5 _ W5 (hU.out.below hB5.out) hE5.out (by omega) rfl).mono ?_
            rintro e W6 ⟨v6, rfl, hv6, hB6⟩
            obtain ⟨A6, c6, rfl, hR6⟩ := Row.of_own hv6
            obtain ⟨ib, ioff, rfl, hic⟩ := hR6.ints64 (by omega)
            have r0 := hic (m + 1) (by omega)
            have r1 := hic m (by omega)
            rw [hl5.out.1] at r0
            rw [hl5.out.2] at r1
            have g3 := hR6.le; have g4 := hR6.capLe
            have hB6 := Lib.hid (below_then hB5.out hB5.out.size hB6)
            clear hic hR6 hv6 hE5 hl5 hB5
            go_wp2
            go_ret
            exact ⟨rfl, hB6.out⟩
          · cases b2
            · go_enter Try.func6, Try.ntmps6
              go_wp2_with (refine wpList_boxS (w0 := w) w.heap.size rfl 36 _ rfl (fC f) rfl (Below.refl _ _) (Nat.le_refl _) ?h1)
              case h1 =>
              intro W0 b0 k0 B0 s0
              have b0 := Lib.hid b0; have B0 := Lib.hid B0
              clear k0
              go_wp2_with fail
              refine (awake_any _).mono ?_; rintro e W1 ⟨rfl, hq⟩; have b0 := Lib.hid (b0.out.belowS hq); have hB1 := Lib.hid (below_then B0.out (by omega) hq); clear hq B0 s0
              go_wp2_with fail
              refine (hfu.out _ hB1.out).mono ?_; rintro e W2 ⟨rfl, hq⟩; replace hq := hq.symm; subst hq
              go_wp2_with fail
              refine (hfe.out _ hB1.out).mono ?_; rintro e W2 ⟨rfl, hq⟩; replace hq := hq.symm; subst hq
              go_wp2_with (refine wpList_loadS rfl 36 _ rfl w.heap.size 0 rfl _ Try.underlying36 rfl (fC f) (by rw [hfl.out]; exact size_frame) (fun j u hu => by rw [Nat.zero_add, b0.out.cell]; exact hu) ?_)
              refine (hput.out _).mono ?_; rintro e W3 hpost; have b0 := Lib.hid (b0.out.belowS (hpb.out _ _ _ hpost)); have hB3 := Lib.hid (below_then hB1.out hB1.out.size (hpb.out _ _ _ hpost)); have f0 : W3.cell? ⟨w.heap.size, 0, none⟩ = some (.int .i64 f.kind) := b0.out.cell 0
              (obtain ⟨PA, pc, rfl, hP, hq⟩ := hpost; have hP := Lib.hid hP; clear hq)
              go_wp2_with (at_builtin; go_must (refine wpList_app (w0 := W3) W3.heap.size rfl _ _ 23 rfl 42 (.agg #[.int .i64 0, .slice none 0 0, .int .u64 0, .bool false, .int .i64 0]) 5 56 Try.underlying23 info_ev rfl (by decide) (by decide) _ 0 [] _ m ecap (evCells es) rfl rfl (World.ownsRow_nil _ _ _ _) (hE.out.row.below hB3.out) (evCells_one _) (Below.refl _ _) (Nat.le_refl _) ?h15 ?h16))
              case h15 => omega
              case h16 =>
              intro v4 W4 hv4 hB4 _ _
              obtain ⟨A4, c4, rfl, _⟩ := Row.of_own hv4
              have hv4 := Lib.hid hv4; have hB4 := Lib.hid hB4
              go_wp2_with (at_builtin; go_must (refine wpList_app (w0 := W3) W3.heap.size rfl _ _ 23 rfl 42 (.agg #[.int .i64 0, .slice none 0 0, .int .u64 0, .bool false, .int .i64 0]) 5 56 Try.underlying23 info_ev rfl (by decide) (by decide) _ m (evCells es) _ 2 2 [.int .i64 2, .slice none 0 0, .int .u64 0, .bool false, .int .i64 0, .int .i64 0, .slice PA pn pc, .int .u64 0, .bool false, .int .i64 0] rfl rfl ?h21 ?h22 ?h23 ?h24 ?h25 ?h26 ?h27))
              case h21 => exact hv4.out.alloc _
              case h22 => simpa using Row.new W4 42 2 5 #[.int .i64 2, .slice none 0 0, .int .u64 0, .bool false, .int .i64 0, .int .i64 0, .slice PA pn pc, .int .u64 0, .bool false, .int .i64 0] rfl (by decide)
              case h23 => simp [Value.oneCell']
              case h24 => exact hB4.out.alloc hB4.out.size _
              case h25 => have := hB4.out.size; simp; omega
              case h26 => omega
              case h27 =>
              intro v5 W5 hv5 hB5 _ _
              obtain ⟨A5, c5, rfl, hR5⟩ := Row.of_own hv5
              have hok : ∀ y ∈ es ++ [crashE, (⟨0, PA, pn, pc, putF f, 0, false, 0⟩ : Ev)], EvOk W5 y := by
                intro y hy
                rcases List.mem_append.1 hy with hy | hy
                · exact (hE.out.ok y hy).below (below_then hB3.out hB3.out.size hB5)
                · simp only [List.mem_cons, List.not_mem_nil, or_false] at hy
                  rcases hy with rfl | rfl
                  · exact ⟨Row.none_ _ 1, (fun z hz => by cases hz), by show u64B 0; unfold u64B; decide⟩
                  · exact ⟨hP.out.below hB5, hpl.out, by show u64B 0; unfold u64B; decide⟩
              have hE5 : Hid (Evs W5 A5 (m + 2) c5 (es ++ [crashE, (⟨0, PA, pn, pc, putF f, 0, false, 0⟩ : Ev)])) := ⟨by rw [evCells_app]; exact hR5, hok⟩
              have g1 := hR5.le; have g2 := hR5.capLe
              have hB5 := Lib.hid (below_then hB3.out hB3.out.size hB5)
              have hl5 := (hlaw.out ⟨0, PA, pn, pc, putF f, 0, false, 0⟩ rfl rfl).out
              rw [hel.out] at hl5
              have hl5 := Lib.hid hl5
              clear hok hR5 hv5 hv4 hB4 hP hpl hlaw b0 f0 hE
              go_wp2_with fail
              refine (part_whose A n cap l (.slice none 0 0) 0 0 _ (m + 2) c5 _ W5 (hU.out.below hB5.out) hE5.out (by omega) rfl).mono ?_
              rintro e W6 ⟨v6, rfl, hv6, hB6⟩
              obtain ⟨A6, c6, rfl, hR6⟩ := Row.of_own hv6
              obtain ⟨ib, ioff, rfl, hic⟩ := hR6.ints64 (by omega)
              have r0 := hic (m + 1) (by omega)
              have r1 := hic m (by omega)
              rw [hl5.out.1] at r0
              rw [hl5.out.2] at r1
              have g3 := hR6.le; have g4 := hR6.capLe
              have hB6 := Lib.hid (below_then hB5.out hB5.out.size hB6)
              clear hic hR6 hv6 hE5 hl5 hB5
              go_wp2
              go_ret
              exact ⟨rfl, hB6.out⟩
            · go_enter Try.func6, Try.ntmps6
              go_wp2_with (refine wpList_boxS (w0 := w) w.heap.size rfl 36 _ rfl (fC f) rfl (Below.refl _ _) (Nat.le_refl _) ?h1)
              case h1 =>
              intro W0 b0 k0 B0 s0
              have b0 := Lib.hid b0; have B0 := Lib.hid B0
              clear k0
              go_wp2_with fail
              refine (awake_any _).mono ?_; rintro e W1 ⟨rfl, hq⟩; have b0 := Lib.hid (b0.out.belowS hq); have hB1 := Lib.hid (below_then B0.out (by omega) hq); clear hq B0 s0
              go_wp2_with fail
              refine (hfu.out _ hB1.out).mono ?_; rintro e W2 ⟨rfl, hq⟩; replace hq := hq.symm; subst hq
              go_wp2_with fail
              refine (hfe.out _ hB1.out).mono ?_; rintro e W2 ⟨rfl, hq⟩; replace hq := hq.symm; subst hq
              go_wp2_with (refine wpList_loadS rfl 36 _ rfl w.heap.size 0 rfl _ Try.underlying36 rfl (fC f) (by rw [hfl.out]; exact size_frame) (fun j u hu => by rw [Nat.zero_add, b0.out.cell]; exact hu) ?_)
              refine (hput.out _).mono ?_; rintro e W3 hpost; have b0 := Lib.hid (b0.out.belowS (hpb.out _ _ _ hpost)); have hB3 := Lib.hid (below_then hB1.out hB1.out.size (hpb.out _ _ _ hpost)); have f0 : W3.cell? ⟨w.heap.size, 0, none⟩ = some (.int .i64 f.kind) := b0.out.cell 0
              (obtain ⟨PA, pc, rfl, hP, hq⟩ := hpost; have hP := Lib.hid hP; clear hq)
              go_wp2_with (at_builtin; go_must (refine wpList_app (w0 := W3) W3.heap.size rfl _ _ 23 rfl 42 (.agg #[.int .i64 0, .slice none 0 0, .int .u64 0, .bool false, .int .i64 0]) 5 56 Try.underlying23 info_ev rfl (by decide) (by decide) _ 0 [] _ m ecap (evCells es) rfl rfl (World.ownsRow_nil _ _ _ _) (hE.out.row.below hB3.out) (evCells_one _) (Below.refl _ _) (Nat.le_refl _) ?h15 ?h16))
              case h15 => omega
              case h16 =>
              intro v4 W4 hv4 hB4 _ _
              obtain ⟨A4, c4, rfl, _⟩ := Row.of_own hv4
              have hv4 := Lib.hid hv4; have hB4 := Lib.hid hB4
              go_wp2_with (at_builtin; go_must (refine wpList_app (w0 := W3) W3.heap.size rfl _ _ 23 rfl 42 (.agg #[.int .i64 0, .slice none 0 0, .int .u64 0, .bool false, .int .i64 0]) 5 56 Try.underlying23 info_ev rfl (by decide) (by decide) _ m (evCells es) _ 2 2 [.int .i64 2, .slice none 0 0, .int .u64 0, .bool false, .int .i64 0, .int .i64 0, .slice PA pn pc, .int .u64 0, .bool false, .int .i64 0] rfl rfl ?h21 ?h22 ?h23 ?h24 ?h25 ?h26 ?h27))
              case h21 => exact hv4.out.alloc _
              case h22 => simpa using Row.new W4 42 2 5 #[.int .i64 2, .slice none 0 0, .int .u64 0, .bool false, .int .i64 0, .int .i64 0, .slice PA pn pc, .int .u64 0, .bool false, .int .i64 0] rfl (by decide)
              case h23 => simp [Value.oneCell']
              case h24 => exact hB4.out.alloc hB4.out.size _
              case h25 => have := hB4.out.size; simp; omega
              case h26 => omega
              case h27 =>
              intro v5 W5 hv5 hB5 _ _
              obtain ⟨A5, c5, rfl, hR5⟩ := Row.of_own hv5
              have hok : ∀ y ∈ es ++ [crashE, (⟨0, PA, pn, pc, putF f, 0, false, 0⟩ : Ev)], EvOk W5 y := by
                intro y hy
                rcases List.mem_append.1 hy with hy | hy
                · exact (hE.out.ok y hy).below (below_then hB3.out hB3.out.size hB5)
                · simp only [List.mem_cons, List.not_mem_nil, or_false] at hy
                  rcases hy with rfl | rfl
                  · exact ⟨Row.none_ _ 1, (fun z hz => by cases hz), by show u64B 0; unfold u64B; decide⟩
                  · exact ⟨hP.out.below hB5, hpl.out, by show u64B 0; unfold u64B; decide⟩
              have hE5 : Hid (Evs W5 A5 (m + 2) c5 (es ++ [crashE, (⟨0, PA, pn, pc, putF f, 0, false, 0⟩ : Ev)])) := ⟨by rw [evCells_app]; exact hR5, hok⟩
              have g1 := hR5.le; have g2 := hR5.capLe
              have hB5 := Lib.hid (below_then hB3.out hB3.out.size hB5)
              have hl5 := (hlaw.out ⟨0, PA, pn, pc, putF f, 0, false, 0⟩ rfl rfl).out
              rw [hel.out] at hl5
              have hl5 := Lib.hid hl5
              clear hok hR5 hv5 hv4 hB4 hP hpl hlaw b0 f0 hE
              go_wp2_with fail
              refine (part_whose A n cap l (.slice none 0 0) 0 0 _ (m + 2) c5 _ W5 (hU.out.below hB5.out) hE5.out (by omega) rfl).mono ?_
              rintro e W6 ⟨v6, rfl, hv6, hB6⟩
              obtain ⟨A6, c6, rfl, hR6⟩ := Row.of_own hv6
              obtain ⟨ib, ioff, rfl, hic⟩ := hR6.ints64 (by omega)
              have r0 := hic (m + 1) (by omega)
              have r1 := hic m (by omega)
              rw [hl5.out.1] at r0
              rw [hl5.out.2] at r1
              have g3 := hR6.le; have g4 := hR6.capLe
              have hB6 := Lib.hid (below_then hB5.out hB5.out.size hB6)
              clear hic hR6 hv6 hE5 hl5 hB5
              go_wp2
              go_ret
              exact ⟨rfl, hB6.out⟩
        · have hb2 : (f.kind != 2) = true := by simp; omega
          have hb4 : (f.kind != 4) = true := by simp; omega
          clear hk
          go_enter Try.func6, Try.ntmps6
          go_wp2_with (refine wpList_boxS (w0 := w) w.heap.size rfl 36 _ rfl (fC f) rfl (Below.refl _ _) (Nat.le_refl _) ?h1)
          case h1 =>
          intro W0 b0 k0 B0 s0
          have b0 := Lib.hid b0; have B0 := Lib.hid B0
          clear k0
          go_wp2_with fail
          refine (awake_any _).mono ?_; rintro e W1 ⟨rfl, hq⟩; have b0 := Lib.hid (b0.out.belowS hq); have hB1 := Lib.hid (below_then B0.out (by omega) hq); clear hq B0 s0
          go_wp2_with fail
          refine (hfu.out _ hB1.out).mono ?_; rintro e W2 ⟨rfl, hq⟩; replace hq := hq.symm; subst hq
          go_wp2_with fail
          refine (hfe.out _ hB1.out).mono ?_; rintro e W2 ⟨rfl, hq⟩; replace hq := hq.symm; subst hq
          go_wp2_with (refine wpList_loadS rfl 36 _ rfl w.heap.size 0 rfl _ Try.underlying36 rfl (fC f) (by rw [hfl.out]; exact size_frame) (fun j u hu => by rw [Nat.zero_add, b0.out.cell]; exact hu) ?_)
          refine (hput.out _).mono ?_; rintro e W3 hpost; have b0 := Lib.hid (b0.out.belowS (hpb.out _ _ _ hpost)); have hB3 := Lib.hid (below_then hB1.out hB1.out.size (hpb.out _ _ _ hpost)); have f0 : W3.cell? ⟨w.heap.size, 0, none⟩ = some (.int .i64 f.kind) := b0.out.cell 0
          (obtain ⟨PA, pc, rfl, hP, hq⟩ := hpost; have hP := Lib.hid hP; clear hq)
          go_wp2
          go_ret
          exact ⟨rfl, hB3.out⟩
end Go.Proofs.Ytfdlfkdefbfhfaa
