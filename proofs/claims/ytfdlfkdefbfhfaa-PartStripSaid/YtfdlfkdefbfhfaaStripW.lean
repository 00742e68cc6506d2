import Derived.Test.YtfdlfkdefbfhfaaStrip
import Derived.StillTailTactics
set_option linter.unusedVariables false
set_option linter.unusedSimpArgs false
namespace Go.Proofs.Ytfdlfkdefbfhfaa
open Go.RowKit

theorem evCells_app (a b : List Ev) : evCells (a ++ b) = evCells a ++ evCells b := by simp [evCells]
set_option maxRecDepth 100000 in
set_option maxHeartbeats 4000000 in
theorem part_strip (A : Option Addr) (n cap : Nat) (l : List Usr) (pv : Value) (idle room : Int) (E : Option Addr) (m ecap : Nat) (es : List Ev) (w : World) (HU : Usrs w A n cap l) (HE : Evs w E m ecap es) (hm : m < 1000) (hpv : pv.oneCell' = true) (hraw : ∀ e ∈ es, e.rn ≤ 1000) :
    Calls Try.prog 15 #[.agg #[.slice A n cap, pv, .int .i64 idle, .int .i64 room], .slice E m ecap] w fun e w' =>
      ∃ v out, e = .returned v ∧ w'.ownsRow w.heap.size 42 5 v out.length (evCells out) ∧ (∀ x ∈ out, EvOk w' x) ∧ out.map norm = stripN l (whoseL l [] es) es ∧ Below w.heap.size w w' := by
  have hl := HE.len
  have hn := HE.row.le
  have hcap := HE.row.capLe
  have HUh := Lib.hid HU; have HEh := Lib.hid HE; have HL := Lib.hid hl; have HRw := Lib.hid hraw
  have hlw : Hid ((whoseL l [] es).length = m) := (whoseL_len l es []).trans hl
  have hwh := Lib.hid (fun W (hB : Below w.heap.size w W) => part_whose A n cap l pv idle room E m ecap es W (HUh.out.below hB) (HEh.out.below hB) hm hpv)
  clear HU HE hl hraw
  go_enter Try.func15, Try.ntmps15
  go_wp2_with fail
  obtain ⟨W1, hW1⟩ : ∃ W1, W1 = w.alloc (.cells #[.slice A n cap, pv, .int .i64 idle, .int .i64 room] 31) := ⟨_, rfl⟩
  have hB1 : Below w.heap.size w W1 := by rw [hW1]; exact (Below.refl _ _).alloc (Nat.le_refl _) _
  have s1 : W1.heap.size = w.heap.size + 1 := by rw [hW1]; simp
  have cc : W1.cell? ⟨w.heap.size, 0, none⟩ = some (.slice A n cap) := by rw [hW1]; exact (Blk.new' w 31 _).cell 0
  rw [← hW1]
  refine (hwh.out W1 hB1).mono ?_
  rintro e W2 ⟨v, rfl, hv, hB2⟩
  have cc := cell_keep hB2 cc
  have s2 := hB2.size
  have hBw := Lib.hid (below_then hB1 (by omega) hB2)
  obtain ⟨A2, c2, rfl, hR⟩ := Row.of_own hv
  have hR := Lib.hid hR
  clear hW1 hwh hB1 hB2 hv
  generalize hws : whoseL l [] es = ws at *
  have hws := Lib.hid hws
  go_wp2
  go_loopw [6, 14] (fun v i wr => ∃ (j : Nat) (out : List Ev), j ≤ m ∧ i = .int .i64 j ∧ stripN l ws es = out.map norm ++ stripN l (ws.drop j) (es.drop j) ∧ out.length ≤ j ∧ wr.ownsRow W2.heap.size 42 5 v out.length (evCells out) ∧ (∀ x ∈ out, EvOk wr x ∧ Apart wr x v.ownBlock) ∧ Below W2.heap.size W2 wr) (fun _ i _ => m - (intOf i).toNat)
  case atStart => exact ⟨0, [], Nat.zero_le _, rfl, rfl, Nat.le_refl _, World.ownsRow_nil _ _ _ _, fun x hx => by (cases hx), Below.refl _ _⟩
  case round =>
    obtain ⟨j, out, hj, rfl, hS, hO, hOwn, hOk, hB⟩ := hrel
    obtain ⟨A6, c6, rfl, _⟩ := Row.of_own hOwn
    have hS := Lib.hid hS; have hO := Lib.hid hO; have hOwn := Lib.hid hOwn; have hOk := Lib.hid hOk; have hB := Lib.hid hB
    by_cases hjn : j < m
    · obtain ⟨x, hx⟩ : ∃ x, es[j]? = some x := ⟨_, List.getElem?_eq_getElem (by rw [HL.out]; exact hjn)⟩
      have hst := Lib.hid (stripN_step l ws es j x hx (by rw [hlw.out]; exact hjn))
      have hEs := HEh.out.below (hBw.out.trans (hB.out.mono hBw.out.size))
      obtain ⟨eb, eoff, rfl, hcc⟩ := hEs.row.cell (by omega)
      have p0 := hcc _ _ (evCells_at es j x hx 0 _ rfl)
      have p1 := hcc _ _ (evCells_at es j x hx 1 _ rfl)
      have p2 := hcc _ _ (evCells_at es j x hx 2 _ rfl)
      have p3 := hcc _ _ (evCells_at es j x hx 3 _ rfl)
      have p4 := hcc _ _ (evCells_at es j x hx 4 _ rfl)
      have hxo := Lib.hid (hEs.ok x (List.mem_of_getElem? hx))
      have hxr := Lib.hid (HRw.out x (List.mem_of_getElem? hx))
      obtain ⟨ib, ioff, rfl, hic⟩ := hR.out.ints64 (by omega)
      have pi := cell_keep hB.out (hic j hjn)
      have cc1 := cell_keep hB.out cc
      have sB := hB.out.size
      simp only [Nat.add_zero, ← Nat.add_assoc] at p0 p1 p2 p3 p4
      clear hcc hx hic hEs
      go_wp2_with fail
      obtain ⟨V, hV⟩ : ∃ V, V = wr.alloc (.cells #[.int .i64 x.kind, .slice x.rA x.rn x.rcap, .int .u64 x.draw, .bool x.boom, .int .i64 x.keep] 42) := ⟨_, rfl⟩
      have hBV : Below wr.heap.size wr V := by rw [hV]; exact (Below.refl _ _).alloc (Nat.le_refl _) _
      have qb : Blk V wr.heap.size 42 x.cells := by rw [hV]; exact Blk.new' wr 42 _
      have sV : V.heap.size = wr.heap.size + 1 := by rw [hV]; simp
      rw [← hV]
      have pi := cell_keep hBV pi
      have cc1 := cell_keep hBV cc1
      clear hV p0 p1 p2 p3 p4
      go_still_tail 6, (by kernel_rfl)
      change wpList _ _ _ _ _ V.drew
      have pi : V.drew.cell? ⟨ib, ioff + j, none⟩ = _ := pi
      have cc1 : V.drew.cell? ⟨w.heap.size, 0, none⟩ = _ := cc1
      have qb : Blk V.drew wr.heap.size 42 x.cells := qb
      have hBV : Below wr.heap.size wr V.drew := hBV.drew
      have sV : V.drew.heap.size = wr.heap.size + 1 := sV
      generalize V.drew = V1 at *
      have hqb := Lib.hid qb; have hBV := Lib.hid hBV
      clear qb
      have hrole := Lib.hid (user_role A n cap l (nth ws j) V1 (HUh.out.below (hBw.out.trans ((hB.out.trans (hBV.out.mono sB)).mono hBw.out.size))))
      have hse : Hid (stripE l (nth ws j) x = if roleU l (nth ws j) ≠ 0 then [norm x] else if breaksB x then [crashE] else []) := rfl
      generalize roleU l (nth ws j) = ro at *
      go_wp2_with fail
      refine hrole.out.mono ?_
      rintro e W3 ⟨rfl, hB3⟩
      have hBV3 : Below wr.heap.size wr W3 := hBV.out.trans (hB3.mono (by omega))
      have qb3 := hqb.out.belowS hB3
      have q0 : W3.cell? ⟨wr.heap.size, 0, none⟩ = some (.int .i64 x.kind) := qb3.cell 0
      have q1 : W3.cell? ⟨wr.heap.size, 1, none⟩ = some (.slice x.rA x.rn x.rcap) := qb3.cell 1
      have q2 : W3.cell? ⟨wr.heap.size, 2, none⟩ = some (.int .u64 x.draw) := qb3.cell 2
      have q3 : W3.cell? ⟨wr.heap.size, 3, none⟩ = some (.bool x.boom) := qb3.cell 3
      have q4 : W3.cell? ⟨wr.heap.size, 4, none⟩ = some (.int .i64 x.keep) := qb3.cell 4
      have s3 : wr.heap.size + 1 ≤ W3.heap.size := by have := hB3.size; omega
      have hOwn3 := Lib.hid (own_below hOwn.out hBV3)
      have hlo := Lib.hid (fun k h => hOwn.out.lt k h)
      have hB3w := Lib.hid (hB.out.trans (hBV3.mono sB))
      have hx3 := Lib.hid (hxo.out.below hBV3)
      have hOk3 : Hid (∀ y ∈ out, EvOk W3 y ∧ ∀ b off, y.rA = some ⟨b, off, none⟩ → b < wr.heap.size ∧ Value.ownBlock (.slice A6 out.length c6) ≠ some b) := fun y hy => ⟨(hOk.out y hy).1.below hBV3, (hOk.out y hy).2⟩
      have hqb3 := Lib.hid qb3
      clear hrole hBV hqb hBV3 qb3 hB3 pi cc1 hOk hOwn hxo hB
      by_cases hro : ro = 0
      · subst hro
        have hbrk := Lib.hid (part_breaks x W3)
        obtain ⟨bx, hbx⟩ : ∃ bx, breaksB x = bx := ⟨_, rfl⟩
        rw [hbx] at hbrk
        have hOl := hO.out
        cases bx with
        | false =>
          have hse2 : Hid (stripE l (nth ws j) x = []) := by
            have : stripE l (nth ws j) x = [] := by rw [hse.out, if_neg (by simp), hbx]; rfl
            exact this
          go_wp2_with (go_at_call 22; refine hbrk.out.mono ?_; rintro e W4 ⟨rfl, hB4⟩; have hB4 := Lib.hid hB4)
          refine ⟨⟨j + 1, out, by omega, by go_num, by rw [hS.out, hst.out, hse2.out]; rfl, by omega, own_below hOwn3.out hB4.out, fun y hy => ⟨(hOk3.out y hy).1.below hB4.out, fun b off e => ⟨by have := (hOk3.out y hy).2 b off e; have := hB4.out.size; omega, ((hOk3.out y hy).2 b off e).2⟩⟩, hB3w.out.trans (hB4.out.mono hB3w.out.size)⟩, by simp [intOf]; omega⟩
        | true =>
          have hse2 : Hid (stripE l (nth ws j) x = [crashE]) := by
            have : stripE l (nth ws j) x = [crashE] := by rw [hse.out, if_neg (by simp), hbx]; rfl
            exact this
          go_wp2_with (first | (go_at_call 22; refine hbrk.out.mono ?_; rintro e W4 ⟨rfl, hB4⟩; have hB4 := Lib.hid hB4) |
            (at_builtin; go_must (refine wpList_app (w0 := W2) W2.heap.size rfl _ _ 23 rfl 42 (.agg #[.int .i64 0, .slice none 0 0, .int .u64 0, .bool false, .int .i64 0]) 5 56 Try.underlying23 info_ev rfl (by decide) (by decide) _ out.length (evCells out) _ 1 1 [.int .i64 2, .slice none 0 0, .int .u64 0, .bool false, .int .i64 0] rfl rfl ?h12 ?h13 ?h14 ?h15 ?h16 ?h17 ?h18)))
          case h12 => exact (own_below hOwn3.out hB4.out).alloc _
          case h13 => simpa using Row.new W4 42 1 5 #[.int .i64 2, .slice none 0 0, .int .u64 0, .bool false, .int .i64 0] rfl (by decide)
          case h14 => exact Ev.one crashE
          case h15 => exact (hB3w.out.trans (hB4.out.mono hB3w.out.size)).alloc (by have := hB3w.out.size; have := hB4.out.size; omega) _
          case h16 => have := hB3w.out.size; have := hB4.out.size; simp; omega
          case h17 => omega
          case h18 =>
          intro v' W6 hown hB6 hgr hor
          have s4 := hB4.out.size
          have s6 := hgr.size
          simp at s6
          obtain ⟨A7, c7, rfl, _⟩ := Row.of_own hown
          have hown := Lib.hid hown; have hB6 := Lib.hid hB6
          have hup : Hid (∀ y ∈ out, EvOk W6 y ∧ Apart W6 y (Value.ownBlock (.slice A7 (out.length + 1) c7))) := by
            intro y hy
            have k1 := ((hOk3.out y hy).1.below hB4.out).below ((Below.refl _ _).alloc (Nat.le_refl _) (.cells #[.int .i64 2, .slice none 0 0, .int .u64 0, .bool false, .int .i64 0] 42))
            have hp := (hOk3.out y hy).2
            refine ⟨k1.apart hgr (fun b off e => ⟨by have := hp b off e; simp; omega, (hp b off e).2⟩), fun b off e => ⟨by have := hp b off e; omega, fun e2 => ?_⟩⟩
            have h1 := hp b off e
            rcases hor with h | h
            · rw [h] at e2; exact h1.2 e2
            · rw [h] at e2; injection e2 with e2; first | omega | (simp at e2; omega)
          clear hgr hor
          go_wp2
          refine ⟨⟨j + 1, out ++ [crashE], by omega, by go_num, ?_, by simp; omega, ?_, ?_, hB6.out⟩, by simp [intOf]; omega⟩
          · rw [hS.out, hst.out, hse2.out]; simp [norm, crashE]
          · rw [evCells_app]; simpa [evCells, Ev.cells, crashE] using hown.out
          · intro y hy
            rcases List.mem_append.1 hy with hy | hy
            · exact hup.out y hy
            · rw [List.mem_singleton.1 hy]
              exact ⟨⟨Row.none_ _ 1, fun z hz => by (cases hz), by show u64B 0; unfold u64B; decide⟩, fun b off e => by (cases e)⟩
      · have hcl := Lib.hid (clone_u8 x.rA x.rn x.rcap x.raw W3 hx3.out.row hxr.out)
        have hse2 : Hid (stripE l (nth ws j) x = [norm x]) := by
          have : stripE l (nth ws j) x = [norm x] := by rw [hse.out, if_pos hro]
          exact this
        have hrb : (ro != 0) = true := by simpa using hro
        have hOl := hO.out
        go_wp2_with (first | (go_at_call 30; refine hcl.out.mono ?_; rintro e W4 ⟨v2, rfl, hv2, hB4⟩; obtain ⟨A4, c4, rfl, hR4⟩ := Row.of_own hv2; have q0 := cell_keep hB4 q0; have q1 := cell_keep hB4 q1; have q2 := cell_keep hB4 q2; have q3 := cell_keep hB4 q3; have q4 := cell_keep hB4 q4; have ff := (hqb3.out.belowS hB4).frozen 1; have hv2 := Lib.hid hv2; have hB4 := Lib.hid hB4; have hR4 := Lib.hid hR4) | (at_builtin; go_must (refine wpList_app (w0 := W2) W2.heap.size rfl _ _ 23 rfl 42 (.agg #[.int .i64 0, .slice none 0 0, .int .u64 0, .bool false, .int .i64 0]) 5 56 Try.underlying23 info_ev rfl (by decide) (by decide) _ out.length (evCells out) _ 1 1 [.int .i64 x.kind, .slice A4 x.rn c4, .int .u64 x.draw, .bool x.boom, .int .i64 x.keep] rfl rfl ?h12 ?h13 ?h14 ?h15 ?h16 ?h17 ?h18)))
        case h12 => exact ((own_below hOwn3.out hB4.out).kept grown_setCell (.inr (fun e => by have := (hlo.out _ e).2; first | omega | simp at this))).alloc _
        case h13 => simpa using Row.new (W4.setCell ⟨wr.heap.size, 1, none⟩ (.slice A4 x.rn c4)) 42 1 5 #[.int .i64 x.kind, .slice A4 x.rn c4, .int .u64 x.draw, .bool x.boom, .int .i64 x.keep] rfl (by decide)
        case h14 => exact Ev.one { x with rA := A4, rcap := c4 }
        case h15 => exact ((hB3w.out.trans (hB4.out.mono hB3w.out.size)).setCell (by simp; omega) _).alloc (by have := hB3w.out.size; have := hB4.out.size; simp; omega) _
        case h16 => have := hB3w.out.size; have := hB4.out.size; simp; omega
        case h17 => omega
        case h18 =>
        intro v' W6 hown hB6 hgr hor
        have s4 := hB4.out.size
        have s6 := hgr.size
        simp at s6
        have hxe : EvOk W4 { x with rA := A4, rcap := c4 } := ⟨hR4.out, hx3.out.bytes, hx3.out.draw⟩
        have hxa : ∀ b off, A4 = some ⟨b, off, none⟩ → W3.heap.size ≤ b ∧ b < W4.heap.size := fun b off e => by
          have := hv2.out.lt b (by rw [e]; rfl)
          exact this
        have hoa : ∀ b, v'.ownBlock = some b → b < wr.heap.size ∨ W4.heap.size ≤ b := by
          intro b hb
          rcases hor with h | h
          · rw [h] at hb; exact .inl (hlo.out b hb).2
          · rw [h] at hb; injection hb with hb; exact .inr (by first | omega | (simp at hb; omega))
        obtain ⟨A7, c7, rfl, _⟩ := Row.of_own hown
        have hown := Lib.hid hown; have hB6 := Lib.hid hB6
        have hne : Hid (∀ b, (b < wr.heap.size ∧ Value.ownBlock (.slice A6 out.length c6) ≠ some b) ∨ (W3.heap.size ≤ b ∧ b < W4.heap.size) → b < W6.heap.size ∧ Value.ownBlock (.slice A7 (out.length + 1) c7) ≠ some b ∧ Value.ownBlock (.slice A6 out.length c6) ≠ some b ∧ b ≠ wr.heap.size) := by
          intro b hb
          have ha := hoa b
          have hl := fun e => (hlo.out b e).2
          refine ⟨by omega, fun e => ?_, fun e => ?_, by omega⟩
          · rcases hb with hb | hb
            · rcases hor with h | h
              · rw [h] at e; exact hb.2 e
              · rw [h] at e; injection e with e; first | omega | (simp at e; omega)
            · have := ha e; omega
          · rcases hb with hb | hb
            · exact hb.2 e
            · have := hl e; omega
        have hup : ∀ y, EvOk W4 y → (∀ b off, y.rA = some ⟨b, off, none⟩ → (b < wr.heap.size ∧ Value.ownBlock (.slice A6 out.length c6) ≠ some b) ∨ (W3.heap.size ≤ b ∧ b < W4.heap.size)) → EvOk W6 y ∧ Apart W6 y (Value.ownBlock (.slice A7 (out.length + 1) c7)) := by
          intro y hy hpl
          have k1 : EvOk (W4.setCell ⟨wr.heap.size, 1, none⟩ (.slice A4 x.rn c4)) y := hy.apart grown_setCell (fun b off e => ⟨by have := hpl b off e; omega, fun e2 => (hne.out b (hpl b off e)).2.2.2 (by injection e2 with e2; exact e2.symm)⟩)
          have k2 := k1.below ((Below.refl _ _).alloc (Nat.le_refl _) (.cells #[.int .i64 x.kind, .slice A4 x.rn c4, .int .u64 x.draw, .bool x.boom, .int .i64 x.keep] 42))
          exact ⟨k2.apart hgr (fun b off e => ⟨by have := hpl b off e; simp; omega, (hne.out b (hpl b off e)).2.2.1⟩), fun b off e => ⟨(hne.out b (hpl b off e)).1, (hne.out b (hpl b off e)).2.1⟩⟩
        have hup := Lib.hid hup
        clear hgr hor hoa
        go_wp2
        refine ⟨⟨j + 1, out ++ [{ x with rA := A4, rcap := c4 }], by omega, by go_num, ?_, by simp; omega, ?_, ?_, hB6.out⟩, by simp [intOf]; omega⟩
        · rw [hS.out, hst.out, hse2.out]; simp [norm]
        · rw [evCells_app]; simpa [evCells, Ev.cells] using hown.out
        · intro y hy
          rcases List.mem_append.1 hy with hy | hy
          · exact hup.out y ((hOk3.out y hy).1.below hB4.out) (fun b off e => .inl ((hOk3.out y hy).2 b off e))
          · rw [List.mem_singleton.1 hy]
            exact hup.out _ hxe (fun b off e => .inr (hxa b off e))
    · obtain rfl : j = m := by omega
      have hfin : Hid (out.map norm = stripN l ws es) := by
        have : out.map norm = stripN l ws es := by
          rw [hS.out, List.drop_of_length_le (l := es) (by rw [HL.out]; exact Nat.le_refl _)]
          cases ws.drop j <;> simp [stripN]
        exact this
      go_wp2
      go_ret
      exact ⟨_, out, rfl, own_lower hOwn.out hBw.out.size, fun x hx => (hOk.out x hx).1, by rw [hws.out]; exact hfin.out, hBw.out.trans (hB.out.mono hBw.out.size)⟩
end Go.Proofs.Ytfdlfkdefbfhfaa
