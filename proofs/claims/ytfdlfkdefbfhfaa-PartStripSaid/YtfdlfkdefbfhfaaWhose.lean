import Derived.Test.YtfdlfkdefbfhfaaFnMap
set_option linter.unusedVariables false
set_option linter.unusedSimpArgs false
namespace Go.Proofs.Ytfdlfkdefbfhfaa
open Go.RowKit

/-- (*book).whose: whose an event is, and the map behind it. -/
def whoseF (l : List Usr) (M : List (Int × Int)) (e : Ev) : Int × List (Int × Int) :=
  if e.kind ≠ 0 then (0, M) else if (readF e.raw).2 ≠ 0 then (0, M)
  else if (readF e.raw).1.kind = 0 then helloF l M (readF e.raw).1 e.draw
  else if (readF e.raw).1.kind = 2 ∨ (readF e.raw).1.kind = 4 then (whoGet M (readF e.raw).1.sess, M) else (0, M)

theorem below_grownS {B g : Nat} {w w1 w2 : World} (h : Below B w w1) (hg : w1.grownBy w2 (some g)) (hB : B ≤ g) (hs : B ≤ w1.heap.size) : Below B w w2 :=
  ⟨hg.os.trans h.os, hg.tape.trans h.tape, hg.output.trans h.output, Nat.le_trans h.size hg.size, fun k hk => (hg.block k (by omega) (fun e => by injection e; omega)).trans (h.block k hk)⟩
theorem neq_fn (f : FuncId) (w : World) : (binOp .neq 86 (.func (.func f) #[] #[]) .nilFunc).run Try.prog w = .ok (.bool true) w := by kernel_rfl
theorem neq_fn0 (w : World) : (binOp .neq 86 .nilFunc .nilFunc).run Try.prog w = .ok (.bool false) w := by kernel_rfl
theorem zero_fn (w : World) : (zeroValue 86).run Try.prog w = .ok .nilFunc w := by kernel_rfl
set_option maxRecDepth 100000 in
set_option maxHeartbeats 1000000 in
theorem book_whose (g b n cap : Nat) (A : Option Addr) (l : List Usr) (M : List (Int × Int)) (e : Ev) (w : World) (hB : Book w g b A n cap l M) (he : EvOk w e) (hu : i64B (readF e.raw).1.user) (hM : M.length < 1000) :
    Calls Try.prog 21 #[.pointer (some ⟨g, 0, none⟩), .agg e.cells.toArray] w fun x w' =>
      x = .returned (.int .i64 (whoseF l M e).1) ∧ OwnsWho w' b (whoseF l M e).2 ∧ w.grownBy w' (some b) := by
  have hBk := Lib.hid hB
  have hE := Lib.hid he
  have hU := Lib.hid hu; have hML := Lib.hid hM
  clear hB he hu hM
  have hread : Hid (∀ W, Row W e.rA e.rn e.rcap 1 (nums .u8 e.raw) → Calls Try.prog 12 #[.slice e.rA e.rn e.rcap] W fun x w' => x = .returned (.tuple #[.agg (fC (readF e.raw).1).toArray, .int .i64 (readF e.raw).2]) ∧ Below W.heap.size W w') :=
    fun W H => frame_read e.rA e.rn e.rcap e.raw W H hE.out.bytes
  have hrow : Hid (Row w e.rA e.rn e.rcap 1 (nums .u8 e.raw)) := hE.out.row
  have hdr : Hid (u64B e.draw) := hE.out.draw
  have hWfr := Lib.hid (readF_wf e.raw hE.out.bytes)
  clear hE
  have hF : Hid (whoseF l M e = if e.kind ≠ 0 then (0, M) else if (readF e.raw).2 ≠ 0 then (0, M)
    else if (readF e.raw).1.kind = 0 then helloF l M (readF e.raw).1 e.draw
    else if (readF e.raw).1.kind = 2 ∨ (readF e.raw).1.kind = 4 then (whoGet M (readF e.raw).1.sess, M) else (0, M)) := rfl
  obtain ⟨kind, rA, rn, rcap, raw, draw, boom, keep⟩ := e
  simp only [Ev.cells] at *
  by_cases hk : kind = 0
  · subst hk
    generalize readF raw = rf at *
    obtain ⟨F, er⟩ := rf
    simp only at *
    have hfl := Lib.hid (fC_len F hWfr.out.1.1)
    have HL0 := Lib.hid (fC_len (kindF 0) rfl)
    go_enter Try.func21, Try.ntmps21
    go_wp2_with fail
    obtain ⟨W1, hW1⟩ : ∃ W1, W1 = w.alloc (.cells #[.int .i64 0, .slice rA rn rcap, .int .u64 draw, .bool boom, .int .i64 keep] 42) := ⟨_, rfl⟩
    have hB1 : Below w.heap.size w W1 := by rw [hW1]; exact (Below.refl _ _).alloc (Nat.le_refl _) _
    have s1 : W1.heap.size = w.heap.size + 1 := by rw [hW1]; simp
    have ce : W1.cell? ⟨w.heap.size, 2, none⟩ = some (.int .u64 draw) := by rw [hW1]; exact (Blk.new' w 42 _).cell 2
    rw [← hW1]
    refine (hread.out _ (hrow.out.below hB1)).mono ?_
    rintro x W2 ⟨rfl, hB2⟩
    have ce := cell_keep hB2 ce
    have s2 := hB2.size
    have hB2 := Lib.hid (below_then hB1 (by omega) hB2)
    clear hW1 hread hB1
    go_wp2_with (refine wpList_allocS (w0 := w) w.heap.size rfl 36 rfl (fC (kindF 0)) _ zero_frame rfl hB2.out (by omega) ?h1)
    case h1 =>
    intro W3 b3 k3 B3 s3
    go_wp2_with (refine wpList_storeW (w0 := w) w.heap.size rfl 36 _ _ rfl _ 0 rfl (fC F) rfl (by rw [hfl.out]; exact size_frame) (fC_one _) 36 (fC (kindF 0)) b3 (by rw [HL0.out, hfl.out]; decide) B3 (by omega) (fC F) (by simp [HL0.out, hfl.out]) ?h2)
    case h2 =>
    intro W4 b4 k4 B4 s4
    have ce := k4.cell (k3.cell ce (by simp)) (by simp; omega)
    have ck : W4.cell? ⟨W2.heap.size, 0, none⟩ = some (.int .i64 F.kind) := b4.cell 0
    have hb4 := Lib.hid b4; have hB4 := Lib.hid B4
    have s4' : W4.heap.size = W2.heap.size + 1 := by omega
    clear b3 k3 B3 s3 k4 b4 B4 s4
    by_cases h0 : er = 0
    · subst h0
      have hF2 : Hid (whoseF l M ⟨0, rA, rn, rcap, raw, draw, boom, keep⟩ = if F.kind = 0 then helloF l M F draw else if F.kind = 2 ∨ F.kind = 4 then (whoGet M F.sess, M) else (0, M)) := by
        have : whoseF l M ⟨0, rA, rn, rcap, raw, draw, boom, keep⟩ = if F.kind = 0 then helloF l M F draw else if F.kind = 2 ∨ F.kind = 4 then (whoGet M F.sess, M) else (0, M) := by rw [hF.out, if_neg (by simp), if_neg (by simp)]
        exact this
      go_wp2_with (refine wpList_makeFn rfl _ rfl ?m1)
      case m1 =>
      intro W5 e5 B5 s5
      have B5 : Below W4.heap.size W4 W5 := B5.mono (by omega)
      have ce := cell_keep B5 ce; have ck := cell_keep B5 ck
      have hb5 := Lib.hid (hb4.out.belowS B5); have hB5 := Lib.hid (hB4.out.trans (B5.mono hB4.out.size))
      clear hb4 hB4 B5
      go_wp2_with (refine wpList_insertFn rfl _ _ _ _ rfl _ _ Try.underlying88 Try.underlying3 _ rfl 0 rfl [] 0 e5 rfl ?m2)
      case m2 =>
      intro W6 e6 g6
      go_wp2_with (refine wpList_insertFn rfl _ _ _ _ rfl _ _ Try.underlying88 Try.underlying3 _ rfl 2 rfl _ 1 e6 rfl ?m3)
      case m3 =>
      intro W7 e7 g7
      go_wp2_with (refine wpList_insertFn rfl _ _ _ _ rfl _ _ Try.underlying88 Try.underlying3 _ rfl 4 rfl _ 2 e7 rfl ?m4)
      case m4 =>
      intro W8 e8 g8
      have g58 := grown_trans g6 (grown_trans g7 g8)
      have ce := g58.cell ce (by simp; try omega); have ck := g58.cell ck (by simp; try omega)
      have hb8 := Lib.hid (hb5.out.grown g58 (by simp; try omega))
      have hB8 := Lib.hid (below_grownS hB5.out g58 (by omega) hB5.out.size)
      have hBk8 := Lib.hid (hBk.out.below hB8.out)
      have e8 := Lib.hid e8
      clear e5 e6 e7 g6 g7 g8 g58 hb5 hB5 hrow
      obtain ⟨K, hK⟩ : ∃ K, F.kind = K := ⟨_, rfl⟩
      rw [hK] at ck hF2
      have hK := Lib.hid hK
      by_cases hk0 : K = 0
      · subst hk0
        have hcall := Lib.hid (book_hello g b n cap A l M F draw _ hBk8.out hWfr.out hU.out hdr.out hML.out)
        have hne := neq_fn 36
        go_wp2_with (first | (at_lookup; refine wpList_lookupFn rfl _ _ _ rfl _ _ Try.underlying88 Try.underlying3 _ rfl 0 rfl _ 3 e8.out .nilFunc (zero_fn _) (some (0, _)) rfl _ rfl ?_) | (refine wpList_loadS rfl 36 _ rfl W2.heap.size 0 rfl _ Try.underlying36 rfl (fC F) (by rw [hfl.out]; exact size_frame) (fun j u hu => by rw [Nat.zero_add, hb8.out.cell]; exact hu) ?_) | (go_at_call 36; refine hcall.out.mono ?_; rintro x W9 ⟨rfl, hO9, hg9⟩))
        go_ret
        refine ⟨by rw [hF2.out]; rfl, by rw [hF2.out]; exact hO9, grown_trans (grown_of_below hB8.out _) hg9⟩
      · by_cases hk2 : K = 2
        · subst hk2
          have hcall := Lib.hid (book_use g b n cap A l M F draw _ hBk8.out hWfr.out)
          have hne := neq_fn 37
          go_wp2_with (first | (at_lookup; refine wpList_lookupFn rfl _ _ _ rfl _ _ Try.underlying88 Try.underlying3 _ rfl 2 rfl _ 3 e8.out .nilFunc (zero_fn _) (some (1, _)) rfl _ rfl ?_) | (refine wpList_loadS rfl 36 _ rfl W2.heap.size 0 rfl _ Try.underlying36 rfl (fC F) (by rw [hfl.out]; exact size_frame) (fun j u hu => by rw [Nat.zero_add, hb8.out.cell]; exact hu) ?_) | (go_at_call 37; refine hcall.out.mono ?_; rintro x W9 ⟨rfl, hB9⟩; have hB9 := Lib.hid hB9))
          go_ret
          refine ⟨by rw [hF2.out]; rfl, by rw [hF2.out]; exact hBk8.out.who.belowS hB9.out, grown_of_below (hB8.out.trans (hB9.out.mono hB8.out.size)) _⟩
        · by_cases hk4 : K = 4
          · subst hk4
            have hcall := Lib.hid (book_use g b n cap A l M F draw _ hBk8.out hWfr.out)
            have hne := neq_fn 37
            go_wp2_with (first | (at_lookup; refine wpList_lookupFn rfl _ _ _ rfl _ _ Try.underlying88 Try.underlying3 _ rfl 4 rfl _ 3 e8.out .nilFunc (zero_fn _) (some (2, _)) rfl _ rfl ?_) | (refine wpList_loadS rfl 36 _ rfl W2.heap.size 0 rfl _ Try.underlying36 rfl (fC F) (by rw [hfl.out]; exact size_frame) (fun j u hu => by rw [Nat.zero_add, hb8.out.cell]; exact hu) ?_) | (go_at_call 37; refine hcall.out.mono ?_; rintro x W9 ⟨rfl, hB9⟩; have hB9 := Lib.hid hB9))
            go_ret
            refine ⟨by rw [hF2.out]; rfl, by rw [hF2.out]; exact hBk8.out.who.belowS hB9.out, grown_of_below (hB8.out.trans (hB9.out.mono hB8.out.size)) _⟩
          · have hne := neq_fn0
            have hfn : Instr.findNow (.int .i64) (.int .i64 K) [MapEntry.mk (.int .i64 0) (.func (.func 36) #[] #[]) 0, MapEntry.mk (.int .i64 2) (.func (.func 37) #[] #[]) 1, MapEntry.mk (.int .i64 4) (.func (.func 37) #[] #[]) 2] 0 = some none := by
              simp [Instr.findNow, Instr.sameNow, show (K == 0) = false by simpa using hk0, show (K == 2) = false by simpa using hk2, show (K == 4) = false by simpa using hk4]
            have hfn := Lib.hid hfn
            go_wp2_with ((at_lookup; refine wpList_lookupFn rfl _ _ _ rfl _ _ Try.underlying88 Try.underlying3 _ rfl K rfl _ 3 e8.out .nilFunc (zero_fn _) none hfn.out _ rfl ?_))
            go_ret
            refine ⟨by rw [hF2.out, if_neg hk0, if_neg (by omega)]; rfl, by rw [hF2.out, if_neg hk0, if_neg (by omega)]; exact hBk8.out.who, grown_of_below hB8.out _⟩
    · have hR : Hid (whoseF l M ⟨0, rA, rn, rcap, raw, draw, boom, keep⟩ = (0, M)) := by
        have : whoseF l M ⟨0, rA, rn, rcap, raw, draw, boom, keep⟩ = (0, M) := by rw [hF.out, if_neg (by simp), if_pos h0]
        exact this
      go_wp2
      go_ret
      exact ⟨by rw [hR.out]; rfl, by rw [hR.out]; exact hBk.out.who.belowS hB4.out, grown_of_below hB4.out _⟩
  · have hR : Hid (whoseF l M ⟨kind, rA, rn, rcap, raw, draw, boom, keep⟩ = (0, M)) := by
      have : whoseF l M ⟨kind, rA, rn, rcap, raw, draw, boom, keep⟩ = (0, M) := by rw [hF.out, if_pos hk]
      exact this
    go_enter Try.func21, Try.ntmps21
    go_wp2
    go_ret
    refine ⟨by rw [hR.out]; rfl, by rw [hR.out]; exact hBk.out.who.belowS ((Below.refl _ _).alloc (Nat.le_refl _) _), grown_of_below ((Below.refl _ _).alloc (Nat.le_refl _) _) _⟩
end Go.Proofs.Ytfdlfkdefbfhfaa
