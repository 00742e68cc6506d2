import Derived.Test.YtfdlfkdefbfhfaaProg
import Derived.Test.YtfdlfkdefbfhfaaBase
import Derived.WalkMore
import Derived.ScopeJumps
import Derived.Deep.OwnRows
set_option linter.unusedVariables false
set_option linter.unusedSimpArgs false
namespace Go.Proofs.Ytfdlfkdefbfhfaa
open Go.RowKit Go.Deep

theorem num_size_t (k : Int) (w : World) (h1 : 1 ≤ k) (h2 : k ≤ 8) :
    Calls Try.prog 39 #[.int .i64 k] w fun e w' => e = .returned (.bool true) ∧ w = w' := by
  go_enter Try.func39, Try.ntmps39
  go_wp2
  go_ret
  exact ⟨by simp [h1, h2], rfl⟩
theorem num_size_f (k : Int) (w : World) (h1 : ¬ (1 ≤ k ∧ k ≤ 8)) :
    Calls Try.prog 39 #[.int .i64 k] w fun e w' => e = .returned (.bool false) ∧ w = w' := by
  by_cases h : 1 ≤ k
  · go_enter Try.func39, Try.ntmps39
    go_wp2
    go_ret
    exact ⟨by simp; omega, rfl⟩
  · go_enter Try.func39, Try.ntmps39
    go_wp2
    go_ret
    exact ⟨by simp, rfl⟩

/-- num.Get, as a plain function. -/
def getF (l : List Int) (p k : Int) : Int × Int :=
  if (1 ≤ k ∧ k ≤ 8) ∧ 0 ≤ p ∧ p + k ≤ l.length then (be ((l.drop p.toNat).take k.toNat), p + k) else (0, -1)

theorem bits_or_low (n c : Int) (h0 : 0 ≤ n) (h1 : n < 72057594037927936) (hc0 : 0 ≤ c) (hc : c < 256) :
    bits .or .u64 (IntKind.u64.wrap (n * 256)) (IntKind.u64.wrap c) = n * 256 + c := by
  have e1 : IntKind.u64.wrap (n * 256) = n * 256 := by rw [IntKind.wrap_u64]; omega
  have e2 : IntKind.u64.wrap c = c := by rw [IntKind.wrap_u64]; omega
  rw [e1, e2]
  exact bits_join .u64 64 (by decide) (fun m h0 h1 => by rw [IntKind.wrap_u64]; omega) 8 (n * 256) c (by omega) (by omega) (by omega) hc0 (by omega) (by omega)

theorem num_get_t (A : Option Addr) (n cap : Nat) (l : List Int) (p k : Int) (w : World) (H : Row w A n cap 1 (nums .u8 l)) (hb : IsBytes l)
    (h1 : 1 ≤ k) (h2 : k ≤ 8) (h3 : 0 ≤ p) (h4 : p + k ≤ n) :
    Calls Try.prog 25 #[.slice A n cap, .int .i64 p, .int .i64 k] w fun e w' => e = .returned (.tuple #[.int .u64 (be ((l.drop p.toNat).take k.toNat)), .int .i64 (p + k)]) ∧ w = w' := by
  obtain ⟨a, rfl⟩ := Int.eq_ofNat_of_zero_le h3
  obtain ⟨m, rfl⟩ := Int.eq_ofNat_of_zero_le (show 0 ≤ k by omega)
  obtain ⟨b, off, rfl, hc⟩ := H.ints (by omega)
  have hn := H.le
  have hcap := H.capLe
  have hl := H.nums_at
  have HL := Lib.hid hl
  clear hl H
  go_enter Try.func25, Try.ntmps25
  go_wp2_with (go_at_call 39; refine (num_size_t _ _ h1 h2).mono ?_; rintro e w' ⟨rfl, rfl⟩)
  go_loop [8, 42] (fun x i => ∃ j : Nat, j ≤ m ∧ i = .int .i64 j ∧ x = .int .u64 (be ((l.drop a).take j))) (fun _ i => m - (intOf i).toNat)
  case atStart => exact ⟨0, Nat.zero_le _, rfl, rfl⟩
  case round =>
    obtain ⟨j, hj, rfl, rfl⟩ := hrel
    have hcell : j < m → w.cell? ⟨b, off + a + j, none⟩ = some (.int .u8 (nth l (a + j))) := fun _ => by rw [Nat.add_assoc]; exact hc _ (by omega)
    have HB : Hid (j < m → be ((l.drop a).take (j + 1)) = bits .or .u64 (IntKind.u64.wrap (be ((l.drop a).take j) * 256)) (IntKind.u64.wrap (nth l (a + j)))) := by
      intro hjm
      have hx := hb.at_ (a + j)
      have ht := be_take l hb a j (by rw [HL.out]; omega) (by omega)
      rw [bits_or_low _ _ ht.2.1 ht.2.2 hx.1 hx.2, ht.1]
    go_wp2
    · refine ⟨⟨j + 1, by omega, by go_num, ?_⟩, by simp [intOf]; omega⟩
      rw [HB.out (by assumption)]
    · have : j = m := by omega
      subst this
      go_ret2
      exact ⟨rfl, rfl⟩

theorem num_get_no (A : Option Addr) (n cap : Nat) (p k : Int) (w : World) (hn : n ≤ cap) (hcap : cap ≤ 9223372036854775807)
    (h1 : 1 ≤ k) (h2 : k ≤ 8) (h3 : 0 ≤ p) (h4 : p ≤ n) (h5 : n - p < k) :
    Calls Try.prog 25 #[.slice A n cap, .int .i64 p, .int .i64 k] w fun e w' => e = .returned (.tuple #[.int .u64 0, .int .i64 (-1)]) ∧ w = w' := by
  obtain ⟨a, rfl⟩ := Int.eq_ofNat_of_zero_le h3
  obtain ⟨m, rfl⟩ := Int.eq_ofNat_of_zero_le (show 0 ≤ k by omega)
  go_enter Try.func25, Try.ntmps25
  go_wp2_with (go_at_call 39; refine (num_size_t _ _ h1 h2).mono ?_; rintro e w' ⟨rfl, rfl⟩)
  go_ret2
  exact ⟨rfl, rfl⟩

theorem info_u8 : (Try.prog.info? 5).map (fun i => (i.zero, i.size, i.bytes)) = some (some (.int .u8 0), 1, 1) := by kernel_rfl

/-- n in k bytes. -/
def putB : Nat → Int → List Int
  | 0, _ => []
  | k + 1, n => putB k (n / 256) ++ [n % 256]
theorem putB_len (k : Nat) : ∀ n, (putB k n).length = k := by
  induction k with
  | zero => intro n; rfl
  | succ k ih => intro n; simp [putB, ih]
theorem putB_bytes (k : Nat) : ∀ n, IsBytes (putB k n) := by
  induction k with
  | zero => intro n x hx; cases hx
  | succ k ih =>
    intro n
    refine (ih _).app (fun x hx => ?_)
    rw [List.mem_singleton.1 hx]
    omega
theorem put_step (m : Nat) (n : Int) (done : List Int) :
    (nums .u8 (List.replicate (m + 1) 0 ++ done)).set m (.int .u8 (n % 256)) = nums .u8 (List.replicate m 0 ++ ((n % 256) :: done)) := by
  have e : List.replicate (m + 1) (0 : Int) ++ done = List.replicate m 0 ++ (0 :: done) := by
    rw [List.replicate_succ']; simp
  rw [e, nums, nums, List.map_append, List.map_append, List.set_append_right _ _ (by simp)]
  simp

theorem shr_small (n : Int) (k : Nat) (h3 : 0 ≤ n) (h4 : n < 256 ^ k) : (n / 2 ^ (8 * k) != 0) = false := by
  have e : (2 : Int) ^ (8 * k) = 256 ^ k := by rw [Int.pow_mul]; rfl
  rw [e, Int.ediv_eq_zero_of_lt h3 h4]
  rfl

def PutInv (w : World) (N : Int) (k : Nat) (a : Act) (w' : World) : Prop :=
  ∃ (n : Int) (m : Nat) (done : List Int) (u8 u9 u10 u11 u12 u13 u14 u15 u16 u17 u18 u19 u20 u21 u22 u23 u24 u25 u26 u27 u28 u29 u30 u31 u32 u33 u34 u35 u36 u37 : Value),
    a = ⟨#[.int .u64 n, .int .i64 k, undef, undef, .slice none 0 0, .bool false, .slice (some ⟨w.heap.size, 0, none⟩) k k, .int .i64 m, u8, u9, u10, u11, u12, u13, u14, u15, u16, u17, u18, u19, u20, u21, u22, u23, u24, u25, u26, u27, u28, u29, u30, u31, u32, u33, u34, u35, u36, u37], []⟩ ∧
    0 ≤ n ∧ n < 18446744073709551616 ∧ m + 1 ≤ k ∧ putB k N = putB (m + 1) n ++ done ∧
    w'.ownsRow w.heap.size 5 1 (.slice (some ⟨w.heap.size, 0, none⟩) k k) k (nums .u8 (List.replicate (m + 1) 0 ++ done)) ∧ Below w.heap.size w w'

theorem put_store {w W : World} {k m : Nat} {n : Int} {done : List Int}
    (HO : W.ownsRow w.heap.size 5 1 (.slice (some ⟨w.heap.size, 0, none⟩) k k) k (nums .u8 (List.replicate (m + 1) 0 ++ done))) (HB : Below w.heap.size w W) :
    (W.setCell ⟨w.heap.size, m, none⟩ (.int .u8 (n % 256))).ownsRow w.heap.size 5 1 (.slice (some ⟨w.heap.size, 0, none⟩) k k) k (nums .u8 (List.replicate m 0 ++ ((n % 256) :: done))) ∧
      Below w.heap.size w (W.setCell ⟨w.heap.size, m, none⟩ (.int .u8 (n % 256))) := by
  have h := (HO.stored m (.int .u8 (n % 256))).1
  rw [put_step] at h
  exact ⟨h, HB.setCell (Nat.le_refl _) _⟩
theorem putB_split (m : Nat) (n : Int) (done : List Int) : putB (m + 1) n ++ done = putB m (n / 256) ++ ((n % 256) :: done) := by
  simp [putB]

set_option maxRecDepth 100000 in
theorem num_put_t (n : Int) (k : Nat) (w : World) (h1 : 1 ≤ k) (h2 : k ≤ 8) (h3 : 0 ≤ n) (h5 : n < 18446744073709551616) (h4 : n < 256 ^ k) :
    Calls Try.prog 49 #[.int .u64 n, .int .i64 k] w fun e w' => ∃ v, e = .returned (.tuple #[v, .bool true]) ∧ w'.ownsRow w.heap.size 5 1 v k (nums .u8 (putB k n)) ∧ Below w.heap.size w w' := by
  have hmk := run_make_row' (P := Try.prog) 40 5 (.int .u8 0) 1 Try.underlying40 info_u8 rfl .i64 .i64 k (by omega) (by omega)
  have h1' : (1:Int) ≤ k := by omega
  have h2' : (k:Int) ≤ 8 := by omega
  have hsh := shr_small n k h3 h4
  clear h4
  have hown : Hid ((w.alloc (.cells (madeCells #[.int .u8 0] k) 5)).ownsRow w.heap.size 5 1 (.slice (some ⟨w.heap.size, 0, none⟩) k k) k (nums .u8 (List.replicate k 0))) := by
    have := World.ownsRow_lit (base := w.heap.size) (e := 5) (size := 1) w (madeCells #[.int .u8 0] k) k (Nat.le_refl _) (by unfold maxLen; omega) (by simp [madeCells])
    rw [toList_madeCells_one] at this
    exact (by simpa [nums] using this : (w.alloc (.cells (madeCells #[.int .u8 0] k) 5)).ownsRow w.heap.size 5 1 (.slice (some ⟨w.heap.size, 0, none⟩) k k) k (nums .u8 (List.replicate k 0)))
  obtain ⟨m0, hm0⟩ : ∃ m, m + 1 = k := ⟨k - 1, by omega⟩
  have E0 : Hid ((k : Int) - 1 = (m0 : Int)) := Lib.hid (by omega)
  have E1 : Hid (List.replicate k (0 : Int) = List.replicate (m0 + 1) 0 ++ []) := Lib.hid (by rw [hm0]; simp)
  have E2 : Hid (putB k n = putB (m0 + 1) n ++ []) := Lib.hid (by rw [hm0]; simp)
  have hm0' : m0 < k := by omega
  clear hm0
  go_enter Try.func49, Try.ntmps49
  go_wp2
  refine wp_scope_jumps 0 (PutInv w n k) (fun a _ => (intOf (a.tmps.getD 7 undef)).toNat) rfl ?_ ?_
  · go_wp2_with (go_at_call 39; refine (num_size_t _ _ h1' h2').mono ?_; rintro e w' ⟨rfl, rfl⟩)
    all_goals
      rw [E0.out]
      have HO := hown.out
      have HB := (Below.refl w.heap.size w).alloc (Nat.le_refl _) (.cells (madeCells #[.int .u8 0] k) 5)
      generalize (w.alloc (.cells (madeCells #[.int .u8 0] k) 5)) = W at HO HB ⊢
      have hc := HO.cellAt m0 (by omega)
      rw [nums_get _ _ _ (by simpa using hm0')] at hc
      have hf := HO.frozenAt m0
      rw [E1.out] at HO
      have HX := Lib.hid (put_store (n := n) HO HB)
      clear HO HB hown
      go_step3
      go_wp2
      · go_step3
        obtain ⟨m1, rfl⟩ : ∃ m, m0 = m + 1 := ⟨m0 - 1, by omega⟩
        rw [show ((m1 + 1 : Nat) : Int) - 1 = (m1 : Int) from by omega]
        exact ⟨rfl, n / 256, m1, _, _, _, _, _, _, _, _, _, _, _, _, _, _, _, _, _, _, _, _, _, _, _, _, _, _, _, _, _, _, _, rfl, by omega, by omega, by omega, by rw [E2.out, putB_split], HX.out.1, HX.out.2⟩
      · obtain rfl : m0 = 0 := by omega
        simp only [Exit.jump]
        go_ret2
        refine ⟨_, rfl, ?_, HX.out.2⟩
        rw [E2.out, putB_split]
        exact HX.out.1
  · rintro a' W ⟨N, m, done, u8, u9, u10, u11, u12, u13, u14, u15, u16, u17, u18, u19, u20, u21, u22, u23, u24, u25, u26, u27, u28, u29, u30, u31, u32, u33, u34, u35, u36, u37, rfl, g1, g2, g3, g4, HO, HB⟩
    have hl := HO.1
    rw [nums_len, List.length_append, List.length_replicate] at hl
    have hc := HO.cellAt m (by omega)
    rw [nums_get _ _ _ (by simp; omega)] at hc
    have hf := HO.frozenAt m
    have HX := Lib.hid (put_store (n := N) HO HB)
    have HP := Lib.hid g4
    clear HO HB hown E0 E1 E2 hl g4 hmk hsh
    go_wp2
    · go_step3
      obtain ⟨m1, rfl⟩ : ∃ q, m = q + 1 := ⟨m - 1, by omega⟩
      rw [show ((m1 + 1 : Nat) : Int) - 1 = (m1 : Int) from by omega]
      exact ⟨rfl, ⟨N / 256, m1, _, _, _, _, _, _, _, _, _, _, _, _, _, _, _, _, _, _, _, _, _, _, _, _, _, _, _, _, _, _, _, rfl, by omega, by omega, by omega, by rw [HP.out, putB_split], HX.out.1, HX.out.2⟩, by simp [intOf]⟩
    · obtain rfl : m = 0 := by omega
      simp only [Exit.jump]
      go_ret2
      refine ⟨_, rfl, ?_, HX.out.2⟩
      rw [HP.out, putB_split]
      exact HX.out.1

/-- api.Num *values* as cells -/
def numCells (l : List (Int × Int)) : List Value := l.flatMap fun x => [.int .u64 x.1, .int .i64 x.2]
def okN (x : Int × Int) : Prop := 1 ≤ x.2 ∧ x.2 ≤ 8 ∧ 0 ≤ x.1 ∧ x.1 < 18446744073709551616 ∧ x.1 < 256 ^ x.2.toNat
def bytesN (x : Int × Int) : List Int := putB x.2.toNat x.1
theorem numCells_len (l : List (Int × Int)) : (numCells l).length = l.length * 2 := by
  induction l with
  | nil => rfl
  | cons x l ih => simp only [numCells, List.flatMap_cons, List.length_append, List.length_cons] at ih ⊢; simp at ih ⊢; omega
theorem numCells_at (l : List (Int × Int)) (j : Nat) (x : Int × Int) (h : l[j]? = some x) : (numCells l)[j * 2]? = some (.int .u64 x.1) ∧ (numCells l)[j * 2 + 1]? = some (.int .i64 x.2) := by
  induction l generalizing j with
  | nil => simp at h
  | cons y l ih =>
    cases j with
    | zero => obtain rfl : y = x := by simpa using h
              simp [numCells]
    | succ j =>
      have := ih j (by simpa using h)
      rw [show (j + 1) * 2 = j * 2 + 1 + 1 from by omega]
      simpa [numCells] using this

end Go.Proofs.Ytfdlfkdefbfhfaa
