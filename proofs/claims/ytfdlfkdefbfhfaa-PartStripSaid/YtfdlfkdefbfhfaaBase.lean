import Derived.WalkKit
import Derived.WalkLawsBesides
import Derived.WalkSpells
import Derived.LoopTactic
import Derived.Outline
import Derived.Below
import Derived.Lib.Hide
import Derived.Laws.Rows
import Derived.Maps.AppendAt
import Derived.Laws.AppendOwnNone
import Derived.Deep.LoopGhost
import Derived.Deep.QuietTactic
import Derived.BigQuiet
import Derived.StillTailTactics
import Derived.RegionTactic
import Derived.Deep.DeepFit
set_option linter.unusedVariables false
set_option linter.unusedSimpArgs false
namespace Go.Proofs.Ytfdlfkdefbfhfaa
open Go.RowKit

/-! Rows of cells that are read. -/
/-- A slice value '.slice A n cap' whose n elements (sz cells each) read as cs. -/
structure Row (w : World) (A : Option Addr) (n cap sz : Nat) (cs : List Value) : Prop where
  len : cs.length = n * sz
  le : n ≤ cap
  capLe : cap ≤ 9223372036854775807
  nil : A = none → n = 0 ∧ cap = 0
  cell : 0 < n * sz → ∃ b off, A = some ⟨b, off, none⟩ ∧ ∀ j u, cs[j]? = some u → w.cell? ⟨b, off + j, none⟩ = some u

theorem add_none (b off j : Nat) : (⟨b, off, none⟩ : Addr).add j = ⟨b, off + j, none⟩ := by
  unfold Addr.add
  split <;> simp_all

theorem Row.below {w w' : World} {A : Option Addr} {n cap sz : Nat} {cs : List Value} (h : Row w A n cap sz cs) (hb : Below w.heap.size w w') : Row w' A n cap sz cs :=
  ⟨h.len, h.le, h.capLe, h.nil, fun hp => by
    obtain ⟨b, off, e, hc⟩ := h.cell hp
    exact ⟨b, off, e, fun j u hu => by
      have := hc j u hu
      rw [hb.cell (p := ⟨b, off + j, none⟩) (World.block_lt_of_cell? w _ this)]
      exact this⟩⟩

theorem Row.none_ (w : World) (sz : Nat) : Row w none 0 0 sz [] := ⟨by simp, by omega, by omega, fun _ => ⟨rfl, rfl⟩, fun h => by simp at h⟩

theorem Row.of_own {w : World} {base n sz : Nat} {e : TypeId} {v : Value} {xs : List Value} (h : w.ownsRow base e sz v n xs) : ∃ A cap, v = .slice A n cap ∧ Row w A n cap sz xs := by
  rcases h.2 with ⟨rfl, rfl⟩ | ⟨g, cap, cur, rfl, _, _, h1, h2, h3⟩
  · exact ⟨none, 0, rfl, h.1, by omega, by omega, fun _ => ⟨rfl, rfl⟩, fun hp => by simp at hp⟩
  · refine ⟨_, cap, rfl, h.1, h1, by simpa [maxLen] using h2, fun hn => by simp at hn, fun _ => ⟨g, 0, rfl, fun j u hu => ?_⟩⟩
    have := h.cells (g := g) rfl j u hu
    rwa [add_none] at this

theorem Row.new (w : World) (e : TypeId) (n sz : Nat) (cs : Array Value) (h : cs.size = n * sz) (hn : n ≤ 9223372036854775807) :
    Row (w.alloc (.cells cs e)) (some ⟨w.heap.size, 0, none⟩) n n sz cs.toList :=
  ⟨by simpa using h, Nat.le_refl _, hn, fun hn => by simp at hn, fun _ => ⟨_, 0, rfl, fun j u hu => by
    rw [Nat.zero_add, cell_of_row _ _ _ cs e (0, 0) (heap_alloc_new w _)]
    simpa using hu⟩⟩
theorem cell_keep {w w' : World} (hb : Below w.heap.size w w') {a : Addr} {v : Value} (h : w.cell? a = some v) : w'.cell? a = some v :=
  (hb.cell (World.block_lt_of_cell? w a h)).trans h
theorem own_base {w : World} {base : Nat} {e : TypeId} {size n : Nat} {v : Value} {xs : List Value} (h : w.ownsRow base e size v n xs) (k : Nat) (hk : v.ownBlock = some k) : base ≤ k :=
  (h.lt k hk).1
theorem own_below {w w1 : World} {base : Nat} {e : TypeId} {size n : Nat} {v : Value} {xs : List Value} (h : w.ownsRow base e size v n xs) (hb : Below w.heap.size w w1) : w1.ownsRow base e size v n xs :=
  h.kept (row := none) ⟨hb.os, hb.tape, hb.output, hb.size, fun k hk _ => hb.block k hk⟩ (by cases v.ownBlock <;> simp)
theorem own_form {w : World} {base : Nat} {e : TypeId} {size n : Nat} {v : Value} {xs : List Value} (h : w.ownsRow base e size v n xs) (hn : 0 < n) : ∃ g cap, v = .slice (some ⟨g, 0, none⟩) n cap := by
  rcases h.2 with ⟨_, h2⟩ | ⟨g, cap, cur, rfl, _⟩
  · omega
  · exact ⟨g, cap, rfl⟩
theorem own_lower {w : World} {base base' : Nat} {e : TypeId} {size n : Nat} {v : Value} {xs : List Value} (h : w.ownsRow base e size v n xs) (hb : base' ≤ base) : w.ownsRow base' e size v n xs := by
  refine ⟨h.1, ?_⟩
  rcases h.2 with h2 | ⟨g, cap, cur, rfl, hg, r⟩
  · exact .inl h2
  · exact .inr ⟨g, cap, cur, rfl, by omega, r⟩
theorem below_then {B : Nat} {w w1 w2 : World} (h : Below B w w1) (hB : B ≤ w1.heap.size) (k : Below w1.heap.size w1 w2) : Below B w w2 := h.trans (k.mono hB)

/-- append(v, x...): v of the call's own (or nil), x whatever is read. -/
theorem wpList_app {P : Program} {w0 w : World} {ops : Array Oper} {rest : List Oper} {o : Oper} {a : Act} {Q : Exit → Act → World → Prop} (base : Nat) (hgd : o.guard = none) (s x : Operand) (t : TypeId)
    (ho : o.op = .call { callee := .builtin .append, args := #[s, x], argTypes := #[t, t] })
    (e : TypeId) (z : Value) (size bytes : Nat) (ht : P.underlying t = some (.slice e)) (hinfo : (P.info? e).map (fun i => (i.zero, i.size, i.bytes)) = some (some z, size, bytes)) (hzs : z.cells.size = size) (hsz : 0 < size) (hby : 0 < bytes)
    (v : Value) (n : Nat) (xs : List Value) (A : Option Addr) (m c : Nat) (news : List Value) (hs : a.eval s = v) (hx : a.eval x = .slice A m c)
    (HO : w.ownsRow base e size v n xs) (HR : Row w A m c size news) (h1 : ∀ u ∈ news, u.oneCell' = true) (HB : Below base w0 w) (hbase : base ≤ w.heap.size) (hbytes : (n + m) * bytes ≤ 140737488355328)
    (h : ∀ v' w', w'.ownsRow base e size v' (n + m) (xs ++ news) → Below base w0 w' → w.grownBy w' v.ownBlock → (v'.ownBlock = v.ownBlock ∨ v'.ownBlock = some w.heap.size) → wpList P ops Q rest (a.put o.dst v') w') :
    wpList P ops Q (o :: rest) a w := by
  obtain ⟨i, hi, hzz⟩ := Option.map_eq_some_iff.1 hinfo
  simp only [Prod.mk.injEq] at hzz
  obtain ⟨hz0, hz1, hz2⟩ := hzz
  cases A with
  | none =>
    obtain ⟨rfl, rfl⟩ := HR.nil rfl
    have hn : news = [] := List.eq_nil_of_length_eq_zero (by have := HR.len; omega)
    subst hn
    refine wpList_append_own_none hgd s x t ho base e i size ht hi v n xs hs HO hx ?_
    exact h v w (by simpa using HO) HB ⟨rfl, rfl, rfl, Nat.le_refl _, fun _ _ _ => rfl⟩ (.inl rfl)
  | some ad =>
    have hlen : n + m ≤ 140737488355328 := Nat.le_trans (Nat.le_mul_of_pos_right _ hby) hbytes
    refine wpList_append_own_at w hgd s x t ho base e i z size bytes ht hi hz0 hz1 hz2 hzs hsz v n xs hs HO ad m c news hx HR.len ?_ h1 (by simp only [maxLen]; omega) hbytes hbase ?_
    · intro j u hu
      have hp : 0 < m * size := by have := HR.len; have := (List.getElem?_eq_some_iff.1 hu).1; omega
      obtain ⟨b, off, he, hc⟩ := HR.cell hp
      cases he
      rw [add_none]
      exact hc j u hu
    · intro v' w' hown hg _ hat
      exact h v' w' hown (HB.grown hg hbase (own_base HO)) hg hat

/-- whole numbers of a kind, as cells -/
def nums (k : IntKind) (l : List Int) : List Value := l.map (Value.int k)
theorem nums_len (k : IntKind) (l : List Int) : (nums k l).length = l.length := by simp [nums]
theorem nums_app (k : IntKind) (l m : List Int) : nums k (l ++ m) = nums k l ++ nums k m := by simp [nums]
/-- element j (0 behind the end); plain, so that the walk leaves it alone -/
def nth (l : List Int) (j : Nat) : Int := l.getD j 0
theorem nth_drop (l : List Int) (a j : Nat) : nth (l.drop a) j = nth l (a + j) := by simp [nth, List.getD_eq_getElem?_getD]
theorem nth_eq (l : List Int) (j : Nat) (h : j < l.length) : nth l j = l[j] := by simp [nth, List.getD_eq_getElem?_getD, List.getElem?_eq_getElem h]
theorem nums_get (k : IntKind) (l : List Int) (j : Nat) (h : j < l.length) : (nums k l)[j]? = some (.int k (nth l j)) := by
  simp [nums, nth, List.getElem?_eq_getElem h, List.getD_eq_getElem?_getD]
theorem Row.nums_at {w : World} {A : Option Addr} {n cap : Nat} {k : IntKind} {l : List Int} (h : Row w A n cap 1 (nums k l)) : l.length = n := by
  have := h.len; simpa [nums] using this
/-- The cells of a row of whole numbers. -/
theorem Row.ints {w : World} {A : Option Addr} {n cap : Nat} {k : IntKind} {l : List Int} (h : Row w A n cap 1 (nums k l)) (hn : 0 < n) :
    ∃ b off, A = some ⟨b, off, none⟩ ∧ ∀ j, j < n → w.cell? ⟨b, off + j, none⟩ = some (.int k (nth l j)) := by
  obtain ⟨b, off, e, hc⟩ := h.cell (by omega)
  exact ⟨b, off, e, fun j hj => hc j _ (nums_get k l j (by rw [h.nums_at]; omega))⟩

/-- bytes -/
def IsBytes (l : List Int) : Prop := ∀ x ∈ l, 0 ≤ x ∧ x < 256
theorem IsBytes.at_ {l : List Int} (h : IsBytes l) (j : Nat) : 0 ≤ nth l j ∧ nth l j < 256 := by
  unfold nth
  rw [List.getD_eq_getElem?_getD]
  cases hj : l[j]? with
  | none => simp
  | some x => exact h x (List.mem_of_getElem? hj)
theorem IsBytes.app {l m : List Int} (h : IsBytes l) (h' : IsBytes m) : IsBytes (l ++ m) := fun x hx => by
  rcases List.mem_append.1 hx with hx | hx
  · exact h x hx
  · exact h' x hx
theorem IsBytes.take {l : List Int} (h : IsBytes l) (n : Nat) : IsBytes (l.take n) := fun x hx => h x (List.mem_of_mem_take hx)
theorem IsBytes.drop {l : List Int} (h : IsBytes l) (n : Nat) : IsBytes (l.drop n) := fun x hx => h x (List.mem_of_mem_drop hx)

theorem take_nth (l : List Int) (j : Nat) (h : j < l.length) : l.take (j + 1) = l.take j ++ [nth l j] := by
  unfold nth
  rw [List.take_add_one, List.getElem?_eq_getElem h, List.getD_eq_getElem?_getD, List.getElem?_eq_getElem h]; rfl

/-- Big-endian. -/
def be (l : List Int) : Int := l.foldl (fun n c => n * 256 + c) 0
theorem be_snoc (l : List Int) (c : Int) : be (l ++ [c]) = be l * 256 + c := by simp [be]
theorem be_bound_rev (l : List Int) : IsBytes l.reverse → 0 ≤ be l.reverse ∧ be l.reverse < 256 ^ l.length := by
  induction l with
  | nil => intro _; simp [be]
  | cons c l ih =>
    intro h
    rw [List.reverse_cons] at h ⊢
    have h1 := ih (fun x hx => h x (List.mem_append_left _ hx))
    have h2 := h c (by simp)
    rw [be_snoc, List.length_cons, Int.pow_succ]
    omega
theorem be_bound (l : List Int) (h : IsBytes l) : 0 ≤ be l ∧ be l < 256 ^ l.length := by
  have := be_bound_rev l.reverse (by simpa using h)
  simpa using this

theorem be_take (l : List Int) (h : IsBytes l) (a j : Nat) (hj : a + j < l.length) (h7 : j ≤ 7) :
    be ((l.drop a).take (j + 1)) = be ((l.drop a).take j) * 256 + nth l (a + j) ∧ 0 ≤ be ((l.drop a).take j) ∧ be ((l.drop a).take j) < 72057594037927936 := by
  have hlen : ((l.drop a).take j).length = j := by rw [List.length_take, List.length_drop]; omega
  have hbb := be_bound ((l.drop a).take j) ((h.drop a).take j)
  rw [hlen] at hbb
  have hpow : (256 : Int) ^ j ≤ 72057594037927936 := by
    have : j = 0 ∨ j = 1 ∨ j = 2 ∨ j = 3 ∨ j = 4 ∨ j = 5 ∨ j = 6 ∨ j = 7 := by omega
    rcases this with rfl | rfl | rfl | rfl | rfl | rfl | rfl | rfl <;> decide
  refine ⟨?_, hbb.1, by omega⟩
  rw [take_nth _ _ (by rw [List.length_drop]; omega), be_snoc, nth_drop]

theorem ret_bool {a b : Bool} (h : a = b) : Ending.returned (.bool a) = .returned (.bool b) := by rw [h]
theorem ret_int {k : IntKind} {a b : Int} (h : a = b) : Ending.returned (.int k a) = .returned (.int k b) := by rw [h]
end Go.Proofs.Ytfdlfkdefbfhfaa
