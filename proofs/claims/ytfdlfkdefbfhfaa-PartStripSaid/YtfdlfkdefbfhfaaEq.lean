import Derived.Test.YtfdlfkdefbfhfaaBase
import Derived.ChangeKeysEq
import Derived.Laws.StructEq
import Derived.Test.YtfdlfkdefbfhfaaMem
set_option linter.unusedVariables false
set_option linter.unusedSimpArgs false
namespace Go.Proofs.Ytfdlfkdefbfhfaa
open Go.RowKit
variable {P : Program}

theorem run_part_int (w : World) (e : TypeId) (k : IntKind) (he : P.underlying e = some (.int k)) (cs : Array Value) (off : Nat) (v : Value) (h : cs[off]? = some v) : (part e cs off).run P w = .ok v w := by
  have hagg : (isAgg e).run P w = .ok false w := by
    unfold isAgg
    rw [Sem.run_bind, run_underlying he w]
    rfl
  simp [part, Sem.run_bind, hagg, h]

theorem run_eqItems (w : World) (d : Nat) (e : TypeId) (k : IntKind) (he : P.underlying e = some (.int k)) (xs ys : List Int) (n : Nat) (hx : xs.length = n) (hy : ys.length = n) (m : Nat) :
    ∀ s, s + m = n → (Op.eqItems (d + 1) e 1 (nums k xs).toArray (nums k ys).toArray (List.range' s m)).run P w = .ok (decide (xs.drop s = ys.drop s)) w := by
  induction m with
  | zero =>
    intro s hs
    have e1 : xs.drop s = [] := List.drop_of_length_le (by omega)
    have e2 : ys.drop s = [] := List.drop_of_length_le (by omega)
    simp [Op.eqItems, e1, e2]
  | succ m ih =>
    intro s hs
    rw [List.range'_succ]
    have ha : (nums k xs).toArray[s * 1]? = some (.int k (nth xs s)) := by rw [Nat.mul_one, List.getElem?_toArray]; exact nums_get k xs s (by omega)
    have hb : (nums k ys).toArray[s * 1]? = some (.int k (nth ys s)) := by rw [Nat.mul_one, List.getElem?_toArray]; exact nums_get k ys s (by omega)
    have hi := ih (s + 1) (by omega)
    have dx : xs.drop s = nth xs s :: xs.drop (s + 1) := by rw [nth_eq _ _ (by omega)]; exact List.drop_eq_getElem_cons (by omega)
    have dy : ys.drop s = nth ys s :: ys.drop (s + 1) := by rw [nth_eq _ _ (by omega)]; exact List.drop_eq_getElem_cons (by omega)
    simp only [Op.eqItems, Sem.run_bind, run_part_int w e k he _ _ _ ha, run_part_int w e k he _ _ _ hb, Result.andThen_ok, run_equalIn_int w d e k k _ _ he]
    rw [dx, dy]
    by_cases hq : nth xs s = nth ys s
    · simp [hq, hi]
    · simp [hq]

theorem run_equalIn_nums (w : World) (d : Nat) (t e : TypeId) (n : Nat) (k : IntKind) (hu : P.underlying t = some (.array n e)) (he : P.underlying e = some (.int k)) (hs : P.cellsOf e = 1) (i : TypeInfo) (hi : P.info? e = some i)
    (xs ys : List Int) (hx : xs.length = n) (hy : ys.length = n) : (Op.equalIn (d + 2) t (.agg (nums k xs).toArray) (.agg (nums k ys).toArray)).run P w = .ok (decide (xs = ys)) w := by
  rw [run_equalIn_array w (d + 1) _ _ hu hi, hs, List.range_eq_range']
  have := run_eqItems w d e k he xs ys n hx hy n 0 (by omega)
  simpa using this

/-- fields: (type, offset) -/
def EqRun (P : Program) (d : Nat) (fs : List (TypeId × Nat)) (xs ys : List Value) (b : Bool) : Prop :=
  ∀ (l : List Field) (w : World), l.map (fun f => (f.type, f.offset)) = fs → l.all (fun f => f.name != "_") = true → (Op.eqFields d xs.toArray ys.toArray l).run P w = .ok b w
theorem EqRun.nil (d : Nat) (xs ys : List Value) : EqRun P d [] xs ys true := by
  intro l w hl _
  obtain rfl : l = [] := List.map_eq_nil_iff.1 hl
  simp [Op.eqFields]
theorem eqRun_cons {d : Nat} {t : TypeId} {off : Nat} {fs : List (TypeId × Nat)} {xs ys : List Value} {q r : Bool}
    (h : ∀ w, ∃ a b, (part t xs.toArray off).run P w = .ok a w ∧ (part t ys.toArray off).run P w = .ok b w ∧ (Op.equalIn d t a b).run P w = .ok q w) (hr : EqRun P d fs xs ys r) :
    EqRun P d ((t, off) :: fs) xs ys (q && r) := by
  intro l w hl hn
  cases l with
  | nil => cases hl
  | cons f l =>
    simp only [List.map_cons, List.cons.injEq, Prod.mk.injEq] at hl
    obtain ⟨⟨h1, h2⟩, h3⟩ := hl
    simp only [List.all_cons, Bool.and_eq_true, bne_iff_ne] at hn
    obtain ⟨a, b, ha, hb, hq⟩ := h w
    have hrr := hr l w h3 hn.2
    simp only [Op.eqFields, if_pos hn.1, h1, h2, Sem.run_bind, ha, hb, hq, Result.andThen_ok]
    cases q <;> simp [hrr]
theorem EqRun.int {d : Nat} {t : TypeId} {off : Nat} {k : IntKind} {fs : List (TypeId × Nat)} {xs ys : List Value} {r : Bool} {a b : Int} (ht : P.underlying t = some (.int k))
    (ha : xs[off]? = some (.int k a)) (hb : ys[off]? = some (.int k b)) (hr : EqRun P (d + 1) fs xs ys r) : EqRun P (d + 1) ((t, off) :: fs) xs ys (decide (a = b) && r) :=
  eqRun_cons (fun w => ⟨_, _, run_part_int w t k ht _ _ _ (by simpa using ha), run_part_int w t k ht _ _ _ (by simpa using hb), by rw [run_equalIn_int w d t k k _ _ ht]; rfl⟩) hr
theorem run_part_bool (w : World) (e : TypeId) (he : P.underlying e = some .bool) (cs : Array Value) (off : Nat) (v : Value) (h : cs[off]? = some v) : (part e cs off).run P w = .ok v w := by
  have hagg : (isAgg e).run P w = .ok false w := by
    unfold isAgg
    rw [Sem.run_bind, run_underlying he w]
    rfl
  simp [part, Sem.run_bind, hagg, h]
theorem EqRun.bool {d : Nat} {t : TypeId} {off : Nat} {fs : List (TypeId × Nat)} {xs ys : List Value} {r : Bool} {a b : Bool} (ht : P.underlying t = some .bool)
    (ha : xs[off]? = some (.bool a)) (hb : ys[off]? = some (.bool b)) (hr : EqRun P (d + 1) fs xs ys r) : EqRun P (d + 1) ((t, off) :: fs) xs ys (decide (a = b) && r) :=
  eqRun_cons (fun w => ⟨_, _, run_part_bool w t ht _ _ _ (by simpa using ha), run_part_bool w t ht _ _ _ (by simpa using hb), by
    rw [run_equalIn_bool w d t _ _ ht]; cases a <;> cases b <;> rfl⟩) hr
theorem EqRun.nums {d : Nat} {t e : TypeId} {off n : Nat} {k : IntKind} {fs : List (TypeId × Nat)} {xs ys : List Value} {r : Bool} {a b : List Int} (ht : P.underlying t = some (.array n e)) (he : P.underlying e = some (.int k))
    (hs : P.cellsOf e = 1) {i j : TypeInfo} (hi : P.info? e = some i) (hj : P.info? t = some j) (hn : j.size = n) (la : a.length = n) (lb : b.length = n)
    (ha : (xs.drop off).take n = nums k a) (hb : (ys.drop off).take n = nums k b) (hr : EqRun P (d + 2) fs xs ys r) : EqRun P (d + 2) ((t, off) :: fs) xs ys (decide (a = b) && r) :=
  eqRun_cons (fun w => by
    have hp : ∀ (cs : List Value) (c : List Int), (cs.drop off).take n = Go.Proofs.Ytfdlfkdefbfhfaa.nums k c → (part t cs.toArray off).run P w = .ok (.agg (Go.Proofs.Ytfdlfkdefbfhfaa.nums k c).toArray) w := by
      intro cs c hc
      simp [part, Sem.run_bind, run_isAgg t _ ht rfl, sizeOf, typeInfo, hj, hn, hc]
    exact ⟨_, _, hp xs a ha, hp ys b hb, run_equalIn_nums w d t e n k ht he hs i hi a b la lb⟩) hr

theorem run_eql_of (t : TypeId) (fs : List (TypeId × Nat)) (xs ys : List Value) (b : Bool) (ht : P.underlying t = some (.struct (P.fieldsOf t))) (hp : P.stoodInHeld t = false)
    (hfs : (P.fieldsOf t).toList.map (fun f => (f.type, f.offset)) = fs) (hn : (P.fieldsOf t).toList.all (fun f => f.name != "_") = true) (h : EqRun P 9999 fs xs ys b) (w : World) :
    (binOp .eql t (.agg xs.toArray) (.agg ys.toArray)).run P w = .ok (.bool b) w ∧ (binOp .neq t (.agg xs.toArray) (.agg ys.toArray)).run P w = .ok (.bool (!b)) w := by
  rw [run_eql_struct, run_neq_struct, run_equalIn_struct w 9999 t _ _ ht hp, h _ w hfs hn]
  exact ⟨rfl, rfl⟩
end Go.Proofs.Ytfdlfkdefbfhfaa
