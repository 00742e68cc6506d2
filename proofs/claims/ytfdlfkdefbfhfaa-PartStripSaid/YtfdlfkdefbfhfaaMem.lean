import Derived.Test.YtfdlfkdefbfhfaaBase
import Derived.Laws.CopyOwn
import Derived.Lib.AppendZerosOnto
set_option linter.unusedVariables false
set_option linter.unusedSimpArgs false
namespace Go.Proofs.Ytfdlfkdefbfhfaa
open Go.RowKit

/-- Block g holds the cells cs (of type e), none frozen. -/
def Blk (w : World) (g : Nat) (e : TypeId) (cs : List Value) : Prop := w.heap[g]? = some (.cells cs.toArray e (0, 0))
theorem Blk.lt {w : World} {g : Nat} {e : TypeId} {cs : List Value} (h : Blk w g e cs) : g < w.heap.size := (Array.getElem?_eq_some_iff.1 h).1
theorem Blk.cell {w : World} {g : Nat} {e : TypeId} {cs : List Value} (h : Blk w g e cs) (j : Nat) : w.cell? ⟨g, j, none⟩ = cs[j]? := by
  rw [cell_of_row w g j _ e (0, 0) h]; simp
theorem Blk.frozen {w : World} {g : Nat} {e : TypeId} {cs : List Value} (h : Blk w g e cs) (j : Nat) : w.frozen? ⟨g, j, none⟩ = false := frozen_of_row w g j _ e h
theorem Blk.new (w : World) (e : TypeId) (cs : List Value) : Blk (w.alloc (.cells cs.toArray e)) w.heap.size e cs := heap_alloc_new w _
theorem Blk.new' (w : World) (e : TypeId) (cs : Array Value) : Blk (w.alloc (.cells cs e)) w.heap.size e cs.toList := by
  unfold Blk; simpa using heap_alloc_new w (.cells cs e)
theorem Blk.below {w w' : World} {B g : Nat} {e : TypeId} {cs : List Value} (h : Blk w g e cs) (hb : Below B w w') (hg : g < B) : Blk w' g e cs := (hb.block g hg).trans h
theorem Blk.belowS {w w' : World} {g : Nat} {e : TypeId} {cs : List Value} (h : Blk w g e cs) (hb : Below w.heap.size w w') : Blk w' g e cs := h.below hb h.lt
theorem Blk.alloc {w : World} {g : Nat} {e : TypeId} {cs : List Value} (h : Blk w g e cs) (o : Obj) : Blk (w.alloc o) g e cs := (Below.heap_alloc w o g h.lt).trans h
theorem Blk.drew {w : World} {g : Nat} {e : TypeId} {cs : List Value} (h : Blk w g e cs) : Blk w.drew g e cs := h
theorem Blk.grown {w w' : World} {g : Nat} {e : TypeId} {cs : List Value} {row : Option Nat} (h : Blk w g e cs) (hg : w.grownBy w' row) (hne : some g ≠ row) : Blk w' g e cs := (hg.block g h.lt hne).trans h
theorem Blk.set {w : World} {g : Nat} {e : TypeId} {cs : List Value} (h : Blk w g e cs) (C : List Value) : Blk (w.setRow g C.toArray) g e C := setRow_heap w g _ _ e _ h
theorem Blk.other {w : World} {g g' : Nat} {e : TypeId} {cs : List Value} (h : Blk w g e cs) (hne : g ≠ g') (C : Array Value) : Blk (w.setRow g' C) g e cs :=
  (setRow_other w g' g C (by omega)).trans h
theorem Blk.setCell {w : World} {g : Nat} {e : TypeId} {cs : List Value} (h : Blk w g e cs) (j : Nat) (v : Value) : Blk (w.setCell ⟨g, j, none⟩ v) g e (cs.set j v) := by
  have := heap_setCell_same w g j _ e v h
  unfold Blk
  rw [this]
  simp
theorem Blk.setCell_other {w : World} {g : Nat} {e : TypeId} {cs : List Value} (h : Blk w g e cs) {p : Addr} (hne : g ≠ p.block) (v : Value) : Blk (w.setCell p v) g e cs :=
  (heap_setCell_other w p g v hne).trans h
theorem Blk.row {w : World} {g : Nat} {e : TypeId} {cs : List Value} (h : Blk w g e cs) (n sz : Nat) (hl : cs.length = n * sz) (hn : n ≤ 9223372036854775807) : Row w (some ⟨g, 0, none⟩) n n sz cs :=
  ⟨hl, Nat.le_refl _, hn, fun hn => by simp at hn, fun _ => ⟨g, 0, rfl, fun j u hu => by rw [Nat.zero_add, h.cell]; exact hu⟩⟩
theorem Blk.own {w : World} {g base : Nat} {e : TypeId} {cs : List Value} (h : Blk w g e cs) (n sz : Nat) (hl : cs.length = n * sz) (hn : n ≤ 9223372036854775807) (hb : base ≤ g) : w.ownsRow base e sz (.slice (some ⟨g, 0, none⟩) n n) n cs :=
  ⟨hl, .inr ⟨g, n, cs.toArray, rfl, hb, h, Nat.le_refl _, by simpa [maxLen] using hn, by simpa using hl, by simp [← hl]⟩⟩
theorem grown_setRow {w : World} {g : Nat} (C : Array Value) : w.grownBy (w.setRow g C) (some g) :=
  ⟨rfl, rfl, rfl, by simp, fun k _ hk => setRow_other w g k C (fun e => hk (by rw [e]))⟩

theorem grown_setCell {w : World} {p : Addr} {v : Value} : w.grownBy (w.setCell p v) (some p.block) :=
  ⟨rfl, rfl, rfl, by simp [World.setCell], fun k _ hk => heap_setCell_other w p k v (fun e => hk (by rw [e]))⟩
theorem grown_refl (w : World) (row : Option Nat) : w.grownBy w row := ⟨rfl, rfl, rfl, Nat.le_refl _, fun _ _ _ => rfl⟩
theorem grown_trans {a b c : World} {row : Option Nat} (h : a.grownBy b row) (k : b.grownBy c row) : a.grownBy c row :=
  ⟨k.os.trans h.os, k.tape.trans h.tape, k.output.trans h.output, Nat.le_trans h.size k.size, fun i hi hne => (k.block i (Nat.lt_of_lt_of_le hi h.size) hne).trans (h.block i hi hne)⟩
theorem grown_of_none {a b : World} (h : a.grownBy b none) (row : Option Nat) : a.grownBy b row := ⟨h.os, h.tape, h.output, h.size, fun i hi _ => h.block i hi (by simp)⟩
theorem grown_of_below {w w1 : World} (h : Below w.heap.size w w1) (row : Option Nat) : w.grownBy w1 row := ⟨h.os, h.tape, h.output, h.size, fun i hi _ => h.block i hi⟩
theorem below_of_grown {w w1 : World} (h : w.grownBy w1 none) : Below w.heap.size w w1 := ⟨h.os, h.tape, h.output, h.size, fun i hi => h.block i hi (by simp)⟩
theorem grown_drew {a b : World} {row : Option Nat} (h : a.grownBy b row) : a.grownBy b.drew row := ⟨h.os, h.tape, h.output, h.size, h.block⟩
theorem Row.grown {w w' : World} {A : Option Addr} {n cap sz : Nat} {cs : List Value} {g : Nat} (h : Row w A n cap sz cs) (hg : w.grownBy w' (some g)) (hne : ∀ b off, A = some ⟨b, off, none⟩ → b ≠ g) : Row w' A n cap sz cs :=
  ⟨h.len, h.le, h.capLe, h.nil, fun hp => by
    obtain ⟨b, off, e, hc⟩ := h.cell hp
    exact ⟨b, off, e, fun j u hu => hg.cell (hc j u hu) (fun e2 => hne b off e (by injection e2))⟩⟩

/-- A result that lies in a variable; behind it one in a slot. -/
theorem results_cell_tmp {P : Program} {fn : Func} {p t : Tmp} {ty : TypeId} (h : fn.results = #[.cell p ty, .tmp t]) (tmps : Array Value) (w : World) (g : Nat) (e : TypeId) (cs : List Value) (d : TypeDesc)
    (hp : tmps.getD p undef = .pointer (some ⟨g, 0, none⟩)) (hg : Blk w g e cs) (hu : P.underlying ty = some d) (hd : (match d with | .struct _ | .array _ _ => true | _ => false) = true) (hi : (P.info? ty).map (·.size) = some cs.length) :
    (results fn tmps).run P w = .ok (.tuple #[.agg cs.toArray, tmps.getD t undef]) w := by
  have hp' : tmps[p]?.getD undef = .pointer (some ⟨g, 0, none⟩) := by simpa using hp
  simp [results, h, hp', asAddr, run_loadVar_row w g e ty cs.toArray (0, 0) d hg hu hd (by simpa using hi)]

section laws
variable {P : Program} {w0 w : World} {ops : Array Oper} {rest : List Oper} {o : Oper} {a : Act} {Q : Exit → Act → World → Prop}

def isAggD : TypeDesc → Bool
  | .struct _ => true
  | .array _ _ => true
  | _ => false

theorem run_isAgg (ty : TypeId) (d : TypeDesc) (hu : P.underlying ty = some d) (hd : isAggD d = true) (w : World) : (isAgg ty).run P w = .ok true w := by
  unfold isAgg
  rw [Sem.run_bind, run_underlying hu w]
  cases d <;> simp_all [isAggD]

theorem run_loadVar_agg (ty : TypeId) (d : TypeDesc) (hu : P.underlying ty = some d) (hd : isAggD d = true) (cs : List Value) (hi : (P.info? ty).map (·.size) = some cs.length)
    (b off : Nat) (hc : ∀ j u, cs[j]? = some u → w.cell? ⟨b, off + j, none⟩ = some u) : (loadVar ty ⟨b, off, none⟩).run P w = .ok (.agg cs.toArray) w := by
  have hl := run_loadCells_list (P := P) (w := w) ⟨b, off, none⟩ cs (fun j v hv => by rw [add_none]; exact hc j v hv)
  cases hq : P.info? ty with
  | none => simp [hq] at hi
  | some i =>
    have hs : i.size = cs.length := by simpa [hq] using hi
    simp [loadVar, Sem.run_bind, run_isAgg ty d hu hd, sizeOf, typeInfo, hq, hs, hl]

/-- A struct or an array is loaded, its cells being known. -/
theorem wpList_loadS (hgd : o.guard = none) (ty : TypeId) (x : Operand) (ho : o.op = .load ty x) (b off : Nat) (hx : a.eval x = .pointer (some ⟨b, off, none⟩)) (d : TypeDesc)
    (hu : P.underlying ty = some d) (hd : isAggD d = true) (cs : List Value) (hi : (P.info? ty).map (·.size) = some cs.length)
    (hc : ∀ j u, cs[j]? = some u → w.cell? ⟨b, off + j, none⟩ = some u) (h : wpList P ops Q rest (a.put o.dst (.agg cs.toArray)) w) : wpList P ops Q (o :: rest) a w :=
  wpList_plain hgd fun K hK => by
    unfold Oper.wp execOp
    simp only [ho, hx, Instr.loadAt, Instr.sureAddr, Sem.run_bind, Sem.run_pure, Result.andThen_ok, run_loadVar_agg ty d hu hd cs hi b off hc]
    exact hK _ _ h

theorem run_storeVar_blk (ty : TypeId) (cs : List Value) (v : Value) (hv : v.cells = cs.toArray) (hi : (P.info? ty).map (·.size) = some cs.length) (h1 : ∀ u ∈ cs, u.oneCell' = true)
    (g off : Nat) (e : TypeId) (cur : List Value) (hg : Blk w g e cur) (hfit : off + cs.length ≤ cur.length) :
    (storeVar ty ⟨g, off, none⟩ v).run P w = .ok () (w.setRow g (cur.take off ++ cs ++ cur.drop (off + cs.length)).toArray) := by
  cases hq : P.info? ty with
  | none => simp [hq] at hi
  | some i =>
    have hs : i.size = cs.length := by simpa [hq] using hi
    have hst := run_storeCells_at (P := P) g off e cs 0 cur.toArray w hg (by simpa using hfit) h1
    simp only [Nat.add_zero, List.toList_toArray] at hst
    simp [storeVar, Sem.run_bind, sizeOf, typeInfo, hq, hs, hv, hst]

/-- A struct or an array is stored into a block of the call's own. -/
theorem wpList_storeS (hgd : o.guard = none) (ty : TypeId) (x y : Operand) (ho : o.op = .store ty x y) (g off : Nat) (hx : a.eval x = .pointer (some ⟨g, off, none⟩)) (cs : List Value)
    (hy : (a.eval y).cells = cs.toArray) (hi : (P.info? ty).map (·.size) = some cs.length) (h1 : ∀ u ∈ cs, u.oneCell' = true) (e : TypeId) (cur : List Value) (hg : Blk w g e cur) (hfit : off + cs.length ≤ cur.length)
    (h : wpList P ops Q rest (a.put o.dst undef) (w.setRow g (cur.take off ++ cs ++ cur.drop (off + cs.length)).toArray)) : wpList P ops Q (o :: rest) a w :=
  wpList_plain hgd fun K hK => by
    unfold Oper.wp execOp
    simp only [ho, hx, Instr.storeAt, Instr.sureAddr, Sem.run_bind, Sem.run_pure, Result.andThen_ok, run_storeVar_blk ty cs _ hy hi h1 g off e cur hg hfit]
    exact hK _ _ h

theorem own_splice {base g n cap sz off : Nat} {e : TypeId} {xs cs : List Value} (HO : w.ownsRow base e sz (.slice (some ⟨g, 0, none⟩) n cap) n xs) (hfit : off + cs.length ≤ n * sz) :
    ∃ cur : Array Value, w.heap[g]? = some (.cells cur e (0, 0)) ∧ off + cs.length ≤ cur.size ∧
      (w.setRow g (cur.toList.take off ++ cs ++ cur.toList.drop (off + cs.length)).toArray).ownsRow base e sz (.slice (some ⟨g, 0, none⟩) n cap) n (xs.take off ++ cs ++ xs.drop (off + cs.length)) := by
  have hx := HO.1
  rcases HO.2 with ⟨h, _⟩ | ⟨g', cap', cur, he, hb, hg, hn, hm, hs, ht⟩
  · cases h
  · injection he with he1 he2 he3
    injection he1 with he1
    injection he1 with he1
    subst he1; subst he3
    have hle : n * sz ≤ cap * sz := Nat.mul_le_mul_right _ hn
    refine ⟨cur, hg, by omega, by simp [hx]; omega, .inr ⟨g, cap, _, rfl, hb, setRow_heap w g _ _ e _ hg, hn, hm, by simp [hs]; omega, ?_⟩⟩
    have hcl : cur.toList.length = cap * sz := by simpa using hs
    have e1 : xs = cur.toList.take (n * sz) := ht.symm
    rw [e1]
    apply List.ext_getElem?
    intro i
    simp only [List.getElem?_take, List.getElem?_append, List.length_take, List.length_append, List.getElem?_drop]
    simp only [hcl]
    have m1 : min off (cap * sz) = off := by omega
    have m2 : min off (min (n * sz) (cap * sz)) = off := by omega
    simp only [m1, m2]
    split
    · split
      · split
        · rfl
        · rfl
      · have : off + cs.length + (i - (off + cs.length)) = i := by omega
        rw [this, if_pos (by omega)]
    · rename_i h
      rw [if_neg (by omega)]
      have : off + cs.length + (i - (off + cs.length)) = i := by omega
      rw [this, if_neg (by omega)]

/-- copy(v[k:..], x): into a row of the call's own. -/
theorem wpList_copyS (B : Nat) (hgd : o.guard = none) (d s : Operand) (dT sT : TypeId)
    (ho : o.op = .call { callee := .builtin .copy, args := #[d, s], argTypes := #[dT, sT] }) (e : TypeId) (hu : P.underlying dT = some (.slice e)) (sz : Nat) (hsz : (P.info? e).map (·.size) = some sz)
    (base g n cap : Nat) (xs : List Value) (HO : w.ownsRow base e sz (.slice (some ⟨g, 0, none⟩) n cap) n xs) (off dLen dCap : Nat) (hd : a.eval d = .slice (some ⟨g, off, none⟩) dLen dCap)
    (A : Option Addr) (sLen sCap : Nat) (cs : List Value) (hs : a.eval s = .slice A sLen sCap) (HR : Row w A sLen sCap sz cs) (h1 : ∀ u ∈ cs, u.oneCell' = true) (m : Nat) (hm : Nat.min sLen dLen = m)
    (hfit : off + m * sz ≤ n * sz) (HB : Below B w0 w) (hBb : B ≤ base)
    (h : ∀ w', w'.ownsRow base e sz (.slice (some ⟨g, 0, none⟩) n cap) n (xs.take off ++ cs.take (m * sz) ++ xs.drop (off + m * sz)) → Below B w0 w' → w.grownBy w' (some g) → wpList P ops Q rest (a.put o.dst (goInt m)) w') :
    wpList P ops Q (o :: rest) a w := by
  have hml : m ≤ sLen := by rw [← hm]; exact Nat.min_le_left _ _
  have hcl : (cs.take (m * sz)).length = m * sz := by
    rw [List.length_take, HR.len]
    have := Nat.mul_le_mul_right sz hml
    omega
  obtain ⟨cur, hg, hf, hown⟩ := own_splice (cs := cs.take (m * sz)) (off := off) HO (by omega)
  have hst := run_storeCells_at (P := P) g off e (cs.take (m * sz)) 0 cur w hg (by simpa using hf) (fun u hu' => h1 u (List.mem_of_mem_take hu'))
  simp only [Nat.add_zero] at hst
  rw [hcl] at hst hown
  have hload : (Builtin.firstCells sz m (.slice A sLen sCap)).run P w = .ok (cs.take (m * sz)).toArray w := by
    cases A with
    | none =>
      obtain ⟨rfl, _⟩ := HR.nil rfl
      obtain rfl : m = 0 := by omega
      simp [Builtin.firstCells]
    | some ad =>
      rcases Nat.eq_zero_or_pos (m * sz) with h0 | h0
      · rw [h0]
        simp [Builtin.firstCells, h0, loadCells, loadCellsFrom]
      · have := Nat.mul_le_mul_right sz hml
        obtain ⟨b, of, he, hc⟩ := HR.cell (by omega)
        cases he
        have hl := run_loadCells_list (P := P) (w := w) ⟨b, of, none⟩ (cs.take (m * sz)) (fun j v hv => by
          rw [add_none]
          exact hc j v (by rw [List.getElem?_take] at hv; split at hv; exact hv; cases hv))
        rw [hcl] at hl
        simpa [Builtin.firstCells] using hl
  refine wpList_plain hgd fun K hK => ?_
  obtain ⟨i, hi, his⟩ := Option.map_eq_some_iff.1 hsz
  have hrun : (Builtin.copy_ #[dT, sT] o.type #[.slice (some ⟨g, off, none⟩) dLen dCap, .slice A sLen sCap]).run P w = .ok (goInt m) (w.setRow g (cur.toList.take off ++ cs.take (m * sz) ++ cur.toList.drop (off + m * sz)).toArray) := by
    simp [Builtin.copy_, Builtin.lenOf, sizeOf, typeInfo, hi, his, run_underlying hu, hm, hload, hst]
  have hb : base ≤ g := (HO.lt g (by simp [Value.ownBlock])).1
  have hfin := hK _ _ (h _ hown (below_setRow HB (by omega) _) (grown_setRow _))
  generalize (w.setRow g (cur.toList.take off ++ cs.take (m * sz) ++ cur.toList.drop (off + m * sz)).toArray) = W at hrun hfin
  unfold Oper.wp execOp
  simp [ho, resolve, invoke, builtin, hd, hs, hrun]
  exact hfin

/-- A variable of a struct's or an array's type. -/
theorem wpList_allocS (B : Nat) (hgd : o.guard = none) (ty : TypeId) (ho : o.op = .alloc ty) (cs : List Value) (z : Value) (hz : (P.info? ty).map (·.zero) = some (some z)) (hzc : z.cells = cs.toArray)
    (HB : Below B w0 w) (hB : B ≤ w.heap.size)
    (h : ∀ W, Blk W w.heap.size ty cs → w.grownBy W none → Below B w0 W → W.heap.size = w.heap.size + 1 → wpList P ops Q rest (a.put o.dst (.pointer (some ⟨w.heap.size, 0, none⟩))) W) :
    wpList P ops Q (o :: rest) a w := by
  refine wpList_plain hgd fun K hK => ?_
  obtain ⟨i, hi, hiz⟩ := Option.map_eq_some_iff.1 hz
  have hfin := hK _ _ (h _ (Blk.new w ty cs) (World.grownBy_alloc w _ none) (HB.alloc hB _) (by simp))
  have hrun : (Instr.alloc ty true (.tuple #[])).run P w = .ok (.pointer (some ⟨w.heap.size, 0, none⟩)) (w.alloc (.cells cs.toArray ty)) := by
    simp [Instr.alloc, zeroValue, typeInfo, hi, hiz, newVar, newRow, hzc]
  unfold Oper.wp execOp
  simp only [ho, Sem.run_bind, hrun, Result.andThen_ok, Sem.run_pure]
  exact hfin
/-- A parameter, or a composite, boxed. -/
theorem wpList_boxS (B : Nat) (hgd : o.guard = none) (ty : TypeId) (x : Operand) (ho : o.op = .box ty x) (cs : List Value) (hx : (a.eval x).cells = cs.toArray)
    (HB : Below B w0 w) (hB : B ≤ w.heap.size)
    (h : ∀ W, Blk W w.heap.size ty cs → w.grownBy W none → Below B w0 W → W.heap.size = w.heap.size + 1 → wpList P ops Q rest (a.put o.dst (.pointer (some ⟨w.heap.size, 0, none⟩))) W) :
    wpList P ops Q (o :: rest) a w := by
  refine wpList_plain hgd fun K hK => ?_
  have hfin := hK _ _ (h _ (Blk.new w ty cs) (World.grownBy_alloc w _ none) (HB.alloc hB _) (by simp))
  have hrun : (Instr.box ty (a.eval x)).run P w = .ok (.pointer (some ⟨w.heap.size, 0, none⟩)) (w.alloc (.cells cs.toArray ty)) := by
    simp [Instr.box, newVar, newRow, hx]
  unfold Oper.wp execOp
  simp only [ho, Sem.run_bind, hrun, Result.andThen_ok, Sem.run_pure]
  exact hfin
/-- A composite whose run is known. -/
theorem wpList_buildR (hgd : o.guard = none) (ty : TypeId) (l : List (Nat × Operand)) (ho : o.op = .build ty l.toArray) (ps : List (Nat × Value)) (hp : l.map (fun x => (x.1, a.eval x.2)) = ps)
    (V : Value) (hrun : ∀ w, (Instr.build ty ps.toArray).run P w = .ok V w) (h : wpList P ops Q rest (a.put o.dst V) w) : wpList P ops Q (o :: rest) a w := by
  refine wpList_plain hgd fun K hK => ?_
  have hfin := hK _ _ h
  subst hp
  unfold Oper.wp execOp
  simp only [ho, Sem.run_bind, List.map_toArray, hrun, Result.andThen_ok, Sem.run_pure]
  exact hfin
/-- A struct or an array stored into a block; the world behind it under a letter. -/
theorem wpList_storeW (B : Nat) (hgd : o.guard = none) (ty : TypeId) (x y : Operand) (ho : o.op = .store ty x y) (g off : Nat) (hx : a.eval x = .pointer (some ⟨g, off, none⟩)) (cs : List Value)
    (hy : (a.eval y).cells = cs.toArray) (hi : (P.info? ty).map (·.size) = some cs.length) (h1 : ∀ u ∈ cs, u.oneCell' = true) (e : TypeId) (cur : List Value) (hg : Blk w g e cur) (hfit : off + cs.length ≤ cur.length)
    (HB : Below B w0 w) (hB : B ≤ g) (new : List Value) (hnew : cur.take off ++ cs ++ cur.drop (off + cs.length) = new)
    (h : ∀ W, Blk W g e new → w.grownBy W (some g) → Below B w0 W → W.heap.size = w.heap.size → wpList P ops Q rest (a.put o.dst undef) W) : wpList P ops Q (o :: rest) a w := by
  subst hnew
  exact wpList_storeS hgd ty x y ho g off hx cs hy hi h1 e cur hg hfit (h _ (hg.set _) (grown_setRow _) (below_setRow HB hB _) (by simp))

/-- append(s[:0], make([]T, k)...) that must grow. -/
theorem wpList_app_zeros0 (B : Nat) (hgd : o.guard = none) (s x : Operand) (t tn : TypeId)
    (ho : o.op = .call { callee := .builtin .append, args := #[s, x], argTypes := #[t, tn] }) (e : TypeId) (z : Value) (size bytes : Nat)
    (ht : P.underlying t = some (.slice e)) (kn : IntKind) (htn : P.underlying tn = some (.int kn)) (hinfo : (P.info? e).map (fun i => (i.zero, i.size, i.bytes)) = some (some z, size, bytes)) (hzs : z.cells.size = size) (hsz : 0 < size)
    (A : Option Addr) (sCap : Nat) (hs : a.eval s = .slice A 0 sCap) (kq : IntKind) (k : Nat) (hx : a.eval x = .int kq (k : Int)) (h0 : 0 < k) (hg : sCap < k) (hk : k ≤ 140737488355328) (h48 : k * bytes ≤ 281474976710656)
    (hfit : Builtin.nextslicecap k sCap * bytes ≤ 281474976710656) (HB : Below B w0 w) (hB : B ≤ w.heap.size)
    (h : ∀ cap' w', w'.ownsRow B e size (.slice (some ⟨w.heap.size, 0, none⟩) k cap') k (Builtin.zeroCells z.cells k).toList → Below B w0 w' → w.grownBy w' none → k ≤ cap' →
      wpList P ops Q rest (a.put o.dst (.slice (some ⟨w.heap.size, 0, none⟩) k cap')) w') :
    wpList P ops Q (o :: rest) a w := by
  obtain ⟨i, hi, hzz⟩ := Option.map_eq_some_iff.1 hinfo
  simp only [Prod.mk.injEq] at hzz
  obtain ⟨hz0, hz1, hz2⟩ := hzz
  subst hz1 hz2
  have hcap : grownCap w (0 + k) sCap e ≤ maxLen := grownCap_le_maxLen w _ _ _ (by unfold maxLen; omega)
  have hcap2 : 0 + k ≤ grownCap w (0 + k) sCap e := grownCap_ge w _ _ _
  have hrun := Lib.run_append_grow_zeros (P := P) w t tn o.type e i z kq kn ht htn hi hz0 A 0 sCap [] (by cases A <;> simp [Builtin.firstCells, loadCells, loadCellsFrom]) k h0 hsz (by omega) (by omega) h48 (by simpa using hfit)
  refine Lib.wpList_append_run w hgd s x t tn ho _ _ hs hx _ _ hrun ?_
  simp only [Nat.zero_add] at hcap hcap2 hrun ⊢
  have hzl : (Builtin.zeroCells z.cells k).size = k * i.size := by rw [size_zeroCells, hzs]
  have hown : (w.drew.alloc (.cells (#[] ++ Builtin.zeroCells z.cells k ++ Builtin.zeroCells z.cells (grownCap w k sCap e - k)) e)).ownsRow B e i.size (.slice (some ⟨w.heap.size, 0, none⟩) k (grownCap w k sCap e)) k (Builtin.zeroCells z.cells k).toList := by
    refine ⟨by simpa using hzl, .inr ⟨w.heap.size, grownCap w k sCap e, _, rfl, hB, heap_alloc_new w.drew _, hcap2, hcap, ?_, ?_⟩⟩
    · simp only [Array.size_append, size_zeroCells, hzs, List.size_toArray, List.length_nil]
      rw [Nat.zero_add, ← Nat.add_mul]
      congr 1
      omega
    · simp [← hzl]
  exact h _ _ hown (HB.drew.alloc hB _) ⟨rfl, rfl, rfl, by simp, fun j hj _ => Below.heap_alloc w.drew _ j hj⟩ hcap2
end laws
/-- The cells of a block. -/
def rowOf (h : Array Obj) (g : Nat) : Array Value := match h[g]? with | some (.cells c _ _) => c | _ => #[]
theorem Blk.rowOf {w : World} {g : Nat} {e : TypeId} {cs : List Value} (h : Blk w g e cs) : rowOf w.heap g = cs.toArray := by
  have h' : w.heap[g]? = some (.cells cs.toArray e (0, 0)) := h
  simp [Go.Proofs.Ytfdlfkdefbfhfaa.rowOf, h']
theorem loadAt_row {P : Program} (ty : TypeId) (d : TypeDesc) (hu : P.underlying ty = some d) (hd : isAggD d = true) (n : Nat) (hn : 0 < n) (hi : (P.info? ty).map (·.size) = some n) (w : World) (g : Nat) (hs : (rowOf w.heap g).size = n) :
    (Instr.loadAt ty (.pointer (some ⟨g, 0, none⟩))).run P w = .ok (.agg (rowOf w.heap g)) w := by
  simp only [Instr.loadAt, Instr.sureAddr, Sem.run_bind, Sem.run_pure, Result.andThen_ok]
  unfold rowOf at hs ⊢
  split at hs
  · rename_i c t fr hg
    exact run_loadVar_row w g t _ c fr _ hg hu (by cases d <;> simp_all [isAggD]) (by rw [hs]; exact hi)
  · simp at hs; omega

/-- The block at whose head a pointer stands. -/
def headOf : Value → Option Nat
  | .pointer (some ⟨b, 0, none⟩) => some b
  | _ => none
theorem headOf_ptr (b : Nat) : headOf (.pointer (some ⟨b, 0, none⟩)) = some b := rfl
theorem exec_load_row {P : Program} (ty : TypeId) (d : TypeDesc) (hu : P.underlying ty = some d) (hd : isAggD d = true) (n : Nat) (hn : 0 < n) (hi : (P.info? ty).map (·.size) = some n)
    (ρ : Operand → Value) (x : Operand) (dst : Option Tmp) (ty' : TypeId) (pos : String) (af : Array Edge) (gd : Option (Nat × Bool)) (w : World) (hh : (headOf (ρ x)).isSome = true) (hs : (rowOf w.heap ((headOf (ρ x)).getD 0)).size = n) :
    (execOp ρ ⟨dst, .load ty x, ty', pos, af, gd⟩).run P w = .ok (.value (.agg (rowOf w.heap ((headOf (ρ x)).getD 0)))) w := by
  obtain ⟨g, hg⟩ := Option.isSome_iff_exists.1 hh
  rw [hg] at hs ⊢
  have hx : ρ x = .pointer (some ⟨g, 0, none⟩) := by
    unfold headOf at hg
    split at hg
    · rename_i b e; rw [e]; simp at hg; rw [hg]
    · cases hg
  unfold execOp
  simp only [hx, Sem.run_bind, Option.getD_some] at hs ⊢
  rw [loadAt_row ty d hu hd n hn hi w g hs]
  rfl
end Go.Proofs.Ytfdlfkdefbfhfaa
