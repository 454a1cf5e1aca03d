/- Blocks that are known whole, arrays by value: laws for the walk. Any program. -/
import Derived.Test.YtcgfdnhocdcfjaaWMore
import Derived.Laws.Rows
import Derived.Laws.Tables
import Derived.Deep.WholeRow
import Derived.Laws.CopyOwn
namespace Go.Proofs.Ytcgfdnhocdcfjaa.Arr
open Go.RowKit Go.Proofs.YtcgfdnhocdcfjaaW.PrintWords
set_option linter.unusedVariables false
set_option linter.unusedSimpArgs false

/-- A block that is known whole. -/
structure Blk (w : World) (g : Nat) (T : TypeId) (cs : Array Value) : Prop where mk ::
  out : w.heap[g]? = some (.cells cs T (0, 0))
namespace Blk
variable {w w1 : World} {g : Nat} {T : TypeId} {cs : Array Value}
theorem lt (h : Blk w g T cs) : g < w.heap.size := blk_lt h.out
theorem cell (h : Blk w g T cs) (i : Nat) : w.cell? ⟨g, i, none⟩ = cs[i]? := blk_cell h.out i
theorem frozen (h : Blk w g T cs) (i : Nat) : w.frozen? ⟨g, i, none⟩ = false := blk_frozen h.out i
theorem new (w : World) (T : TypeId) (cs : Array Value) : Blk (w.alloc (.cells cs T)) w.heap.size T cs := ⟨heap_alloc_new w _⟩
theorem newAt (h : g = w.heap.size) : Blk (w.alloc (.cells cs T)) g T cs := by subst h; exact new w T cs
theorem alloc (h : Blk w g T cs) (o : Obj) : Blk (w.alloc o) g T cs := ⟨blk_alloc h.out o⟩
theorem drew (h : Blk w g T cs) : Blk w.drew g T cs := ⟨h.out⟩
theorem drewN (h : Blk w g T cs) (n : Nat) : Blk (w.drewN n) g T cs := ⟨blk_drewN h.out n⟩
theorem below (h : Blk w g T cs) (hb : Below w.heap.size w w1) : Blk w1 g T cs := ⟨blk_below h.out hb⟩
theorem below' {B : Nat} (h : Blk w g T cs) (hb : Below B w w1) (hg : g < B) : Blk w1 g T cs := ⟨(hb.block g hg).trans h.out⟩
theorem set (h : Blk w g T cs) (i : Nat) (u : Value) : Blk (w.setCell ⟨g, i, none⟩ u) g T (cs.setIfInBounds i u) := ⟨blk_set h.out i u⟩
theorem far (h : Blk w g T cs) {p : Addr} (hp : g ≠ p.block) (u : Value) : Blk (w.setCell p u) g T cs := ⟨blk_far h.out hp u⟩
theorem row (h : Blk w g T cs) (cs' : Array Value) : Blk (w.setRow g cs') g T cs' := ⟨setRow_heap w g cs cs' T (0, 0) h.out⟩
theorem rowFar (h : Blk w g T cs) {k : Nat} (hk : g ≠ k) (cs' : Array Value) : Blk (w.setRow k cs') g T cs := ⟨(setRow_other w k g cs' hk).trans h.out⟩
end Blk

section
variable {P : Program} {ops : Array Oper} {rest : List Oper} {o : Oper} {a : Act} {w : World} {Q : Exit → Act → World → Prop}

/-- A new variable of an array's or a struct's type: its zero under one name. -/
theorem wpList_alloc_agg (hgd : o.guard = none) (T : TypeId) (Z : Array Value) (ho : o.op = .alloc T) (hz : ∀ w, (zeroValue T).run P w = .ok (.agg Z) w)
    (h : wpList P ops Q rest (a.put o.dst (.pointer (some ⟨w.heap.size, 0, none⟩))) (w.alloc (.cells Z T))) : wpList P ops Q (o :: rest) a w := by
  refine wpList_plain hgd fun K hK => ?_
  have hr : (Instr.alloc T true (.tuple #[])).run P w = .ok (.pointer (some ⟨w.heap.size, 0, none⟩)) (w.alloc (.cells Z T)) := by
    unfold Instr.alloc
    rw [Sem.run_bind, hz]
    rfl
  unfold Oper.wp execOp
  simp only [ho, Sem.run_bind, hr, Result.andThen_ok, Sem.run_pure]
  exact hK _ _ h

/-- An array or a struct is built of its parts: the value under one name. -/
theorem wpList_build_agg (hgd : o.guard = none) (T : TypeId) (parts : Array (Nat × Operand)) (ho : o.op = .build T parts) (Z : Array Value)
    (hz : ∀ w, (Instr.build T (parts.map fun (i, x) => (i, a.eval x))).run P w = .ok (.agg Z) w)
    (h : wpList P ops Q rest (a.put o.dst (.agg Z)) w) : wpList P ops Q (o :: rest) a w := by
  refine wpList_plain hgd fun K hK => ?_
  unfold Oper.wp execOp
  simp only [ho, Sem.run_bind, hz, Result.andThen_ok, Sem.run_pure]
  exact hK _ _ h

/-- An array's or a struct's zero, built of no parts. -/
theorem wpList_build_none (hgd : o.guard = none) (T : TypeId) (ho : o.op = .build T #[]) (Z : Array Value)
    (hz : ∀ w, (Instr.build T #[]).run P w = .ok (.agg Z) w)
    (h : wpList P ops Q rest (a.put o.dst (.agg Z)) w) : wpList P ops Q (o :: rest) a w := by
  refine wpList_plain hgd fun K hK => ?_
  unfold Oper.wp execOp
  simp only [ho, Array.map_empty, Sem.run_bind, hz, Result.andThen_ok, Sem.run_pure]
  exact hK _ _ h

theorem wpList_load_blk (hgd : o.guard = none) (T : TypeId) (x : Operand) (ho : o.op = .load T x) (g : Nat) (cs : Array Value) (d : TypeDesc) (hx : a.eval x = .pointer (some ⟨g, 0, none⟩))
    (hu : P.underlying T = some d) (hd : (match d with | .struct _ | .array _ _ => true | _ => false) = true) {n : Nat} (hi : (P.info? T).map (·.size) = some n) {U : TypeId} (hb : Blk w g U cs) (hc : cs.size = n)
    (h : wpList P ops Q rest (a.put o.dst (.agg cs)) w) : wpList P ops Q (o :: rest) a w :=
  wpList_load_row hgd T x ho g hx U cs (0, 0) d hb.out hu hd (by rw [hi, hc]) h

theorem wpList_store_blk (hgd : o.guard = none) (T : TypeId) (x y : Operand) (ho : o.op = .store T x y) (g : Nat) (cells : Array Value) (hx : a.eval x = .pointer (some ⟨g, 0, none⟩)) (hy : a.eval y = .agg cells)
    {n : Nat} (hi : (P.info? T).map (·.size) = some n) (hc : cells.size = n) (h1 : cells.all (·.oneCell') = true) {U : TypeId} {old : Array Value} (hb : Blk w g U old) (hold : old.size = n)
    (h : wpList P ops Q rest (a.put o.dst undef) (w.setRow g cells)) : wpList P ops Q (o :: rest) a w :=
  wpList_store_row hgd T x y ho g cells hx hy U old hb.out (by rw [hi, hc]) (by omega) h1 h
theorem results_blk {fn : Func} {p : Tmp} {ty : TypeId} (h : fn.results = #[.cell p ty]) (tmps : Array Value) (w : World) (g : Nat) (cs : Array Value) (d : TypeDesc)
    (hp : tmps.getD p undef = .pointer (some ⟨g, 0, none⟩)) {n : Nat} (hi : (P.info? ty).map (·.size) = some n) (hu : P.underlying ty = some d) (hd : (match d with | .struct _ | .array _ _ => true | _ => false) = true)
    {U : TypeId} (hb : Blk w g U cs) (hc : cs.size = n) : (results fn tmps).run P w = .ok (.agg cs) w :=
  results_cell_row h tmps w g U cs (0, 0) d hp hb.out hu hd (by rw [hi, hc])
theorem setRow_top {w : World} {g : Nat} {c c' : Array Value} {t : TypeId} (h : g = w.heap.size) : (w.alloc (.cells c t)).setRow g c' = w.alloc (.cells c' t) := by
  subst h; exact World.setRow_alloc_new w c c' t
end

/-- The cells of a list of numbers, of bools. -/
def numsA (k : IntKind) (l : List Int) : Array Value := (l.map (Value.int k)).toArray
def boolsA (l : List Bool) : Array Value := (l.map Value.bool).toArray
theorem numsA_size (k : IntKind) (l : List Int) : (numsA k l).size = l.length := by simp [numsA]
theorem boolsA_size (l : List Bool) : (boolsA l).size = l.length := by simp [boolsA]
theorem numsA_get (k : IntKind) (l : List Int) (i : Nat) (h : i < l.length) : (numsA k l)[i]? = some (.int k (l.getD i 0)) := by
  simp [numsA, h]
theorem boolsA_get (l : List Bool) (i : Nat) (h : i < l.length) : (boolsA l)[i]? = some (.bool (l.getD i false)) := by
  simp [boolsA, h]
theorem numsA_set (k : IntKind) (l : List Int) (i : Nat) (x : Int) : (numsA k l).setIfInBounds i (.int k x) = numsA k (l.set i x) := by
  apply Array.ext'
  simp [numsA, List.map_set]
theorem boolsA_set (l : List Bool) (i : Nat) (x : Bool) : (boolsA l).setIfInBounds i (.bool x) = boolsA (l.set i x) := by
  apply Array.ext'
  simp [boolsA, List.map_set]
theorem numsA_one (k : IntKind) (l : List Int) : (numsA k l).all (·.oneCell') = true := by
  simp [numsA, Value.oneCell']
theorem boolsA_one (l : List Bool) : (boolsA l).all (·.oneCell') = true := by
  simp [boolsA, Value.oneCell']

/-- An element of an array by value. -/
theorem run_index_nums {P : Program} {t e : TypeId} {n : Nat} {k ki : IntKind} (ht : P.underlying t = some (.array n e)) (he : P.underlying e = some (.int k)) (hsz : (P.info? e).map (·.size) = some 1)
    (l : List Int) (hl : l.length = n) (i : Nat) (hi : i < n) (w : World) : (Instr.index t (.agg (numsA k l)) (.int ki (i : Int))).run P w = .ok (.int k (l.getD i 0)) w := by
  obtain ⟨d, hd, h1⟩ := Option.map_eq_some_iff.1 hsz
  have hg := numsA_get k l i (by omega)
  have hc : (0 : Int) ≤ i ∧ (i : Int) < n := by omega
  have h0 : (0 : Int) ≤ (i : Int) := by omega
  have hn : (i : Int) < (n : Int) := by omega
  have ha : (isAgg e).run P w = .ok false w := by
    unfold isAgg
    rw [Sem.run_bind, run_underlying he w]
    rfl
  have hsi : (sizeOf e).run P w = .ok 1 w := by
    simp [sizeOf, typeInfo, Sem.run_bind, hd, h1]
  unfold Instr.index
  simp [Sem.run_bind, asIntOf, run_underlying ht w, hn, hsi, part, ha, hg]
  intro h
  exact absurd hi (by omega)
section
variable {P : Program} {ops : Array Oper} {rest : List Oper} {o : Oper} {a : Act} {w : World} {Q : Exit → Act → World → Prop}
theorem wpList_index_nums (hgd : o.guard = none) (t : TypeId) (x y : Operand) (ho : o.op = .index t x y) {e : TypeId} {n : Nat} {k ki : IntKind} (l : List Int) (i : Nat) (hx : a.eval x = .agg (numsA k l)) (hy : a.eval y = .int ki (i : Int))
    (ht : P.underlying t = some (.array n e)) (he : P.underlying e = some (.int k)) (hsz : (P.info? e).map (·.size) = some 1) (hl : l.length = n) (hi : i < n)
    (h : wpList P ops Q rest (a.put o.dst (.int k (l.getD i 0))) w) : wpList P ops Q (o :: rest) a w := by
  refine wpList_plain hgd fun K hK => ?_
  unfold Oper.wp execOp
  simp only [ho, hx, hy, Sem.run_bind, run_index_nums ht he hsz l hl i hi w, Result.andThen_ok, Sem.run_pure]
  exact hK _ _ h
/-- Cells at the head of a block. -/
structure Cells (w : World) (g : Nat) (cs : Array Value) : Prop where mk ::
  out : ∀ j v, cs[j]? = some v → w.cell? ⟨g, j, none⟩ = some v
theorem Cells.below {w w1 : World} {g : Nat} {cs : Array Value} (h : Cells w g cs) (hb : Below w.heap.size w w1) : Cells w1 g cs := ⟨fun j v hj => pw_cell_below hb (h.out j v hj)⟩
theorem wpList_load_cells (hgd : o.guard = none) (T : TypeId) (x : Operand) (ho : o.op = .load T x) (g : Nat) (cs : Array Value) (d : TypeDesc) (hx : a.eval x = .pointer (some ⟨g, 0, none⟩))
    (hu : P.underlying T = some d) (hd : (match d with | .struct _ | .array _ _ => true | _ => false) = true) {n : Nat} (hi : (P.info? T).map (·.size) = some n) (hb : Cells w g cs) (hc : cs.size = n)
    (h : wpList P ops Q rest (a.put o.dst (.agg cs)) w) : wpList P ops Q (o :: rest) a w := by
  refine wpList_plain hgd fun K hK => ?_
  obtain ⟨i, hq, hs⟩ := Option.map_eq_some_iff.1 hi
  have hl : (loadCells ⟨g, 0, none⟩ cs.toList.length).run P w = .ok cs.toList.toArray w :=
    run_loadCells_list (P := P) w ⟨g, 0, none⟩ cs.toList (fun j v hv => by
      rw [add_plain]
      exact hb.out j v (by simpa using hv))
  have hagg : (isAgg T).run P w = .ok true w := by
    unfold isAgg
    rw [Sem.run_bind, run_underlying hu w]
    cases d <;> simp_all
  simp only [Array.length_toList, Array.toArray_toList] at hl
  have hv : (loadVar T ⟨g, 0, none⟩).run P w = .ok (.agg cs) w := by simp [loadVar, Sem.run_bind, hagg, sizeOf, typeInfo, hq, hs, ← hc, hl]
  unfold Oper.wp execOp
  simp only [ho, hx, Instr.loadAt, Instr.sureAddr, Sem.run_bind, Sem.run_pure, Result.andThen_ok, hv]
  exact hK _ _ h
end

/-! ### lists that are filled from the front -/
def fillK {α : Type} (f z : Nat → α) (m k : Nat) : List α := (List.range m).map fun i => if i < k then f i else z i
theorem fillK_length {α : Type} (f z : Nat → α) (m k : Nat) : (fillK f z m k).length = m := by simp [fillK]
theorem fillK_zero {α : Type} (f z : Nat → α) (m : Nat) : fillK f z m 0 = (List.range m).map z := by simp [fillK]
theorem fillK_full {α : Type} (f z : Nat → α) (m : Nat) : fillK f z m m = (List.range m).map f := by
  unfold fillK
  refine List.map_congr_left fun i hi => ?_
  rw [if_pos (by simpa using hi)]
theorem fillK_set {α : Type} (f z : Nat → α) (m k : Nat) (hk : k < m) (x : α) (hx : x = f k) : (fillK f z m k).set k x = fillK f z m (k + 1) := by
  subst hx
  apply List.ext_getElem
  · simp [fillK]
  · intro i h1 h2
    simp only [fillK_length, List.length_set] at h1
    rw [List.getElem_set]
    by_cases h : k = i
    · subst h
      simp [fillK]
    · rw [if_neg h]
      simp only [fillK, List.getElem_map, List.getElem_range]
      by_cases h3 : i < k
      · rw [if_pos h3, if_pos (by omega)]
      · rw [if_neg h3, if_neg (by omega)]
theorem fillK_same {α : Type} (f z : Nat → α) (m k : Nat) (hk : k < m) (h : z k = f k) : fillK f z m k = fillK f z m (k + 1) := by
  unfold fillK
  refine List.map_congr_left fun i _ => ?_
  by_cases h1 : i < k
  · rw [if_pos h1, if_pos (by omega)]
  · rw [if_neg h1]
    by_cases h2 : i < k + 1
    · rw [if_pos h2, show i = k by omega, h]
    · rw [if_neg h2]
theorem fillK_done {α : Type} (f z : Nat → α) (m k i : Nat) (d : α) (hi : i < m) (h : i < k) : (fillK f z m k).getD i d = f i := by
  simp [fillK, List.getD, hi, h]
theorem fillK_todo {α : Type} (f z : Nat → α) (m k i : Nat) (d : α) (hi : i < m) (h : k ≤ i) : (fillK f z m k).getD i d = z i := by
  simp [fillK, List.getD, hi, Nat.not_lt.2 h]
end Go.Proofs.Ytcgfdnhocdcfjaa.Arr
