/- Texts of this claim, merged: Arr, Row, Only, Itoa, Knt, Utf, Gly, Kin, Kaw, Qt. -/
import Derived.Test.YtmilpfccgggmkaaDoorWMore
import Derived.Laws.Rows
import Derived.Laws.Tables
import Derived.Deep.WholeRow
import Derived.Laws.CopyOwn
import Derived.Deep.AppendLies
import Derived.Maps.AppendAt
import Derived.Test.YtmilpfccgggmkaaDoorShelf
import Derived.Lib.AppendStr
import Derived.Lib.ItoaMem
import Derived.Lib.AppendIntMem
import Derived.Lib.OwnKind
import Derived.OwnWalk
import Derived.WalkKit
import Derived.BigCall
import Derived.BigGuard
import Derived.Lib.DecodeN
import Derived.Lib.Strings
import Derived.Test.YtmilpfccgggmkaaDoorWWords
import Derived.Below
import Derived.Deep.QuietTactic
import Derived.BigQuiet
import Derived.Lib.OthersKept
import Derived.WalkSmall
import Derived.Lib.SmallJoins
import Derived.StillTail
import Derived.Deep.Quiet
/- Blocks that are known whole, arrays by value: laws for the walk. Any program. -/
namespace Go.Proofs.YtmilpfccgggmkaaDoor.Arr
open Go.RowKit Go.Proofs.YtmilpfccgggmkaaDoorW.PrintWords
set_option linter.unusedVariables false
set_option linter.unusedSimpArgs false

/-- A block that is known whole. -/
structure Blk (w : World) (g : Nat) (T : TypeId) (cs : Array Value) : Prop where mk ::
  out : w.heap[g]? = some (.cells cs T (0, 0))
namespace Blk
variable {w w1 : World} {g : Nat} {T : TypeId} {cs : Array Value}
theorem lt (h : Blk w g T cs) : g < w.heap.size := blk_lt h.out
theorem cell (h : Blk w g T cs) (i : Nat) : w.cell? ⟨g, i, none⟩ = cs[i]? := blk_cell h.out i
theorem frozen (h : Blk w g T cs) (i : Nat) : w.frozen? ⟨g, i, none⟩ = false := blk_frozen h.out i
theorem new (w : World) (T : TypeId) (cs : Array Value) : Blk (w.alloc (.cells cs T)) w.heap.size T cs := ⟨heap_alloc_new w _⟩
theorem newAt (h : g = w.heap.size) : Blk (w.alloc (.cells cs T)) g T cs := by subst h; exact new w T cs
theorem alloc (h : Blk w g T cs) (o : Obj) : Blk (w.alloc o) g T cs := ⟨blk_alloc h.out o⟩
theorem drew (h : Blk w g T cs) : Blk w.drew g T cs := ⟨h.out⟩
theorem drewN (h : Blk w g T cs) (n : Nat) : Blk (w.drewN n) g T cs := ⟨blk_drewN h.out n⟩
theorem below (h : Blk w g T cs) (hb : Below w.heap.size w w1) : Blk w1 g T cs := ⟨blk_below h.out hb⟩
theorem below' {B : Nat} (h : Blk w g T cs) (hb : Below B w w1) (hg : g < B) : Blk w1 g T cs := ⟨(hb.block g hg).trans h.out⟩
theorem set (h : Blk w g T cs) (i : Nat) (u : Value) : Blk (w.setCell ⟨g, i, none⟩ u) g T (cs.setIfInBounds i u) := ⟨blk_set h.out i u⟩
theorem far (h : Blk w g T cs) {p : Addr} (hp : g ≠ p.block) (u : Value) : Blk (w.setCell p u) g T cs := ⟨blk_far h.out hp u⟩
theorem row (h : Blk w g T cs) (cs' : Array Value) : Blk (w.setRow g cs') g T cs' := ⟨setRow_heap w g cs cs' T (0, 0) h.out⟩
theorem rowFar (h : Blk w g T cs) {k : Nat} (hk : g ≠ k) (cs' : Array Value) : Blk (w.setRow k cs') g T cs := ⟨(setRow_other w k g cs' hk).trans h.out⟩
end Blk

section
variable {P : Program} {ops : Array Oper} {rest : List Oper} {o : Oper} {a : Act} {w : World} {Q : Exit → Act → World → Prop}

/-- A new variable of an array's or a struct's type: its zero under one name. -/
theorem wpList_alloc_agg (hgd : o.guard = none) (T : TypeId) (Z : Array Value) (ho : o.op = .alloc T) (hz : ∀ w, (zeroValue T).run P w = .ok (.agg Z) w)
    (h : wpList P ops Q rest (a.put o.dst (.pointer (some ⟨w.heap.size, 0, none⟩))) (w.alloc (.cells Z T))) : wpList P ops Q (o :: rest) a w := by
  refine wpList_plain hgd fun K hK => ?_
  have hr : (Instr.alloc T true (.tuple #[])).run P w = .ok (.pointer (some ⟨w.heap.size, 0, none⟩)) (w.alloc (.cells Z T)) := by
    unfold Instr.alloc
    rw [Sem.run_bind, hz]
    rfl
  unfold Oper.wp execOp
  simp only [ho, Sem.run_bind, hr, Result.andThen_ok, Sem.run_pure]
  exact hK _ _ h

/-- An array or a struct is built of its parts: the value under one name. -/
theorem wpList_build_agg (hgd : o.guard = none) (T : TypeId) (parts : Array (Nat × Operand)) (ho : o.op = .build T parts) (Z : Array Value)
    (hz : ∀ w, (Instr.build T (parts.map fun (i, x) => (i, a.eval x))).run P w = .ok (.agg Z) w)
    (h : wpList P ops Q rest (a.put o.dst (.agg Z)) w) : wpList P ops Q (o :: rest) a w := by
  refine wpList_plain hgd fun K hK => ?_
  unfold Oper.wp execOp
  simp only [ho, Sem.run_bind, hz, Result.andThen_ok, Sem.run_pure]
  exact hK _ _ h

/-- An array's or a struct's zero, built of no parts. -/
theorem wpList_build_none (hgd : o.guard = none) (T : TypeId) (ho : o.op = .build T #[]) (Z : Array Value)
    (hz : ∀ w, (Instr.build T #[]).run P w = .ok (.agg Z) w)
    (h : wpList P ops Q rest (a.put o.dst (.agg Z)) w) : wpList P ops Q (o :: rest) a w := by
  refine wpList_plain hgd fun K hK => ?_
  unfold Oper.wp execOp
  simp only [ho, Array.map_empty, Sem.run_bind, hz, Result.andThen_ok, Sem.run_pure]
  exact hK _ _ h

theorem wpList_load_blk (hgd : o.guard = none) (T : TypeId) (x : Operand) (ho : o.op = .load T x) (g : Nat) (cs : Array Value) (d : TypeDesc) (hx : a.eval x = .pointer (some ⟨g, 0, none⟩))
    (hu : P.underlying T = some d) (hd : (match d with | .struct _ | .array _ _ => true | _ => false) = true) {n : Nat} (hi : (P.info? T).map (·.size) = some n) {U : TypeId} (hb : Blk w g U cs) (hc : cs.size = n)
    (h : wpList P ops Q rest (a.put o.dst (.agg cs)) w) : wpList P ops Q (o :: rest) a w :=
  wpList_load_row hgd T x ho g hx U cs (0, 0) d hb.out hu hd (by rw [hi, hc]) h

theorem wpList_store_blk (hgd : o.guard = none) (T : TypeId) (x y : Operand) (ho : o.op = .store T x y) (g : Nat) (cells : Array Value) (hx : a.eval x = .pointer (some ⟨g, 0, none⟩)) (hy : a.eval y = .agg cells)
    {n : Nat} (hi : (P.info? T).map (·.size) = some n) (hc : cells.size = n) (h1 : cells.all (·.oneCell') = true) {U : TypeId} {old : Array Value} (hb : Blk w g U old) (hold : old.size = n)
    (h : wpList P ops Q rest (a.put o.dst undef) (w.setRow g cells)) : wpList P ops Q (o :: rest) a w :=
  wpList_store_row hgd T x y ho g cells hx hy U old hb.out (by rw [hi, hc]) (by omega) h1 h
theorem results_blk {fn : Func} {p : Tmp} {ty : TypeId} (h : fn.results = #[.cell p ty]) (tmps : Array Value) (w : World) (g : Nat) (cs : Array Value) (d : TypeDesc)
    (hp : tmps.getD p undef = .pointer (some ⟨g, 0, none⟩)) {n : Nat} (hi : (P.info? ty).map (·.size) = some n) (hu : P.underlying ty = some d) (hd : (match d with | .struct _ | .array _ _ => true | _ => false) = true)
    {U : TypeId} (hb : Blk w g U cs) (hc : cs.size = n) : (results fn tmps).run P w = .ok (.agg cs) w :=
  results_cell_row h tmps w g U cs (0, 0) d hp hb.out hu hd (by rw [hi, hc])
theorem setRow_top {w : World} {g : Nat} {c c' : Array Value} {t : TypeId} (h : g = w.heap.size) : (w.alloc (.cells c t)).setRow g c' = w.alloc (.cells c' t) := by
  subst h; exact World.setRow_alloc_new w c c' t
end

/-- The cells of a list of numbers, of bools. -/
def numsA (k : IntKind) (l : List Int) : Array Value := (l.map (Value.int k)).toArray
def boolsA (l : List Bool) : Array Value := (l.map Value.bool).toArray
theorem numsA_size (k : IntKind) (l : List Int) : (numsA k l).size = l.length := by simp [numsA]
theorem boolsA_size (l : List Bool) : (boolsA l).size = l.length := by simp [boolsA]
theorem numsA_get (k : IntKind) (l : List Int) (i : Nat) (h : i < l.length) : (numsA k l)[i]? = some (.int k (l.getD i 0)) := by
  simp [numsA, h]
theorem boolsA_get (l : List Bool) (i : Nat) (h : i < l.length) : (boolsA l)[i]? = some (.bool (l.getD i false)) := by
  simp [boolsA, h]
theorem numsA_set (k : IntKind) (l : List Int) (i : Nat) (x : Int) : (numsA k l).setIfInBounds i (.int k x) = numsA k (l.set i x) := by
  apply Array.ext'
  simp [numsA, List.map_set]
theorem boolsA_set (l : List Bool) (i : Nat) (x : Bool) : (boolsA l).setIfInBounds i (.bool x) = boolsA (l.set i x) := by
  apply Array.ext'
  simp [boolsA, List.map_set]
theorem numsA_one (k : IntKind) (l : List Int) : (numsA k l).all (·.oneCell') = true := by
  simp [numsA, Value.oneCell']
theorem boolsA_one (l : List Bool) : (boolsA l).all (·.oneCell') = true := by
  simp [boolsA, Value.oneCell']

/-- An element of an array by value. -/
theorem run_index_nums {P : Program} {t e : TypeId} {n : Nat} {k ki : IntKind} (ht : P.underlying t = some (.array n e)) (he : P.underlying e = some (.int k)) (hsz : (P.info? e).map (·.size) = some 1)
    (l : List Int) (hl : l.length = n) (i : Nat) (hi : i < n) (w : World) : (Instr.index t (.agg (numsA k l)) (.int ki (i : Int))).run P w = .ok (.int k (l.getD i 0)) w := by
  obtain ⟨d, hd, h1⟩ := Option.map_eq_some_iff.1 hsz
  have hg := numsA_get k l i (by omega)
  have hc : (0 : Int) ≤ i ∧ (i : Int) < n := by omega
  have h0 : (0 : Int) ≤ (i : Int) := by omega
  have hn : (i : Int) < (n : Int) := by omega
  have ha : (isAgg e).run P w = .ok false w := by
    unfold isAgg
    rw [Sem.run_bind, run_underlying he w]
    rfl
  have hsi : (sizeOf e).run P w = .ok 1 w := by
    simp [sizeOf, typeInfo, Sem.run_bind, hd, h1]
  unfold Instr.index
  simp [Sem.run_bind, asIntOf, run_underlying ht w, hn, hsi, part, ha, hg]
  intro h
  exact absurd hi (by omega)
section
variable {P : Program} {ops : Array Oper} {rest : List Oper} {o : Oper} {a : Act} {w : World} {Q : Exit → Act → World → Prop}
theorem wpList_index_nums (hgd : o.guard = none) (t : TypeId) (x y : Operand) (ho : o.op = .index t x y) {e : TypeId} {n : Nat} {k ki : IntKind} (l : List Int) (i : Nat) (hx : a.eval x = .agg (numsA k l)) (hy : a.eval y = .int ki (i : Int))
    (ht : P.underlying t = some (.array n e)) (he : P.underlying e = some (.int k)) (hsz : (P.info? e).map (·.size) = some 1) (hl : l.length = n) (hi : i < n)
    (h : wpList P ops Q rest (a.put o.dst (.int k (l.getD i 0))) w) : wpList P ops Q (o :: rest) a w := by
  refine wpList_plain hgd fun K hK => ?_
  unfold Oper.wp execOp
  simp only [ho, hx, hy, Sem.run_bind, run_index_nums ht he hsz l hl i hi w, Result.andThen_ok, Sem.run_pure]
  exact hK _ _ h
/-- Cells at the head of a block. -/
structure Cells (w : World) (g : Nat) (cs : Array Value) : Prop where mk ::
  out : ∀ j v, cs[j]? = some v → w.cell? ⟨g, j, none⟩ = some v
theorem Cells.below {w w1 : World} {g : Nat} {cs : Array Value} (h : Cells w g cs) (hb : Below w.heap.size w w1) : Cells w1 g cs := ⟨fun j v hj => pw_cell_below hb (h.out j v hj)⟩
theorem wpList_load_cells (hgd : o.guard = none) (T : TypeId) (x : Operand) (ho : o.op = .load T x) (g : Nat) (cs : Array Value) (d : TypeDesc) (hx : a.eval x = .pointer (some ⟨g, 0, none⟩))
    (hu : P.underlying T = some d) (hd : (match d with | .struct _ | .array _ _ => true | _ => false) = true) {n : Nat} (hi : (P.info? T).map (·.size) = some n) (hb : Cells w g cs) (hc : cs.size = n)
    (h : wpList P ops Q rest (a.put o.dst (.agg cs)) w) : wpList P ops Q (o :: rest) a w := by
  refine wpList_plain hgd fun K hK => ?_
  obtain ⟨i, hq, hs⟩ := Option.map_eq_some_iff.1 hi
  have hl : (loadCells ⟨g, 0, none⟩ cs.toList.length).run P w = .ok cs.toList.toArray w :=
    run_loadCells_list (P := P) w ⟨g, 0, none⟩ cs.toList (fun j v hv => by
      rw [add_plain]
      exact hb.out j v (by simpa using hv))
  have hagg : (isAgg T).run P w = .ok true w := by
    unfold isAgg
    rw [Sem.run_bind, run_underlying hu w]
    cases d <;> simp_all
  simp only [Array.length_toList, Array.toArray_toList] at hl
  have hv : (loadVar T ⟨g, 0, none⟩).run P w = .ok (.agg cs) w := by simp [loadVar, Sem.run_bind, hagg, sizeOf, typeInfo, hq, hs, ← hc, hl]
  unfold Oper.wp execOp
  simp only [ho, hx, Instr.loadAt, Instr.sureAddr, Sem.run_bind, Sem.run_pure, Result.andThen_ok, hv]
  exact hK _ _ h
end

/-! ### lists that are filled from the front -/
def fillK {α : Type} (f z : Nat → α) (m k : Nat) : List α := (List.range m).map fun i => if i < k then f i else z i
theorem fillK_length {α : Type} (f z : Nat → α) (m k : Nat) : (fillK f z m k).length = m := by simp [fillK]
theorem fillK_zero {α : Type} (f z : Nat → α) (m : Nat) : fillK f z m 0 = (List.range m).map z := by simp [fillK]
theorem fillK_full {α : Type} (f z : Nat → α) (m : Nat) : fillK f z m m = (List.range m).map f := by
  unfold fillK
  refine List.map_congr_left fun i hi => ?_
  rw [if_pos (by simpa using hi)]
theorem fillK_set {α : Type} (f z : Nat → α) (m k : Nat) (hk : k < m) (x : α) (hx : x = f k) : (fillK f z m k).set k x = fillK f z m (k + 1) := by
  subst hx
  apply List.ext_getElem
  · simp [fillK]
  · intro i h1 h2
    simp only [fillK_length, List.length_set] at h1
    rw [List.getElem_set]
    by_cases h : k = i
    · subst h
      simp [fillK]
    · rw [if_neg h]
      simp only [fillK, List.getElem_map, List.getElem_range]
      by_cases h3 : i < k
      · rw [if_pos h3, if_pos (by omega)]
      · rw [if_neg h3, if_neg (by omega)]
theorem fillK_same {α : Type} (f z : Nat → α) (m k : Nat) (hk : k < m) (h : z k = f k) : fillK f z m k = fillK f z m (k + 1) := by
  unfold fillK
  refine List.map_congr_left fun i _ => ?_
  by_cases h1 : i < k
  · rw [if_pos h1, if_pos (by omega)]
  · rw [if_neg h1]
    by_cases h2 : i < k + 1
    · rw [if_pos h2, show i = k by omega, h]
    · rw [if_neg h2]
theorem fillK_done {α : Type} (f z : Nat → α) (m k i : Nat) (d : α) (hi : i < m) (h : i < k) : (fillK f z m k).getD i d = f i := by
  simp [fillK, List.getD, hi, h]
theorem fillK_todo {α : Type} (f z : Nat → α) (m k i : Nat) (d : α) (hi : i < m) (h : k ≤ i) : (fillK f z m k).getD i d = z i := by
  simp [fillK, List.getD, hi, Nat.not_lt.2 h]
end Go.Proofs.YtmilpfccgggmkaaDoor.Arr

/- Slices of numbers that the call itself makes. Any program. -/
namespace Go.Proofs.YtmilpfccgggmkaaDoor.Arr
open Go.RowKit Go.Proofs.YtmilpfccgggmkaaDoorW.PrintWords
set_option linter.unusedVariables false
set_option linter.unusedSimpArgs false

/-- v is a slice of the call's own (blocks from B on) that holds xs. -/
structure Row (w : World) (B : Nat) (e : TypeId) (k : IntKind) (v : Value) (xs : List Int) : Prop where mk ::
  own : w.ownsRow B e 1 v xs.length (nums k xs)
namespace Row
variable {w w1 : World} {B : Nat} {e : TypeId} {k : IntKind} {v : Value} {xs : List Int}
theorem nil (w : World) (B : Nat) (e : TypeId) (k : IntKind) : Row w B e k (.slice none 0 0) [] := ⟨own_nil _ _ _ _⟩
theorem lit {g : Nat} {cs : Array Value} (hg : g = w.heap.size) (hB : B ≤ w.heap.size) (hcs : cs = (nums k xs).toArray) {n : Nat} (hn : n = xs.length) (hm : xs.length ≤ 9223372036854775807) :
    Row (w.alloc (.cells cs e)) B e k (.slice (some ⟨g, 0, none⟩) n n) xs := by
  subst hg hcs hn
  exact ⟨own_lit w B e k xs hB hm⟩
theorem move (h : Row w B e k v xs) (hm : ∀ g, v.ownBlock = some g → w1.heap[g]? = w.heap[g]?) : Row w1 B e k v xs := ⟨own_move h.own hm⟩
theorem below (h : Row w B e k v xs) (hb : Below w.heap.size w w1) : Row w1 B e k v xs := h.move fun g hg => hb.block g (own_lt h.own g hg)
theorem alloc (h : Row w B e k v xs) (o : Obj) : Row (w.alloc o) B e k v xs := h.below ((Below.refl _ _).alloc (Nat.le_refl _) o)
theorem drewN (h : Row w B e k v xs) (n : Nat) : Row (w.drewN n) B e k v xs := h.move fun _ _ => rfl
theorem drew (h : Row w B e k v xs) : Row w.drew B e k v xs := h.move fun _ _ => rfl
theorem ne (h : Row w B e k v xs) {g : Nat} {T : TypeId} {cs : Array Value} (hb : Blk w g T cs) (hT : e ≠ T) : some g ≠ v.ownBlock := own_ne h.own hb.out hT
theorem set (h : Row w B e k v xs) {g : Nat} {T : TypeId} {cs : Array Value} (hb : Blk w g T cs) (hT : e ≠ T) (i : Nat) (u : Value) : Row (w.setCell ⟨g, i, none⟩ u) B e k v xs :=
  h.move fun j hj => Below.heap_setCell w _ u j (fun hh => h.ne hb hT (by rw [hj]; exact congrArg some hh.symm))
theorem setRow (h : Row w B e k v xs) {g : Nat} {T : TypeId} {cs : Array Value} (hb : Blk w g T cs) (hT : e ≠ T) (cs' : Array Value) : Row (w.setRow g cs') B e k v xs :=
  h.move fun j hj => setRow_other w g j cs' (fun hh => h.ne hb hT (by rw [hj]; exact congrArg some hh.symm))
theorem reads (h : Row w B e k v xs) : ∃ A c, v = .slice A xs.length c ∧ ReadsInt w k A xs.length xs := own_reads h.own
theorem form (h : Row w B e k v xs) : (v = .slice none 0 0 ∧ xs = []) ∨ ∃ g c, v = .slice (some ⟨g, 0, none⟩) xs.length c ∧ B ≤ g ∧ g < w.heap.size ∧ xs.length ≤ c ∧ c ≤ maxLen := by
  rcases h.own.2 with ⟨h1, h2⟩ | ⟨g, cap, cur, h1, h2, h3, h4, h5, _⟩
  · exact .inl ⟨h1, List.length_eq_zero_iff.1 h2⟩
  · exact .inr ⟨g, cap, h1, h2, blk_lt h3, h4, h5⟩
theorem lower (h : Row w B e k v xs) {B' : Nat} (hB : B' ≤ B) : Row w B' e k v xs := ⟨own_weaken h.own hB⟩
theorem at_ {g n c : Nat} (h : Row w B e k (.slice (some ⟨g, 0, none⟩) n c) xs) (i : Nat) (hi : i < xs.length) : w.cell? ⟨g, i, none⟩ = some (.int k (xs.getD i 0)) := by
  obtain ⟨A, c', e1, h1⟩ := h.reads
  simp only [Value.slice.injEq] at e1
  obtain ⟨e1, _, _⟩ := e1
  obtain ⟨ad, e2, h2⟩ := h1.2.2 (by omega)
  rw [← e1] at e2
  simp only [Option.some.injEq] at e2
  subst e2
  have := h2 i hi
  rwa [add_plain] at this
theorem cap_le {A : Option Addr} {n c : Nat} (h : Row w B e k (.slice A n c) xs) : n ≤ c := own_le h.own
/-- What is new is another block. -/
theorem apart_new (h : Row w B e k v xs) {g : Nat} (hg : w.heap.size ≤ g) : v.ownBlock = none ∨ v.ownBlock ≠ some g := by
  cases hv : v.ownBlock with
  | none => exact .inl rfl
  | some j =>
    refine .inr fun hh => ?_
    have := own_lt h.own j hv
    simp only [Option.some.injEq] at hh
    omega
theorem le (h : Row w B e k v xs) {g : Nat} (hg : v.ownBlock = some g) : B ≤ g ∧ g < w.heap.size := ⟨own_base h.own g hg, own_lt h.own g hg⟩
end Row
theorem Blk.grown {w w1 : World} {g : Nat} {T : TypeId} {cs : Array Value} (h : Blk w g T cs) {row : Option Nat} (hg : w.grownBy w1 row) (hne : some g ≠ row) : Blk w1 g T cs := ⟨blk_grown h.out hg hne⟩
theorem Row.grown {w w1 : World} {B : Nat} {e : TypeId} {k : IntKind} {v : Value} {xs : List Int} (h : Row w B e k v xs) {row : Option Nat} (hg : w.grownBy w1 row) (hne : v.ownBlock = none ∨ v.ownBlock ≠ row) : Row w1 B e k v xs := ⟨own_other h.own hg hne⟩

section
variable {P : Program} {ops : Array Oper} {rest : List Oper} {o : Oper} {a : Act} {Q : Exit → Act → World → Prop}
/-- append(v, x...): v of the call's own. -/
theorem wpList_append_nums {w0 W : World} (B : Nat) (e : TypeId) (k : IntKind) (bytes : Nat) (hgd : o.guard = none) (s x : Operand) (t : TypeId)
    (ho : o.op = .call { callee := .builtin .append, args := #[s, x], argTypes := #[t, t] })
    (ht : P.underlying t = some (.slice e)) (hinfo : (P.info? e).map (fun i => (i.zero, i.size, i.bytes)) = some (some (.int k 0), 1, bytes)) (hb0 : 0 < bytes)
    (v : Value) (xs ys : List Int) (A : Option Addr) (m c : Nat) (hs : a.eval s = v) (hx : a.eval x = .slice A m c)
    (HO : Row W B e k v xs) (HR : ReadsInt W k A m ys) (HB : Below B w0 W) (hbase : B ≤ W.heap.size) (hl : (xs.length + m) * bytes ≤ 140737488355328)
    (h : ∀ v1 w1, Row w1 B e k v1 (xs ++ ys) → Below B w0 w1 → W.grownBy w1 v.ownBlock → (v1.ownBlock = v.ownBlock ∨ ∃ b, v1.ownBlock = some b ∧ W.heap.size ≤ b) → wpList P ops Q rest (a.put o.dst v1) w1) :
    wpList P ops Q (o :: rest) a W :=
  print_append_row (w0 := w0) B hgd s x t e k bytes ho ht hinfo hb0 v xs ys A m c hs hx HO.own HR HB hbase hl fun v1 w1 h1 h2 h3 h4 => h v1 w1 ⟨h1⟩ h2 h3 h4
end
/-- A cell that was made just now, read as a slice of one. -/
theorem reads_one {w : World} {e : TypeId} {k : IntKind} {x : Int} {g : Nat} (hg : g = w.heap.size) : ReadsInt (w.alloc (.cells #[.int k x] e)) k (some ⟨g, 0, none⟩) 1 [x] := by
  subst hg
  refine ⟨rfl, by omega, fun _ => ⟨_, rfl, fun j hj => ?_⟩⟩
  obtain rfl : j = 0 := by omega
  rw [add_plain]
  exact ((Blk.new w e #[.int k x]).cell 0)
/-- An array in a block, read as a slice. -/
theorem Blk.readsNums {w : World} {g : Nat} {T : TypeId} {k : IntKind} {xs : List Int} (h : Blk w g T (numsA k xs)) (hm : xs.length ≤ 9223372036854775807) : ReadsInt w k (some ⟨g, 0, none⟩) xs.length xs := by
  refine ⟨rfl, hm, fun _ => ⟨_, rfl, fun j hj => ?_⟩⟩
  rw [add_plain]
  exact (h.cell j).trans (numsA_get _ _ j hj)
end Go.Proofs.YtmilpfccgggmkaaDoor.Arr

/- What a call has turned: the named blocks alone, and what is new. Any program. -/
namespace Go.Proofs.YtmilpfccgggmkaaDoor.Arr
open Go.RowKit Go.Proofs.YtmilpfccgggmkaaDoorW.PrintWords
set_option linter.unusedVariables false
set_option linter.unusedSimpArgs false

/-- Of the elder blocks those of S alone may have turned. -/
structure Only (S : List Nat) (w w' : World) : Prop where mk ::
  os : w'.os = w.os
  tape : w'.tape = w.tape
  output : w'.output = w.output
  size : w.heap.size ≤ w'.heap.size
  block : ∀ k, k < w.heap.size → k ∉ S → w'.heap[k]? = w.heap[k]?
namespace Only
variable {S S' : List Nat} {w w1 w2 : World}
theorem refl (S : List Nat) (w : World) : Only S w w := ⟨rfl, rfl, rfl, Nat.le_refl _, fun _ _ _ => rfl⟩
theorem of_below (h : Below w.heap.size w w1) (S : List Nat) : Only S w w1 := ⟨h.os, h.tape, h.output, h.size, fun k hk _ => h.block k hk⟩
theorem below {B : Nat} (h : Only S w w1) (hB : B ≤ w.heap.size) (hS : ∀ k, k ∈ S → B ≤ k) : Below B w w1 :=
  ⟨h.os, h.tape, h.output, h.size, fun k hk => h.block k (by omega) (fun hm => by have := hS k hm; omega)⟩
theorem nil (h : Only [] w w1) : Below w.heap.size w w1 := h.below (Nat.le_refl _) (fun k hk => by cases hk)
theorem trans (h : Only S w w1) (h' : Only S' w1 w2) (hS : ∀ k, k ∈ S' → k ∈ S ∨ w.heap.size ≤ k) : Only S w w2 :=
  ⟨h'.os.trans h.os, h'.tape.trans h.tape, h'.output.trans h.output, Nat.le_trans h.size h'.size, fun k hk hn =>
    (h'.block k (Nat.lt_of_lt_of_le hk h.size) (fun hm => by rcases hS k hm with h1 | h1; exact hn h1; omega)).trans (h.block k hk hn)⟩
theorem mono (h : Only S w w1) (hS : ∀ k, k ∈ S → k ∈ S' ∨ w.heap.size ≤ k) : Only S' w w1 :=
  ⟨h.os, h.tape, h.output, h.size, fun k hk hn => h.block k hk (fun hm => by rcases hS k hm with h1 | h1; exact hn h1; omega)⟩
theorem alloc (h : Only S w w1) (o : Obj) : Only S w (w1.alloc o) :=
  h.trans (of_below ((Below.refl _ _).alloc (Nat.le_refl _) o) []) (fun k hk => by cases hk)
theorem drew (h : Only S w w1) : Only S w w1.drew := ⟨h.os, h.tape, h.output, h.size, h.block⟩
theorem drewN (h : Only S w w1) (n : Nat) : Only S w (w1.drewN n) := ⟨h.os, h.tape, h.output, h.size, h.block⟩
theorem setCell (h : Only S w w1) {p : Addr} (hp : p.block ∈ S ∨ w.heap.size ≤ p.block) (u : Value) : Only S w (w1.setCell p u) :=
  ⟨h.os, h.tape, h.output, by simpa [World.setCell] using h.size, fun k hk hn => (Below.heap_setCell w1 p u k (fun e => by subst e; rcases hp with hp | hp; exact hn hp; omega)).trans (h.block k hk hn)⟩
theorem grown {row : Option Nat} (h : Only S w w1) (hg : w1.grownBy w2 row) (hr : ∀ k, row = some k → k ∈ S ∨ w.heap.size ≤ k) : Only S w w2 :=
  ⟨hg.os.trans h.os, hg.tape.trans h.tape, hg.output.trans h.output, Nat.le_trans h.size hg.size, fun k hk hn =>
    (hg.block k (Nat.lt_of_lt_of_le hk h.size) (fun e => by rcases hr k e.symm with h1 | h1; exact hn h1; omega)).trans (h.block k hk hn)⟩
theorem step (h : Only S w w1) (hb : Below w1.heap.size w1 w2) : Only S w w2 := h.trans (of_below hb []) (fun k hk => by cases hk)
theorem at_ {k : Nat} {o : Obj} (h : Only S w w1) (hk : w.heap[k]? = some o) (hn : k ∉ S) : w1.heap[k]? = some o := (h.block k (blk_lt hk) hn).trans hk
end Only
theorem Blk.only {w w1 : World} {g : Nat} {T : TypeId} {cs : Array Value} {S : List Nat} (h : Blk w g T cs) (ho : Only S w w1) (hn : g ∉ S) : Blk w1 g T cs := ⟨ho.at_ h.out hn⟩
theorem Blk.ne {w : World} {g g' : Nat} {t t' : TypeId} {cs cs' : Array Value} (h : Blk w g t cs) (h' : Blk w g' t' cs') (hne : t ≠ t') : g ≠ g' := blk_ne h.out h'.out hne
/-- The block of a slice's row, as a list. -/
def rowB (v : Value) : List Nat := v.ownBlock.toList
theorem own_only {w w1 : World} {base : Nat} {e : TypeId} {size n : Nat} {v : Value} {xs : List Value} {S : List Nat} (h : w.ownsRow base e size v n xs) (ho : Only S w w1) (hn : ∀ k, k ∈ rowB v → k ∉ S) : w1.ownsRow base e size v n xs :=
  own_move h fun k hk => ho.block k (own_lt h k hk) (hn k (by simp [rowB, hk]))
theorem rowB_lt {w : World} {base : Nat} {e : TypeId} {size n : Nat} {v : Value} {xs : List Value} (h : w.ownsRow base e size v n xs) : ∀ k, k ∈ rowB v → k < w.heap.size := fun k hk => own_lt h k (by simpa [rowB] using hk)
end Go.Proofs.YtmilpfccgggmkaaDoor.Arr

/- strconv.AppendInt, base 10, of a number from 0 on, onto a slice of the call's own: which blocks turn. -/
namespace Go.Proofs.YtmilpfccgggmkaaDoor.Knt
open Go.RowKit Go.Proofs.YtmilpfccgggmkaaDoorW.PrintWords Go.Proofs.YtmilpfccgggmkaaDoor.Arr
set_option linter.unusedVariables false
set_option linter.unusedSimpArgs false

abbrev TU : TypeId := 5
abbrev TB : TypeId := 27
theorem infoB : (Tryd.prog.info? TU).map (fun i => (i.zero, i.size, i.bytes)) = some (some (.int .u8 0), 1, 1) := by kernel_rfl

section
variable {P : Program}
/-- Appending a string, and where the row lies then. -/
theorem run_append_string_at (w : World) (base : Nat) (t u ty e : TypeId) (i : TypeInfo) (ht : P.underlying t = some (.slice e)) (hu : P.underlying u = some .string) (hi : P.info? e = some i) (hz : i.zero = some (.int .u8 0))
    (hsize : i.size = 1) (hby : i.bytes = 1) (v : Value) (n : Nat) (xs : List Value) (hown : w.ownsRow base e 1 v n xs) (s : ByteArray) (hbytes : n + s.size ≤ 140737488355328) (hbase : base ≤ w.heap.size) :
    ∃ v' w', (Builtin.append_ #[t, u] ty #[v, .string s]).run P w = .ok v' w' ∧ w'.ownsRow base e 1 v' (n + s.size) (xs ++ Lib.strCells s) ∧ w.grownBy w' v.ownBlock ∧ (v'.ownBlock = v.ownBlock ∨ v'.ownBlock = some w.heap.size) := by
  obtain ⟨v', w', hr, h2, h3, h4⟩ := Lib.run_append_own_string (P := P) w base t u ty e i ht hu hi hz hsize hby v n xs hown s (by unfold maxLen; omega) hbytes hbase
  refine ⟨v', w', hr, h2, h3, ?_⟩
  have hxl : xs.length = n := by simpa using hown.1
  rcases hown.2 with ⟨rfl, rfl⟩ | ⟨g, cap, cur, rfl, hbg, hg, hnc, hcm, hcs, htake⟩
  · by_cases hm : s.size = 0
    · rw [(h4.2 ⟨rfl, hm⟩)]
      exact .inl rfl
    · have hr' := run_append_nil_string (P := P) w t u ty e i (.int .u8 0) ht hu hi hz s (by omega) (by omega) (by rw [hby]; omega)
      rw [hr] at hr'
      injection hr' with e1 e2
      rw [e1]
      exact .inr rfl
  · by_cases hroom : n + s.size ≤ cap
    · have hr' := Lib.run_append_room_string (P := P) w t u ty e i ht hu hi hsize g n cap cur hg s hroom (by omega)
      rw [hr] at hr'
      injection hr' with e1 e2
      rw [e1]
      exact .inl rfl
    · have hr' := Lib.run_append_grow_string (P := P) w t u ty e i (.int .u8 0) ht hu hi hz ⟨g, 0, none⟩ n cap xs (by rw [hsize]; simpa using hxl) (hown.cells (g := g) rfl) s (by omega) (by omega) (by rw [hby]; exact growslice_fits (by omega) (by omega))
      rw [hr] at hr'
      injection hr' with e1 e2
      rw [e1]
      exact .inr rfl
end

/-- v is a slice of bytes of the call's own. -/
def Own (B : Nat) (w : World) (v : Value) (l : List UInt8) : Prop := w.ownsRow B TU 1 v l.length (Lib.byteCells l)
theorem Own.nil (B : Nat) (w : World) : Own B w (.slice none 0 0) [] := own_nil _ _ _ _
theorem Own.lit {w : World} {B g : Nat} {l : List UInt8} {cs : Array Value} {n : Nat} (hg : g = w.heap.size) (hB : B ≤ w.heap.size) (hcs : cs = (Lib.byteCells l).toArray) (hn : n = l.length) (hm : l.length ≤ 9223372036854775807) : Own B (w.alloc (.cells cs TU)) (.slice (some ⟨g, 0, none⟩) n n) l := by
  subst hg hcs hn
  have h := own_lit w B TU .u8 (l.map fun b => (b.toNat : Int)) hB (by simpa using hm)
  have e0 : nums .u8 (l.map fun b => (b.toNat : Int)) = Lib.byteCells l := by simp [nums, Lib.byteCells]
  rw [e0, List.length_map] at h
  exact h
theorem Own.below {B : Nat} {w w1 : World} {v : Value} {l : List UInt8} (h : Own B w v l) (hb : Below w.heap.size w w1) : Own B w1 v l := pw_own_below h hb
theorem Own.lt {B : Nat} {w : World} {v : Value} {l : List UInt8} (h : Own B w v l) : ∀ k, k ∈ rowB v → B ≤ k ∧ k < w.heap.size := fun k hk => ⟨own_base h k (by simpa [rowB] using hk), own_lt h k (by simpa [rowB] using hk)⟩
theorem Own.only {B : Nat} {w w1 : World} {v : Value} {l : List UInt8} {S : List Nat} (h : Own B w v l) (ho : Only S w w1) (hn : ∀ k, k ∈ rowB v → k ∉ S) : Own B w1 v l := own_only h ho hn
theorem Own.slice {B : Nat} {w : World} {v : Value} {l : List UInt8} (h : Own B w v l) : ∃ A c, v = .slice A l.length c := own_slice h
theorem Own.some {B : Nat} {w : World} {v : Value} {l : List UInt8} (h : Own B w v l) : ∃ A n c, v = .slice A n c := by
  obtain ⟨A, c, e⟩ := h.slice
  exact ⟨A, _, c, e⟩
theorem Own.lower {B B' : Nat} {w : World} {v : Value} {l : List UInt8} (h : Own B w v l) (hB : B' ≤ B) : Own B' w v l := own_weaken h hB
theorem Own.ne {B : Nat} {w : World} {v : Value} {l : List UInt8} {g : Nat} {T : TypeId} {cs : Array Value} (h : Own B w v l) (hb : Blk w g T cs) (hT : TU ≠ T) : g ∉ rowB v := fun hm => own_ne h hb.out hT (by simpa [rowB, eq_comm] using hm)
/-- What v's row is now: the same block, or a new one. -/
def Put (B : Nat) (v : Value) (w : World) (v' : Value) (w' : World) (l' : List UInt8) : Prop :=
  Own B w' v' l' ∧ Only (rowB v) w w' ∧ ∀ k, k ∈ rowB v' → k ∈ rowB v ∨ w.heap.size ≤ k
theorem Put.trans {B : Nat} {v v1 v2 : Value} {w w1 w2 : World} {l1 l2 : List UInt8} (h : Put B v w v1 w1 l1) (h' : Put B v1 w1 v2 w2 l2) : Put B v w v2 w2 l2 :=
  ⟨h'.1, h.2.1.trans h'.2.1 h.2.2, fun k hk => by
    rcases h'.2.2 k hk with h1 | h1
    · exact h.2.2 k h1
    · exact .inr (Nat.le_trans h.2.1.size h1)⟩
theorem put_of_grown {B : Nat} {v v' : Value} {w w0 w' : World} {l' : List UInt8} (hb : Below w.heap.size w w0) (h1 : w'.ownsRow B TU 1 v' l'.length (Lib.byteCells l')) (h2 : w0.grownBy w' v.ownBlock) (h3 : v'.ownBlock = v.ownBlock ∨ ∃ b, v'.ownBlock = some b ∧ w0.heap.size ≤ b) : Put B v w v' w' l' := by
  refine ⟨h1, (Only.of_below hb _).grown h2 (fun k hk => .inl (by simp [rowB, hk])), fun k hk => ?_⟩
  rcases h3 with h3 | ⟨b, h3, hle⟩
  · exact .inl (by simpa [rowB, h3] using hk)
  · refine .inr ?_
    have : k = b := by simpa [rowB, h3] using hk
    have := hb.size
    omega
section
variable {ops : Array Oper} {rest : List Oper} {o : Oper} {a : Act} {Q : Exit → Act → World → Prop} {w : World}
/-- append(v, s...), s a string. -/
theorem wp_put_str (B : Nat) (hgd : o.guard = none) (sl x : Operand) (u : TypeId) (hu : Tryd.prog.underlying u = some .string)
    (ho : o.op = .call { callee := .builtin .append, args := #[sl, x], argTypes := #[TB, u] })
    (v : Value) (l : List UInt8) (hs : a.eval sl = v) (hown : Own B w v l) (s : ByteArray) (hx : a.eval x = .string s) (hbytes : l.length + s.size ≤ 140737488355328) (hbase : B ≤ w.heap.size)
    (h : ∀ v' w', Put B v w v' w' (l ++ s.data.toList) → wpList Tryd.prog ops Q rest (a.put o.dst v') w') : wpList Tryd.prog ops Q (o :: rest) a w := by
  obtain ⟨i0, hi, hzz⟩ := Option.map_eq_some_iff.1 infoB
  simp only [Prod.mk.injEq] at hzz
  refine wpList_plain hgd fun K hK => ?_
  obtain ⟨v', w', hr, h2, h3, h4⟩ := run_append_string_at (P := Tryd.prog) w B TB u o.type TU i0 Tryd.underlying27 hu hi hzz.1 hzz.2.1 hzz.2.2 v l.length _ hown s hbytes hbase
  unfold Oper.wp execOp
  simp only [ho, resolve, invoke, builtin, Sem.run_bind, Sem.run_pure, Result.andThen_ok, List.map_toArray, List.map_cons, List.map_nil, hs, hx, hr]
  refine hK _ _ (h v' w' (put_of_grown (Below.refl _ _) ?_ h3 ?_))
  · have e1 : (l ++ s.data.toList).length = l.length + s.size := by rw [List.length_append, Array.length_toList]; rfl
    have e2 : Lib.byteCells (l ++ s.data.toList) = Lib.byteCells l ++ Lib.strCells s := by simp [Lib.byteCells, Lib.strCells]
    rw [e1, e2]
    exact h2
  · rcases h4 with h4 | h4
    · exact .inl h4
    · exact .inr ⟨_, h4, Nat.le_refl _⟩
/-- append(v, c), c a byte that lies in a new block. -/
theorem wp_put_byte (B : Nat) (hgd : o.guard = none) (sl x : Operand)
    (ho : o.op = .call { callee := .builtin .append, args := #[sl, x], argTypes := #[TB, TB] })
    (v : Value) (l : List UInt8) (c : UInt8) (cz : Int) (hc : cz = (c.toNat : Int)) (hs : a.eval sl = v) (hx : a.eval x = .slice (some ⟨w.heap.size, 0, none⟩) 1 1) (hown : Own B w v l) (hbytes : l.length + 1 ≤ 140737488355328) (hbase : B ≤ w.heap.size)
    (h : ∀ v' w', Put B v w v' w' (l ++ [c]) → wpList Tryd.prog ops Q rest (a.put o.dst v') w') : wpList Tryd.prog ops Q (o :: rest) a (w.alloc (.cells #[.int .u8 cz] TU)) := by
  subst hc
  refine print_append (w0 := w) B hgd sl x TB TU (.int .u8 0) 1 ho Tryd.underlying27 infoB rfl (by omega) v (Lib.byteCells l) (.int .u8 (c.toNat : Int)) hs hx rfl (by rw [Lib.byteCells_length]; exact hown) (Below.refl _ _) hbase (by rw [Lib.byteCells_length]; omega) ?_
  intro v1 w1 h1 h2 h3 h4
  refine h v1 w1 (put_of_grown (Below.refl _ _) ?_ h3 h4)
  have e2 : Lib.byteCells (l ++ [c]) = Lib.byteCells l ++ [Value.int .u8 (c.toNat : Int)] := by simp [Lib.byteCells]
  rw [e2]
  have e1 : (l ++ [c]).length = (Lib.byteCells l ++ [Value.int .u8 (c.toNat : Int)]).length := by simp [Lib.byteCells]
  rw [e1]
  exact h1
/-- append(v, x...), x a slice of bytes. -/
theorem wp_put_row (B : Nat) (hgd : o.guard = none) (sl x : Operand)
    (ho : o.op = .call { callee := .builtin .append, args := #[sl, x], argTypes := #[TB, TB] })
    (v : Value) (l m : List UInt8) (A : Option Addr) (c : Nat) (hs : a.eval sl = v) (hx : a.eval x = .slice A m.length c) (hown : Own B w v l) (hr : ReadsInt w .u8 A m.length (m.map fun b => (b.toNat : Int))) (hbytes : l.length + m.length ≤ 140737488355328) (hbase : B ≤ w.heap.size)
    (h : ∀ v' w', Put B v w v' w' (l ++ m) → wpList Tryd.prog ops Q rest (a.put o.dst v') w') : wpList Tryd.prog ops Q (o :: rest) a w := by
  have e0 : ∀ q : List UInt8, nums .u8 (q.map fun b => (b.toNat : Int)) = Lib.byteCells q := fun q => by simp [nums, Lib.byteCells]
  have el : ∀ q : List UInt8, (q.map fun b => (b.toNat : Int)).length = q.length := fun q => by simp
  refine print_append_row (w0 := w) B hgd sl x TB TU .u8 1 ho Tryd.underlying27 infoB (by omega) v (l.map fun b => (b.toNat : Int)) (m.map fun b => (b.toNat : Int)) A m.length c hs hx (by rw [e0, el]; exact hown) hr (Below.refl _ _) hbase (by rw [el]; omega) ?_
  intro v1 w1 h1 h2 h3 h4
  refine h v1 w1 (put_of_grown (Below.refl _ _) ?_ h3 h4)
  rw [← List.map_append, e0, el] at h1
  exact h1
end

abbrev Pow (w : World) : Prop := Lib.TabIs Tryd.prog w "internal/strconv.uint64pow10" .u64 Lib.pow10Tab
set_option maxHeartbeats 6400000 in
set_option maxRecDepth 100000 in
theorem apu_small (B : Nat) (u : Nat) (hu : u < 100) (v : Value) (l : List UInt8) (w : World) (hown : Own B w v l) (hBw : B ≤ w.heap.size) (hlim : l.length + 20 ≤ 140737488355328) :
    Calls Tryd.prog 52 #[v, .int .u64 (u : Int), .int .i64 10] w fun e w' => ∃ v', e = .returned v' ∧ Put B v w v' w' (l ++ Lib.decDigits u) := by
  have hlen : (Lib.decDigits u).length ≤ 20 := by
    rw [Lib.decDigits_length]
    by_cases h10 : u < 10
    · rw [Lib.nDigits_small h10]; omega
    · rw [Lib.nDigits_big h10, Lib.nDigits_small (show u / 10 < 10 by omega)]; omega
  have hsz : (⟨(Lib.decDigits u).toArray⟩ : ByteArray).size = (Lib.decDigits u).length := by simp [ByteArray.size]
  have KS := Aside0.mk (fun w => Tryd.internal_strconv_small u hu w)
  have HO := Aside0.mk hown
  clear hown
  go_enter Tryd.func52, Tryd.ntmps52
  go_wp2_with (first
    | (go_at_call 57; refine (KS.out _).mono ?_; rintro e w' ⟨rfl, rfl⟩)
    | (at_builtin; refine wp_put_str B rfl _ _ 9 Tryd.underlying9 rfl v l rfl HO.out ⟨(Lib.decDigits u).toArray⟩ rfl (by rw [hsz]; omega) hBw ?_))
  intro v1 w1 hp
  go_wp2
  go_ret
  exact ⟨v1, rfl, hp⟩

set_option maxHeartbeats 12800000 in
set_option maxRecDepth 100000 in
theorem apu_big (B : Nat) (u : Nat) (hu : 100 ≤ u) (hu64 : u < 18446744073709551616) (v : Value) (l : List UInt8) (w : World) (hown : Own B w v l) (hBw : B ≤ w.heap.size) (hlim : l.length + 20 ≤ 140737488355328) (hP : Pow w) :
    Calls Tryd.prog 52 #[v, .int .u64 (u : Int), .int .i64 10] w fun e w' => ∃ v', e = .returned v' ∧ Put B v w v' w' (l ++ Lib.decDigits u) := by
  have hu1 : 1 ≤ u := by omega
  have hnd20 : Lib.nDigits u ≤ 20 := by have := Lib.numDigits_eq u hu1 hu64; split at this <;> omega
  have hal : Tryd.prog.arrayLen 84 = 24 := by kernel_rfl
  have hsl : ∀ W, (Instr.sliceAt 84 (.pointer (some ⟨w.heap.size, 0, none⟩)) none (some (.int .i64 (Lib.nDigits u : Int))) none).run Tryd.prog W = .ok (.slice (some ⟨w.heap.size, 0, none⟩) (Lib.nDigits u) 24) W := fun W => by
    have ht := Tryd.underlying84
    have hs := Tryd.sizeOf5
    rw [run_sliceAt_array_h W 84 ⟨w.heap.size, 0, none⟩ (by simp [Program.arrayLen, Program.elem, ht]) .i64 (Lib.nDigits u : Int) (by omega) (by rw [hal]; omega)]
    go_simp
  have hH0 := Lib.holds_zero0 w 84 (Lib.nDigits u) (by omega)
  have hfmt := Tryd.internal_strconv_formatBase10 w.heap.size 0 24 u (Array.replicate (Lib.nDigits u) 0) (w.alloc (.cells Lib.zeros24 84)) hH0 (by rw [Array.size_replicate]; exact Lib.lt_pow_nDigits u) hu64 (by rw [Array.size_replicate]; omega)
  rw [Array.size_replicate] at hfmt
  have HH0 := Lib.hid hH0
  have KF := Aside0.mk hfmt
  have KN := Aside0.mk (Tryd.internal_strconv_numDigits u hu1 hu64 (w.alloc (.cells Lib.zeros24 84)) (Lib.tabIs_alloc hP _))
  have iu : (100 : Int) ≤ (u : Int) := by omega
  have HO := Aside0.mk hown
  clear hH0 hal hfmt hP hown
  go_enter Tryd.func52, Tryd.ntmps52
  go_wp2_with fail
  refine KN.out.mono ?_
  rintro e w' ⟨rfl, rfl⟩
  go_wp2_with fail
  refine KF.out.mono ?_
  rintro e w' ⟨rfl, k, v', dk, rfl, hF⟩
  have hcells : ∀ j, j < (Lib.decDigits u).length → (Sort.putRow (fun (b : UInt8) => Value.int .u8 (b.toNat : Int)) (w.alloc (.cells Lib.zeros24 84)) w.heap.size 0 dk |>.drewN k).cell? ((⟨w.heap.size, 0, none⟩ : Addr).add j) = some (.int .u8 ((((Lib.decDigits u).map fun b => (b.toNat : Int)).getD j 0))) := by
    intro j hjl
    have e5 : ((Lib.decDigits u).map fun b => (b.toNat : Int)).getD j 0 = ((Lib.decDigits u)[j].toNat : Int) := by simp [hjl]
    rw [e5, Lib.row_is_numeral hF j hjl, Lib.add_plain, World.cell?_drewN]
    exact Sort.cell?_putRow (fun (b : UInt8) => Value.int .u8 (b.toNat : Int)) _ w.heap.size 0 _ dk HH0.out (by rw [hF.size, Array.size_replicate]) j (by rw [hF.size]; rw [Lib.decDigits_length] at hjl; exact hjl)
  obtain ⟨os, eo⟩ := Lib.fin_at w (.cells Lib.zeros24 84) dk k 0
  have hb2 : Below w.heap.size w (Sort.putRow (fun (b : UInt8) => Value.int .u8 (b.toNat : Int)) (w.alloc (.cells Lib.zeros24 84)) w.heap.size 0 dk |>.drewN k) := by rw [eo]; exact Lib.below_grow w.heap.size w (Nat.le_refl _) k os
  generalize (Sort.putRow (fun (b : UInt8) => Value.int .u8 (b.toNat : Int)) (w.alloc (.cells Lib.zeros24 84)) w.heap.size 0 dk).drewN k = W2 at hcells hb2 ⊢
  have hdl := Lib.decDigits_length u
  have hO2 : Own B W2 v l := HO.out.only (Only.of_below hb2 []) (fun _ _ h => by cases h)
  have HR : ReadsInt W2 .u8 (some ⟨w.heap.size, 0, none⟩) (Lib.decDigits u).length ((Lib.decDigits u).map fun b => (b.toNat : Int)) := ⟨by simp, by omega, fun _ => ⟨_, rfl, hcells⟩⟩
  have HO2 := Aside0.mk hO2
  have HRR := Aside0.mk HR
  have HB2 := Aside0.mk hb2
  have hle := hb2.size
  have HDL := Aside0.mk hdl
  clear eo HH0 hcells hO2 HR hb2 hF hdl
  go_wp2_with (at_builtin; refine wp_put_row B rfl _ _ rfl v l (Lib.decDigits u) (some ⟨w.heap.size, 0, none⟩) 24 rfl (by rw [HDL.out]; rfl) HO2.out HRR.out (by rw [HDL.out]; omega) (by omega) ?_)
  intro v2 w3 hp
  have HP : Put B v w v2 w3 (l ++ Lib.decDigits u) := ⟨hp.1, (Only.of_below HB2.out _).trans hp.2.1 (fun k hk => .inl hk), fun k hk => by
    rcases hp.2.2 k hk with h | h
    · exact .inl h
    · exact .inr (by omega)⟩
  go_wp2
  go_ret
  exact ⟨v2, rfl, HP⟩
/-- strconv.AppendInt(v, n, 10). -/
theorem api_calls (B : Nat) (n : Nat) (hn : n ≤ 9223372036854775807) (v : Value) (l : List UInt8) (w : World) (hown : Own B w v l) (hBw : B ≤ w.heap.size) (hlim : l.length + 21 ≤ 140737488355328) (hP : Pow w) :
    Calls Tryd.prog 35 #[v, .int .i64 (n : Int), .int .i64 10] w fun e w' => ∃ v', e = .returned v' ∧ Put B v w v' w' (l ++ Lib.decDigits n) := by
  have K : Calls Tryd.prog 52 #[v, .int .u64 (n : Int), .int .i64 10] w fun e w' => ∃ v', e = .returned v' ∧ Put B v w v' w' (l ++ Lib.decDigits n) := by
    by_cases h : n < 100
    · exact apu_small B n h v l w hown hBw (by omega)
    · exact apu_big B n (by omega) (by omega) v l w hown hBw (by omega) hP
  have KK := Aside0.mk K
  have t1 : decide ((n : Int) < 0) = false := decide_eq_false (by omega)
  clear K hown hP
  have K2 : Calls Tryd.prog 43 #[v, .int .i64 (n : Int), .int .i64 10] w fun e w' => ∃ v', e = .returned v' ∧ Put B v w v' w' (l ++ Lib.decDigits n) := by
    go_enter Tryd.func43, Tryd.ntmps43
    go_wp2_with fail
    refine KK.out.mono ?_
    rintro e w1 ⟨v1, rfl, hp⟩
    go_wp2
    go_ret
    exact ⟨v1, rfl, hp⟩
  have KK2 := Aside0.mk K2
  clear K2
  go_enter Tryd.func35, Tryd.ntmps35
  go_wp2_with fail
  refine KK2.out.mono ?_
  rintro e w1 ⟨v1, rfl, hp⟩
  go_wp2
  go_ret
  exact ⟨v1, rfl, hp⟩
end Go.Proofs.YtmilpfccgggmkaaDoor.Knt

/- What was tied: the program's Knot. -/
namespace Go.Proofs.YtmilpfccgggmkaaDoor.Knt
open Go.RowKit Go.Proofs.YtmilpfccgggmkaaDoorW.PrintWords Go.Proofs.YtmilpfccgggmkaaDoor.Arr
set_option linter.unusedVariables false
set_option linter.unusedSimpArgs false

abbrev TK : TypeId := 62
/-- A Knot at block g that holds l; S: its blocks. -/
def KAt (B : Nat) (w : World) (g : Nat) (l : List UInt8) (S : List Nat) : Prop := ∃ v, Blk w g TK #[v] ∧ Own B w v l ∧ S = g :: rowB v ∧ B ≤ g
def KPut (B : Nat) (S : List Nat) (w w' : World) (g : Nat) (l' : List UInt8) : Prop := ∃ S', KAt B w' g l' S' ∧ Only S w w' ∧ ∀ k, k ∈ S' → k ∈ S ∨ w.heap.size ≤ k
theorem KAt.base {B : Nat} {w : World} {g : Nat} {l : List UInt8} {S : List Nat} (h : KAt B w g l S) : ∀ k, k ∈ S → B ≤ k ∧ k < w.heap.size := by
  obtain ⟨v, hb, ho, rfl, hB⟩ := h
  intro k hk
  rcases List.mem_cons.1 hk with rfl | hk
  · exact ⟨hB, hb.lt⟩
  · exact ho.lt k hk
theorem KAt.only {B : Nat} {w w1 : World} {g : Nat} {l : List UInt8} {S S1 : List Nat} (h : KAt B w g l S) (ho : Only S1 w w1) (hn : ∀ k, k ∈ S → k ∉ S1) : KAt B w1 g l S := by
  obtain ⟨v, hb, how, rfl, hB⟩ := h
  exact ⟨v, hb.only ho (hn g (by simp)), how.only ho (fun k hk => hn k (by simp [hk])), rfl, hB⟩
theorem KAt.below {B : Nat} {w w1 : World} {g : Nat} {l : List UInt8} {S : List Nat} (h : KAt B w g l S) (hb : Below w.heap.size w w1) : KAt B w1 g l S := h.only (Only.of_below hb []) (fun _ _ hh => by cases hh)
theorem KPut.refl {B : Nat} {w : World} {g : Nat} {l : List UInt8} {S : List Nat} (h : KAt B w g l S) : KPut B S w w g l := ⟨S, h, Only.refl _ _, fun k hk => .inl hk⟩
theorem KPut.trans {B : Nat} {S : List Nat} {w w1 w2 : World} {g : Nat} {l1 l2 : List UInt8} (h : KPut B S w w1 g l1) (h' : ∀ S1, KAt B w1 g l1 S1 → KPut B S1 w1 w2 g l2) : KPut B S w w2 g l2 := by
  obtain ⟨S1, hk1, ho1, hs1⟩ := h
  obtain ⟨S2, hk2, ho2, hs2⟩ := h' S1 hk1
  exact ⟨S2, hk2, ho1.trans ho2 hs1, fun k hk => by
    rcases hs2 k hk with h | h
    · exact hs1 k h
    · exact .inr (Nat.le_trans ho1.size h)⟩
/-- Laid open, with blocks T that are none of its. -/
theorem KPut.take {B : Nat} {S : List Nat} {w w1 : World} {g : Nat} {l1 : List UInt8} (h : KPut B S w w1 g l1) (T : List Nat) (hT : ∀ i, i ∈ T → i < w.heap.size ∧ i ∉ S) : ∃ S1, KAt B w1 g l1 S1 ∧ Only S w w1 ∧ (∀ k, k ∈ S1 → k ∈ S ∨ w.heap.size ≤ k) ∧ ∀ i, i ∈ T → i < w1.heap.size ∧ i ∉ S1 := by
  obtain ⟨S1, hk1, ho1, hs1⟩ := h
  exact ⟨S1, hk1, ho1, hs1, fun i hi => ⟨Nat.lt_of_lt_of_le (hT i hi).1 ho1.size, fun hm => by
    rcases hs1 i hm with h | h
    · exact (hT i hi).2 h
    · have := (hT i hi).1; omega⟩⟩
/-- Laid open beside another Knot. -/
theorem KPut.beside {B : Nat} {S S2 : List Nat} {w w1 : World} {g g2 : Nat} {l1 l2 : List UInt8} (h : KPut B S w w1 g l1) (hb : KAt B w g2 l2 S2) (hd : ∀ i, i ∈ S2 → i ∉ S) :
    ∃ S1, KAt B w1 g l1 S1 ∧ KAt B w1 g2 l2 S2 ∧ Only S w w1 ∧ (∀ i, i ∈ S2 → i ∉ S1) ∧ ∀ i, i ∈ S1 → i ∉ S2 := by
  obtain ⟨S1, hk1, ho1, -, ht⟩ := h.take S2 (fun i hi => ⟨(hb.base i hi).2, hd i hi⟩)
  exact ⟨S1, hk1, hb.only ho1 hd, ho1, fun i hi => (ht i hi).2, fun i hi hm => (ht i hm).2 hi⟩
theorem PowB.up {B B' : Nat} {w : World} (h : Lib.TabBelow Tryd.prog B w "internal/strconv.uint64pow10" .u64 Lib.pow10Tab) (hB : B ≤ B') : Lib.TabBelow Tryd.prog B' w "internal/strconv.uint64pow10" .u64 Lib.pow10Tab := fun w' hb => h w' (hb.mono hB)
theorem KPut.step {B : Nat} {S : List Nat} {w w1 w2 : World} {g : Nat} {l : List UInt8} (h : KPut B S w w1 g l) (hb : Below w1.heap.size w1 w2) : KPut B S w w2 g l := by
  obtain ⟨S1, hk1, ho1, hs1⟩ := h
  exact ⟨S1, hk1.below hb, ho1.step hb, hs1⟩
/-- The store of a row that was put behind v's. -/
theorem kput_of_put {B : Nat} {w w1 : World} {g : Nat} {l l' : List UInt8} {v v' : Value} (hb : Blk w g TK #[v]) (ho : Own B w v l) (hB : B ≤ g) (hp : Put B v w v' w1 l') : KPut B (g :: rowB v) w (w1.setCell ⟨g, 0, none⟩ v') g l' := by
  have hne := ho.ne hb (by decide)
  have hb1 : Blk w1 g TK #[v] := hb.only hp.2.1 hne
  have hne1 : g ∉ rowB v' := fun hm => by
    rcases hp.2.2 g hm with h | h
    · exact hne h
    · have := hb.lt; omega
  have ho1 : Only [g] w1 (w1.setCell ⟨g, 0, none⟩ v') := (Only.refl _ _).setCell (.inl (by simp)) _
  refine ⟨g :: rowB v', ⟨v', hb1.set 0 v', hp.1.only ho1 (fun k hk hm => hne1 (by rw [List.mem_singleton.1 hm] at hk; exact hk)), rfl, hB⟩, ?_, fun k hk => ?_⟩
  · exact (hp.2.1.mono (S' := g :: rowB v) (fun k hk => .inl (by simp [hk]))).trans ho1 (fun k hk => .inl (by rw [List.mem_singleton.1 hk]; simp))
  · rcases List.mem_cons.1 hk with rfl | hk
    · exact .inl (by simp)
    · rcases hp.2.2 k hk with h | h
      · exact .inl (by simp [h])
      · exact .inr h
/-- The powers of ten stand, whatever is written from B on. -/
abbrev PowB (B : Nat) (w : World) : Prop := Lib.TabBelow Tryd.prog B w "internal/strconv.uint64pow10" .u64 Lib.pow10Tab
theorem PowB.on {B : Nat} {w w1 : World} (h : PowB B w) (hb : Below B w w1) : PowB B w1 := Lib.TabBelow.on h hb
theorem KAt.belowB {B : Nat} {w w1 : World} {g : Nat} {l : List UInt8} {S : List Nat} (h : KAt B w g l S) (ho : Only S w w1) : Below B w w1 :=
  ho.below (by obtain ⟨v, hb, _, _, hB⟩ := h; have := hb.lt; omega) (fun k hk => (h.base k hk).1)
theorem KPut.belowB {B : Nat} {w w1 : World} {g : Nat} {l l' : List UInt8} {S : List Nat} (h : KAt B w g l S) (hp : KPut B S w w1 g l') : Below B w w1 := by
  obtain ⟨_, _, ho, _⟩ := hp
  exact h.belowB ho
theorem KAt.size {B : Nat} {w : World} {g : Nat} {l : List UInt8} {S : List Nat} (h : KAt B w g l S) : B ≤ w.heap.size := by
  obtain ⟨v, hb, _, _, hB⟩ := h
  have := hb.lt
  omega

set_option maxHeartbeats 2000000 in
theorem new_calls (w : World) : Calls Tryd.prog 9 #[] w fun e w' => e = .returned (.pointer (some ⟨w.heap.size, 0, none⟩)) ∧ w' = w.alloc (.cells #[.slice none 0 0] TK) := by
  go_enter Tryd.func9, Tryd.ntmps9
  go_wp2
  go_ret
  exact ⟨rfl, rfl⟩
theorem kat_new (B : Nat) (w : World) (hB : B ≤ w.heap.size) : KAt B (w.alloc (.cells #[.slice none 0 0] TK)) w.heap.size [] [w.heap.size] := ⟨_, Blk.new w TK _, Own.nil _ _, rfl, hB⟩

/-- A number's bytes. -/
def numT (n : Nat) : List UInt8 := Lib.decDigits n ++ [59]
theorem dig_len (n : Nat) (hn : n < 18446744073709551616) : (Lib.decDigits n).length ≤ 20 := by
  rw [Lib.decDigits_length]
  by_cases h : n = 0
  · subst h; rw [Lib.nDigits_small (by omega)]; omega
  · have := Lib.numDigits_eq n (by omega) hn
    split at this <;> omega
theorem numT_len (n : Nat) (hn : n < 18446744073709551616) : (numT n).length ≤ 21 := by
  unfold numT
  have := dig_len n hn
  simp
  omega
set_option maxHeartbeats 4000000 in
set_option maxRecDepth 100000 in
theorem number_calls (B : Nat) (g : Nat) (l : List UInt8) (S : List Nat) (n : Nat) (hn : n ≤ 9007199254740992) (hl : l.length + 30 ≤ 140737488355328) (w : World) (hk : KAt B w g l S) (hP : PowB B w) :
    Calls Tryd.prog 12 #[.pointer (some ⟨g, 0, none⟩), .int .i64 (n : Int)] w fun e w' => e = .returned (.int .i64 0) ∧ KPut B S w w' g (l ++ numT n) := by
  have hBw := hk.size
  obtain ⟨v, hb, ho, rfl, hB⟩ := hk
  have t1 : decide ((n : Int) < 0) = false := decide_eq_false (by omega)
  have t2 : decide ((n : Int) > 9007199254740992) = false := decide_eq_false (by omega)
  have KA := Aside0.mk (api_calls B n (by omega) v l w ho hBw (by omega) hP.here)
  have hdl := dig_len n (by omega)
  have c0 := hb.cell 0
  have hlt := hb.lt
  have HBk := Aside0.mk hb
  have HO := Aside0.mk ho
  clear hb ho hP
  go_enter Tryd.func12, Tryd.ntmps12
  go_wp2_with fail
  refine KA.out.mono ?_
  rintro e w1 ⟨v1, rfl, hp1⟩
  have HP1 := Aside0.mk hp1
  have hs1 := hp1.2.1.size
  clear KA c0 hp1
  go_wp2_with (at_builtin; refine wp_put_byte B rfl _ _ rfl v1 (l ++ Lib.decDigits n) 59 59 rfl rfl rfl HP1.out.1 (by rw [List.length_append]; omega) (by omega) ?_)
  intro v2 w2 hp2
  have hp := HP1.out.trans hp2
  have hb2 := HBk.out.only hp.2.1 (HO.out.ne HBk.out (by decide))
  have c2 := hb2.cell 0
  have f2 := hb2.frozen 0
  have hlt2 := hb2.lt
  have HP := Aside0.mk hp
  obtain ⟨A2, n2, k2, rfl⟩ := hp2.1.some
  clear hp2 hp hb2 HP1
  go_wp2
  go_ret
  refine ⟨rfl, ?_⟩
  have := kput_of_put HBk.out HO.out hB HP.out
  exact this
theorem number_bad (g : Nat) (n : Int) (hn : n < 0 ∨ 9007199254740992 < n) (w : World) :
    Calls Tryd.prog 12 #[.pointer (some ⟨g, 0, none⟩), .int .i64 n] w fun e w' => e = .returned (.int .i64 1) ∧ w' = w := by
  by_cases h : n < 0
  · have t1 : decide (n < 0) = true := decide_eq_true h
    clear hn h
    go_enter Tryd.func12, Tryd.ntmps12
    go_wp2
    go_ret
    exact ⟨rfl, rfl⟩
  · have t1 : decide (n < 0) = false := decide_eq_false h
    have t2 : decide (n > 9007199254740992) = true := decide_eq_true (by omega)
    clear hn h
    go_enter Tryd.func12, Tryd.ntmps12
    go_wp2
    go_ret
    exact ⟨rfl, rfl⟩
/-- A text's bytes. -/
def textT (s : ByteArray) : List UInt8 := numT s.size ++ s.data.toList ++ [44]
theorem size_list (s : ByteArray) : s.data.toList.length = s.size := by rw [Array.length_toList]; rfl
theorem textT_len (s : ByteArray) (hn : s.size < 18446744073709551616) : (textT s).length ≤ s.size + 22 := by
  unfold textT
  have := numT_len s.size hn
  rw [List.length_append, List.length_append, size_list]
  simp
  omega
set_option maxHeartbeats 4000000 in
set_option maxRecDepth 100000 in
theorem text_calls (B : Nat) (g : Nat) (l : List UInt8) (S : List Nat) (s : ByteArray) (hs : s.size ≤ 9007199254740992) (hl : l.length + s.size + 60 ≤ 140737488355328) (w : World) (hk : KAt B w g l S) (hP : PowB B w) :
    Calls Tryd.prog 10 #[.pointer (some ⟨g, 0, none⟩), .string s] w fun e w' => e = .returned (.tuple #[]) ∧ KPut B S w w' g (l ++ textT s) := by
  have hBw := hk.size
  have KN := Aside0.mk (number_calls B g l S s.size hs (by omega) w hk hP)
  have hnl := numT_len s.size (by omega)
  clear hk hP
  go_enter Tryd.func10, Tryd.ntmps10
  go_wp2_with fail
  refine KN.out.mono ?_
  rintro e w1 ⟨rfl, hp1⟩
  obtain ⟨S1, hk1, ho1, hs1⟩ := hp1
  obtain ⟨v, hb, ho, rfl, hB⟩ := hk1
  have hz1 := ho1.size
  have c0 := hb.cell 0
  have hlt := hb.lt
  have HBk := Aside0.mk hb
  have HO := Aside0.mk ho
  have HO1 := Aside0.mk ho1
  have HS1 := Aside0.mk hs1
  clear hb ho ho1 hs1 KN
  go_wp2_with (at_builtin; refine wp_put_str B rfl _ _ 9 Tryd.underlying9 rfl v (l ++ numT s.size) rfl HO.out s rfl (by rw [List.length_append]; omega) (by omega) ?_)
  intro v1 w2 hp2
  have HP2 := Aside0.mk hp2
  have hz2 := hp2.2.1.size
  have hsl : (s.data.toList).length = s.size := size_list s
  have HSL := Aside0.mk hsl
  clear hp2 c0 hsl
  go_wp2_with (at_builtin; refine wp_put_byte B rfl _ _ rfl v1 (l ++ (numT s.size ++ s.data.toList)) 44 44 rfl rfl rfl HP2.out.1 (by rw [List.length_append, List.length_append, HSL.out]; omega) (by omega) ?_)
  intro v2 w3 hp3
  have hp := HP2.out.trans hp3
  have hb2 := HBk.out.only hp.2.1 (HO.out.ne HBk.out (by decide))
  have c2 := hb2.cell 0
  have f2 := hb2.frozen 0
  have hlt2 := hb2.lt
  have HP := Aside0.mk hp
  obtain ⟨A2, n2, k2, rfl⟩ := hp3.1.some
  clear hp3 hp hb2 HP2
  go_wp2
  go_end0
  have hkp := kput_of_put HBk.out HO.out hB HP.out
  have e1 : l ++ (numT s.size ++ (s.data.toList ++ [44])) = l ++ textT s := by simp [textT]
  rw [e1] at hkp
  obtain ⟨S2, q1, q2, q3⟩ := hkp
  refine ⟨rfl, S2, q1, HO1.out.trans q2 HS1.out, fun k hk => ?_⟩
  rcases q3 k hk with h | h
  · exact HS1.out k h
  · exact .inr (by omega)

def markT (b : Bool) : List UInt8 := [if b = true then 43 else 45]
set_option maxHeartbeats 4000000 in
set_option maxRecDepth 100000 in
theorem mark_calls (B : Nat) (g : Nat) (l : List UInt8) (S : List Nat) (b : Bool) (hl : l.length + 2 ≤ 140737488355328) (w : World) (hk : KAt B w g l S) :
    Calls Tryd.prog 14 #[.pointer (some ⟨g, 0, none⟩), .bool b] w fun e w' => e = .returned (.tuple #[]) ∧ KPut B S w w' g (l ++ markT b) := by
  have hBw := hk.size
  obtain ⟨v, hb, ho, rfl, hB⟩ := hk
  have c0 := hb.cell 0
  have hlt := hb.lt
  have HBk := Aside0.mk hb
  have HO := Aside0.mk ho
  clear hb ho
  cases b with
  | true =>
    go_enter Tryd.func14, Tryd.ntmps14
    go_wp2_with (at_builtin; refine wp_put_byte B rfl _ _ rfl v l 43 43 rfl rfl rfl HO.out (by omega) (by omega) ?_)
    intro v2 w3 hp
    have hb2 := HBk.out.only hp.2.1 (HO.out.ne HBk.out (by decide))
    have c2 := hb2.cell 0
    have f2 := hb2.frozen 0
    have hlt2 := hb2.lt
    have HP := Aside0.mk hp
    obtain ⟨A2, n2, k2, rfl⟩ := hp.1.some
    clear hp hb2 c0
    go_wp2
    refine bodyPost_ret (results_none rfl _ _ _) rfl ?_
    exact ⟨rfl, kput_of_put HBk.out HO.out hB HP.out⟩
  | false =>
    go_enter Tryd.func14, Tryd.ntmps14
    go_wp2_with (at_builtin; refine wp_put_byte B rfl _ _ rfl v l 45 45 rfl rfl rfl HO.out (by omega) (by omega) ?_)
    intro v2 w3 hp
    have hb2 := HBk.out.only hp.2.1 (HO.out.ne HBk.out (by decide))
    have c2 := hb2.cell 0
    have f2 := hb2.frozen 0
    have hlt2 := hb2.lt
    have HP := Aside0.mk hp
    obtain ⟨A2, n2, k2, rfl⟩ := hp.1.some
    clear hp hb2 c0
    go_wp2
    go_end0
    exact ⟨rfl, kput_of_put HBk.out HO.out hB HP.out⟩

theorem Own.reads {B : Nat} {w : World} {v : Value} {l : List UInt8} (h : Own B w v l) : ∃ A c, v = .slice A l.length c ∧ ReadsInt w .u8 A l.length (l.map fun b => (b.toNat : Int)) := by
  have e0 : nums .u8 (l.map fun b => (b.toNat : Int)) = Lib.byteCells l := by simp [nums, Lib.byteCells]
  have h' : w.ownsRow B TU 1 v l.length (nums .u8 (l.map fun b => (b.toNat : Int))) := by rw [e0]; exact h
  exact own_reads h'
set_option maxHeartbeats 4000000 in
set_option maxRecDepth 100000 in
theorem bytes_calls (B : Nat) (g : Nat) (l : List UInt8) (S : List Nat) (hl : l.length ≤ 140737488355328) (w : World) (hk : KAt B w g l S) :
    Calls Tryd.prog 11 #[.pointer (some ⟨g, 0, none⟩)] w fun e w' => ∃ v, e = .returned v ∧ Own w.heap.size w' v l ∧ Below w.heap.size w w' := by
  obtain ⟨v, hb, ho, rfl, hB⟩ := hk
  obtain ⟨A, c, rfl, hr⟩ := ho.reads
  have c0 := hb.cell 0
  have hlt := hb.lt
  have HR := Aside0.mk hr
  clear hb ho hr
  go_enter Tryd.func11, Tryd.ntmps11
  go_wp2_with (at_builtin; refine wp_put_row w.heap.size rfl _ _ rfl (.slice (some ⟨w.heap.size, 0, none⟩) 0 0) [] l A c rfl rfl ?c1 ?c2 (by simp; omega) (by simp) ?_)
  case c1 => exact own_lit w w.heap.size TU .u8 [] (Nat.le_refl _) (by simp)
  case c2 => exact HR.out.below ((Below.refl _ _).alloc (Nat.le_refl _) _)
  intro v1 w1 hp
  have hb1 : Below w.heap.size w w1 := by
    refine ((Below.refl w.heap.size w).alloc (Nat.le_refl _) _).trans (hp.2.1.below (by simp) fun k hk => ?_)
    have : k = w.heap.size := by simpa [rowB, Value.ownBlock] using hk
    omega
  have HP := Aside0.mk hp
  clear hp
  go_wp2
  go_ret
  exact ⟨v1, rfl, HP.out.1, hb1⟩
end Go.Proofs.YtmilpfccgggmkaaDoor.Knt

/- UTF-8 texts: plain facts on how the model decodes. No program. -/
namespace Go.Proofs.YtmilpfccgggmkaaDoor.Utf
open Go.Proofs.YtmilpfccgggmkaaDoorW.PrintWords
set_option linter.unusedVariables false
set_option linter.unusedSimpArgs false

/-! ### bytes -/
def gb (s : ByteArray) (i : Nat) : Nat := (s.get! i).toNat
theorem gb_lt (s : ByteArray) (i : Nat) : gb s i < 256 := (s.get! i).toNat_lt
theorem gb_get (s : ByteArray) (i : Nat) (h : i < s.size) : (s[i]'h).toNat = gb s i := by
  cases s with
  | mk d => exact congrArg UInt8.toNat (getElem!_pos d i h).symm
theorem gb_out (s : ByteArray) (i : Nat) (h : s.size ≤ i) : gb s i = 0 := by
  cases s with
  | mk d =>
    have h1 : ¬ i < d.size := by simpa [ByteArray.size] using h
    have : d[i]! = default := getElem!_neg d i h1
    show (d[i]!).toNat = 0
    rw [this]
    rfl
theorem bt_gb (s : ByteArray) (i : Nat) (h : i < s.size) : bt s (i : Int) = (gb s i : Int) := by
  have := bt_at s (i : Int) (by simpa using h)
  rw [← this]
  simp only [Int.toNat_natCast]
  rw [gb_get]
theorem gb_extract (s : ByteArray) (a e j : Nat) (h : a + j < e) (he : e ≤ s.size) : gb (s.extract a e) j = gb s (a + j) := by
  have h1 : j < (s.extract a e).size := by rw [ByteArray.size_extract]; omega
  rw [← gb_get _ _ h1, ← gb_get _ _ (by omega)]
  exact congrArg UInt8.toNat (ByteArray.getElem_extract _)
theorem ext_gb (s t : ByteArray) (hl : s.size = t.size) (h : ∀ i, i < s.size → gb s i = gb t i) : s = t := by
  apply ByteArray.ext_getElem hl
  intro i h1 h2
  have := h i h1
  rw [← gb_get s i h1, ← gb_get t i h2] at this
  exact UInt8.toNat_inj.1 this

/-! ### one rune -/
theorem dec_at (s : ByteArray) (p : Nat) : Utf8.decode s p = Lib.decodeN (s.size - p) (gb s p) (gb s (p + 1)) (gb s (p + 2)) (gb s (p + 3)) := Lib.decode_at s p
theorem dec_extract (s : ByteArray) (p : Nat) (h : p ≤ s.size) : Utf8.decode (s.extract p s.size) 0 = Utf8.decode s p := by
  have hz : (s.extract p s.size).size = s.size - p := by rw [ByteArray.size_extract]; omega
  have hg : ∀ j, gb (s.extract p s.size) j = gb s (p + j) := by
    intro j
    by_cases hj : p + j < s.size
    · exact gb_extract s p s.size j hj (Nat.le_refl _)
    · rw [gb_out _ _ (by omega), gb_out _ _ (by omega)]
  rw [dec_at, dec_at, hz, hg, hg, hg, hg]
  simp only [Nat.sub_zero, Nat.zero_add, Nat.add_zero]
theorem decN_w (n b0 b1 b2 b3 : Nat) (hn : 1 ≤ n) : 1 ≤ (Lib.decodeN n b0 b1 b2 b3).2 ∧ (Lib.decodeN n b0 b1 b2 b3).2 ≤ n := by
  unfold Lib.decodeN
  repeat' split
  all_goals (simp only; omega)
theorem dec_w (s : ByteArray) (p : Nat) (h : p < s.size) : 1 ≤ (Utf8.decode s p).2 ∧ p + (Utf8.decode s p).2 ≤ s.size := by
  rw [dec_at]
  have := decN_w (s.size - p) (gb s p) (gb s (p + 1)) (gb s (p + 2)) (gb s (p + 3)) (by omega)
  omega
theorem dec_ascii (s : ByteArray) (p : Nat) (h : gb s p < 128) : Utf8.decode s p = (gb s p, 1) := by
  rw [dec_at]
  unfold Lib.decodeN
  rw [if_pos h]
theorem dec_high (s : ByteArray) (p : Nat) (h : 128 ≤ gb s p) : 128 ≤ (Utf8.decode s p).1 := by
  rw [dec_at]
  unfold Lib.decodeN
  repeat' split
  all_goals (simp only; omega)
theorem dec_le (s : ByteArray) (p : Nat) : (Utf8.decode s p).1 ≤ 1114111 := by
  have h0 := gb_lt s p
  rw [dec_at]
  unfold Lib.decodeN
  repeat' split
  all_goals (simp only; omega)
/-- Behind a byte above ASCII's, all of the rune's are. -/
theorem dec_bytes (s : ByteArray) (p j : Nat) (h : 128 ≤ gb s p) (h1 : p ≤ j) (h2 : j < p + (Utf8.decode s p).2) : 128 ≤ gb s j := by
  rw [dec_at] at h2
  have l1 := gb_lt s (p + 1)
  have l2 := gb_lt s (p + 2)
  have l3 := gb_lt s (p + 3)
  obtain ⟨k, rfl⟩ : ∃ k, j = p + k := ⟨j - p, by omega⟩
  have hk : k < (Lib.decodeN (s.size - p) (gb s p) (gb s (p + 1)) (gb s (p + 2)) (gb s (p + 3))).2 := by omega
  clear h2
  unfold Lib.decodeN at hk
  have key : k = 0 ∨ (k = 1 ∧ gb s (p + 1) / 64 = 2) ∨ (k = 2 ∧ gb s (p + 2) / 64 = 2) ∨ (k = 3 ∧ gb s (p + 3) / 64 = 2) := by
    repeat' split at hk
    all_goals (simp only at hk; omega)
  rcases key with rfl | ⟨rfl, h⟩ | ⟨rfl, h⟩ | ⟨rfl, h⟩
  · exact h
  all_goals omega
/-- No rune stands at p. -/
def brokenB (s : ByteArray) (p : Nat) : Bool := (Utf8.decode s p).1 == 65533 && (Utf8.decode s p).2 == 1
theorem broken_no (s : ByteArray) (p : Nat) (h : (Utf8.decode s p).1 ≠ 65533) : brokenB s p = false := by
  unfold brokenB
  rw [beq_eq_false_iff_ne.2 h]
  rfl
theorem broken_yes (s : ByteArray) (p : Nat) (h : (Utf8.decode s p).1 = 65533) : brokenB s p = ((Utf8.decode s p).2 == 1) := by
  unfold brokenB
  rw [beq_iff_eq.2 h]
  rfl

/-! ### all runes from a place on: place, rune, width -/
def decs (s : ByteArray) : Nat → Nat → List (Nat × Nat × Nat)
  | 0, _ => []
  | f + 1, p => if p < s.size then (p, (Utf8.decode s p).1, (Utf8.decode s p).2) :: decs s f (p + (Utf8.decode s p).2) else []
theorem decs_fuel (s : ByteArray) : ∀ (f g p : Nat), s.size ≤ p + f → s.size ≤ p + g → decs s f p = decs s g p
  | 0, 0, p, _, _ => rfl
  | 0, g + 1, p, h, _ => by unfold decs; rw [if_neg (by omega)]
  | f + 1, 0, p, _, h => by unfold decs; rw [if_neg (by omega)]
  | f + 1, g + 1, p, hf, hg => by
    unfold decs
    by_cases hp : p < s.size
    · rw [if_pos hp, if_pos hp]
      have := dec_w s p hp
      rw [decs_fuel s f g (p + (Utf8.decode s p).2) (by omega) (by omega)]
    · rw [if_neg hp, if_neg hp]
def tail (s : ByteArray) (p : Nat) : List (Nat × Nat × Nat) := decs s (s.size - p) p
theorem tail_end (s : ByteArray) (p : Nat) (h : ¬ p < s.size) : tail s p = [] := by
  unfold tail
  rw [show s.size - p = 0 by omega]
  rfl
theorem tail_step (s : ByteArray) (p : Nat) (h : p < s.size) : tail s p = (p, (Utf8.decode s p).1, (Utf8.decode s p).2) :: tail s (p + (Utf8.decode s p).2) := by
  unfold tail
  obtain ⟨f, hf⟩ : ∃ f, s.size - p = f + 1 := ⟨s.size - p - 1, by omega⟩
  have := dec_w s p h
  rw [hf]
  conv => lhs; unfold decs
  rw [if_pos h]
  congr 1
  exact decs_fuel s _ _ _ (by omega) (by omega)
/-- An induction along the runes. -/
theorem tail_ind (s : ByteArray) (P : Nat → Prop) (h0 : ∀ p, ¬ p < s.size → P p) (h1 : ∀ p, p < s.size → P (p + (Utf8.decode s p).2) → P p) : ∀ p, P p := by
  intro p
  obtain ⟨d, hd⟩ : ∃ d, s.size - p ≤ d := ⟨_, Nat.le_refl _⟩
  induction d generalizing p with
  | zero => exact h0 p (by omega)
  | succ d ih =>
    by_cases hp : p < s.size
    · have := dec_w s p hp
      exact h1 p hp (ih _ (by omega))
    · exact h0 p hp

/-! ### valid, count, plain -/
def validT (s : ByteArray) (p : Nat) : Bool := (tail s p).all fun x => !(x.2.1 == 65533 && x.2.2 == 1)
def validB (s : ByteArray) : Bool := validT s 0
theorem validT_end (s : ByteArray) (p : Nat) (h : ¬ p < s.size) : validT s p = true := by unfold validT; rw [tail_end s p h]; rfl
theorem validT_step (s : ByteArray) (p : Nat) (h : p < s.size) : validT s p = (!brokenB s p && validT s (p + (Utf8.decode s p).2)) := by
  unfold validT
  rw [tail_step s p h]
  rfl
def cntT (s : ByteArray) (p : Nat) : Nat := (tail s p).length
def cnt (s : ByteArray) : Nat := cntT s 0
theorem cntT_end (s : ByteArray) (p : Nat) (h : ¬ p < s.size) : cntT s p = 0 := by unfold cntT; rw [tail_end s p h]; rfl
theorem cntT_step (s : ByteArray) (p : Nat) (h : p < s.size) : cntT s p = cntT s (p + (Utf8.decode s p).2) + 1 := by
  unfold cntT
  rw [tail_step s p h]
  rfl
theorem cntT_le (s : ByteArray) : ∀ p, p + cntT s p ≤ max p s.size := by
  apply tail_ind s
  · intro p h; rw [cntT_end s p h]; omega
  · intro p h ih
    have := dec_w s p h
    rw [cntT_step s p h]
    omega
theorem cnt_le (s : ByteArray) : cnt s ≤ s.size := by have := cntT_le s 0; unfold cnt; omega
def plainR (r : Nat) : Bool := !(r == 35 || r == 64 || r == 58 || r == 42 || r == 44 || r == 40 || r == 41 || r == 34 || r == 92 || r == 59) && (decide (32 < r) && (decide (r < 127) || decide (160 < r)))
def plainT (s : ByteArray) (p : Nat) : Bool := (tail s p).all fun x => plainR x.2.1
theorem plainT_end (s : ByteArray) (p : Nat) (h : ¬ p < s.size) : plainT s p = true := by unfold plainT; rw [tail_end s p h]; rfl
theorem plainT_step (s : ByteArray) (p : Nat) (h : p < s.size) : plainT s p = (plainR (Utf8.decode s p).1 && plainT s (p + (Utf8.decode s p).2)) := by
  unfold plainT
  rw [tail_step s p h]
  rfl
def idB (s : ByteArray) : Bool := validB s && (decide (1 ≤ cnt s) && decide (cnt s ≤ 24)) && plainT s 0
def runesT (s : ByteArray) (p : Nat) : List Int := (tail s p).map fun x => (x.2.1 : Int)
theorem runesT_end (s : ByteArray) (p : Nat) (h : ¬ p < s.size) : runesT s p = [] := by unfold runesT; rw [tail_end s p h]; rfl
theorem runesT_step (s : ByteArray) (p : Nat) (h : p < s.size) : runesT s p = ((Utf8.decode s p).1 : Int) :: runesT s (p + (Utf8.decode s p).2) := by
  unfold runesT
  rw [tail_step s p h]
  rfl
theorem runesT_length (s : ByteArray) (p : Nat) : (runesT s p).length = cntT s p := by simp [runesT, cntT]

/-! ### names -/
def smallR (r : Nat) : Bool := decide (97 ≤ r) && decide (r ≤ 122)
def nmR (i r : Nat) : Bool := smallR r || (decide (0 < i) && ((decide (48 ≤ r) && decide (r ≤ 57)) || r == 95))
def nmAll (s : ByteArray) (p : Nat) : Bool := (List.range s.size).all fun i => decide (i < p) || nmR i (gb s i)
def nameB (s : ByteArray) : Bool := nmAll s 0 && (decide (1 ≤ s.size) && decide (s.size ≤ 16))
theorem nmR_low (i r : Nat) (h : nmR i r = true) : r < 128 := by
  unfold nmR smallR at h
  simp at h
  omega
theorem nm_dec (s : ByteArray) (i p : Nat) : nmR i (Utf8.decode s p).1 = nmR i (gb s p) := by
  by_cases h : gb s p < 128
  · rw [dec_ascii s p h]
  · have h1 := dec_high s p (by omega)
    cases h2 : nmR i (Utf8.decode s p).1 with
    | true => have := nmR_low _ _ h2; omega
    | false =>
      cases h3 : nmR i (gb s p) with
      | true => have := nmR_low _ _ h3; omega
      | false => rfl
theorem nm_one (s : ByteArray) (i p : Nat) (h : nmR i (Utf8.decode s p).1 = true) : (Utf8.decode s p).2 = 1 := by
  rw [nm_dec] at h
  rw [dec_ascii s p (nmR_low _ _ h)]
theorem nmAll_end (s : ByteArray) (p : Nat) (h : ¬ p < s.size) : nmAll s p = true := by
  unfold nmAll
  rw [List.all_eq_true]
  intro i hi
  simp at hi
  simp
  left
  omega
theorem nmAll_step (s : ByteArray) (p : Nat) (h : p < s.size) : nmAll s p = (nmR p (gb s p) && nmAll s (p + 1)) := by
  rw [Bool.eq_iff_iff]
  unfold nmAll
  simp only [List.all_eq_true, Bool.and_eq_true, List.mem_range, Bool.or_eq_true, decide_eq_true_eq]
  constructor
  · intro hh
    refine ⟨?_, fun i hi => ?_⟩
    · rcases hh p h with h1 | h1
      · omega
      · exact h1
    · by_cases e : i < p + 1
      · exact .inl e
      · rcases hh i hi with h1 | h1
        · omega
        · exact .inr h1
  · rintro ⟨h1, h2⟩ i hi
    by_cases e : i < p
    · exact .inl e
    · by_cases e2 : i = p
      · subst e2; exact .inr h1
      · rcases h2 i hi with h3 | h3
        · omega
        · exact .inr h3
end Go.Proofs.YtmilpfccgggmkaaDoor.Utf

/- The program's layer glyph: broken, Valid, Count, Name, Id. -/
namespace Go.Proofs.YtmilpfccgggmkaaDoor.Gly
open Go.RowKit Go.Proofs.YtmilpfccgggmkaaDoorW.PrintWords Go.Proofs.YtmilpfccgggmkaaDoor.Utf
set_option linter.unusedVariables false
set_option linter.unusedSimpArgs false

abbrev Tabs (w : World) : Prop := Lib.Utf8Tabs 3 4 w
theorem Tabs.below {w w' : World} (h : Tabs w) (hb : Below w.heap.size w w') : Tabs w' := Utf8Tabs_below h hb

theorem ret_bool {a b : Bool} (h : a = b) : Ending.returned (.bool a) = .returned (.bool b) := by rw [h]
theorem ret_int {k : IntKind} {a b : Int} (h : a = b) : Ending.returned (.int k a) = .returned (.int k b) := by rw [h]
theorem dru_calls (s : ByteArray) (p : Nat) (hp : p < s.size) (w : World) (hT : Tabs w) :
    Calls Tryd.prog 72 #[.string (s.extract p s.size)] w fun e w' => e = .returned (.tuple #[.int .i32 (Utf8.decode s p).1, .int .i64 (Utf8.decode s p).2]) ∧ Below w.heap.size w w' := by
  have h := Tryd.utf8_DecodeRuneInString (s.extract p s.size) w hT
  have e : Lib.decodeGo (s.extract p s.size) = Utf8.decode s p := by
    unfold Lib.decodeGo
    rw [if_neg (by rw [ByteArray.size_extract]; omega), dec_extract s p (by omega)]
  rwa [e] at h

set_option maxHeartbeats 1000000 in
theorem broken_calls (s : ByteArray) (p : Nat) (hp : p < s.size) (hs : s.size ≤ 9223372036854775807) (r : Int) (hr : r = ((Utf8.decode s p).1 : Int)) (w : World) (hT : Tabs w) :
    Calls Tryd.prog 71 #[.string s, .int .i64 (p : Int), .int .i32 r] w fun e w' => e = .returned (.bool (brokenB s p)) ∧ Below w.heap.size w w' := by
  have HT := Aside0.mk hT
  clear hT
  by_cases h : r = 65533
  · have hd := broken_yes s p (by omega)
    have hc := dru_calls s p hp w HT.out
    generalize (Utf8.decode s p).2 = n at *
    generalize (Utf8.decode s p).1 = q at *
    rw [hd]
    clear hd hr
    subst h
    have t0 : (0 : Int) ≤ (p : Int) := by omega
    have t1 : (p : Int) ≤ (s.size : Int) := by omega
    have HC := Aside0.mk hc
    clear hc
    go_enter Tryd.func71, Tryd.ntmps71
    go_wp2_with (go_at_call 72; refine HC.out.mono ?_; rintro e w1 ⟨rfl, hb⟩)
    go_ret
    exact ⟨ret_bool (by rw [Bool.eq_iff_iff]; simp; try omega), hb⟩
  · have hd := broken_no s p (by omega)
    rw [hd]
    clear hd hr
    have t0 : (r != 65533) = true := bne_iff_ne.2 h
    go_enter Tryd.func71, Tryd.ntmps71
    go_wp2
    go_ret
    exact ⟨rfl, Below.refl _ _⟩
theorem broken_as (b : Bool) (s : ByteArray) (p : Nat) (hp : p < s.size) (hs : s.size ≤ 9223372036854775807) (hb : brokenB s p = b) (r : Int) (hr : r = ((Utf8.decode s p).1 : Int)) (w : World) (hT : Tabs w) :
    Calls Tryd.prog 71 #[.string s, .int .i64 (p : Int), .int .i32 r] w fun e w' => e = .returned (.bool b) ∧ Below w.heap.size w w' := by
  subst hb
  exact broken_calls s p hp hs r hr w hT

set_option maxHeartbeats 1000000 in
set_option maxRecDepth 100000 in
theorem valid_calls (s : ByteArray) (hs : s.size ≤ 9223372036854775807) (w : World) (hT : Tabs w) :
    Calls Tryd.prog 68 #[.string s] w fun e w' => e = .returned (.bool (validB s)) ∧ Below w.heap.size w w' := by
  have HT := Aside0.mk hT
  clear hT
  go_enter Tryd.func68, Tryd.ntmps68
  go_wp2
  go_loopw [7] (fun v7 wr => ∃ pos : Nat, wr.heap[w.heap.size]? = some (.stringIter s pos) ∧ Aside0 (validT s pos = validB s) ∧ Below w.heap.size w wr) (fun _ wr => s.size - wr.iterPos w.heap.size)
  case atStart => exact ⟨0, World.iter_heap w s 0, ⟨rfl⟩, (Below.refl _ _).alloc (Nat.le_refl _) _⟩
  case round =>
    obtain ⟨pos, hit, hv, hb⟩ := hrel
    have hpos := iterPos_of hit
    by_cases hp : pos < s.size
    · have hnx : ∀ ty, (Instr.next (.pointer (some ⟨w.heap.size, 0, none⟩)) true ty).run Tryd.prog wr = _ := fun ty => Lib.run_next_any_at wr w.heap.size s pos ty hit hp
      have hw := dec_w s pos hp
      have hst := validT_step s pos hp
      have hit2 := Lib.iterAt_heap wr w.heap.size s pos (pos + (Utf8.decode s pos).2) hit
      have hb2 := Lib.below_iterAt hb (Nat.le_refl _) s (pos + (Utf8.decode s pos).2)
      cases hbk : brokenB s pos with
      | true =>
        rw [hbk] at hst
        have hz : validB s = false := by rw [← hv.out, hst]; rfl
        have HB := Aside0.mk hbk
        have HZ := Aside0.mk hz
        clear hbk hst hz hv hit hpos
        go_wp2_with (go_at_call 71; refine (broken_as true s pos hp hs HB.out _ rfl _ (HT.out.below hb2)).mono ?_; rintro e w1 ⟨rfl, hb3⟩)
        go_ret
        exact ⟨ret_bool HZ.out.symm, hb2.trans (hb3.mono hb2.size)⟩
      | false =>
        rw [hbk] at hst
        have hz : validT s (pos + (Utf8.decode s pos).2) = validB s := by rw [← hv.out, hst]; rfl
        have HB := Aside0.mk hbk
        have HZ := Aside0.mk hz
        have HP := Aside0.mk hpos
        have HI := Aside0.mk hit2
        clear hbk hst hz hv hit hpos hit2
        go_wp2_with (go_at_call 71; refine (broken_as false s pos hp hs HB.out _ rfl _ (HT.out.below hb2)).mono ?_; rintro e w1 ⟨rfl, hb3⟩)
        have hI3 := (hb3.block _ (by have := HI.out; exact (Array.getElem?_eq_some_iff.1 this).1)).trans HI.out
        go_roundw
        case rel => exact ⟨_, hI3, HZ, hb2.trans (hb3.mono hb2.size)⟩
        case measure =>
          rw [iterPos_of hI3, HP.out]
          omega
    · have hnx : ∀ ty, (Instr.next (.pointer (some ⟨w.heap.size, 0, none⟩)) true ty).run Tryd.prog wr = _ := fun ty => Lib.run_next_end_at wr w.heap.size s pos ty hit hp
      have hz : validB s = true := by rw [← hv.out, validT_end s pos hp]
      have HZ := Aside0.mk hz
      clear hz hv hit hpos
      go_wp2
      go_ret
      exact ⟨ret_bool HZ.out.symm, hb⟩

theorem cntT_pos (s : ByteArray) (p : Nat) : p + cntT s p ≤ max p s.size := cntT_le s p
set_option maxHeartbeats 1000000 in
set_option maxRecDepth 100000 in
theorem count_calls (s : ByteArray) (hs : s.size ≤ 9223372036854775807) (w : World) (hT : Tabs w) :
    Calls Tryd.prog 61 #[.string s] w fun e w' => e = .returned (.tuple #[.int .i64 (if validB s = true then (cnt s : Int) else 0), .int .i64 (if validB s = true then 0 else 4)]) ∧ Below w.heap.size w w' := by
  have HT := Aside0.mk hT
  clear hT
  have hc := valid_calls s hs w HT.out
  cases hv : validB s with
  | false =>
    rw [hv] at hc
    rw [if_neg (by decide), if_neg (by decide)]
    have HC := Aside0.mk hc
    clear hc hv
    go_enter Tryd.func61, Tryd.ntmps61
    go_wp2_with (go_at_call 68; refine HC.out.mono ?_; rintro e w1 ⟨rfl, hb⟩)
    go_ret2
    exact ⟨rfl, hb⟩
  | true =>
    rw [hv] at hc
    rw [if_pos rfl, if_pos rfl]
    have HC := Aside0.mk hc
    clear hc hv
    go_enter Tryd.func61, Tryd.ntmps61
    go_wp2_with (go_at_call 68; refine HC.out.mono ?_; rintro e w1 ⟨rfl, hb0⟩)
    go_loopw [4] (fun v4 wr => ∃ (pos c : Nat), v4 = .int .i64 (c : Int) ∧ wr.heap[w1.heap.size]? = some (.stringIter s pos) ∧ Aside0 (c + cntT s pos = cnt s) ∧ Below w1.heap.size w1 wr) (fun _ wr => s.size - wr.iterPos w1.heap.size)
    case atStart => exact ⟨0, 0, rfl, World.iter_heap w1 s 0, ⟨by rw [Nat.zero_add]; rfl⟩, (Below.refl _ _).alloc (Nat.le_refl _) _⟩
    case round =>
      obtain ⟨pos, c, rfl, hit, hv, hb⟩ := hrel
      have hpos := iterPos_of hit
      by_cases hp : pos < s.size
      · have hnx : ∀ ty, (Instr.next (.pointer (some ⟨w1.heap.size, 0, none⟩)) true ty).run Tryd.prog wr = _ := fun ty => Lib.run_next_any_at wr w1.heap.size s pos ty hit hp
        have hw := dec_w s pos hp
        have hst := cntT_step s pos hp
        have hit2 := Lib.iterAt_heap wr w1.heap.size s pos (pos + (Utf8.decode s pos).2) hit
        have hb2 := Lib.below_iterAt hb (Nat.le_refl _) s (pos + (Utf8.decode s pos).2)
        have hle := cnt_le s
        have hz : c + 1 + cntT s (pos + (Utf8.decode s pos).2) = cnt s := by have := hv.out; omega
        have hcle : (c : Int) + 1 ≤ 9223372036854775807 := by omega
        have HZ := Aside0.mk hz
        have HP := Aside0.mk hpos
        have HI := Aside0.mk hit2
        clear hst hz hv hit hpos hit2
        go_wp2
        go_roundw
        case rel => exact ⟨_, c + 1, by go_num, HI.out, HZ, hb2⟩
        case measure =>
          rw [iterPos_of HI.out, HP.out]
          omega
      · have hnx : ∀ ty, (Instr.next (.pointer (some ⟨w1.heap.size, 0, none⟩)) true ty).run Tryd.prog wr = _ := fun ty => Lib.run_next_end_at wr w1.heap.size s pos ty hit hp
        have hz : c = cnt s := by have := hv.out; rw [cntT_end s pos hp] at this; omega
        have HZ := Aside0.mk hz
        clear hz hv hit hpos
        go_wp2
        go_ret2
        exact ⟨by rw [← HZ.out]; rfl, hb0.trans (hb.mono hb0.size)⟩

theorem small_calls (r : Nat) (w : World) :
    Calls Tryd.prog 55 #[.int .i32 (r : Int)] w fun e w' => e = .returned (.bool (smallR r)) ∧ Below w.heap.size w w' := by
  have hs : smallR r = (decide ((r : Int) ≥ 97) && decide ((r : Int) ≤ 122)) := by
    unfold smallR
    congr 1 <;> (rw [decide_eq_decide]; omega)
  rw [hs]
  by_cases h1 : (97 : Int) ≤ (r : Int)
  · have t1 : decide ((r : Int) ≥ 97) = true := decide_eq_true h1
    have H := Aside0.mk t1
    go_enter Tryd.func55, Tryd.ntmps55
    go_wp2
    go_ret
    exact ⟨ret_bool (by first | rfl | (rw [H.out, Bool.true_and]; done) | simp [H.out]), Below.refl _ _⟩
  · have t1 : decide ((r : Int) ≥ 97) = false := decide_eq_false h1
    have H := Aside0.mk t1
    go_enter Tryd.func55, Tryd.ntmps55
    go_wp2
    go_ret
    exact ⟨ret_bool (by first | rfl | (rw [H.out, Bool.false_and]; done) | simp [H.out]), Below.refl _ _⟩
theorem small_as (b : Bool) (r : Nat) (hb : smallR r = b) (w : World) :
    Calls Tryd.prog 55 #[.int .i32 (r : Int)] w fun e w' => e = .returned (.bool b) ∧ Below w.heap.size w w' := by
  subst hb
  exact small_calls r w

set_option maxHeartbeats 2000000 in
theorem plain_calls (r : Nat) (w : World) :
    Calls Tryd.prog 62 #[.int .i32 (r : Int)] w fun e w' => e = .returned (.bool (plainR r)) ∧ Below w.heap.size w w' := by
  have h : r = 35 ∨ r = 64 ∨ r = 58 ∨ r = 42 ∨ r = 44 ∨ r = 40 ∨ r = 41 ∨ r = 34 ∨ r = 92 ∨ r = 59 ∨ (r ≠ 35 ∧ r ≠ 64 ∧ r ≠ 58 ∧ r ≠ 42 ∧ r ≠ 44 ∧ r ≠ 40 ∧ r ≠ 41 ∧ r ≠ 34 ∧ r ≠ 92 ∧ r ≠ 59) := by omega
  rcases h with rfl | rfl | rfl | rfl | rfl | rfl | rfl | rfl | rfl | rfl | ⟨h0, h1, h2, h3, h4, h5, h6, h7, h8, h9⟩
  iterate 10
    · go_enter Tryd.func62, Tryd.ntmps62
      go_wp2
      go_ret
      exact ⟨rfl, Below.refl _ _⟩
  have hp : plainR r = (decide (32 < r) && (decide (r < 127) || decide (160 < r))) := by
    unfold plainR
    rw [beq_eq_false_iff_ne.2 h0, beq_eq_false_iff_ne.2 h1, beq_eq_false_iff_ne.2 h2, beq_eq_false_iff_ne.2 h3, beq_eq_false_iff_ne.2 h4, beq_eq_false_iff_ne.2 h5, beq_eq_false_iff_ne.2 h6, beq_eq_false_iff_ne.2 h7, beq_eq_false_iff_ne.2 h8, beq_eq_false_iff_ne.2 h9]
    rfl
  have t0 : ((r : Int) == 35) = false := beq_eq_false_iff_ne.2 (by omega)
  have t1 : ((r : Int) == 64) = false := beq_eq_false_iff_ne.2 (by omega)
  have t2 : ((r : Int) == 58) = false := beq_eq_false_iff_ne.2 (by omega)
  have t3 : ((r : Int) == 42) = false := beq_eq_false_iff_ne.2 (by omega)
  have t4 : ((r : Int) == 44) = false := beq_eq_false_iff_ne.2 (by omega)
  have t5 : ((r : Int) == 40) = false := beq_eq_false_iff_ne.2 (by omega)
  have t6 : ((r : Int) == 41) = false := beq_eq_false_iff_ne.2 (by omega)
  have t7 : ((r : Int) == 34) = false := beq_eq_false_iff_ne.2 (by omega)
  have t8 : ((r : Int) == 92) = false := beq_eq_false_iff_ne.2 (by omega)
  have t9 : ((r : Int) == 59) = false := beq_eq_false_iff_ne.2 (by omega)
  clear h0 h1 h2 h3 h4 h5 h6 h7 h8 h9
  by_cases a1 : 32 < r
  · have b1 : decide ((r : Int) > 32) = true := decide_eq_true (by omega)
    rw [decide_eq_true a1, Bool.true_and] at hp
    by_cases a2 : r < 127
    · have b2 : decide ((r : Int) < 127) = true := decide_eq_true (by omega)
      rw [decide_eq_true a2, Bool.true_or] at hp
      rw [hp]
      clear hp
      go_enter Tryd.func62, Tryd.ntmps62
      go_wp2
      go_ret
      exact ⟨rfl, Below.refl _ _⟩
    · have b2 : decide ((r : Int) < 127) = false := decide_eq_false (by omega)
      rw [decide_eq_false a2, Bool.false_or] at hp
      have b3 : decide ((r : Int) > 160) = decide (160 < r) := by rw [decide_eq_decide]; omega
      rw [hp]
      clear hp
      go_enter Tryd.func62, Tryd.ntmps62
      go_wp2
      go_ret
      exact ⟨ret_bool (by first | rfl | (rw [decide_eq_decide]; omega)), Below.refl _ _⟩
  · have b1 : decide ((r : Int) > 32) = false := decide_eq_false (by omega)
    rw [decide_eq_false a1, Bool.false_and] at hp
    rw [hp]
    clear hp
    go_enter Tryd.func62, Tryd.ntmps62
    go_wp2
    go_ret
    exact ⟨rfl, Below.refl _ _⟩
theorem plain_as (b : Bool) (r : Nat) (hb : plainR r = b) (w : World) :
    Calls Tryd.prog 62 #[.int .i32 (r : Int)] w fun e w' => e = .returned (.bool b) ∧ Below w.heap.size w w' := by
  subst hb
  exact plain_calls r w
end Go.Proofs.YtmilpfccgggmkaaDoor.Gly

/- Untying: the program's In: Open, fail, Number. -/
namespace Go.Proofs.YtmilpfccgggmkaaDoor.Knt
open Go.RowKit Go.Proofs.YtmilpfccgggmkaaDoorW.PrintWords Go.Proofs.YtmilpfccgggmkaaDoor.Arr Go.Proofs.YtmilpfccgggmkaaDoor.Utf Go.Proofs.YtmilpfccgggmkaaDoor.Gly
set_option linter.unusedVariables false
set_option linter.unusedSimpArgs false

abbrev TI : TypeId := 66
def str (l : List UInt8) : ByteArray := ⟨l.toArray⟩
theorem str_size (l : List UInt8) : (str l).size = l.length := by simp [str, ByteArray.size]
theorem str_list (s : ByteArray) : str s.data.toList = s := by cases s; simp [str]
theorem str_inj {l m : List UInt8} (h : str l = str m) : l = m := by
  have := congrArg (fun b : ByteArray => b.data.toList) h
  simpa [str] using this
theorem str_drop (l : List UInt8) (k : Nat) : (str l).extract k (str l).size = str (l.drop k) := by
  apply ByteArray.ext
  apply Array.toList_inj.1
  rw [ByteArray.data_extract]
  simp [str, ByteArray.size]
  exact List.take_of_length_le (by simp)
theorem str_take (l : List UInt8) (k : Nat) : (str l).extract 0 k = str (l.take k) := by
  apply ByteArray.ext
  apply Array.toList_inj.1
  rw [ByteArray.data_extract]
  simp [str]
theorem gb_str (l : List UInt8) (d : Nat) (h : d < l.length) : gb (str l) d = (l[d]).toNat := by
  have h1 : d < (str l).size := by rw [str_size]; exact h
  rw [← gb_get _ _ h1]
  rfl
/-- What an In holds; f: it has failed. -/
abbrev IBlk (w : World) (g : Nat) (l : List UInt8) (f : Bool) : Prop := Blk w g TI #[.string (str l), .bool f]
theorem str_nil : str [] = ⟨#[]⟩ := rfl

/-! ### the number at the front -/
def numR (z : Bool) (most : Int) : List UInt8 → Nat → Nat → Option (Nat × List UInt8)
  | [], _, _ => none
  | c :: m, n, d =>
    if c.toNat = 59 ∧ 0 < d ∧ (n : Int) ≤ most ∧ (d = 1 ∨ z = false) then some (n, m)
    else if c.toNat < 48 ∨ 57 < c.toNat ∨ 16 < d then none
    else numR z most m (n * 10 + (c.toNat - 48)) (d + 1)
def zeroB (l : List UInt8) : Bool := (l.headD 0).toNat == 48
def numP (most : Int) (l : List UInt8) : Option (Nat × List UInt8) := numR (zeroB l) most l 0 0
theorem numR_at {z : Bool} {most : Int} {l : List UInt8} {n d : Nat} (h : d < l.length) :
    numR z most (l.drop d) n d = if (l[d]).toNat = 59 ∧ 0 < d ∧ (n : Int) ≤ most ∧ (d = 1 ∨ z = false) then some (n, l.drop (d + 1))
      else if (l[d]).toNat < 48 ∨ 57 < (l[d]).toNat ∨ 16 < d then none else numR z most (l.drop (d + 1)) (n * 10 + ((l[d]).toNat - 48)) (d + 1) := by
  rw [List.drop_eq_getElem_cons h]
  rfl

theorem strOfNums_str (l : List UInt8) : strOfNums (l.map fun b => (b.toNat : Int)) = str l := by
  unfold strOfNums str
  congr 1
  apply Array.ext'
  simp only [List.map_map]
  induction l with
  | nil => rfl
  | cons a l ih => simp; exact ih
theorem Own.string {B : Nat} {w : World} {v : Value} {l : List UInt8} (h : Own B w v l) : (convert TB 9 v).run Tryd.prog w = .ok (.string (str l)) w := by
  have e0 : nums .u8 (l.map fun b => (b.toNat : Int)) = Lib.byteCells l := by simp [nums, Lib.byteCells]
  have h' : w.ownsRow B TU 1 v l.length (nums .u8 (l.map fun b => (b.toNat : Int))) := by rw [e0]; exact h
  have := own_string (P := Tryd.prog) (src := TB) (dst := 9) Tryd.underlying27 Tryd.underlying5 Tryd.underlying9 h'
  rwa [strOfNums_str] at this
/-- A slice of bytes that reads as l: its string. -/
theorem reads_string {w : World} {A : Option Addr} {l : List UInt8} {c : Nat} (h : ReadsInt w .u8 A l.length (l.map fun b => (b.toNat : Int))) : (convert TB 9 (.slice A l.length c)).run Tryd.prog w = .ok (.string (str l)) w := by
  rw [run_convert_bytes_string (P := Tryd.prog) w TB 9 TU A l.length c Tryd.underlying27 Tryd.underlying5 Tryd.underlying9]
  cases A with
  | none =>
    have hn : l = [] := by
      rcases Nat.eq_zero_or_pos l.length with h0 | h0
      · exact List.eq_nil_of_length_eq_zero h0
      · obtain ⟨ad, h1, _⟩ := h.2.2 h0
        cases h1
    subst hn
    rfl
  | some ad =>
    have hl : (loadCells ad l.length).run Tryd.prog w = .ok ((l.map fun b => (b.toNat : Int)).map (Value.int .u8)).toArray w := by
      have := run_loadCells_list (P := Tryd.prog) w ad ((l.map fun b => (b.toNat : Int)).map (Value.int .u8)) (fun j v hj => by
        have hjl : j < l.length := by
          have := (List.getElem?_eq_some_iff.1 hj).1
          simpa using this
        obtain ⟨ad', h1, h2⟩ := h.2.2 (by omega)
        injection h1 with h1
        subst h1
        rw [h2 j hjl]
        simp [hjl] at hj
        subst hj
        simp [hjl])
      simpa using this
    rw [run_bytesToString w ad l.length c (l.map fun b => (b.toNat : Int)) hl, foldl_push_bytes]
    have e1 := strOfNums_str l
    unfold strOfNums at e1
    rw [← e1]
    simp [ByteArray.empty, ByteArray.emptyWithCapacity]
    rfl
theorem open_calls (A : Option Addr) (c : Nat) (l : List UInt8) (w : World) (hr : ReadsInt w .u8 A l.length (l.map fun b => (b.toNat : Int))) :
    Calls Tryd.prog 23 #[.slice A l.length c] w fun e w' => e = .returned (.pointer (some ⟨w.heap.size, 0, none⟩)) ∧ w' = w.alloc (.cells #[.string (str l), .bool false] TI) := by
  have hcv := reads_string (c := c) hr
  clear hr
  go_enter Tryd.func23, Tryd.ntmps23
  go_wp2
  go_ret
  exact ⟨rfl, rfl⟩
theorem fail_calls (g : Nat) (l : List UInt8) (f : Bool) (w : World) (h : IBlk w g l f) :
    Calls Tryd.prog 37 #[.pointer (some ⟨g, 0, none⟩)] w fun e w' => e = .returned (.tuple #[]) ∧ IBlk w' g [] true ∧ Only [g] w w' := by
  have c0 := h.cell 0
  have c1 := h.cell 1
  have f0 := h.frozen 0
  have f1 := h.frozen 1
  have hlt := h.lt
  have H := Aside0.mk h
  clear h
  go_enter Tryd.func37, Tryd.ntmps37
  go_wp2
  go_end0
  refine ⟨rfl, (H.out.set 1 (.bool true)).set 0 (.string ⟨#[]⟩), ?_⟩
  exact ((Only.refl _ _).setCell (.inl (by simp)) _).setCell (.inl (by simp)) _
/-- Where the runes of a list's string are bytes. -/
theorem dec_byte (l : List UInt8) (d : Nat) (h : d < l.length) : ((l[d]).toNat < 128 ∧ Utf8.decode (str l) d = ((l[d]).toNat, 1)) ∨ (128 ≤ (l[d]).toNat ∧ 128 ≤ (Utf8.decode (str l) d).1) := by
  have hg := gb_str l d h
  by_cases h1 : (l[d]).toNat < 128
  · refine .inl ⟨h1, ?_⟩
    rw [dec_ascii _ _ (by omega), hg]
  · exact .inr ⟨by omega, dec_high _ _ (by omega)⟩
def NumPost (g : Nat) (f : Bool) (w : World) (r : Option (Nat × List UInt8)) (e : Ending) (w' : World) : Prop :=
  match r with
  | some (n, m) => e = .returned (.int .i64 (n : Int)) ∧ IBlk w' g m f ∧ Only [g] w w'
  | none => e = .returned (.int .i64 0) ∧ IBlk w' g [] true ∧ Only [g] w w'
theorem ten_pow (n d : Nat) (h : n < 10 ^ d) (hd : d ≤ 17) : n < 100000000000000000 := by
  have := Nat.pow_le_pow_right (n := 10) (by omega) hd
  have e : (10 : Nat) ^ 17 = 100000000000000000 := by decide
  omega
theorem ten_step (n d c : Nat) (h : n < 10 ^ d) (hc : c ≤ 9) : n * 10 + c < 10 ^ (d + 1) := by
  rw [Nat.pow_succ]
  omega
set_option maxHeartbeats 8000000 in
set_option maxRecDepth 100000 in
theorem inum_calls (g : Nat) (l : List UInt8) (hl : l.length ≤ 140737488355328) (f : Bool) (most : Int) (w : World) (h : IBlk w g l f) :
    Calls Tryd.prog 24 #[.pointer (some ⟨g, 0, none⟩), .int .i64 most] w (NumPost g f w (numP most l)) := by
  have c0 := h.cell 0
  have hlt := h.lt
  have H := Aside0.mk h
  have hz := str_size l
  clear h
  obtain ⟨s, hs⟩ : ∃ s, str l = s := ⟨_, rfl⟩
  have HS := Aside0.mk hs
  rw [hs] at c0 hz
  have HZ := Aside0.mk hz
  have hsz : s.size ≤ 140737488355328 := by omega
  obtain ⟨res, hres⟩ : ∃ res, numP most l = res := ⟨_, rfl⟩
  have HRES := Aside0.mk hres
  rw [hres]
  clear hs hz hres
  go_enter Tryd.func24, Tryd.ntmps24
  go_wp2
  go_loopw [5, 6] (fun v5 v6 wr => ∃ (n d : Nat), v5 = .int .i64 (n : Int) ∧ v6 = .int .i64 (d : Int) ∧ wr.heap[w.heap.size]? = some (.stringIter s d) ∧ Aside0 (numR (zeroB l) most (l.drop d) n d = res) ∧ Aside0 (n < 10 ^ d) ∧ Aside0 (d ≤ 17 ∧ d ≤ s.size) ∧ Aside0 (Below w.heap.size w wr)) (fun _ _ wr => s.size - wr.iterPos w.heap.size)
  case atStart => exact ⟨0, 0, rfl, rfl, World.iter_heap w s 0, ⟨HRES.out⟩, ⟨by decide⟩, ⟨by omega, by omega⟩, ⟨(Below.refl _ _).alloc (Nat.le_refl _) _⟩⟩
  case round =>
    obtain ⟨n, d, rfl, rfl, hit, hR, hn, hd, hb⟩ := hrel
    have hpos := iterPos_of hit
    obtain ⟨hd17, hds⟩ := hd.out
    have hn17 := ten_pow n d hn.out hd17
    by_cases hp : d < s.size
    · have hnx : ∀ ty, (Instr.next (.pointer (some ⟨w.heap.size, 0, none⟩)) true ty).run Tryd.prog wr = _ := fun ty => Lib.run_next_any_at wr w.heap.size s d ty hit hp
      have hdl : d < l.length := by have := HZ.out; omega
      have hst := numR_at (z := zeroB l) (most := most) (n := n) hdl
      rw [hR.out] at hst
      have hby := dec_byte l d hdl
      rw [HS.out] at hby
      have hit2 := Lib.iterAt_heap wr w.heap.size s d (d + (Utf8.decode s d).2) hit
      have hb2 := Lib.below_iterAt hb.out (Nat.le_refl _) s (d + (Utf8.decode s d).2)
      have c0' := (H.out.below hb2).cell 0
      rw [HS.out] at c0'
      have f0' := (H.out.below hb2).frozen 0
      have lt' := (H.out.below hb2).lt
      have hs0 : 0 < s.size := by omega
      have hz0 : zeroB l = ((s[0]'hs0).toNat == 48) := by
        have h1 := gb_str l 0 (by omega)
        have h2 := gb_get s 0 hs0
        rw [HS.out] at h1
        unfold zeroB
        rw [h2, h1]
        cases l with
        | nil => exact absurd hdl (by simp)
        | cons a l => rfl
      have HP := Aside0.mk hpos
      have HI2 := Aside0.mk hit2
      have HD1 : Aside0 (str (l.drop (d + 1)) = s.extract (d + 1) s.size) := ⟨by rw [← HS.out, str_drop]⟩
      obtain ⟨c, hc⟩ : ∃ c, (l[d]).toNat = c := ⟨_, rfl⟩
      rw [hc] at hst hby
      obtain ⟨z, hzz⟩ : ∃ z, zeroB l = z := ⟨_, rfl⟩
      have HZZ := Aside0.mk hzz
      rw [hzz] at hst hz0 hR
      obtain ⟨r, hr⟩ : ∃ r, (Utf8.decode s d).1 = r := ⟨_, rfl⟩
      obtain ⟨wd, hwd⟩ : ∃ wd, (Utf8.decode s d).2 = wd := ⟨_, rfl⟩
      have hrw : (c < 128 ∧ r = c ∧ wd = 1) ∨ (128 ≤ c ∧ 128 ≤ r) := by
        rcases hby with ⟨h1, h2⟩ | h1
        · rw [h2] at hr hwd
          exact .inl ⟨h1, hr.symm, hwd.symm⟩
        · exact .inr ⟨h1.1, by rw [← hr]; exact h1.2⟩
      rw [hr, hwd] at hnx
      rw [hwd] at hit2 hb2 HI2 c0' f0' lt'
      clear hby hr hwd hc hit hpos hR c0
      have HNX := Aside0.mk hnx
      clear hit2
      by_cases hA : c = 59 ∧ 0 < d ∧ (n : Int) ≤ most ∧ (d = 1 ∨ z = false)
      · rw [if_pos hA] at hst
        have hwd : wd = 1 := by omega
        have hr59 : r = 59 := by omega
        subst hwd hr59 hst
        have t2 : decide ((d : Int) > 0) = true := decide_eq_true (by omega)
        have t2' : 0 < d := hA.2.1
        have t3 : decide ((n : Int) ≤ most) = true := decide_eq_true hA.2.2.1
        have q1 : (0 : Int) ≤ ((d + 1 : Nat) : Int) := by omega
        have q2 : ((d : Int) + 1) ≤ (s.size : Int) := by omega
        have q3 : (0 : Int) ≤ (d : Int) + 1 := by omega
        have t4 : ((d : Int) == 1) = true ∨ (((d : Int) == 1) = false ∧ (((s[0]'hs0).toNat : Int) != 48) = true) := by
          by_cases h1 : d = 1
          · exact .inl (beq_iff_eq.2 (by omega))
          · refine .inr ⟨beq_eq_false_iff_ne.2 (by omega), ?_⟩
            have hz1 : z = false := by rcases hA.2.2.2 with h | h; exact absurd h h1; exact h
            rw [hz1] at hz0
            have hz2 : (s[0]'hs0).toNat ≠ 48 := beq_eq_false_iff_ne.1 hz0.symm
            exact bne_iff_ne.2 (by omega)
        have HB2 := Aside0.mk hb2
        have hnx := HNX.out
        clear hz0 hzz hA hrw hb2 HI2
        rcases t4 with t4 | ⟨t4, t5⟩
        all_goals
          go_wp2
          go_ret
          refine ⟨rfl, ?_, ?_⟩
          · have h3 := (H.out.below HB2.out).set 0 (.string (s.extract (d + 1) s.size))
            show Blk _ g TI #[.string (str (l.drop (d + 1))), .bool f]
            rw [HD1.out]
            exact h3
          · exact ((Only.of_below HB2.out [g])).setCell (.inl (by simp)) _
      rw [if_neg hA] at hst
      by_cases hB : c < 48 ∨ 57 < c ∨ 16 < d
      · rw [if_pos hB] at hst
        subst hst
        have hnx := HNX.out
        have key : (((r : Int) == 59) = false ∧ (decide ((r : Int) < 48) = true ∨ (decide ((r : Int) < 48) = false ∧ (decide ((r : Int) > 57) = true ∨ (decide ((r : Int) > 57) = false ∧ decide ((d : Int) > 16) = true))))) ∨
            (r = 59 ∧ ((decide ((d : Int) > 0) = false ∧ ¬ 0 < d) ∨ ((decide ((d : Int) > 0) = true ∧ 0 < d) ∧ (decide ((n : Int) ≤ most) = false ∨ (decide ((n : Int) ≤ most) = true ∧ ((d : Int) == 1) = false ∧ (((s[0]'hs0).toNat : Int) != 48) = false))))) := by
          by_cases h59 : r = 59
          · refine .inr ⟨h59, ?_⟩
            have hc59 : c = 59 := by omega
            by_cases h0 : 0 < d
            · refine .inr ⟨⟨decide_eq_true (by omega), h0⟩, ?_⟩
              by_cases hm : (n : Int) ≤ most
              · refine .inr ⟨decide_eq_true hm, ?_⟩
                have hn1 : ¬ (d = 1 ∨ z = false) := fun h => hA ⟨hc59, h0, hm, h⟩
                refine ⟨beq_eq_false_iff_ne.2 (by omega), ?_⟩
                have hz1 : z = true := by cases z with
                  | true => rfl
                  | false => exact absurd (.inr rfl) hn1
                rw [hz1] at hz0
                have hz2 : (s[0]'hs0).toNat = 48 := beq_iff_eq.1 hz0.symm
                exact bne_eq_false_iff_eq.2 (by omega)
              · exact .inl (decide_eq_false hm)
            · exact .inl ⟨decide_eq_false (by omega), h0⟩
          · refine .inl ⟨beq_eq_false_iff_ne.2 (by omega), ?_⟩
            by_cases h1 : r < 48
            · exact .inl (decide_eq_true (by omega))
            · refine .inr ⟨decide_eq_false (by omega), ?_⟩
              by_cases h2 : 57 < r
              · exact .inl (decide_eq_true (by omega))
              · exact .inr ⟨decide_eq_false (by omega), decide_eq_true (by omega)⟩
        clear hz0 hzz hA hB hrw hn17
        rcases key with ⟨t1, t2 | ⟨t2, t3 | ⟨t3, t4⟩⟩⟩ | ⟨rfl, ⟨t2, t2'⟩ | ⟨⟨t2, t2'⟩, t3 | ⟨t3, t4, t5⟩⟩⟩
        all_goals
          have KF := Aside0.mk (fail_calls g l f _ (H.out.below hb2))
          have HB2 := Aside0.mk hb2
          clear hb2 HI2
          go_wp2_with fail
          refine KF.out.mono ?_
          rintro e w2 ⟨rfl, hi2, ho2⟩
          have HI := Aside0.mk hi2
          have HO := Aside0.mk ((Only.of_below HB2.out [g]).trans ho2 (fun k hk => .inl hk))
          clear hi2 ho2 KF
          go_wp2
          go_ret
          exact ⟨rfl, HI.out, HO.out⟩
      · rw [if_neg hB] at hst
        have hwd : wd = 1 := by omega
        have hrc : r = c := by omega
        subst hwd hrc
        have t1 : ((r : Int) == 59) = false := beq_eq_false_iff_ne.2 (by omega)
        have t2 : decide ((r : Int) < 48) = false := decide_eq_false (by omega)
        have t3 : decide ((r : Int) > 57) = false := decide_eq_false (by omega)
        have t4 : decide ((d : Int) > 16) = false := decide_eq_false (by omega)
        have b1 : (48 : Int) ≤ (r : Int) := by omega
        have b2 : (r : Int) ≤ 57 := by omega
        have b3 : (n : Int) ≤ 100000000000000000 := by omega
        have hd16 : d ≤ 16 := by omega
        have hn' := ten_step n d (r - 48) hn.out (by omega)
        have HN := Aside0.mk hn'
        have HST := Aside0.mk hst
        have HB2 := Aside0.mk hb2
        have hnx := HNX.out
        clear hz0 hzz hA hB hrw hn' hst hb2
        go_wp2
        go_roundw
        case rel => exact ⟨n * 10 + (r - 48), d + 1, by rw [show ((n * 10 + (r - 48) : Nat) : Int) = (n : Int) * 10 + ((r : Int) - 48) by omega], by go_num, HI2.out, ⟨by rw [HZZ.out]; exact HST.out.symm⟩, HN, ⟨by omega, by omega⟩, HB2⟩
        case measure =>
          rw [iterPos_of HI2.out, HP.out]
          omega
    · have hnx : ∀ ty, (Instr.next (.pointer (some ⟨w.heap.size, 0, none⟩)) true ty).run Tryd.prog wr = _ := fun ty => Lib.run_next_end_at wr w.heap.size s d ty hit hp
      have hr0 : res = none := by
        rw [← hR.out, List.drop_eq_nil_of_le (by have := HZ.out; omega)]
        rfl
      subst hr0
      have hI := H.out.below hb.out
      rw [HS.out] at hI
      have KF := Aside0.mk (fail_calls g l f wr (H.out.below hb.out))
      clear hit hpos hI c0
      go_wp2_with fail
      refine KF.out.mono ?_
      rintro e w2 ⟨rfl, hi2, ho2⟩
      have HI := Aside0.mk hi2
      have HO := Aside0.mk ((Only.of_below hb.out [g]).trans ho2 (fun k hk => .inl hk))
      clear hi2 ho2 KF
      go_wp2
      go_ret
      exact ⟨rfl, HI.out, HO.out⟩
end Go.Proofs.YtmilpfccgggmkaaDoor.Knt

/- Untying: End; the fixed fact of chapter 4's laws. -/
namespace Go.Proofs.YtmilpfccgggmkaaDoor.Knt
open Go.RowKit Go.Proofs.YtmilpfccgggmkaaDoorW.PrintWords Go.Proofs.YtmilpfccgggmkaaDoor.Arr Go.Proofs.YtmilpfccgggmkaaDoor.Utf Go.Proofs.YtmilpfccgggmkaaDoor.Gly
set_option linter.unusedVariables false
set_option linter.unusedSimpArgs false

theorem str_ne {l : List UInt8} (h : l ≠ []) : (str l).toList ≠ [] := fun e => h (by rw [Lib.toList_data] at e; simpa [str] using e)
theorem str_emp {l : List UInt8} (h : l ≠ []) : (str l).toList.isEmpty = false := by
  cases e : (str l).toList with
  | nil => exact absurd e (str_ne h)
  | cons _ _ => rfl
def endV (l : List UInt8) (f : Bool) : Int := if f = true ∨ l ≠ [] then 2 else 0
theorem end_calls (g : Nat) (l : List UInt8) (f : Bool) (w : World) (h : IBlk w g l f) :
    Calls Tryd.prog 31 #[.pointer (some ⟨g, 0, none⟩)] w fun e w' => e = .returned (.int .i64 (endV l f)) ∧ w' = w := by
  have c0 := h.cell 0
  have c1 := h.cell 1
  have hlt := h.lt
  clear h
  cases f with
  | true =>
    have hz : endV l true = 2 := by unfold endV; rw [if_pos (.inl rfl)]
    rw [hz]
    clear hz
    go_enter Tryd.func31, Tryd.ntmps31
    go_wp2
    go_ret
    exact ⟨rfl, rfl⟩
  | false =>
    by_cases hl : l = []
    · subst hl
      have hz : endV [] false = 0 := rfl
      rw [hz]
      rw [str_nil] at c0
      clear hz
      go_enter Tryd.func31, Tryd.ntmps31
      go_wp2
      go_ret
      exact ⟨rfl, rfl⟩
    · have hz : endV l false = 2 := by unfold endV; rw [if_pos (.inr hl)]
      rw [hz]
      have t1 := str_ne hl
      have t2 := str_emp hl
      clear hz hl
      go_enter Tryd.func31, Tryd.ntmps31
      go_wp2
      go_ret
      exact ⟨rfl, rfl⟩
theorem num_012 : numP 99 [48, 49, 50, 59] = none := by decide
theorem knot_12 : [] ++ numT 12 ++ textT ⟨#[97, 98]⟩ ++ markT true = [49, 50, 59, 50, 59, 97, 98, 44, 43] := by decide +kernel
set_option maxHeartbeats 8000000 in
set_option maxRecDepth 100000 in
theorem awake_calls (w : World) (hP : Pow w) :
    Calls Tryd.prog 8 #[] w fun e w' => e = .returned (.bool true) ∧ Below w.heap.size w w' := by
  have PB := Aside0.mk (Lib.tabBelow_of_tabIs hP : PowB w.heap.size w)
  clear hP
  obtain ⟨W0, hW0⟩ : ∃ W0, w.alloc (.cells #[.slice none 0 0] TK) = W0 := ⟨_, rfl⟩
  have hz0 : W0.heap.size = w.heap.size + 1 := by rw [← hW0]; simp
  have kc := Go.Joins.run_convert_bytes_const_at (P := Tryd.prog) W0 TB TU #[.int .u8 48, .int .u8 49, .int .u8 50, .int .u8 59] 4 4 (w.heap.size + 1) hz0.symm Tryd.underlying27 Tryd.underlying5
  obtain ⟨W, hW⟩ : ∃ W, W0.alloc (.cells #[.int .u8 48, .int .u8 49, .int .u8 50, .int .u8 59] TU (#[Value.int .u8 48, .int .u8 49, .int .u8 50, .int .u8 59].size, #[Value.int .u8 48, .int .u8 49, .int .u8 50, .int .u8 59].size + 1)) = W := ⟨_, rfl⟩
  have hz : W.heap.size = w.heap.size + 2 := by rw [← hW]; simp [hz0]
  rw [hW] at kc
  have b0 : Below W0.heap.size W0 W := by rw [← hW]; exact (Below.refl _ _).alloc (Nat.le_refl _) _
  have b1 : Below w.heap.size w W0 := by rw [← hW0]; exact (Below.refl w.heap.size w).alloc (Nat.le_refl _) _
  have k1 : KAt w.heap.size W0 w.heap.size [] [w.heap.size] := by rw [← hW0]; exact kat_new w.heap.size w (Nat.le_refl _)
  have rd : ReadsInt W .u8 (some ⟨w.heap.size + 1, 0, none⟩) 4 (([48, 49, 50, 59] : List UInt8).map fun b => (b.toNat : Int)) := by
    refine ⟨rfl, by omega, fun _ => ⟨_, rfl, fun j hj => ?_⟩⟩
    have hb : W.heap[w.heap.size + 1]? = some (.cells #[.int .u8 48, .int .u8 49, .int .u8 50, .int .u8 59] TU (4, 5)) := by rw [← hW, ← hz0]; exact heap_alloc_new W0 _
    rw [add_plain, cell_of_row W (w.heap.size + 1) j _ TU (4, 5) hb]
    match j, hj with
    | 0, _ => rfl
    | 1, _ => rfl
    | 2, _ => rfl
    | 3, _ => rfl
  have KO := Aside0.mk (open_calls (some ⟨w.heap.size + 1, 0, none⟩) 4 [48, 49, 50, 59] W rd)
  have K2 := Aside0.mk (k1.below b0)
  have B2 := Aside0.mk (b1.trans (b0.mono (by omega)))
  have HW0 := Aside0.mk hW0
  have KC := Aside0.mk kc
  clear rd b0 b1 k1 hW hW0 kc
  go_enter Tryd.func8, Tryd.ntmps8
  go_wp2_with fail
  refine (new_calls _).mono ?_
  rintro e w1 ⟨rfl, rfl⟩
  rw [HW0.out]
  have kc := KC.out
  go_wp2_with fail
  refine KO.out.mono ?_
  rintro e w2 ⟨rfl, rfl⟩
  clear kc KC KO
  rw [hz]
  have IB3 := Aside0.mk (Blk.newAt (w := W) (T := TI) (cs := #[.string (str [48, 49, 50, 59]), .bool false]) (g := w.heap.size + 2) hz.symm)
  have b3 : Below W.heap.size W (W.alloc (.cells #[.string (str [48, 49, 50, 59]), .bool false] TI)) := (Below.refl _ _).alloc (Nat.le_refl _) _
  have K3 := Aside0.mk (K2.out.below b3)
  have B3 := Aside0.mk (B2.out.trans (b3.mono (by omega)))
  have hz3 : (W.alloc (.cells #[.string (str [48, 49, 50, 59]), .bool false] TI)).heap.size = w.heap.size + 3 := by simp [hz]
  generalize W.alloc (.cells #[.string (str [48, 49, 50, 59]), .bool false] TI) = W3 at *
  clear b3 K2 B2 HW0 hz
  go_wp2_with fail
  refine (number_calls w.heap.size w.heap.size [] [w.heap.size] 12 (by omega) (by simp) W3 K3.out (PB.out.on B3.out)).mono ?_
  rintro e w4 ⟨rfl, hp4⟩
  obtain ⟨S4, k4, o4, -, t4⟩ := hp4.take [w.heap.size + 2] (fun i hi => by simp at hi; subst hi; refine ⟨by omega, by simp⟩)
  have K4 := Aside0.mk k4
  have T4 := Aside0.mk t4
  have I4 := Aside0.mk (IB3.out.only o4 (by simp))
  have B4 := Aside0.mk (B3.out.trans (K3.out.belowB o4))
  have hz4 := o4.size
  clear k4 t4 hp4 o4
  go_wp2_with fail
  refine (text_calls w.heap.size w.heap.size _ S4 ⟨#[97, 98]⟩ (by decide) (by decide +kernel) w4 K4.out (PB.out.on B4.out)).mono ?_
  rintro e w5 ⟨rfl, hp5⟩
  obtain ⟨S5, k5, o5, -, t5⟩ := hp5.take [w.heap.size + 2] T4.out
  have K5 := Aside0.mk k5
  have T5 := Aside0.mk t5
  have I5 := Aside0.mk (I4.out.only o5 ((T4.out _ (by simp)).2))
  have B5 := Aside0.mk (B4.out.trans (K4.out.belowB o5))
  clear k5 t5 hp5 o5
  go_wp2_with fail
  refine (mark_calls w.heap.size w.heap.size _ S5 true (by decide +kernel) w5 K5.out).mono ?_
  rintro e w6 ⟨rfl, hp6⟩
  obtain ⟨S6, k6, o6, -, t6⟩ := hp6.take [w.heap.size + 2] T5.out
  rw [knot_12] at k6
  have K6 := Aside0.mk k6
  have I6 := Aside0.mk (I5.out.only o6 ((T5.out _ (by simp)).2))
  have B6 := Aside0.mk (B5.out.trans (K5.out.belowB o6))
  clear k6 t6 hp6 o6
  go_wp2_with fail
  refine (bytes_calls w.heap.size w.heap.size _ S6 (by decide) w6 K6.out).mono ?_
  rintro e w7 ⟨v7, rfl, ow7, b7⟩
  have hcv : (convert TB 9 v7).run Tryd.prog w7 = .ok (.string ⟨#[49, 50, 59, 50, 59, 97, 98, 44, 43]⟩) w7 := ow7.string
  have I7 := Aside0.mk (I6.out.below b7)
  have B7 := Aside0.mk (B6.out.trans (b7.mono B6.out.size))
  clear ow7 b7
  go_wp2_with fail
  have KN := inum_calls (w.heap.size + 2) [48, 49, 50, 59] (by decide) false 99 w7 I7.out
  rw [num_012] at KN
  refine KN.mono ?_
  rintro e w8 ⟨rfl, i8, o8⟩
  have I8 := Aside0.mk i8
  have B8 := Aside0.mk (B7.out.trans (o8.below (B := w.heap.size) B7.out.size (fun k hk => by simp at hk; omega)))
  clear i8 o8 KN hcv
  go_wp2_with fail
  refine (end_calls (w.heap.size + 2) [] true w8 I8.out).mono ?_
  rintro e w9 ⟨rfl, rfl⟩
  go_wp2
  go_ret
  exact ⟨rfl, B8.out⟩
end Go.Proofs.YtmilpfccgggmkaaDoor.Knt

/- Regions that draw their order, whose head only reads and calls, the worlds staying in a class; and whose tail comes in one order. Any program. -/
namespace Go.Proofs.YtmilpfccgggmkaaDoor.Qt
open Go.RowKit Go.Proofs.YtmilpfccgggmkaaDoor.Arr
set_option linter.unusedVariables false
set_option linter.unusedSimpArgs false
section
variable {P : Program} {ops : Array Oper} {md : Region.Mode} {C : World → Prop}

/-- The head in any order; then L. -/
def anyHead (P : Program) (md : Region.Mode) (ops : Array Oper) (C : World → Prop) (n : Nat) (L : Array Bool → Act → Prop) : Nat → Array Bool → Act → Prop
  | 0, listed, a => L listed a
  | f + 1, listed, a => Region.ready md ops listed ≠ [] ∧ ∀ i ∈ Region.ready md ops listed, i < n ∧ qOp P ops C i (anyHead P md ops C n L f (listed.setIfInBounds i true)) a

theorem any_of_head {n g : Nat} {L : Array Bool → Act → Prop} {Q' : Exit → Act → World → Prop} (hL : ∀ listed a w, C w → L listed a → wpAny P md ops Q' g listed a w) :
    ∀ (f : Nat) (listed : Array Bool) (a : Act) (w : World), C w → anyHead P md ops C n L f listed a → wpAny P md ops Q' (f + g) listed a w
  | 0, listed, a, w, hw, h => by rw [Nat.zero_add]; exact hL _ _ _ hw h
  | f + 1, listed, a, w, hw, h => by
    rw [show f + 1 + g = (f + g) + 1 by omega]
    exact ⟨fun h0 => absurd h0 h.1, fun i hi => wpOp_of_qOp hw (fun a' w' hw' h' => any_of_head hL f _ a' w' hw' h') (h.2 i hi).2⟩

theorem head_first {n i : Nat} {oi : Oper} {v : Value} {L : Array Bool → Act → Prop} (hi : ops[i]? = some oi) (hsel : ∀ (j : Nat) (o : Oper) cs b, ops[j]? = some o → o.op ≠ .select cs b)
    (hs : Region.sinkB md ops n = true) (hc : Region.chainB md ops n = true) (hn : n < ops.size) (hin : i < n)
    (hdone : ∀ listed a, L listed a → ∀ j ∈ Region.ready md ops listed, n ≤ j) :
    ∀ (f : Nat) (listed : Array Bool) (a : Act), HeadInv md ops n listed →
      (∀ j oj, ops[j]? = some oj → j ≠ i → listed.getD j true = false → (∀ e ∈ oj.after, Region.binds md e = true → e.on ≠ i) → oi.apart ops oj = true) →
      i ∈ Region.ready md ops listed → YieldsIn P ops C oi v a →
      anyHead P md ops C n L f (listed.setIfInBounds i true) (a.put oi.dst v) → anyHead P md ops C n L (f + 1) listed a := by
  intro f
  induction f with
  | zero =>
    intro listed a inv _ hr hy H
    have hun := (mem_ready.1 hr).1
    refine ⟨fun h => (by rw [h] at hr; cases hr), fun j hj => ?_⟩
    have hjn : j < n := (Nat.lt_or_ge j n).resolve_right fun h => absurd hj (tail_waits hs hc hn inv _ i rfl hin hun j h)
    refine ⟨hjn, ?_⟩
    by_cases hji : j = i
    · subst hji; exact hy.qOp hi H
    · have := hdone _ _ H j (ready_mono hj hji)
      omega
  | succ f ih =>
    intro listed a inv hfree hr hy H
    have hun := (mem_ready.1 hr).1
    refine ⟨fun h => (by rw [h] at hr; cases hr), fun j hj => ?_⟩
    have hjn : j < n := (Nat.lt_or_ge j n).resolve_right fun h => absurd hj (tail_waits hs hc hn inv _ i rfl hin hun j h)
    refine ⟨hjn, ?_⟩
    by_cases hji : j = i
    · subst hji; exact hy.qOp hi H
    · have h1 := (H.2 j (ready_mono hj hji)).2
      obtain ⟨hjun, oj, hoj, hall⟩ := mem_ready.1 hj
      have hnot : ∀ e ∈ oj.after, Region.binds md e = true → e.on ≠ i := fun e he hb heq => by
        have h1 := hall e he hb
        rw [heq, getD_both hun] at h1
        cases h1
      have h2 := qOp_put hoj (hfree j oj hoj hji hjun hnot) (fun cs b => hsel i oi cs b hi) (fun cs b => hsel j oj cs b hoj) hy h1
      have hfree' : ∀ k ok, ops[k]? = some ok → k ≠ i → (listed.setIfInBounds j true).getD k true = false →
          (∀ e ∈ ok.after, Region.binds md e = true → e.on ≠ i) → oi.apart ops ok = true := fun k ok hk hki hun' hno => by
        refine hfree k ok hk hki ?_ hno
        by_cases hjk : j = k
        · subst hjk; exact hjun
        · rw [getD_set_ne true hjk] at hun'; exact hun'
      refine qOp_mono (fun a' h3 => ih (listed.setIfInBounds j true) a' (inv.set hj hjn) hfree' (ready_mono hr (Ne.symm hji)) h3.1 ?_) h2
      rw [Array.setIfInBounds_comm _ _ hji]
      exact h3.2

theorem head_lex {n g : Nat} {Lq : Act → Prop} (hsel : Region.noSelect ops = true) (hs : Region.sinkB md ops n = true) (hc : Region.chainB md ops n = true) (hn : n < ops.size) :
    ∀ (l : List Oper) (k : Nat) (listed : Array Bool) (a : Act), (∀ j, j < l.length → l[j]? = ops[k + j]?) → k + l.length = n → HeadInv md ops n listed →
    Region.lexHead md ops g l.length k listed = true → wpQuiet P ops C Lq l a →
    anyHead P md ops C n (fun listed' a' => Region.seqB md ops g n listed' = true ∧ Lq a') l.length listed a
  | [], k, listed, a, _, hk, _, hB, h => by
    have : k = n := by simpa using hk
    subst this
    exact ⟨by simpa [Region.lexHead] using hB, h⟩
  | o :: l, k, listed, a, hl, hk, inv, hB, h => by
    have h0 : ops[k]? = some o := by simpa using (hl 0 (by simp)).symm
    simp only [List.length_cons, Region.lexHead, Bool.and_eq_true] at hB
    obtain ⟨⟨hr, hf⟩, hB'⟩ := hB
    have hkn : k < n := by simp only [List.length_cons] at hk; omega
    have hr' : k ∈ Region.ready md ops listed := by simpa using hr
    have hst : qOp P ops C k (wpQuiet P ops C Lq l) a := by unfold qOp; simp only [h0]; exact h
    obtain ⟨v, hy, hK⟩ := yieldsIn_of_qOp h0 hst
    exact head_first h0 (Region.noSelect_spec hsel) hs hc hn hkn (fun listed' a' hL => seqB_ready hL.1) l.length listed a inv (Region.free_spec h0 hf) hr' hy
      (head_lex hsel hs hc hn l (k + 1) _ _ (fun j hj => by have := hl (j + 1) (by simp; omega); simpa [Nat.add_assoc, Nat.add_comm 1 j] using this) (by simp only [List.length_cons] at hk; omega) (inv.set hr' hkn) hB' hK)

/-- **The head in the text's order, in a class of worlds; then the tail.** -/
theorem wp_region_tail {id : Nat} {Q : Exit → Act → World → Prop} {a : Act} {w : World} {l : List Oper} (C : World → Prop) (n : Nat) (hm : P.follows .mixedOrders = true) (hB : Region.lexTailB .any l.toArray n = true)
    (hC : C w.drew) (h : wpQuiet P l.toArray C (fun a' => ∀ w', C w' → wpList P l.toArray Q (l.drop n) a' w') (l.take n) a) : (Code.region id l.toArray true).wp P Q a w := by
  simp only [Region.lexTailB, Bool.and_eq_true, decide_eq_true_eq] at hB
  obtain ⟨⟨⟨⟨hsel, hn⟩, hs⟩, hc⟩, hlex⟩ := hB
  have hn' : n < l.length := by simpa using hn
  have htl : (l.take n).length = n := by simp; omega
  have hdl : (l.drop n).length = l.toArray.size - n := by simp
  have inv0 : HeadInv .any l.toArray n (Array.replicate l.toArray.size false) :=
    ⟨by simp, fun j oj _ hl => (by rw [getD_replicate_false] at hl; cases hl), fun t _ ht => getD_in (by simpa using ht) (getD_replicate_false _ _)⟩
  have H := head_lex (md := .any) (g := l.toArray.size - n) hsel hs hc hn (l.take n) 0 _ a (fun j hj => by
    have hj' : j < n := by rw [htl] at hj; exact hj
    simp [hj']) (by simpa using htl) inv0 (by rw [htl]; exact hlex) h
  refine wp_region_any hm ?_
  have := any_of_head (Q' := Q) (g := l.toArray.size - n) (fun listed a' w' hw' hL => by
    have := wpAny_of_seq (md := .any) (Q' := Q) (l.drop n) n listed a' w' (fun j => by simp [List.getElem?_drop]) (by rw [hdl]; exact hL.1) (hL.2 w' hw')
    rwa [hdl] at this) _ _ _ _ hC H
  rw [htl, show n + (l.toArray.size - n) = l.toArray.size by omega] at this
  exact this

/-- A region that has no tail. -/
theorem wp_region_all {id : Nat} {Q : Exit → Act → World → Prop} {a : Act} {w : World} {l : List Oper} (C : World → Prop) (hm : P.follows .mixedOrders = true) (hB : Region.lexB .any l.toArray = true)
    (hC : C w.drew) (h : wpQuiet P l.toArray C (fun a' => ∀ w', C w' → Q .normal a' w') l a) : (Code.region id l.toArray true).wp P Q a w :=
  wp_region_quiet (C := C) hm hB hC (by simpa using h)

/-! ### one operation of the head -/
variable {Q : Act → Prop} {a : Act} {o : Oper} {rest : List Oper}
theorem q_call (f : FuncId) (args : Array Value) (v : Value) (hgd : o.guard = none) (hr : ∀ w, (execOp a.eval o).run P w = .ok (.enter f args) w)
    (hc : ∀ w, C w → Calls P f args w fun e w' => e = .returned v ∧ C w')
    (h : ∀ K : Act → Prop, (∀ a, wpQuiet P ops C Q rest a → K a) → K (a.put o.dst v)) : wpQuiet P ops C Q (o :: rest) a := by
  refine wpQuiet_step fun K hK => ?_
  rw [if_pos (by simp [Region.wanted, hgd])]
  refine ⟨v, fun w hw => ?_, h K hK⟩
  unfold Oper.quietAt
  rw [hr w]
  exact ⟨rfl, hc w hw⟩
theorem q_val (v : Value) (hgd : o.guard = none) (hr : ∀ w, C w → (execOp a.eval o).run P w = .ok (.value v) w)
    (h : ∀ K : Act → Prop, (∀ a, wpQuiet P ops C Q rest a → K a) → K (a.put o.dst v)) : wpQuiet P ops C Q (o :: rest) a := by
  refine wpQuiet_step fun K hK => ?_
  rw [if_pos (by simp [Region.wanted, hgd])]
  refine ⟨v, fun w hw => ?_, h K hK⟩
  unfold Oper.quietAt
  rw [hr w hw]
  exact ⟨rfl, rfl⟩
theorem q_load_blk (hgd : o.guard = none) (T : TypeId) (x : Operand) (ho : o.op = .load T x) (g : Nat) (cs : Array Value) (d : TypeDesc) (hx : a.eval x = .pointer (some ⟨g, 0, none⟩))
    (hu : P.underlying T = some d) (hd : (match d with | .struct _ | .array _ _ => true | _ => false) = true) {n : Nat} (hi : (P.info? T).map (·.size) = some n) {U : TypeId} (hb : ∀ w, C w → Blk w g U cs) (hc : cs.size = n)
    (h : ∀ K : Act → Prop, (∀ a, wpQuiet P ops C Q rest a → K a) → K (a.put o.dst (.agg cs))) : wpQuiet P ops C Q (o :: rest) a := by
  refine q_val (.agg cs) hgd (fun w hw => ?_) h
  unfold execOp
  simp only [ho, hx, Instr.loadAt, Instr.sureAddr, Sem.run_bind, Sem.run_pure, Result.andThen_ok, run_loadVar_row w g U T cs (0, 0) d (hb w hw).out hu hd (by rw [hi, hc])]

/-- The value is found by running it. -/
theorem q_val' (hgd : o.guard = none)
    (h : ∃ v, (∀ w, C w → (execOp a.eval o).run P w = .ok (.value v) w) ∧ ∀ K : Act → Prop, (∀ a, wpQuiet P ops C Q rest a → K a) → K (a.put o.dst v)) : wpQuiet P ops C Q (o :: rest) a := by
  obtain ⟨v, hr, h⟩ := h
  exact q_val v hgd hr h
theorem q_call' (hgd : o.guard = none)
    (h : ∃ f args, (∀ w, (execOp a.eval o).run P w = .ok (.enter f args) w) ∧ ∃ v, (∀ w, C w → Calls P f args w fun e w' => e = .returned v ∧ C w') ∧
      ∀ K : Act → Prop, (∀ a, wpQuiet P ops C Q rest a → K a) → K (a.put o.dst v)) : wpQuiet P ops C Q (o :: rest) a := by
  obtain ⟨f, args, hr, v, hc, h⟩ := h
  exact q_call f args v hgd hr hc h
/-- A callee that makes memory alone, in a world that is the elder one but for what is new. -/
theorem under {f : FuncId} {args : Array Value} {v : Value} {B w : World} (hb : Below B.heap.size B w) (h : Calls P f args w fun e w' => e = .returned v ∧ Below w.heap.size w w') :
    Calls P f args w fun e w' => e = .returned v ∧ Below B.heap.size B w' :=
  h.mono fun _ _ ⟨he, hw⟩ => ⟨he, hb.trans (hw.mono hb.size)⟩
end
end Go.Proofs.YtmilpfccgggmkaaDoor.Qt
