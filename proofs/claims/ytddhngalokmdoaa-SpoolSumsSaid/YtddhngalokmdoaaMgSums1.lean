/- Texts of this claim, merged: Arr, Sum, Row, Only, Mid, Trp, Psr, Spp, Qt. -/
import Derived.Test.YtddhngalokmdoaaWMore
import Derived.Laws.Rows
import Derived.Laws.Tables
import Derived.Deep.WholeRow
import Derived.Laws.CopyOwn
import Derived.Test.YtddhngalokmdoaaPSpoolPlaysx1
import Derived.Deep.AppendLies
import Derived.Maps.AppendAt
import Derived.Deep.MidRow
import Derived.Great.BuildSlice
import Derived.Great.FillDense
import Derived.Test.YtddhngalokmdoaaPSpoolPlaysx0
import Derived.Test.YtddhngalokmdoaaPSpoolPlaysx2
import Derived.StillTail
import Derived.Deep.Quiet
import Derived.Deep.QuietTactic
/- Blocks that are known whole, arrays by value: laws for the walk. Any program. -/
namespace Go.Proofs.Ytddhngalokmdoaa.Arr
open Go.RowKit Go.Proofs.YtddhngalokmdoaaW.PrintWords
set_option linter.unusedVariables false
set_option linter.unusedSimpArgs false

/-- A block that is known whole. -/
structure Blk (w : World) (g : Nat) (T : TypeId) (cs : Array Value) : Prop where mk ::
  out : w.heap[g]? = some (.cells cs T (0, 0))
namespace Blk
variable {w w1 : World} {g : Nat} {T : TypeId} {cs : Array Value}
theorem lt (h : Blk w g T cs) : g < w.heap.size := blk_lt h.out
theorem cell (h : Blk w g T cs) (i : Nat) : w.cell? ⟨g, i, none⟩ = cs[i]? := blk_cell h.out i
theorem frozen (h : Blk w g T cs) (i : Nat) : w.frozen? ⟨g, i, none⟩ = false := blk_frozen h.out i
theorem new (w : World) (T : TypeId) (cs : Array Value) : Blk (w.alloc (.cells cs T)) w.heap.size T cs := ⟨heap_alloc_new w _⟩
theorem newAt (h : g = w.heap.size) : Blk (w.alloc (.cells cs T)) g T cs := by subst h; exact new w T cs
theorem alloc (h : Blk w g T cs) (o : Obj) : Blk (w.alloc o) g T cs := ⟨blk_alloc h.out o⟩
theorem drew (h : Blk w g T cs) : Blk w.drew g T cs := ⟨h.out⟩
theorem drewN (h : Blk w g T cs) (n : Nat) : Blk (w.drewN n) g T cs := ⟨blk_drewN h.out n⟩
theorem below (h : Blk w g T cs) (hb : Below w.heap.size w w1) : Blk w1 g T cs := ⟨blk_below h.out hb⟩
theorem below' {B : Nat} (h : Blk w g T cs) (hb : Below B w w1) (hg : g < B) : Blk w1 g T cs := ⟨(hb.block g hg).trans h.out⟩
theorem set (h : Blk w g T cs) (i : Nat) (u : Value) : Blk (w.setCell ⟨g, i, none⟩ u) g T (cs.setIfInBounds i u) := ⟨blk_set h.out i u⟩
theorem far (h : Blk w g T cs) {p : Addr} (hp : g ≠ p.block) (u : Value) : Blk (w.setCell p u) g T cs := ⟨blk_far h.out hp u⟩
theorem row (h : Blk w g T cs) (cs' : Array Value) : Blk (w.setRow g cs') g T cs' := ⟨setRow_heap w g cs cs' T (0, 0) h.out⟩
theorem rowFar (h : Blk w g T cs) {k : Nat} (hk : g ≠ k) (cs' : Array Value) : Blk (w.setRow k cs') g T cs := ⟨(setRow_other w k g cs' hk).trans h.out⟩
end Blk

section
variable {P : Program} {ops : Array Oper} {rest : List Oper} {o : Oper} {a : Act} {w : World} {Q : Exit → Act → World → Prop}

/-- A new variable of an array's or a struct's type: its zero under one name. -/
theorem wpList_alloc_agg (hgd : o.guard = none) (T : TypeId) (Z : Array Value) (ho : o.op = .alloc T) (hz : ∀ w, (zeroValue T).run P w = .ok (.agg Z) w)
    (h : wpList P ops Q rest (a.put o.dst (.pointer (some ⟨w.heap.size, 0, none⟩))) (w.alloc (.cells Z T))) : wpList P ops Q (o :: rest) a w := by
  refine wpList_plain hgd fun K hK => ?_
  have hr : (Instr.alloc T true (.tuple #[])).run P w = .ok (.pointer (some ⟨w.heap.size, 0, none⟩)) (w.alloc (.cells Z T)) := by
    unfold Instr.alloc
    rw [Sem.run_bind, hz]
    rfl
  unfold Oper.wp execOp
  simp only [ho, Sem.run_bind, hr, Result.andThen_ok, Sem.run_pure]
  exact hK _ _ h

/-- An array or a struct is built of its parts: the value under one name. -/
theorem wpList_build_agg (hgd : o.guard = none) (T : TypeId) (parts : Array (Nat × Operand)) (ho : o.op = .build T parts) (Z : Array Value)
    (hz : ∀ w, (Instr.build T (parts.map fun (i, x) => (i, a.eval x))).run P w = .ok (.agg Z) w)
    (h : wpList P ops Q rest (a.put o.dst (.agg Z)) w) : wpList P ops Q (o :: rest) a w := by
  refine wpList_plain hgd fun K hK => ?_
  unfold Oper.wp execOp
  simp only [ho, Sem.run_bind, hz, Result.andThen_ok, Sem.run_pure]
  exact hK _ _ h

/-- An array's or a struct's zero, built of no parts. -/
theorem wpList_build_none (hgd : o.guard = none) (T : TypeId) (ho : o.op = .build T #[]) (Z : Array Value)
    (hz : ∀ w, (Instr.build T #[]).run P w = .ok (.agg Z) w)
    (h : wpList P ops Q rest (a.put o.dst (.agg Z)) w) : wpList P ops Q (o :: rest) a w := by
  refine wpList_plain hgd fun K hK => ?_
  unfold Oper.wp execOp
  simp only [ho, Array.map_empty, Sem.run_bind, hz, Result.andThen_ok, Sem.run_pure]
  exact hK _ _ h

theorem wpList_load_blk (hgd : o.guard = none) (T : TypeId) (x : Operand) (ho : o.op = .load T x) (g : Nat) (cs : Array Value) (d : TypeDesc) (hx : a.eval x = .pointer (some ⟨g, 0, none⟩))
    (hu : P.underlying T = some d) (hd : (match d with | .struct _ | .array _ _ => true | _ => false) = true) {n : Nat} (hi : (P.info? T).map (·.size) = some n) {U : TypeId} (hb : Blk w g U cs) (hc : cs.size = n)
    (h : wpList P ops Q rest (a.put o.dst (.agg cs)) w) : wpList P ops Q (o :: rest) a w :=
  wpList_load_row hgd T x ho g hx U cs (0, 0) d hb.out hu hd (by rw [hi, hc]) h

theorem wpList_store_blk (hgd : o.guard = none) (T : TypeId) (x y : Operand) (ho : o.op = .store T x y) (g : Nat) (cells : Array Value) (hx : a.eval x = .pointer (some ⟨g, 0, none⟩)) (hy : a.eval y = .agg cells)
    {n : Nat} (hi : (P.info? T).map (·.size) = some n) (hc : cells.size = n) (h1 : cells.all (·.oneCell') = true) {U : TypeId} {old : Array Value} (hb : Blk w g U old) (hold : old.size = n)
    (h : wpList P ops Q rest (a.put o.dst undef) (w.setRow g cells)) : wpList P ops Q (o :: rest) a w :=
  wpList_store_row hgd T x y ho g cells hx hy U old hb.out (by rw [hi, hc]) (by omega) h1 h
theorem results_blk {fn : Func} {p : Tmp} {ty : TypeId} (h : fn.results = #[.cell p ty]) (tmps : Array Value) (w : World) (g : Nat) (cs : Array Value) (d : TypeDesc)
    (hp : tmps.getD p undef = .pointer (some ⟨g, 0, none⟩)) {n : Nat} (hi : (P.info? ty).map (·.size) = some n) (hu : P.underlying ty = some d) (hd : (match d with | .struct _ | .array _ _ => true | _ => false) = true)
    {U : TypeId} (hb : Blk w g U cs) (hc : cs.size = n) : (results fn tmps).run P w = .ok (.agg cs) w :=
  results_cell_row h tmps w g U cs (0, 0) d hp hb.out hu hd (by rw [hi, hc])
theorem setRow_top {w : World} {g : Nat} {c c' : Array Value} {t : TypeId} (h : g = w.heap.size) : (w.alloc (.cells c t)).setRow g c' = w.alloc (.cells c' t) := by
  subst h; exact World.setRow_alloc_new w c c' t
end

/-- The cells of a list of numbers, of bools. -/
def numsA (k : IntKind) (l : List Int) : Array Value := (l.map (Value.int k)).toArray
def boolsA (l : List Bool) : Array Value := (l.map Value.bool).toArray
theorem numsA_size (k : IntKind) (l : List Int) : (numsA k l).size = l.length := by simp [numsA]
theorem boolsA_size (l : List Bool) : (boolsA l).size = l.length := by simp [boolsA]
theorem numsA_get (k : IntKind) (l : List Int) (i : Nat) (h : i < l.length) : (numsA k l)[i]? = some (.int k (l.getD i 0)) := by
  simp [numsA, h]
theorem boolsA_get (l : List Bool) (i : Nat) (h : i < l.length) : (boolsA l)[i]? = some (.bool (l.getD i false)) := by
  simp [boolsA, h]
theorem numsA_set (k : IntKind) (l : List Int) (i : Nat) (x : Int) : (numsA k l).setIfInBounds i (.int k x) = numsA k (l.set i x) := by
  apply Array.ext'
  simp [numsA, List.map_set]
theorem boolsA_set (l : List Bool) (i : Nat) (x : Bool) : (boolsA l).setIfInBounds i (.bool x) = boolsA (l.set i x) := by
  apply Array.ext'
  simp [boolsA, List.map_set]
theorem numsA_one (k : IntKind) (l : List Int) : (numsA k l).all (·.oneCell') = true := by
  simp [numsA, Value.oneCell']
theorem boolsA_one (l : List Bool) : (boolsA l).all (·.oneCell') = true := by
  simp [boolsA, Value.oneCell']

/-- An element of an array by value. -/
theorem run_index_nums {P : Program} {t e : TypeId} {n : Nat} {k ki : IntKind} (ht : P.underlying t = some (.array n e)) (he : P.underlying e = some (.int k)) (hsz : (P.info? e).map (·.size) = some 1)
    (l : List Int) (hl : l.length = n) (i : Nat) (hi : i < n) (w : World) : (Instr.index t (.agg (numsA k l)) (.int ki (i : Int))).run P w = .ok (.int k (l.getD i 0)) w := by
  obtain ⟨d, hd, h1⟩ := Option.map_eq_some_iff.1 hsz
  have hg := numsA_get k l i (by omega)
  have hc : (0 : Int) ≤ i ∧ (i : Int) < n := by omega
  have h0 : (0 : Int) ≤ (i : Int) := by omega
  have hn : (i : Int) < (n : Int) := by omega
  have ha : (isAgg e).run P w = .ok false w := by
    unfold isAgg
    rw [Sem.run_bind, run_underlying he w]
    rfl
  have hsi : (sizeOf e).run P w = .ok 1 w := by
    simp [sizeOf, typeInfo, Sem.run_bind, hd, h1]
  unfold Instr.index
  simp [Sem.run_bind, asIntOf, run_underlying ht w, hn, hsi, part, ha, hg]
  intro h
  exact absurd hi (by omega)
section
variable {P : Program} {ops : Array Oper} {rest : List Oper} {o : Oper} {a : Act} {w : World} {Q : Exit → Act → World → Prop}
theorem wpList_index_nums (hgd : o.guard = none) (t : TypeId) (x y : Operand) (ho : o.op = .index t x y) {e : TypeId} {n : Nat} {k ki : IntKind} (l : List Int) (i : Nat) (hx : a.eval x = .agg (numsA k l)) (hy : a.eval y = .int ki (i : Int))
    (ht : P.underlying t = some (.array n e)) (he : P.underlying e = some (.int k)) (hsz : (P.info? e).map (·.size) = some 1) (hl : l.length = n) (hi : i < n)
    (h : wpList P ops Q rest (a.put o.dst (.int k (l.getD i 0))) w) : wpList P ops Q (o :: rest) a w := by
  refine wpList_plain hgd fun K hK => ?_
  unfold Oper.wp execOp
  simp only [ho, hx, hy, Sem.run_bind, run_index_nums ht he hsz l hl i hi w, Result.andThen_ok, Sem.run_pure]
  exact hK _ _ h
/-- Cells at the head of a block. -/
structure Cells (w : World) (g : Nat) (cs : Array Value) : Prop where mk ::
  out : ∀ j v, cs[j]? = some v → w.cell? ⟨g, j, none⟩ = some v
theorem Cells.below {w w1 : World} {g : Nat} {cs : Array Value} (h : Cells w g cs) (hb : Below w.heap.size w w1) : Cells w1 g cs := ⟨fun j v hj => pw_cell_below hb (h.out j v hj)⟩
theorem wpList_load_cells (hgd : o.guard = none) (T : TypeId) (x : Operand) (ho : o.op = .load T x) (g : Nat) (cs : Array Value) (d : TypeDesc) (hx : a.eval x = .pointer (some ⟨g, 0, none⟩))
    (hu : P.underlying T = some d) (hd : (match d with | .struct _ | .array _ _ => true | _ => false) = true) {n : Nat} (hi : (P.info? T).map (·.size) = some n) (hb : Cells w g cs) (hc : cs.size = n)
    (h : wpList P ops Q rest (a.put o.dst (.agg cs)) w) : wpList P ops Q (o :: rest) a w := by
  refine wpList_plain hgd fun K hK => ?_
  obtain ⟨i, hq, hs⟩ := Option.map_eq_some_iff.1 hi
  have hl : (loadCells ⟨g, 0, none⟩ cs.toList.length).run P w = .ok cs.toList.toArray w :=
    run_loadCells_list (P := P) w ⟨g, 0, none⟩ cs.toList (fun j v hv => by
      rw [add_plain]
      exact hb.out j v (by simpa using hv))
  have hagg : (isAgg T).run P w = .ok true w := by
    unfold isAgg
    rw [Sem.run_bind, run_underlying hu w]
    cases d <;> simp_all
  simp only [Array.length_toList, Array.toArray_toList] at hl
  have hv : (loadVar T ⟨g, 0, none⟩).run P w = .ok (.agg cs) w := by simp [loadVar, Sem.run_bind, hagg, sizeOf, typeInfo, hq, hs, ← hc, hl]
  unfold Oper.wp execOp
  simp only [ho, hx, Instr.loadAt, Instr.sureAddr, Sem.run_bind, Sem.run_pure, Result.andThen_ok, hv]
  exact hK _ _ h
end

/-! ### lists that are filled from the front -/
def fillK {α : Type} (f z : Nat → α) (m k : Nat) : List α := (List.range m).map fun i => if i < k then f i else z i
theorem fillK_length {α : Type} (f z : Nat → α) (m k : Nat) : (fillK f z m k).length = m := by simp [fillK]
theorem fillK_zero {α : Type} (f z : Nat → α) (m : Nat) : fillK f z m 0 = (List.range m).map z := by simp [fillK]
theorem fillK_full {α : Type} (f z : Nat → α) (m : Nat) : fillK f z m m = (List.range m).map f := by
  unfold fillK
  refine List.map_congr_left fun i hi => ?_
  rw [if_pos (by simpa using hi)]
theorem fillK_set {α : Type} (f z : Nat → α) (m k : Nat) (hk : k < m) (x : α) (hx : x = f k) : (fillK f z m k).set k x = fillK f z m (k + 1) := by
  subst hx
  apply List.ext_getElem
  · simp [fillK]
  · intro i h1 h2
    simp only [fillK_length, List.length_set] at h1
    rw [List.getElem_set]
    by_cases h : k = i
    · subst h
      simp [fillK]
    · rw [if_neg h]
      simp only [fillK, List.getElem_map, List.getElem_range]
      by_cases h3 : i < k
      · rw [if_pos h3, if_pos (by omega)]
      · rw [if_neg h3, if_neg (by omega)]
theorem fillK_same {α : Type} (f z : Nat → α) (m k : Nat) (hk : k < m) (h : z k = f k) : fillK f z m k = fillK f z m (k + 1) := by
  unfold fillK
  refine List.map_congr_left fun i _ => ?_
  by_cases h1 : i < k
  · rw [if_pos h1, if_pos (by omega)]
  · rw [if_neg h1]
    by_cases h2 : i < k + 1
    · rw [if_pos h2, show i = k by omega, h]
    · rw [if_neg h2]
theorem fillK_done {α : Type} (f z : Nat → α) (m k i : Nat) (d : α) (hi : i < m) (h : i < k) : (fillK f z m k).getD i d = f i := by
  simp [fillK, List.getD, hi, h]
theorem fillK_todo {α : Type} (f z : Nat → α) (m k i : Nat) (d : α) (hi : i < m) (h : k ≤ i) : (fillK f z m k).getD i d = z i := by
  simp [fillK, List.getD, hi, Nat.not_lt.2 h]
end Go.Proofs.Ytddhngalokmdoaa.Arr

/- The checksum: what the program's Sum comes to. -/
namespace Go.Proofs.Ytddhngalokmdoaa.Spo
open Go.RowKit Go.Proofs.YtddhngalokmdoaaW.PrintWords Go.Proofs.YtddhngalokmdoaaW.PrintLast Go.Proofs.YtddhngalokmdoaaW.PrintMore Go.Proofs.Ytddhngalokmdoaa.Arr Go.Proofs.Ytddhngalokmdoaa.PSpoolPlays
set_option linter.unusedVariables false
set_option linter.unusedSimpArgs false

theorem xor_bits (x y : Nat) (hx : x < 4294967296) (hy : y < 4294967296) : Go.bits .xor .u32 (x : Int) (y : Int) = ((x ^^^ y : Nat) : Int) := by
  unfold Go.bits
  simp only [IntKind.wrap_u32]
  have b1 : (BitVec.ofInt IntKind.u32.bits (x : Int)) = BitVec.ofNat 32 x := by simp [IntKind.bits]
  have b2 : (BitVec.ofInt IntKind.u32.bits (y : Int)) = BitVec.ofNat 32 y := by simp [IntKind.bits]
  rw [b1, b2]
  show (((BitVec.ofNat 32 x ^^^ BitVec.ofNat 32 y).toNat : Nat) : Int) % 4294967296 = _
  rw [BitVec.toNat_xor, BitVec.toNat_ofNat, BitVec.toNat_ofNat, Nat.mod_eq_of_lt (by simpa using hx), Nat.mod_eq_of_lt (by simpa using hy)]
  have : x ^^^ y < 2 ^ 32 := Nat.xor_lt_two_pow (by simpa using hx) (by simpa using hy)
  omega
/-- Bytes. -/
def Bytes (l : List Int) : Prop := ∀ x, x ∈ l → 0 ≤ x ∧ x < 256
theorem Bytes.rd {l : List Int} (h : Bytes l) (i : Nat) (hi : i < l.length) : rd l (i : Int) = ((l[i].toNat : Nat) : Int) ∧ l[i].toNat < 256 := by
  obtain ⟨h1, h2⟩ := h _ (List.getElem_mem hi)
  refine ⟨?_, by omega⟩
  unfold Go.Proofs.YtddhngalokmdoaaW.PrintWords.rd
  rw [Int.toNat_natCast, List.getD, List.getElem?_eq_getElem hi, Option.getD_some]
  omega
def crcBit (c : Nat) : Nat := (c * 2 % 4294967296) ^^^ (if c ≥ 2147483648 then 79764919 else 0)
def crcBits : Nat → Nat → Nat
  | 0, c => c
  | k + 1, c => crcBits k (crcBit c)
def crcByte (c x : Nat) : Nat := crcBits 8 (c ^^^ (x * 16777216))
def sumN (l : List Int) (c : Nat) : Nat := l.foldl (fun c x => crcByte c x.toNat) c
def sumV (l : List Int) : Int := (sumN l 4294967295 : Nat)
theorem crcBit_lt (c : Nat) : crcBit c < 4294967296 := by
  unfold crcBit
  have h1 : c * 2 % 4294967296 < 2 ^ 32 := Nat.mod_lt _ (by decide)
  have h2 : (if c ≥ 2147483648 then 79764919 else 0) < 2 ^ 32 := by split <;> decide
  exact Nat.xor_lt_two_pow h1 h2
theorem crcBits_lt : ∀ (k c : Nat), c < 4294967296 → crcBits k c < 4294967296
  | 0, c, h => h
  | k + 1, c, h => crcBits_lt k _ (crcBit_lt c)
theorem crcIn_lt {c x : Nat} (hc : c < 4294967296) (hx : x < 256) : c ^^^ (x * 16777216) < 4294967296 :=
  Nat.xor_lt_two_pow (n := 32) hc (by show x * 16777216 < 4294967296; omega)
theorem crcByte_lt {c x : Nat} (hc : c < 4294967296) (hx : x < 256) : crcByte c x < 4294967296 := crcBits_lt 8 _ (crcIn_lt hc hx)
theorem prog_bit (c : Nat) (hc : c < 4294967296) : Go.bits .xor .u32 (((c : Int) * 2) % 4294967296) (Go.bits .and .u32 79764919 ((-((c : Int) / 2147483648)) % 4294967296)) = (crcBit c : Int) := by
  have e1 : ((c : Int) * 2) % 4294967296 = ((c * 2 % 4294967296 : Nat) : Int) := by omega
  have e2 : Go.bits .and .u32 79764919 ((-((c : Int) / 2147483648)) % 4294967296) = ((if c ≥ 2147483648 then 79764919 else 0 : Nat) : Int) := by
    by_cases h : c ≥ 2147483648
    · have : (-((c : Int) / 2147483648)) % 4294967296 = 4294967295 := by omega
      rw [this, if_pos h]
      decide
    · have : (-((c : Int) / 2147483648)) % 4294967296 = 0 := by omega
      rw [this, if_neg h]
      decide
  rw [e1, e2, xor_bits _ _ (Nat.mod_lt _ (by decide)) (by split <;> decide)]
  rfl
theorem w64s (x : Int) (h0 : -9223372036854775808 ≤ x) (h1 : x ≤ 9223372036854775807) : wrap64 x = x := by unfold wrap64; omega
theorem sum_ev (l : List Int) (hB : Bytes l) (hl : l.length ≤ 1000000000) : ∀ (d i c k : Nat), i + d = l.length → c < 4294967296 → 10 * d + 1 ≤ k → spool_Sum.l0 k (c : Int) l (l.length : Int) (i : Int) = some ((sumN (l.drop i) c : Nat) : Int)
  | 0, i, c, k + 1, hi, hc, hk => by
    simp only [spool_Sum.l0]
    rw [if_neg (by omega), List.drop_eq_nil_of_le (by omega)]
    rfl
  | d + 1, i, c, k + 1, hi, hc, hk => by
    have hil : i < l.length := by omega
    obtain ⟨h1, h2⟩ := hB.rd i hil
    simp only [spool_Sum.l0]
    rw [if_pos (by omega), if_pos (by omega), if_pos (by omega), h1]
    have e1 : ((((l[i].toNat : Nat) : Int) % 4294967296) * 16777216) % 4294967296 = ((l[i].toNat * 16777216 : Nat) : Int) := by omega
    rw [e1, xor_bits _ _ hc (by omega)]
    have inner : ∀ (b t c' k' : Nat), t + b = 8 → c' < 4294967296 → 10 * d + 1 + b + 1 ≤ k' → spool_Sum.l1 k' (c' : Int) l (l.length : Int) (i : Int) (t : Int) = some ((sumN (l.drop (i + 1)) (crcBits b c') : Nat) : Int) := by
      intro b
      induction b with
      | zero =>
        intro t c' k' ht hc' hk'
        obtain ⟨k', rfl⟩ : ∃ j, k' = j + 1 := ⟨k' - 1, by omega⟩
        simp only [spool_Sum.l1]
        rw [if_neg (by omega), w64s _ (by omega) (by omega), show (i : Int) + 1 = ((i + 1 : Nat) : Int) by omega]
        exact sum_ev l hB hl d (i + 1) c' k' (by omega) hc' (by omega)
      | succ b ih =>
        intro t c' k' ht hc' hk'
        obtain ⟨k', rfl⟩ : ∃ j, k' = j + 1 := ⟨k' - 1, by omega⟩
        simp only [spool_Sum.l1]
        rw [if_pos (by omega), prog_bit c' hc', w64s _ (by omega) (by omega), show (t : Int) + 1 = ((t + 1 : Nat) : Int) by omega]
        exact ih (t + 1) (crcBit c') k' (by omega) (crcBit_lt c') (by omega)
    have h0 := inner 8 0 (c ^^^ (l[i].toNat * 16777216)) k (by omega) (crcIn_lt hc h2) (by omega)
    rw [List.drop_eq_getElem_cons hil]
    exact h0
theorem sum_f (l : List Int) (hB : Bytes l) (hl : l.length ≤ 1000000000) (k : Nat) (hk : 10 * l.length + 1 ≤ k) : spool_Sum.f k l = some (sumV l) := by
  have := sum_ev l hB hl l.length 0 4294967295 k (by omega) (by decide) hk
  unfold spool_Sum.f sumV
  rw [List.drop_zero] at this
  exact this
theorem sumN_lt : ∀ (l : List Int) (c : Nat), Bytes l → c < 4294967296 → sumN l c < 4294967296
  | [], c, _, h => h
  | x :: l, c, hB, h => sumN_lt l _ (fun y hy => hB y (by simp [hy])) (crcByte_lt h (by have := hB x (by simp); omega))
end Go.Proofs.Ytddhngalokmdoaa.Spo

/- Slices of numbers that the call itself makes. Any program. -/
namespace Go.Proofs.Ytddhngalokmdoaa.Arr
open Go.RowKit Go.Proofs.YtddhngalokmdoaaW.PrintWords
set_option linter.unusedVariables false
set_option linter.unusedSimpArgs false

/-- v is a slice of the call's own (blocks from B on) that holds xs. -/
structure Row (w : World) (B : Nat) (e : TypeId) (k : IntKind) (v : Value) (xs : List Int) : Prop where mk ::
  own : w.ownsRow B e 1 v xs.length (nums k xs)
namespace Row
variable {w w1 : World} {B : Nat} {e : TypeId} {k : IntKind} {v : Value} {xs : List Int}
theorem nil (w : World) (B : Nat) (e : TypeId) (k : IntKind) : Row w B e k (.slice none 0 0) [] := ⟨own_nil _ _ _ _⟩
theorem lit {g : Nat} {cs : Array Value} (hg : g = w.heap.size) (hB : B ≤ w.heap.size) (hcs : cs = (nums k xs).toArray) {n : Nat} (hn : n = xs.length) (hm : xs.length ≤ 9223372036854775807) :
    Row (w.alloc (.cells cs e)) B e k (.slice (some ⟨g, 0, none⟩) n n) xs := by
  subst hg hcs hn
  exact ⟨own_lit w B e k xs hB hm⟩
theorem move (h : Row w B e k v xs) (hm : ∀ g, v.ownBlock = some g → w1.heap[g]? = w.heap[g]?) : Row w1 B e k v xs := ⟨own_move h.own hm⟩
theorem below (h : Row w B e k v xs) (hb : Below w.heap.size w w1) : Row w1 B e k v xs := h.move fun g hg => hb.block g (own_lt h.own g hg)
theorem alloc (h : Row w B e k v xs) (o : Obj) : Row (w.alloc o) B e k v xs := h.below ((Below.refl _ _).alloc (Nat.le_refl _) o)
theorem drewN (h : Row w B e k v xs) (n : Nat) : Row (w.drewN n) B e k v xs := h.move fun _ _ => rfl
theorem drew (h : Row w B e k v xs) : Row w.drew B e k v xs := h.move fun _ _ => rfl
theorem ne (h : Row w B e k v xs) {g : Nat} {T : TypeId} {cs : Array Value} (hb : Blk w g T cs) (hT : e ≠ T) : some g ≠ v.ownBlock := own_ne h.own hb.out hT
theorem set (h : Row w B e k v xs) {g : Nat} {T : TypeId} {cs : Array Value} (hb : Blk w g T cs) (hT : e ≠ T) (i : Nat) (u : Value) : Row (w.setCell ⟨g, i, none⟩ u) B e k v xs :=
  h.move fun j hj => Below.heap_setCell w _ u j (fun hh => h.ne hb hT (by rw [hj]; exact congrArg some hh.symm))
theorem setRow (h : Row w B e k v xs) {g : Nat} {T : TypeId} {cs : Array Value} (hb : Blk w g T cs) (hT : e ≠ T) (cs' : Array Value) : Row (w.setRow g cs') B e k v xs :=
  h.move fun j hj => setRow_other w g j cs' (fun hh => h.ne hb hT (by rw [hj]; exact congrArg some hh.symm))
theorem reads (h : Row w B e k v xs) : ∃ A c, v = .slice A xs.length c ∧ ReadsInt w k A xs.length xs := own_reads h.own
theorem form (h : Row w B e k v xs) : (v = .slice none 0 0 ∧ xs = []) ∨ ∃ g c, v = .slice (some ⟨g, 0, none⟩) xs.length c ∧ B ≤ g ∧ g < w.heap.size ∧ xs.length ≤ c ∧ c ≤ maxLen := by
  rcases h.own.2 with ⟨h1, h2⟩ | ⟨g, cap, cur, h1, h2, h3, h4, h5, _⟩
  · exact .inl ⟨h1, List.length_eq_zero_iff.1 h2⟩
  · exact .inr ⟨g, cap, h1, h2, blk_lt h3, h4, h5⟩
theorem lower (h : Row w B e k v xs) {B' : Nat} (hB : B' ≤ B) : Row w B' e k v xs := ⟨own_weaken h.own hB⟩
theorem at_ {g n c : Nat} (h : Row w B e k (.slice (some ⟨g, 0, none⟩) n c) xs) (i : Nat) (hi : i < xs.length) : w.cell? ⟨g, i, none⟩ = some (.int k (xs.getD i 0)) := by
  obtain ⟨A, c', e1, h1⟩ := h.reads
  simp only [Value.slice.injEq] at e1
  obtain ⟨e1, _, _⟩ := e1
  obtain ⟨ad, e2, h2⟩ := h1.2.2 (by omega)
  rw [← e1] at e2
  simp only [Option.some.injEq] at e2
  subst e2
  have := h2 i hi
  rwa [add_plain] at this
theorem cap_le {A : Option Addr} {n c : Nat} (h : Row w B e k (.slice A n c) xs) : n ≤ c := own_le h.own
/-- What is new is another block. -/
theorem apart_new (h : Row w B e k v xs) {g : Nat} (hg : w.heap.size ≤ g) : v.ownBlock = none ∨ v.ownBlock ≠ some g := by
  cases hv : v.ownBlock with
  | none => exact .inl rfl
  | some j =>
    refine .inr fun hh => ?_
    have := own_lt h.own j hv
    simp only [Option.some.injEq] at hh
    omega
theorem le (h : Row w B e k v xs) {g : Nat} (hg : v.ownBlock = some g) : B ≤ g ∧ g < w.heap.size := ⟨own_base h.own g hg, own_lt h.own g hg⟩
end Row
theorem Blk.grown {w w1 : World} {g : Nat} {T : TypeId} {cs : Array Value} (h : Blk w g T cs) {row : Option Nat} (hg : w.grownBy w1 row) (hne : some g ≠ row) : Blk w1 g T cs := ⟨blk_grown h.out hg hne⟩
theorem Row.grown {w w1 : World} {B : Nat} {e : TypeId} {k : IntKind} {v : Value} {xs : List Int} (h : Row w B e k v xs) {row : Option Nat} (hg : w.grownBy w1 row) (hne : v.ownBlock = none ∨ v.ownBlock ≠ row) : Row w1 B e k v xs := ⟨own_other h.own hg hne⟩

section
variable {P : Program} {ops : Array Oper} {rest : List Oper} {o : Oper} {a : Act} {Q : Exit → Act → World → Prop}
/-- append(v, x...): v of the call's own. -/
theorem wpList_append_nums {w0 W : World} (B : Nat) (e : TypeId) (k : IntKind) (bytes : Nat) (hgd : o.guard = none) (s x : Operand) (t : TypeId)
    (ho : o.op = .call { callee := .builtin .append, args := #[s, x], argTypes := #[t, t] })
    (ht : P.underlying t = some (.slice e)) (hinfo : (P.info? e).map (fun i => (i.zero, i.size, i.bytes)) = some (some (.int k 0), 1, bytes)) (hb0 : 0 < bytes)
    (v : Value) (xs ys : List Int) (A : Option Addr) (m c : Nat) (hs : a.eval s = v) (hx : a.eval x = .slice A m c)
    (HO : Row W B e k v xs) (HR : ReadsInt W k A m ys) (HB : Below B w0 W) (hbase : B ≤ W.heap.size) (hl : (xs.length + m) * bytes ≤ 140737488355328)
    (h : ∀ v1 w1, Row w1 B e k v1 (xs ++ ys) → Below B w0 w1 → W.grownBy w1 v.ownBlock → (v1.ownBlock = v.ownBlock ∨ ∃ b, v1.ownBlock = some b ∧ W.heap.size ≤ b) → wpList P ops Q rest (a.put o.dst v1) w1) :
    wpList P ops Q (o :: rest) a W :=
  print_append_row (w0 := w0) B hgd s x t e k bytes ho ht hinfo hb0 v xs ys A m c hs hx HO.own HR HB hbase hl fun v1 w1 h1 h2 h3 h4 => h v1 w1 ⟨h1⟩ h2 h3 h4
end
/-- A cell that was made just now, read as a slice of one. -/
theorem reads_one {w : World} {e : TypeId} {k : IntKind} {x : Int} {g : Nat} (hg : g = w.heap.size) : ReadsInt (w.alloc (.cells #[.int k x] e)) k (some ⟨g, 0, none⟩) 1 [x] := by
  subst hg
  refine ⟨rfl, by omega, fun _ => ⟨_, rfl, fun j hj => ?_⟩⟩
  obtain rfl : j = 0 := by omega
  rw [add_plain]
  exact ((Blk.new w e #[.int k x]).cell 0)
/-- An array in a block, read as a slice. -/
theorem Blk.readsNums {w : World} {g : Nat} {T : TypeId} {k : IntKind} {xs : List Int} (h : Blk w g T (numsA k xs)) (hm : xs.length ≤ 9223372036854775807) : ReadsInt w k (some ⟨g, 0, none⟩) xs.length xs := by
  refine ⟨rfl, hm, fun _ => ⟨_, rfl, fun j hj => ?_⟩⟩
  rw [add_plain]
  exact (h.cell j).trans (numsA_get _ _ j hj)
end Go.Proofs.Ytddhngalokmdoaa.Arr

/- What a call has turned: the named blocks alone, and what is new. Any program. -/
namespace Go.Proofs.Ytddhngalokmdoaa.Arr
open Go.RowKit Go.Proofs.YtddhngalokmdoaaW.PrintWords
set_option linter.unusedVariables false
set_option linter.unusedSimpArgs false

/-- Of the elder blocks those of S alone may have turned. -/
structure Only (S : List Nat) (w w' : World) : Prop where mk ::
  os : w'.os = w.os
  tape : w'.tape = w.tape
  output : w'.output = w.output
  size : w.heap.size ≤ w'.heap.size
  block : ∀ k, k < w.heap.size → k ∉ S → w'.heap[k]? = w.heap[k]?
namespace Only
variable {S S' : List Nat} {w w1 w2 : World}
theorem refl (S : List Nat) (w : World) : Only S w w := ⟨rfl, rfl, rfl, Nat.le_refl _, fun _ _ _ => rfl⟩
theorem of_below (h : Below w.heap.size w w1) (S : List Nat) : Only S w w1 := ⟨h.os, h.tape, h.output, h.size, fun k hk _ => h.block k hk⟩
theorem below {B : Nat} (h : Only S w w1) (hB : B ≤ w.heap.size) (hS : ∀ k, k ∈ S → B ≤ k) : Below B w w1 :=
  ⟨h.os, h.tape, h.output, h.size, fun k hk => h.block k (by omega) (fun hm => by have := hS k hm; omega)⟩
theorem nil (h : Only [] w w1) : Below w.heap.size w w1 := h.below (Nat.le_refl _) (fun k hk => by cases hk)
theorem trans (h : Only S w w1) (h' : Only S' w1 w2) (hS : ∀ k, k ∈ S' → k ∈ S ∨ w.heap.size ≤ k) : Only S w w2 :=
  ⟨h'.os.trans h.os, h'.tape.trans h.tape, h'.output.trans h.output, Nat.le_trans h.size h'.size, fun k hk hn =>
    (h'.block k (Nat.lt_of_lt_of_le hk h.size) (fun hm => by rcases hS k hm with h1 | h1; exact hn h1; omega)).trans (h.block k hk hn)⟩
theorem mono (h : Only S w w1) (hS : ∀ k, k ∈ S → k ∈ S' ∨ w.heap.size ≤ k) : Only S' w w1 :=
  ⟨h.os, h.tape, h.output, h.size, fun k hk hn => h.block k hk (fun hm => by rcases hS k hm with h1 | h1; exact hn h1; omega)⟩
theorem alloc (h : Only S w w1) (o : Obj) : Only S w (w1.alloc o) :=
  h.trans (of_below ((Below.refl _ _).alloc (Nat.le_refl _) o) []) (fun k hk => by cases hk)
theorem drew (h : Only S w w1) : Only S w w1.drew := ⟨h.os, h.tape, h.output, h.size, h.block⟩
theorem drewN (h : Only S w w1) (n : Nat) : Only S w (w1.drewN n) := ⟨h.os, h.tape, h.output, h.size, h.block⟩
theorem setCell (h : Only S w w1) {p : Addr} (hp : p.block ∈ S ∨ w.heap.size ≤ p.block) (u : Value) : Only S w (w1.setCell p u) :=
  ⟨h.os, h.tape, h.output, by simpa [World.setCell] using h.size, fun k hk hn => (Below.heap_setCell w1 p u k (fun e => by subst e; rcases hp with hp | hp; exact hn hp; omega)).trans (h.block k hk hn)⟩
theorem grown {row : Option Nat} (h : Only S w w1) (hg : w1.grownBy w2 row) (hr : ∀ k, row = some k → k ∈ S ∨ w.heap.size ≤ k) : Only S w w2 :=
  ⟨hg.os.trans h.os, hg.tape.trans h.tape, hg.output.trans h.output, Nat.le_trans h.size hg.size, fun k hk hn =>
    (hg.block k (Nat.lt_of_lt_of_le hk h.size) (fun e => by rcases hr k e.symm with h1 | h1; exact hn h1; omega)).trans (h.block k hk hn)⟩
theorem step (h : Only S w w1) (hb : Below w1.heap.size w1 w2) : Only S w w2 := h.trans (of_below hb []) (fun k hk => by cases hk)
theorem at_ {k : Nat} {o : Obj} (h : Only S w w1) (hk : w.heap[k]? = some o) (hn : k ∉ S) : w1.heap[k]? = some o := (h.block k (blk_lt hk) hn).trans hk
end Only
theorem Blk.only {w w1 : World} {g : Nat} {T : TypeId} {cs : Array Value} {S : List Nat} (h : Blk w g T cs) (ho : Only S w w1) (hn : g ∉ S) : Blk w1 g T cs := ⟨ho.at_ h.out hn⟩
theorem Blk.ne {w : World} {g g' : Nat} {t t' : TypeId} {cs cs' : Array Value} (h : Blk w g t cs) (h' : Blk w g' t' cs') (hne : t ≠ t') : g ≠ g' := blk_ne h.out h'.out hne
/-- The block of a slice's row, as a list. -/
def rowB (v : Value) : List Nat := v.ownBlock.toList
theorem own_only {w w1 : World} {base : Nat} {e : TypeId} {size n : Nat} {v : Value} {xs : List Value} {S : List Nat} (h : w.ownsRow base e size v n xs) (ho : Only S w w1) (hn : ∀ k, k ∈ rowB v → k ∉ S) : w1.ownsRow base e size v n xs :=
  own_move h fun k hk => ho.block k (own_lt h k hk) (hn k (by simp [rowB, hk]))
theorem rowB_lt {w : World} {base : Nat} {e : TypeId} {size n : Nat} {v : Value} {xs : List Value} (h : w.ownsRow base e size v n xs) : ∀ k, k ∈ rowB v → k < w.heap.size := fun k hk => own_lt h k (by simpa [rowB] using hk)
end Go.Proofs.Ytddhngalokmdoaa.Arr

/- Rows of elements of many cells (arrays, structs that hold arrays), each a list: read, stored, grown; blocks by classes. Any program. -/
namespace Go.Proofs.Ytddhngalokmdoaa.Arr
open Go.RowKit Go.Proofs.YtddhngalokmdoaaW.PrintWords
set_option linter.unusedVariables false
set_option linter.unusedSimpArgs false

/-- An element is its cells, sz of them. -/
def flat {α : Type} (sz : Nat) (enc : α → List Value) (h1 : ∀ x u, u ∈ enc x → u.oneCell' = true) : Kd α where
  sz := sz
  E := []
  K := fun _ x cs => cs = enc x ∧ cs.length = sz
  M := fun _ _ _ x cs => cs = enc x ∧ cs.length = sz
  K_len := fun h => h.2
  K_one := fun h u hu => h1 _ u (h.1 ▸ hu)
  K_below := fun _ h => h
  K_of_M := fun h => h
  M_mono := fun _ h => h
  M_bound := fun h => h
  M_move := fun _ h => h
  M_lower := fun _ h => h
theorem nums_one (k : IntKind) (l : List Int) : ∀ u, u ∈ nums k l → u.oneCell' = true := fun u hu => by
  obtain ⟨x, _, rfl⟩ := List.mem_map.1 hu
  rfl
/-- Bytes, n of them. -/
def bytesK (n : Nat) : Kd (List Int) := flat n (nums .u8) (fun x => nums_one .u8 x)
/-- A number, and bytes. -/
def stampK (n : Nat) : Kd (Int × List Int) := flat (n + 1) (fun x => Value.int .i64 x.1 :: nums .u8 x.2) (fun x u hu => by
  rcases List.mem_cons.1 hu with rfl | hu
  · rfl
  · exact nums_one .u8 _ u hu)

section
variable {α : Type} {sz : Nat} {enc : α → List Value} {h1 : ∀ x u, u ∈ enc x → u.oneCell' = true} {e : Nat} {w : World} {base : Nat} {ok : Nat → Prop} {A : Option Addr} {n c : Nat} {xs : List α}
theorem inner_take {inner : List Value} (hr : Reps (fun x cs => cs = enc x ∧ cs.length = sz) sz xs inner) (i : Nat) (hi : i < xs.length) : (inner.drop (i * sz)).take sz = enc xs[i] ∧ (enc xs[i]).length = sz := by
  obtain ⟨h2, h3⟩ := hr.2 i _ (List.getElem?_eq_getElem hi)
  exact ⟨h2, by rw [← h2]; exact h3⟩
theorem mul_lt (i n sz : Nat) (h : i < n) : i * sz + sz ≤ n * sz := by
  have := Nat.mul_le_mul_right sz (show i + 1 ≤ n from h)
  rwa [Nat.add_mul, Nat.one_mul] at this
theorem flat_form (h : (flat sz enc h1).R e w base ok (.slice A n c) xs) (hx : 0 < xs.length) : ∃ g cur, A = some ⟨g, 0, none⟩ ∧ n = xs.length ∧ n ≤ c ∧ base ≤ g ∧ ok g ∧ Blk w g e cur ∧ cur.size = c * sz ∧ Reps (fun x cs => cs = enc x ∧ cs.length = sz) sz xs (cur.toList.take (xs.length * sz)) := by
  obtain ⟨h0, inner, ho, hr⟩ := h
  rcases ho.2 with ⟨e1, h2⟩ | ⟨g, cap, cur, e1, hg, hh, r1, r2, r3, r4⟩
  · omega
  · injection e1 with e1 e2 e3
    subst e1 e2 e3
    have r3' : cur.size = c * sz := r3
    have r4' : cur.toList.take (xs.length * sz) = inner := r4
    exact ⟨g, cur, rfl, rfl, r1, hg, h0 g rfl, ⟨hh⟩, r3', by rw [r4']; exact hr⟩
theorem flat_at (h : (flat sz enc h1).R e w base ok (.slice A n c) xs) (i : Nat) (hi : i < xs.length) : ∃ g, A = some ⟨g, 0, none⟩ ∧ ok g ∧ g < w.heap.size ∧ w.rangeAt g (i * sz) (enc xs[i]) ∧ (enc xs[i]).length = sz ∧ w.there g (i * sz) sz := by
  obtain ⟨g, cur, rfl, rfl, hnc, hg, hok, hB, hs, hr⟩ := flat_form h (by omega)
  obtain ⟨k1, k2⟩ := inner_take hr i hi
  have hm := mul_lt i xs.length sz hi
  have hm2 : xs.length * sz ≤ c * sz := Nat.mul_le_mul_right sz hnc
  refine ⟨g, rfl, hok, hB.lt, fun j v hj => ?_, k2, fun j hj => ⟨?_, hB.frozen _⟩⟩
  · have hjl : j < sz := by have := (List.getElem?_eq_some_iff.1 hj).1; omega
    rw [hB.cell]
    rw [← k1, List.getElem?_take_of_lt hjl, List.getElem?_drop, List.getElem?_take_of_lt (by omega)] at hj
    rw [← hj]
    simp
  · rw [hB.cell, Array.getElem?_eq_getElem (by omega)]
    rfl
theorem Blk.setCells {w : World} {g : Nat} {T : TypeId} {cs : Array Value} (h : Blk w g T cs) (o : Nat) (vs : List Value) (ho : o + vs.length ≤ cs.size) :
    ∃ cs', Blk (w.setCells g o vs) g T cs' ∧ cs'.size = cs.size ∧ cs'.toList = cs.toList.take o ++ vs ++ cs.toList.drop (o + vs.length) := by
  obtain ⟨cur, a, b, c⟩ := setCells_row vs o w cs h.out ho
  exact ⟨cur, ⟨a⟩, b, c⟩
theorem Blk.setCells_far {w : World} {g : Nat} {T : TypeId} {cs : Array Value} (h : Blk w g T cs) {g' : Nat} (hn : g ≠ g') (o : Nat) (vs : List Value) : Blk (w.setCells g' o vs) g T cs := ⟨(Go.Proofs.YtddhngalokmdoaaW.PrintWords.setCells_far vs o g hn).trans h.out⟩
theorem flat_set (h : (flat sz enc h1).R e w base ok (.slice A n c) xs) (i : Nat) (hi : i < xs.length) (p : α) (hp : (enc p).length = sz) {g : Nat} (hA : A = some ⟨g, 0, none⟩) : (flat sz enc h1).R e (w.setCells g (i * sz) (enc p)) base ok (.slice A n c) (xs.set i p) := by
  obtain ⟨g', cur, rfl, rfl, hnc, hg, hok, hB, hs, hr⟩ := flat_form h (by omega)
  cases hA
  have hm := mul_lt i xs.length sz hi
  have hm2 : xs.length * sz ≤ c * sz := Nat.mul_le_mul_right sz hnc
  obtain ⟨cs', k1, k2, k3⟩ := hB.setCells (i * sz) (enc p) (by rw [hp]; omega)
  have hlen : cur.toList.length = c * sz := by rw [Array.length_toList]; exact hs
  have hmax : c ≤ maxLen := by
    obtain ⟨_, inner, ho, _⟩ := h
    rcases ho.2 with ⟨e1, h2⟩ | ⟨g, cap, cur, e1, hg, hh, r1, r2, r3, r4⟩
    · cases e1
    · injection e1 with e1 e2 e3
      subst e3
      exact r2
  have hlen' : cs'.toList.length = c * sz := by rw [Array.length_toList, k2]; exact hs
  obtain ⟨L, hL⟩ : ∃ L, cur.toList.take (xs.length * sz) = L := ⟨_, rfl⟩
  have hLl : L.length = xs.length * sz := by rw [← hL, List.length_take, hlen]; omega
  have hset : cs'.toList.take (xs.length * sz) = L.take (i * sz) ++ enc p ++ L.drop (i * sz + sz) := by
    rw [k3, hp, ← hL]
    apply List.ext_getElem?
    intro j
    simp only [List.getElem?_take, List.getElem?_append, List.length_append, List.length_take, List.getElem?_drop, hlen, hp]
    by_cases c1 : j < xs.length * sz
    · rw [if_pos c1]
      by_cases c2 : j < i * sz
      · rw [if_pos (by omega), if_pos (by omega), if_pos c2, if_pos (by omega), if_pos (by omega), if_pos c2, if_pos c1]
      · by_cases c3 : j < i * sz + sz
        · rw [if_pos (by omega), if_neg (by omega), if_pos (by omega), if_neg (by omega)]
          congr 1
          omega
        · rw [if_neg (by omega), if_neg (by omega), if_pos (by omega)]
          congr 1
          omega
    · rw [if_neg c1, if_neg (by omega), if_neg (by omega)]
  rw [hL] at hr
  obtain ⟨M, hM⟩ : ∃ M, L.take (i * sz) ++ enc p ++ L.drop (i * sz + sz) = M := ⟨_, rfl⟩
  rw [hM] at hset
  have hMl : M.length = xs.length * sz := by rw [← hM, List.length_append, List.length_append, List.length_take, List.length_drop, hLl, hp]; omega
  refine ⟨h.1, M, ⟨?_, .inr ⟨g, c, cs', by rw [List.length_set], hg, k1.out, by rw [List.length_set]; exact hnc, hmax, by rw [k2, hs]; rfl, by rw [List.length_set]; exact hset⟩⟩, ?_, ?_⟩
  · rw [List.length_set]; exact hMl
  · rw [List.length_set]; exact hMl
  · intro j q hj
    have hjl : j < xs.length := by have := (List.getElem?_eq_some_iff.1 hj).1; simpa using this
    have hmj := mul_lt j xs.length sz hjl
    show (M.drop (j * sz)).take sz = enc q ∧ ((M.drop (j * sz)).take sz).length = sz
    by_cases hji : j = i
    · subst hji
      obtain rfl : p = q := by simpa [hjl] using hj
      have e1 : M.drop (j * sz) = enc p ++ L.drop (j * sz + sz) := by
        rw [← hM, List.append_assoc]
        have h5 : (L.take (j * sz)).length = j * sz := by rw [List.length_take, hLl]; omega
        rw [List.drop_append_of_le_length (by omega), List.drop_eq_nil_of_le (by omega), List.nil_append]
      rw [e1, List.take_append_of_le_length (by omega), List.take_of_length_le (by omega)]
      exact ⟨rfl, hp⟩
    · have hq : xs[j] = q := by
        rw [List.getElem?_set_ne (Ne.symm hji), List.getElem?_eq_getElem hjl] at hj
        exact Option.some.inj hj
      have hr' : Reps (fun x cs => cs = enc x ∧ cs.length = sz) sz xs L := hr
      obtain ⟨k4, k5⟩ := inner_take hr' j hjl
      rw [hq] at k4 k5
      have e2 : (M.drop (j * sz)).take sz = (L.drop (j * sz)).take sz := by
        rw [← hM]
        apply List.ext_getElem?
        intro t
        simp only [List.getElem?_take, List.getElem?_drop, List.getElem?_append, List.length_append, List.length_take, hLl, hp]
        by_cases ht : t < sz
        · rw [if_pos ht, if_pos ht]
          rcases Nat.lt_or_ge j i with hlt | hge
          · have := mul_lt j i sz hlt
            rw [if_pos (by omega), if_pos (by omega), if_pos (by omega)]
          · have := mul_lt i j sz (by omega)
            rw [if_neg (by omega)]
            congr 1
            omega
        · rw [if_neg ht, if_neg ht]
      rw [e2, k4]
      exact ⟨rfl, k5⟩
theorem flat_move {w1 : World} {v : Value} (h : (flat sz enc h1).R e w base ok v xs) (hm : ∀ k, v.ownBlock = some k → w1.heap[k]? = w.heap[k]?) : (flat sz enc h1).R e w1 base ok v xs := by
  obtain ⟨h0, inner, ho, hr⟩ := h
  exact ⟨h0, inner, own_move ho hm, hr⟩
theorem flat_lt {v : Value} (h : (flat sz enc h1).R e w base ok v xs) : ∀ k, v.ownBlock = some k → k < w.heap.size ∧ ok k := fun k hk => by
  obtain ⟨h0, inner, ho, hr⟩ := h
  exact ⟨own_lt ho k hk, h0 k hk⟩
/-- A new row, every element the zero. -/
theorem flat_made (z : α) (hz : (enc z).length = sz) (hs : 0 < sz) (m : Nat) (w : World) (hB : base ≤ w.heap.size) (hok : ok w.heap.size) (hm : m ≤ maxLen) :
    (flat sz enc h1).R e (w.alloc (.cells (madeCells (enc z).toArray (m * sz)) e)) base ok (.slice (some ⟨w.heap.size, 0, none⟩) m m) (List.replicate m z) := by
  have ho := World.ownsRow_lit (base := base) (e := e) (size := sz) w (madeCells (enc z).toArray (m * sz)) m hB hm (size_madeCells _ _)
  refine ⟨fun k hk => ?_, (madeCells (enc z).toArray (m * sz)).toList, by rw [List.length_replicate]; exact ho, ?_, fun j p hj => ?_⟩
  · have : w.heap.size = k := by simpa [Value.ownBlock] using hk
    rw [← this]; exact hok
  · rw [Array.length_toList, size_madeCells, List.length_replicate]; rfl
  · have hjm : j < m := by have := (List.getElem?_eq_some_iff.1 hj).1; simpa using this
    obtain rfl : z = p := by simpa [hjm] using hj
    have hmul := mul_lt j m sz hjm
    have e1 : ((madeCells (enc z).toArray (m * sz)).toList.drop (j * sz)).take sz = enc z := by
      apply List.ext_getElem?
      intro i
      by_cases hi : i < sz
      · rw [List.getElem?_take_of_lt hi, List.getElem?_drop]
        have hlt : j * sz + i < m * sz := by omega
        rw [List.getElem?_eq_getElem (by simpa [size_madeCells] using hlt), List.getElem?_eq_getElem (by omega)]
        congr 1
        have hmod : (j * sz + i) % sz = i := by rw [Nat.mul_comm, Nat.mul_add_mod, Nat.mod_eq_of_lt hi]
        simp [madeCells, hz, hmod, hi]
      · rw [List.getElem?_eq_none (by rw [List.length_take]; omega), List.getElem?_eq_none (by omega)]
    show _ ∧ _
    have hsz : (flat sz enc h1).sz = sz := rfl
    rw [hsz, e1]
    exact ⟨rfl, hz⟩
/-- An element is appended to a row of the call's own. -/
theorem flat_append {P : Program} {t : TypeId} (ty : TypeId) {z : Value} {bytes : Nat} (ht : P.underlying t = some (.slice e)) (hi : (P.info? e).map (fun i => (i.zero, i.size, i.bytes)) = some (some z, sz, bytes)) (hz : z.cells.size = sz) (hs0 : 0 < sz) (hb0 : 0 < bytes)
    {v : Value} (HO : (flat sz enc h1).R e w base ok v xs) (p : α) (hp : (enc p).length = sz) (hok : ∀ k, w.heap.size ≤ k → ok k) (hB : base ≤ w.heap.size) (hl : (xs.length + 1) * bytes ≤ 140737488355328) :
    ∃ v1 w1, (Builtin.append_ #[t, t] ty #[v, .slice (some ⟨w.heap.size, 0, none⟩) 1 1]).run P (w.alloc (.cells (enc p).toArray e)) = .ok v1 w1 ∧ (flat sz enc h1).R e w1 base ok v1 (xs ++ [p]) ∧ w.grownBy w1 v.ownBlock := by
  obtain ⟨i0, hi0, hzz⟩ := Option.map_eq_some_iff.1 hi
  simp only [Prod.mk.injEq] at hzz
  obtain ⟨hz0, hz1, hz2⟩ := hzz
  obtain ⟨h0, inner, hown, hr⟩ := HO
  have hown' : w.ownsRow base e sz v xs.length inner := hown
  have hlen : xs.length + 1 ≤ 140737488355328 := Nat.le_trans (Nat.le_mul_of_pos_right _ hb0) hl
  obtain ⟨v1, w1, hrun, ho, hg, -, hat⟩ := run_append_own_at (P := P) (w.alloc (.cells (enc p).toArray e)) base t ty e i0 z sz bytes ht hi0 hz0 hz1 hz2 hz hs0 v xs.length inner (hown'.alloc _) ⟨w.heap.size, 0, none⟩ 1 1 (enc p) (by rw [hp]; simp)
    (by simpa using World.news_of_block (cs := (enc p).toArray) (t := e) (fr := (0, 0)) (heap_alloc_new w (.cells (enc p).toArray e))) (h1 p) (by simp only [maxLen]; omega) hl (by simp; omega)
  refine ⟨v1, w1, hrun, ⟨fun k hk => ?_, inner ++ enc p, by rw [List.length_append, List.length_singleton]; exact ho, hr.snoc ⟨rfl, hp⟩ hp⟩, World.grownBy.trans (World.grownBy_alloc w _ _) hg⟩
  rcases hat with hat | hat
  · rw [hat] at hk; exact h0 k hk
  · rw [hat] at hk
    have : (w.alloc (.cells (enc p).toArray e)).heap.size = k := Option.some.inj hk
    refine hok k ?_
    rw [← this]
    simp
end
/-- A slice literal of one element of many cells. -/
theorem run_buildSlice_one {P : Program} {t e : TypeId} {z : Value} {n bytes : Nat} (hu : P.underlying t = some (.slice e)) (hi : (P.info? e).map (fun i => (i.zero, i.size, i.bytes)) = some (some z, n, bytes)) (h0 : 0 < n) (hn : n ≤ 16777216)
    (vs : Array Value) (hv : vs.size = n) (w : World) : (Instr.buildSlice t 1 #[(0, .agg vs)]).run P w = .ok (.slice (some ⟨w.heap.size, 0, none⟩) 1 1) (w.alloc (.cells vs e)) := by
  obtain ⟨ie, hie, h1⟩ := Option.map_eq_some_iff.1 hi
  simp only [Prod.mk.injEq] at h1
  obtain ⟨h1, h2, h3⟩ := h1
  have h4 : ¬ 1 * ie.size > 2 ^ 24 := by
    have h5 : (2 : Nat) ^ 24 = 16777216 := by decide
    rw [Nat.one_mul, h2, h5]; omega
  refine run_buildSlice w t e 1 _ vs ie z hu hie h1 h4 (by omega) ?_
  have h6 := Go.Great.fill_whole (s := ie.size) (by omega) [.agg vs] ((Array.range (1 * ie.size)).map (z.cells[· % z.cells.size]!)) (fun v hv' => by rw [List.mem_singleton.1 hv']; show vs.size = _; omega) (by simp)
  refine Eq.trans ?_ (h6.trans ?_)
  · rfl
  · simp [Value.cells]
/-- An operation that loads many cells, run. -/
theorem exec_load_mid {P : Program} {o : Oper} {a : Act} {w : World} (ty : TypeId) (x : Operand) (ho : o.op = .load ty x) (b off : Nat) (hx : a.eval x = .pointer (some ⟨b, off, none⟩)) (cs : List Value) (d : TypeDesc) (hc : w.rangeAt b off cs)
    (hu : P.underlying ty = some d) (hd : d.isRow = true) (hi : (P.info? ty).map (·.size) = some cs.length) : (execOp a.eval o).run P w = .ok (.value (.agg cs.toArray)) w := by
  unfold execOp
  simp only [ho, hx, Instr.loadAt, Instr.sureAddr, Sem.run_bind, Sem.run_pure, Result.andThen_ok, run_loadVar_mid w b off ty cs d hc hu hd hi]
theorem exec_slice_one {P : Program} {o : Oper} {a : Act} {t e : TypeId} (x : Operand) (ho : o.op = .buildSlice t 1 #[(0, x)]) (vs : Array Value) (hx : a.eval x = .agg vs) {z : Value} {n bytes : Nat} (hu : P.underlying t = some (.slice e)) (hi : (P.info? e).map (fun i => (i.zero, i.size, i.bytes)) = some (some z, n, bytes)) (h0 : 0 < n) (hn : n ≤ 16777216)
    (hv : vs.size = n) (w : World) : (execOp a.eval o).run P w = .ok (.value (.slice (some ⟨w.heap.size, 0, none⟩) 1 1)) (w.alloc (.cells vs e)) := by
  have h := run_buildSlice_one hu hi h0 hn vs hv w
  have e1 : (#[(0, x)] : Array (Nat × Operand)).map (fun (i, y) => (i, a.eval y)) = #[(0, .agg vs)] := by simp [hx]
  unfold execOp
  simp only [ho, e1, Sem.run_bind, h, Result.andThen_ok, Sem.run_pure]
theorem exec_append {P : Program} {o : Oper} {a : Act} {t : TypeId} (s x : Operand) (ho : o.op = .call { callee := .builtin .append, args := #[s, x], argTypes := #[t, t] }) {v u v1 : Value} {w w1 : World} (hs : a.eval s = v) (hx : a.eval x = u)
    (hr : (Builtin.append_ #[t, t] o.type #[v, u]).run P w = .ok v1 w1) : (execOp a.eval o).run P w = .ok (.value v1) w1 := by
  unfold execOp
  simp only [ho, resolve, invoke, builtin, Sem.run_bind, Sem.run_pure, Result.andThen_ok, List.map_toArray, List.map_cons, List.map_nil, hs, hx, hr]
/-! ### blocks by classes -/
/-- Of the elder blocks only some of P's may have turned. -/
structure OnlyP (P : Nat → Prop) (w w' : World) : Prop where mk ::
  os : w'.os = w.os
  tape : w'.tape = w.tape
  output : w'.output = w.output
  size : w.heap.size ≤ w'.heap.size
  block : ∀ k, k < w.heap.size → ¬ P k → w'.heap[k]? = w.heap[k]?
namespace OnlyP
variable {P Q : Nat → Prop} {w w1 w2 : World}
theorem refl (P : Nat → Prop) (w : World) : OnlyP P w w := ⟨rfl, rfl, rfl, Nat.le_refl _, fun _ _ _ => rfl⟩
theorem of_below (h : Below w.heap.size w w1) : OnlyP P w w1 := ⟨h.os, h.tape, h.output, h.size, fun k hk _ => h.block k hk⟩
theorem below {B : Nat} (h : OnlyP P w w1) (hB : B ≤ w.heap.size) (hP : ∀ k, P k → B ≤ k) : Below B w w1 :=
  ⟨h.os, h.tape, h.output, h.size, fun k hk => h.block k (by omega) (fun hm => by have := hP k hm; omega)⟩
theorem trans (h : OnlyP P w w1) (h' : OnlyP P w1 w2) : OnlyP P w w2 :=
  ⟨h'.os.trans h.os, h'.tape.trans h.tape, h'.output.trans h.output, Nat.le_trans h.size h'.size, fun k hk hn => (h'.block k (Nat.lt_of_lt_of_le hk h.size) hn).trans (h.block k hk hn)⟩
theorem step (h : OnlyP P w w1) (hb : Below w1.heap.size w1 w2) : OnlyP P w w2 := h.trans (of_below hb)
theorem mono (h : OnlyP P w w1) (hS : ∀ k, k < w.heap.size → P k → Q k) : OnlyP Q w w1 := ⟨h.os, h.tape, h.output, h.size, fun k hk hn => h.block k hk (fun hp => hn (hS k hk hp))⟩
theorem alloc (h : OnlyP P w w1) (o : Obj) : OnlyP P w (w1.alloc o) := h.step ((Below.refl _ _).alloc (Nat.le_refl _) o)
theorem drew (h : OnlyP P w w1) : OnlyP P w w1.drew := ⟨h.os, h.tape, h.output, h.size, h.block⟩
theorem setCell (h : OnlyP P w w1) {p : Addr} (hp : P p.block ∨ w.heap.size ≤ p.block) (u : Value) : OnlyP P w (w1.setCell p u) :=
  ⟨h.os, h.tape, h.output, by simpa [World.setCell] using h.size, fun k hk hn => (Below.heap_setCell w1 p u k (fun e => by subst e; rcases hp with hp | hp; exact hn hp; omega)).trans (h.block k hk hn)⟩
theorem setCells (h : OnlyP P w w1) {g : Nat} (hp : P g ∨ w.heap.size ≤ g) (o : Nat) (vs : List Value) : OnlyP P w (w1.setCells g o vs) := by
  obtain ⟨a, b, c, d⟩ := setCells_same g vs o w1
  exact ⟨a.trans h.os, b.trans h.tape, c.trans h.output, by rw [d]; exact h.size, fun k hk hn => (Go.Proofs.YtddhngalokmdoaaW.PrintWords.setCells_far vs o k (fun e => by subst e; rcases hp with hp | hp; exact hn hp; omega)).trans (h.block k hk hn)⟩
theorem grown {row : Option Nat} (h : OnlyP P w w1) (hg : w1.grownBy w2 row) (hr : ∀ k, row = some k → P k ∨ w.heap.size ≤ k) : OnlyP P w w2 :=
  ⟨hg.os.trans h.os, hg.tape.trans h.tape, hg.output.trans h.output, Nat.le_trans h.size hg.size, fun k hk hn =>
    (hg.block k (Nat.lt_of_lt_of_le hk h.size) (fun e => by rcases hr k e.symm with h1 | h1; exact hn h1; omega)).trans (h.block k hk hn)⟩
theorem blk {g : Nat} {T : TypeId} {cs : Array Value} (ho : OnlyP P w w1) (h : Blk w g T cs) (hn : ¬ P g) : Blk w1 g T cs := ⟨(ho.block g h.lt hn).trans h.out⟩
end OnlyP
end Go.Proofs.Ytddhngalokmdoaa.Arr

/- A tray, plainly. No program. -/
namespace Go.Proofs.Ytddhngalokmdoaa.Spo
set_option linter.unusedVariables false

/-- Sectors as they are kept, writes in the cache, steps left, dark. -/
structure TrayV where
  kept : List (List Int)
  cache : List (Int × List Int)
  left : Int
  dark : Bool
def stepV (V : TrayV) : TrayV × Bool := if V.left = 0 then ({ V with dark := true }, false) else if 0 < V.left then ({ V with left := V.left - 1 }, true) else (V, true)
def padB (b : List Int) : List Int := b ++ List.replicate (128 - b.length) 0
theorem padB_length {b : List Int} (h : b.length ≤ 128) : (padB b).length = 128 := by
  unfold padB
  rw [List.length_append, List.length_replicate]
  omega
def hasV (V : TrayV) (at_ : Int) : Bool := decide (0 ≤ at_) && decide (at_ < V.kept.length)
def writeV (V : TrayV) (at_ : Int) (b : List Int) : TrayV × Int :=
  if hasV V at_ = false ∨ 128 < b.length then (V, 1) else if (stepV V).2 = true then ({ (stepV V).1 with cache := V.cache ++ [(at_, padB b)] }, 0) else ((stepV V).1, 20)
def lastV (l : List (Int × List Int)) (at_ : Int) (b : List Int) : List Int := l.foldl (fun b w => if w.1 = at_ then w.2 else b) b
def readV (V : TrayV) (at_ : Int) : List Int := lastV V.cache at_ (V.kept.getD at_.toNat [])
def settleV (kept : List (List Int)) (l : List (Int × List Int)) : List (List Int) := l.foldl (fun k w => k.set w.1.toNat w.2) kept
def flushV (V : TrayV) : TrayV × Int := if (stepV V).2 = true then ({ (stepV V).1 with kept := settleV V.kept V.cache, cache := [] }, 0) else ((stepV V).1, 20)
def powerV (V : TrayV) (n : Int) : TrayV × Int := if n < 0 ∨ n > 1099511627776 then (V, 1) else ({ V with left := n, dark := false }, 0)
/-- The writes that are kept at a loss of power. -/
def chosen : List (Int × List Int) → List Bool → List (Int × List Int)
  | [], _ => []
  | _ :: _, [] => []
  | w :: l, c :: cs => if c then w :: chosen l cs else chosen l cs
def loseV (V : TrayV) (choice : List Bool) : TrayV := ⟨settleV V.kept (chosen V.cache choice), [], -1, false⟩
def newV (n : Nat) : TrayV := ⟨List.replicate n (List.replicate 128 0), [], -1, false⟩
/-- Sectors have 128 bytes; what is cached has its sector. -/
structure Sound (V : TrayV) : Prop where mk ::
  kept : ∀ b, b ∈ V.kept → b.length = 128
  cache : ∀ x, x ∈ V.cache → 0 ≤ x.1 ∧ x.1 < V.kept.length ∧ x.2.length = 128
  len : V.kept.length ≤ 4096
theorem settle_length (l : List (Int × List Int)) : ∀ k, (settleV k l).length = k.length := by
  induction l with
  | nil => intro k; rfl
  | cons a l ih => intro k; show (settleV (k.set _ _) l).length = _; rw [ih, List.length_set]
theorem settle_sound {l : List (Int × List Int)} (hl : ∀ x, x ∈ l → x.2.length = 128) : ∀ k : List (List Int), (∀ b, b ∈ k → b.length = 128) → ∀ b, b ∈ settleV k l → b.length = 128 := by
  induction l with
  | nil => intro k h; exact h
  | cons a l ih =>
    intro k h
    refine ih (fun x hx => hl x (by simp [hx])) (k.set a.1.toNat a.2) fun b hb => ?_
    rcases List.mem_or_eq_of_mem_set hb with h1 | h1
    · exact h b h1
    · rw [h1]; exact hl a (by simp)
theorem step_kept (V : TrayV) : (stepV V).1.kept = V.kept ∧ (stepV V).1.cache = V.cache := by
  unfold stepV
  split
  · exact ⟨rfl, rfl⟩
  · split <;> exact ⟨rfl, rfl⟩
theorem Sound.step {V : TrayV} (h : Sound V) : Sound (stepV V).1 := by
  obtain ⟨h1, h2⟩ := step_kept V
  exact ⟨by rw [h1]; exact h.kept, by rw [h1, h2]; exact h.cache, by rw [h1]; exact h.len⟩
theorem Sound.write {V : TrayV} (h : Sound V) (at_ : Int) (b : List Int) : Sound (writeV V at_ b).1 := by
  unfold writeV
  split
  · exact h
  next hb =>
    split
    · have hs := h.step
      obtain ⟨h1, h2⟩ := step_kept V
      refine ⟨hs.kept, fun x hx => ?_, hs.len⟩
      rcases List.mem_append.1 hx with hx | hx
      · have := h.cache x hx
        rw [← h1] at this
        exact this
      · obtain rfl := List.mem_singleton.1 hx
        have hh : hasV V at_ = true := by
          cases hc : hasV V at_ with
          | true => rfl
          | false => exact absurd (.inl hc) hb
        unfold hasV at hh
        simp only [Bool.and_eq_true, decide_eq_true_eq] at hh
        refine ⟨hh.1, ?_, padB_length (by omega)⟩
        show at_ < ((stepV V).1.kept.length : Int)
        rw [h1]; exact hh.2
    · exact h.step
theorem Sound.flush {V : TrayV} (h : Sound V) : Sound (flushV V).1 := by
  unfold flushV
  split
  · refine ⟨settle_sound (fun x hx => (h.cache x hx).2.2) _ h.kept, fun x hx => (by cases hx), ?_⟩
    show (settleV V.kept V.cache).length ≤ 4096
    rw [settle_length]; exact h.len
  · exact h.step
theorem Sound.power {V : TrayV} (h : Sound V) (n : Int) : Sound (powerV V n).1 := by
  unfold powerV
  split
  · exact h
  · exact ⟨h.kept, h.cache, h.len⟩
theorem chosen_mem : ∀ (l : List (Int × List Int)) (c : List Bool) (x : Int × List Int), x ∈ chosen l c → x ∈ l
  | [], _, _, h => by simp [chosen] at h
  | _ :: _, [], _, h => by simp [chosen] at h
  | w :: l, c :: cs, x, h => by
    simp only [chosen] at h
    split at h
    · rcases List.mem_cons.1 h with rfl | h
      · simp
      · exact List.mem_cons_of_mem _ (chosen_mem l cs x h)
    · exact List.mem_cons_of_mem _ (chosen_mem l cs x h)
theorem Sound.lose {V : TrayV} (h : Sound V) (c : List Bool) : Sound (loseV V c) :=
  ⟨settle_sound (fun x hx => (h.cache x (chosen_mem _ _ x hx)).2.2) _ h.kept, fun x hx => (by cases hx), by show (settleV V.kept _).length ≤ 4096; rw [settle_length]; exact h.len⟩
theorem Sound.new {n : Nat} (h : n ≤ 4096) : Sound (newV n) :=
  ⟨fun b hb => by rw [(List.mem_replicate.1 hb).2]; simp, fun x hx => (by cases hx), by show (List.replicate n _).length ≤ 4096; simpa using h⟩
theorem last_length {l : List (Int × List Int)} (hl : ∀ x, x ∈ l → x.2.length = 128) (at_ : Int) : ∀ b : List Int, b.length = 128 → (lastV l at_ b).length = 128 := by
  induction l with
  | nil => intro b h; exact h
  | cons a l ih =>
    intro b h
    refine ih (fun x hx => hl x (by simp [hx])) _ ?_
    show (if a.1 = at_ then a.2 else b).length = 128
    split
    · exact hl a (by simp)
    · exact h
theorem Sound.read {V : TrayV} (h : Sound V) {at_ : Int} (hh : hasV V at_ = true) : (readV V at_).length = 128 := by
  unfold hasV at hh
  simp only [Bool.and_eq_true, decide_eq_true_eq] at hh
  refine last_length (fun x hx => (h.cache x hx).2.2) at_ _ ?_
  have hi : at_.toNat < V.kept.length := by omega
  rw [List.getD, List.getElem?_eq_getElem hi, Option.getD_some]
  exact h.kept _ (List.getElem_mem hi)
theorem last_snoc (l : List (Int × List Int)) (x : Int × List Int) (at_ : Int) (b : List Int) : lastV (l ++ [x]) at_ b = if x.1 = at_ then x.2 else lastV l at_ b := by
  unfold lastV
  rw [List.foldl_append]
  rfl
theorem settle_snoc (k : List (List Int)) (l : List (Int × List Int)) (x : Int × List Int) : settleV k (l ++ [x]) = (settleV k l).set x.1.toNat x.2 := by
  unfold settleV
  rw [List.foldl_append]
  rfl
end Go.Proofs.Ytddhngalokmdoaa.Spo

/- What the kit's print tells of some functions: each comes to a Lean function. -/
namespace Go.Proofs.Ytddhngalokmdoaa.PSpoolPlays
open Go.RowKit Go.Proofs.YtddhngalokmdoaaW.PrintWords Go.Proofs.YtddhngalokmdoaaW.PrintLast Go.Proofs.YtddhngalokmdoaaW.PrintMore
attribute [local go_sem] max2_int min2_int max_two min_two max_three min_three max_four min_four
set_option linter.unusedVariables false
set_option linter.unusedSimpArgs false
theorem litSize (a : Array UInt8) : (ByteArray.mk a).size = a.size := rfl
/-! ### stileref13_turned: function 32 -/
def stileref13_turned.l0 : Nat → Int → Int → Int → Int → Int → Option (Int)
  | 0, _, _, _, _, _ => none
  | k + 1, x0, x1, x5, x6, x7 => if x7 < 32 then (if (Int.tmod x0 2) = (Int.tmod x1 2) then (stileref13_turned.l0 k (IntKind.u64.wrap (Int.tdiv x0 2)) (IntKind.u64.wrap (Int.tdiv x1 2)) x5 (IntKind.u64.wrap (x6 * 2)) (wrap64 (x7 + 1))) else (stileref13_turned.l0 k (IntKind.u64.wrap (Int.tdiv x0 2)) (IntKind.u64.wrap (Int.tdiv x1 2)) (IntKind.u64.wrap (x5 + x6)) (IntKind.u64.wrap (x6 * 2)) (wrap64 (x7 + 1)))) else (some x5)
def stileref13_turned.f (k : Nat) (a0 : Int) (a1 : Int) : Option (Int) := stileref13_turned.l0 k a0 a1 0 1 0
theorem stileref13_turned.mono_l : ∀ k, (∀ y0 y1 y2 y3 y4, LeO (stileref13_turned.l0 k y0 y1 y2 y3 y4) (stileref13_turned.l0 (k + 1) y0 y1 y2 y3 y4))
  | 0 => fun _ _ _ _ _ r h => by simp [stileref13_turned.l0] at h
  | k + 1 => by
    have ih0 := stileref13_turned.mono_l k
    · intro y0 y1 y2 y3 y4
      unfold stileref13_turned.l0
      repeat' first
      | (with_reducible exact ih0 _ _ _ _ _)
      | (with_reducible exact LeO.refl _)
      | (with_reducible exact LeO.none _)
      | (with_reducible refine LeO.ite ?_ ?_)
      | (with_reducible refine LeO.bind ?_ (fun _ => ?_))
      | exact ih0 _ _ _ _ _
      | exact LeO.none _
      | refine LeO.ite ?_ ?_
      | refine LeO.bind ?_ (fun _ => ?_)
theorem stileref13_turned.mono : ∀ a0 a1 k, LeO (stileref13_turned.f k a0 a1) (stileref13_turned.f (k + 1) a0 a1) := by
  intro a0 a1 k
  have ih0 := stileref13_turned.mono_l k
  unfold stileref13_turned.f
  repeat' first
      | (with_reducible exact ih0 _ _ _ _ _)
      | (with_reducible exact LeO.refl _)
      | (with_reducible exact LeO.none _)
      | (with_reducible refine LeO.ite ?_ ?_)
      | (with_reducible refine LeO.bind ?_ (fun _ => ?_))
      | exact ih0 _ _ _ _ _
      | exact LeO.none _
      | refine LeO.ite ?_ ?_
      | refine LeO.bind ?_ (fun _ => ?_)
set_option maxHeartbeats 8000000 in
set_option maxRecDepth 100000 in
theorem stileref13_turned.calls (k : Nat) (a0 : Int) (a1 : Int) (r : Int) (w : World) (h : stileref13_turned.f k a0 a1 = some r) :
    Calls Try.prog 32 #[.int .u64 a0, .int .u64 a1] w fun e w' => e = .returned (.int .u64 r) ∧ Drawn0 w w' := by
  have H : (stileref13_turned.l0 k a0 a1 0 1 0) = some r := h
  clear h
  have H' := Aside0.mk H
  clear H
  go_enter Try.func32, Try.ntmps32
  go_wp2
  go_loopg [0, 1, 5, 6, 7] k (fun kq v0 v1 v5 v6 v7 w' => ∃ (x0_1 : Int) (x1_1 : Int) (x5_1 : Int) (x6_1 : Int) (x7_1 : Int), v0 = .int .u64 x0_1 ∧ v1 = .int .u64 x1_1 ∧ v5 = .int .u64 x5_1 ∧ v6 = .int .u64 x6_1 ∧ v7 = .int .i64 x7_1 ∧ Aside0 (stileref13_turned.l0 kq x0_1 x1_1 x5_1 x6_1 x7_1 = some r) ∧ Aside0 (kq ≤ k) ∧ Drawn0 w w')
  case atStart => exact ⟨(a0), (a1), (0), (1), (0), (by first | rfl | (simp; done) | (simp [*]; done)), (by first | rfl | (simp; done) | (simp [*]; done)), (by first | rfl | (simp; done) | (simp [*]; done)), (by first | rfl | (simp; done) | (simp [*]; done)), (by first | rfl | (simp; done) | (simp [*]; done)), H', ⟨Nat.le_refl _⟩, by repeat (first | exact Drawn0.refl _ | apply Drawn0.step)⟩
  case round =>
    clear H'
    try clear p2
    obtain ⟨x0_1, x1_1, x5_1, x6_1, x7_1, rfl, rfl, rfl, rfl, rfl, HA, HK1, ⟨m1, rfl⟩⟩ := hrel
    cases gk with
    | zero => exact absurd HA.out (by simp [stileref13_turned.l0])
    | succ k1 =>
      have H := HA.out
      clear HA
      simp only [stileref13_turned.l0] at H
      by_cases c3 : x7_1 < 32
      · rw [if_pos c3] at H
        have c3b0 : decide (x7_1 < 32) = true := decide_eq_true c3
        clear c3
        by_cases c4 : (Int.tmod x0_1 2) = (Int.tmod x1_1 2)
        · rw [if_pos c4] at H
          have c4b0 : ((Int.tmod x0_1 2) == (Int.tmod x1_1 2)) = true := beq_iff_eq.mpr c4
          have c4b1 : ((Int.tmod x0_1 2) != (Int.tmod x1_1 2)) = false := bne_eq_false_iff_eq.mpr c4
          clear c4
          have H' := Aside0.mk H
          clear H
          go_wp2
          go_roundg k1
          case measure => have := HK1.out; omega
          case rel => exact ⟨(IntKind.u64.wrap (Int.tdiv x0_1 2)), (IntKind.u64.wrap (Int.tdiv x1_1 2)), (x5_1), (IntKind.u64.wrap (x6_1 * 2)), (wrap64 (x7_1 + 1)), (by first | rfl | (simp; done) | (simp [*]; done)), (by first | rfl | (simp; done) | (simp [*]; done)), (by first | rfl | (simp; done) | (simp [*]; done)), (by first | rfl | (simp; done) | (simp [*]; done)), (by first | rfl | (simp; done) | (simp [*]; done)), H', ⟨by have := HK1.out; omega⟩, by repeat (first | exact Drawn0.refl _ | apply Drawn0.step)⟩
        · rw [if_neg c4] at H
          have c4b0 : ((Int.tmod x0_1 2) == (Int.tmod x1_1 2)) = false := beq_eq_false_iff_ne.mpr c4
          have c4b1 : ((Int.tmod x0_1 2) != (Int.tmod x1_1 2)) = true := bne_iff_ne.mpr c4
          have H' := Aside0.mk H
          clear H
          go_wp2
          go_roundg k1
          case measure => have := HK1.out; omega
          case rel => exact ⟨(IntKind.u64.wrap (Int.tdiv x0_1 2)), (IntKind.u64.wrap (Int.tdiv x1_1 2)), (IntKind.u64.wrap (x5_1 + x6_1)), (IntKind.u64.wrap (x6_1 * 2)), (wrap64 (x7_1 + 1)), (by first | rfl | (simp; done) | (simp [*]; done)), (by first | rfl | (simp; done) | (simp [*]; done)), (by first | rfl | (simp; done) | (simp [*]; done)), (by first | rfl | (simp; done) | (simp [*]; done)), (by first | rfl | (simp; done) | (simp [*]; done)), H', ⟨by have := HK1.out; omega⟩, by repeat (first | exact Drawn0.refl _ | apply Drawn0.step)⟩
      · rw [if_neg c3] at H
        have c3b0 : decide (x7_1 < 32) = false := decide_eq_false c3
        clear c3
        obtain rfl := Option.some.inj H
        go_wp2
        go_ret
        exact ⟨by first | rfl | (simp; done) | (simp [*]; done), by repeat (first | exact Drawn0.refl _ | apply Drawn0.step)⟩

/-! ### stileref13_Sum: function 11 -/
mutual
def stileref13_Sum.l0 : Nat → List Int → Int → Int → Int → Option (Int)
  | 0, _, _, _, _ => none
  | k + 1, x0, x3, x10, x11 => if x11 < x10 then (if 0 ≤ x11 then (if x11 < (x0.length : Int) then (stileref13_Sum.l1 k x0 x3 (wrap64 (rd x0 x11)) 0 x10 x11) else (none)) else (none)) else (some ((x3) % 4294967296))
def stileref13_Sum.l1 : Nat → List Int → Int → Int → Int → Int → Int → Option (Int)
  | 0, _, _, _, _, _, _ => none
  | k + 1, x0, x3, x5, x6, x10, x11 => if x6 < 8 then (if ((decide (x3 ≥ 2147483648)) != (decide (x5 ≥ 128))) = true then ((stileref13_turned.f k (Int.tmod (IntKind.u64.wrap (x3 * 2)) 4294967296) 79764919).bind fun t153 => (stileref13_Sum.l1 k x0 t153 (Int.tmod (wrap64 (x5 * 2)) 256) (wrap64 (x6 + 1)) x10 x11)) else (stileref13_Sum.l1 k x0 (Int.tmod (IntKind.u64.wrap (x3 * 2)) 4294967296) (Int.tmod (wrap64 (x5 * 2)) 256) (wrap64 (x6 + 1)) x10 x11)) else (stileref13_Sum.l0 k x0 x3 x10 (wrap64 (x11 + 1)))
end
def stileref13_Sum.f (k : Nat) (l0 : List Int) : Option (Int) := stileref13_Sum.l0 k l0 4294967295 (l0.length : Int) 0
theorem stileref13_Sum.mono_l : ∀ k, (∀ y0 y1 y2 y3, LeO (stileref13_Sum.l0 k y0 y1 y2 y3) (stileref13_Sum.l0 (k + 1) y0 y1 y2 y3)) ∧ (∀ y0 y1 y2 y3 y4 y5, LeO (stileref13_Sum.l1 k y0 y1 y2 y3 y4 y5) (stileref13_Sum.l1 (k + 1) y0 y1 y2 y3 y4 y5))
  | 0 => ⟨fun _ _ _ _ r h => by simp [stileref13_Sum.l0] at h, fun _ _ _ _ _ _ r h => by simp [stileref13_Sum.l1] at h⟩
  | k + 1 => by
    obtain ⟨ih0, ih1⟩ := stileref13_Sum.mono_l k
    refine ⟨?_, ?_⟩
    · intro y0 y1 y2 y3
      unfold stileref13_Sum.l0
      repeat' first
      | (with_reducible exact ih0 _ _ _ _)
      | (with_reducible exact ih1 _ _ _ _ _ _)
      | (with_reducible exact stileref13_turned.mono _ _ _)
      | (with_reducible exact LeO.refl _)
      | (with_reducible exact LeO.none _)
      | (with_reducible refine LeO.ite ?_ ?_)
      | (with_reducible refine LeO.bind ?_ (fun _ => ?_))
      | exact ih0 _ _ _ _
      | exact ih1 _ _ _ _ _ _
      | exact stileref13_turned.mono _ _ _
      | exact LeO.none _
      | refine LeO.ite ?_ ?_
      | refine LeO.bind ?_ (fun _ => ?_)
    · intro y0 y1 y2 y3 y4 y5
      unfold stileref13_Sum.l1
      repeat' first
      | (with_reducible exact ih0 _ _ _ _)
      | (with_reducible exact ih1 _ _ _ _ _ _)
      | (with_reducible exact stileref13_turned.mono _ _ _)
      | (with_reducible exact LeO.refl _)
      | (with_reducible exact LeO.none _)
      | (with_reducible refine LeO.ite ?_ ?_)
      | (with_reducible refine LeO.bind ?_ (fun _ => ?_))
      | exact ih0 _ _ _ _
      | exact ih1 _ _ _ _ _ _
      | exact stileref13_turned.mono _ _ _
      | exact LeO.none _
      | refine LeO.ite ?_ ?_
      | refine LeO.bind ?_ (fun _ => ?_)
theorem stileref13_Sum.mono : ∀ a0 k, LeO (stileref13_Sum.f k a0) (stileref13_Sum.f (k + 1) a0) := by
  intro a0 k
  obtain ⟨ih0, ih1⟩ := stileref13_Sum.mono_l k
  unfold stileref13_Sum.f
  repeat' first
      | (with_reducible exact ih0 _ _ _ _)
      | (with_reducible exact ih1 _ _ _ _ _ _)
      | (with_reducible exact stileref13_turned.mono _ _ _)
      | (with_reducible exact LeO.refl _)
      | (with_reducible exact LeO.none _)
      | (with_reducible refine LeO.ite ?_ ?_)
      | (with_reducible refine LeO.bind ?_ (fun _ => ?_))
      | exact ih0 _ _ _ _
      | exact ih1 _ _ _ _ _ _
      | exact stileref13_turned.mono _ _ _
      | exact LeO.none _
      | refine LeO.ite ?_ ?_
      | refine LeO.bind ?_ (fun _ => ?_)
set_option maxHeartbeats 8000000 in
set_option maxRecDepth 100000 in
theorem stileref13_Sum.calls (k : Nat) (A0 : Option Addr) (c0 : Nat) (l0 : List Int) (r : Int) (w : World) (hr0 : Kd.C (Kd.int .u8) w A0 l0.length l0) (hc0 : l0.length ≤ c0) (h : stileref13_Sum.f k l0 = some r) :
    Calls Try.prog 11 #[.slice A0 l0.length c0] w fun e w' => e = .returned (.int .u32 r) ∧ Drawn0 w w' := by
  have HR0 := Aside0.mk hr0
  have HC0 := Aside0.mk hc0
  clear hr0 hc0
  have H : (stileref13_Sum.l0 k l0 4294967295 (l0.length : Int) 0) = some r := h
  clear h
  have H' := Aside0.mk H
  clear H
  go_enter Try.func11, Try.ntmps11
  go_wp2
  go_loopg [3, 11] k (fun kq v3 v11 w' => ∃ (x3_1 : Int) (x11_1 : Int), v3 = .int .u64 x3_1 ∧ v11 = .int .i64 x11_1 ∧ Aside0 (stileref13_Sum.l0 kq l0 x3_1 (l0.length : Int) x11_1 = some r) ∧ Aside0 (kq ≤ k) ∧ Drawn0 w w')
  case atStart => exact ⟨(4294967295), (0), (by first | rfl | (simp; done) | (simp [*]; done)), (by first | rfl | (simp; done) | (simp [*]; done)), H', ⟨Nat.le_refl _⟩, by repeat (first | exact Drawn0.refl _ | apply Drawn0.step)⟩
  case round =>
    clear H'
    try clear c1
    obtain ⟨x3_1, x11_1, rfl, rfl, HA, HK1, ⟨m1, rfl⟩⟩ := hrel
    cases gk with
    | zero => exact absurd HA.out (by simp [stileref13_Sum.l0])
    | succ k1 =>
      have H := HA.out
      clear HA
      simp only [stileref13_Sum.l0] at H
      by_cases c2 : x11_1 < (l0.length : Int)
      · rw [if_pos c2] at H
        have c2b0 : decide (x11_1 < (l0.length : Int)) = true := decide_eq_true c2
        clear c2
        by_cases c3 : 0 ≤ x11_1
        · rw [if_pos c3] at H
          have c3b0 : decide (0 ≤ x11_1) = true := decide_eq_true c3
          clear c3
          by_cases c4 : x11_1 < (l0.length : Int)
          · rw [if_pos c4] at H
            have c4b0 : decide (x11_1 < (l0.length : Int)) = true := decide_eq_true c4
            clear c4
            have H' := Aside0.mk H
            clear H
            have p152 : 0 ≤ (x11_1 : Int) := of_decide_eq_true (by first | (with_reducible assumption) | assumption)
            have q152 : x11_1 < (l0.length : Int) := of_decide_eq_true (by first | (with_reducible assumption) | assumption)
            obtain ⟨ad152, e152, hx152_0⟩ := Kd.at_int HR0.out x11_1 p152 q152
            cases e152
            replace p152 := eq_true p152
            replace q152 := eq_true q152
            go_wp2
            go_loopg [3, 5, 6] k1 (fun kq v3 v5 v6 w' => ∃ (x3_2 : Int) (x5_2 : Int) (x6_2 : Int), v3 = .int .u64 x3_2 ∧ v5 = .int .i64 x5_2 ∧ v6 = .int .i64 x6_2 ∧ Aside0 (stileref13_Sum.l1 kq l0 x3_2 x5_2 x6_2 (l0.length : Int) x11_1 = some r) ∧ Aside0 (kq ≤ k1) ∧ Drawn0 w w')
            case atStart => exact ⟨(x3_1), (wrap64 (rd l0 x11_1)), (0), (by first | rfl | (simp; done) | (simp [*]; done)), (by first | rfl | (simp; done) | (simp [*]; done)), (by first | rfl | (simp; done) | (simp [*]; done)), H', ⟨Nat.le_refl _⟩, by repeat (first | exact Drawn0.refl _ | apply Drawn0.step)⟩
            case round =>
              clear H'
              try clear c1
              try clear p1
              try clear q1
              try clear hx1
              try clear c2
              try clear c2b0
              try clear p2
              try clear c3
              try clear c3b0
              try clear c4
              try clear c4b0
              try clear hx152_0
              try clear p152
              try clear q152
              obtain ⟨x3_2, x5_2, x6_2, rfl, rfl, rfl, HA, HK2, ⟨m2, rfl⟩⟩ := hrel
              cases gk with
              | zero => exact absurd HA.out (by simp [stileref13_Sum.l1])
              | succ k2 =>
                have H := HA.out
                clear HA
                simp only [stileref13_Sum.l1] at H
                by_cases c5 : x6_2 < 8
                · rw [if_pos c5] at H
                  have c5b0 : decide (x6_2 < 8) = true := decide_eq_true c5
                  clear c5
                  by_cases c6 : ((decide (x3_2 ≥ 2147483648)) != (decide (x5_2 ≥ 128))) = true
                  · rw [if_pos c6] at H
                    have c6b0 : ((decide (x3_2 ≥ 2147483648)) != (decide (x5_2 ≥ 128))) = true := c6
                    (try (have c6b1 : decide ((decide (x3_2 ≥ 2147483648)) = (decide (x5_2 ≥ 128))) = false := by simpa using c6))
                    (try (have c6b2 : ((decide (x3_2 ≥ 2147483648)) == (decide (x5_2 ≥ 128))) = false := by simpa using c6))
                    (try (have c6b3 : ¬ ((decide (x3_2 ≥ 2147483648)) = (decide (x5_2 ≥ 128))) := by simpa using c6))
                    clear c6
                    replace H := Option.bind_eq_some_iff.mp H
                    obtain ⟨t153, A70, H⟩ := H
                    replace H : (stileref13_Sum.l1 k2 l0 t153 (Int.tmod (wrap64 (x5_2 * 2)) 256) (wrap64 (x6_2 + 1)) (l0.length : Int) x11_1) = some r := H
                    have A7 := Aside0.mk A70
                    clear A70
                    have H' := Aside0.mk H
                    clear H
                    go_wp2_with (first | ((with_reducible refine gate_callee (f := 32) rfl ?_); refine goesL_ (some 37) rfl rfl Try.func32 (by kernel_rfl) rfl #[.int .u64 (Int.tmod (IntKind.u64.wrap (x3_2 * 2)) 4294967296), .int .u64 79764919] rfl (by (try simp only [List.map_toArray, List.map_cons, List.map_nil]); first | done | rfl | (simp only [List.length_drop, List.length_take]; rfl)) ?_; (with_reducible refine (stileref13_turned.calls k2 (Int.tmod (IntKind.u64.wrap (x3_2 * 2)) 4294967296) 79764919 t153 _ A7.out).mono ?_); rintro e w' ⟨rfl, ⟨nd, rfl⟩⟩; refine ⟨_, rfl, ?_⟩))
                    go_roundg k2
                    case measure => have := HK1.out; have := HK2.out; omega
                    case rel => exact ⟨(t153), (Int.tmod (wrap64 (x5_2 * 2)) 256), (wrap64 (x6_2 + 1)), (by first | rfl | (simp; done) | (simp [*]; done)), (by first | rfl | (simp; done) | (simp [*]; done)), (by first | rfl | (simp; done) | (simp [*]; done)), H', ⟨by have := HK1.out; have := HK2.out; omega⟩, by repeat (first | exact Drawn0.refl _ | apply Drawn0.step)⟩
                  · rw [if_neg c6] at H
                    have c6b0 : ((decide (x3_2 ≥ 2147483648)) != (decide (x5_2 ≥ 128))) = false := by simpa using c6
                    (try (have c6b1 : decide ((decide (x3_2 ≥ 2147483648)) = (decide (x5_2 ≥ 128))) = true := by simpa using c6))
                    (try (have c6b2 : ((decide (x3_2 ≥ 2147483648)) == (decide (x5_2 ≥ 128))) = true := by simpa using c6))
                    clear c6
                    have H' := Aside0.mk H
                    clear H
                    go_wp2
                    go_roundg k2
                    case measure => have := HK1.out; have := HK2.out; omega
                    case rel => exact ⟨(Int.tmod (IntKind.u64.wrap (x3_2 * 2)) 4294967296), (Int.tmod (wrap64 (x5_2 * 2)) 256), (wrap64 (x6_2 + 1)), (by first | rfl | (simp; done) | (simp [*]; done)), (by first | rfl | (simp; done) | (simp [*]; done)), (by first | rfl | (simp; done) | (simp [*]; done)), H', ⟨by have := HK1.out; have := HK2.out; omega⟩, by repeat (first | exact Drawn0.refl _ | apply Drawn0.step)⟩
                · rw [if_neg c5] at H
                  have c5b0 : decide (x6_2 < 8) = false := decide_eq_false c5
                  clear c5
                  have H' := Aside0.mk H
                  clear H
                  go_wp2
                  go_roundg k2
                  case measure => have := HK1.out; have := HK2.out; omega
                  case rel => exact ⟨(x3_2), (wrap64 (x11_1 + 1)), (by first | rfl | (simp; done) | (simp [*]; done)), (by first | rfl | (simp; done) | (simp [*]; done)), H', ⟨by have := HK1.out; have := HK2.out; omega⟩, by repeat (first | exact Drawn0.refl _ | apply Drawn0.step)⟩
          · rw [if_neg c4] at H
            exact absurd H (by simp)
        · rw [if_neg c3] at H
          exact absurd H (by simp)
      · rw [if_neg c2] at H
        have c2b0 : decide (x11_1 < (l0.length : Int)) = false := decide_eq_false c2
        clear c2
        obtain rfl := Option.some.inj H
        go_wp2
        go_ret
        exact ⟨by first | rfl | (simp; done) | (simp [*]; done), by repeat (first | exact Drawn0.refl _ | apply Drawn0.step)⟩

/-! ### stilelaw13_few: function 24 -/
def stilelaw13_few.l0 : Nat → List (S59) → List (S59) → Int → Int → Option (Bool)
  | 0, _, _, _, _ => none
  | k + 1, x0, x5, x6, x7 => if x7 < x6 then (if 0 ≤ x7 then (if x7 < (x5.length : Int) then (if (((rd_T59 x5 x7).f2).length : Int) > 600 then (some false) else (if (((rd_T59 x5 x7).f3).length : Int) > 200 then (some false) else (stilelaw13_few.l0 k x0 x5 x6 (wrap64 (x7 + 1))))) else (none)) else (none)) else (some (decide ((x0.length : Int) ≤ 40)))
def stilelaw13_few.f (k : Nat) (l0 : List (S59)) : Option (Bool) := stilelaw13_few.l0 k l0 l0 (l0.length : Int) 0
theorem stilelaw13_few.mono_l : ∀ k, (∀ y0 y1 y2 y3, LeO (stilelaw13_few.l0 k y0 y1 y2 y3) (stilelaw13_few.l0 (k + 1) y0 y1 y2 y3))
  | 0 => fun _ _ _ _ r h => by simp [stilelaw13_few.l0] at h
  | k + 1 => by
    have ih0 := stilelaw13_few.mono_l k
    · intro y0 y1 y2 y3
      unfold stilelaw13_few.l0
      repeat' first
      | (with_reducible exact ih0 _ _ _ _)
      | (with_reducible exact LeO.refl _)
      | (with_reducible exact LeO.none _)
      | (with_reducible refine LeO.ite ?_ ?_)
      | (with_reducible refine LeO.bind ?_ (fun _ => ?_))
      | exact ih0 _ _ _ _
      | exact LeO.none _
      | refine LeO.ite ?_ ?_
      | refine LeO.bind ?_ (fun _ => ?_)
theorem stilelaw13_few.mono : ∀ a0 k, LeO (stilelaw13_few.f k a0) (stilelaw13_few.f (k + 1) a0) := by
  intro a0 k
  have ih0 := stilelaw13_few.mono_l k
  unfold stilelaw13_few.f
  repeat' first
      | (with_reducible exact ih0 _ _ _ _)
      | (with_reducible exact LeO.refl _)
      | (with_reducible exact LeO.none _)
      | (with_reducible refine LeO.ite ?_ ?_)
      | (with_reducible refine LeO.bind ?_ (fun _ => ?_))
      | exact ih0 _ _ _ _
      | exact LeO.none _
      | refine LeO.ite ?_ ?_
      | refine LeO.bind ?_ (fun _ => ?_)
set_option maxHeartbeats 8000000 in
set_option maxRecDepth 100000 in
theorem stilelaw13_few.calls (k : Nat) (A0 : Option Addr) (c0 : Nat) (l0 : List (S59)) (r : Bool) (w : World) (hr0 : Kd.C k59 w A0 l0.length l0) (hc0 : l0.length ≤ c0) (h : stilelaw13_few.f k l0 = some r) :
    Calls Try.prog 24 #[.slice A0 l0.length c0] w fun e w' => e = .returned (.bool r) ∧ Below w.heap.size w w' := by
  have hu59 := Try.underlying59
  have HR0 := Aside0.mk hr0
  have HC0 := Aside0.mk hc0
  clear hr0 hc0
  have HB := Aside0.mk (Below.refl w.heap.size w)
  have H : (stilelaw13_few.l0 k l0 l0 (l0.length : Int) 0) = some r := h
  clear h
  have H' := Aside0.mk H
  clear H
  go_enter Try.func24, Try.ntmps24
  go_wp2
  go_loopg [7] k (fun kq v7 w' => ∃ (x7_1 : Int), v7 = .int .i64 x7_1 ∧ Aside0 (stilelaw13_few.l0 kq l0 l0 (l0.length : Int) x7_1 = some r) ∧ Aside0 (kq ≤ k) ∧ Aside0 (Below w.heap.size w w'))
  case atStart => exact ⟨(0), (by first | rfl | (simp; done) | (simp [*]; done)), H', ⟨Nat.le_refl _⟩, ⟨by repeat (first | (with_reducible first | exact HB.out | apply below_alloc | apply pw_below_drewN | apply below_drew1) | exact HB.out)⟩⟩
  case round =>
    clear H'
    obtain ⟨x7_1, rfl, HA, HK1, HB⟩ := hrel
    cases gk with
    | zero => exact absurd HA.out (by simp [stilelaw13_few.l0])
    | succ k1 =>
      have H := HA.out
      clear HA
      simp only [stilelaw13_few.l0] at H
      by_cases c2 : x7_1 < (l0.length : Int)
      · rw [if_pos c2] at H
        have c2b0 : decide (x7_1 < (l0.length : Int)) = true := decide_eq_true c2
        clear c2
        by_cases c3 : 0 ≤ x7_1
        · rw [if_pos c3] at H
          have c3b0 : decide (0 ≤ x7_1) = true := decide_eq_true c3
          clear c3
          by_cases c4 : x7_1 < (l0.length : Int)
          · rw [if_pos c4] at H
            have c4b0 : decide (x7_1 < (l0.length : Int)) = true := decide_eq_true c4
            clear c4
            by_cases c5 : (((rd_T59 l0 x7_1).f2).length : Int) > 600
            · rw [if_pos c5] at H
              have c5b0 : decide (600 < (((rd_T59 l0 x7_1).f2).length : Int)) = true := decide_eq_true c5
              have c5b1 : decide (600 < ((rd_T59 l0 x7_1).f2).length) = true := decide_eq_true (by omega)
              clear c5
              obtain rfl := Option.some.inj H
              have p156 : 0 ≤ (x7_1 : Int) := of_decide_eq_true (by first | (with_reducible assumption) | assumption)
              have q156 : x7_1 < (l0.length : Int) := of_decide_eq_true (by first | (with_reducible assumption) | assumption)
              obtain ⟨ad156, A156_2, c156_2, A156_3, c156_3, e156, hx156_0, hx156_1, hx156_2, hx156_3, hl156_2, hi156_2, hl156_3, hi156_3⟩ := at_T59 HR0.out x7_1 p156 q156
              cases e156
              replace hx156_0 := (HB.out.cell (World.block_lt_of_cell? w _ hx156_0)).trans hx156_0
              replace hx156_1 := (HB.out.cell (World.block_lt_of_cell? w _ hx156_1)).trans hx156_1
              replace hx156_2 := (HB.out.cell (World.block_lt_of_cell? w _ hx156_2)).trans hx156_2
              replace hx156_3 := (HB.out.cell (World.block_lt_of_cell? w _ hx156_3)).trans hx156_3
              have HR156_2 := Aside0.mk hi156_2
              have HC156_2 := Aside0.mk hl156_2
              clear hi156_2 hl156_2
              have HR156_3 := Aside0.mk hi156_3
              have HC156_3 := Aside0.mk hl156_3
              clear hi156_3 hl156_3
              replace p156 := eq_true p156
              replace q156 := eq_true q156
              go_wp2_with (first | ((with_reducible refine gate_dst (N := 4) rfl ?_); (try (refine gate_guard (by rfl) ?_; dsimp only)); refine box_event ?hg (N := 4) ?hd (cs := #[.int .i64 0, .int .i64 0, .slice none 0 0, .slice none 0 0]) (t := 59) ?hr ?_; (case hd => rfl); (case hg => rfl); (case hr => first | (go_simp; done) | (go_simp; rfl)); intro gb157 hg w6 hbox hb; have n0_ := Aside0.mk (below_step (by repeat (first | (with_reducible first | exact HB.out | apply below_alloc | apply pw_below_drewN | apply below_drew1) | exact HB.out)) hb); have n1_ := Aside0.mk (hbox); have n2_ := Aside0.mk ((by rw [hg]; exact (below_size (by repeat (first | (with_reducible first | exact HB.out | apply below_alloc | apply pw_below_drewN | apply below_drew1) | exact HB.out))) : w.heap.size ≤ gb157)); have n3_ := Aside0.mk ((by rw [hg]; exact (below_size (by repeat (first | (with_reducible first | exact HB.out | apply below_alloc | apply pw_below_drewN | apply below_drew1) | exact HB.out))) : w.heap.size ≤ gb157)); clear HB; have HB := n0_; have BK157 := n1_; have GW157 := n2_; have GE157 := n3_; clear n0_ n1_ n2_ n3_; clear hb hbox hg; have hcz7_0 : w6.cell? ⟨gb157, 0, none⟩ = some (.int .i64 0) := (blk_cell BK157.out 0).trans rfl; have hcz7_1 : w6.cell? ⟨gb157, 1, none⟩ = some (.int .i64 0) := (blk_cell BK157.out 1).trans rfl; have hcz7_2 : w6.cell? ⟨gb157, 2, none⟩ = some (.slice none 0 0) := (blk_cell BK157.out 2).trans rfl; have hcz7_3 : w6.cell? ⟨gb157, 3, none⟩ = some (.slice none 0 0) := (blk_cell BK157.out 3).trans rfl; have hfz7_0 := blk_frozen BK157.out 0; have hfz7_1 := blk_frozen BK157.out 1; have hfz7_2 := blk_frozen BK157.out 2; have hfz7_3 := blk_frozen BK157.out 3))
              go_ret
              exact ⟨by first | rfl | (simp [errW_none, errW_some] <;> rfl) | (simp [*, errW_none, errW_some] <;> rfl), by repeat (first | (with_reducible first | exact HB.out | apply below_alloc | apply pw_below_drewN | apply below_drew1 | refine below_set ?_ GE157.out) | exact HB.out)⟩
            · rw [if_neg c5] at H
              have c5b0 : decide (600 < (((rd_T59 l0 x7_1).f2).length : Int)) = false := decide_eq_false c5
              have c5b1 : decide (600 < ((rd_T59 l0 x7_1).f2).length) = false := decide_eq_false (by omega)
              clear c5
              by_cases c8 : (((rd_T59 l0 x7_1).f3).length : Int) > 200
              · rw [if_pos c8] at H
                have c8b0 : decide (200 < (((rd_T59 l0 x7_1).f3).length : Int)) = true := decide_eq_true c8
                have c8b1 : decide (200 < ((rd_T59 l0 x7_1).f3).length) = true := decide_eq_true (by omega)
                clear c8
                obtain rfl := Option.some.inj H
                have p156 : 0 ≤ (x7_1 : Int) := of_decide_eq_true (by first | (with_reducible assumption) | assumption)
                have q156 : x7_1 < (l0.length : Int) := of_decide_eq_true (by first | (with_reducible assumption) | assumption)
                obtain ⟨ad156, A156_2, c156_2, A156_3, c156_3, e156, hx156_0, hx156_1, hx156_2, hx156_3, hl156_2, hi156_2, hl156_3, hi156_3⟩ := at_T59 HR0.out x7_1 p156 q156
                cases e156
                replace hx156_0 := (HB.out.cell (World.block_lt_of_cell? w _ hx156_0)).trans hx156_0
                replace hx156_1 := (HB.out.cell (World.block_lt_of_cell? w _ hx156_1)).trans hx156_1
                replace hx156_2 := (HB.out.cell (World.block_lt_of_cell? w _ hx156_2)).trans hx156_2
                replace hx156_3 := (HB.out.cell (World.block_lt_of_cell? w _ hx156_3)).trans hx156_3
                have HR156_2 := Aside0.mk hi156_2
                have HC156_2 := Aside0.mk hl156_2
                clear hi156_2 hl156_2
                have HR156_3 := Aside0.mk hi156_3
                have HC156_3 := Aside0.mk hl156_3
                clear hi156_3 hl156_3
                replace p156 := eq_true p156
                replace q156 := eq_true q156
                go_wp2_with (first | ((with_reducible refine gate_dst (N := 4) rfl ?_); (try (refine gate_guard (by rfl) ?_; dsimp only)); refine box_event ?hg (N := 4) ?hd (cs := #[.int .i64 0, .int .i64 0, .slice none 0 0, .slice none 0 0]) (t := 59) ?hr ?_; (case hd => rfl); (case hg => rfl); (case hr => first | (go_simp; done) | (go_simp; rfl)); intro gb157 hg w9 hbox hb; have n0_ := Aside0.mk (below_step (by repeat (first | (with_reducible first | exact HB.out | apply below_alloc | apply pw_below_drewN | apply below_drew1) | exact HB.out)) hb); have n1_ := Aside0.mk (hbox); have n2_ := Aside0.mk ((by rw [hg]; exact (below_size (by repeat (first | (with_reducible first | exact HB.out | apply below_alloc | apply pw_below_drewN | apply below_drew1) | exact HB.out))) : w.heap.size ≤ gb157)); have n3_ := Aside0.mk ((by rw [hg]; exact (below_size (by repeat (first | (with_reducible first | exact HB.out | apply below_alloc | apply pw_below_drewN | apply below_drew1) | exact HB.out))) : w.heap.size ≤ gb157)); clear HB; have HB := n0_; have BK157 := n1_; have GW157 := n2_; have GE157 := n3_; clear n0_ n1_ n2_ n3_; clear hb hbox hg; have hcz10_0 : w9.cell? ⟨gb157, 0, none⟩ = some (.int .i64 0) := (blk_cell BK157.out 0).trans rfl; have hcz10_1 : w9.cell? ⟨gb157, 1, none⟩ = some (.int .i64 0) := (blk_cell BK157.out 1).trans rfl; have hcz10_2 : w9.cell? ⟨gb157, 2, none⟩ = some (.slice none 0 0) := (blk_cell BK157.out 2).trans rfl; have hcz10_3 : w9.cell? ⟨gb157, 3, none⟩ = some (.slice none 0 0) := (blk_cell BK157.out 3).trans rfl; have hfz10_0 := blk_frozen BK157.out 0; have hfz10_1 := blk_frozen BK157.out 1; have hfz10_2 := blk_frozen BK157.out 2; have hfz10_3 := blk_frozen BK157.out 3))
                go_ret
                exact ⟨by first | rfl | (simp [errW_none, errW_some] <;> rfl) | (simp [*, errW_none, errW_some] <;> rfl), by repeat (first | (with_reducible first | exact HB.out | apply below_alloc | apply pw_below_drewN | apply below_drew1 | refine below_set ?_ GE157.out) | exact HB.out)⟩
              · rw [if_neg c8] at H
                have c8b0 : decide (200 < (((rd_T59 l0 x7_1).f3).length : Int)) = false := decide_eq_false c8
                have c8b1 : decide (200 < ((rd_T59 l0 x7_1).f3).length) = false := decide_eq_false (by omega)
                clear c8
                have H' := Aside0.mk H
                clear H
                have p156 : 0 ≤ (x7_1 : Int) := of_decide_eq_true (by first | (with_reducible assumption) | assumption)
                have q156 : x7_1 < (l0.length : Int) := of_decide_eq_true (by first | (with_reducible assumption) | assumption)
                obtain ⟨ad156, A156_2, c156_2, A156_3, c156_3, e156, hx156_0, hx156_1, hx156_2, hx156_3, hl156_2, hi156_2, hl156_3, hi156_3⟩ := at_T59 HR0.out x7_1 p156 q156
                cases e156
                replace hx156_0 := (HB.out.cell (World.block_lt_of_cell? w _ hx156_0)).trans hx156_0
                replace hx156_1 := (HB.out.cell (World.block_lt_of_cell? w _ hx156_1)).trans hx156_1
                replace hx156_2 := (HB.out.cell (World.block_lt_of_cell? w _ hx156_2)).trans hx156_2
                replace hx156_3 := (HB.out.cell (World.block_lt_of_cell? w _ hx156_3)).trans hx156_3
                have HR156_2 := Aside0.mk hi156_2
                have HC156_2 := Aside0.mk hl156_2
                clear hi156_2 hl156_2
                have HR156_3 := Aside0.mk hi156_3
                have HC156_3 := Aside0.mk hl156_3
                clear hi156_3 hl156_3
                replace p156 := eq_true p156
                replace q156 := eq_true q156
                go_wp2_with (first | ((with_reducible refine gate_dst (N := 4) rfl ?_); (try (refine gate_guard (by rfl) ?_; dsimp only)); refine box_event ?hg (N := 4) ?hd (cs := #[.int .i64 0, .int .i64 0, .slice none 0 0, .slice none 0 0]) (t := 59) ?hr ?_; (case hd => rfl); (case hg => rfl); (case hr => first | (go_simp; done) | (go_simp; rfl)); intro gb157 hg w11 hbox hb; have n0_ := Aside0.mk (below_step (by repeat (first | (with_reducible first | exact HB.out | apply below_alloc | apply pw_below_drewN | apply below_drew1) | exact HB.out)) hb); have n1_ := Aside0.mk (hbox); have n2_ := Aside0.mk ((by rw [hg]; exact (below_size (by repeat (first | (with_reducible first | exact HB.out | apply below_alloc | apply pw_below_drewN | apply below_drew1) | exact HB.out))) : w.heap.size ≤ gb157)); have n3_ := Aside0.mk ((by rw [hg]; exact (below_size (by repeat (first | (with_reducible first | exact HB.out | apply below_alloc | apply pw_below_drewN | apply below_drew1) | exact HB.out))) : w.heap.size ≤ gb157)); clear HB; have HB := n0_; have BK157 := n1_; have GW157 := n2_; have GE157 := n3_; clear n0_ n1_ n2_ n3_; clear hb hbox hg; have hcz12_0 : w11.cell? ⟨gb157, 0, none⟩ = some (.int .i64 0) := (blk_cell BK157.out 0).trans rfl; have hcz12_1 : w11.cell? ⟨gb157, 1, none⟩ = some (.int .i64 0) := (blk_cell BK157.out 1).trans rfl; have hcz12_2 : w11.cell? ⟨gb157, 2, none⟩ = some (.slice none 0 0) := (blk_cell BK157.out 2).trans rfl; have hcz12_3 : w11.cell? ⟨gb157, 3, none⟩ = some (.slice none 0 0) := (blk_cell BK157.out 3).trans rfl; have hfz12_0 := blk_frozen BK157.out 0; have hfz12_1 := blk_frozen BK157.out 1; have hfz12_2 := blk_frozen BK157.out 2; have hfz12_3 := blk_frozen BK157.out 3))
                go_roundg k1
                case measure => have := HK1.out; omega
                case rel => exact ⟨(wrap64 (x7_1 + 1)), (by first | rfl | (simp; done) | (simp [*]; done)), H', ⟨by have := HK1.out; omega⟩, ⟨by repeat (first | (with_reducible first | exact HB.out | apply below_alloc | apply pw_below_drewN | apply below_drew1 | refine below_set ?_ GE157.out) | exact HB.out)⟩⟩
          · rw [if_neg c4] at H
            exact absurd H (by simp)
        · rw [if_neg c3] at H
          exact absurd H (by simp)
      · rw [if_neg c2] at H
        have c2b0 : decide (x7_1 < (l0.length : Int)) = false := decide_eq_false c2
        clear c2
        obtain rfl := Option.some.inj H
        go_wp2
        go_ret
        exact ⟨by first | rfl | (simp [errW_none, errW_some] <;> rfl) | (simp [*, errW_none, errW_some] <;> rfl), by repeat (first | (with_reducible first | exact HB.out | apply below_alloc | apply pw_below_drewN | apply below_drew1) | exact HB.out)⟩

/-! ### spool_pieces: function 40 -/
def spool_pieces.f (l0 : List Int) : Option (Int) := some (mx 1 (wrap64 (Int.tdiv (wrap64 ((wrap64 ((l0.length : Int) + 108)) - 1)) 108)))
set_option maxHeartbeats 8000000 in
set_option maxRecDepth 100000 in
theorem spool_pieces.calls (A0 : Option Addr) (c0 : Nat) (l0 : List Int) (r : Int) (w : World) (hr0 : Kd.C (Kd.int .u8) w A0 l0.length l0) (hc0 : l0.length ≤ c0) (h : spool_pieces.f l0 = some r) :
    Calls Try.prog 40 #[.slice A0 l0.length c0] w fun e w' => e = .returned (.int .i64 r) ∧ Below w.heap.size w w' := by
  have HR0 := Aside0.mk hr0
  have HC0 := Aside0.mk hc0
  clear hr0 hc0
  have HB := Aside0.mk (Below.refl w.heap.size w)
  have H : (some (mx 1 (wrap64 (Int.tdiv (wrap64 ((wrap64 ((l0.length : Int) + 108)) - 1)) 108)))) = some r := h
  clear h
  obtain ⟨ji2, hji2⟩ : ∃ j_ : Int, (mx 1 (wrap64 (Int.tdiv (wrap64 ((wrap64 ((l0.length : Int) + 108)) - 1)) 108))) = j_ := ⟨_, rfl⟩
  replace H : (some ji2) = some r := by first | (rw [hji2] at H; exact H) | (simp only [hji2] at H ⊢; exact H)
  (try (have hji2l : 1 ≤ ji2 := by (rw [← hji2]; unfold mx; (repeat' split) <;> omega)))
  (try (have hji2m : 0 ≤ ji2 := by omega))
  have hji2_ : (if 1 < (wrap64 (Int.tdiv (wrap64 ((wrap64 ((l0.length : Int) + 108)) - 1)) 108)) then (wrap64 (Int.tdiv (wrap64 ((wrap64 ((l0.length : Int) + 108)) - 1)) 108)) else 1) = ji2 := hji2
  obtain rfl := Option.some.inj H
  go_enter Try.func40, Try.ntmps40
  go_wp2
  go_ret
  exact ⟨by first | rfl | (simp [errW_none, errW_some] <;> rfl) | (simp only [← hji2]; first | rfl | (simp [errW_none, errW_some] <;> rfl)) | (simp [*, errW_none, errW_some] <;> rfl), by repeat (first | (with_reducible first | exact HB.out | apply below_alloc | apply pw_below_drewN | apply below_drew1) | exact HB.out)⟩


end Go.Proofs.Ytddhngalokmdoaa.PSpoolPlays

/- Pieces of a spool, plainly: the bytes of a piece, and the piece of bytes. What the printed functions come to. -/
namespace Go.Proofs.Ytddhngalokmdoaa.Spo
open Go.RowKit Go.Proofs.YtddhngalokmdoaaW.PrintWords Go.Proofs.YtddhngalokmdoaaW.PrintLast Go.Proofs.YtddhngalokmdoaaW.PrintMore Go.Proofs.Ytddhngalokmdoaa.Arr Go.Proofs.Ytddhngalokmdoaa.PSpoolPlays
set_option linter.unusedVariables false
set_option linter.unusedSimpArgs false

def numV (l : List Int) : Int := l.foldl (fun n c => n * 256 + c) 0
def bigV (n : Int) : Nat → List Int
  | 0 => []
  | k + 1 => n / 256 ^ k % 256 :: bigV n k
structure PieceV where
  epoch : Int
  number : Int
  at_ : Int
  of : Int
  b : List Int
def headV (p : PieceV) : List Int := 83 :: (bigV p.epoch 4 ++ bigV p.number 6 ++ bigV p.at_ 2 ++ bigV p.of 2 ++ [(p.b.length : Int) % 256])
def bodyV (p : PieceV) : List Int := headV p ++ p.b ++ List.replicate (108 - p.b.length) 0
def bytesV (p : PieceV) : List Int := bodyV p ++ bigV (sumV (bodyV p)) 4
def sizeV (bs : List Int) : Int := rd bs 15
def pieceV (bs : List Int) : PieceV := ⟨numV ((bs.drop 1).take 4), numV ((bs.drop 5).take 6), numV ((bs.drop 11).take 2), numV ((bs.drop 13).take 2), (bs.drop 16).take (sizeV bs).toNat⟩
def okV (bs : List Int) : Bool := decide (sizeV bs ≤ 108) && !(decide ((pieceV bs).of ≤ (pieceV bs).at_) || (decide ((pieceV bs).at_ < (pieceV bs).of - 1) && decide (sizeV bs < 108))) && decide (bs = bytesV (pieceV bs))
theorem bigV_length (n : Int) : ∀ k, (bigV n k).length = k
  | 0 => rfl
  | k + 1 => by simp [bigV, bigV_length n k]
theorem bigV_bytes (n : Int) : ∀ k, Bytes (bigV n k)
  | 0 => fun x hx => by cases hx
  | k + 1 => fun x hx => by
    rcases List.mem_cons.1 hx with rfl | hx
    · omega
    · exact bigV_bytes n k x hx
theorem headV_length (p : PieceV) : (headV p).length = 16 := by simp [headV, bigV_length]
theorem bodyV_length {p : PieceV} (h : p.b.length ≤ 108) : (bodyV p).length = 124 := by simp [bodyV, headV_length]; omega
theorem bytesV_length {p : PieceV} (h : p.b.length ≤ 108) : (bytesV p).length = 128 := by simp [bytesV, bodyV_length h, bigV_length]
theorem Bytes.append {a b : List Int} (ha : Bytes a) (hb : Bytes b) : Bytes (a ++ b) := fun x hx => (List.mem_append.1 hx).elim (ha x) (hb x)
theorem Bytes.zeros (n : Nat) : Bytes (List.replicate n 0) := fun x hx => by rw [(List.mem_replicate.1 hx).2]; decide
theorem Bytes.nil : Bytes [] := fun x hx => by cases hx
theorem Bytes.cons {x : Int} {l : List Int} (h0 : 0 ≤ x) (h1 : x < 256) (hl : Bytes l) : Bytes (x :: l) := fun y hy => (List.mem_cons.1 hy).elim (fun e => by subst e; exact ⟨h0, h1⟩) (hl y)
theorem Bytes.take {l : List Int} (h : Bytes l) (n : Nat) : Bytes (l.take n) := fun x hx => h x (List.mem_of_mem_take hx)
theorem Bytes.drop {l : List Int} (h : Bytes l) (n : Nat) : Bytes (l.drop n) := fun x hx => h x (List.mem_of_mem_drop hx)
theorem headV_bytes (p : PieceV) : Bytes (headV p) := by
  unfold headV
  exact Bytes.cons (by decide) (by decide) (((((bigV_bytes _ _).append (bigV_bytes _ _)).append (bigV_bytes _ _)).append (bigV_bytes _ _)).append (Bytes.cons (by omega) (by omega) Bytes.nil))
theorem bodyV_bytes {p : PieceV} (h : Bytes p.b) : Bytes (bodyV p) := ((headV_bytes p).append h).append (Bytes.zeros _)
theorem bytesV_bytes {p : PieceV} (h : Bytes p.b) : Bytes (bytesV p) := (bodyV_bytes h).append (bigV_bytes _ _)
theorem sumV_range {l : List Int} (h : Bytes l) : 0 ≤ sumV l ∧ sumV l < 4294967296 := by
  have := sumN_lt l 4294967295 h (by decide)
  unfold sumV
  omega
/-! ### numbers -/
theorem or_add (x y : Nat) (hx : x < 281474976710656) (hy : y < 256) : Go.bits .or .i64 ((x : Int) * 256) (y : Int) = ((x * 256 + y : Nat) : Int) := by
  have e0 : (x : Int) * 256 = ((x * 256 : Nat) : Int) := by omega
  rw [e0]
  unfold Go.bits
  have b1 : (BitVec.ofInt IntKind.i64.bits ((x * 256 : Nat) : Int)) = BitVec.ofNat 64 (x * 256) := by rw [BitVec.ofInt_natCast]; rfl
  have b2 : (BitVec.ofInt IntKind.i64.bits (y : Int)) = BitVec.ofNat 64 y := by rw [BitVec.ofInt_natCast]; rfl
  simp only [b1, b2]
  have e1 : ((BitVec.ofNat 64 (x * 256) ||| BitVec.ofNat 64 y).toNat : Nat) = x * 256 + y := by
    rw [BitVec.toNat_or, BitVec.toNat_ofNat, BitVec.toNat_ofNat, Nat.mod_eq_of_lt (by omega), Nat.mod_eq_of_lt (by omega)]
    have := Nat.shiftLeft_add_eq_or_of_lt (a := x) (b := y) (i := 8) (by omega)
    rw [Nat.shiftLeft_eq] at this
    exact this.symm
  refine (congrArg (fun n : Nat => IntKind.i64.wrap (n : Int)) e1).trans ?_
  exact IntWalk.i64_in _ (by omega)
theorem number_ev (l : List Int) (hB : Bytes l) (hl : l.length ≤ 6) : ∀ (d i k : Nat) (n : Int), i + d = l.length → 0 ≤ n → n < 256 ^ i → d + 1 ≤ k → spool_number.l0 k n l (l.length : Int) (i : Int) = some ((l.drop i).foldl (fun n c => n * 256 + c) n)
  | 0, i, k + 1, n, hi, hn0, hn, hk => by
    simp only [spool_number.l0]
    rw [if_neg (by omega), List.drop_eq_nil_of_le (by omega)]
    rfl
  | d + 1, i, k + 1, n, hi, hn0, hn, hk => by
    have hil : i < l.length := by omega
    obtain ⟨h1, h2⟩ := hB.rd i hil
    have h3 := hB _ (List.getElem_mem hil)
    have h5 : (256 : Int) ^ i ≤ 256 ^ 5 := by
      have h4 : i ≤ 5 := by omega
      match i, h4 with
      | 0, _ => decide
      | 1, _ => decide
      | 2, _ => decide
      | 3, _ => decide
      | 4, _ => decide
      | 5, _ => decide
      | i + 6, h => omega
    have h6 : (256 : Int) ^ 5 = 1099511627776 := by decide
    obtain ⟨x, rfl⟩ : ∃ x : Nat, n = (x : Int) := ⟨n.toNat, by omega⟩
    simp only [spool_number.l0]
    rw [if_pos (by omega), if_pos (by omega), if_pos (by omega), h1, w64s _ (by omega) (by omega), w64s _ (by omega) (by omega), or_add x _ (by omega) h2, w64s _ (by omega) (by omega), show (i : Int) + 1 = ((i + 1 : Nat) : Int) by omega]
    have e : (((x * 256 + l[i].toNat : Nat)) : Int) = (x : Int) * 256 + l[i] := by omega
    rw [e, number_ev l hB hl d (i + 1) k _ (by omega) (by omega) (by rw [Int.pow_succ]; omega) (by omega), List.drop_eq_getElem_cons hil]
    rfl
theorem number_f (l : List Int) (hB : Bytes l) (hl : l.length ≤ 6) : spool_number.f 9 l = some (numV l) := by
  have := number_ev l hB hl l.length 0 9 0 (by omega) (by decide) (by decide) (by omega)
  rw [List.drop_zero] at this
  exact this
theorem big_ev (n : Int) : ∀ (d k : Nat) (l : List Int), d ≤ 6 → l.length + d ≤ 1000 → d + 1 ≤ k → spool_big.l0 k l n (d : Int) = some (l ++ bigV n d)
  | 0, k + 1, l, hd, hl, hk => by
    simp only [spool_big.l0]
    rw [if_neg (by omega)]
    simp [bigV]
  | d + 1, k + 1, l, hd, hl, hk => by
    simp only [spool_big.l0]
    rw [w64s (((d + 1 : Nat) : Int) - 1) (by omega) (by omega), show (((d + 1 : Nat) : Int) - 1) = (d : Int) by omega, w64s _ (by omega) (by omega), if_pos (by omega), if_pos (by omega), if_pos (by omega)]
    have e : shr .i64 n (8 * (d : Int)) = n / 256 ^ d := by
      unfold shr
      have : min (8 * (d : Int)).toNat IntKind.i64.bits = 8 * d := by show min _ 64 = _; omega
      rw [this, Int.pow_mul]
      rfl
    rw [e, big_ev n d k _ (by omega) (by simp; omega) (by omega), List.append_assoc]
    rfl
theorem big_f (n : Int) (d : Nat) (l : List Int) (hd : d ≤ 6) (hl : l.length ≤ 990) (k : Nat) (hk : 8 ≤ k) : spool_big.f k l n (d : Int) = some (l ++ bigV n d) := big_ev n d k l hd (by omega) (by omega)
theorem big_f2 (n : Int) (l : List Int) (hl : l.length ≤ 990) (k : Nat) (hk : 8 ≤ k) : spool_big.f k l n 2 = some (l ++ bigV n 2) := big_f n 2 l (by decide) hl k hk
theorem big_f4 (n : Int) (l : List Int) (hl : l.length ≤ 990) (k : Nat) (hk : 8 ≤ k) : spool_big.f k l n 4 = some (l ++ bigV n 4) := big_f n 4 l (by decide) hl k hk
theorem big_f6 (n : Int) (l : List Int) (hl : l.length ≤ 990) (k : Nat) (hk : 8 ≤ k) : spool_big.f k l n 6 = some (l ++ bigV n 6) := big_f n 6 l (by decide) hl k hk
theorem pieces_f (l : List Int) (hl : l.length ≤ 1000000000) : spool_pieces.f l = some (max 1 (((l.length : Int) + 107) / 108)) := by
  unfold spool_pieces.f
  rw [w64s ((l.length : Int) + 108) (by omega) (by omega), w64s ((l.length : Int) + 108 - 1) (by omega) (by omega), Int.tdiv_eq_ediv_of_nonneg (by omega), w64s _ (by omega) (by omega), show (l.length : Int) + 108 - 1 = l.length + 107 by omega]
  congr 1
  unfold mx
  split <;> omega
theorem equal_ev (a b : List Int) (hl : a.length = b.length) (ha : a.length ≤ 1000000000) : ∀ (d i k : Nat), i + d = a.length → d + 1 ≤ k → slices_Equal_byte_byte.l0 k a b (a.length : Int) (i : Int) = some (decide (a.drop i = b.drop i))
  | 0, i, k + 1, hi, hk => by
    simp only [slices_Equal_byte_byte.l0]
    rw [if_neg (by omega), List.drop_eq_nil_of_le (by omega), List.drop_eq_nil_of_le (by omega)]
    rfl
  | d + 1, i, k + 1, hi, hk => by
    have hia : i < a.length := by omega
    have hib : i < b.length := by omega
    simp only [slices_Equal_byte_byte.l0]
    have r1 : rd a (i : Int) = a[i] := by unfold Go.Proofs.YtddhngalokmdoaaW.PrintWords.rd; rw [Int.toNat_natCast, List.getD, List.getElem?_eq_getElem hia, Option.getD_some]
    have r2 : rd b (i : Int) = b[i] := by unfold Go.Proofs.YtddhngalokmdoaaW.PrintWords.rd; rw [Int.toNat_natCast, List.getD, List.getElem?_eq_getElem hib, Option.getD_some]
    rw [if_pos (by omega), if_pos (by omega), if_pos (by omega), if_pos (by omega), r1, r2, w64s _ (by omega) (by omega), show (i : Int) + 1 = ((i + 1 : Nat) : Int) by omega, List.drop_eq_getElem_cons hia, List.drop_eq_getElem_cons hib]
    by_cases h : a[i] = b[i]
    · rw [if_pos h, equal_ev a b hl ha d (i + 1) k (by omega) (by omega), h]
      exact congrArg some (decide_eq_decide.2 ⟨fun e => by rw [e], fun e => (List.cons.inj e).2⟩)
    · rw [if_neg h]
      exact congrArg some (decide_eq_false (fun e => h (List.cons.inj e).1)).symm
theorem equal_f (a b : List Int) (ha : a.length ≤ 1000000000) : slices_Equal_byte_byte.f (a.length + 1) a b = some (decide (a = b)) := by
  unfold slices_Equal_byte_byte.f
  by_cases hl : a.length = b.length
  · rw [if_pos (by omega)]
    have := equal_ev a b hl ha a.length 0 (a.length + 1) (by omega) (by omega)
    rw [List.drop_zero, List.drop_zero] at this
    exact this
  · rw [if_neg (by omega), decide_eq_false]
    intro h
    exact hl (by rw [h])
theorem bytes_f (p : PieceV) (hb : Bytes p.b) (hl : p.b.length ≤ 108) : spool_piece_bytes.f 1300 p.epoch p.number p.at_ p.of p.b = some (bytesV p) := by
  unfold spool_piece_bytes.f
  have e1 : ([83] ++ bigV p.epoch 4 ++ bigV p.number 6 ++ bigV p.at_ 2 ++ bigV p.of 2 : List Int).length = 15 := by simp [bigV_length]
  rw [big_f4 _ _ (by decide) 1300 (by decide), Option.bind_some, big_f6 _ _ (by simp [bigV_length]) 1300 (by decide), Option.bind_some, big_f2 _ _ (by simp [bigV_length]) 1300 (by decide), Option.bind_some, big_f2 _ _ (by simp [bigV_length]) 1300 (by decide), Option.bind_some, Option.bind_some]
  obtain ⟨h0, hh0⟩ : ∃ h0 : List Int, [83] ++ bigV p.epoch 4 ++ bigV p.number 6 ++ bigV p.at_ 2 ++ bigV p.of 2 = h0 := ⟨_, rfl⟩
  have e2 : h0 ++ [(p.b.length : Int) % 256] = headV p := by rw [← hh0]; simp [headV]
  rw [hh0, if_pos (by rw [← hh0, e1]; simp), Option.bind_some, e2]
  have e3 : (headV p ++ p.b).length = 16 + p.b.length := by simp [headV_length]
  rw [if_pos (by rw [headV_length]; omega), Option.bind_some, e3, w64s _ (by omega) (by omega), if_pos (by omega), if_pos (by omega), Option.bind_some]
  have e4 : headV p ++ p.b ++ List.replicate ((124 : Int) - ((16 + p.b.length : Nat) : Int)).toNat 0 = bodyV p := by
    unfold bodyV
    congr 2
    omega
  rw [e4, sum_f _ (bodyV_bytes hb) (by rw [bodyV_length hl]; decide) 1300 (by rw [bodyV_length hl]; decide), Option.bind_some]
  have := sumV_range (bodyV_bytes hb)
  rw [w64s _ (by omega) (by omega), big_f4 _ _ (by rw [bodyV_length hl]; decide) 1300 (by decide)]
  rfl
theorem right_f (a b n : Int) (h : 0 ≤ n) (hn : n ≤ 4096) : spool_Ring_right.f a b n = some (decide (b ≥ 2) && decide (b ≤ 4096) && decide (a ≥ 0) && decide (a < n) && decide (b ≤ n - a)) := by
  unfold spool_Ring_right.f
  by_cases h1 : b ≥ 2
  · by_cases h2 : b ≤ 4096
    · by_cases h3 : a ≥ 0
      · by_cases h4 : a < n
        · simp [h1, h2, h3, h4, w64s (n - a) (by omega) (by omega)]
        · simp [h1, h2, h3, h4]
      · simp [h1, h2, h3]
    · simp [h1, h2]
  · simp [h1]
end Go.Proofs.Ytddhngalokmdoaa.Spo

/- Regions that draw their order, whose head only reads and calls, the worlds staying in a class; and whose tail comes in one order. Any program. -/
namespace Go.Proofs.Ytddhngalokmdoaa.Qt
open Go.RowKit Go.Proofs.Ytddhngalokmdoaa.Arr
set_option linter.unusedVariables false
set_option linter.unusedSimpArgs false
section
variable {P : Program} {ops : Array Oper} {md : Region.Mode} {C : World → Prop}

/-- The head in any order; then L. -/
def anyHead (P : Program) (md : Region.Mode) (ops : Array Oper) (C : World → Prop) (n : Nat) (L : Array Bool → Act → Prop) : Nat → Array Bool → Act → Prop
  | 0, listed, a => L listed a
  | f + 1, listed, a => Region.ready md ops listed ≠ [] ∧ ∀ i ∈ Region.ready md ops listed, i < n ∧ qOp P ops C i (anyHead P md ops C n L f (listed.setIfInBounds i true)) a

theorem any_of_head {n g : Nat} {L : Array Bool → Act → Prop} {Q' : Exit → Act → World → Prop} (hL : ∀ listed a w, C w → L listed a → wpAny P md ops Q' g listed a w) :
    ∀ (f : Nat) (listed : Array Bool) (a : Act) (w : World), C w → anyHead P md ops C n L f listed a → wpAny P md ops Q' (f + g) listed a w
  | 0, listed, a, w, hw, h => by rw [Nat.zero_add]; exact hL _ _ _ hw h
  | f + 1, listed, a, w, hw, h => by
    rw [show f + 1 + g = (f + g) + 1 by omega]
    exact ⟨fun h0 => absurd h0 h.1, fun i hi => wpOp_of_qOp hw (fun a' w' hw' h' => any_of_head hL f _ a' w' hw' h') (h.2 i hi).2⟩

theorem head_first {n i : Nat} {oi : Oper} {v : Value} {L : Array Bool → Act → Prop} (hi : ops[i]? = some oi) (hsel : ∀ (j : Nat) (o : Oper) cs b, ops[j]? = some o → o.op ≠ .select cs b)
    (hs : Region.sinkB md ops n = true) (hc : Region.chainB md ops n = true) (hn : n < ops.size) (hin : i < n)
    (hdone : ∀ listed a, L listed a → ∀ j ∈ Region.ready md ops listed, n ≤ j) :
    ∀ (f : Nat) (listed : Array Bool) (a : Act), HeadInv md ops n listed →
      (∀ j oj, ops[j]? = some oj → j ≠ i → listed.getD j true = false → (∀ e ∈ oj.after, Region.binds md e = true → e.on ≠ i) → oi.apart ops oj = true) →
      i ∈ Region.ready md ops listed → YieldsIn P ops C oi v a →
      anyHead P md ops C n L f (listed.setIfInBounds i true) (a.put oi.dst v) → anyHead P md ops C n L (f + 1) listed a := by
  intro f
  induction f with
  | zero =>
    intro listed a inv _ hr hy H
    have hun := (mem_ready.1 hr).1
    refine ⟨fun h => (by rw [h] at hr; cases hr), fun j hj => ?_⟩
    have hjn : j < n := (Nat.lt_or_ge j n).resolve_right fun h => absurd hj (tail_waits hs hc hn inv _ i rfl hin hun j h)
    refine ⟨hjn, ?_⟩
    by_cases hji : j = i
    · subst hji; exact hy.qOp hi H
    · have := hdone _ _ H j (ready_mono hj hji)
      omega
  | succ f ih =>
    intro listed a inv hfree hr hy H
    have hun := (mem_ready.1 hr).1
    refine ⟨fun h => (by rw [h] at hr; cases hr), fun j hj => ?_⟩
    have hjn : j < n := (Nat.lt_or_ge j n).resolve_right fun h => absurd hj (tail_waits hs hc hn inv _ i rfl hin hun j h)
    refine ⟨hjn, ?_⟩
    by_cases hji : j = i
    · subst hji; exact hy.qOp hi H
    · have h1 := (H.2 j (ready_mono hj hji)).2
      obtain ⟨hjun, oj, hoj, hall⟩ := mem_ready.1 hj
      have hnot : ∀ e ∈ oj.after, Region.binds md e = true → e.on ≠ i := fun e he hb heq => by
        have h1 := hall e he hb
        rw [heq, getD_both hun] at h1
        cases h1
      have h2 := qOp_put hoj (hfree j oj hoj hji hjun hnot) (fun cs b => hsel i oi cs b hi) (fun cs b => hsel j oj cs b hoj) hy h1
      have hfree' : ∀ k ok, ops[k]? = some ok → k ≠ i → (listed.setIfInBounds j true).getD k true = false →
          (∀ e ∈ ok.after, Region.binds md e = true → e.on ≠ i) → oi.apart ops ok = true := fun k ok hk hki hun' hno => by
        refine hfree k ok hk hki ?_ hno
        by_cases hjk : j = k
        · subst hjk; exact hjun
        · rw [getD_set_ne true hjk] at hun'; exact hun'
      refine qOp_mono (fun a' h3 => ih (listed.setIfInBounds j true) a' (inv.set hj hjn) hfree' (ready_mono hr (Ne.symm hji)) h3.1 ?_) h2
      rw [Array.setIfInBounds_comm _ _ hji]
      exact h3.2

theorem head_lex {n g : Nat} {Lq : Act → Prop} (hsel : Region.noSelect ops = true) (hs : Region.sinkB md ops n = true) (hc : Region.chainB md ops n = true) (hn : n < ops.size) :
    ∀ (l : List Oper) (k : Nat) (listed : Array Bool) (a : Act), (∀ j, j < l.length → l[j]? = ops[k + j]?) → k + l.length = n → HeadInv md ops n listed →
    Region.lexHead md ops g l.length k listed = true → wpQuiet P ops C Lq l a →
    anyHead P md ops C n (fun listed' a' => Region.seqB md ops g n listed' = true ∧ Lq a') l.length listed a
  | [], k, listed, a, _, hk, _, hB, h => by
    have : k = n := by simpa using hk
    subst this
    exact ⟨by simpa [Region.lexHead] using hB, h⟩
  | o :: l, k, listed, a, hl, hk, inv, hB, h => by
    have h0 : ops[k]? = some o := by simpa using (hl 0 (by simp)).symm
    simp only [List.length_cons, Region.lexHead, Bool.and_eq_true] at hB
    obtain ⟨⟨hr, hf⟩, hB'⟩ := hB
    have hkn : k < n := by simp only [List.length_cons] at hk; omega
    have hr' : k ∈ Region.ready md ops listed := by simpa using hr
    have hst : qOp P ops C k (wpQuiet P ops C Lq l) a := by unfold qOp; simp only [h0]; exact h
    obtain ⟨v, hy, hK⟩ := yieldsIn_of_qOp h0 hst
    exact head_first h0 (Region.noSelect_spec hsel) hs hc hn hkn (fun listed' a' hL => seqB_ready hL.1) l.length listed a inv (Region.free_spec h0 hf) hr' hy
      (head_lex hsel hs hc hn l (k + 1) _ _ (fun j hj => by have := hl (j + 1) (by simp; omega); simpa [Nat.add_assoc, Nat.add_comm 1 j] using this) (by simp only [List.length_cons] at hk; omega) (inv.set hr' hkn) hB' hK)

/-- **The head in the text's order, in a class of worlds; then the tail.** -/
theorem wp_region_tail {id : Nat} {Q : Exit → Act → World → Prop} {a : Act} {w : World} {l : List Oper} (C : World → Prop) (n : Nat) (hm : P.follows .mixedOrders = true) (hB : Region.lexTailB .any l.toArray n = true)
    (hC : C w.drew) (h : wpQuiet P l.toArray C (fun a' => ∀ w', C w' → wpList P l.toArray Q (l.drop n) a' w') (l.take n) a) : (Code.region id l.toArray true).wp P Q a w := by
  simp only [Region.lexTailB, Bool.and_eq_true, decide_eq_true_eq] at hB
  obtain ⟨⟨⟨⟨hsel, hn⟩, hs⟩, hc⟩, hlex⟩ := hB
  have hn' : n < l.length := by simpa using hn
  have htl : (l.take n).length = n := by simp; omega
  have hdl : (l.drop n).length = l.toArray.size - n := by simp
  have inv0 : HeadInv .any l.toArray n (Array.replicate l.toArray.size false) :=
    ⟨by simp, fun j oj _ hl => (by rw [getD_replicate_false] at hl; cases hl), fun t _ ht => getD_in (by simpa using ht) (getD_replicate_false _ _)⟩
  have H := head_lex (md := .any) (g := l.toArray.size - n) hsel hs hc hn (l.take n) 0 _ a (fun j hj => by
    have hj' : j < n := by rw [htl] at hj; exact hj
    simp [hj']) (by simpa using htl) inv0 (by rw [htl]; exact hlex) h
  refine wp_region_any hm ?_
  have := any_of_head (Q' := Q) (g := l.toArray.size - n) (fun listed a' w' hw' hL => by
    have := wpAny_of_seq (md := .any) (Q' := Q) (l.drop n) n listed a' w' (fun j => by simp [List.getElem?_drop]) (by rw [hdl]; exact hL.1) (hL.2 w' hw')
    rwa [hdl] at this) _ _ _ _ hC H
  rw [htl, show n + (l.toArray.size - n) = l.toArray.size by omega] at this
  exact this

/-- A region that has no tail. -/
theorem wp_region_all {id : Nat} {Q : Exit → Act → World → Prop} {a : Act} {w : World} {l : List Oper} (C : World → Prop) (hm : P.follows .mixedOrders = true) (hB : Region.lexB .any l.toArray = true)
    (hC : C w.drew) (h : wpQuiet P l.toArray C (fun a' => ∀ w', C w' → Q .normal a' w') l a) : (Code.region id l.toArray true).wp P Q a w :=
  wp_region_quiet (C := C) hm hB hC (by simpa using h)

/-! ### one operation of the head -/
variable {Q : Act → Prop} {a : Act} {o : Oper} {rest : List Oper}
theorem q_call (f : FuncId) (args : Array Value) (v : Value) (hgd : o.guard = none) (hr : ∀ w, (execOp a.eval o).run P w = .ok (.enter f args) w)
    (hc : ∀ w, C w → Calls P f args w fun e w' => e = .returned v ∧ C w')
    (h : ∀ K : Act → Prop, (∀ a, wpQuiet P ops C Q rest a → K a) → K (a.put o.dst v)) : wpQuiet P ops C Q (o :: rest) a := by
  refine wpQuiet_step fun K hK => ?_
  rw [if_pos (by simp [Region.wanted, hgd])]
  refine ⟨v, fun w hw => ?_, h K hK⟩
  unfold Oper.quietAt
  rw [hr w]
  exact ⟨rfl, hc w hw⟩
theorem q_val (v : Value) (hgd : o.guard = none) (hr : ∀ w, C w → (execOp a.eval o).run P w = .ok (.value v) w)
    (h : ∀ K : Act → Prop, (∀ a, wpQuiet P ops C Q rest a → K a) → K (a.put o.dst v)) : wpQuiet P ops C Q (o :: rest) a := by
  refine wpQuiet_step fun K hK => ?_
  rw [if_pos (by simp [Region.wanted, hgd])]
  refine ⟨v, fun w hw => ?_, h K hK⟩
  unfold Oper.quietAt
  rw [hr w hw]
  exact ⟨rfl, rfl⟩
theorem q_load_blk (hgd : o.guard = none) (T : TypeId) (x : Operand) (ho : o.op = .load T x) (g : Nat) (cs : Array Value) (d : TypeDesc) (hx : a.eval x = .pointer (some ⟨g, 0, none⟩))
    (hu : P.underlying T = some d) (hd : (match d with | .struct _ | .array _ _ => true | _ => false) = true) {n : Nat} (hi : (P.info? T).map (·.size) = some n) {U : TypeId} (hb : ∀ w, C w → Blk w g U cs) (hc : cs.size = n)
    (h : ∀ K : Act → Prop, (∀ a, wpQuiet P ops C Q rest a → K a) → K (a.put o.dst (.agg cs))) : wpQuiet P ops C Q (o :: rest) a := by
  refine q_val (.agg cs) hgd (fun w hw => ?_) h
  unfold execOp
  simp only [ho, hx, Instr.loadAt, Instr.sureAddr, Sem.run_bind, Sem.run_pure, Result.andThen_ok, run_loadVar_row w g U T cs (0, 0) d (hb w hw).out hu hd (by rw [hi, hc])]

/-- The value is found by running it. -/
theorem q_val' (hgd : o.guard = none)
    (h : ∃ v, (∀ w, C w → (execOp a.eval o).run P w = .ok (.value v) w) ∧ ∀ K : Act → Prop, (∀ a, wpQuiet P ops C Q rest a → K a) → K (a.put o.dst v)) : wpQuiet P ops C Q (o :: rest) a := by
  obtain ⟨v, hr, h⟩ := h
  exact q_val v hgd hr h
theorem q_call' (hgd : o.guard = none)
    (h : ∃ f args, (∀ w, (execOp a.eval o).run P w = .ok (.enter f args) w) ∧ ∃ v, (∀ w, C w → Calls P f args w fun e w' => e = .returned v ∧ C w') ∧
      ∀ K : Act → Prop, (∀ a, wpQuiet P ops C Q rest a → K a) → K (a.put o.dst v)) : wpQuiet P ops C Q (o :: rest) a := by
  obtain ⟨f, args, hr, v, hc, h⟩ := h
  exact q_call f args v hgd hr hc h
/-- A callee that makes memory alone, in a world that is the elder one but for what is new. -/
theorem under {f : FuncId} {args : Array Value} {v : Value} {B w : World} (hb : Below B.heap.size B w) (h : Calls P f args w fun e w' => e = .returned v ∧ Below w.heap.size w w') :
    Calls P f args w fun e w' => e = .returned v ∧ Below B.heap.size B w' :=
  h.mono fun _ _ ⟨he, hw⟩ => ⟨he, hb.trans (hw.mono hb.size)⟩
end
end Go.Proofs.Ytddhngalokmdoaa.Qt
