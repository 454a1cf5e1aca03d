/- Texts of this claim, merged: Arr, Sum, Row, Only. -/
import Derived.Test.YtddhngalokmdoaaWMore
import Derived.Laws.Rows
import Derived.Laws.Tables
import Derived.Deep.WholeRow
import Derived.Laws.CopyOwn
import Derived.Test.YtddhngalokmdoaaPSpoolPlaysx1
import Derived.Deep.AppendLies
import Derived.Maps.AppendAt
/- Blocks that are known whole, arrays by value: laws for the walk. Any program. -/
namespace Go.Proofs.Ytddhngalokmdoaa.Arr
open Go.RowKit Go.Proofs.YtddhngalokmdoaaW.PrintWords
set_option linter.unusedVariables false
set_option linter.unusedSimpArgs false

/-- A block that is known whole. -/
structure Blk (w : World) (g : Nat) (T : TypeId) (cs : Array Value) : Prop where mk ::
  out : w.heap[g]? = some (.cells cs T (0, 0))
namespace Blk
variable {w w1 : World} {g : Nat} {T : TypeId} {cs : Array Value}
theorem lt (h : Blk w g T cs) : g < w.heap.size := blk_lt h.out
theorem cell (h : Blk w g T cs) (i : Nat) : w.cell? ⟨g, i, none⟩ = cs[i]? := blk_cell h.out i
theorem frozen (h : Blk w g T cs) (i : Nat) : w.frozen? ⟨g, i, none⟩ = false := blk_frozen h.out i
theorem new (w : World) (T : TypeId) (cs : Array Value) : Blk (w.alloc (.cells cs T)) w.heap.size T cs := ⟨heap_alloc_new w _⟩
theorem newAt (h : g = w.heap.size) : Blk (w.alloc (.cells cs T)) g T cs := by subst h; exact new w T cs
theorem alloc (h : Blk w g T cs) (o : Obj) : Blk (w.alloc o) g T cs := ⟨blk_alloc h.out o⟩
theorem drew (h : Blk w g T cs) : Blk w.drew g T cs := ⟨h.out⟩
theorem drewN (h : Blk w g T cs) (n : Nat) : Blk (w.drewN n) g T cs := ⟨blk_drewN h.out n⟩
theorem below (h : Blk w g T cs) (hb : Below w.heap.size w w1) : Blk w1 g T cs := ⟨blk_below h.out hb⟩
theorem below' {B : Nat} (h : Blk w g T cs) (hb : Below B w w1) (hg : g < B) : Blk w1 g T cs := ⟨(hb.block g hg).trans h.out⟩
theorem set (h : Blk w g T cs) (i : Nat) (u : Value) : Blk (w.setCell ⟨g, i, none⟩ u) g T (cs.setIfInBounds i u) := ⟨blk_set h.out i u⟩
theorem far (h : Blk w g T cs) {p : Addr} (hp : g ≠ p.block) (u : Value) : Blk (w.setCell p u) g T cs := ⟨blk_far h.out hp u⟩
theorem row (h : Blk w g T cs) (cs' : Array Value) : Blk (w.setRow g cs') g T cs' := ⟨setRow_heap w g cs cs' T (0, 0) h.out⟩
theorem rowFar (h : Blk w g T cs) {k : Nat} (hk : g ≠ k) (cs' : Array Value) : Blk (w.setRow k cs') g T cs := ⟨(setRow_other w k g cs' hk).trans h.out⟩
end Blk

section
variable {P : Program} {ops : Array Oper} {rest : List Oper} {o : Oper} {a : Act} {w : World} {Q : Exit → Act → World → Prop}

/-- A new variable of an array's or a struct's type: its zero under one name. -/
theorem wpList_alloc_agg (hgd : o.guard = none) (T : TypeId) (Z : Array Value) (ho : o.op = .alloc T) (hz : ∀ w, (zeroValue T).run P w = .ok (.agg Z) w)
    (h : wpList P ops Q rest (a.put o.dst (.pointer (some ⟨w.heap.size, 0, none⟩))) (w.alloc (.cells Z T))) : wpList P ops Q (o :: rest) a w := by
  refine wpList_plain hgd fun K hK => ?_
  have hr : (Instr.alloc T true (.tuple #[])).run P w = .ok (.pointer (some ⟨w.heap.size, 0, none⟩)) (w.alloc (.cells Z T)) := by
    unfold Instr.alloc
    rw [Sem.run_bind, hz]
    rfl
  unfold Oper.wp execOp
  simp only [ho, Sem.run_bind, hr, Result.andThen_ok, Sem.run_pure]
  exact hK _ _ h

/-- An array or a struct is built of its parts: the value under one name. -/
theorem wpList_build_agg (hgd : o.guard = none) (T : TypeId) (parts : Array (Nat × Operand)) (ho : o.op = .build T parts) (Z : Array Value)
    (hz : ∀ w, (Instr.build T (parts.map fun (i, x) => (i, a.eval x))).run P w = .ok (.agg Z) w)
    (h : wpList P ops Q rest (a.put o.dst (.agg Z)) w) : wpList P ops Q (o :: rest) a w := by
  refine wpList_plain hgd fun K hK => ?_
  unfold Oper.wp execOp
  simp only [ho, Sem.run_bind, hz, Result.andThen_ok, Sem.run_pure]
  exact hK _ _ h

/-- An array's or a struct's zero, built of no parts. -/
theorem wpList_build_none (hgd : o.guard = none) (T : TypeId) (ho : o.op = .build T #[]) (Z : Array Value)
    (hz : ∀ w, (Instr.build T #[]).run P w = .ok (.agg Z) w)
    (h : wpList P ops Q rest (a.put o.dst (.agg Z)) w) : wpList P ops Q (o :: rest) a w := by
  refine wpList_plain hgd fun K hK => ?_
  unfold Oper.wp execOp
  simp only [ho, Array.map_empty, Sem.run_bind, hz, Result.andThen_ok, Sem.run_pure]
  exact hK _ _ h

theorem wpList_load_blk (hgd : o.guard = none) (T : TypeId) (x : Operand) (ho : o.op = .load T x) (g : Nat) (cs : Array Value) (d : TypeDesc) (hx : a.eval x = .pointer (some ⟨g, 0, none⟩))
    (hu : P.underlying T = some d) (hd : (match d with | .struct _ | .array _ _ => true | _ => false) = true) {n : Nat} (hi : (P.info? T).map (·.size) = some n) {U : TypeId} (hb : Blk w g U cs) (hc : cs.size = n)
    (h : wpList P ops Q rest (a.put o.dst (.agg cs)) w) : wpList P ops Q (o :: rest) a w :=
  wpList_load_row hgd T x ho g hx U cs (0, 0) d hb.out hu hd (by rw [hi, hc]) h

theorem wpList_store_blk (hgd : o.guard = none) (T : TypeId) (x y : Operand) (ho : o.op = .store T x y) (g : Nat) (cells : Array Value) (hx : a.eval x = .pointer (some ⟨g, 0, none⟩)) (hy : a.eval y = .agg cells)
    {n : Nat} (hi : (P.info? T).map (·.size) = some n) (hc : cells.size = n) (h1 : cells.all (·.oneCell') = true) {U : TypeId} {old : Array Value} (hb : Blk w g U old) (hold : old.size = n)
    (h : wpList P ops Q rest (a.put o.dst undef) (w.setRow g cells)) : wpList P ops Q (o :: rest) a w :=
  wpList_store_row hgd T x y ho g cells hx hy U old hb.out (by rw [hi, hc]) (by omega) h1 h
theorem results_blk {fn : Func} {p : Tmp} {ty : TypeId} (h : fn.results = #[.cell p ty]) (tmps : Array Value) (w : World) (g : Nat) (cs : Array Value) (d : TypeDesc)
    (hp : tmps.getD p undef = .pointer (some ⟨g, 0, none⟩)) {n : Nat} (hi : (P.info? ty).map (·.size) = some n) (hu : P.underlying ty = some d) (hd : (match d with | .struct _ | .array _ _ => true | _ => false) = true)
    {U : TypeId} (hb : Blk w g U cs) (hc : cs.size = n) : (results fn tmps).run P w = .ok (.agg cs) w :=
  results_cell_row h tmps w g U cs (0, 0) d hp hb.out hu hd (by rw [hi, hc])
theorem setRow_top {w : World} {g : Nat} {c c' : Array Value} {t : TypeId} (h : g = w.heap.size) : (w.alloc (.cells c t)).setRow g c' = w.alloc (.cells c' t) := by
  subst h; exact World.setRow_alloc_new w c c' t
end

/-- The cells of a list of numbers, of bools. -/
def numsA (k : IntKind) (l : List Int) : Array Value := (l.map (Value.int k)).toArray
def boolsA (l : List Bool) : Array Value := (l.map Value.bool).toArray
theorem numsA_size (k : IntKind) (l : List Int) : (numsA k l).size = l.length := by simp [numsA]
theorem boolsA_size (l : List Bool) : (boolsA l).size = l.length := by simp [boolsA]
theorem numsA_get (k : IntKind) (l : List Int) (i : Nat) (h : i < l.length) : (numsA k l)[i]? = some (.int k (l.getD i 0)) := by
  simp [numsA, h]
theorem boolsA_get (l : List Bool) (i : Nat) (h : i < l.length) : (boolsA l)[i]? = some (.bool (l.getD i false)) := by
  simp [boolsA, h]
theorem numsA_set (k : IntKind) (l : List Int) (i : Nat) (x : Int) : (numsA k l).setIfInBounds i (.int k x) = numsA k (l.set i x) := by
  apply Array.ext'
  simp [numsA, List.map_set]
theorem boolsA_set (l : List Bool) (i : Nat) (x : Bool) : (boolsA l).setIfInBounds i (.bool x) = boolsA (l.set i x) := by
  apply Array.ext'
  simp [boolsA, List.map_set]
theorem numsA_one (k : IntKind) (l : List Int) : (numsA k l).all (·.oneCell') = true := by
  simp [numsA, Value.oneCell']
theorem boolsA_one (l : List Bool) : (boolsA l).all (·.oneCell') = true := by
  simp [boolsA, Value.oneCell']

/-- An element of an array by value. -/
theorem run_index_nums {P : Program} {t e : TypeId} {n : Nat} {k ki : IntKind} (ht : P.underlying t = some (.array n e)) (he : P.underlying e = some (.int k)) (hsz : (P.info? e).map (·.size) = some 1)
    (l : List Int) (hl : l.length = n) (i : Nat) (hi : i < n) (w : World) : (Instr.index t (.agg (numsA k l)) (.int ki (i : Int))).run P w = .ok (.int k (l.getD i 0)) w := by
  obtain ⟨d, hd, h1⟩ := Option.map_eq_some_iff.1 hsz
  have hg := numsA_get k l i (by omega)
  have hc : (0 : Int) ≤ i ∧ (i : Int) < n := by omega
  have h0 : (0 : Int) ≤ (i : Int) := by omega
  have hn : (i : Int) < (n : Int) := by omega
  have ha : (isAgg e).run P w = .ok false w := by
    unfold isAgg
    rw [Sem.run_bind, run_underlying he w]
    rfl
  have hsi : (sizeOf e).run P w = .ok 1 w := by
    simp [sizeOf, typeInfo, Sem.run_bind, hd, h1]
  unfold Instr.index
  simp [Sem.run_bind, asIntOf, run_underlying ht w, hn, hsi, part, ha, hg]
  intro h
  exact absurd hi (by omega)
section
variable {P : Program} {ops : Array Oper} {rest : List Oper} {o : Oper} {a : Act} {w : World} {Q : Exit → Act → World → Prop}
theorem wpList_index_nums (hgd : o.guard = none) (t : TypeId) (x y : Operand) (ho : o.op = .index t x y) {e : TypeId} {n : Nat} {k ki : IntKind} (l : List Int) (i : Nat) (hx : a.eval x = .agg (numsA k l)) (hy : a.eval y = .int ki (i : Int))
    (ht : P.underlying t = some (.array n e)) (he : P.underlying e = some (.int k)) (hsz : (P.info? e).map (·.size) = some 1) (hl : l.length = n) (hi : i < n)
    (h : wpList P ops Q rest (a.put o.dst (.int k (l.getD i 0))) w) : wpList P ops Q (o :: rest) a w := by
  refine wpList_plain hgd fun K hK => ?_
  unfold Oper.wp execOp
  simp only [ho, hx, hy, Sem.run_bind, run_index_nums ht he hsz l hl i hi w, Result.andThen_ok, Sem.run_pure]
  exact hK _ _ h
/-- Cells at the head of a block. -/
structure Cells (w : World) (g : Nat) (cs : Array Value) : Prop where mk ::
  out : ∀ j v, cs[j]? = some v → w.cell? ⟨g, j, none⟩ = some v
theorem Cells.below {w w1 : World} {g : Nat} {cs : Array Value} (h : Cells w g cs) (hb : Below w.heap.size w w1) : Cells w1 g cs := ⟨fun j v hj => pw_cell_below hb (h.out j v hj)⟩
theorem wpList_load_cells (hgd : o.guard = none) (T : TypeId) (x : Operand) (ho : o.op = .load T x) (g : Nat) (cs : Array Value) (d : TypeDesc) (hx : a.eval x = .pointer (some ⟨g, 0, none⟩))
    (hu : P.underlying T = some d) (hd : (match d with | .struct _ | .array _ _ => true | _ => false) = true) {n : Nat} (hi : (P.info? T).map (·.size) = some n) (hb : Cells w g cs) (hc : cs.size = n)
    (h : wpList P ops Q rest (a.put o.dst (.agg cs)) w) : wpList P ops Q (o :: rest) a w := by
  refine wpList_plain hgd fun K hK => ?_
  obtain ⟨i, hq, hs⟩ := Option.map_eq_some_iff.1 hi
  have hl : (loadCells ⟨g, 0, none⟩ cs.toList.length).run P w = .ok cs.toList.toArray w :=
    run_loadCells_list (P := P) w ⟨g, 0, none⟩ cs.toList (fun j v hv => by
      rw [add_plain]
      exact hb.out j v (by simpa using hv))
  have hagg : (isAgg T).run P w = .ok true w := by
    unfold isAgg
    rw [Sem.run_bind, run_underlying hu w]
    cases d <;> simp_all
  simp only [Array.length_toList, Array.toArray_toList] at hl
  have hv : (loadVar T ⟨g, 0, none⟩).run P w = .ok (.agg cs) w := by simp [loadVar, Sem.run_bind, hagg, sizeOf, typeInfo, hq, hs, ← hc, hl]
  unfold Oper.wp execOp
  simp only [ho, hx, Instr.loadAt, Instr.sureAddr, Sem.run_bind, Sem.run_pure, Result.andThen_ok, hv]
  exact hK _ _ h
end

/-! ### lists that are filled from the front -/
def fillK {α : Type} (f z : Nat → α) (m k : Nat) : List α := (List.range m).map fun i => if i < k then f i else z i
theorem fillK_length {α : Type} (f z : Nat → α) (m k : Nat) : (fillK f z m k).length = m := by simp [fillK]
theorem fillK_zero {α : Type} (f z : Nat → α) (m : Nat) : fillK f z m 0 = (List.range m).map z := by simp [fillK]
theorem fillK_full {α : Type} (f z : Nat → α) (m : Nat) : fillK f z m m = (List.range m).map f := by
  unfold fillK
  refine List.map_congr_left fun i hi => ?_
  rw [if_pos (by simpa using hi)]
theorem fillK_set {α : Type} (f z : Nat → α) (m k : Nat) (hk : k < m) (x : α) (hx : x = f k) : (fillK f z m k).set k x = fillK f z m (k + 1) := by
  subst hx
  apply List.ext_getElem
  · simp [fillK]
  · intro i h1 h2
    simp only [fillK_length, List.length_set] at h1
    rw [List.getElem_set]
    by_cases h : k = i
    · subst h
      simp [fillK]
    · rw [if_neg h]
      simp only [fillK, List.getElem_map, List.getElem_range]
      by_cases h3 : i < k
      · rw [if_pos h3, if_pos (by omega)]
      · rw [if_neg h3, if_neg (by omega)]
theorem fillK_same {α : Type} (f z : Nat → α) (m k : Nat) (hk : k < m) (h : z k = f k) : fillK f z m k = fillK f z m (k + 1) := by
  unfold fillK
  refine List.map_congr_left fun i _ => ?_
  by_cases h1 : i < k
  · rw [if_pos h1, if_pos (by omega)]
  · rw [if_neg h1]
    by_cases h2 : i < k + 1
    · rw [if_pos h2, show i = k by omega, h]
    · rw [if_neg h2]
theorem fillK_done {α : Type} (f z : Nat → α) (m k i : Nat) (d : α) (hi : i < m) (h : i < k) : (fillK f z m k).getD i d = f i := by
  simp [fillK, List.getD, hi, h]
theorem fillK_todo {α : Type} (f z : Nat → α) (m k i : Nat) (d : α) (hi : i < m) (h : k ≤ i) : (fillK f z m k).getD i d = z i := by
  simp [fillK, List.getD, hi, Nat.not_lt.2 h]
end Go.Proofs.Ytddhngalokmdoaa.Arr

/- The checksum: what the program's Sum comes to. -/
namespace Go.Proofs.Ytddhngalokmdoaa.Spo
open Go.RowKit Go.Proofs.YtddhngalokmdoaaW.PrintWords Go.Proofs.YtddhngalokmdoaaW.PrintLast Go.Proofs.YtddhngalokmdoaaW.PrintMore Go.Proofs.Ytddhngalokmdoaa.Arr Go.Proofs.Ytddhngalokmdoaa.PSpoolPlays
set_option linter.unusedVariables false
set_option linter.unusedSimpArgs false

theorem xor_bits (x y : Nat) (hx : x < 4294967296) (hy : y < 4294967296) : Go.bits .xor .u32 (x : Int) (y : Int) = ((x ^^^ y : Nat) : Int) := by
  unfold Go.bits
  simp only [IntKind.wrap_u32]
  have b1 : (BitVec.ofInt IntKind.u32.bits (x : Int)) = BitVec.ofNat 32 x := by simp [IntKind.bits]
  have b2 : (BitVec.ofInt IntKind.u32.bits (y : Int)) = BitVec.ofNat 32 y := by simp [IntKind.bits]
  rw [b1, b2]
  show (((BitVec.ofNat 32 x ^^^ BitVec.ofNat 32 y).toNat : Nat) : Int) % 4294967296 = _
  rw [BitVec.toNat_xor, BitVec.toNat_ofNat, BitVec.toNat_ofNat, Nat.mod_eq_of_lt (by simpa using hx), Nat.mod_eq_of_lt (by simpa using hy)]
  have : x ^^^ y < 2 ^ 32 := Nat.xor_lt_two_pow (by simpa using hx) (by simpa using hy)
  omega
/-- Bytes. -/
def Bytes (l : List Int) : Prop := ∀ x, x ∈ l → 0 ≤ x ∧ x < 256
theorem Bytes.rd {l : List Int} (h : Bytes l) (i : Nat) (hi : i < l.length) : rd l (i : Int) = ((l[i].toNat : Nat) : Int) ∧ l[i].toNat < 256 := by
  obtain ⟨h1, h2⟩ := h _ (List.getElem_mem hi)
  refine ⟨?_, by omega⟩
  unfold Go.Proofs.YtddhngalokmdoaaW.PrintWords.rd
  rw [Int.toNat_natCast, List.getD, List.getElem?_eq_getElem hi, Option.getD_some]
  omega
def crcBit (c : Nat) : Nat := (c * 2 % 4294967296) ^^^ (if c ≥ 2147483648 then 79764919 else 0)
def crcBits : Nat → Nat → Nat
  | 0, c => c
  | k + 1, c => crcBits k (crcBit c)
def crcByte (c x : Nat) : Nat := crcBits 8 (c ^^^ (x * 16777216))
def sumN (l : List Int) (c : Nat) : Nat := l.foldl (fun c x => crcByte c x.toNat) c
def sumV (l : List Int) : Int := (sumN l 4294967295 : Nat)
theorem crcBit_lt (c : Nat) : crcBit c < 4294967296 := by
  unfold crcBit
  have h1 : c * 2 % 4294967296 < 2 ^ 32 := Nat.mod_lt _ (by decide)
  have h2 : (if c ≥ 2147483648 then 79764919 else 0) < 2 ^ 32 := by split <;> decide
  exact Nat.xor_lt_two_pow h1 h2
theorem crcBits_lt : ∀ (k c : Nat), c < 4294967296 → crcBits k c < 4294967296
  | 0, c, h => h
  | k + 1, c, h => crcBits_lt k _ (crcBit_lt c)
theorem crcIn_lt {c x : Nat} (hc : c < 4294967296) (hx : x < 256) : c ^^^ (x * 16777216) < 4294967296 :=
  Nat.xor_lt_two_pow (n := 32) hc (by show x * 16777216 < 4294967296; omega)
theorem crcByte_lt {c x : Nat} (hc : c < 4294967296) (hx : x < 256) : crcByte c x < 4294967296 := crcBits_lt 8 _ (crcIn_lt hc hx)
theorem prog_bit (c : Nat) (hc : c < 4294967296) : Go.bits .xor .u32 (((c : Int) * 2) % 4294967296) (Go.bits .and .u32 79764919 ((-((c : Int) / 2147483648)) % 4294967296)) = (crcBit c : Int) := by
  have e1 : ((c : Int) * 2) % 4294967296 = ((c * 2 % 4294967296 : Nat) : Int) := by omega
  have e2 : Go.bits .and .u32 79764919 ((-((c : Int) / 2147483648)) % 4294967296) = ((if c ≥ 2147483648 then 79764919 else 0 : Nat) : Int) := by
    by_cases h : c ≥ 2147483648
    · have : (-((c : Int) / 2147483648)) % 4294967296 = 4294967295 := by omega
      rw [this, if_pos h]
      decide
    · have : (-((c : Int) / 2147483648)) % 4294967296 = 0 := by omega
      rw [this, if_neg h]
      decide
  rw [e1, e2, xor_bits _ _ (Nat.mod_lt _ (by decide)) (by split <;> decide)]
  rfl
theorem w64s (x : Int) (h0 : -9223372036854775808 ≤ x) (h1 : x ≤ 9223372036854775807) : wrap64 x = x := by unfold wrap64; omega
theorem sum_ev (l : List Int) (hB : Bytes l) (hl : l.length ≤ 1000000000) : ∀ (d i c k : Nat), i + d = l.length → c < 4294967296 → 10 * d + 1 ≤ k → spool_Sum.l0 k (c : Int) l (l.length : Int) (i : Int) = some ((sumN (l.drop i) c : Nat) : Int)
  | 0, i, c, k + 1, hi, hc, hk => by
    simp only [spool_Sum.l0]
    rw [if_neg (by omega), List.drop_eq_nil_of_le (by omega)]
    rfl
  | d + 1, i, c, k + 1, hi, hc, hk => by
    have hil : i < l.length := by omega
    obtain ⟨h1, h2⟩ := hB.rd i hil
    simp only [spool_Sum.l0]
    rw [if_pos (by omega), if_pos (by omega), if_pos (by omega), h1]
    have e1 : ((((l[i].toNat : Nat) : Int) % 4294967296) * 16777216) % 4294967296 = ((l[i].toNat * 16777216 : Nat) : Int) := by omega
    rw [e1, xor_bits _ _ hc (by omega)]
    have inner : ∀ (b t c' k' : Nat), t + b = 8 → c' < 4294967296 → 10 * d + 1 + b + 1 ≤ k' → spool_Sum.l1 k' (c' : Int) l (l.length : Int) (i : Int) (t : Int) = some ((sumN (l.drop (i + 1)) (crcBits b c') : Nat) : Int) := by
      intro b
      induction b with
      | zero =>
        intro t c' k' ht hc' hk'
        obtain ⟨k', rfl⟩ : ∃ j, k' = j + 1 := ⟨k' - 1, by omega⟩
        simp only [spool_Sum.l1]
        rw [if_neg (by omega), w64s _ (by omega) (by omega), show (i : Int) + 1 = ((i + 1 : Nat) : Int) by omega]
        exact sum_ev l hB hl d (i + 1) c' k' (by omega) hc' (by omega)
      | succ b ih =>
        intro t c' k' ht hc' hk'
        obtain ⟨k', rfl⟩ : ∃ j, k' = j + 1 := ⟨k' - 1, by omega⟩
        simp only [spool_Sum.l1]
        rw [if_pos (by omega), prog_bit c' hc', w64s _ (by omega) (by omega), show (t : Int) + 1 = ((t + 1 : Nat) : Int) by omega]
        exact ih (t + 1) (crcBit c') k' (by omega) (crcBit_lt c') (by omega)
    have h0 := inner 8 0 (c ^^^ (l[i].toNat * 16777216)) k (by omega) (crcIn_lt hc h2) (by omega)
    rw [List.drop_eq_getElem_cons hil]
    exact h0
theorem sum_f (l : List Int) (hB : Bytes l) (hl : l.length ≤ 1000000000) (k : Nat) (hk : 10 * l.length + 1 ≤ k) : spool_Sum.f k l = some (sumV l) := by
  have := sum_ev l hB hl l.length 0 4294967295 k (by omega) (by decide) hk
  unfold spool_Sum.f sumV
  rw [List.drop_zero] at this
  exact this
theorem sumN_lt : ∀ (l : List Int) (c : Nat), Bytes l → c < 4294967296 → sumN l c < 4294967296
  | [], c, _, h => h
  | x :: l, c, hB, h => sumN_lt l _ (fun y hy => hB y (by simp [hy])) (crcByte_lt h (by have := hB x (by simp); omega))
end Go.Proofs.Ytddhngalokmdoaa.Spo

/- Slices of numbers that the call itself makes. Any program. -/
namespace Go.Proofs.Ytddhngalokmdoaa.Arr
open Go.RowKit Go.Proofs.YtddhngalokmdoaaW.PrintWords
set_option linter.unusedVariables false
set_option linter.unusedSimpArgs false

/-- v is a slice of the call's own (blocks from B on) that holds xs. -/
structure Row (w : World) (B : Nat) (e : TypeId) (k : IntKind) (v : Value) (xs : List Int) : Prop where mk ::
  own : w.ownsRow B e 1 v xs.length (nums k xs)
namespace Row
variable {w w1 : World} {B : Nat} {e : TypeId} {k : IntKind} {v : Value} {xs : List Int}
theorem nil (w : World) (B : Nat) (e : TypeId) (k : IntKind) : Row w B e k (.slice none 0 0) [] := ⟨own_nil _ _ _ _⟩
theorem lit {g : Nat} {cs : Array Value} (hg : g = w.heap.size) (hB : B ≤ w.heap.size) (hcs : cs = (nums k xs).toArray) {n : Nat} (hn : n = xs.length) (hm : xs.length ≤ 9223372036854775807) :
    Row (w.alloc (.cells cs e)) B e k (.slice (some ⟨g, 0, none⟩) n n) xs := by
  subst hg hcs hn
  exact ⟨own_lit w B e k xs hB hm⟩
theorem move (h : Row w B e k v xs) (hm : ∀ g, v.ownBlock = some g → w1.heap[g]? = w.heap[g]?) : Row w1 B e k v xs := ⟨own_move h.own hm⟩
theorem below (h : Row w B e k v xs) (hb : Below w.heap.size w w1) : Row w1 B e k v xs := h.move fun g hg => hb.block g (own_lt h.own g hg)
theorem alloc (h : Row w B e k v xs) (o : Obj) : Row (w.alloc o) B e k v xs := h.below ((Below.refl _ _).alloc (Nat.le_refl _) o)
theorem drewN (h : Row w B e k v xs) (n : Nat) : Row (w.drewN n) B e k v xs := h.move fun _ _ => rfl
theorem drew (h : Row w B e k v xs) : Row w.drew B e k v xs := h.move fun _ _ => rfl
theorem ne (h : Row w B e k v xs) {g : Nat} {T : TypeId} {cs : Array Value} (hb : Blk w g T cs) (hT : e ≠ T) : some g ≠ v.ownBlock := own_ne h.own hb.out hT
theorem set (h : Row w B e k v xs) {g : Nat} {T : TypeId} {cs : Array Value} (hb : Blk w g T cs) (hT : e ≠ T) (i : Nat) (u : Value) : Row (w.setCell ⟨g, i, none⟩ u) B e k v xs :=
  h.move fun j hj => Below.heap_setCell w _ u j (fun hh => h.ne hb hT (by rw [hj]; exact congrArg some hh.symm))
theorem setRow (h : Row w B e k v xs) {g : Nat} {T : TypeId} {cs : Array Value} (hb : Blk w g T cs) (hT : e ≠ T) (cs' : Array Value) : Row (w.setRow g cs') B e k v xs :=
  h.move fun j hj => setRow_other w g j cs' (fun hh => h.ne hb hT (by rw [hj]; exact congrArg some hh.symm))
theorem reads (h : Row w B e k v xs) : ∃ A c, v = .slice A xs.length c ∧ ReadsInt w k A xs.length xs := own_reads h.own
theorem form (h : Row w B e k v xs) : (v = .slice none 0 0 ∧ xs = []) ∨ ∃ g c, v = .slice (some ⟨g, 0, none⟩) xs.length c ∧ B ≤ g ∧ g < w.heap.size ∧ xs.length ≤ c ∧ c ≤ maxLen := by
  rcases h.own.2 with ⟨h1, h2⟩ | ⟨g, cap, cur, h1, h2, h3, h4, h5, _⟩
  · exact .inl ⟨h1, List.length_eq_zero_iff.1 h2⟩
  · exact .inr ⟨g, cap, h1, h2, blk_lt h3, h4, h5⟩
theorem lower (h : Row w B e k v xs) {B' : Nat} (hB : B' ≤ B) : Row w B' e k v xs := ⟨own_weaken h.own hB⟩
theorem at_ {g n c : Nat} (h : Row w B e k (.slice (some ⟨g, 0, none⟩) n c) xs) (i : Nat) (hi : i < xs.length) : w.cell? ⟨g, i, none⟩ = some (.int k (xs.getD i 0)) := by
  obtain ⟨A, c', e1, h1⟩ := h.reads
  simp only [Value.slice.injEq] at e1
  obtain ⟨e1, _, _⟩ := e1
  obtain ⟨ad, e2, h2⟩ := h1.2.2 (by omega)
  rw [← e1] at e2
  simp only [Option.some.injEq] at e2
  subst e2
  have := h2 i hi
  rwa [add_plain] at this
theorem cap_le {A : Option Addr} {n c : Nat} (h : Row w B e k (.slice A n c) xs) : n ≤ c := own_le h.own
/-- What is new is another block. -/
theorem apart_new (h : Row w B e k v xs) {g : Nat} (hg : w.heap.size ≤ g) : v.ownBlock = none ∨ v.ownBlock ≠ some g := by
  cases hv : v.ownBlock with
  | none => exact .inl rfl
  | some j =>
    refine .inr fun hh => ?_
    have := own_lt h.own j hv
    simp only [Option.some.injEq] at hh
    omega
theorem le (h : Row w B e k v xs) {g : Nat} (hg : v.ownBlock = some g) : B ≤ g ∧ g < w.heap.size := ⟨own_base h.own g hg, own_lt h.own g hg⟩
end Row
theorem Blk.grown {w w1 : World} {g : Nat} {T : TypeId} {cs : Array Value} (h : Blk w g T cs) {row : Option Nat} (hg : w.grownBy w1 row) (hne : some g ≠ row) : Blk w1 g T cs := ⟨blk_grown h.out hg hne⟩
theorem Row.grown {w w1 : World} {B : Nat} {e : TypeId} {k : IntKind} {v : Value} {xs : List Int} (h : Row w B e k v xs) {row : Option Nat} (hg : w.grownBy w1 row) (hne : v.ownBlock = none ∨ v.ownBlock ≠ row) : Row w1 B e k v xs := ⟨own_other h.own hg hne⟩

section
variable {P : Program} {ops : Array Oper} {rest : List Oper} {o : Oper} {a : Act} {Q : Exit → Act → World → Prop}
/-- append(v, x...): v of the call's own. -/
theorem wpList_append_nums {w0 W : World} (B : Nat) (e : TypeId) (k : IntKind) (bytes : Nat) (hgd : o.guard = none) (s x : Operand) (t : TypeId)
    (ho : o.op = .call { callee := .builtin .append, args := #[s, x], argTypes := #[t, t] })
    (ht : P.underlying t = some (.slice e)) (hinfo : (P.info? e).map (fun i => (i.zero, i.size, i.bytes)) = some (some (.int k 0), 1, bytes)) (hb0 : 0 < bytes)
    (v : Value) (xs ys : List Int) (A : Option Addr) (m c : Nat) (hs : a.eval s = v) (hx : a.eval x = .slice A m c)
    (HO : Row W B e k v xs) (HR : ReadsInt W k A m ys) (HB : Below B w0 W) (hbase : B ≤ W.heap.size) (hl : (xs.length + m) * bytes ≤ 140737488355328)
    (h : ∀ v1 w1, Row w1 B e k v1 (xs ++ ys) → Below B w0 w1 → W.grownBy w1 v.ownBlock → (v1.ownBlock = v.ownBlock ∨ ∃ b, v1.ownBlock = some b ∧ W.heap.size ≤ b) → wpList P ops Q rest (a.put o.dst v1) w1) :
    wpList P ops Q (o :: rest) a W :=
  print_append_row (w0 := w0) B hgd s x t e k bytes ho ht hinfo hb0 v xs ys A m c hs hx HO.own HR HB hbase hl fun v1 w1 h1 h2 h3 h4 => h v1 w1 ⟨h1⟩ h2 h3 h4
end
/-- A cell that was made just now, read as a slice of one. -/
theorem reads_one {w : World} {e : TypeId} {k : IntKind} {x : Int} {g : Nat} (hg : g = w.heap.size) : ReadsInt (w.alloc (.cells #[.int k x] e)) k (some ⟨g, 0, none⟩) 1 [x] := by
  subst hg
  refine ⟨rfl, by omega, fun _ => ⟨_, rfl, fun j hj => ?_⟩⟩
  obtain rfl : j = 0 := by omega
  rw [add_plain]
  exact ((Blk.new w e #[.int k x]).cell 0)
/-- An array in a block, read as a slice. -/
theorem Blk.readsNums {w : World} {g : Nat} {T : TypeId} {k : IntKind} {xs : List Int} (h : Blk w g T (numsA k xs)) (hm : xs.length ≤ 9223372036854775807) : ReadsInt w k (some ⟨g, 0, none⟩) xs.length xs := by
  refine ⟨rfl, hm, fun _ => ⟨_, rfl, fun j hj => ?_⟩⟩
  rw [add_plain]
  exact (h.cell j).trans (numsA_get _ _ j hj)
end Go.Proofs.Ytddhngalokmdoaa.Arr

/- What a call has turned: the named blocks alone, and what is new. Any program. -/
namespace Go.Proofs.Ytddhngalokmdoaa.Arr
open Go.RowKit Go.Proofs.YtddhngalokmdoaaW.PrintWords
set_option linter.unusedVariables false
set_option linter.unusedSimpArgs false

/-- Of the elder blocks those of S alone may have turned. -/
structure Only (S : List Nat) (w w' : World) : Prop where mk ::
  os : w'.os = w.os
  tape : w'.tape = w.tape
  output : w'.output = w.output
  size : w.heap.size ≤ w'.heap.size
  block : ∀ k, k < w.heap.size → k ∉ S → w'.heap[k]? = w.heap[k]?
namespace Only
variable {S S' : List Nat} {w w1 w2 : World}
theorem refl (S : List Nat) (w : World) : Only S w w := ⟨rfl, rfl, rfl, Nat.le_refl _, fun _ _ _ => rfl⟩
theorem of_below (h : Below w.heap.size w w1) (S : List Nat) : Only S w w1 := ⟨h.os, h.tape, h.output, h.size, fun k hk _ => h.block k hk⟩
theorem below {B : Nat} (h : Only S w w1) (hB : B ≤ w.heap.size) (hS : ∀ k, k ∈ S → B ≤ k) : Below B w w1 :=
  ⟨h.os, h.tape, h.output, h.size, fun k hk => h.block k (by omega) (fun hm => by have := hS k hm; omega)⟩
theorem nil (h : Only [] w w1) : Below w.heap.size w w1 := h.below (Nat.le_refl _) (fun k hk => by cases hk)
theorem trans (h : Only S w w1) (h' : Only S' w1 w2) (hS : ∀ k, k ∈ S' → k ∈ S ∨ w.heap.size ≤ k) : Only S w w2 :=
  ⟨h'.os.trans h.os, h'.tape.trans h.tape, h'.output.trans h.output, Nat.le_trans h.size h'.size, fun k hk hn =>
    (h'.block k (Nat.lt_of_lt_of_le hk h.size) (fun hm => by rcases hS k hm with h1 | h1; exact hn h1; omega)).trans (h.block k hk hn)⟩
theorem mono (h : Only S w w1) (hS : ∀ k, k ∈ S → k ∈ S' ∨ w.heap.size ≤ k) : Only S' w w1 :=
  ⟨h.os, h.tape, h.output, h.size, fun k hk hn => h.block k hk (fun hm => by rcases hS k hm with h1 | h1; exact hn h1; omega)⟩
theorem alloc (h : Only S w w1) (o : Obj) : Only S w (w1.alloc o) :=
  h.trans (of_below ((Below.refl _ _).alloc (Nat.le_refl _) o) []) (fun k hk => by cases hk)
theorem drew (h : Only S w w1) : Only S w w1.drew := ⟨h.os, h.tape, h.output, h.size, h.block⟩
theorem drewN (h : Only S w w1) (n : Nat) : Only S w (w1.drewN n) := ⟨h.os, h.tape, h.output, h.size, h.block⟩
theorem setCell (h : Only S w w1) {p : Addr} (hp : p.block ∈ S ∨ w.heap.size ≤ p.block) (u : Value) : Only S w (w1.setCell p u) :=
  ⟨h.os, h.tape, h.output, by simpa [World.setCell] using h.size, fun k hk hn => (Below.heap_setCell w1 p u k (fun e => by subst e; rcases hp with hp | hp; exact hn hp; omega)).trans (h.block k hk hn)⟩
theorem grown {row : Option Nat} (h : Only S w w1) (hg : w1.grownBy w2 row) (hr : ∀ k, row = some k → k ∈ S ∨ w.heap.size ≤ k) : Only S w w2 :=
  ⟨hg.os.trans h.os, hg.tape.trans h.tape, hg.output.trans h.output, Nat.le_trans h.size hg.size, fun k hk hn =>
    (hg.block k (Nat.lt_of_lt_of_le hk h.size) (fun e => by rcases hr k e.symm with h1 | h1; exact hn h1; omega)).trans (h.block k hk hn)⟩
theorem step (h : Only S w w1) (hb : Below w1.heap.size w1 w2) : Only S w w2 := h.trans (of_below hb []) (fun k hk => by cases hk)
theorem at_ {k : Nat} {o : Obj} (h : Only S w w1) (hk : w.heap[k]? = some o) (hn : k ∉ S) : w1.heap[k]? = some o := (h.block k (blk_lt hk) hn).trans hk
end Only
theorem Blk.only {w w1 : World} {g : Nat} {T : TypeId} {cs : Array Value} {S : List Nat} (h : Blk w g T cs) (ho : Only S w w1) (hn : g ∉ S) : Blk w1 g T cs := ⟨ho.at_ h.out hn⟩
theorem Blk.ne {w : World} {g g' : Nat} {t t' : TypeId} {cs cs' : Array Value} (h : Blk w g t cs) (h' : Blk w g' t' cs') (hne : t ≠ t') : g ≠ g' := blk_ne h.out h'.out hne
/-- The block of a slice's row, as a list. -/
def rowB (v : Value) : List Nat := v.ownBlock.toList
theorem own_only {w w1 : World} {base : Nat} {e : TypeId} {size n : Nat} {v : Value} {xs : List Value} {S : List Nat} (h : w.ownsRow base e size v n xs) (ho : Only S w w1) (hn : ∀ k, k ∈ rowB v → k ∉ S) : w1.ownsRow base e size v n xs :=
  own_move h fun k hk => ho.block k (own_lt h k hk) (hn k (by simp [rowB, hk]))
theorem rowB_lt {w : World} {base : Nat} {e : TypeId} {size n : Nat} {v : Value} {xs : List Value} (h : w.ownsRow base e size v n xs) : ∀ k, k ∈ rowB v → k < w.heap.size := fun k hk => own_lt h k (by simpa [rowB] using hk)
end Go.Proofs.Ytddhngalokmdoaa.Arr
