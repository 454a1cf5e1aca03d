/- Texts of this claim, merged: Mid, Trp. -/
import Derived.Test.YtddhngalokmdoaaMgBase1
import Derived.Deep.MidRow
import Derived.Great.BuildSlice
import Derived.Great.FillDense
/- Rows of elements of many cells (arrays, structs that hold arrays), each a list: read, stored, grown; blocks by classes. Any program. -/
namespace Go.Proofs.Ytddhngalokmdoaa.Arr
open Go.RowKit Go.Proofs.YtddhngalokmdoaaW.PrintWords
set_option linter.unusedVariables false
set_option linter.unusedSimpArgs false

/-- An element is its cells, sz of them. -/
def flat {α : Type} (sz : Nat) (enc : α → List Value) (h1 : ∀ x u, u ∈ enc x → u.oneCell' = true) : Kd α where
  sz := sz
  E := []
  K := fun _ x cs => cs = enc x ∧ cs.length = sz
  M := fun _ _ _ x cs => cs = enc x ∧ cs.length = sz
  K_len := fun h => h.2
  K_one := fun h u hu => h1 _ u (h.1 ▸ hu)
  K_below := fun _ h => h
  K_of_M := fun h => h
  M_mono := fun _ h => h
  M_bound := fun h => h
  M_move := fun _ h => h
  M_lower := fun _ h => h
theorem nums_one (k : IntKind) (l : List Int) : ∀ u, u ∈ nums k l → u.oneCell' = true := fun u hu => by
  obtain ⟨x, _, rfl⟩ := List.mem_map.1 hu
  rfl
/-- Bytes, n of them. -/
def bytesK (n : Nat) : Kd (List Int) := flat n (nums .u8) (fun x => nums_one .u8 x)
/-- A number, and bytes. -/
def stampK (n : Nat) : Kd (Int × List Int) := flat (n + 1) (fun x => Value.int .i64 x.1 :: nums .u8 x.2) (fun x u hu => by
  rcases List.mem_cons.1 hu with rfl | hu
  · rfl
  · exact nums_one .u8 _ u hu)

section
variable {α : Type} {sz : Nat} {enc : α → List Value} {h1 : ∀ x u, u ∈ enc x → u.oneCell' = true} {e : Nat} {w : World} {base : Nat} {ok : Nat → Prop} {A : Option Addr} {n c : Nat} {xs : List α}
theorem inner_take {inner : List Value} (hr : Reps (fun x cs => cs = enc x ∧ cs.length = sz) sz xs inner) (i : Nat) (hi : i < xs.length) : (inner.drop (i * sz)).take sz = enc xs[i] ∧ (enc xs[i]).length = sz := by
  obtain ⟨h2, h3⟩ := hr.2 i _ (List.getElem?_eq_getElem hi)
  exact ⟨h2, by rw [← h2]; exact h3⟩
theorem mul_lt (i n sz : Nat) (h : i < n) : i * sz + sz ≤ n * sz := by
  have := Nat.mul_le_mul_right sz (show i + 1 ≤ n from h)
  rwa [Nat.add_mul, Nat.one_mul] at this
theorem flat_form (h : (flat sz enc h1).R e w base ok (.slice A n c) xs) (hx : 0 < xs.length) : ∃ g cur, A = some ⟨g, 0, none⟩ ∧ n = xs.length ∧ n ≤ c ∧ base ≤ g ∧ ok g ∧ Blk w g e cur ∧ cur.size = c * sz ∧ Reps (fun x cs => cs = enc x ∧ cs.length = sz) sz xs (cur.toList.take (xs.length * sz)) := by
  obtain ⟨h0, inner, ho, hr⟩ := h
  rcases ho.2 with ⟨e1, h2⟩ | ⟨g, cap, cur, e1, hg, hh, r1, r2, r3, r4⟩
  · omega
  · injection e1 with e1 e2 e3
    subst e1 e2 e3
    have r3' : cur.size = c * sz := r3
    have r4' : cur.toList.take (xs.length * sz) = inner := r4
    exact ⟨g, cur, rfl, rfl, r1, hg, h0 g rfl, ⟨hh⟩, r3', by rw [r4']; exact hr⟩
theorem flat_at (h : (flat sz enc h1).R e w base ok (.slice A n c) xs) (i : Nat) (hi : i < xs.length) : ∃ g, A = some ⟨g, 0, none⟩ ∧ ok g ∧ g < w.heap.size ∧ w.rangeAt g (i * sz) (enc xs[i]) ∧ (enc xs[i]).length = sz ∧ w.there g (i * sz) sz := by
  obtain ⟨g, cur, rfl, rfl, hnc, hg, hok, hB, hs, hr⟩ := flat_form h (by omega)
  obtain ⟨k1, k2⟩ := inner_take hr i hi
  have hm := mul_lt i xs.length sz hi
  have hm2 : xs.length * sz ≤ c * sz := Nat.mul_le_mul_right sz hnc
  refine ⟨g, rfl, hok, hB.lt, fun j v hj => ?_, k2, fun j hj => ⟨?_, hB.frozen _⟩⟩
  · have hjl : j < sz := by have := (List.getElem?_eq_some_iff.1 hj).1; omega
    rw [hB.cell]
    rw [← k1, List.getElem?_take_of_lt hjl, List.getElem?_drop, List.getElem?_take_of_lt (by omega)] at hj
    rw [← hj]
    simp
  · rw [hB.cell, Array.getElem?_eq_getElem (by omega)]
    rfl
theorem Blk.setCells {w : World} {g : Nat} {T : TypeId} {cs : Array Value} (h : Blk w g T cs) (o : Nat) (vs : List Value) (ho : o + vs.length ≤ cs.size) :
    ∃ cs', Blk (w.setCells g o vs) g T cs' ∧ cs'.size = cs.size ∧ cs'.toList = cs.toList.take o ++ vs ++ cs.toList.drop (o + vs.length) := by
  obtain ⟨cur, a, b, c⟩ := setCells_row vs o w cs h.out ho
  exact ⟨cur, ⟨a⟩, b, c⟩
theorem Blk.setCells_far {w : World} {g : Nat} {T : TypeId} {cs : Array Value} (h : Blk w g T cs) {g' : Nat} (hn : g ≠ g') (o : Nat) (vs : List Value) : Blk (w.setCells g' o vs) g T cs := ⟨(Go.Proofs.YtddhngalokmdoaaW.PrintWords.setCells_far vs o g hn).trans h.out⟩
theorem flat_set (h : (flat sz enc h1).R e w base ok (.slice A n c) xs) (i : Nat) (hi : i < xs.length) (p : α) (hp : (enc p).length = sz) {g : Nat} (hA : A = some ⟨g, 0, none⟩) : (flat sz enc h1).R e (w.setCells g (i * sz) (enc p)) base ok (.slice A n c) (xs.set i p) := by
  obtain ⟨g', cur, rfl, rfl, hnc, hg, hok, hB, hs, hr⟩ := flat_form h (by omega)
  cases hA
  have hm := mul_lt i xs.length sz hi
  have hm2 : xs.length * sz ≤ c * sz := Nat.mul_le_mul_right sz hnc
  obtain ⟨cs', k1, k2, k3⟩ := hB.setCells (i * sz) (enc p) (by rw [hp]; omega)
  have hlen : cur.toList.length = c * sz := by rw [Array.length_toList]; exact hs
  have hmax : c ≤ maxLen := by
    obtain ⟨_, inner, ho, _⟩ := h
    rcases ho.2 with ⟨e1, h2⟩ | ⟨g, cap, cur, e1, hg, hh, r1, r2, r3, r4⟩
    · cases e1
    · injection e1 with e1 e2 e3
      subst e3
      exact r2
  have hlen' : cs'.toList.length = c * sz := by rw [Array.length_toList, k2]; exact hs
  obtain ⟨L, hL⟩ : ∃ L, cur.toList.take (xs.length * sz) = L := ⟨_, rfl⟩
  have hLl : L.length = xs.length * sz := by rw [← hL, List.length_take, hlen]; omega
  have hset : cs'.toList.take (xs.length * sz) = L.take (i * sz) ++ enc p ++ L.drop (i * sz + sz) := by
    rw [k3, hp, ← hL]
    apply List.ext_getElem?
    intro j
    simp only [List.getElem?_take, List.getElem?_append, List.length_append, List.length_take, List.getElem?_drop, hlen, hp]
    by_cases c1 : j < xs.length * sz
    · rw [if_pos c1]
      by_cases c2 : j < i * sz
      · rw [if_pos (by omega), if_pos (by omega), if_pos c2, if_pos (by omega), if_pos (by omega), if_pos c2, if_pos c1]
      · by_cases c3 : j < i * sz + sz
        · rw [if_pos (by omega), if_neg (by omega), if_pos (by omega), if_neg (by omega)]
          congr 1
          omega
        · rw [if_neg (by omega), if_neg (by omega), if_pos (by omega)]
          congr 1
          omega
    · rw [if_neg c1, if_neg (by omega), if_neg (by omega)]
  rw [hL] at hr
  obtain ⟨M, hM⟩ : ∃ M, L.take (i * sz) ++ enc p ++ L.drop (i * sz + sz) = M := ⟨_, rfl⟩
  rw [hM] at hset
  have hMl : M.length = xs.length * sz := by rw [← hM, List.length_append, List.length_append, List.length_take, List.length_drop, hLl, hp]; omega
  refine ⟨h.1, M, ⟨?_, .inr ⟨g, c, cs', by rw [List.length_set], hg, k1.out, by rw [List.length_set]; exact hnc, hmax, by rw [k2, hs]; rfl, by rw [List.length_set]; exact hset⟩⟩, ?_, ?_⟩
  · rw [List.length_set]; exact hMl
  · rw [List.length_set]; exact hMl
  · intro j q hj
    have hjl : j < xs.length := by have := (List.getElem?_eq_some_iff.1 hj).1; simpa using this
    have hmj := mul_lt j xs.length sz hjl
    show (M.drop (j * sz)).take sz = enc q ∧ ((M.drop (j * sz)).take sz).length = sz
    by_cases hji : j = i
    · subst hji
      obtain rfl : p = q := by simpa [hjl] using hj
      have e1 : M.drop (j * sz) = enc p ++ L.drop (j * sz + sz) := by
        rw [← hM, List.append_assoc]
        have h5 : (L.take (j * sz)).length = j * sz := by rw [List.length_take, hLl]; omega
        rw [List.drop_append_of_le_length (by omega), List.drop_eq_nil_of_le (by omega), List.nil_append]
      rw [e1, List.take_append_of_le_length (by omega), List.take_of_length_le (by omega)]
      exact ⟨rfl, hp⟩
    · have hq : xs[j] = q := by
        rw [List.getElem?_set_ne (Ne.symm hji), List.getElem?_eq_getElem hjl] at hj
        exact Option.some.inj hj
      have hr' : Reps (fun x cs => cs = enc x ∧ cs.length = sz) sz xs L := hr
      obtain ⟨k4, k5⟩ := inner_take hr' j hjl
      rw [hq] at k4 k5
      have e2 : (M.drop (j * sz)).take sz = (L.drop (j * sz)).take sz := by
        rw [← hM]
        apply List.ext_getElem?
        intro t
        simp only [List.getElem?_take, List.getElem?_drop, List.getElem?_append, List.length_append, List.length_take, hLl, hp]
        by_cases ht : t < sz
        · rw [if_pos ht, if_pos ht]
          rcases Nat.lt_or_ge j i with hlt | hge
          · have := mul_lt j i sz hlt
            rw [if_pos (by omega), if_pos (by omega), if_pos (by omega)]
          · have := mul_lt i j sz (by omega)
            rw [if_neg (by omega)]
            congr 1
            omega
        · rw [if_neg ht, if_neg ht]
      rw [e2, k4]
      exact ⟨rfl, k5⟩
theorem flat_move {w1 : World} {v : Value} (h : (flat sz enc h1).R e w base ok v xs) (hm : ∀ k, v.ownBlock = some k → w1.heap[k]? = w.heap[k]?) : (flat sz enc h1).R e w1 base ok v xs := by
  obtain ⟨h0, inner, ho, hr⟩ := h
  exact ⟨h0, inner, own_move ho hm, hr⟩
theorem flat_lt {v : Value} (h : (flat sz enc h1).R e w base ok v xs) : ∀ k, v.ownBlock = some k → k < w.heap.size ∧ ok k := fun k hk => by
  obtain ⟨h0, inner, ho, hr⟩ := h
  exact ⟨own_lt ho k hk, h0 k hk⟩
/-- A new row, every element the zero. -/
theorem flat_made (z : α) (hz : (enc z).length = sz) (hs : 0 < sz) (m : Nat) (w : World) (hB : base ≤ w.heap.size) (hok : ok w.heap.size) (hm : m ≤ maxLen) :
    (flat sz enc h1).R e (w.alloc (.cells (madeCells (enc z).toArray (m * sz)) e)) base ok (.slice (some ⟨w.heap.size, 0, none⟩) m m) (List.replicate m z) := by
  have ho := World.ownsRow_lit (base := base) (e := e) (size := sz) w (madeCells (enc z).toArray (m * sz)) m hB hm (size_madeCells _ _)
  refine ⟨fun k hk => ?_, (madeCells (enc z).toArray (m * sz)).toList, by rw [List.length_replicate]; exact ho, ?_, fun j p hj => ?_⟩
  · have : w.heap.size = k := by simpa [Value.ownBlock] using hk
    rw [← this]; exact hok
  · rw [Array.length_toList, size_madeCells, List.length_replicate]; rfl
  · have hjm : j < m := by have := (List.getElem?_eq_some_iff.1 hj).1; simpa using this
    obtain rfl : z = p := by simpa [hjm] using hj
    have hmul := mul_lt j m sz hjm
    have e1 : ((madeCells (enc z).toArray (m * sz)).toList.drop (j * sz)).take sz = enc z := by
      apply List.ext_getElem?
      intro i
      by_cases hi : i < sz
      · rw [List.getElem?_take_of_lt hi, List.getElem?_drop]
        have hlt : j * sz + i < m * sz := by omega
        rw [List.getElem?_eq_getElem (by simpa [size_madeCells] using hlt), List.getElem?_eq_getElem (by omega)]
        congr 1
        have hmod : (j * sz + i) % sz = i := by rw [Nat.mul_comm, Nat.mul_add_mod, Nat.mod_eq_of_lt hi]
        simp [madeCells, hz, hmod, hi]
      · rw [List.getElem?_eq_none (by rw [List.length_take]; omega), List.getElem?_eq_none (by omega)]
    show _ ∧ _
    have hsz : (flat sz enc h1).sz = sz := rfl
    rw [hsz, e1]
    exact ⟨rfl, hz⟩
/-- An element is appended to a row of the call's own. -/
theorem flat_append {P : Program} {t : TypeId} (ty : TypeId) {z : Value} {bytes : Nat} (ht : P.underlying t = some (.slice e)) (hi : (P.info? e).map (fun i => (i.zero, i.size, i.bytes)) = some (some z, sz, bytes)) (hz : z.cells.size = sz) (hs0 : 0 < sz) (hb0 : 0 < bytes)
    {v : Value} (HO : (flat sz enc h1).R e w base ok v xs) (p : α) (hp : (enc p).length = sz) (hok : ∀ k, w.heap.size ≤ k → ok k) (hB : base ≤ w.heap.size) (hl : (xs.length + 1) * bytes ≤ 140737488355328) :
    ∃ v1 w1, (Builtin.append_ #[t, t] ty #[v, .slice (some ⟨w.heap.size, 0, none⟩) 1 1]).run P (w.alloc (.cells (enc p).toArray e)) = .ok v1 w1 ∧ (flat sz enc h1).R e w1 base ok v1 (xs ++ [p]) ∧ w.grownBy w1 v.ownBlock := by
  obtain ⟨i0, hi0, hzz⟩ := Option.map_eq_some_iff.1 hi
  simp only [Prod.mk.injEq] at hzz
  obtain ⟨hz0, hz1, hz2⟩ := hzz
  obtain ⟨h0, inner, hown, hr⟩ := HO
  have hown' : w.ownsRow base e sz v xs.length inner := hown
  have hlen : xs.length + 1 ≤ 140737488355328 := Nat.le_trans (Nat.le_mul_of_pos_right _ hb0) hl
  obtain ⟨v1, w1, hrun, ho, hg, -, hat⟩ := run_append_own_at (P := P) (w.alloc (.cells (enc p).toArray e)) base t ty e i0 z sz bytes ht hi0 hz0 hz1 hz2 hz hs0 v xs.length inner (hown'.alloc _) ⟨w.heap.size, 0, none⟩ 1 1 (enc p) (by rw [hp]; simp)
    (by simpa using World.news_of_block (cs := (enc p).toArray) (t := e) (fr := (0, 0)) (heap_alloc_new w (.cells (enc p).toArray e))) (h1 p) (by simp only [maxLen]; omega) hl (by simp; omega)
  refine ⟨v1, w1, hrun, ⟨fun k hk => ?_, inner ++ enc p, by rw [List.length_append, List.length_singleton]; exact ho, hr.snoc ⟨rfl, hp⟩ hp⟩, World.grownBy.trans (World.grownBy_alloc w _ _) hg⟩
  rcases hat with hat | hat
  · rw [hat] at hk; exact h0 k hk
  · rw [hat] at hk
    have : (w.alloc (.cells (enc p).toArray e)).heap.size = k := Option.some.inj hk
    refine hok k ?_
    rw [← this]
    simp
end
/-- A slice literal of one element of many cells. -/
theorem run_buildSlice_one {P : Program} {t e : TypeId} {z : Value} {n bytes : Nat} (hu : P.underlying t = some (.slice e)) (hi : (P.info? e).map (fun i => (i.zero, i.size, i.bytes)) = some (some z, n, bytes)) (h0 : 0 < n) (hn : n ≤ 16777216)
    (vs : Array Value) (hv : vs.size = n) (w : World) : (Instr.buildSlice t 1 #[(0, .agg vs)]).run P w = .ok (.slice (some ⟨w.heap.size, 0, none⟩) 1 1) (w.alloc (.cells vs e)) := by
  obtain ⟨ie, hie, h1⟩ := Option.map_eq_some_iff.1 hi
  simp only [Prod.mk.injEq] at h1
  obtain ⟨h1, h2, h3⟩ := h1
  have h4 : ¬ 1 * ie.size > 2 ^ 24 := by
    have h5 : (2 : Nat) ^ 24 = 16777216 := by decide
    rw [Nat.one_mul, h2, h5]; omega
  refine run_buildSlice w t e 1 _ vs ie z hu hie h1 h4 (by omega) ?_
  have h6 := Go.Great.fill_whole (s := ie.size) (by omega) [.agg vs] ((Array.range (1 * ie.size)).map (z.cells[· % z.cells.size]!)) (fun v hv' => by rw [List.mem_singleton.1 hv']; show vs.size = _; omega) (by simp)
  refine Eq.trans ?_ (h6.trans ?_)
  · rfl
  · simp [Value.cells]
/-- An operation that loads many cells, run. -/
theorem exec_load_mid {P : Program} {o : Oper} {a : Act} {w : World} (ty : TypeId) (x : Operand) (ho : o.op = .load ty x) (b off : Nat) (hx : a.eval x = .pointer (some ⟨b, off, none⟩)) (cs : List Value) (d : TypeDesc) (hc : w.rangeAt b off cs)
    (hu : P.underlying ty = some d) (hd : d.isRow = true) (hi : (P.info? ty).map (·.size) = some cs.length) : (execOp a.eval o).run P w = .ok (.value (.agg cs.toArray)) w := by
  unfold execOp
  simp only [ho, hx, Instr.loadAt, Instr.sureAddr, Sem.run_bind, Sem.run_pure, Result.andThen_ok, run_loadVar_mid w b off ty cs d hc hu hd hi]
theorem exec_slice_one {P : Program} {o : Oper} {a : Act} {t e : TypeId} (x : Operand) (ho : o.op = .buildSlice t 1 #[(0, x)]) (vs : Array Value) (hx : a.eval x = .agg vs) {z : Value} {n bytes : Nat} (hu : P.underlying t = some (.slice e)) (hi : (P.info? e).map (fun i => (i.zero, i.size, i.bytes)) = some (some z, n, bytes)) (h0 : 0 < n) (hn : n ≤ 16777216)
    (hv : vs.size = n) (w : World) : (execOp a.eval o).run P w = .ok (.value (.slice (some ⟨w.heap.size, 0, none⟩) 1 1)) (w.alloc (.cells vs e)) := by
  have h := run_buildSlice_one hu hi h0 hn vs hv w
  have e1 : (#[(0, x)] : Array (Nat × Operand)).map (fun (i, y) => (i, a.eval y)) = #[(0, .agg vs)] := by simp [hx]
  unfold execOp
  simp only [ho, e1, Sem.run_bind, h, Result.andThen_ok, Sem.run_pure]
theorem exec_append {P : Program} {o : Oper} {a : Act} {t : TypeId} (s x : Operand) (ho : o.op = .call { callee := .builtin .append, args := #[s, x], argTypes := #[t, t] }) {v u v1 : Value} {w w1 : World} (hs : a.eval s = v) (hx : a.eval x = u)
    (hr : (Builtin.append_ #[t, t] o.type #[v, u]).run P w = .ok v1 w1) : (execOp a.eval o).run P w = .ok (.value v1) w1 := by
  unfold execOp
  simp only [ho, resolve, invoke, builtin, Sem.run_bind, Sem.run_pure, Result.andThen_ok, List.map_toArray, List.map_cons, List.map_nil, hs, hx, hr]
/-! ### blocks by classes -/
/-- Of the elder blocks only some of P's may have turned. -/
structure OnlyP (P : Nat → Prop) (w w' : World) : Prop where mk ::
  os : w'.os = w.os
  tape : w'.tape = w.tape
  output : w'.output = w.output
  size : w.heap.size ≤ w'.heap.size
  block : ∀ k, k < w.heap.size → ¬ P k → w'.heap[k]? = w.heap[k]?
namespace OnlyP
variable {P Q : Nat → Prop} {w w1 w2 : World}
theorem refl (P : Nat → Prop) (w : World) : OnlyP P w w := ⟨rfl, rfl, rfl, Nat.le_refl _, fun _ _ _ => rfl⟩
theorem of_below (h : Below w.heap.size w w1) : OnlyP P w w1 := ⟨h.os, h.tape, h.output, h.size, fun k hk _ => h.block k hk⟩
theorem below {B : Nat} (h : OnlyP P w w1) (hB : B ≤ w.heap.size) (hP : ∀ k, P k → B ≤ k) : Below B w w1 :=
  ⟨h.os, h.tape, h.output, h.size, fun k hk => h.block k (by omega) (fun hm => by have := hP k hm; omega)⟩
theorem trans (h : OnlyP P w w1) (h' : OnlyP P w1 w2) : OnlyP P w w2 :=
  ⟨h'.os.trans h.os, h'.tape.trans h.tape, h'.output.trans h.output, Nat.le_trans h.size h'.size, fun k hk hn => (h'.block k (Nat.lt_of_lt_of_le hk h.size) hn).trans (h.block k hk hn)⟩
theorem step (h : OnlyP P w w1) (hb : Below w1.heap.size w1 w2) : OnlyP P w w2 := h.trans (of_below hb)
theorem mono (h : OnlyP P w w1) (hS : ∀ k, k < w.heap.size → P k → Q k) : OnlyP Q w w1 := ⟨h.os, h.tape, h.output, h.size, fun k hk hn => h.block k hk (fun hp => hn (hS k hk hp))⟩
theorem alloc (h : OnlyP P w w1) (o : Obj) : OnlyP P w (w1.alloc o) := h.step ((Below.refl _ _).alloc (Nat.le_refl _) o)
theorem drew (h : OnlyP P w w1) : OnlyP P w w1.drew := ⟨h.os, h.tape, h.output, h.size, h.block⟩
theorem setCell (h : OnlyP P w w1) {p : Addr} (hp : P p.block ∨ w.heap.size ≤ p.block) (u : Value) : OnlyP P w (w1.setCell p u) :=
  ⟨h.os, h.tape, h.output, by simpa [World.setCell] using h.size, fun k hk hn => (Below.heap_setCell w1 p u k (fun e => by subst e; rcases hp with hp | hp; exact hn hp; omega)).trans (h.block k hk hn)⟩
theorem setCells (h : OnlyP P w w1) {g : Nat} (hp : P g ∨ w.heap.size ≤ g) (o : Nat) (vs : List Value) : OnlyP P w (w1.setCells g o vs) := by
  obtain ⟨a, b, c, d⟩ := setCells_same g vs o w1
  exact ⟨a.trans h.os, b.trans h.tape, c.trans h.output, by rw [d]; exact h.size, fun k hk hn => (Go.Proofs.YtddhngalokmdoaaW.PrintWords.setCells_far vs o k (fun e => by subst e; rcases hp with hp | hp; exact hn hp; omega)).trans (h.block k hk hn)⟩
theorem grown {row : Option Nat} (h : OnlyP P w w1) (hg : w1.grownBy w2 row) (hr : ∀ k, row = some k → P k ∨ w.heap.size ≤ k) : OnlyP P w w2 :=
  ⟨hg.os.trans h.os, hg.tape.trans h.tape, hg.output.trans h.output, Nat.le_trans h.size hg.size, fun k hk hn =>
    (hg.block k (Nat.lt_of_lt_of_le hk h.size) (fun e => by rcases hr k e.symm with h1 | h1; exact hn h1; omega)).trans (h.block k hk hn)⟩
theorem blk {g : Nat} {T : TypeId} {cs : Array Value} (ho : OnlyP P w w1) (h : Blk w g T cs) (hn : ¬ P g) : Blk w1 g T cs := ⟨(ho.block g h.lt hn).trans h.out⟩
end OnlyP
end Go.Proofs.Ytddhngalokmdoaa.Arr

/- A tray, plainly. No program. -/
namespace Go.Proofs.Ytddhngalokmdoaa.Spo
set_option linter.unusedVariables false

/-- Sectors as they are kept, writes in the cache, steps left, dark. -/
structure TrayV where
  kept : List (List Int)
  cache : List (Int × List Int)
  left : Int
  dark : Bool
def stepV (V : TrayV) : TrayV × Bool := if V.left = 0 then ({ V with dark := true }, false) else if 0 < V.left then ({ V with left := V.left - 1 }, true) else (V, true)
def padB (b : List Int) : List Int := b ++ List.replicate (128 - b.length) 0
theorem padB_length {b : List Int} (h : b.length ≤ 128) : (padB b).length = 128 := by
  unfold padB
  rw [List.length_append, List.length_replicate]
  omega
def hasV (V : TrayV) (at_ : Int) : Bool := decide (0 ≤ at_) && decide (at_ < V.kept.length)
def writeV (V : TrayV) (at_ : Int) (b : List Int) : TrayV × Int :=
  if hasV V at_ = false ∨ 128 < b.length then (V, 1) else if (stepV V).2 = true then ({ (stepV V).1 with cache := V.cache ++ [(at_, padB b)] }, 0) else ((stepV V).1, 20)
def lastV (l : List (Int × List Int)) (at_ : Int) (b : List Int) : List Int := l.foldl (fun b w => if w.1 = at_ then w.2 else b) b
def readV (V : TrayV) (at_ : Int) : List Int := lastV V.cache at_ (V.kept.getD at_.toNat [])
def settleV (kept : List (List Int)) (l : List (Int × List Int)) : List (List Int) := l.foldl (fun k w => k.set w.1.toNat w.2) kept
def flushV (V : TrayV) : TrayV × Int := if (stepV V).2 = true then ({ (stepV V).1 with kept := settleV V.kept V.cache, cache := [] }, 0) else ((stepV V).1, 20)
def powerV (V : TrayV) (n : Int) : TrayV × Int := if n < 0 ∨ n > 1099511627776 then (V, 1) else ({ V with left := n, dark := false }, 0)
/-- The writes that are kept at a loss of power. -/
def chosen : List (Int × List Int) → List Bool → List (Int × List Int)
  | [], _ => []
  | _ :: _, [] => []
  | w :: l, c :: cs => if c then w :: chosen l cs else chosen l cs
def loseV (V : TrayV) (choice : List Bool) : TrayV := ⟨settleV V.kept (chosen V.cache choice), [], -1, false⟩
def newV (n : Nat) : TrayV := ⟨List.replicate n (List.replicate 128 0), [], -1, false⟩
/-- Sectors have 128 bytes; what is cached has its sector. -/
structure Sound (V : TrayV) : Prop where mk ::
  kept : ∀ b, b ∈ V.kept → b.length = 128
  cache : ∀ x, x ∈ V.cache → 0 ≤ x.1 ∧ x.1 < V.kept.length ∧ x.2.length = 128
  len : V.kept.length ≤ 4096
theorem settle_length (l : List (Int × List Int)) : ∀ k, (settleV k l).length = k.length := by
  induction l with
  | nil => intro k; rfl
  | cons a l ih => intro k; show (settleV (k.set _ _) l).length = _; rw [ih, List.length_set]
theorem settle_sound {l : List (Int × List Int)} (hl : ∀ x, x ∈ l → x.2.length = 128) : ∀ k : List (List Int), (∀ b, b ∈ k → b.length = 128) → ∀ b, b ∈ settleV k l → b.length = 128 := by
  induction l with
  | nil => intro k h; exact h
  | cons a l ih =>
    intro k h
    refine ih (fun x hx => hl x (by simp [hx])) (k.set a.1.toNat a.2) fun b hb => ?_
    rcases List.mem_or_eq_of_mem_set hb with h1 | h1
    · exact h b h1
    · rw [h1]; exact hl a (by simp)
theorem step_kept (V : TrayV) : (stepV V).1.kept = V.kept ∧ (stepV V).1.cache = V.cache := by
  unfold stepV
  split
  · exact ⟨rfl, rfl⟩
  · split <;> exact ⟨rfl, rfl⟩
theorem Sound.step {V : TrayV} (h : Sound V) : Sound (stepV V).1 := by
  obtain ⟨h1, h2⟩ := step_kept V
  exact ⟨by rw [h1]; exact h.kept, by rw [h1, h2]; exact h.cache, by rw [h1]; exact h.len⟩
theorem Sound.write {V : TrayV} (h : Sound V) (at_ : Int) (b : List Int) : Sound (writeV V at_ b).1 := by
  unfold writeV
  split
  · exact h
  next hb =>
    split
    · have hs := h.step
      obtain ⟨h1, h2⟩ := step_kept V
      refine ⟨hs.kept, fun x hx => ?_, hs.len⟩
      rcases List.mem_append.1 hx with hx | hx
      · have := h.cache x hx
        rw [← h1] at this
        exact this
      · obtain rfl := List.mem_singleton.1 hx
        have hh : hasV V at_ = true := by
          cases hc : hasV V at_ with
          | true => rfl
          | false => exact absurd (.inl hc) hb
        unfold hasV at hh
        simp only [Bool.and_eq_true, decide_eq_true_eq] at hh
        refine ⟨hh.1, ?_, padB_length (by omega)⟩
        show at_ < ((stepV V).1.kept.length : Int)
        rw [h1]; exact hh.2
    · exact h.step
theorem Sound.flush {V : TrayV} (h : Sound V) : Sound (flushV V).1 := by
  unfold flushV
  split
  · refine ⟨settle_sound (fun x hx => (h.cache x hx).2.2) _ h.kept, fun x hx => (by cases hx), ?_⟩
    show (settleV V.kept V.cache).length ≤ 4096
    rw [settle_length]; exact h.len
  · exact h.step
theorem Sound.power {V : TrayV} (h : Sound V) (n : Int) : Sound (powerV V n).1 := by
  unfold powerV
  split
  · exact h
  · exact ⟨h.kept, h.cache, h.len⟩
theorem chosen_mem : ∀ (l : List (Int × List Int)) (c : List Bool) (x : Int × List Int), x ∈ chosen l c → x ∈ l
  | [], _, _, h => by simp [chosen] at h
  | _ :: _, [], _, h => by simp [chosen] at h
  | w :: l, c :: cs, x, h => by
    simp only [chosen] at h
    split at h
    · rcases List.mem_cons.1 h with rfl | h
      · simp
      · exact List.mem_cons_of_mem _ (chosen_mem l cs x h)
    · exact List.mem_cons_of_mem _ (chosen_mem l cs x h)
theorem Sound.lose {V : TrayV} (h : Sound V) (c : List Bool) : Sound (loseV V c) :=
  ⟨settle_sound (fun x hx => (h.cache x (chosen_mem _ _ x hx)).2.2) _ h.kept, fun x hx => (by cases hx), by show (settleV V.kept _).length ≤ 4096; rw [settle_length]; exact h.len⟩
theorem Sound.new {n : Nat} (h : n ≤ 4096) : Sound (newV n) :=
  ⟨fun b hb => by rw [(List.mem_replicate.1 hb).2]; simp, fun x hx => (by cases hx), by show (List.replicate n _).length ≤ 4096; simpa using h⟩
theorem last_length {l : List (Int × List Int)} (hl : ∀ x, x ∈ l → x.2.length = 128) (at_ : Int) : ∀ b : List Int, b.length = 128 → (lastV l at_ b).length = 128 := by
  induction l with
  | nil => intro b h; exact h
  | cons a l ih =>
    intro b h
    refine ih (fun x hx => hl x (by simp [hx])) _ ?_
    show (if a.1 = at_ then a.2 else b).length = 128
    split
    · exact hl a (by simp)
    · exact h
theorem Sound.read {V : TrayV} (h : Sound V) {at_ : Int} (hh : hasV V at_ = true) : (readV V at_).length = 128 := by
  unfold hasV at hh
  simp only [Bool.and_eq_true, decide_eq_true_eq] at hh
  refine last_length (fun x hx => (h.cache x hx).2.2) at_ _ ?_
  have hi : at_.toNat < V.kept.length := by omega
  rw [List.getD, List.getElem?_eq_getElem hi, Option.getD_some]
  exact h.kept _ (List.getElem_mem hi)
theorem last_snoc (l : List (Int × List Int)) (x : Int × List Int) (at_ : Int) (b : List Int) : lastV (l ++ [x]) at_ b = if x.1 = at_ then x.2 else lastV l at_ b := by
  unfold lastV
  rw [List.foldl_append]
  rfl
theorem settle_snoc (k : List (List Int)) (l : List (Int × List Int)) (x : Int × List Int) : settleV k (l ++ [x]) = (settleV k l).set x.1.toNat x.2 := by
  unfold settleV
  rw [List.foldl_append]
  rfl
end Go.Proofs.Ytddhngalokmdoaa.Spo
