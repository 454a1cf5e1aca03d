/- Slices of numbers that the call itself makes. Any program. -/
import Derived.Test.YtcgfdnhocdcfjaaArr
namespace Go.Proofs.Ytcgfdnhocdcfjaa.Arr
open Go.RowKit Go.Proofs.YtcgfdnhocdcfjaaW.PrintWords
set_option linter.unusedVariables false
set_option linter.unusedSimpArgs false

/-- v is a slice of the call's own (blocks from B on) that holds xs. -/
structure Row (w : World) (B : Nat) (e : TypeId) (k : IntKind) (v : Value) (xs : List Int) : Prop where mk ::
  own : w.ownsRow B e 1 v xs.length (nums k xs)
namespace Row
variable {w w1 : World} {B : Nat} {e : TypeId} {k : IntKind} {v : Value} {xs : List Int}
theorem nil (w : World) (B : Nat) (e : TypeId) (k : IntKind) : Row w B e k (.slice none 0 0) [] := ⟨own_nil _ _ _ _⟩
theorem lit {g : Nat} {cs : Array Value} (hg : g = w.heap.size) (hB : B ≤ w.heap.size) (hcs : cs = (nums k xs).toArray) {n : Nat} (hn : n = xs.length) (hm : xs.length ≤ 9223372036854775807) :
    Row (w.alloc (.cells cs e)) B e k (.slice (some ⟨g, 0, none⟩) n n) xs := by
  subst hg hcs hn
  exact ⟨own_lit w B e k xs hB hm⟩
theorem move (h : Row w B e k v xs) (hm : ∀ g, v.ownBlock = some g → w1.heap[g]? = w.heap[g]?) : Row w1 B e k v xs := ⟨own_move h.own hm⟩
theorem below (h : Row w B e k v xs) (hb : Below w.heap.size w w1) : Row w1 B e k v xs := h.move fun g hg => hb.block g (own_lt h.own g hg)
theorem alloc (h : Row w B e k v xs) (o : Obj) : Row (w.alloc o) B e k v xs := h.below ((Below.refl _ _).alloc (Nat.le_refl _) o)
theorem drewN (h : Row w B e k v xs) (n : Nat) : Row (w.drewN n) B e k v xs := h.move fun _ _ => rfl
theorem drew (h : Row w B e k v xs) : Row w.drew B e k v xs := h.move fun _ _ => rfl
theorem ne (h : Row w B e k v xs) {g : Nat} {T : TypeId} {cs : Array Value} (hb : Blk w g T cs) (hT : e ≠ T) : some g ≠ v.ownBlock := own_ne h.own hb.out hT
theorem set (h : Row w B e k v xs) {g : Nat} {T : TypeId} {cs : Array Value} (hb : Blk w g T cs) (hT : e ≠ T) (i : Nat) (u : Value) : Row (w.setCell ⟨g, i, none⟩ u) B e k v xs :=
  h.move fun j hj => Below.heap_setCell w _ u j (fun hh => h.ne hb hT (by rw [hj]; exact congrArg some hh.symm))
theorem setRow (h : Row w B e k v xs) {g : Nat} {T : TypeId} {cs : Array Value} (hb : Blk w g T cs) (hT : e ≠ T) (cs' : Array Value) : Row (w.setRow g cs') B e k v xs :=
  h.move fun j hj => setRow_other w g j cs' (fun hh => h.ne hb hT (by rw [hj]; exact congrArg some hh.symm))
theorem reads (h : Row w B e k v xs) : ∃ A c, v = .slice A xs.length c ∧ ReadsInt w k A xs.length xs := own_reads h.own
theorem form (h : Row w B e k v xs) : (v = .slice none 0 0 ∧ xs = []) ∨ ∃ g c, v = .slice (some ⟨g, 0, none⟩) xs.length c ∧ B ≤ g ∧ g < w.heap.size ∧ xs.length ≤ c ∧ c ≤ maxLen := by
  rcases h.own.2 with ⟨h1, h2⟩ | ⟨g, cap, cur, h1, h2, h3, h4, h5, _⟩
  · exact .inl ⟨h1, List.length_eq_zero_iff.1 h2⟩
  · exact .inr ⟨g, cap, h1, h2, blk_lt h3, h4, h5⟩
theorem lower (h : Row w B e k v xs) {B' : Nat} (hB : B' ≤ B) : Row w B' e k v xs := ⟨own_weaken h.own hB⟩
theorem at_ {g n c : Nat} (h : Row w B e k (.slice (some ⟨g, 0, none⟩) n c) xs) (i : Nat) (hi : i < xs.length) : w.cell? ⟨g, i, none⟩ = some (.int k (xs.getD i 0)) := by
  obtain ⟨A, c', e1, h1⟩ := h.reads
  simp only [Value.slice.injEq] at e1
  obtain ⟨e1, _, _⟩ := e1
  obtain ⟨ad, e2, h2⟩ := h1.2.2 (by omega)
  rw [← e1] at e2
  simp only [Option.some.injEq] at e2
  subst e2
  have := h2 i hi
  rwa [add_plain] at this
theorem cap_le {A : Option Addr} {n c : Nat} (h : Row w B e k (.slice A n c) xs) : n ≤ c := own_le h.own
/-- What is new is another block. -/
theorem apart_new (h : Row w B e k v xs) {g : Nat} (hg : w.heap.size ≤ g) : v.ownBlock = none ∨ v.ownBlock ≠ some g := by
  cases hv : v.ownBlock with
  | none => exact .inl rfl
  | some j =>
    refine .inr fun hh => ?_
    have := own_lt h.own j hv
    simp only [Option.some.injEq] at hh
    omega
theorem le (h : Row w B e k v xs) {g : Nat} (hg : v.ownBlock = some g) : B ≤ g ∧ g < w.heap.size := ⟨own_base h.own g hg, own_lt h.own g hg⟩
end Row
theorem Blk.grown {w w1 : World} {g : Nat} {T : TypeId} {cs : Array Value} (h : Blk w g T cs) {row : Option Nat} (hg : w.grownBy w1 row) (hne : some g ≠ row) : Blk w1 g T cs := ⟨blk_grown h.out hg hne⟩
theorem Row.grown {w w1 : World} {B : Nat} {e : TypeId} {k : IntKind} {v : Value} {xs : List Int} (h : Row w B e k v xs) {row : Option Nat} (hg : w.grownBy w1 row) (hne : v.ownBlock = none ∨ v.ownBlock ≠ row) : Row w1 B e k v xs := ⟨own_other h.own hg hne⟩

section
variable {P : Program} {ops : Array Oper} {rest : List Oper} {o : Oper} {a : Act} {Q : Exit → Act → World → Prop}
/-- append(v, x...): v of the call's own. -/
theorem wpList_append_nums {w0 W : World} (B : Nat) (e : TypeId) (k : IntKind) (bytes : Nat) (hgd : o.guard = none) (s x : Operand) (t : TypeId)
    (ho : o.op = .call { callee := .builtin .append, args := #[s, x], argTypes := #[t, t] })
    (ht : P.underlying t = some (.slice e)) (hinfo : (P.info? e).map (fun i => (i.zero, i.size, i.bytes)) = some (some (.int k 0), 1, bytes)) (hb0 : 0 < bytes)
    (v : Value) (xs ys : List Int) (A : Option Addr) (m c : Nat) (hs : a.eval s = v) (hx : a.eval x = .slice A m c)
    (HO : Row W B e k v xs) (HR : ReadsInt W k A m ys) (HB : Below B w0 W) (hbase : B ≤ W.heap.size) (hl : (xs.length + m) * bytes ≤ 140737488355328)
    (h : ∀ v1 w1, Row w1 B e k v1 (xs ++ ys) → Below B w0 w1 → W.grownBy w1 v.ownBlock → (v1.ownBlock = v.ownBlock ∨ ∃ b, v1.ownBlock = some b ∧ W.heap.size ≤ b) → wpList P ops Q rest (a.put o.dst v1) w1) :
    wpList P ops Q (o :: rest) a W :=
  print_append_row (w0 := w0) B hgd s x t e k bytes ho ht hinfo hb0 v xs ys A m c hs hx HO.own HR HB hbase hl fun v1 w1 h1 h2 h3 h4 => h v1 w1 ⟨h1⟩ h2 h3 h4
end
/-- A cell that was made just now, read as a slice of one. -/
theorem reads_one {w : World} {e : TypeId} {k : IntKind} {x : Int} {g : Nat} (hg : g = w.heap.size) : ReadsInt (w.alloc (.cells #[.int k x] e)) k (some ⟨g, 0, none⟩) 1 [x] := by
  subst hg
  refine ⟨rfl, by omega, fun _ => ⟨_, rfl, fun j hj => ?_⟩⟩
  obtain rfl : j = 0 := by omega
  rw [add_plain]
  exact ((Blk.new w e #[.int k x]).cell 0)
/-- An array in a block, read as a slice. -/
theorem Blk.readsNums {w : World} {g : Nat} {T : TypeId} {k : IntKind} {xs : List Int} (h : Blk w g T (numsA k xs)) (hm : xs.length ≤ 9223372036854775807) : ReadsInt w k (some ⟨g, 0, none⟩) xs.length xs := by
  refine ⟨rfl, hm, fun _ => ⟨_, rfl, fun j hj => ?_⟩⟩
  rw [add_plain]
  exact (h.cell j).trans (numsA_get _ _ j hj)
end Go.Proofs.Ytcgfdnhocdcfjaa.Arr
