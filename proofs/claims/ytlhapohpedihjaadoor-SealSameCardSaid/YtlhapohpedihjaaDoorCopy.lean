/- copy into a block that is known whole; a block as a slice of the call's own. Any program. -/
import Derived.Test.YtlhapohpedihjaaDoorRow
import Derived.Laws.CopyOwn
namespace Go.Proofs.YtlhapohpedihjaaDoor.Arr
open Go.RowKit Go.Proofs.YtlhapohpedihjaaDoorW.PrintWords
set_option linter.unusedVariables false
set_option linter.unusedSimpArgs false
theorem numsA_list (k : IntKind) (xs : List Int) : (numsA k xs).toList = nums k xs := by simp [numsA, nums]
theorem wpList_copy_blk {P : Program} {w : World} {ops : Array Oper} {rest : List Oper} {o : Oper} {a : Act} {Q : Exit → Act → World → Prop} (hgd : o.guard = none) (d s : Operand) (dT sT : TypeId)
    (ho : o.op = .call { callee := .builtin .copy, args := #[d, s], argTypes := #[dT, sT] }) (elem : TypeId) (hu : P.underlying dT = some (.slice elem)) (hsz : (P.info? elem).map (·.size) = some 1)
    (g dCap : Nat) (k : IntKind) (xs ys : List Int) (A : Option Addr) (n c m : Nat) (hd : a.eval d = .slice (some ⟨g, 0, none⟩) m dCap) (hs : a.eval s = .slice A n c) (hm : m = xs.length)
    (T : TypeId) (hB : Blk w g T (numsA k xs)) (hr : ReadsInt w k A n ys) (hn : n ≤ xs.length)
    (h : wpList P ops Q rest (a.put o.dst (goInt n)) (w.setRow g (numsA k (ys ++ xs.drop n)))) : wpList P ops Q (o :: rest) a w := by
  subst hm
  have hl := hr.1
  by_cases h0 : n = 0
  · subst h0
    obtain rfl : ys = [] := List.eq_nil_of_length_eq_zero hl
    refine wpList_copy_nothing hgd d s dT sT ho elem hu hsz _ A _ dCap 0 c hd hs (by simp) ?_
    rw [List.nil_append, List.drop_zero, setRow_self w g _ T _ hB.out] at h
    simpa using h
  · obtain ⟨ad, rfl, hc⟩ := hr.2.2 (by omega)
    refine wpList_copy_own hgd d s dT sT ho elem hu hsz g 0 _ dCap ad n c hd hs (numsA k xs) T hB.out (nums k ys) (by rw [nums_length, hl]; exact (Nat.min_eq_left hn).symm) ?_ (by rw [numsA_size, nums_length]; omega) ?_ ?_
    · intro j v hj
      have hlt : j < ys.length := by
        have := (List.getElem?_eq_some_iff.1 hj).1
        simpa [nums] using this
      have hv : v = .int k (ys.getD j 0) := by
        simp [nums, List.getElem?_eq_getElem hlt] at hj
        simp [List.getD, List.getElem?_eq_getElem hlt, hj]
      rw [hv]
      exact hc j (by omega)
    · intro v hv
      obtain ⟨x, _, rfl⟩ := List.mem_map.1 hv
      rfl
    · rw [nums_length, numsA_list, hl, Nat.zero_add, List.take_zero, List.nil_append]
      have e : (nums k ys ++ (nums k xs).drop n).toArray = numsA k (ys ++ xs.drop n) := by
        simp [numsA, nums, List.map_drop]
      rw [e]
      exact h
theorem Blk.toRow {w : World} {g B : Nat} {T : TypeId} {k : IntKind} {xs : List Int} (h : Blk w g T (numsA k xs)) (hB : B ≤ g) {m c : Nat} (hm : m = xs.length) (hc : c = xs.length) (hx : xs.length ≤ 9223372036854775807) :
    Row w B T k (.slice (some ⟨g, 0, none⟩) m c) xs := by
  subst hm hc
  refine ⟨?_, .inr ⟨g, xs.length, numsA k xs, rfl, hB, h.out, Nat.le_refl _, hx, ?_, ?_⟩⟩
  · rw [nums_length, Nat.mul_one]
  · rw [numsA_size, Nat.mul_one]
  · rw [numsA_list, Nat.mul_one]
    exact List.take_of_length_le (by rw [nums_length]; omega)
end Go.Proofs.YtlhapohpedihjaaDoor.Arr
