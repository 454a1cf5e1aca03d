/- A node that came in. -/
import Derived.Test.YtpilbomkdafdfaaOps
import Derived.Test.YtpilbomkdafdfaaTpm
import Derived.Test.YtpilbomkdafdfaaRows
import Derived.Deep.Slices
import Derived.Lib.SmallJoins
namespace Go.Proofs.Ytpilbomkdafdfaa.Tra
open Go.Deep Go.ChangeShapes Go.WideShapes Go.ChangeAt Go.RowKit Go.Proofs.YtpilbomkdafdfaaW.PrintWords Go.Proofs.YtpilbomkdafdfaaW.PrintLast Go.Proofs.YtpilbomkdafdfaaW.PrintMore Go.Proofs.Ytpilbomkdafdfaa.PTractRefs Go.Proofs.Ytpilbomkdafdfaa.Opb
set_option linter.unusedVariables false
set_option linter.unusedSimpArgs false
section
variable {H : Type} {enc : TypeId × Value → H} {w : World} {base : Nat} {sp : Nat → Bool} {held : Bool}
theorem add_blk (a : Addr) (k : Nat) : (a.add k).block = a.block := by unfold Addr.add; split <;> rfl
theorem add_two (a : Addr) (k i : Nat) : a.add (k + i) = (a.add k).add i := by
  unfold Addr.add
  by_cases h1 : k = 0
  · subst h1
    by_cases h2 : i = 0 <;> simp [h2]
  · by_cases h2 : i = 0
    · simp [h1, h2]
    · simp [h1, h2, Nat.add_assoc]
theorem list4 {α : Type} {cs : List α} (h : cs.length = 4) : ∃ a b c d, cs = [a, b, c, d] := by
  match cs, h with
  | [a, b, c, d], _ => exact ⟨a, b, c, d, rfl⟩
instance : Inhabited S24 := ⟨z24⟩
theorem strsL_le {l : List S24} {m : Nat} (h : ∀ y, y ∈ l → strs y ≤ m) : strsL l ≤ m := by
  induction l with
  | nil => simp [strsL]
  | cons x l ih =>
    have h1 := h x (by simp)
    have h2 := ih (fun y hy => h y (by simp [hy]))
    simp only [strsL]
    omega
theorem trod_node : ∀ (fuel : Nat) (cs : List Value) (y : DataW H × List MemPlace), DataW.trod enc Try.prog w base sp held fuel 24 cs = some y →
    ∃ (x : S24) (A : Option Addr) (c : Nat), cs = [.int .i64 x.f0, .string x.f1, .string x.f2, .slice A x.f3.length c] ∧ x.f3.length ≤ c ∧ Kd.C k24 w A x.f3.length x.f3 ∧ strs x ≤ maxLen := by
  intro fuel
  induction fuel using Nat.strongRecOn with
  | _ fuel ih =>
  intro cs y h
  have hC : Try.prog.cellsOf 24 = 4 := by kernel_rfl
  have l0 : Try.prog.cellsOf 3 = 1 := by kernel_rfl
  have l1 : Try.prog.cellsOf 9 = 1 := by kernel_rfl
  have l3 : Try.prog.cellsOf 22 = 1 := by kernel_rfl
  obtain ⟨xs, n, rfl, hx, hl, hlen, hf⟩ := DataW.trod_struct Try.underlying24 h
  rw [hC] at hl
  obtain ⟨c0, c1, c2, c3, rfl⟩ := list4 hl
  match xs, hlen with
  | [y0, y1, y2, y3], _ =>
    have q0 : DataW.trod enc Try.prog w base sp held n 3 [c0] = some y0 := by simpa [l0] using hf 0 _ rfl
    have q1 : DataW.trod enc Try.prog w base sp held n 9 [c1] = some y1 := by simpa [l1] using hf 1 _ rfl
    have q2 : DataW.trod enc Try.prog w base sp held n 9 [c2] = some y2 := by simpa [l1] using hf 2 _ rfl
    have q3 : DataW.trod enc Try.prog w base sp held n 22 [c3] = some y3 := by simpa [l3] using hf 3 _ rfl
    obtain ⟨kk, e0, -, -⟩ := DataW.trod_int Try.underlying3 q0
    simp at e0
    subst e0
    obtain ⟨a, rfl, rfl, ha⟩ := trod_str Try.underlying9 q1
    obtain ⟨b, rfl, rfl, hb⟩ := trod_str Try.underlying9 q2
    rcases DataW.trod_slice Try.underlying22 q3 with ⟨e3, -⟩ | ⟨ad, len, cap, elems, rest, m, rfl, e3, -, hbb, hlc, hmx, hel, he, -, -⟩
    · simp at e3
      subst e3
      exact ⟨⟨kk, a, b, []⟩, none, 0, rfl, Nat.le_refl _, Kd.C_nil k24 w, by simp only [strs, strsL]; omega⟩
    · simp at e3
      subst e3
      obtain ⟨X, hX⟩ := choose_lt (α := S24) (n := len) (p := fun i x => ∃ A c, w.cells? base (ad.add (i * 4)) 4 = some [.int .i64 x.f0, .string x.f1, .string x.f2, .slice A x.f3.length c] ∧ x.f3.length ≤ c ∧ Kd.C k24 w A x.f3.length x.f3 ∧ strs x ≤ maxLen) (fun i hi => by
        have h1 := he i hi
        rw [hC, List.getElem?_eq_getElem (by omega)] at h1
        obtain ⟨cs', h2, h3⟩ := Option.bind_eq_some_iff.1 h1
        obtain ⟨x, A, c, rfl, hx1, hx2, hx3⟩ := ih m (by omega) cs' _ h3
        exact ⟨x, A, c, h2, hx1, hx2, hx3⟩)
      have hlen : ((List.range len).map X).length = len := by simp
      refine ⟨⟨kk, a, b, (List.range len).map X⟩, some ad, cap, by rw [hlen], by rw [hlen]; exact hlc, ?_, ?_⟩
      · simp only
        rw [hlen]
        refine ⟨hlen, by unfold maxLen at hmx; omega, fun _ => ⟨ad, rfl, fun j p hj => ?_⟩⟩
        have hjl : j < len := by have := (List.getElem?_eq_some_iff.1 hj).1; simpa using this
        obtain rfl : X j = p := by simpa [hjl] using hj
        obtain ⟨A, c, hc, h5, h6, -⟩ := hX j hjl
        refine ⟨_, rfl, k24_mk w (X j) h5 h6, fun i u hi => ?_⟩
        unfold World.cells? at hc
        rw [if_pos (by rw [add_blk]; exact hbb)] at hc
        have hi4 : i < 4 := (List.getElem?_eq_some_iff.1 hi).1
        obtain ⟨bq, hb1, hb2⟩ := Lib.mapM_at hc i i (by simp [hi4])
        rw [hi] at hb1
        obtain rfl := Option.some.inj hb1
        rw [← hb2]
        show w.cell? (ad.add (j * 4 + i)) = _
        rw [add_two]
      · have h7 : strsL ((List.range len).map X) ≤ maxLen := strsL_le fun y hy => by
          obtain ⟨i, hi, rfl⟩ := List.mem_map.1 hy
          obtain ⟨_, _, _, _, _, h8⟩ := hX i (List.mem_range.1 hi)
          exact h8
        simp only [strs]
        omega
theorem open_node {r : Reach} {b0 : Nat} {v : Value} {d : DataW H} {ps : List MemPlace} (hv : Value.okWide Try.prog w r b0 24 v) (h : DataW.Trod enc Try.prog w base sp held 24 v d ps) :
    ∃ (x : S24) (A : Option Addr) (c : Nat), v = .agg #[.int .i64 x.f0, .string x.f1, .string x.f2, .slice A x.f3.length c] ∧ x.f3.length ≤ c ∧ Kd.C k24 w A x.f3.length x.f3 ∧ strs x ≤ maxLen := by
  obtain ⟨cs, rfl, hsz⟩ := okWide_struct Try.underlying24 hv
  obtain ⟨fuel, hf⟩ := h
  obtain ⟨x, A, c, e, h1, h2, h3⟩ := trod_node fuel _ _ hf
  refine ⟨x, A, c, ?_, h1, h2, h3⟩
  congr 1
  apply Array.toList_inj.1
  simpa [Value.cells] using e
end
end Go.Proofs.Ytpilbomkdafdfaa.Tra
