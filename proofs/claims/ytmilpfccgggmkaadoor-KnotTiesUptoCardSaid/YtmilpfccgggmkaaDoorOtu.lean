/- A list of tuples that came in. -/
import Derived.Test.YtmilpfccgggmkaaDoorOpt
import Derived.Test.YtmilpfccgggmkaaDoorKtu
import Derived.Test.YtmilpfccgggmkaaDoorRows
import Derived.Deep.Slices
import Derived.Lib.LaidTab
namespace Go.Proofs.YtmilpfccgggmkaaDoor.Knt
open Go.Deep Go.ChangeShapes Go.WideShapes Go.ChangeAt Go.RowKit Go.Proofs.YtmilpfccgggmkaaDoorW.PrintWords Go.Proofs.YtmilpfccgggmkaaDoorW.PrintLast Go.Proofs.YtmilpfccgggmkaaDoorW.PrintMore Go.Proofs.YtmilpfccgggmkaaDoor.Arr Go.Proofs.YtmilpfccgggmkaaDoor.PKnotTies Go.Proofs.YtmilpfccgggmkaaDoor.Opb
set_option linter.unusedVariables false
set_option linter.unusedSimpArgs false
section
variable {H : Type} {enc : TypeId × Value → H} {w : World} {base : Nat} {sp : Nat → Bool} {held : Bool}
def datS (x : S42) : DataW H := .agg [.lit (.string x.f0.data.toList), .lit (.string x.f1.data.toList), .lit (.string x.f2.data.toList), .agg [.lit (.string x.f3.f0.data.toList), .lit (.string x.f3.f1.data.toList), .lit (.string x.f3.f2.data.toList)]]
abbrev celS (x : S42) : List Value := [.string x.f0, .string x.f1, .string x.f2, .string x.f3.f0, .string x.f3.f1, .string x.f3.f2]
theorem add_blk (a : Addr) (k : Nat) : (a.add k).block = a.block := by unfold Addr.add; split <;> rfl
theorem add_two (a : Addr) (k i : Nat) : a.add (k + i) = (a.add k).add i := by
  unfold Addr.add
  by_cases h1 : k = 0
  · subst h1
    by_cases h2 : i = 0 <;> simp [h2]
  · by_cases h2 : i = 0
    · simp [h1, h2]
    · simp [h1, h2, Nat.add_assoc]
theorem list6 {α : Type} {cs : List α} (h : cs.length = 6) : ∃ a b c d e f, cs = [a, b, c, d, e, f] := by
  match cs, h with
  | [a, b, c, d, e, f], _ => exact ⟨a, b, c, d, e, f, rfl⟩
theorem trod_tup {n : Nat} {cs : List Value} {y : DataW H × List MemPlace} (h : DataW.trod enc Tryd.prog w base sp held n 42 cs = some y) : ∃ x : S42, cs = celS x ∧ y.1 = datS x := by
  have hC : Tryd.prog.cellsOf 42 = 6 := by kernel_rfl
  have l1 : Tryd.prog.cellsOf 9 = 1 := by kernel_rfl
  have l3 : Tryd.prog.cellsOf 40 = 3 := by kernel_rfl
  obtain ⟨y0, y1, y2, y3, n, hx, hl, q0, q1, q2, q3⟩ := Joins.trod_struct4 Tryd.underlying42 h
  rw [hC] at hl
  obtain ⟨c0, c1, c2, c3, c4, c5, rfl⟩ := list6 hl
  simp only [l1, l3] at q0 q1 q2 q3
  obtain ⟨a, rfl, rfl, ha⟩ := trod_str Tryd.underlying9 (by simpa using q0)
  obtain ⟨b, rfl, rfl, hb⟩ := trod_str Tryd.underlying9 (by simpa using q1)
  obtain ⟨c, rfl, rfl, hc⟩ := trod_str Tryd.underlying9 (by simpa using q2)
  obtain ⟨d, e, f, rfl, rfl, rfl, rfl, wx, wy, wz⟩ := trod_str3 Tryd.underlying40 (by kernel_rfl) Tryd.underlying9 Tryd.underlying9 Tryd.underlying9 (by simpa using q3)
  simp only [Prod.mk.injEq] at hx
  exact ⟨⟨a, b, c, ⟨d, e, f⟩⟩, rfl, by rw [hx]; rfl⟩
theorem data_len (s : ByteArray) : s.data.toList.length = s.size := by rw [Array.length_toList]; rfl
theorem bulk_datS (x : S42) : sizeS x ≤ Rows.uptoBulk (H := H) (datS x) := by
  unfold datS sizeS sum6
  simp only [Rows.uptoBulk, Rows.uptoBulkAll, data_len]
  omega
theorem bulk_all (xs : List S42) : total xs ≤ Rows.uptoBulkAll (H := H) (xs.map datS) := by
  induction xs with
  | nil => simp [total]
  | cons x xs ih =>
    have := bulk_datS (H := H) x
    simp only [total, List.map_cons, Rows.uptoBulkAll]
    omega
instance : Inhabited S42 := ⟨z42⟩
set_option maxRecDepth 100000 in
theorem open_tups {r : Reach} {b0 : Nat} {v : Value} {d : DataW H} {ps : List MemPlace} (hv : Value.okWide Tryd.prog w r b0 30 v) (h : DataW.Trod enc Tryd.prog w base sp held 30 v d ps) :
    ∃ (A : Option Addr) (cap : Nat) (xs : List S42), v = .slice A xs.length cap ∧ xs.length ≤ cap ∧ Kd.C k42 w A xs.length xs ∧ total xs ≤ Rows.uptoBulk d := by
  obtain ⟨a1, len, cap, rfl⟩ := okWide_slice Tryd.underlying30 hv
  obtain ⟨fuel, hf⟩ := h
  have hC : Tryd.prog.cellsOf 42 = 6 := by kernel_rfl
  rcases open_slice Tryd.underlying30 hf with ⟨hcs, hx⟩ | ⟨a, len', cap', m, n, D, Pl, hcs, hb, hl, hmx, hm, hx, hel⟩
  · simp [Value.cells] at hcs
    obtain ⟨rfl, rfl, rfl⟩ := hcs
    exact ⟨none, 0, [], rfl, Nat.le_refl _, Kd.C_nil k42 w, Nat.zero_le _⟩
  · simp [Value.cells] at hcs
    obtain ⟨rfl, rfl, rfl⟩ := hcs
    have hlm : len ≤ m := by rw [hm]; split <;> omega
    obtain ⟨X, hX⟩ := choose_lt (α := S42) (n := len) (p := fun i x => w.cells? base (a.add (i * 6)) 6 = some (celS x) ∧ D i = datS x) (fun i hi => by
      obtain ⟨cs', h1, h2⟩ := hel i (by omega)
      rw [hC] at h1
      obtain ⟨x, rfl, hx⟩ := trod_tup h2
      exact ⟨x, h1, hx⟩)
    have hlen : ((List.range len).map X).length = len := by simp
    refine ⟨some a, cap, (List.range len).map X, by rw [hlen], by rw [hlen]; exact hl, ?_, ?_⟩
    · rw [hlen]
      refine ⟨hlen, by unfold maxLen at hmx; omega, fun _ => ⟨a, rfl, fun j p hj => ?_⟩⟩
      have hjl : j < len := by have := (List.getElem?_eq_some_iff.1 hj).1; simpa using this
      obtain rfl : X j = p := by simpa [hjl] using hj
      refine ⟨celS (X j), rfl, k42_mk w (X j), fun i u hi => ?_⟩
      have hc := (hX j hjl).1
      unfold World.cells? at hc
      rw [if_pos (by rw [add_blk]; exact hb)] at hc
      have hi6 : i < 6 := (List.getElem?_eq_some_iff.1 hi).1
      obtain ⟨b, hb1, hb2⟩ := Lib.mapM_at hc i i (by simp [hi6])
      rw [hi] at hb1
      obtain rfl := Option.some.inj hb1
      rw [← hb2]
      show w.cell? (a.add (j * 6 + i)) = _
      rw [add_two]
    · simp only [Prod.mk.injEq] at hx
      rw [hx.1]
      have e1 : (List.range len).map D = ((List.range len).map X).map datS := by
        rw [List.map_map]
        exact List.map_congr_left fun i hi => (hX i (List.mem_range.1 hi)).2
      rw [e1]
      simp only [Rows.uptoBulk]
      have := bulk_all (H := H) ((List.range len).map X)
      omega
end
end Go.Proofs.YtmilpfccgggmkaaDoor.Knt
