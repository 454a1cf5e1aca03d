/- Texts of this claim, merged: Oka. -/
import Derived.Test.YtddhngalokmdoaaMgKeeps5
import Derived.Test.YtddhngalokmdoaaMgKeeps4
/- Acts that came in. -/
namespace Go.Proofs.Ytddhngalokmdoaa.Spo
open Go.Deep Go.ChangeShapes Go.WideShapes Go.ChangeAt Go.RowKit Go.Proofs.YtddhngalokmdoaaW.PrintWords Go.Proofs.YtddhngalokmdoaaW.PrintLast Go.Proofs.YtddhngalokmdoaaW.PrintMore Go.Proofs.Ytddhngalokmdoaa.Arr Go.Proofs.Ytddhngalokmdoaa.PSpoolPlays
set_option linter.unusedVariables false
set_option linter.unusedSimpArgs false
section
variable {H : Type} {enc : TypeId × Value → H} {w : World} {base : Nat} {sp : Nat → Bool} {held : Bool}
instance : Inhabited S59 := ⟨z59⟩
theorem list4 {α : Type} {cs : List α} (h : cs.length = 4) : ∃ a b c d, cs = [a, b, c, d] := by
  match cs, h with
  | [a, b, c, d], _ => exact ⟨a, b, c, d, rfl⟩
theorem u8_bound {x : Int} (h : (Lit.int .u8 x).wf = true) : 0 ≤ x ∧ x < 256 := by
  have : (decide ((0 : Int) ≤ x) && decide (x ≤ 255)) = true := h
  simp at this; omega
theorem trod_kact {n : Nat} {cs : List Value} {y : DataW H × List MemPlace} (h : DataW.trod enc Try.prog w base sp held n 59 cs = some y) : ∃ x : S59, k59.K w x cs ∧ Bytes x.f2 := by
  have hC : Try.prog.cellsOf 59 = 4 := by kernel_rfl
  have l0 : Try.prog.cellsOf 3 = 1 := by kernel_rfl
  have l1 : Try.prog.cellsOf 22 = 1 := by kernel_rfl
  have l2 : Try.prog.cellsOf 57 = 1 := by kernel_rfl
  obtain ⟨y0, y1, y2, y3, n, hx, hl, q0, q1, q2, q3⟩ := Joins.trod_struct4 Try.underlying59 h
  rw [hC] at hl
  obtain ⟨c0, c1, c2, c3, rfl⟩ := list4 hl
  simp only [l0, l1, l2] at q0 q1 q2 q3
  obtain ⟨x0, e0, -⟩ := Okd.el_int Try.underlying3 (by simpa using q0)
  obtain ⟨x1, e1, -⟩ := Okd.el_int Try.underlying3 (by simpa using q1)
  obtain ⟨x2, e2, -, g2⟩ := Okd.el_slice (Kd.int .u8) 5 (fun x => (Lit.int .u8 x).wf = true) Try.underlying22 (by kernel_rfl) (fun n cs y h => Okd.el_int Try.underlying5 h) (by simpa using q2)
  obtain ⟨x3, e3, -⟩ := Okd.el_slice Kd.bool 4 (fun x => True) Try.underlying57 (by kernel_rfl) (fun n cs y h => Okd.el_bool Try.underlying4 h) (by simpa using q3)
  refine ⟨⟨x0, x1, x2, x3⟩, ⟨[c0], [c1, c2, c3], rfl, e0, [c1], [c2, c3], rfl, e1, [c2], [c3], rfl, e2, e3⟩, fun x hx => u8_bound (g2 x hx)⟩
set_option maxRecDepth 100000 in
theorem open_kacts {r : Reach} {b0 : Nat} {v : Value} {d : DataW H} {ps : List MemPlace} (hv : Value.okWide Try.prog w r b0 55 v) (h : DataW.Trod enc Try.prog w base sp held 55 v d ps) :
    ∃ (A : Option Addr) (cap : Nat) (xs : List S59), v = .slice A xs.length cap ∧ xs.length ≤ cap ∧ xs.length ≤ 9223372036854775807 ∧ Kd.C k59 w A xs.length xs ∧ ∀ k, k ∈ xs → Bytes k.f2 :=
  Okd.open_kd k59 (fun x => Bytes x.f2) Try.underlying55 (by kernel_rfl) (fun n cs y h => trod_kact h) hv h
end
end Go.Proofs.Ytddhngalokmdoaa.Spo
