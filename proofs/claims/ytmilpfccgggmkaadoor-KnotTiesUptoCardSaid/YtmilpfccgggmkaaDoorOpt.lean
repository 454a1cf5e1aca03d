/- What a struct of three strings and of a struct of three strings that came in gives. Any program. -/
import Derived.Test.YtmilpfccgggmkaaDoorOps
namespace Go.Proofs.YtmilpfccgggmkaaDoor.Opb
open Go.Deep Go.ChangeShapes Go.WideShapes Go.ChangeAt Go.RowKit
set_option linter.unusedVariables false
section
variable {H : Type} {enc : TypeId × Value → H} {P : Program} {w : World} {base : Nat} {sp : Nat → Bool} {held : Bool}
theorem array6 {α : Type} {cs : Array α} (h : cs.size = 6) : ∃ a b c d e f, cs = #[a, b, c, d, e, f] := by
  obtain ⟨l⟩ := cs
  match l, h with
  | [a, b, c, d, e, f], _ => exact ⟨a, b, c, d, e, f, rfl⟩
theorem trod_str3 {t : TypeId} {f0 f1 f2 : Field} {v0 v1 v2 : Value} {n : Nat} {y : DataW H × List MemPlace} (hs : P.underlying t = some (.struct #[f0, f1, f2])) (hone : oneCellFields P #[f0, f1, f2] = true)
    (h0 : P.underlying f0.type = some .string) (h1 : P.underlying f1.type = some .string) (h2 : P.underlying f2.type = some .string)
    (h : DataW.trod enc P w base sp held n t [v0, v1, v2] = some y) :
    ∃ a b c : ByteArray, v0 = .string a ∧ v1 = .string b ∧ v2 = .string c ∧ y = (.agg [.lit (.string a.data.toList), .lit (.string b.data.toList), .lit (.string c.data.toList)], []) ∧ a.size ≤ maxLen ∧ b.size ≤ maxLen ∧ c.size ≤ maxLen := by
  obtain ⟨y0, y1, y2, n, hx, _, g0, g1, g2⟩ := trod_struct3 hs h
  obtain ⟨o0, k0⟩ := hone_of hone 0 f0 rfl
  obtain ⟨o1, k1⟩ := hone_of hone 1 f1 rfl
  obtain ⟨o2, k2⟩ := hone_of hone 2 f2 rfl
  obtain ⟨a, rfl, rfl, ha⟩ := trod_str h0 (by simpa [o0, k0] using g0)
  obtain ⟨b, rfl, rfl, hb⟩ := trod_str h1 (by simpa [o1, k1] using g1)
  obtain ⟨c, rfl, rfl, hc⟩ := trod_str h2 (by simpa [o2, k2] using g2)
  exact ⟨a, b, c, rfl, rfl, rfl, hx, ha, hb, hc⟩
theorem open_str33 {r : Reach} {b0 : Nat} {t : TypeId} {f0 f1 f2 f3 g0 g1 g2 : Field} {v : Value} {d : DataW H} {p : List MemPlace} (hs : P.underlying t = some (.struct #[f0, f1, f2, f3]))
    (ho : f0.offset = 0 ∧ f1.offset = 1 ∧ f2.offset = 2 ∧ f3.offset = 3) (hk : P.cellsOf f0.type = 1 ∧ P.cellsOf f1.type = 1 ∧ P.cellsOf f2.type = 1 ∧ P.cellsOf f3.type = 3) (hC : P.cellsOf t = 6)
    (h0 : P.underlying f0.type = some .string) (h1 : P.underlying f1.type = some .string) (h2 : P.underlying f2.type = some .string) (h3 : P.underlying f3.type = some (.struct #[g0, g1, g2])) (hone : oneCellFields P #[g0, g1, g2] = true)
    (k0 : P.underlying g0.type = some .string) (k1 : P.underlying g1.type = some .string) (k2 : P.underlying g2.type = some .string)
    (hv : Value.okWide P w r b0 t v) (h : DataW.Trod enc P w base sp held t v d p) :
    ∃ a b c x y z : ByteArray, v = .agg #[.string a, .string b, .string c, .string x, .string y, .string z] ∧ d = .agg [.lit (.string a.data.toList), .lit (.string b.data.toList), .lit (.string c.data.toList), .agg [.lit (.string x.data.toList), .lit (.string y.data.toList), .lit (.string z.data.toList)]] ∧ p = []
      ∧ a.size ≤ maxLen ∧ b.size ≤ maxLen ∧ c.size ≤ maxLen ∧ x.size ≤ maxLen ∧ y.size ≤ maxLen ∧ z.size ≤ maxLen := by
  obtain ⟨cs, rfl, hsz⟩ := okWide_struct hs hv
  obtain ⟨c0, c1, c2, c3, c4, c5, rfl⟩ := array6 (hsz.trans hC)
  obtain ⟨fuel, hf⟩ := h
  obtain ⟨y0, y1, y2, y3, n, hx, _, q0, q1, q2, q3⟩ := Joins.trod_struct4 hs hf
  obtain ⟨o0, o1, o2, o3⟩ := ho
  obtain ⟨l0, l1, l2, l3⟩ := hk
  obtain ⟨a, rfl, rfl, ha⟩ := trod_str h0 (by simpa [Value.cells, o0, l0] using q0)
  obtain ⟨b, rfl, rfl, hb⟩ := trod_str h1 (by simpa [Value.cells, o1, l1] using q1)
  obtain ⟨c, rfl, rfl, hc⟩ := trod_str h2 (by simpa [Value.cells, o2, l2] using q2)
  obtain ⟨x, y, z, rfl, rfl, rfl, rfl, wx, wy, wz⟩ := trod_str3 h3 hone k0 k1 k2 (by simpa [Value.cells, o3, l3] using q3)
  simp only [Prod.mk.injEq] at hx
  exact ⟨a, b, c, x, y, z, rfl, hx.1, by simpa using hx.2, ha, hb, hc, wx, wy, wz⟩
end
end Go.Proofs.YtmilpfccgggmkaaDoor.Opb
