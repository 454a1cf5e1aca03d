/- What structs of strings that came in give. Any program. -/
import Derived.Lib.SmallJoins
import Derived.ChangeMaps5
import Derived.WalkKit
import Derived.ProofKit
import Derived.OpenShut
namespace Go.Proofs.Ytpilbomkdafdfaa.Opb
open Go.Deep Go.ChangeShapes Go.WideShapes Go.ChangeAt Go.RowKit
set_option linter.unusedVariables false
section
variable {H : Type} {enc : TypeId × Value → H} {P : Program} {w : World} {base : Nat} {sp : Nat → Bool} {held : Bool}
theorem trod_str {t : TypeId} {v : Value} {n : Nat} {y : DataW H × List MemPlace} (ht : P.underlying t = some .string) (h : DataW.trod enc P w base sp held n t [v] = some y) : ∃ s : ByteArray, v = .string s ∧ y = (.lit (.string s.data.toList), []) ∧ s.size ≤ maxLen := by
  obtain ⟨s, h1, h2, h3⟩ := DataW.trod_string ht h
  simp at h1
  exact ⟨s, h1, h2, h3⟩
theorem open_str2 {r : Reach} {b0 : Nat} {t : TypeId} {f0 f1 : Field} {v : Value} {d : DataW H} {p : List MemPlace} (hs : P.underlying t = some (.struct #[f0, f1])) (hone : oneCellFields P #[f0, f1] = true) (hC : P.cellsOf t = 2)
    (h0 : P.underlying f0.type = some .string) (h1 : P.underlying f1.type = some .string)
    (hv : Value.okWide P w r b0 t v) (h : DataW.Trod enc P w base sp held t v d p) :
    ∃ a b : ByteArray, v = .agg #[.string a, .string b] ∧ d = .agg [.lit (.string a.data.toList), .lit (.string b.data.toList)] ∧ p = [] ∧ a.size ≤ maxLen ∧ b.size ≤ maxLen := by
  obtain ⟨v0, v1, y0, y1, n, rfl, rfl, rfl, g0, g1⟩ := Joins.open_agg2 hs hone hC hv h
  obtain ⟨a, rfl, rfl, ha⟩ := trod_str h0 g0
  obtain ⟨b, rfl, rfl, hb⟩ := trod_str h1 g1
  exact ⟨a, b, rfl, rfl, rfl, ha, hb⟩
theorem open_str3 {r : Reach} {b0 : Nat} {t : TypeId} {f0 f1 f2 : Field} {v : Value} {d : DataW H} {p : List MemPlace} (hs : P.underlying t = some (.struct #[f0, f1, f2])) (hone : oneCellFields P #[f0, f1, f2] = true) (hC : P.cellsOf t = 3)
    (h0 : P.underlying f0.type = some .string) (h1 : P.underlying f1.type = some .string) (h2 : P.underlying f2.type = some .string)
    (hv : Value.okWide P w r b0 t v) (h : DataW.Trod enc P w base sp held t v d p) :
    ∃ a b c : ByteArray, v = .agg #[.string a, .string b, .string c] ∧ d = .agg [.lit (.string a.data.toList), .lit (.string b.data.toList), .lit (.string c.data.toList)] ∧ p = [] ∧ a.size ≤ maxLen ∧ b.size ≤ maxLen ∧ c.size ≤ maxLen := by
  obtain ⟨v0, v1, v2, y0, y1, y2, n, rfl, rfl, rfl, g0, g1, g2⟩ := Joins.open_agg3 hs hone hC hv h
  obtain ⟨a, rfl, rfl, ha⟩ := trod_str h0 g0
  obtain ⟨b, rfl, rfl, hb⟩ := trod_str h1 g1
  obtain ⟨c, rfl, rfl, hc⟩ := trod_str h2 g2
  exact ⟨a, b, c, rfl, rfl, rfl, ha, hb, hc⟩
end
end Go.Proofs.Ytpilbomkdafdfaa.Opb
