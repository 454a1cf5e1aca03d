/- What arrays that came in give. Any program. -/
import Derived.Test.YtmilpfccgggmkaaDoorOps
namespace Go.Proofs.YtmilpfccgggmkaaDoor.Opb
open Go.Deep Go.ChangeShapes Go.WideShapes Go.ChangeAt Go.RowKit
set_option linter.unusedVariables false
/-- An array of two strings. -/
theorem open_strs2 {H : Type} {enc : TypeId × Value → H} {P : Program} {W : World} {base : Nat} {sp : Nat → Bool} {held : Bool} {r : Reach} {b0 : Nat} {t e : TypeId} {v : Value} {d : DataW H} {ps : List MemPlace}
    (ht : P.underlying t = some (.array 2 e)) (he : P.underlying e = some .string) (hce : P.cellsOf e = 1) (hct : P.cellsOf t = 2)
    (hv : Value.okWide P W r b0 t v) (h : DataW.Trod enc P W base sp held t v d ps) :
    ∃ a b : ByteArray, v = .agg #[.string a, .string b] := by
  have h0 := hv
  simp only [Value.okWide, ht] at h0
  obtain ⟨cs, rfl, hsz, _⟩ := h0
  obtain ⟨fuel, hf⟩ := h
  obtain ⟨xs, m, rfl, _, hl, hn, hel⟩ := DataW.trod_array ht hf
  simp only [Value.cells] at hl hel
  rw [hct] at hl
  have key : ∀ i, i < 2 → ∃ s : ByteArray, cs.toList[i]? = some (.string s) := by
    intro i hi
    have h1 := hel i hi
    rw [hce] at h1
    have hi' : i < xs.length := by omega
    rw [List.getElem?_eq_getElem hi'] at h1
    obtain ⟨a, ea, _, wa⟩ := DataW.trod_string he h1
    refine ⟨a, ?_⟩
    have hi2 : i < cs.toList.length := by omega
    rw [Nat.mul_one] at ea
    have e3 : (cs.toList.drop i).take 1 = [cs.toList[i]] := by
      rw [List.drop_eq_getElem_cons hi2]; rfl
    rw [e3] at ea
    rw [List.getElem?_eq_getElem hi2]
    simpa using ea
  obtain ⟨a, ha⟩ := key 0 (by omega)
  obtain ⟨b, hb⟩ := key 1 (by omega)
  obtain ⟨l⟩ := cs
  match l, hl with
  | [c, c'], _ =>
    simp at ha hb
    subst ha hb
    exact ⟨a, b, rfl⟩
end Go.Proofs.YtmilpfccgggmkaaDoor.Opb
