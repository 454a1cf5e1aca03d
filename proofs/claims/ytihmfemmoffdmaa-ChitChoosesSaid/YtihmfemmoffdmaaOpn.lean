/- Openers of arguments: what a value that reads as data is, cell by cell. Any program. -/
import Derived.ProofKit
import Derived.OpenShut
import Derived.ChangeOld
import Derived.Below
namespace Go.Proofs.Ytihmfemmoffdmaa.Opn
open Go.ChangeShapes Go.WideShapes Go.ChangeAt Go.RowKit

/-- An array of whole numbers. -/
theorem open_nums {H : Type} {enc : TypeId × Value → H} {P : Program} {W : World} {base : Nat} {sp : Nat → Bool} {held : Bool} {r : Reach} {b0 : Nat} {t e : TypeId} {n : Nat} {k : IntKind} {v : Value} {d : DataW H} {ps : List MemPlace}
    (ht : P.underlying t = some (.array n e)) (he : P.underlying e = some (.int k)) (hce : P.cellsOf e = 1) (hct : P.cellsOf t = n)
    (hv : Value.okWide P W r b0 t v) (h : DataW.Trod enc P W base sp held t v d ps) :
    ∃ l : List Int, v = .agg (l.map (Value.int k)).toArray ∧ l.length = n ∧ ∀ x ∈ l, (Lit.int k x).wf = true := by
  have h0 := hv
  simp only [Value.okWide, ht] at h0
  obtain ⟨cs, rfl, hsz, _⟩ := h0
  obtain ⟨fuel, hf⟩ := h
  obtain ⟨xs, m, rfl, _, hl, hn, hel⟩ := DataW.trod_array ht hf
  simp only [Value.cells] at hl hel
  rw [hct] at hl
  have key : ∀ i, i < n → ∃ x : Int, cs.toList[i]? = some (.int k x) ∧ (Lit.int k x).wf = true := by
    intro i hi
    have h1 := hel i hi
    rw [hce] at h1
    have hi' : i < xs.length := by omega
    rw [List.getElem?_eq_getElem hi'] at h1
    obtain ⟨a, ea, _, wa⟩ := DataW.trod_int he h1
    refine ⟨a, ?_, wa⟩
    have hi2 : i < cs.toList.length := by omega
    rw [Nat.mul_one] at ea
    have e3 : (cs.toList.drop i).take 1 = [cs.toList[i]] := by
      rw [List.drop_eq_getElem_cons hi2]; rfl
    rw [e3] at ea
    rw [List.getElem?_eq_getElem hi2]
    simpa using ea
  have build : ∀ (l : List Value), (∀ i, i < l.length → ∃ x : Int, l[i]? = some (.int k x) ∧ (Lit.int k x).wf = true) → ∃ z : List Int, l = z.map (Value.int k) ∧ ∀ x ∈ z, (Lit.int k x).wf = true := by
    intro l
    induction l with
    | nil => intro _; exact ⟨[], rfl, by simp⟩
    | cons a l ih =>
      intro hh
      obtain ⟨x, hx, wx⟩ := hh 0 (by simp)
      obtain ⟨z, rfl, hz⟩ := ih (fun i hi => by have := hh (i + 1) (by simp; omega); simpa using this)
      simp at hx
      subst hx
      exact ⟨x :: z, rfl, by simpa using ⟨wx, hz⟩⟩
  obtain ⟨z, hz, hw⟩ := build cs.toList (fun i hi => key i (by omega))
  refine ⟨z, ?_, ?_, hw⟩
  · rw [← hz]
  · have := congrArg List.length hz
    simp at this hl
    omega

/-- An array of two whole numbers. -/
theorem open_two {H : Type} {enc : TypeId × Value → H} {P : Program} {W : World} {base : Nat} {sp : Nat → Bool} {held : Bool} {r : Reach} {b0 : Nat} {t e : TypeId} {k : IntKind} {v : Value} {d : DataW H} {ps : List MemPlace}
    (ht : P.underlying t = some (.array 2 e)) (he : P.underlying e = some (.int k)) (hce : P.cellsOf e = 1) (hct : P.cellsOf t = 2)
    (hv : Value.okWide P W r b0 t v) (h : DataW.Trod enc P W base sp held t v d ps) :
    ∃ a b : Int, v = .agg #[.int k a, .int k b] ∧ (Lit.int k a).wf = true ∧ (Lit.int k b).wf = true := by
  obtain ⟨l, rfl, hl, hw⟩ := open_nums ht he hce hct hv h
  match l, hl with
  | [a, b], _ => exact ⟨a, b, rfl, hw a (by simp), hw b (by simp)⟩

end Go.Proofs.Ytihmfemmoffdmaa.Opn
