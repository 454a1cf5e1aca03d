/- A list of strings that came in. -/
import Derived.Test.YtcgfdnhocdcfjaaOnly
import Derived.Test.YtcgfdnhocdcfjaaRows
import Derived.Deep.Strs
import Derived.Lib.SmallJoins
import Derived.ChangeMaps5
import Derived.WalkKit
import Derived.ProofKit
import Derived.OpenShut
namespace Go.Proofs.Ytcgfdnhocdcfjaa.Ost
open Go.Deep Go.ChangeShapes Go.WideShapes Go.ChangeAt Go.RowKit Go.Proofs.YtcgfdnhocdcfjaaW.PrintWords Go.Proofs.YtcgfdnhocdcfjaaW.PrintLast Go.Proofs.YtcgfdnhocdcfjaaW.PrintMore
set_option linter.unusedVariables false
set_option linter.unusedSimpArgs false
section
variable {H : Type} {enc : TypeId × Value → H} {w : World} {base : Nat} {sp : Nat → Bool} {held : Bool}
set_option maxRecDepth 100000 in
theorem open_strl {r : Reach} {b0 : Nat} {v : Value} {d : DataW H} {ps : List MemPlace} (hv : Value.okWide Try.prog w r b0 22 v) (h : DataW.Trod enc Try.prog w base sp held 22 v d ps) :
    ∃ (A : Option Addr) (cap : Nat) (xs : List ByteArray), v = .slice A xs.length cap ∧ xs.length ≤ cap ∧ xs.length ≤ 9223372036854775807 ∧ Kd.C Kd.string w A xs.length xs ∧ ∀ k, k ∈ xs → k.size ≤ 9223372036854775807 := by
  obtain ⟨a1, len, cap, rfl⟩ := okWide_slice Try.underlying22 hv
  obtain ⟨fuel, hf⟩ := h
  have hC : Try.prog.cellsOf 9 = 1 := by kernel_rfl
  rcases open_strs Try.underlying22 Try.underlying9 hC hf with ⟨hcs, hx⟩ | ⟨a, len', cap', m, Sx, hcs, hb, hl, hmx, hm, hx, hel⟩
  · simp [Value.cells] at hcs
    obtain ⟨rfl, rfl, rfl⟩ := hcs
    exact ⟨none, 0, [], rfl, Nat.le_refl _, Nat.zero_le _, Kd.C_nil Kd.string w, fun k hk => by simp at hk⟩
  · simp [Value.cells] at hcs
    obtain ⟨rfl, rfl, rfl⟩ := hcs
    have hlm : len ≤ m := by rw [hm]; split <;> omega
    have hlen : ((List.range len).map Sx).length = len := by simp
    have hmx' : len ≤ 9223372036854775807 := by unfold maxLen at hmx; omega
    refine ⟨some a, cap, (List.range len).map Sx, by rw [hlen], by rw [hlen]; exact hl, by rw [hlen]; exact hmx', ?_, fun k hk => ?_⟩
    · rw [hlen]
      refine Kd.C_of_reads (enc := Value.string) (d := ByteArray.empty) (h1 := fun _ => rfl) ⟨hlen, hmx', fun hn => ⟨a, rfl, fun j hj => ?_⟩⟩
      rw [(hel j (by omega)).1]
      simp [List.getD, hj]
    · obtain ⟨i, hi, rfl⟩ := List.mem_map.1 hk
      have := (hel i (by have := List.mem_range.1 hi; omega)).2
      unfold maxLen at this
      exact this
end
end Go.Proofs.Ytcgfdnhocdcfjaa.Ost
