/- The head's operations, a guard ahead of them or none. Any program. -/
import Derived.Test.YtlhapohpedihjaaDoorQt
namespace Go.Proofs.YtlhapohpedihjaaDoor.Qg
open Go.RowKit
set_option linter.unusedVariables false
section
variable {P : Program} {ops : Array Oper} {C : World → Prop} {Q : Act → Prop} {a : Act} {o : Oper} {rest : List Oper}
theorem q_val (hw : Region.wanted o (yielded ops a.tmps) = true)
    (h : ∃ v, (∀ w, C w → (execOp a.eval o).run P w = .ok (.value v) w) ∧ ∀ K : Act → Prop, (∀ a, wpQuiet P ops C Q rest a → K a) → K (a.put o.dst v)) : wpQuiet P ops C Q (o :: rest) a := by
  obtain ⟨v, hr, h⟩ := h
  refine wpQuiet_step fun K hK => ?_
  rw [if_pos hw]
  refine ⟨v, fun w hw => ?_, h K hK⟩
  unfold Oper.quietAt
  rw [hr w hw]
  exact ⟨rfl, rfl⟩
theorem q_call (hw : Region.wanted o (yielded ops a.tmps) = true)
    (h : ∃ f args, (∀ w, (execOp a.eval o).run P w = .ok (.enter f args) w) ∧ ∃ v, (∀ w, C w → Calls P f args w fun e w' => e = .returned v ∧ C w') ∧
      ∀ K : Act → Prop, (∀ a, wpQuiet P ops C Q rest a → K a) → K (a.put o.dst v)) : wpQuiet P ops C Q (o :: rest) a := by
  obtain ⟨f, args, hr, v, hc, h⟩ := h
  refine wpQuiet_step fun K hK => ?_
  rw [if_pos hw]
  refine ⟨v, fun w hw => ?_, h K hK⟩
  unfold Oper.quietAt
  rw [hr w]
  exact ⟨rfl, hc w hw⟩
end
end Go.Proofs.YtlhapohpedihjaaDoor.Qg
