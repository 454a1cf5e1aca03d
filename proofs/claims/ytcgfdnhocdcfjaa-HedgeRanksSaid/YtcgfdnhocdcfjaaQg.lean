/- The head's operations, a guard ahead of them or none. Any program. -/
import Derived.Test.YtcgfdnhocdcfjaaQt
namespace Go.Proofs.Ytcgfdnhocdcfjaa.Qg
open Go.RowKit
set_option linter.unusedVariables false
section
variable {P : Program} {ops : Array Oper} {C : World → Prop} {Q : Act → Prop} {a : Act} {o : Oper} {rest : List Oper}
theorem q_val (hw : Region.wanted o (yielded ops a.tmps) = true)
    (h : ∃ v, (∀ w, C w → (execOp a.eval o).run P w = .ok (.value v) w) ∧ ∀ K : Act → Prop, (∀ a, wpQuiet P ops C Q rest a → K a) → K (a.put o.dst v)) : wpQuiet P ops C Q (o :: rest) a := by
  obtain ⟨v, hr, h⟩ := h
  refine wpQuiet_step fun K hK => ?_
  rw [if_pos hw]
  refine ⟨v, fun w hw => ?_, h K hK⟩
  unfold Oper.quietAt
  rw [hr w hw]
  exact ⟨rfl, rfl⟩
theorem q_call (hw : Region.wanted o (yielded ops a.tmps) = true)
    (h : ∃ f args, (∀ w, (execOp a.eval o).run P w = .ok (.enter f args) w) ∧ ∃ v, (∀ w, C w → Calls P f args w fun e w' => e = .returned v ∧ C w') ∧
      ∀ K : Act → Prop, (∀ a, wpQuiet P ops C Q rest a → K a) → K (a.put o.dst v)) : wpQuiet P ops C Q (o :: rest) a := by
  obtain ⟨f, args, hr, v, hc, h⟩ := h
  refine wpQuiet_step fun K hK => ?_
  rw [if_pos hw]
  refine ⟨v, fun w hw => ?_, h K hK⟩
  unfold Oper.quietAt
  rw [hr w]
  exact ⟨rfl, hc w hw⟩
theorem q_skip (hw : Region.wanted o (yielded ops a.tmps) = false) (h : ∀ K : Act → Prop, (∀ a, wpQuiet P ops C Q rest a → K a) → K (a.put o.dst undef)) : wpQuiet P ops C Q (o :: rest) a := by
  refine wpQuiet_step fun K hK => ?_
  rw [if_neg (by rw [hw]; decide)]
  exact h K hK
theorem wanted_on {j d : Nat} {b : Bool} (hg : o.guard = some (j, b)) (hd : (ops[j]?).bind (·.dst) = some d) (hv : a.tmps[d]? = some (.bool b)) : Region.wanted o (yielded ops a.tmps) = true := by
  simp [Region.wanted, yielded, hg, hd, hv]
theorem wanted_off {j d : Nat} {b : Bool} (hg : o.guard = some (j, b)) (hd : (ops[j]?).bind (·.dst) = some d) (hv : a.tmps[d]? = some (.bool (!b))) : Region.wanted o (yielded ops a.tmps) = false := by
  simp [Region.wanted, yielded, hg, hd, hv]
theorem wanted_never {j d : Nat} {b : Bool} (hg : o.guard = some (j, b)) (hd : (ops[j]?).bind (·.dst) = some d) (hv : a.tmps[d]? = some undef) : Region.wanted o (yielded ops a.tmps) = false := by
  simp [Region.wanted, yielded, hg, hd, hv, undef]
/-- A guard that lets by. -/
theorem on_val {j d : Nat} {b : Bool} (hg : o.guard = some (j, b)) (hd : (ops[j]?).bind (·.dst) = some d) (hv : a.tmps[d]? = some (.bool b))
    (h : ∃ v, (∀ w, C w → (execOp a.eval o).run P w = .ok (.value v) w) ∧ ∀ K : Act → Prop, (∀ a, wpQuiet P ops C Q rest a → K a) → K (a.put o.dst v)) : wpQuiet P ops C Q (o :: rest) a :=
  q_val (wanted_on hg hd hv) h
theorem on_call {j d : Nat} {b : Bool} (hg : o.guard = some (j, b)) (hd : (ops[j]?).bind (·.dst) = some d) (hv : a.tmps[d]? = some (.bool b))
    (h : ∃ f args, (∀ w, (execOp a.eval o).run P w = .ok (.enter f args) w) ∧ ∃ v, (∀ w, C w → Calls P f args w fun e w' => e = .returned v ∧ C w') ∧
      ∀ K : Act → Prop, (∀ a, wpQuiet P ops C Q rest a → K a) → K (a.put o.dst v)) : wpQuiet P ops C Q (o :: rest) a :=
  q_call (wanted_on hg hd hv) h
theorem off {j d : Nat} {b : Bool} (hg : o.guard = some (j, b)) (hd : (ops[j]?).bind (·.dst) = some d) (hv : a.tmps[d]? = some (.bool (!b)))
    (h : ∀ K : Act → Prop, (∀ a, wpQuiet P ops C Q rest a → K a) → K (a.put o.dst undef)) : wpQuiet P ops C Q (o :: rest) a :=
  q_skip (wanted_off hg hd hv) h
/-- A guard that was not reckoned itself. -/
theorem never {j d : Nat} {b : Bool} (hg : o.guard = some (j, b)) (hd : (ops[j]?).bind (·.dst) = some d) (hv : a.tmps[d]? = some undef)
    (h : ∀ K : Act → Prop, (∀ a, wpQuiet P ops C Q rest a → K a) → K (a.put o.dst undef)) : wpQuiet P ops C Q (o :: rest) a :=
  q_skip (wanted_never hg hd hv) h
theorem on_val' (h : ∃ j b d, o.guard = some (j, b) ∧ (ops[j]?).bind (·.dst) = some d ∧ a.tmps[d]? = some (.bool b) ∧
      ∃ v, (∀ w, C w → (execOp a.eval o).run P w = .ok (.value v) w) ∧ ∀ K : Act → Prop, (∀ a, wpQuiet P ops C Q rest a → K a) → K (a.put o.dst v)) : wpQuiet P ops C Q (o :: rest) a := by
  obtain ⟨j, b, d, hg, hd, hv, h⟩ := h
  exact on_val hg hd hv h
theorem on_call' (h : ∃ j b d, o.guard = some (j, b) ∧ (ops[j]?).bind (·.dst) = some d ∧ a.tmps[d]? = some (.bool b) ∧
      ∃ f args, (∀ w, (execOp a.eval o).run P w = .ok (.enter f args) w) ∧ ∃ v, (∀ w, C w → Calls P f args w fun e w' => e = .returned v ∧ C w') ∧
      ∀ K : Act → Prop, (∀ a, wpQuiet P ops C Q rest a → K a) → K (a.put o.dst v)) : wpQuiet P ops C Q (o :: rest) a := by
  obtain ⟨j, b, d, hg, hd, hv, h⟩ := h
  exact on_call hg hd hv h
theorem off' (h : ∃ j b d, o.guard = some (j, b) ∧ (ops[j]?).bind (·.dst) = some d ∧ a.tmps[d]? = some (.bool (!b)) ∧
      ∀ K : Act → Prop, (∀ a, wpQuiet P ops C Q rest a → K a) → K (a.put o.dst undef)) : wpQuiet P ops C Q (o :: rest) a := by
  obtain ⟨j, b, d, hg, hd, hv, h⟩ := h
  exact off hg hd hv h
theorem never' (h : ∃ j b d, o.guard = some (j, b) ∧ (ops[j]?).bind (·.dst) = some d ∧ a.tmps[d]? = some undef ∧
      ∀ K : Act → Prop, (∀ a, wpQuiet P ops C Q rest a → K a) → K (a.put o.dst undef)) : wpQuiet P ops C Q (o :: rest) a := by
  obtain ⟨j, b, d, hg, hd, hv, h⟩ := h
  exact never hg hd hv h
end
end Go.Proofs.Ytcgfdnhocdcfjaa.Qg
