/- A new variable in a drawn region (XQw's third kind of operation). Any program. -/
import Derived.Test.YtmilpfccgggmkaaDoorQw
namespace Go.Proofs.YtmilpfccgggmkaaDoor.Qw
open Go.RowKit Go.Proofs.YtmilpfccgggmkaaDoor.Arr
variable {P : Program} {ops : Array Oper} {md : Region.Mode} {S : FuncId → Array Value → Value → World → Prop} {E0 : World → Prop} {Q : Act → (Nat → World → Prop) → Prop} {k : Nat} {o : Oper} {rest : List Oper} {a : Act} {F : Nat → World → Prop}
theorem w_new (R : Value → World → Prop) (hs : ∀ u, Stb (R u)) (hw : Region.wanted o (yielded ops a.tmps) = true)
    (h : (∀ w, E0 w → ∃ u w', (execOp a.eval o).run P w = .ok (.value u) w' ∧ Below w.heap.size w w' ∧ R u w') ∧
      ∀ u, Val E0 F R u → ∀ K : Act → Prop, (∀ a, wpW P md ops S E0 Q (k + 1) rest a (up F k (R u)) → K a) → K (a.put o.dst u)) : wpW P md ops S E0 Q k (o :: rest) a F :=
  ⟨R, .inl ⟨hw, hs, fun w hw hp => by obtain ⟨u, w', e, hb, hr⟩ := h.1 w hw; rw [e]; exact ⟨hb, hr⟩⟩, fun u hu => h.2 u hu _ fun a hh => hh⟩
end Go.Proofs.YtmilpfccgggmkaaDoor.Qw
