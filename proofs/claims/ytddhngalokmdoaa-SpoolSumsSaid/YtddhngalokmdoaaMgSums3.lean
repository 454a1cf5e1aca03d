/- Texts of this claim, merged: Qw, Qn, Srd, Spc, Src, Sre. -/
import Derived.Test.YtddhngalokmdoaaMgSums1
import Derived.Test.YtddhngalokmdoaaMgSums2
import Derived.Deep.DeepCutAuto
import Derived.Deep.CutBlock
import Derived.WalkSpells
/- Regions that draw their order, whose calls and new variables hand back what is new: each operation tells what it yields by a relation that stands under what only makes memory. Any program. -/
namespace Go.Proofs.Ytddhngalokmdoaa.Qw
open Go.RowKit Go.Proofs.Ytddhngalokmdoaa.Arr
set_option linter.unusedVariables false
set_option linter.unusedSimpArgs false
section
variable {P : Program} {ops : Array Oper} {md : Region.Mode} {S : FuncId → Array Value → Value → World → Prop} {E0 : World → Prop}

/-- It stands under what only makes memory. -/
def Stb (F : World → Prop) : Prop := ∀ w w', F w → Below w.heap.size w w' → F w'
def up (F : Nat → World → Prop) (i : Nat) (R : World → Prop) : Nat → World → Prop := fun k => if k = i then R else F k
theorem up_same (F : Nat → World → Prop) (i : Nat) (R : World → Prop) : up F i R i = R := by simp [up]
theorem up_ne (F : Nat → World → Prop) {i k : Nat} (R : World → Prop) (h : k ≠ i) : up F i R k = F k := by simp [up, h]
/-- What an operation yields; a call's tells S. -/
def rUpon (P : Program) (S : FuncId → Array Value → Value → World → Prop) (w : World) (R : Value → World → Prop) : Result Next → Prop
  | .ok (.value u) w' => Below w.heap.size w w' ∧ R u w'
  | .ok (.enter f args) w' => w' = w ∧ R = S f args ∧ Calls P f args w (fun e w'' => ∃ u, e = .returned u ∧ Below w.heap.size w w'' ∧ S f args u w'')
  | _ => False
def Gives (P : Program) (md : Region.Mode) (ops : Array Oper) (S : FuncId → Array Value → Value → World → Prop) (E0 : World → Prop) (F : Nat → World → Prop) (o : Oper) (a : Act) (R : Value → World → Prop) : Prop :=
  (Region.wanted o (yielded ops a.tmps) = true ∧ (∀ u, Stb (R u)) ∧ ∀ w, E0 w → (∀ e ∈ o.after, Region.binds md e = true → F e.on w) → rUpon P S w R ((execOp a.eval o).run P w)) ∨
  (Region.wanted o (yielded ops a.tmps) = false ∧ R = fun u _ => u = undef)
def Val (E0 : World → Prop) (F : Nat → World → Prop) (R : Value → World → Prop) (u : Value) : Prop := ∃ w, E0 w ∧ (∀ k, F k w) ∧ R u w
theorem Gives.stb {F : Nat → World → Prop} {o : Oper} {a : Act} {R : Value → World → Prop} (h : Gives P md ops S E0 F o a R) (u : Value) : Stb (R u) := by
  rcases h with h | h
  · exact h.2.1 u
  · rw [h.2]; exact fun _ _ e _ => e
theorem Gives.mono {F F' : Nat → World → Prop} {o : Oper} {a : Act} {R : Value → World → Prop} (h : Gives P md ops S E0 F o a R) (hF : ∀ k w, F' k w → F k w) : Gives P md ops S E0 F' o a R := by
  rcases h with h | h
  · exact .inl ⟨h.1, h.2.1, fun w hw hp => h.2.2 w hw fun e he hb => hF _ _ (hp e he hb)⟩
  · exact .inr h
theorem Gives.inh (hE : Stb E0) {F : Nat → World → Prop} (hF : ∀ k, Stb (F k)) {o : Oper} {a : Act} {R : Value → World → Prop} (h : Gives P md ops S E0 F o a R) (hi : ∃ w, E0 w ∧ ∀ k, F k w) : ∃ u, Val E0 F R u := by
  obtain ⟨w, hw, hk⟩ := hi
  rcases h with ⟨_, _, h⟩ | ⟨_, rfl⟩
  · have h1 := h w hw fun e _ _ => hk _
    generalize (execOp a.eval o).run P w = r at h1
    cases r with
    | ok nx w' =>
      cases nx <;> simp only [rUpon] at h1
      case value u => exact ⟨u, w', hE _ _ hw h1.1, fun k => hF k _ _ (hk k) h1.1, h1.2⟩
      case enter f args =>
        obtain ⟨_, hR, hc⟩ := h1
        obtain ⟨e, w'', fr, ⟨u, _, hb, hs⟩, _⟩ := hc []
        exact ⟨u, w'', hE _ _ hw hb, fun k => hF k _ _ (hk k) hb, by rw [hR]; exact hs⟩
    | halt x w' => simp only [rUpon] at h1
  · exact ⟨undef, w, hw, hk, rfl⟩

def opS (P : Program) (md : Region.Mode) (ops : Array Oper) (S : FuncId → Array Value → Value → World → Prop) (E0 : World → Prop) (i : Nat) (K : Act → (Nat → World → Prop) → Prop) (a : Act) (F : Nat → World → Prop) : Prop :=
  ∃ o, ops[i]? = some o ∧ ∃ R, Gives P md ops S E0 F o a R ∧ ∀ u, Val E0 F R u → K (a.put o.dst u) (up F i (R u))
def anyS (P : Program) (md : Region.Mode) (ops : Array Oper) (S : FuncId → Array Value → Value → World → Prop) (E0 : World → Prop) (n : Nat) (L : Array Bool → Act → (Nat → World → Prop) → Prop) : Nat → Array Bool → Act → (Nat → World → Prop) → Prop
  | 0, listed, a, F => L listed a F
  | f + 1, listed, a, F => Region.ready md ops listed ≠ [] ∧ ∀ i ∈ Region.ready md ops listed, i < n ∧ opS P md ops S E0 i (fun a' F' => anyS P md ops S E0 n L f (listed.setIfInBounds i true) a' F') a F

theorem up_mono {F F' : Nat → World → Prop} (hF : ∀ k w, F' k w → F k w) (i : Nat) (R : World → Prop) : ∀ k w, up F' i R k w → up F i R k w := by
  intro k w h
  by_cases hk : k = i
  · subst hk; rw [up_same] at h ⊢; exact h
  · rw [up_ne _ _ hk] at h ⊢; exact hF k w h
theorem anyS_mono {n : Nat} {L : Array Bool → Act → (Nat → World → Prop) → Prop} (hL : ∀ listed a F F', (∀ k w, F' k w → F k w) → L listed a F → L listed a F') :
    ∀ (f : Nat) (listed : Array Bool) (a : Act) (F F' : Nat → World → Prop), (∀ k w, F' k w → F k w) → anyS P md ops S E0 n L f listed a F → anyS P md ops S E0 n L f listed a F'
  | 0, listed, a, F, F', hF, h => hL _ _ _ _ hF h
  | f + 1, listed, a, F, F', hF, h => ⟨h.1, fun i hi => ⟨(h.2 i hi).1, by
    obtain ⟨o, ho, R, hg, hk⟩ := (h.2 i hi).2
    exact ⟨o, ho, R, hg.mono hF, fun u hu => anyS_mono hL f _ _ _ _ (up_mono hF i (R u)) (hk u (by obtain ⟨w, h1, h2, h3⟩ := hu; exact ⟨w, h1, fun k => hF _ _ (h2 k), h3⟩))⟩⟩⟩

theorem up_stb {F : Nat → World → Prop} (hF : ∀ k, Stb (F k)) {i : Nat} {R : World → Prop} (hR : Stb R) : ∀ k, Stb (up F i R k) := by
  intro k
  by_cases hk : k = i
  · subst hk; rw [up_same]; exact hR
  · rw [up_ne _ _ hk]; exact hF k
theorem up_all {F : Nat → World → Prop} {i : Nat} {R : World → Prop} {w : World} (hF : ∀ k, F k w) (hR : R w) : ∀ k, up F i R k w := by
  intro k
  by_cases hk : k = i
  · subst hk; rw [up_same]; exact hR
  · rw [up_ne _ _ hk]; exact hF k
theorem any_of_S (hE : Stb E0) {n g : Nat} {L : Array Bool → Act → (Nat → World → Prop) → Prop} {Q' : Exit → Act → World → Prop}
    (hL : ∀ listed a F w, (∀ k, Stb (F k)) → E0 w → (∀ k, F k w) → L listed a F → wpAny P md ops Q' g listed a w) :
    ∀ (f : Nat) (listed : Array Bool) (a : Act) (F : Nat → World → Prop) (w : World), (∀ k, Stb (F k)) → E0 w → (∀ k, F k w) → anyS P md ops S E0 n L f listed a F → wpAny P md ops Q' (f + g) listed a w
  | 0, listed, a, F, w, hF, hw, hk, h => by rw [Nat.zero_add]; exact hL _ _ _ _ hF hw hk h
  | f + 1, listed, a, F, w, hF, hw, hk, h => by
    rw [show f + 1 + g = (f + g) + 1 by omega]
    refine ⟨fun h0 => absurd h0 h.1, fun i hi => ?_⟩
    obtain ⟨o, ho, R, hg, hK⟩ := (h.2 i hi).2
    unfold wpOp
    simp only [ho]
    have next : ∀ u w', Below w.heap.size w w' → R u w' → wpAny P md ops Q' (f + g) (listed.setIfInBounds i true) (a.put o.dst u) w' := fun u w' hb hr =>
      any_of_S hE hL f _ _ _ w' (up_stb hF (hg.stb u)) (hE _ _ hw hb) (up_all (fun k => hF k _ _ (hk k) hb) hr) (hK u ⟨w', hE _ _ hw hb, fun k => hF k _ _ (hk k) hb, hr⟩)
    rcases hg with ⟨hwt, _, hx⟩ | ⟨hwt, hR⟩
    · simp only [hwt, if_true]
      refine .inl ?_
      have h3 := hx w hw fun e _ _ => hk _
      unfold Oper.wp
      generalize (execOp a.eval o).run P w = r at h3
      cases r with
      | ok nx w' =>
        cases nx <;> simp only [rUpon] at h3 <;> simp only [Oper.upon]
        case value u => exact next u w' h3.1 h3.2
        case enter fn args =>
          obtain ⟨e1, e2, hc⟩ := h3
          rw [e1]
          exact hc.mono fun e w'' ⟨u, he, hb, hs⟩ => by subst he; exact next u w'' hb (by rw [e2]; exact hs)
      | halt x w' => simp only [rUpon] at h3
    · simp only [hwt, Bool.false_eq_true, if_false]
      exact next undef w (Below.refl _ _) (by rw [hR])

theorem Gives.put {F : Nat → World → Prop} {oi oj : Oper} {u : Value} {a : Act} {R : Value → World → Prop} (h : Gives P md ops S E0 F oi a R) (hap : oi.apart ops oj = true) (hsi : ∀ cs b, oi.op ≠ .select cs b) : Gives P md ops S E0 F oi (a.put oj.dst u) R := by
  obtain ⟨h1, h2, h3⟩ := Oper.apart_spec hap
  unfold Gives at *
  rw [execOp_put oi hsi a oj.dst u h3, wanted_put oi a oj.dst u h3]
  exact h
theorem Gives.unput {F : Nat → World → Prop} {oi oj : Oper} {v : Value} {a : Act} {R : Value → World → Prop} (h : Gives P md ops S E0 F oj (a.put oi.dst v) R) (hap : oi.apart ops oj = true) (hsj : ∀ cs b, oj.op ≠ .select cs b) : Gives P md ops S E0 F oj a R := by
  obtain ⟨h1, h2, h3⟩ := Oper.apart_spec hap
  unfold Gives at *
  rw [execOp_put oj hsj a oi.dst v h1, wanted_put oj a oi.dst v h1] at h
  exact h
theorem Gives.facts {F F' : Nat → World → Prop} {o : Oper} {a : Act} {R : Value → World → Prop} (h : Gives P md ops S E0 F o a R) (hF : ∀ e ∈ o.after, Region.binds md e = true → F' e.on = F e.on) : Gives P md ops S E0 F' o a R := by
  rcases h with h | h
  · exact .inl ⟨h.1, h.2.1, fun w hw hp => h.2.2 w hw fun e he hb => by rw [← hF e he hb]; exact hp e he hb⟩
  · exact .inr h
/-- What holds of an operation whatever another one has yielded. -/
theorem Gives.all {F : Nat → World → Prop} {o : Oper} {a : Act} {V : Value → Prop} {Rc : Value → Value → World → Prop} (u0 : Value) (h0 : V u0) (h : ∀ u, V u → Gives P md ops S E0 F o a (Rc u)) :
    Gives P md ops S E0 F o a (fun v w => ∀ u, V u → Rc u v w) := by
  cases hwt : Region.wanted o (yielded ops a.tmps) with
  | true =>
    have hl : ∀ u, V u → (∀ v, Stb (Rc u v)) ∧ ∀ w, E0 w → (∀ e ∈ o.after, Region.binds md e = true → F e.on w) → rUpon P S w (Rc u) ((execOp a.eval o).run P w) := fun u hu => by
      rcases h u hu with h1 | h1
      · exact h1.2
      · rw [hwt] at h1; exact absurd h1.1 (by decide)
    refine .inl ⟨hwt, fun v w w' hr hb u hu => (hl u hu).1 v w w' (hr u hu) hb, fun w hw hp => ?_⟩
    have hx := fun u hu => (hl u hu).2 w hw hp
    generalize (execOp a.eval o).run P w = r at hx
    cases r with
    | ok nx w' =>
      have h1 := hx u0 h0
      cases nx <;> simp only [rUpon] at h1 hx ⊢
      case value x => exact ⟨h1.1, fun u hu => (hx u hu).2⟩
      case enter f args =>
        refine ⟨h1.1, ?_, h1.2.2⟩
        funext v w
        refine propext ⟨fun hh => ?_, fun hh u hu => ?_⟩
        · have := hh u0 h0; rw [h1.2.1] at this; exact this
        · rw [(hx u hu).2.1]; exact hh
    | halt x w' => exact absurd (hx u0 h0) (by simp only [rUpon]; exact id)
  | false =>
    have hl : ∀ u, V u → Rc u = fun v _ => v = undef := fun u hu => by
      rcases h u hu with h1 | h1
      · rw [hwt] at h1; exact absurd h1.1 (by decide)
      · exact h1.2
    refine .inr ⟨hwt, ?_⟩
    funext v w
    refine propext ⟨fun hh => ?_, fun hh u hu => ?_⟩
    · have := hh u0 h0; rw [hl u0 h0] at this; exact this
    · rw [hl u hu]; exact hh

/-- An operation that may come up may be taken first. -/
theorem anyS_first (hE : Stb E0) {n i : Nat} {oi : Oper} {L : Array Bool → Act → (Nat → World → Prop) → Prop} (hi : ops[i]? = some oi) (hsel : ∀ (j : Nat) (o : Oper) cs b, ops[j]? = some o → o.op ≠ .select cs b)
    (hlt : ∀ listed, HeadInv md ops n listed → listed.getD i true = false → ∀ j ∈ Region.ready md ops listed, j < n) (hin : i < n)
    (hL : ∀ listed a F F', (∀ k w, F' k w → F k w) → L listed a F → L listed a F')
    (hdone : ∀ listed a F, L listed a F → ∀ j ∈ Region.ready md ops listed, n ≤ j) :
    ∀ (f : Nat) (listed : Array Bool) (a : Act) (F : Nat → World → Prop) (R : Value → World → Prop), HeadInv md ops n listed →
      (∀ j oj, ops[j]? = some oj → j ≠ i → listed.getD j true = false → (∀ e ∈ oj.after, Region.binds md e = true → e.on ≠ i) → oi.apart ops oj = true) →
      i ∈ Region.ready md ops listed → (∀ k, Stb (F k)) → (∃ w, E0 w ∧ ∀ k, F k w) → (∀ k w, listed.getD k false = false → F k w) → Gives P md ops S E0 F oi a R →
      (∀ u, Val E0 F R u → anyS P md ops S E0 n L f (listed.setIfInBounds i true) (a.put oi.dst u) (up F i (R u))) → anyS P md ops S E0 n L (f + 1) listed a F := by
  classical
  intro f
  induction f with
  | zero =>
    intro listed a F R inv _ hr hF hinh hT hy H
    have hun := (mem_ready.1 hr).1
    refine ⟨fun h => (by rw [h] at hr; cases hr), fun j hj => ?_⟩
    have hjn := hlt listed inv hun j hj
    refine ⟨hjn, ?_⟩
    by_cases hji : j = i
    · subst hji; exact ⟨oi, hi, R, hy, H⟩
    · obtain ⟨u, hu⟩ := hy.inh hE hF hinh
      have := hdone _ _ _ (H u hu) j (ready_mono hj hji)
      omega
  | succ f ih =>
    intro listed a F R inv hfree hr hF hinh hT hy H
    have hun := (mem_ready.1 hr).1
    refine ⟨fun h => (by rw [h] at hr; cases hr), fun j hj => ?_⟩
    have hjn := hlt listed inv hun j hj
    refine ⟨hjn, ?_⟩
    by_cases hji : j = i
    · subst hji; exact ⟨oi, hi, R, hy, H⟩
    · obtain ⟨hjun, oj, hoj, hall⟩ := mem_ready.1 hj
      obtain ⟨_, oi', hoi', halli⟩ := mem_ready.1 hr
      obtain rfl : oi' = oi := Option.some.inj (hoi'.symm.trans hi)
      have hnot : ∀ e ∈ oj.after, Region.binds md e = true → e.on ≠ i := fun e he hb heq => by
        have h1 := hall e he hb
        rw [heq, getD_both hun] at h1
        cases h1
      have hnoti : ∀ e ∈ oi'.after, Region.binds md e = true → e.on ≠ j := fun e he hb heq => by
        have h1 := halli e he hb
        rw [heq, getD_both hjun] at h1
        cases h1
      have hap := hfree j oj hoj hji hjun hnot
      have hsi : ∀ cs b, oi'.op ≠ .select cs b := fun cs b => hsel i oi' cs b hi
      have hsj : ∀ cs b, oj.op ≠ .select cs b := fun cs b => hsel j oj cs b hoj
      have hfree' : ∀ k ok, ops[k]? = some ok → k ≠ i → (listed.setIfInBounds j true).getD k true = false →
          (∀ e ∈ ok.after, Region.binds md e = true → e.on ≠ i) → oi'.apart ops ok = true := fun k ok hk hki hun' hno => by
        refine hfree k ok hk hki ?_ hno
        by_cases hjk : j = k
        · subst hjk; exact hjun
        · rw [getD_set_ne true hjk] at hun'; exact hun'
      have hd := (Oper.apart_spec hap).2.1
      have hjf := getD_both hjun
      -- what j yields, whatever i has yielded
      have hc : ∀ u, Val E0 F R u → ∃ Rj : Value → World → Prop, Gives P md ops S E0 F oj a Rj ∧ ∀ v, Val E0 (up F i (R u)) Rj v → anyS P md ops S E0 n L f ((listed.setIfInBounds i true).setIfInBounds j true) ((a.put oi'.dst u).put oj.dst v) (up (up F i (R u)) j (Rj v)) := by
        intro u hu
        obtain ⟨oj', hoj', Rj, hg, hk⟩ := ((H u hu).2 j (ready_mono hj hji)).2
        obtain rfl : oj' = oj := Option.some.inj (hoj'.symm.trans hoj)
        exact ⟨Rj, (hg.unput hap hsj).facts fun e he hb => (up_ne _ _ (hnot e he hb)).symm, hk⟩
      obtain ⟨u0, hu0⟩ := hy.inh hE hF hinh
      let Rc : Value → Value → World → Prop := fun u => if hu : Val E0 F R u then Classical.choose (hc u hu) else fun _ _ => True
      have hRc : ∀ u (hu : Val E0 F R u), Gives P md ops S E0 F oj a (Rc u) ∧ ∀ v, Val E0 (up F i (R u)) (Rc u) v → anyS P md ops S E0 n L f ((listed.setIfInBounds i true).setIfInBounds j true) ((a.put oi'.dst u).put oj.dst v) (up (up F i (R u)) j (Rc u v)) := by
        intro u hu
        have := Classical.choose_spec (hc u hu)
        simp only [Rc, dif_pos hu]
        exact this
      have hG := Gives.all (V := Val E0 F R) u0 hu0 fun u hu => (hRc u hu).1
      refine ⟨oj, hoj, _, hG, fun v hv => ?_⟩
      have hv' := hv
      obtain ⟨wv, hv1, hv2, hv3⟩ := hv
      refine ih (listed.setIfInBounds j true) (a.put oj.dst v) _ R (inv.set hj hjn) hfree' (ready_mono hr (Ne.symm hji)) (up_stb hF (hG.stb v)) ⟨wv, hv1, up_all hv2 hv3⟩ ?_ ((hy.put hap hsi).facts fun e he hb => up_ne _ _ (hnoti e he hb)) ?_
      · intro k w hk
        by_cases hkj : k = j
        · subst hkj
          have : k < listed.size := by rw [inv.size]; exact (Array.getElem?_eq_some_iff.1 hoj).1
          simp [this] at hk
        · rw [up_ne _ _ hkj]
          rw [getD_set_ne false (Ne.symm hkj)] at hk
          exact hT k w hk
      · rintro u ⟨w, h1, h2, h3⟩
        have hFw : ∀ k, F k w := fun k => by
          by_cases hkj : k = j
          · subst hkj; exact hT k w hjf
          · have := h2 k; rwa [up_ne _ _ hkj] at this
        have hRw : ∀ u, Val E0 F R u → Rc u v w := by have := h2 j; rwa [up_same] at this
        have hu : Val E0 F R u := ⟨w, h1, hFw, h3⟩
        have hk := (hRc u hu).2 v ⟨w, h1, up_all hFw h3, hRw u hu⟩
        rw [Array.setIfInBounds_comm _ _ hji, ← Act.put_comm a u v hd]
        refine anyS_mono hL f _ _ _ _ ?_ hk
        intro k w' hh
        by_cases hki : k = i
        · subst hki
          rw [up_same] at hh
          rw [up_ne _ _ (Ne.symm hji), up_same]
          exact hh
        · rw [up_ne _ _ hki] at hh
          by_cases hkj : k = j
          · subst hkj
            rw [up_same] at hh ⊢
            exact hh u hu
          · rw [up_ne _ _ hkj] at hh
            rw [up_ne _ _ hkj, up_ne _ _ hki]
            exact hh

/-! ### the walk in the text's order -/
def wpW (P : Program) (md : Region.Mode) (ops : Array Oper) (S : FuncId → Array Value → Value → World → Prop) (E0 : World → Prop) (Q : Act → (Nat → World → Prop) → Prop) : Nat → List Oper → Act → (Nat → World → Prop) → Prop
  | _, [], a, F => Q a F
  | k, o :: rest, a, F => ∃ R, Gives P md ops S E0 F o a R ∧ ∀ u, Val E0 F R u → wpW P md ops S E0 Q (k + 1) rest (a.put o.dst u) (up F k (R u))

theorem anyS_lex (hE : Stb E0) {n g : Nat} {Lq : Act → (Nat → World → Prop) → Prop} (hLq : ∀ a F F', (∀ k w, F' k w → F k w) → Lq a F → Lq a F') (hsel : Region.noSelect ops = true) (hnsz : n ≤ ops.size)
    (hlt : ∀ i, i < n → ∀ listed, HeadInv md ops n listed → listed.getD i true = false → ∀ j ∈ Region.ready md ops listed, j < n) :
    ∀ (l : List Oper) (k : Nat) (listed : Array Bool) (a : Act) (F : Nat → World → Prop), (∀ j, j < l.length → l[j]? = ops[k + j]?) → k + l.length = n → HeadInv md ops n listed →
    (∀ k, Stb (F k)) → (∃ w, E0 w ∧ ∀ k, F k w) → (∀ k w, listed.getD k false = false → F k w) →
    Region.lexHead md ops g l.length k listed = true → wpW P md ops S E0 Lq k l a F →
    anyS P md ops S E0 n (fun listed' a' F' => Region.seqB md ops g n listed' = true ∧ Lq a' F') l.length listed a F
  | [], k, listed, a, F, _, hk, _, _, _, _, hB, h => by
    have : k = n := by simpa using hk
    subst this
    exact ⟨by simpa [Region.lexHead] using hB, h⟩
  | o :: l, k, listed, a, F, hl, hk, inv, hF, hinh, hT, hB, h => by
    have h0 : ops[k]? = some o := by simpa using (hl 0 (by simp)).symm
    simp only [List.length_cons, Region.lexHead, Bool.and_eq_true] at hB
    obtain ⟨⟨hr, hf⟩, hB'⟩ := hB
    have hkn : k < n := by simp only [List.length_cons] at hk; omega
    have hr' : k ∈ Region.ready md ops listed := by simpa using hr
    obtain ⟨R, hg, hK⟩ := h
    refine anyS_first hE h0 (Region.noSelect_spec hsel) (hlt k hkn) hkn (fun listed a F F' hF h => ⟨h.1, hLq _ _ _ hF h.2⟩) (fun listed' a' F' hL => seqB_ready hL.1) l.length listed a F R inv (Region.free_spec h0 hf) hr' hF hinh hT hg ?_
    rintro u ⟨w, h1, h2, h3⟩
    refine anyS_lex hE hLq hsel hnsz hlt l (k + 1) _ _ _ (fun j hj => by have := hl (j + 1) (by simp; omega); simpa [Nat.add_assoc, Nat.add_comm 1 j] using this) (by simp only [List.length_cons] at hk; omega) (inv.set hr' hkn) (up_stb hF (hg.stb u)) ⟨w, h1, up_all h2 h3⟩ ?_ hB' (hK u ⟨w, h1, h2, h3⟩)
    intro j w' hj
    by_cases hjk : j = k
    · subst hjk
      have : j < listed.size := by rw [inv.size]; omega
      simp [this] at hj
    · rw [up_ne _ _ hjk]
      rw [getD_set_ne false (Ne.symm hjk)] at hj
      exact hT j w' hj

/-- **The head in the text's order; then the tail.** -/
theorem wp_region_tail {id : Nat} {Q : Exit → Act → World → Prop} {a : Act} {w : World} {l : List Oper} (S : FuncId → Array Value → Value → World → Prop) (E0 : World → Prop) (hE : Stb E0) (n : Nat) (hm : P.follows .mixedOrders = true) (hB : Region.lexTailB .any l.toArray n = true)
    (hw : E0 w.drew) (h : wpW P .any l.toArray S E0 (fun a' F => ∀ w', E0 w' → (∀ k, F k w') → wpList P l.toArray Q (l.drop n) a' w') 0 (l.take n) a (fun _ _ => True)) : (Code.region id l.toArray true).wp P Q a w := by
  simp only [Region.lexTailB, Bool.and_eq_true, decide_eq_true_eq] at hB
  obtain ⟨⟨⟨⟨hsel, hn⟩, hs⟩, hc⟩, hlex⟩ := hB
  have hn' : n < l.length := by simpa using hn
  have htl : (l.take n).length = n := by simp; omega
  have hdl : (l.drop n).length = l.toArray.size - n := by simp
  have inv0 : HeadInv .any l.toArray n (Array.replicate l.toArray.size false) :=
    ⟨by simp, fun j oj _ hl => (by rw [getD_replicate_false] at hl; cases hl), fun t _ ht => getD_in (by simpa using ht) (getD_replicate_false _ _)⟩
  have H := anyS_lex (md := .any) (g := l.toArray.size - n) hE (Lq := fun a' F => ∀ w', E0 w' → (∀ k, F k w') → wpList P l.toArray Q (l.drop n) a' w') (fun a F F' hF h w' h1 h2 => h w' h1 fun k => hF k _ (h2 k)) hsel (Nat.le_of_lt hn)
    (fun i hin listed inv hun j hj => (Nat.lt_or_ge j n).resolve_right fun h => absurd hj (tail_waits hs hc hn inv _ i rfl hin hun j h)) (l.take n) 0 _ a (fun _ _ => True) (fun j hj => by
      have hj' : j < n := by rw [htl] at hj; exact hj
      simp [hj']) (by simpa using htl) inv0 (fun _ _ _ _ _ => trivial) ⟨_, hw, fun _ => trivial⟩ (fun _ _ _ => trivial) (by rw [htl]; exact hlex) h
  refine wp_region_any hm ?_
  have := any_of_S (Q' := Q) (g := l.toArray.size - n) hE (fun listed a' F w' _ hw' hk hL => by
    have := wpAny_of_seq (md := .any) (Q' := Q) (l.drop n) n listed a' w' (fun j => by simp [List.getElem?_drop]) (by rw [hdl]; exact hL.1) (hL.2 w' hw' hk)
    rwa [hdl] at this) _ _ _ _ _ (fun _ _ _ _ _ => trivial) hw (fun _ => trivial) H
  rw [htl, show n + (l.toArray.size - n) = l.toArray.size by omega] at this
  exact this
def lexAllB (ops : Array Oper) : Bool := Region.noSelect ops && Region.lexHead .any ops 0 ops.size 0 (Array.replicate ops.size false)
/-- A region that has no tail. -/
theorem wp_region_all {id : Nat} {Q : Exit → Act → World → Prop} {a : Act} {w : World} {l : List Oper} (S : FuncId → Array Value → Value → World → Prop) (E0 : World → Prop) (hE : Stb E0) (hm : P.follows .mixedOrders = true) (hB : lexAllB l.toArray = true)
    (hw : E0 w.drew) (h : wpW P .any l.toArray S E0 (fun a' F => ∀ w', E0 w' → (∀ k, F k w') → Q .normal a' w') 0 l a (fun _ _ => True)) : (Code.region id l.toArray true).wp P Q a w := by
  simp only [lexAllB, Bool.and_eq_true] at hB
  obtain ⟨hsel, hlex⟩ := hB
  have inv0 : HeadInv .any l.toArray l.toArray.size (Array.replicate l.toArray.size false) :=
    ⟨by simp, fun j oj _ hl => (by rw [getD_replicate_false] at hl; cases hl), fun t h1 h2 => by omega⟩
  have H := anyS_lex (md := .any) (g := 0) hE (Lq := fun a' F => ∀ w', E0 w' → (∀ k, F k w') → Q .normal a' w') (fun a F F' hF h w' h1 h2 => h w' h1 fun k => hF k _ (h2 k)) hsel (Nat.le_refl _)
    (fun i hin listed inv hun j hj => by
      obtain ⟨_, oj, hoj, _⟩ := mem_ready.1 hj
      exact (Array.getElem?_eq_some_iff.1 hoj).1) l 0 _ a (fun _ _ => True) (fun j hj => by simp) (by simp) inv0 (fun _ _ _ _ _ => trivial) ⟨_, hw, fun _ => trivial⟩ (fun _ _ _ => trivial) (by simpa using hlex) h
  refine wp_region_any hm ?_
  have := any_of_S (Q' := Q) (g := 0) hE (fun listed a' F w' _ hw' hk hL => by
    refine ⟨?_, hL.2 w' hw' hk⟩
    simpa [Region.seqB] using hL.1) _ _ _ _ _ (fun _ _ _ _ _ => trivial) hw (fun _ => trivial) H
  rw [Nat.add_zero] at this
  simpa using this

/-! ### one operation -/
variable {Q : Act → (Nat → World → Prop) → Prop} {F : Nat → World → Prop} {a : Act} {o : Oper} {rest : List Oper} {k : Nat}
theorem wpW_mono (hQ : ∀ a F F', (∀ k w, F' k w → F k w) → Q a F → Q a F') : ∀ (l : List Oper) (k : Nat) (a : Act) (F F' : Nat → World → Prop), (∀ k w, F' k w → F k w) → wpW P md ops S E0 Q k l a F → wpW P md ops S E0 Q k l a F'
  | [], _, _, _, _, hF, h => hQ _ _ _ hF h
  | o :: l, k, a, F, F', hF, h => by
    obtain ⟨R, hg, hk⟩ := h
    exact ⟨R, hg.mono hF, fun u hu => wpW_mono hQ l (k + 1) _ _ _ (up_mono hF k (R u)) (hk u (by obtain ⟨w, h1, h2, h3⟩ := hu; exact ⟨w, h1, fun k => hF _ _ (h2 k), h3⟩))⟩
/-- The walk's post, as the two theorems have it. -/
structure Mon (Q : Act → (Nat → World → Prop) → Prop) : Prop where mk ::
  out : ∀ a F F', (∀ k w, F' k w → F k w) → Q a F → Q a F'
theorem w_nil (h : Q a F) : wpW P md ops S E0 Q k [] a F := h
theorem wanted_none (h : o.guard = none) : Region.wanted o (yielded ops a.tmps) = true := by simp [Region.wanted, h]
/-- What operation i has told, to one that waits for it. -/
theorem fact {w : World} (hp : ∀ e ∈ o.after, Region.binds md e = true → F e.on w) (i : Nat) (h : (o.after.toList.any fun e => e.on == i && Region.binds md e) = true) : F i w := by
  obtain ⟨e, he, h2⟩ := List.any_eq_true.1 h
  simp only [Bool.and_eq_true, beq_iff_eq] at h2
  have := hp e (by simpa using he) h2.2
  rwa [h2.1] at this
/-- One value, found by running it. -/
theorem w_val (hQ : Mon Q) (hFk : ∀ w, F k w) (hw : Region.wanted o (yielded ops a.tmps) = true)
    (h : ∃ v, (∀ w, E0 w → (∀ e ∈ o.after, Region.binds md e = true → F e.on w) → (execOp a.eval o).run P w = .ok (.value v) w) ∧ ∀ K : Act → Prop, (∀ a, wpW P md ops S E0 Q (k + 1) rest a F → K a) → K (a.put o.dst v)) : wpW P md ops S E0 Q k (o :: rest) a F := by
  obtain ⟨v, hr, h⟩ := h
  refine ⟨fun u _ => u = v, .inl ⟨hw, fun u w w' e _ => e, fun w hw hp => by rw [hr w hw hp]; exact ⟨Below.refl _ _, rfl⟩⟩, ?_⟩
  rintro u ⟨w, _, _, rfl⟩
  exact h _ fun a hh => wpW_mono hQ.out rest (k + 1) a F _ (fun j w' hj => by
    by_cases hjk : j = k
    · subst hjk; exact hFk w'
    · rwa [up_ne _ _ hjk] at hj) hh
theorem w_skip (hQ : Mon Q) (hFk : ∀ w, F k w) (hw : Region.wanted o (yielded ops a.tmps) = false)
    (h : ∀ K : Act → Prop, (∀ a, wpW P md ops S E0 Q (k + 1) rest a F → K a) → K (a.put o.dst undef)) : wpW P md ops S E0 Q k (o :: rest) a F := by
  refine ⟨fun u _ => u = undef, .inr ⟨hw, rfl⟩, ?_⟩
  rintro u ⟨w, _, _, rfl⟩
  exact h _ fun a hh => wpW_mono hQ.out rest (k + 1) a F _ (fun j w' hj => by
    by_cases hjk : j = k
    · subst hjk; exact hFk w'
    · rwa [up_ne _ _ hjk] at hj) hh
/-- A call whose result S tells. -/
theorem w_call (hw : Region.wanted o (yielded ops a.tmps) = true)
    (h : ∃ f args, (∀ w, (execOp a.eval o).run P w = .ok (.enter f args) w) ∧ (∀ u, Stb (S f args u)) ∧
      (∀ w, E0 w → (∀ e ∈ o.after, Region.binds md e = true → F e.on w) → Calls P f args w (fun e w'' => ∃ u, e = .returned u ∧ Below w.heap.size w w'' ∧ S f args u w'')) ∧
      ∀ u, Val E0 F (S f args) u → ∀ K : Act → Prop, (∀ a, wpW P md ops S E0 Q (k + 1) rest a (up F k (S f args u)) → K a) → K (a.put o.dst u)) : wpW P md ops S E0 Q k (o :: rest) a F := by
  obtain ⟨f, args, hr, hs, hc, h⟩ := h
  exact ⟨S f args, .inl ⟨hw, hs, fun w hw hp => by rw [hr w]; exact ⟨rfl, rfl, hc w hw hp⟩⟩, fun u hu => h u hu _ fun a hh => hh⟩
end
end Go.Proofs.Ytddhngalokmdoaa.Qw

/- A new variable in a drawn region (XQw's third kind of operation). Any program. -/
namespace Go.Proofs.Ytddhngalokmdoaa.Qw
open Go.RowKit Go.Proofs.Ytddhngalokmdoaa.Arr
variable {P : Program} {ops : Array Oper} {md : Region.Mode} {S : FuncId → Array Value → Value → World → Prop} {E0 : World → Prop} {Q : Act → (Nat → World → Prop) → Prop} {k : Nat} {o : Oper} {rest : List Oper} {a : Act} {F : Nat → World → Prop}
theorem w_new (R : Value → World → Prop) (hs : ∀ u, Stb (R u)) (hw : Region.wanted o (yielded ops a.tmps) = true)
    (h : (∀ w, E0 w → ∃ u w', (execOp a.eval o).run P w = .ok (.value u) w' ∧ Below w.heap.size w w' ∧ R u w') ∧
      ∀ u, Val E0 F R u → ∀ K : Act → Prop, (∀ a, wpW P md ops S E0 Q (k + 1) rest a (up F k (R u)) → K a) → K (a.put o.dst u)) : wpW P md ops S E0 Q k (o :: rest) a F :=
  ⟨R, .inl ⟨hw, hs, fun w hw hp => by obtain ⟨u, w', e, hb, hr⟩ := h.1 w hw; rw [e]; exact ⟨hb, hr⟩⟩, fun u hu => h.2 u hu _ fun a hh => hh⟩
end Go.Proofs.Ytddhngalokmdoaa.Qw

/- The piece of a sector: read. -/
namespace Go.Proofs.Ytddhngalokmdoaa.Spo
open Go.RowKit Go.Proofs.YtddhngalokmdoaaW.PrintWords Go.Proofs.YtddhngalokmdoaaW.PrintLast Go.Proofs.YtddhngalokmdoaaW.PrintMore Go.Proofs.Ytddhngalokmdoaa.Arr Go.Proofs.Ytddhngalokmdoaa.PSpoolPlays
set_option linter.unusedVariables false
set_option linter.unusedSimpArgs false

theorem add_off (g i j : Nat) : (⟨g, i, none⟩ : Addr).add j = ⟨g, i + j, none⟩ := by
  unfold Addr.add
  split
  · next h => subst h; rfl
  · rfl
theorem blk_sub {w : World} {g : Nat} {T : TypeId} {bs : List Int} (h : Blk w g T (nums .u8 bs).toArray) (i n : Nat) (hi : i + n ≤ bs.length) (hn : n ≤ 1000) : ReadsInt w .u8 (some ⟨g, i, none⟩) n ((bs.drop i).take n) := by
  refine ⟨by simp; omega, by omega, fun h0 => ⟨_, rfl, fun j hj => ?_⟩⟩
  have hlt : i + j < bs.length := by omega
  have e : ((bs.drop i).take n).getD j 0 = bs[i + j] := by
    rw [List.getD, List.getElem?_take_of_lt hj, List.getElem?_drop, List.getElem?_eq_getElem hlt, Option.getD_some]
  rw [e]
  rw [add_off, h.cell (i + j)]
  simp [nums, List.getElem?_eq_getElem hlt]
theorem blk_all {w : World} {g : Nat} {T : TypeId} {bs : List Int} (h : Blk w g T (nums .u8 bs).toArray) (hl : bs.length = 128) : ReadsInt w .u8 (some ⟨g, 0, none⟩) 128 bs := by
  have := blk_sub h 0 128 (by omega) (by decide)
  rwa [List.drop_zero, List.take_of_length_le (by omega)] at this
theorem add_block (ad : Addr) (j : Nat) : (ad.add j).block = ad.block := by
  unfold Addr.add
  split <;> rfl
theorem cell_far (w : World) (p : Addr) (ad : Addr) (u : Value) (h : ad.block ≠ p.block) : (w.setCell p u).cell? ad = w.cell? ad := by
  unfold World.cell?
  rw [Below.heap_setCell w p u ad.block h]
theorem blk_cellB {w : World} {g : Nat} {T : TypeId} {bs : List Int} (h : Blk w g T (nums .u8 bs).toArray) (i : Nat) (hi : i < bs.length) : w.cell? ⟨g, i, none⟩ = some (.int .u8 (rd bs (i : Int))) := by
  rw [h.cell i]
  have : rd bs (i : Int) = bs[i] := by unfold Go.Proofs.YtddhngalokmdoaaW.PrintWords.rd; rw [Int.toNat_natCast, List.getD, List.getElem?_eq_getElem hi, Option.getD_some]
  rw [this]
  simp [nums, List.getElem?_eq_getElem hi]
theorem number_calls (l : List Int) (hB : Bytes l) (hl : l.length ≤ 6) (n c : Nat) (hn : l.length = n) (hc : n ≤ c) (A : Option Addr) (w : World) (h : ReadsInt w .u8 A n l) :
    Calls Try.prog 54 #[.slice A n c] w fun e w' => e = .returned (.int .i64 (numV l)) ∧ Below w.heap.size w w' := by
  subst hn
  refine (spool_number.calls 9 A c l (numV l) w (Kd.C_of_reads (d := (0 : Int)) h) hc (number_f l hB hl)).mono ?_
  rintro e w1 ⟨rfl, hd⟩
  exact ⟨rfl, hd.below⟩
theorem bytes_calls (p : PieceV) (hB : Bytes p.b) (hl : p.b.length ≤ 108) (A : Option Addr) (c n : Nat) (hn : p.b.length = n) (hc : n ≤ c) (w : World) (h : ReadsInt w .u8 A n p.b) :
    Calls Try.prog 42 #[.agg #[.int .i64 p.epoch, .int .i64 p.number, .int .i64 p.at_, .int .i64 p.of, .slice A n c]] w fun e w' => ∃ v, e = .returned v ∧ Kd.R (Kd.int .u8) 5 w' w.heap.size (fun _ => True) v (bytesV p) ∧ Below w.heap.size w w' := by
  subst hn
  exact spool_piece_bytes.calls 1300 p.epoch p.number p.at_ p.of A c p.b (bytesV p) w (Kd.C_of_reads (d := (0 : Int)) h) hc (bytes_f p hB hl)
theorem equal_calls (a b : List Int) (ha : a.length ≤ 1000000000) (A B : Option Addr) (n m c c' : Nat) (hn : a.length = n) (hm : b.length = m) (hc : n ≤ c) (hc' : m ≤ c') (w : World) (h : Kd.C (Kd.int .u8) w A n a) (h' : Kd.C (Kd.int .u8) w B m b) :
    Calls Try.prog 55 #[.slice A n c, .slice B m c'] w fun e w' => e = .returned (.bool (decide (a = b))) ∧ Below w.heap.size w w' := by
  subst hn hm
  refine (slices_Equal_byte_byte.calls (a.length + 1) A c a B c' b (decide (a = b)) w h hc h' hc' (equal_f a b ha)).mono ?_
  rintro e w1 ⟨rfl, hd⟩
  exact ⟨rfl, hd.below⟩
/-- What the two calls at the end tell. -/
def SR (bs : List Int) (q : PieceV) (f : FuncId) (args : Array Value) (u : Value) (w : World) : Prop :=
  (f = 42 → ∃ A c, u = .slice A 128 c ∧ 128 ≤ c ∧ Kd.C (Kd.int .u8) w A 128 (bytesV q)) ∧ (f = 55 → u = .bool (decide (bs = bytesV q)))
theorem sr_stb {bs : List Int} {q : PieceV} {f : FuncId} {args : Array Value} {u : Value} : Qw.Stb (SR bs q f args u) := fun w w' h hb => ⟨fun e => by
  obtain ⟨A, c, h1, h2, h3⟩ := h.1 e
  exact ⟨A, c, h1, h2, Kd.C_below h3 hb⟩, h.2⟩
abbrev slB (g i n : Nat) : Array Value := #[.slice (some ⟨g, i, none⟩) n (128 - i)]
/-- What the four numbers are. -/
def SN (g : Nat) (pe pn pa po : Int) (f : FuncId) (args : Array Value) (u : Value) (w : World) : Prop :=
  (args = slB g 1 4 → u = .int .i64 pe) ∧ (args = slB g 5 6 → u = .int .i64 pn) ∧ (args = slB g 11 2 → u = .int .i64 pa) ∧ (args = slB g 13 2 → u = .int .i64 po)
theorem sn_stb {g : Nat} {pe pn pa po : Int} {f : FuncId} {args : Array Value} {u : Value} : Qw.Stb (SN g pe pn pa po f args u) := fun w w' h hb => h
section
variable {g : Nat} {pe pn pa po : Int} {f : FuncId} {w : World}
theorem sn1 : SN g pe pn pa po f (slB g 1 4) (.int .i64 pe) w := ⟨fun _ => rfl, fun h => absurd h (by simp), fun h => absurd h (by simp), fun h => absurd h (by simp)⟩
theorem sn5 : SN g pe pn pa po f (slB g 5 6) (.int .i64 pn) w := ⟨fun h => absurd h (by simp), fun _ => rfl, fun h => absurd h (by simp), fun h => absurd h (by simp)⟩
theorem sn11 : SN g pe pn pa po f (slB g 11 2) (.int .i64 pa) w := ⟨fun h => absurd h (by simp), fun h => absurd h (by simp), fun _ => rfl, fun h => absurd h (by simp)⟩
theorem sn13 : SN g pe pn pa po f (slB g 13 2) (.int .i64 po) w := ⟨fun h => absurd h (by simp), fun h => absurd h (by simp), fun h => absurd h (by simp), fun _ => rfl⟩
end
theorem blk_set5 {w : World} {g : Nat} {T : TypeId} {x0 x1 x2 x3 x4 : Value} (h : Blk w g T #[x0, x1, x2, x3, x4]) (a b c d e : Value) :
    Blk (((((w.setCell ⟨g, 0, none⟩ a).setCell ⟨g, 1, none⟩ b).setCell ⟨g, 2, none⟩ c).setCell ⟨g, 3, none⟩ d).setCell ⟨g, 4, none⟩ e) g T #[a, b, c, d, e] := by
  have := ((((h.set 0 a).set 1 b).set 2 c).set 3 d).set 4 e
  simpa using this
theorem blk_far5 {w : World} {g m : Nat} {T : TypeId} {cs : Array Value} (h : Blk w g T cs) (hn : g ≠ m) (a b c d e : Value) :
    Blk (((((w.setCell ⟨m, 0, none⟩ a).setCell ⟨m, 1, none⟩ b).setCell ⟨m, 2, none⟩ c).setCell ⟨m, 3, none⟩ d).setCell ⟨m, 4, none⟩ e) g T cs :=
  ((((h.far hn a).far hn b).far hn c).far hn d).far hn e
theorem below_set5 {B : Nat} {w0 w : World} {m : Nat} (h : Below B w0 w) (hm : B ≤ m) (a b c d e : Value) :
    Below B w0 (((((w.setCell ⟨m, 0, none⟩ a).setCell ⟨m, 1, none⟩ b).setCell ⟨m, 2, none⟩ c).setCell ⟨m, 3, none⟩ d).setCell ⟨m, 4, none⟩ e) :=
  ((((h.setCell hm a).setCell hm b).setCell hm c).setCell hm d).setCell hm e
theorem numV_go : ∀ (l : List Int) (n : Int), Bytes l → 0 ≤ n → 0 ≤ l.foldl (fun n c => n * 256 + c) n ∧ l.foldl (fun n c => n * 256 + c) n < (n + 1) * 256 ^ l.length
  | [], n, _, h => ⟨h, by show n < (n + 1) * 1; omega⟩
  | x :: l, n, hB, h => by
    have h1 := hB x (by simp)
    obtain ⟨h2, h3⟩ := numV_go l (n * 256 + x) (fun y hy => hB y (by simp [hy])) (by omega)
    refine ⟨h2, Int.lt_of_lt_of_le h3 ?_⟩
    have : (n + 1) * 256 ^ (x :: l).length = ((n + 1) * 256) * 256 ^ l.length := by
      rw [List.length_cons, Int.pow_succ, Int.mul_assoc]
      congr 1
      exact Int.mul_comm _ _
    rw [this]
    exact Int.mul_le_mul_of_nonneg_right (by omega) (Int.pow_nonneg (by decide))
theorem numV_lt (l : List Int) (hB : Bytes l) (n : Nat) (hn : l.length = n) : 0 ≤ numV l ∧ numV l < 256 ^ n := by
  have := numV_go l 0 hB (by decide)
  rw [hn] at this
  unfold numV
  omega
/-- What read returns. -/
def ReadpPost (g : Nat) (bs : List Int) (w : World) (e : Ending) (w' : World) : Prop :=
  Below w.heap.size w w' ∧ ∃ p A c, e = .returned (.tuple #[.agg (pieceC p A c), .bool (okV bs)]) ∧ (okV bs = true → p = pieceV bs ∧ (∀ ad, A = some ad → ad.block = g) ∧ c = (pieceV bs).b.length ∧ ReadsInt w' .u8 A (pieceV bs).b.length (pieceV bs).b)
set_option maxHeartbeats 8000000 in
set_option maxRecDepth 100000 in
theorem readp_calls (g : Nat) (bs : List Int) (w : World) (hl : bs.length = 128) (hB : Bytes bs) (H : Blk w g TSe (nums .u8 bs).toArray) :
    Calls Try.prog 53 #[.slice (some ⟨g, 0, none⟩) 128 128] w (ReadpPost g bs w) := by
  have HH := Aside0.mk H
  have h94 := Try.underlying94
  have N1 := Aside0.mk (fun (w' : World) (hb : Below w.heap.size w w') => number_calls ((bs.drop 1).take 4) ((hB.drop 1).take 4) (by simp; omega) 4 127 (by simp; omega) (by decide) (some ⟨g, 1, none⟩) w' (blk_sub (H.below hb) 1 4 (by omega) (by decide)))
  have N5 := Aside0.mk (fun (w' : World) (hb : Below w.heap.size w w') => number_calls ((bs.drop 5).take 6) ((hB.drop 5).take 6) (by simp; omega) 6 123 (by simp; omega) (by decide) (some ⟨g, 5, none⟩) w' (blk_sub (H.below hb) 5 6 (by omega) (by decide)))
  have N11 := Aside0.mk (fun (w' : World) (hb : Below w.heap.size w w') => number_calls ((bs.drop 11).take 2) ((hB.drop 11).take 2) (by simp; omega) 2 117 (by simp; omega) (by decide) (some ⟨g, 11, none⟩) w' (blk_sub (H.below hb) 11 2 (by omega) (by decide)))
  have N13 := Aside0.mk (fun (w' : World) (hb : Below w.heap.size w w') => number_calls ((bs.drop 13).take 2) ((hB.drop 13).take 2) (by simp; omega) 2 115 (by simp; omega) (by decide) (some ⟨g, 13, none⟩) w' (blk_sub (H.below hb) 13 2 (by omega) (by decide)))
  obtain ⟨pe, hpe⟩ : ∃ x, (pieceV bs).epoch = x := ⟨_, rfl⟩
  obtain ⟨pn, hpn⟩ : ∃ x, (pieceV bs).number = x := ⟨_, rfl⟩
  obtain ⟨pa, hpa⟩ : ∃ x, (pieceV bs).at_ = x := ⟨_, rfl⟩
  obtain ⟨po, hpo⟩ : ∃ x, (pieceV bs).of = x := ⟨_, rfl⟩
  rw [show numV ((bs.drop 1).take 4) = pe from hpe] at N1
  rw [show numV ((bs.drop 5).take 6) = pn from hpn] at N5
  rw [show numV ((bs.drop 11).take 2) = pa from hpa] at N11
  rw [show numV ((bs.drop 13).take 2) = po from hpo] at N13
  have HP := Aside0.mk (⟨hpe, hpn, hpa, hpo⟩ : _ ∧ _ ∧ _ ∧ _)
  obtain ⟨z, hz, hz0, hz1⟩ : ∃ z : Nat, sizeV bs = (z : Int) ∧ z < 256 ∧ rd bs 15 = (z : Int) := by
    obtain ⟨h1, h2⟩ := hB.rd 15 (by omega)
    exact ⟨_, h1, h2, h1⟩
  have HZ := Aside0.mk hz
  have HZ1 := Aside0.mk hz1
  have HL := Aside0.mk hl
  have HBY := Aside0.mk hB
  clear hpe hpn hpa hpo hz hz1 hl hB
  go_enter Try.func53, Try.ntmps53
  go_wp2_with fail
  obtain ⟨W1, hW1⟩ : ∃ W1, w.alloc (.cells #[.int .i64 0, .int .i64 0, .int .i64 0, .int .i64 0, .slice none 0 0] TPi) = W1 := ⟨_, rfl⟩
  have hE1 : Blk W1 w.heap.size TPi #[.int .i64 0, .int .i64 0, .int .i64 0, .int .i64 0, .slice none 0 0] := by rw [← hW1]; exact Blk.new _ _ _
  have hb1 : Below w.heap.size w W1 := by rw [← hW1]; exact (Below.refl _ _).alloc (Nat.le_refl _) _
  have E1 := Aside0.mk hE1
  have B1 := Aside0.mk hb1
  rw [hW1]
  clear hE1 hb1 hW1 H
  have HST : Qw.Stb (fun w' => Blk w' w.heap.size TPi #[.int .i64 0, .int .i64 0, .int .i64 0, .int .i64 0, .slice none 0 0] ∧ Below w.heap.size w w') := fun w1 w2 h hb => ⟨h.1.below hb, h.2.trans (hb.mono h.2.size)⟩
  have HE0 : Blk W1.drew w.heap.size TPi #[.int .i64 0, .int .i64 0, .int .i64 0, .int .i64 0, .slice none 0 0] ∧ Below w.heap.size w W1.drew := ⟨E1.out.drew, B1.out.drew⟩
  clear E1 B1
  refine Qw.wp_region_tail (SN g pe pn pa po) _ HST 14 (by kernel_rfl) (by kernel_rfl) HE0 ?_
  clear HST HE0
  simp only [List.take_succ_cons, List.take_zero, List.drop_succ_cons, List.drop_zero]
  iterate 2 ((first | (with_reducible refine Qw.w_val ⟨fun _ _ _ hF h w' h1 h2 => h w' h1 fun k => hF k _ (h2 k)⟩ ?_ (Qw.wanted_none rfl) ?_) | ((with_reducible refine Qw.w_val ⟨fun _ _ _ hF h w' h1 h2 => h w' h1 fun k => hF k _ (h2 k)⟩ ?_ ?_ ?_); (focus (exact fun _ => trivial)); (focus (exact Qg.wanted_on rfl rfl rfl)))); (try (focus (exact fun _ => trivial))); apply Exists.intro; refine ⟨?_, ?_⟩; (focus (intro w' hw' hp'; skip; go_simp; (first | done | (with_reducible rfl)))); intro K hK; go_simp; (first | (with_reducible refine hK _ ?_) | (refine hK _ ?_)); clear hK K)
  ((with_reducible refine Qw.w_call ?_ ?_); (first | (focus (exact Qw.wanted_none rfl)) | (focus (exact Qg.wanted_on rfl rfl rfl))); apply Exists.intro; apply Exists.intro; refine ⟨?_, ?_, ?_, ?_⟩; (focus (intro w'; go_simp; (first | rfl | exact ⟨rfl, rfl⟩))); (focus (exact fun u => sn_stb)); (focus (intro w' hw' hp'; refine (N1.out w' hw'.2).mono ?_; rintro e w8 ⟨rfl, b8⟩; exact ⟨_, rfl, b8, sn1⟩)); rintro u1 ⟨wv1, -, -, hu1⟩; intro K hK; go_simp; (first | (with_reducible refine hK _ ?_) | (refine hK _ ?_)); clear hK K)
  obtain rfl := hu1.1 rfl
  clear hu1 wv1
  iterate 2 ((first | (with_reducible refine Qw.w_val ⟨fun _ _ _ hF h w' h1 h2 => h w' h1 fun k => hF k _ (h2 k)⟩ ?_ (Qw.wanted_none rfl) ?_) | ((with_reducible refine Qw.w_val ⟨fun _ _ _ hF h w' h1 h2 => h w' h1 fun k => hF k _ (h2 k)⟩ ?_ ?_ ?_); (focus (exact fun _ => trivial)); (focus (exact Qg.wanted_on rfl rfl rfl)))); (try (focus (exact fun _ => trivial))); apply Exists.intro; refine ⟨?_, ?_⟩; (focus (intro w' hw' hp'; skip; go_simp; (first | done | (with_reducible rfl)))); intro K hK; go_simp; (first | (with_reducible refine hK _ ?_) | (refine hK _ ?_)); clear hK K)
  ((with_reducible refine Qw.w_call ?_ ?_); (first | (focus (exact Qw.wanted_none rfl)) | (focus (exact Qg.wanted_on rfl rfl rfl))); apply Exists.intro; apply Exists.intro; refine ⟨?_, ?_, ?_, ?_⟩; (focus (intro w'; go_simp; (first | rfl | exact ⟨rfl, rfl⟩))); (focus (exact fun u => sn_stb)); (focus (intro w' hw' hp'; refine (N5.out w' hw'.2).mono ?_; rintro e w8 ⟨rfl, b8⟩; exact ⟨_, rfl, b8, sn5⟩)); rintro u5 ⟨wv5, -, -, hu5⟩; intro K hK; go_simp; (first | (with_reducible refine hK _ ?_) | (refine hK _ ?_)); clear hK K)
  obtain rfl := hu5.2.1 rfl
  clear hu5 wv5
  iterate 2 ((first | (with_reducible refine Qw.w_val ⟨fun _ _ _ hF h w' h1 h2 => h w' h1 fun k => hF k _ (h2 k)⟩ ?_ (Qw.wanted_none rfl) ?_) | ((with_reducible refine Qw.w_val ⟨fun _ _ _ hF h w' h1 h2 => h w' h1 fun k => hF k _ (h2 k)⟩ ?_ ?_ ?_); (focus (exact fun _ => trivial)); (focus (exact Qg.wanted_on rfl rfl rfl)))); (try (focus (exact fun _ => trivial))); apply Exists.intro; refine ⟨?_, ?_⟩; (focus (intro w' hw' hp'; skip; go_simp; (first | done | (with_reducible rfl)))); intro K hK; go_simp; (first | (with_reducible refine hK _ ?_) | (refine hK _ ?_)); clear hK K)
  ((with_reducible refine Qw.w_call ?_ ?_); (first | (focus (exact Qw.wanted_none rfl)) | (focus (exact Qg.wanted_on rfl rfl rfl))); apply Exists.intro; apply Exists.intro; refine ⟨?_, ?_, ?_, ?_⟩; (focus (intro w'; go_simp; (first | rfl | exact ⟨rfl, rfl⟩))); (focus (exact fun u => sn_stb)); (focus (intro w' hw' hp'; refine (N11.out w' hw'.2).mono ?_; rintro e w8 ⟨rfl, b8⟩; exact ⟨_, rfl, b8, sn11⟩)); rintro u11 ⟨wv11, -, -, hu11⟩; intro K hK; go_simp; (first | (with_reducible refine hK _ ?_) | (refine hK _ ?_)); clear hK K)
  obtain rfl := hu11.2.2.1 rfl
  clear hu11 wv11
  iterate 2 ((first | (with_reducible refine Qw.w_val ⟨fun _ _ _ hF h w' h1 h2 => h w' h1 fun k => hF k _ (h2 k)⟩ ?_ (Qw.wanted_none rfl) ?_) | ((with_reducible refine Qw.w_val ⟨fun _ _ _ hF h w' h1 h2 => h w' h1 fun k => hF k _ (h2 k)⟩ ?_ ?_ ?_); (focus (exact fun _ => trivial)); (focus (exact Qg.wanted_on rfl rfl rfl)))); (try (focus (exact fun _ => trivial))); apply Exists.intro; refine ⟨?_, ?_⟩; (focus (intro w' hw' hp'; skip; go_simp; (first | done | (with_reducible rfl)))); intro K hK; go_simp; (first | (with_reducible refine hK _ ?_) | (refine hK _ ?_)); clear hK K)
  ((with_reducible refine Qw.w_call ?_ ?_); (first | (focus (exact Qw.wanted_none rfl)) | (focus (exact Qg.wanted_on rfl rfl rfl))); apply Exists.intro; apply Exists.intro; refine ⟨?_, ?_, ?_, ?_⟩; (focus (intro w'; go_simp; (first | rfl | exact ⟨rfl, rfl⟩))); (focus (exact fun u => sn_stb)); (focus (intro w' hw' hp'; refine (N13.out w' hw'.2).mono ?_; rintro e w8 ⟨rfl, b8⟩; exact ⟨_, rfl, b8, sn13⟩)); rintro u13 ⟨wv13, -, -, hu13⟩; intro K hK; go_simp; (first | (with_reducible refine hK _ ?_) | (refine hK _ ?_)); clear hK K)
  obtain rfl := hu13.2.2.2 rfl
  clear hu13 wv13
  ((first | (with_reducible refine Qw.w_val ⟨fun _ _ _ hF h w' h1 h2 => h w' h1 fun k => hF k _ (h2 k)⟩ ?_ (Qw.wanted_none rfl) ?_) | ((with_reducible refine Qw.w_val ⟨fun _ _ _ hF h w' h1 h2 => h w' h1 fun k => hF k _ (h2 k)⟩ ?_ ?_ ?_); (focus (exact fun _ => trivial)); (focus (exact Qg.wanted_on rfl rfl rfl)))); (try (focus (exact fun _ => trivial))); apply Exists.intro; refine ⟨?_, ?_⟩; (focus (intro w' hw' hp'; skip; go_simp; (first | done | (with_reducible rfl)))); intro K hK; go_simp; (first | (with_reducible refine hK _ ?_) | (refine hK _ ?_)); clear hK K)
  obtain ⟨R, hR⟩ : ∃ R : Value → World → Prop, R = fun u w' => ∃ m, u = .pointer (some ⟨m, 0, none⟩) ∧ w.heap.size < m ∧ Blk w' m TPi #[.int .i64 0, .int .i64 0, .int .i64 0, .int .i64 0, .slice none 0 0] := ⟨_, rfl⟩
  have HSN : ∀ u, Qw.Stb (R u) := by
    subst hR
    intro u w1 w2 h hb
    obtain ⟨m, e, h1, h2⟩ := h
    exact ⟨m, e, h1, h2.below hb⟩
  have hR' : ∀ u w', R u w' ↔ ∃ m, u = .pointer (some ⟨m, 0, none⟩) ∧ w.heap.size < m ∧ Blk w' m TPi #[.int .i64 0, .int .i64 0, .int .i64 0, .int .i64 0, .slice none 0 0] := fun u w' => by rw [hR]
  clear hR
  with_reducible refine Qw.w_new R HSN (Qw.wanted_none rfl) ⟨?_, ?_⟩
  · intro w' hw'
    refine ⟨.pointer (some ⟨w'.heap.size, 0, none⟩), w'.alloc (.cells #[.int .i64 0, .int .i64 0, .int .i64 0, .int .i64 0, .slice none 0 0] TPi), ?_, (Below.refl _ _).alloc (Nat.le_refl _) _, (hR' _ _).2 ⟨w'.heap.size, rfl, hw'.1.lt, Blk.new _ _ _⟩⟩
    go_simp
  rintro u9 ⟨wv9, -, -, hu9⟩
  obtain ⟨m, rfl, hm, -⟩ := (hR' _ _).1 hu9
  clear hu9 wv9
  intro K hK
  go_simp
  refine hK _ ?_
  clear hK K
  ((with_reducible refine Qw.w_nil ?_); intro w' hw' hf')
  obtain ⟨m', e9, -, hM⟩ : ∃ m', Value.pointer (some ⟨m, 0, none⟩) = .pointer (some ⟨m', 0, none⟩) ∧ w.heap.size < m' ∧ Blk w' m' TPi #[.int .i64 0, .int .i64 0, .int .i64 0, .int .i64 0, .slice none 0 0] := (hR' _ _).1 (hf' 13)
  obtain rfl : m = m' := by injection e9 with e9; injection e9 with e9; injection e9
  clear hf' hR' HSN R e9 N1 N5 N11 N13
  have hE2 := hw'.1
  have hb2 := hw'.2
  have hg2 := HH.out.below hb2
  have c15 := blk_cellB hg2 15 (by rw [HL.out]; decide)
  rw [show (((15 : Nat) : Int)) = 15 from rfl, HZ1.out] at c15
  have hgl := hg2.lt
  have hml := hM.lt
  have hwl := hE2.lt
  have G0 := hE2.cell 0
  have M0 := hM.cell 0
  have K0 := hE2.frozen 0
  have L0 := hM.frozen 0
  have G1 := hE2.cell 1
  have M1 := hM.cell 1
  have K1 := hE2.frozen 1
  have L1 := hM.frozen 1
  have G2 := hE2.cell 2
  have M2 := hM.cell 2
  have K2 := hE2.frozen 2
  have L2 := hM.frozen 2
  have G3 := hE2.cell 3
  have M3 := hM.cell 3
  have K3 := hE2.frozen 3
  have L3 := hM.frozen 3
  have G4 := hE2.cell 4
  have M4 := hM.cell 4
  have K4 := hE2.frozen 4
  have L4 := hM.frozen 4
  have B2 := Aside0.mk hb2
  have E2 := Aside0.mk hE2
  have MM := Aside0.mk hM
  have G2' := Aside0.mk hg2
  have hwm : w.heap.size ≠ m := by omega
  have hgw : g ≠ w.heap.size := by have := HH.out.lt; omega
  have hgm : g ≠ m := by have := HH.out.lt; omega
  clear hb2 hw' hE2 hM hg2
  by_cases hz : 108 < z
  · have t1 : decide ((z : Int) > 108) = true := decide_eq_true (by omega)
    go_wp2
    have hEf := blk_set5 (blk_far5 E2.out hwm (.int .i64 pe) (.int .i64 pn) (.int .i64 pa) (.int .i64 po) (.slice none 0 0)) (.int .i64 0) (.int .i64 0) (.int .i64 0) (.int .i64 0) (.slice none 0 0)
    have hbf := below_set5 (below_set5 B2.out (Nat.le_of_lt hm) (.int .i64 pe) (.int .i64 pn) (.int .i64 pa) (.int .i64 po) (.slice none 0 0)) (Nat.le_refl w.heap.size) (.int .i64 0) (.int .i64 0) (.int .i64 0) (.int .i64 0) (.slice none 0 0)
    have hok : okV bs = false := by
      unfold okV
      rw [HZ.out, decide_eq_false (by omega)]
      rfl
    have e0 := hEf.cell 0
    have e1 := hEf.cell 1
    have e2 := hEf.cell 2
    have e3 := hEf.cell 3
    have e4 := hEf.cell 4
    refine bodyPost_ret (v := .tuple #[.agg (pieceC ⟨0, 0, 0, 0, []⟩ none 0), .bool false]) ?_ rfl ⟨hbf, ⟨0, 0, 0, 0, []⟩, none, 0, by rw [hok], fun h => by rw [hok] at h; cases h⟩
    simp [results, Try.results53, go_sem, e0, e1, e2, e3, e4]
  · have t1 : decide ((z : Int) > 108) = false := decide_eq_false (by omega)
    have hpo := HP.out.2.2.2
    obtain ⟨po0, po1⟩ := numV_lt ((bs.drop 13).take 2) ((HBY.out.drop 13).take 2) 2 (by simp [HL.out])
    rw [show numV ((bs.drop 13).take 2) = po from hpo] at po0 po1
    have po1 : po < 65536 := po1
    have w1 : IntKind.i64.wrap (16 + (z : Int)) = ((16 + z : Nat) : Int) := by rw [IntWalk.i64_in _ (by omega)]; omega
    have w2 : IntKind.i64.wrap (po - 1) = po - 1 := IntWalk.i64_in _ (by omega)
    clear hpo
    obtain ⟨A16, hA16⟩ : ∃ A, (if 16 + z = 16 then some (⟨g, 0, none⟩ : Addr) else some ⟨g, 16, none⟩) = A := ⟨_, rfl⟩
    have hA0 : (if z = 0 then some (⟨g, 0, none⟩ : Addr) else some ⟨g, 16, none⟩) = A16 := by
      rw [← hA16]
      by_cases h : z = 0
      · rw [if_pos h, if_pos (by omega)]
      · rw [if_neg h, if_neg (by omega)]
    have HA16 := Aside0.mk hA16
    have HA0 := Aside0.mk hA0
    clear hA16 hA0
    go_upto_region 6 with fail
    rw [show 16 + z - 16 = z by omega, HA16.out, HA0.out]
    obtain ⟨W6, hW6⟩ : ∃ W6, ((((((w'.setCell ⟨m, 0, none⟩ (.int .i64 pe)).setCell ⟨m, 1, none⟩ (.int .i64 pn)).setCell ⟨m, 2, none⟩ (.int .i64 pa)).setCell ⟨m, 3, none⟩ (.int .i64 po)).setCell ⟨m, 4, none⟩ (.slice none 0 0)).setCell ⟨m, 4, none⟩ (.slice A16 z z)) = W6 := ⟨_, rfl⟩
    have hM6 : Blk W6 m TPi #[.int .i64 pe, .int .i64 pn, .int .i64 pa, .int .i64 po, .slice A16 z z] := by
      rw [← hW6]
      have := (blk_set5 MM.out (.int .i64 pe) (.int .i64 pn) (.int .i64 pa) (.int .i64 po) (.slice none 0 0)).set 4 (.slice A16 z z)
      simpa using this
    have hE6 : Blk W6 w.heap.size TPi #[.int .i64 0, .int .i64 0, .int .i64 0, .int .i64 0, .slice none 0 0] := by
      rw [← hW6]
      exact (blk_far5 E2.out hwm _ _ _ _ _).far hwm _
    have hG6 : Blk W6 g TSe (nums .u8 bs).toArray := by
      rw [← hW6]
      exact (blk_far5 G2'.out hgm _ _ _ _ _).far hgm _
    have hb6 : Below w.heap.size w W6 := by
      rw [← hW6]
      exact (below_set5 B2.out (Nat.le_of_lt hm) _ _ _ _ _).setCell (Nat.le_of_lt hm) _
    rw [hW6]
    clear hW6 G0 G1 G2 G3 G4 K0 K1 K2 K3 K4 M0 M1 M2 M3 M4 L0 L1 L2 L3 L4 c15 hgl hml hwl
    have M6 := Aside0.mk hM6
    have E6 := Aside0.mk hE6
    have G6 := Aside0.mk hG6
    have B6 := Aside0.mk hb6
    have hml := hM6.lt
    have hel := hE6.lt
    have m0 := hM6.cell 0
    have m1 := hM6.cell 1
    have m2 := hM6.cell 2
    have m3 := hM6.cell 3
    have m4 := hM6.cell 4
    have x0 := hE6.cell 0
    have k0 := hE6.frozen 0
    have x1 := hE6.cell 1
    have k1 := hE6.frozen 1
    have x2 := hE6.cell 2
    have k2 := hE6.frozen 2
    have x3 := hE6.cell 3
    have k3 := hE6.frozen 3
    have x4 := hE6.cell 4
    have k4 := hE6.frozen 4
    clear hM6 hE6 hG6 hb6 MM E2 B2 G2'
    by_cases hc1 : po ≤ pa
    · have u1 : decide (pa ≥ po) = true := decide_eq_true hc1
      have hok : Aside0 (okV bs = false) := ⟨by
        unfold okV
        rw [HP.out.2.2.1, HP.out.2.2.2, decide_eq_true hc1]
        simp⟩
      clear hc1
      go_wp2
      have hEf := blk_set5 E6.out (.int .i64 0) (.int .i64 0) (.int .i64 0) (.int .i64 0) (.slice none 0 0)
      have hbf := below_set5 B6.out (Nat.le_refl w.heap.size) (.int .i64 0) (.int .i64 0) (.int .i64 0) (.int .i64 0) (.slice none 0 0)
      have e0 := hEf.cell 0
      have e1 := hEf.cell 1
      have e2 := hEf.cell 2
      have e3 := hEf.cell 3
      have e4 := hEf.cell 4
      refine bodyPost_ret (v := .tuple #[.agg (pieceC ⟨0, 0, 0, 0, []⟩ none 0), .bool false]) ?_ rfl ⟨hbf, ⟨0, 0, 0, 0, []⟩, none, 0, by rw [hok.out], fun h => by rw [hok.out] at h; cases h⟩
      simp [results, Try.results53, go_sem, e0, e1, e2, e3, e4]
    · have u1 : decide (pa ≥ po) = false := decide_eq_false hc1
      by_cases hc2 : pa < po - 1 ∧ z < 108
      · have u2 : decide (pa < po - 1) = true := decide_eq_true hc2.1
        have u3 : decide ((z : Int) < 108) = true := decide_eq_true (by omega)
        have hok : Aside0 (okV bs = false) := ⟨by
          unfold okV
          rw [HP.out.2.2.1, HP.out.2.2.2, HZ.out, decide_eq_true hc2.1, u3]
          simp⟩
        clear hc1 hc2
        go_wp2
        have hEf := blk_set5 E6.out (.int .i64 0) (.int .i64 0) (.int .i64 0) (.int .i64 0) (.slice none 0 0)
        have hbf := below_set5 B6.out (Nat.le_refl w.heap.size) (.int .i64 0) (.int .i64 0) (.int .i64 0) (.int .i64 0) (.slice none 0 0)
        have e0 := hEf.cell 0
        have e1 := hEf.cell 1
        have e2 := hEf.cell 2
        have e3 := hEf.cell 3
        have e4 := hEf.cell 4
        refine bodyPost_ret (v := .tuple #[.agg (pieceC ⟨0, 0, 0, 0, []⟩ none 0), .bool false]) ?_ rfl ⟨hbf, ⟨0, 0, 0, 0, []⟩, none, 0, by rw [hok.out], fun h => by rw [hok.out] at h; cases h⟩
        simp [results, Try.results53, go_sem, e0, e1, e2, e3, e4]
      · have hok : Aside0 (okV bs = decide (bs = bytesV (pieceV bs))) := ⟨by
          unfold okV
          rw [HP.out.2.2.1, HP.out.2.2.2, HZ.out, decide_eq_true (by omega), decide_eq_false hc1]
          have : (decide (pa < po - 1) && decide ((z : Int) < 108)) = false := by
            rw [← Bool.decide_and, decide_eq_false_iff_not]
            rintro ⟨h1, h2⟩
            exact hc2 ⟨h1, by omega⟩
          rw [this]
          rfl⟩
        go_cut [49] (fun v49 wx => v49 = .bool false ∧ wx = W6)
        case first =>
          by_cases hc3 : pa < po - 1
          · have u2 : decide (pa < po - 1) = true := decide_eq_true hc3
            have u3 : decide ((z : Int) < 108) = false := decide_eq_false (by omega)
            clear hc1 hc2 hc3
            go_wp2_with fail
            go_meet
            exact ⟨rfl, rfl⟩
          · have u2 : decide (pa < po - 1) = false := decide_eq_false hc3
            clear hc1 hc2 hc3
            go_wp2_with fail
            go_meet
            exact ⟨rfl, rfl⟩
        case rest =>
        obtain ⟨rfl, hwc⟩ := hcut
        have hwc := hwc.symm
        subst hwc
        clear hc1 hc2 u1
        have hzl : (pieceV bs).b.length = z := by
          show ((bs.drop 16).take (sizeV bs).toNat).length = z
          rw [HZ.out, List.length_take, List.length_drop, HL.out]
          omega
        have hAd : ∀ ad, A16 = some ad → ad.block = g := fun ad e => by
          rw [← HA0.out] at e
          split at e <;> (cases e; rfl)
        have hRd : ∀ w', Below W6.heap.size W6 w' → ReadsInt w' .u8 A16 z (pieceV bs).b := fun w' hb => by
          by_cases h0 : z = 0
          · exact ⟨hzl, by omega, fun h => absurd h (by omega)⟩
          · have := blk_sub (G6.out.below hb) 16 z (by rw [HL.out]; omega) (by omega)
            rw [← HA0.out, if_neg h0]
            show ReadsInt w' .u8 (some ⟨g, 16, none⟩) z ((bs.drop 16).take (sizeV bs).toNat)
            rw [HZ.out, Int.toNat_natCast]
            exact this
        have KB : ∀ w', Below W6.heap.size W6 w' → Calls Try.prog 42 #[.agg #[.int .i64 pe, .int .i64 pn, .int .i64 pa, .int .i64 po, .slice A16 z z]] w' fun e w'' => ∃ v, e = .returned v ∧ Kd.R (Kd.int .u8) 5 w'' w'.heap.size (fun _ => True) v (bytesV (pieceV bs)) ∧ Below w'.heap.size w' w'' := fun w' hb => by
          have := bytes_calls (pieceV bs) ((HBY.out.drop 16).take _) (by omega) A16 z z hzl (Nat.le_refl _) w' (hRd w' hb)
          rw [HP.out.1, HP.out.2.1, HP.out.2.2.1, HP.out.2.2.2] at this
          exact this
        have hbl : (bytesV (pieceV bs)).length = 128 := bytesV_length (by omega)
        obtain ⟨q, hq⟩ : ∃ q, pieceV bs = q := ⟨_, rfl⟩
        rw [hq] at hok hzl hRd KB hbl
        have HQ := Aside0.mk (⟨hq, hzl, hAd⟩ : _ ∧ _ ∧ _)
        have KB := Aside0.mk KB
        have KR := Aside0.mk hRd
        have HBL := Aside0.mk hbl
        have hHP := HP.out
        rw [hq] at hHP
        have HP2 := Aside0.mk hHP
        clear hq hzl hAd hRd hbl HP hHP
        have HST : Qw.Stb (fun w' => Blk w' m TPi #[.int .i64 pe, .int .i64 pn, .int .i64 pa, .int .i64 po, .slice A16 z z] ∧ Below W6.heap.size W6 w') := fun w1 w2 h hb => ⟨h.1.below hb, h.2.trans (hb.mono h.2.size)⟩
        have HE0 : Blk W6.drew m TPi #[.int .i64 pe, .int .i64 pn, .int .i64 pa, .int .i64 po, .slice A16 z z] ∧ Below W6.heap.size W6 W6.drew := ⟨M6.out.drew, (Below.refl _ _).drew⟩
        clear m0 m1 m2 m3 m4 x0 x1 x2 x3 x4 k0 k1 k2 k3 k4
        go_wp2_with fail
        refine Qw.wp_region_tail (SR bs q) _ HST 5 (by kernel_rfl) (by kernel_rfl) HE0 ?_
        clear HST HE0
        simp only [List.take_succ_cons, List.take_zero, List.drop_succ_cons, List.drop_zero]
        iterate 3 ((first | (with_reducible refine Qw.w_val ⟨fun _ _ _ hF h w' h1 h2 => h w' h1 fun k => hF k _ (h2 k)⟩ ?_ (Qw.wanted_none rfl) ?_) | ((with_reducible refine Qw.w_val ⟨fun _ _ _ hF h w' h1 h2 => h w' h1 fun k => hF k _ (h2 k)⟩ ?_ ?_ ?_); (focus (exact fun _ => trivial)); (focus (exact Qg.wanted_on rfl rfl rfl)))); (try (focus (exact fun _ => trivial))); apply Exists.intro; refine ⟨?_, ?_⟩; (focus (intro w' hw' hp'; have c0 := hw'.1.cell 0; have c1 := hw'.1.cell 1; have c2 := hw'.1.cell 2; have c3 := hw'.1.cell 3; have c4 := hw'.1.cell 4; have l0 := hw'.1.lt; go_simp; (first | done | (with_reducible rfl)))); intro K hK; go_simp; (first | (with_reducible refine hK _ ?_) | (refine hK _ ?_)); clear hK K)
        ((with_reducible refine Qw.w_call ?_ ?_); (first | (focus (exact Qw.wanted_none rfl)) | (focus (exact Qg.wanted_on rfl rfl rfl))); apply Exists.intro; apply Exists.intro; refine ⟨?_, ?_, ?_, ?_⟩; (focus (intro w'; go_simp; (first | rfl | exact ⟨rfl, rfl⟩))); (focus (exact fun u => sr_stb)); (focus (intro w' hw' hp'; refine (KB.out w' hw'.2).mono ?_; rintro e w8 ⟨v8, rfl, hR8, b8⟩; obtain ⟨A8, c8, rfl, hc8, hC8⟩ := Kd.R_reads hR8; rw [HBL.out] at hc8 hC8; exact ⟨_, rfl, b8, ⟨fun _ => ⟨A8, c8, by rw [HBL.out], hc8, hC8⟩, fun h => absurd h (by decide)⟩⟩)); rintro u8 ⟨wv8, -, -, hu8⟩; intro K hK; go_simp; (first | (with_reducible refine hK _ ?_) | (refine hK _ ?_)); clear hK K)
        obtain ⟨A8, c8, rfl, hc8, -⟩ := hu8.1 rfl
        clear hu8 wv8
        ((with_reducible refine Qw.w_call ?_ ?_); (first | (focus (exact Qw.wanted_none rfl)) | (focus (exact Qg.wanted_on rfl rfl rfl))); apply Exists.intro; apply Exists.intro; refine ⟨?_, ?_, ?_, ?_⟩; (focus (intro w'; go_simp; (first | rfl | exact ⟨rfl, rfl⟩))); (focus (exact fun u => sr_stb)); (focus (intro w' hw' hp'; have hf8 : SR bs q 42 #[.agg #[.int .i64 pe, .int .i64 pn, .int .i64 pa, .int .i64 po, .slice A16 z z]] (.slice A8 128 c8) w' := Qw.fact hp' 3 rfl; obtain ⟨A9, c9, e9, -, hC9⟩ := hf8.1 rfl; cases e9; refine (equal_calls bs (bytesV q) (by rw [HL.out]; decide) (some ⟨g, 0, none⟩) A8 128 128 128 c8 HL.out HBL.out (by decide) hc8 w' (Kd.C_of_reads (d := (0 : Int)) (blk_all (G6.out.below hw'.2) HL.out)) hC9).mono ?_; rintro e w9 ⟨rfl, b9⟩; exact ⟨_, rfl, b9, ⟨fun h => absurd h (by decide), fun _ => rfl⟩⟩)); rintro u9 ⟨wv9, -, -, hu9⟩; intro K hK; go_simp; (first | (with_reducible refine hK _ ?_) | (refine hK _ ?_)); clear hK K)
        obtain rfl := hu9.2 rfl
        clear hu9 wv9
        ((with_reducible refine Qw.w_nil ?_); intro w' hw' hf')
        have hE7 := E6.out.below hw'.2
        have hb7 := B6.out.trans (hw'.2.mono B6.out.size)
        have hRd := KR.out w' hw'.2
        have hel := hE7.lt
        have x0 := hE7.cell 0
        have k0 := hE7.frozen 0
        have x1 := hE7.cell 1
        have k1 := hE7.frozen 1
        have x2 := hE7.cell 2
        have k2 := hE7.frozen 2
        have x3 := hE7.cell 3
        have k3 := hE7.frozen 3
        have x4 := hE7.cell 4
        have k4 := hE7.frozen 4
        have E7 := Aside0.mk hE7
        have B7 := Aside0.mk hb7
        have R7 := Aside0.mk hRd
        clear hf' hw' hE7 hb7 hRd KB KR hc8
        go_wp2
        have hEf := blk_set5 E7.out (.int .i64 pe) (.int .i64 pn) (.int .i64 pa) (.int .i64 po) (.slice A16 z z)
        have hbf := below_set5 B7.out (Nat.le_refl w.heap.size) (.int .i64 pe) (.int .i64 pn) (.int .i64 pa) (.int .i64 po) (.slice A16 z z)
        have e0 := hEf.cell 0
        have e1 := hEf.cell 1
        have e2 := hEf.cell 2
        have e3 := hEf.cell 3
        have e4 := hEf.cell 4
        obtain ⟨q0, q1, q2, q3⟩ := HP2.out
        obtain ⟨hq, hzl, hAd⟩ := HQ.out
        refine bodyPost_ret (v := .tuple #[.agg (pieceC q A16 z), .bool (okV bs)]) ?_ rfl ⟨hbf, q, A16, z, rfl, fun _ => ⟨hq.symm, hAd, by rw [hq, hzl], ?_⟩⟩
        · rw [hok.out]
          unfold pieceC
          rw [q0, q1, q2, q3, hzl]
          simp [results, Try.results53, go_sem, e0, e1, e2, e3, e4]
        · rw [hq, hzl]
          have hf : ∀ (W : World) (i : Nat) (u : Value), ReadsInt W .u8 A16 z q.b → ReadsInt (W.setCell ⟨w.heap.size, i, none⟩ u) .u8 A16 z q.b := fun W i u h => ⟨h.1, h.2.1, fun h0 => by
            obtain ⟨ad, e, hc⟩ := h.2.2 h0
            refine ⟨ad, e, fun j hj => ?_⟩
            rw [← hc j hj]
            refine cell_far _ _ _ _ ?_
            have := hAd ad e
            show (ad.add j).block ≠ w.heap.size
            rw [add_block, this]
            exact hgw⟩
          exact hf _ _ _ (hf _ _ _ (hf _ _ _ (hf _ _ _ (hf _ _ _ R7.out))))
end Go.Proofs.Ytddhngalokmdoaa.Spo

/- The piece that stands at a number. -/
namespace Go.Proofs.Ytddhngalokmdoaa.Spo
open Go.RowKit Go.Proofs.YtddhngalokmdoaaW.PrintWords Go.Proofs.YtddhngalokmdoaaW.PrintLast Go.Proofs.YtddhngalokmdoaaW.PrintMore Go.Proofs.Ytddhngalokmdoaa.Arr Go.Proofs.Ytddhngalokmdoaa.PSpoolPlays
set_option linter.unusedVariables false
set_option linter.unusedSimpArgs false

/-- A tray's sectors are bytes. -/
structure BytesT (V : TrayV) : Prop where mk ::
  kept : ∀ b, b ∈ V.kept → Bytes b
  cache : ∀ x, x ∈ V.cache → Bytes x.2
theorem last_bytes {l : List (Int × List Int)} (hl : ∀ x, x ∈ l → Bytes x.2) (at_ : Int) : ∀ b : List Int, Bytes b → Bytes (lastV l at_ b) := by
  induction l with
  | nil => intro b h; exact h
  | cons a l ih =>
    intro b h
    refine ih (fun x hx => hl x (by simp [hx])) _ ?_
    show Bytes (if a.1 = at_ then a.2 else b)
    split
    · exact hl a (by simp)
    · exact h
theorem BytesT.read {V : TrayV} (h : BytesT V) {at_ : Int} (hh : hasV V at_ = true) : Bytes (readV V at_) := by
  unfold hasV at hh
  simp only [Bool.and_eq_true, decide_eq_true_eq] at hh
  refine last_bytes h.cache at_ _ ?_
  have hi : at_.toNat < V.kept.length := by omega
  rw [List.getD, List.getElem?_eq_getElem hi, Option.getD_some]
  exact h.kept _ (List.getElem_mem hi)
def secV (V : TrayV) (S : SpoolV) (n : Int) : List Int := readV V (onV S n)
def atV (V : TrayV) (S : SpoolV) (n : Int) : PieceV := pieceV (secV V S n)
def hereV (V : TrayV) (S : SpoolV) (n : Int) : Bool := okV (secV V S n) && decide ((atV V S n).number = n)
theorem on_has {V : TrayV} {S : SpoolV} (hF : Fit S) (hR : S.first + S.count ≤ V.kept.length) (n : Int) (hn : 0 ≤ n) : hasV V (onV S n) = true := by
  unfold hasV onV
  have h1 := Int.emod_nonneg n (show S.count ≠ 0 by have := hF.count; omega)
  have h2 := Int.emod_lt_of_pos n (show 0 < S.count by have := hF.count; omega)
  have h3 := hF.first
  rw [decide_eq_true (by omega), decide_eq_true (by omega)]
  rfl
/-- What the calls of the head tell. -/
def SC (a : Int) (bs : List Int) (B : Nat) (f : FuncId) (args : Array Value) (u : Value) (w : World) : Prop :=
  (f = 41 → u = .int .i64 a) ∧ (f = 30 → ∃ g, u = .tuple #[.slice (some ⟨g, 0, none⟩) 128 128, .int .i64 0] ∧ B ≤ g ∧ Blk w g TSe (nums .u8 bs).toArray)
theorem sc_stb {a : Int} {bs : List Int} {B : Nat} {f : FuncId} {args : Array Value} {u : Value} : Qw.Stb (SC a bs B f args u) := fun w w' h hb => ⟨h.1, fun e => by
  obtain ⟨g, h1, h2, h3⟩ := h.2 e
  exact ⟨g, h1, h2, h3.below hb⟩⟩
/-- What piece returns. -/
def PiecePost (V : TrayV) (S : SpoolV) (n : Int) (w : World) (e : Ending) (w' : World) : Prop :=
  Below w.heap.size w w' ∧ ∃ p A c, e = .returned (.tuple #[.agg (pieceC p A c), .bool (hereV V S n)]) ∧ (hereV V S n = true → p = atV V S n ∧ (∀ ad, A = some ad → w.heap.size ≤ ad.block) ∧ c = p.b.length ∧ ReadsInt w' .u8 A p.b.length p.b)
abbrev zP : Array Value := #[.int .i64 0, .int .i64 0, .int .i64 0, .int .i64 0, .slice none 0 0]
set_option maxHeartbeats 8000000 in
set_option maxRecDepth 100000 in
theorem piece_calls (P : Nat → Prop) (s t : Nat) (V : TrayV) (S : SpoolV) (n : Int) (w : World) (H : TAt P w t V) (hS : Sound V) (hcl : V.cache.length ≤ 1000000000) (hB : BytesT V) (hF : Fit S) (hR : S.first + S.count ≤ V.kept.length)
    (HS : Blk w s TSp (spoolC t S)) (hn : 0 ≤ n) (hn2 : n ≤ 140737488355328) :
    Calls Try.prog 51 #[ptrT s, .int .i64 n] w (PiecePost V S n w) := by
  have hh := on_has hF hR n hn
  have KO := Aside0.mk (fun w' => on_calls S.first S.count n w' hn hn2 hF.first hF.count)
  have KR := Aside0.mk (fun w' (hb : Below w.heap.size w w') => read_calls P t V (onV S n) w' (H.below hb) hS hcl)
  have hl : (secV V S n).length = 128 := hS.read hh
  have hby : Bytes (secV V S n) := hB.read hh
  obtain ⟨a, ha⟩ : ∃ a, onV S n = a := ⟨_, rfl⟩
  rw [show S.first + n % S.count = a from ha] at KO
  obtain ⟨bs, hbs⟩ : ∃ bs, secV V S n = bs := ⟨_, rfl⟩
  unfold PiecePost hereV atV
  rw [hbs] at hl hby ⊢
  have hrv : readV V a = bs := by rw [← ha]; exact hbs
  rw [ha] at hh KR
  have HX := Aside0.mk (⟨hh, hl, hby, hrv⟩ : _ ∧ _ ∧ _ ∧ _)
  have HS := Aside0.mk HS
  clear hh hl hby hbs hrv ha H hS hcl hB hF hR hn hn2
  have h94 := Try.underlying94
  go_enter Try.func51, Try.ntmps51
  go_wp2_with fail
  obtain ⟨W1, hW1⟩ : ∃ W1, w.alloc (.cells zP TPi) = W1 := ⟨_, rfl⟩
  have hE1 : Blk W1 w.heap.size TPi zP := by rw [← hW1]; exact Blk.new _ _ _
  have hb1 : Below w.heap.size w W1 := by rw [← hW1]; exact (Below.refl _ _).alloc (Nat.le_refl _) _
  have hs1 : Blk W1 s TSp (spoolC t S) := HS.out.below hb1
  have HST : Qw.Stb (fun w' => Blk w' s TSp (spoolC t S) ∧ Blk w' w.heap.size TPi zP ∧ Below w.heap.size w w') := fun w1 w2 h hb => ⟨h.1.below hb, h.2.1.below hb, h.2.2.trans (hb.mono h.2.2.size)⟩
  have HE0 : Blk W1.drew s TSp (spoolC t S) ∧ Blk W1.drew w.heap.size TPi zP ∧ Below w.heap.size w W1.drew := ⟨hs1.drew, hE1.drew, hb1.drew⟩
  rw [hW1]
  clear hE1 hb1 hs1 hW1 HS
  refine Qw.wp_region_all (SC a bs w.heap.size) _ HST (by kernel_rfl) (by kernel_rfl) HE0 ?_
  clear HST HE0
  iterate 9 ((first | (with_reducible refine Qw.w_val ⟨fun _ _ _ hF h w' h1 h2 => h w' h1 fun k => hF k _ (h2 k)⟩ ?_ (Qw.wanted_none rfl) ?_) | ((with_reducible refine Qw.w_val ⟨fun _ _ _ hF h w' h1 h2 => h w' h1 fun k => hF k _ (h2 k)⟩ ?_ ?_ ?_); (focus (exact fun _ => trivial)); (focus (exact Qg.wanted_on rfl rfl rfl)))); (try (focus (exact fun _ => trivial))); apply Exists.intro; refine ⟨?_, ?_⟩; (focus (intro w' hw' hp'; have c0 := hw'.1.cell 0; have c1 := hw'.1.cell 1; have c2 := hw'.1.cell 2; have l0 := hw'.1.lt; go_simp; (first | done | (with_reducible rfl)))); intro K hK; go_simp; (first | (with_reducible refine hK _ ?_) | (refine hK _ ?_)); clear hK K)
  ((with_reducible refine Qw.w_call ?_ ?_); (first | (focus (exact Qw.wanted_none rfl)) | (focus (exact Qg.wanted_on rfl rfl rfl))); apply Exists.intro; apply Exists.intro; refine ⟨?_, ?_, ?_, ?_⟩; (focus (intro w'; go_simp; (first | rfl | exact ⟨rfl, rfl⟩))); (focus (exact fun u => sc_stb)); (focus (intro w' hw' hp'; refine (KO.out w').mono ?_; rintro e w8 ⟨rfl, b8⟩; exact ⟨_, rfl, b8, ⟨fun _ => rfl, fun h => absurd h (by decide)⟩⟩)); rintro u8 ⟨wv8, -, -, hu8⟩; intro K hK; go_simp; (first | (with_reducible refine hK _ ?_) | (refine hK _ ?_)); clear hK K)
  obtain rfl := hu8.1 rfl
  clear hu8 wv8
  ((with_reducible refine Qw.w_call ?_ ?_); (first | (focus (exact Qw.wanted_none rfl)) | (focus (exact Qg.wanted_on rfl rfl rfl))); apply Exists.intro; apply Exists.intro; refine ⟨?_, ?_, ?_, ?_⟩; (focus (intro w'; go_simp; (first | rfl | exact ⟨rfl, rfl⟩))); (focus (exact fun u => sc_stb)); (focus (intro w' hw' hp'; refine (KR.out w' hw'.2.2).mono ?_; rintro e w8 ⟨b8, h8⟩; rcases h8 with ⟨h8, -⟩ | ⟨-, g8, rfl, hg8, hB8⟩; (focus (rw [HX.out.1] at h8; cases h8)); rw [HX.out.2.2.2] at hB8; exact ⟨_, rfl, b8, ⟨fun h => absurd h (by decide), fun _ => ⟨g8, rfl, Nat.le_trans hw'.2.2.size hg8, hB8⟩⟩⟩)); rintro u9 ⟨wv9, -, -, hu9⟩; intro K hK; go_simp; (first | (with_reducible refine hK _ ?_) | (refine hK _ ?_)); clear hK K)
  obtain ⟨g, rfl, hgB, -⟩ := hu9.2 rfl
  clear hu9 wv9
  iterate 5 ((first | (with_reducible refine Qw.w_val ⟨fun _ _ _ hF h w' h1 h2 => h w' h1 fun k => hF k _ (h2 k)⟩ ?_ (Qw.wanted_none rfl) ?_) | ((with_reducible refine Qw.w_val ⟨fun _ _ _ hF h w' h1 h2 => h w' h1 fun k => hF k _ (h2 k)⟩ ?_ ?_ ?_); (focus (exact fun _ => trivial)); (focus (exact Qg.wanted_on rfl rfl rfl)))); (try (focus (exact fun _ => trivial))); apply Exists.intro; refine ⟨?_, ?_⟩; (focus (intro w' hw' hp'; skip; go_simp; (first | done | (with_reducible rfl)))); intro K hK; go_simp; (first | (with_reducible refine hK _ ?_) | (refine hK _ ?_)); clear hK K)
  ((with_reducible refine Qw.w_nil ?_); intro w' hw' hf')
  have hf9 : SC a bs w.heap.size 30 #[ptrT t, .int .i64 a] (.tuple #[.slice (some ⟨g, 0, none⟩) 128 128, .int .i64 0]) w' := hf' 10
  obtain ⟨g', e9, -, hG⟩ := hf9.2 rfl
  obtain rfl : g = g' := by simpa using e9
  have G2 := Aside0.mk hG
  have hgw : g ≠ w.heap.size := Blk.ne hG hw'.2.1 (by decide)
  have E2 := Aside0.mk hw'.2.1
  have B2 := Aside0.mk hw'.2.2
  have KP := Aside0.mk (readp_calls g bs w' HX.out.2.1 HX.out.2.2.1 hG)
  clear hf9 hf' hw' hG e9 KO KR
  go_wp2_with fail
  refine KP.out.mono ?_
  rintro e w3 ⟨b3, p, A, c, rfl, hp⟩
  have E3 := Aside0.mk (E2.out.below b3)
  have B3 := Aside0.mk (B2.out.trans (b3.mono B2.out.size))
  have HP := Aside0.mk hp
  have hlt : w.heap.size < w3.heap.size := E3.out.lt
  clear b3 hp KP E2 B2
  cases hob : okV bs with
  | false =>
    have HQ := Aside0.mk (show (okV bs && decide ((pieceV bs).number = n)) = false by rw [hob]; rfl)
    clear hob HP
    go_wp2_with fail
    obtain ⟨W4, hW4⟩ : ∃ W4, w3.alloc (.cells (pieceC p A c) TPi) = W4 := ⟨_, rfl⟩
    have hM4 : Blk W4 w3.heap.size TPi (pieceC p A c) := by rw [← hW4]; exact Blk.new _ _ _
    have hb4 : Below w3.heap.size w3 W4 := by rw [← hW4]; exact (Below.refl _ _).alloc (Nat.le_refl _) _
    have hE4 := E3.out.below hb4
    have B4 := Aside0.mk (B3.out.trans (hb4.mono B3.out.size))
    have HB34 := Aside0.mk hb4
    have E4 := Aside0.mk hE4
    have hel := hE4.lt
    have hml := hM4.lt
    have hne : w.heap.size ≠ w3.heap.size := by omega
    have x0 := hE4.cell 0
    have k0 := hE4.frozen 0
    have y0 := hM4.cell 0
    have x1 := hE4.cell 1
    have k1 := hE4.frozen 1
    have y1 := hM4.cell 1
    have x2 := hE4.cell 2
    have k2 := hE4.frozen 2
    have y2 := hM4.cell 2
    have x3 := hE4.cell 3
    have k3 := hE4.frozen 3
    have y3 := hM4.cell 3
    have x4 := hE4.cell 4
    have k4 := hE4.frozen 4
    have y4 := hM4.cell 4
    rw [hW4]
    clear hM4 hb4 hE4 hW4
    go_region
    go_wp2
    have hEf := (blk_set5 E4.out (.int .i64 p.epoch) (.int .i64 p.number) (.int .i64 p.at_) (.int .i64 p.of) (.slice A p.b.length c)).drew
    have hbf := (below_set5 B4.out (Nat.le_refl w.heap.size) (.int .i64 p.epoch) (.int .i64 p.number) (.int .i64 p.at_) (.int .i64 p.of) (.slice A p.b.length c)).drew
    have e0 := hEf.cell 0
    have e1 := hEf.cell 1
    have e2 := hEf.cell 2
    have e3 := hEf.cell 3
    have e4 := hEf.cell 4
    refine bodyPost_ret (v := .tuple #[.agg (pieceC p A c), .bool false]) ?_ rfl ⟨hbf, p, A, c, by rw [HQ.out], ?_⟩
    · simp [results, Try.results51, go_sem, e0, e1, e2, e3, e4]
    · intro h
      rw [HQ.out] at h
      cases h
  | true =>
    obtain ⟨h1, h2, h3, h4⟩ := HP.out hob
    have hnum : p.number = (pieceV bs).number := by rw [h1]
    obtain ⟨qb, hqb⟩ : ∃ qb, decide ((pieceV bs).number = n) = qb := ⟨_, rfl⟩
    have u1 : decide (p.number = n) = qb := by rw [hnum]; exact hqb
    have u2 : (p.number == n) = qb := by rw [hnum, ← hqb]; rfl
    have HQ := Aside0.mk (show (okV bs && decide ((pieceV bs).number = n)) = qb by rw [hob, hqb]; rfl)
    have HP2 := Aside0.mk (⟨h1, h2, h3, h4⟩ : _ ∧ _ ∧ _ ∧ _)
    clear hob HP h1 h2 h3 h4 hnum hqb
    go_wp2_with fail
    obtain ⟨W4, hW4⟩ : ∃ W4, w3.alloc (.cells (pieceC p A c) TPi) = W4 := ⟨_, rfl⟩
    have hM4 : Blk W4 w3.heap.size TPi (pieceC p A c) := by rw [← hW4]; exact Blk.new _ _ _
    have hb4 : Below w3.heap.size w3 W4 := by rw [← hW4]; exact (Below.refl _ _).alloc (Nat.le_refl _) _
    have hE4 := E3.out.below hb4
    have B4 := Aside0.mk (B3.out.trans (hb4.mono B3.out.size))
    have HB34 := Aside0.mk hb4
    have E4 := Aside0.mk hE4
    have hel := hE4.lt
    have hml := hM4.lt
    have hne : w.heap.size ≠ w3.heap.size := by omega
    have x0 := hE4.cell 0
    have k0 := hE4.frozen 0
    have y0 := hM4.cell 0
    have x1 := hE4.cell 1
    have k1 := hE4.frozen 1
    have y1 := hM4.cell 1
    have x2 := hE4.cell 2
    have k2 := hE4.frozen 2
    have y2 := hM4.cell 2
    have x3 := hE4.cell 3
    have k3 := hE4.frozen 3
    have y3 := hM4.cell 3
    have x4 := hE4.cell 4
    have k4 := hE4.frozen 4
    have y4 := hM4.cell 4
    rw [hW4]
    clear hM4 hb4 hE4 hW4
    go_region
    go_wp2
    have hEf := (blk_set5 E4.out (.int .i64 p.epoch) (.int .i64 p.number) (.int .i64 p.at_) (.int .i64 p.of) (.slice A p.b.length c)).drew
    have hbf := (below_set5 B4.out (Nat.le_refl w.heap.size) (.int .i64 p.epoch) (.int .i64 p.number) (.int .i64 p.at_) (.int .i64 p.of) (.slice A p.b.length c)).drew
    have e0 := hEf.cell 0
    have e1 := hEf.cell 1
    have e2 := hEf.cell 2
    have e3 := hEf.cell 3
    have e4 := hEf.cell 4
    refine bodyPost_ret (v := .tuple #[.agg (pieceC p A c), .bool qb]) ?_ rfl ⟨hbf, p, A, c, by rw [HQ.out], ?_⟩
    · simp [results, Try.results51, go_sem, e0, e1, e2, e3, e4]
    · intro _
      obtain ⟨h1, h2, h3, h4⟩ := HP2.out
      refine ⟨h1, fun ad e => by rw [h2 ad e]; exact hgB, by rw [h1]; exact h3, ?_⟩
      have hf : ∀ (W : World) (i : Nat) (u : Value), ReadsInt W .u8 A p.b.length p.b → ReadsInt (W.setCell ⟨w.heap.size, i, none⟩ u) .u8 A p.b.length p.b := fun W i u h => ⟨h.1, h.2.1, fun h0 => by
        obtain ⟨ad, e, hc⟩ := h.2.2 h0
        refine ⟨ad, e, fun j hj => ?_⟩
        rw [← hc j hj]
        refine cell_far _ _ _ _ ?_
        show (ad.add j).block ≠ w.heap.size
        rw [add_block, h2 ad e]
        exact hgw⟩
      rw [← h1] at h4
      exact hf _ _ _ (hf _ _ _ (hf _ _ _ (hf _ _ _ (hf _ _ _ (h4.below HB34.out)))))
end Go.Proofs.Ytddhngalokmdoaa.Spo

/- The record at a number: slices.Clone, record. -/
namespace Go.Proofs.Ytddhngalokmdoaa.Spo
open Go.RowKit Go.Proofs.YtddhngalokmdoaaW.PrintWords Go.Proofs.YtddhngalokmdoaaW.PrintLast Go.Proofs.YtddhngalokmdoaaW.PrintMore Go.Proofs.Ytddhngalokmdoaa.Arr Go.Proofs.Ytddhngalokmdoaa.PSpoolPlays
set_option linter.unusedVariables false
set_option linter.unusedSimpArgs false

abbrev TU8 : TypeId := 5
abbrev TSl : TypeId := 22
theorem infoU8 : (Try.prog.info? TU8).map (fun i => (i.zero, i.size, i.bytes)) = some (some (.int .u8 0), 1, 1) := by kernel_rfl
section
variable {ops : Array Oper} {rest : List Oper} {o : Oper} {a : Act} {Q : Exit → Act → World → Prop}
/-- append of bytes to bytes of the call's own. -/
theorem app8 {w0 W : World} (B : Nat) (hgd : o.guard = none) (s x : Operand)
    (ho : o.op = .call { callee := .builtin .append, args := #[s, x], argTypes := #[TSl, TSl] })
    (v : Value) (xs ys : List Int) (A : Option Addr) (m c : Nat) (hs : a.eval s = v) (hx : a.eval x = .slice A m c)
    (HO : Row W B TU8 .u8 v xs) (HR : ReadsInt W .u8 A m ys) (HB : Below B w0 W) (hbase : B ≤ W.heap.size) (hl : xs.length + m ≤ 140737488355328)
    (h : ∀ v1 w1, Row w1 B TU8 .u8 v1 (xs ++ ys) → Below B w0 w1 → W.grownBy w1 v.ownBlock → (v1.ownBlock = v.ownBlock ∨ ∃ b, v1.ownBlock = some b ∧ W.heap.size ≤ b) → wpList Try.prog ops Q rest (a.put o.dst v1) w1) :
    wpList Try.prog ops Q (o :: rest) a W :=
  wpList_append_nums (w0 := w0) B TU8 .u8 1 hgd s x TSl ho Try.underlying22 infoU8 (Nat.le_refl 1) v xs ys A m c hs hx HO HR HB hbase (by omega) h
end
set_option maxHeartbeats 4000000 in
set_option maxRecDepth 100000 in
theorem clone_calls (bs : List Int) (A : Option Addr) (n c : Nat) (hc : c = n) (hb : n ≤ 1000000) (w : World) (hr : ReadsInt w .u8 A n bs) :
    Calls Try.prog 52 #[.slice A n c] w fun e w' => ∃ v, e = .returned v ∧ Row w' w.heap.size TU8 .u8 v bs ∧ Below w.heap.size w w' := by
  subst hc
  have hl := hr.1
  cases A with
  | none =>
    obtain rfl : c = 0 := by
      rcases Nat.eq_zero_or_pos c with h | h
      · exact h
      · obtain ⟨ad, e, -⟩ := hr.2.2 h
        cases e
    obtain rfl : bs = [] := List.eq_nil_of_length_eq_zero hl
    clear hr hl
    have hq : ∀ w, (binOp BinOp.eql TSl (.slice none 0 0) (.slice none 0 0)).run Try.prog w = .ok (.bool true) w := fun w => by kernel_rfl
    go_enter Try.func52, Try.ntmps52
    go_wp2
    go_ret
    exact ⟨_, rfl, Row.nil _ _ _ _, Below.refl _ _⟩
  | some ad =>
    have HR := Aside0.mk hr
    have L1 := Aside0.mk (by refine Row.lit ?_ ?_ ?_ ?_ ?_ <;> simp [nums] : Row (w.alloc (.cells #[] TU8)) w.heap.size TU8 .u8 (.slice (some ⟨w.heap.size, 0, none⟩) 0 0) [])
    clear hr
    have hq : ∀ w, (binOp BinOp.eql TSl (.slice (some ad) c c) (.slice none 0 0)).run Try.prog w = .ok (.bool false) w := fun w => by kernel_rfl
    have tok1 : True := trivial
    go_enter Try.func52, Try.ntmps52
    go_wp2_with (at_builtin; have _t := tok1; go_must (refine app8 (w0 := w) w.heap.size rfl _ _ rfl (.slice (some ⟨w.heap.size, 0, none⟩) 0 0) [] bs (some ad) c c rfl rfl L1.out (HR.out.below (below_alloc (Below.refl _ _) _)) (below_alloc (Below.refl _ _) _) (by simp) (by simp; omega) ?_); intro v1 w1 hv1 hb1 hg1 hat1; rw [List.nil_append] at hv1; clear hg1 hat1 _t tok1)
    go_ret
    exact ⟨_, rfl, hv1, hb1⟩
end Go.Proofs.Ytddhngalokmdoaa.Spo

/- The record at a number. -/
namespace Go.Proofs.Ytddhngalokmdoaa.Spo
open Go.RowKit Go.Proofs.YtddhngalokmdoaaW.PrintWords Go.Proofs.YtddhngalokmdoaaW.PrintLast Go.Proofs.YtddhngalokmdoaaW.PrintMore Go.Proofs.Ytddhngalokmdoaa.Arr Go.Proofs.Ytddhngalokmdoaa.PSpoolPlays
set_option linter.unusedVariables false
set_option linter.unusedSimpArgs false

def headOk (V : TrayV) (S : SpoolV) (n : Int) : Bool := hereV V S n && decide ((atV V S n).at_ = 0) && decide ((atV V S n).of ≤ S.count)
def followV (V : TrayV) (S : SpoolV) (n : Int) (i : Nat) : Bool := hereV V S (n + i) && decide ((atV V S (n + i)).at_ = i) && decide ((atV V S (n + i)).of = (atV V S n).of) && decide ((atV V S (n + i)).epoch = (atV V S n).epoch)
def bodyR (V : TrayV) (S : SpoolV) (n : Int) : Nat → List Int
  | 0 => []
  | k + 1 => bodyR V S n k ++ (atV V S (n + k)).b
def recOk (V : TrayV) (S : SpoolV) (n : Int) : Bool := headOk V S n && (List.range ((atV V S n).of.toNat - 1)).all fun j => followV V S n (j + 1)
/-- What record returns. -/
def RecPost (V : TrayV) (S : SpoolV) (n : Int) (w : World) (e : Ending) (w' : World) : Prop :=
  Below w.heap.size w w' ∧ ((recOk V S n = true ∧ ∃ v, e = .returned (.tuple #[v, .int .i64 (atV V S n).epoch, .int .i64 (atV V S n).of]) ∧ Row w' w.heap.size TU8 .u8 v (bodyR V S n (atV V S n).of.toNat)) ∨
    (recOk V S n = false ∧ e = .returned (.tuple #[.slice none 0 0, .int .i64 0, .int .i64 0])))
theorem okV_facts {bs : List Int} (h : okV bs = true) (hl : bs.length = 128) : (pieceV bs).b.length ≤ 108 ∧ (pieceV bs).at_ < (pieceV bs).of := by
  unfold okV at h
  simp only [Bool.and_eq_true, decide_eq_true_eq, Bool.not_eq_true', Bool.or_eq_false_iff, decide_eq_false_iff_not] at h
  refine ⟨?_, by omega⟩
  show ((bs.drop 16).take (sizeV bs).toNat).length ≤ 108
  rw [List.length_take, List.length_drop, hl]
  omega
theorem here_facts {V : TrayV} {S : SpoolV} {n : Int} (h : hereV V S n = true) (hl : (secV V S n).length = 128) : (atV V S n).b.length ≤ 108 ∧ (atV V S n).at_ < (atV V S n).of := by
  unfold hereV at h
  rw [Bool.and_eq_true] at h
  exact okV_facts h.1 hl
theorem bodyR_length {V : TrayV} {S : SpoolV} {n : Int} : ∀ (k : Nat), (∀ i, i < k → (atV V S (n + (i : Nat))).b.length ≤ 108) → (bodyR V S n k).length ≤ 108 * k
  | 0, _ => by simp [bodyR]
  | k + 1, h => by
    have h1 := bodyR_length k (fun i hi => h i (by omega))
    have h2 := h k (by omega)
    rw [bodyR, List.length_append]
    omega
theorem rec_bad {V : TrayV} {S : SpoolV} {n : Int} {i : Nat} (h1 : 1 ≤ i) (h2 : (i : Int) < (atV V S n).of) (h : followV V S n i = false) : recOk V S n = false := by
  unfold recOk
  rw [Bool.and_eq_false_iff]
  refine .inr ?_
  rw [List.all_eq_false]
  refine ⟨i - 1, List.mem_range.2 (by omega), ?_⟩
  rw [show i - 1 + 1 = i by omega, h]
  decide
theorem rec_good {V : TrayV} {S : SpoolV} {n : Int} {i : Nat} (h0 : headOk V S n = true) (h2 : (atV V S n).of ≤ (i : Int)) (h : ∀ j, 1 ≤ j → j < i → followV V S n j = true) : recOk V S n = true := by
  unfold recOk
  rw [Bool.and_eq_true]
  refine ⟨h0, ?_⟩
  rw [List.all_eq_true]
  intro j hj
  have := List.mem_range.1 hj
  exact h (j + 1) (by omega) (by omega)
set_option maxHeartbeats 16000000 in
set_option maxRecDepth 100000 in
theorem record_calls (P : Nat → Prop) (s t : Nat) (V : TrayV) (S : SpoolV) (n : Int) (w : World) (H : TAt P w t V) (hS : Sound V) (hcl : V.cache.length ≤ 1000000000) (hB : BytesT V) (hF : Fit S) (hR : S.first + S.count ≤ V.kept.length)
    (HS : Blk w s TSp (spoolC t S)) (hn : 0 ≤ n) (hn2 : n ≤ 140737488000000) :
    Calls Try.prog 47 #[ptrT s, .int .i64 n] w (RecPost V S n w) := by
  have KP := Aside0.mk (fun (k : Int) (hk : 0 ≤ k ∧ k ≤ 140737488355328) w' (hb : Below w.heap.size w w') => piece_calls P s t V S k w' (H.below hb) hS hcl hB hF hR (HS.below hb) hk.1 hk.2)
  have KL := Aside0.mk (fun (k : Int) (hk : 0 ≤ k) => show (secV V S k).length = 128 from hS.read (on_has hF hR k hk))
  have HS := Aside0.mk HS
  have HC := Aside0.mk hF.count
  have HN := Aside0.mk (⟨hn, hn2⟩ : _ ∧ _)
  have K0 := Aside0.mk (KP.out n ⟨hn, by omega⟩ w (Below.refl _ _))
  clear H hS hcl hB hF hR hn hn2
  have h94 := Try.underlying94
  go_enter Try.func47, Try.ntmps47
  go_wp2_with fail
  refine K0.out.mono ?_
  rintro e w1 ⟨b1, p, A, c, rfl, hp⟩
  have HP := Aside0.mk hp
  have B1 := Aside0.mk b1
  have S1 := Aside0.mk (HS.out.below b1)
  clear b1 hp K0
  go_upto_region 2 with fail
  obtain ⟨W2, hW2⟩ : ∃ W2, w1.alloc (.cells (pieceC p A c) TPi) = W2 := ⟨_, rfl⟩
  have hE2 : Blk W2 w1.heap.size TPi (pieceC p A c) := by rw [← hW2]; exact Blk.new _ _ _
  have hb2 : Below w1.heap.size w1 W2 := by rw [← hW2]; exact (Below.refl _ _).alloc (Nat.le_refl _) _
  have hs2 := S1.out.below hb2
  have HE0 : (fun w' => Blk w' s TSp (spoolC t S) ∧ Blk w' w1.heap.size TPi (pieceC p A c) ∧ Below w1.heap.size w1 w') W2.drew := ⟨hs2.drew, hE2.drew, hb2.drew⟩
  rw [hW2]
  clear hE2 hb2 hs2 hW2
  obtain ⟨hv, hhv⟩ : ∃ hv, hereV V S n = hv := ⟨_, rfl⟩
  rw [hhv]
  have HV := Aside0.mk hhv
  have HP := Aside0.mk (by have := HP.out; rwa [hhv] at this : hv = true → _)
  clear hhv
  by_cases hbad : hv = true ∧ p.at_ = 0 ∧ p.of ≤ S.count
  case neg =>
   have HBad : Aside0 (recOk V S n = false) := ⟨by
    unfold recOk headOk
    rw [HV.out]
    cases hv with
    | false => rfl
    | true =>
      obtain ⟨h1, -⟩ := HP.out rfl
      rw [← h1]
      have : (decide (p.at_ = 0) && decide (p.of ≤ S.count)) = false := by
        rw [← Bool.decide_and, decide_eq_false_iff_not]
        exact fun h => hbad ⟨rfl, h⟩
      simp only [Bool.true_and] at *
      rw [this]
      rfl⟩
   cases hv with
   | false =>
    clear hbad
    refine Qt.wp_region_all (fun w' => Blk w' s TSp (spoolC t S) ∧ Blk w' w1.heap.size TPi (pieceC p A c) ∧ Below w1.heap.size w1 w') (by kernel_rfl) (by kernel_rfl) HE0 ?_
    clear HE0
    iterate 3 ((first | (with_reducible refine Qt.q_val' rfl ?_) | ((with_reducible refine Qg.on_val' ?_); apply Exists.intro; apply Exists.intro; apply Exists.intro; refine ⟨?_, ?_, ?_, ?_⟩; (focus rfl); (focus rfl); (focus rfl))); apply Exists.intro; refine ⟨?_, ?_⟩; (focus (intro w' hw'; have hEw := hw'.2.1; have c0 := hEw.cell 0; have c1 := hEw.cell 1; have c2 := hEw.cell 2; have c3 := hEw.cell 3; have c4 := hEw.cell 4; have l0 := hEw.lt; have hSw := hw'.1; have d1 := hSw.cell 1; have l1 := hSw.lt; go_simp; (first | done | (with_reducible rfl)))); intro K hK; go_simp; (first | (with_reducible refine hK _ ?_) | (refine hK _ ?_)); clear hK K)
    iterate 3 ((first | ((with_reducible refine Qg.off' ?_); apply Exists.intro; apply Exists.intro; apply Exists.intro; refine ⟨?_, ?_, ?_, ?_⟩; (focus rfl); (focus rfl); (focus rfl)) | ((with_reducible refine Qg.never' ?_); apply Exists.intro; apply Exists.intro; apply Exists.intro; refine ⟨?_, ?_, ?_, ?_⟩; (focus rfl); (focus rfl); (focus rfl))); intro K hK; go_simp; (first | (with_reducible refine hK _ ?_) | (refine hK _ ?_)); clear hK K)
    iterate 2 ((first | (with_reducible refine Qt.q_val' rfl ?_) | ((with_reducible refine Qg.on_val' ?_); apply Exists.intro; apply Exists.intro; apply Exists.intro; refine ⟨?_, ?_, ?_, ?_⟩; (focus rfl); (focus rfl); (focus rfl))); apply Exists.intro; refine ⟨?_, ?_⟩; (focus (intro w' hw'; have hEw := hw'.2.1; have c0 := hEw.cell 0; have c1 := hEw.cell 1; have c2 := hEw.cell 2; have c3 := hEw.cell 3; have c4 := hEw.cell 4; have l0 := hEw.lt; have hSw := hw'.1; have d1 := hSw.cell 1; have l1 := hSw.lt; go_simp; (first | done | (with_reducible rfl)))); intro K hK; go_simp; (first | (with_reducible refine hK _ ?_) | (refine hK _ ?_)); clear hK K)
    iterate 8 ((first | ((with_reducible refine Qg.off' ?_); apply Exists.intro; apply Exists.intro; apply Exists.intro; refine ⟨?_, ?_, ?_, ?_⟩; (focus rfl); (focus rfl); (focus rfl)) | ((with_reducible refine Qg.never' ?_); apply Exists.intro; apply Exists.intro; apply Exists.intro; refine ⟨?_, ?_, ?_, ?_⟩; (focus rfl); (focus rfl); (focus rfl))); intro K hK; go_simp; (first | (with_reducible refine hK _ ?_) | (refine hK _ ?_)); clear hK K)
    iterate 1 ((first | (with_reducible refine Qt.q_val' rfl ?_) | ((with_reducible refine Qg.on_val' ?_); apply Exists.intro; apply Exists.intro; apply Exists.intro; refine ⟨?_, ?_, ?_, ?_⟩; (focus rfl); (focus rfl); (focus rfl))); apply Exists.intro; refine ⟨?_, ?_⟩; (focus (intro w' hw'; have hEw := hw'.2.1; have c0 := hEw.cell 0; have c1 := hEw.cell 1; have c2 := hEw.cell 2; have c3 := hEw.cell 3; have c4 := hEw.cell 4; have l0 := hEw.lt; have hSw := hw'.1; have d1 := hSw.cell 1; have l1 := hSw.lt; go_simp; (first | done | (with_reducible rfl)))); intro K hK; go_simp; (first | (with_reducible refine hK _ ?_) | (refine hK _ ?_)); clear hK K)
    (refine wpQuiet_nil ?_; intro w' hw')
    have BE := Aside0.mk (B1.out.trans (hw'.2.2.mono B1.out.size))
    clear hw'
    go_wp2
    go_ret3
    exact ⟨BE.out, .inr ⟨HBad.out, rfl⟩⟩
   | true =>
   by_cases ha : p.at_ = 0
   · have t1 : decide (p.at_ = 0) = true := decide_eq_true ha
     have t2 : (p.at_ != 0) = false := by simp [ha]
     have t3 : (p.at_ == 0) = true := by simp [ha]
     have t4 : decide (p.of > S.count) = true := decide_eq_true (Int.not_le.1 fun h => hbad ⟨rfl, ha, h⟩)
     clear hbad ha
     refine Qt.wp_region_all (fun w' => Blk w' s TSp (spoolC t S) ∧ Blk w' w1.heap.size TPi (pieceC p A c) ∧ Below w1.heap.size w1 w') (by kernel_rfl) (by kernel_rfl) HE0 ?_
     clear HE0
     iterate 3 ((first | (with_reducible refine Qt.q_val' rfl ?_) | ((with_reducible refine Qg.on_val' ?_); apply Exists.intro; apply Exists.intro; apply Exists.intro; refine ⟨?_, ?_, ?_, ?_⟩; (focus rfl); (focus rfl); (focus rfl))); apply Exists.intro; refine ⟨?_, ?_⟩; (focus (intro w' hw'; have hEw := hw'.2.1; have c0 := hEw.cell 0; have c1 := hEw.cell 1; have c2 := hEw.cell 2; have c3 := hEw.cell 3; have c4 := hEw.cell 4; have l0 := hEw.lt; have hSw := hw'.1; have d1 := hSw.cell 1; have l1 := hSw.lt; go_simp; (first | done | (with_reducible rfl)))); intro K hK; go_simp; (first | (with_reducible refine hK _ ?_) | (refine hK _ ?_)); clear hK K)
     iterate 3 ((first | (with_reducible refine Qt.q_val' rfl ?_) | ((with_reducible refine Qg.on_val' ?_); apply Exists.intro; apply Exists.intro; apply Exists.intro; refine ⟨?_, ?_, ?_, ?_⟩; (focus rfl); (focus rfl); (focus rfl))); apply Exists.intro; refine ⟨?_, ?_⟩; (focus (intro w' hw'; have hEw := hw'.2.1; have c0 := hEw.cell 0; have c1 := hEw.cell 1; have c2 := hEw.cell 2; have c3 := hEw.cell 3; have c4 := hEw.cell 4; have l0 := hEw.lt; have hSw := hw'.1; have d1 := hSw.cell 1; have l1 := hSw.lt; go_simp; (first | done | (with_reducible rfl)))); intro K hK; go_simp; (first | (with_reducible refine hK _ ?_) | (refine hK _ ?_)); clear hK K)
     iterate 2 ((first | (with_reducible refine Qt.q_val' rfl ?_) | ((with_reducible refine Qg.on_val' ?_); apply Exists.intro; apply Exists.intro; apply Exists.intro; refine ⟨?_, ?_, ?_, ?_⟩; (focus rfl); (focus rfl); (focus rfl))); apply Exists.intro; refine ⟨?_, ?_⟩; (focus (intro w' hw'; have hEw := hw'.2.1; have c0 := hEw.cell 0; have c1 := hEw.cell 1; have c2 := hEw.cell 2; have c3 := hEw.cell 3; have c4 := hEw.cell 4; have l0 := hEw.lt; have hSw := hw'.1; have d1 := hSw.cell 1; have l1 := hSw.lt; go_simp; (first | done | (with_reducible rfl)))); intro K hK; go_simp; (first | (with_reducible refine hK _ ?_) | (refine hK _ ?_)); clear hK K)
     iterate 8 ((first | (with_reducible refine Qt.q_val' rfl ?_) | ((with_reducible refine Qg.on_val' ?_); apply Exists.intro; apply Exists.intro; apply Exists.intro; refine ⟨?_, ?_, ?_, ?_⟩; (focus rfl); (focus rfl); (focus rfl))); apply Exists.intro; refine ⟨?_, ?_⟩; (focus (intro w' hw'; have hEw := hw'.2.1; have c0 := hEw.cell 0; have c1 := hEw.cell 1; have c2 := hEw.cell 2; have c3 := hEw.cell 3; have c4 := hEw.cell 4; have l0 := hEw.lt; have hSw := hw'.1; have d1 := hSw.cell 1; have l1 := hSw.lt; go_simp; (first | done | (with_reducible rfl)))); intro K hK; go_simp; (first | (with_reducible refine hK _ ?_) | (refine hK _ ?_)); clear hK K)
     iterate 1 ((first | (with_reducible refine Qt.q_val' rfl ?_) | ((with_reducible refine Qg.on_val' ?_); apply Exists.intro; apply Exists.intro; apply Exists.intro; refine ⟨?_, ?_, ?_, ?_⟩; (focus rfl); (focus rfl); (focus rfl))); apply Exists.intro; refine ⟨?_, ?_⟩; (focus (intro w' hw'; have hEw := hw'.2.1; have c0 := hEw.cell 0; have c1 := hEw.cell 1; have c2 := hEw.cell 2; have c3 := hEw.cell 3; have c4 := hEw.cell 4; have l0 := hEw.lt; have hSw := hw'.1; have d1 := hSw.cell 1; have l1 := hSw.lt; go_simp; (first | done | (with_reducible rfl)))); intro K hK; go_simp; (first | (with_reducible refine hK _ ?_) | (refine hK _ ?_)); clear hK K)
     (refine wpQuiet_nil ?_; intro w' hw')
     have BE := Aside0.mk (B1.out.trans (hw'.2.2.mono B1.out.size))
     clear hw'
     go_wp2
     go_ret3
     exact ⟨BE.out, .inr ⟨HBad.out, rfl⟩⟩
   · have t1 : decide (p.at_ = 0) = false := decide_eq_false ha
     have t2 : (p.at_ != 0) = true := by simpa using ha
     have t3 : (p.at_ == 0) = false := by simpa using ha
     clear hbad ha
     refine Qt.wp_region_all (fun w' => Blk w' s TSp (spoolC t S) ∧ Blk w' w1.heap.size TPi (pieceC p A c) ∧ Below w1.heap.size w1 w') (by kernel_rfl) (by kernel_rfl) HE0 ?_
     clear HE0
     iterate 3 ((first | (with_reducible refine Qt.q_val' rfl ?_) | ((with_reducible refine Qg.on_val' ?_); apply Exists.intro; apply Exists.intro; apply Exists.intro; refine ⟨?_, ?_, ?_, ?_⟩; (focus rfl); (focus rfl); (focus rfl))); apply Exists.intro; refine ⟨?_, ?_⟩; (focus (intro w' hw'; have hEw := hw'.2.1; have c0 := hEw.cell 0; have c1 := hEw.cell 1; have c2 := hEw.cell 2; have c3 := hEw.cell 3; have c4 := hEw.cell 4; have l0 := hEw.lt; have hSw := hw'.1; have d1 := hSw.cell 1; have l1 := hSw.lt; go_simp; (first | done | (with_reducible rfl)))); intro K hK; go_simp; (first | (with_reducible refine hK _ ?_) | (refine hK _ ?_)); clear hK K)
     iterate 3 ((first | (with_reducible refine Qt.q_val' rfl ?_) | ((with_reducible refine Qg.on_val' ?_); apply Exists.intro; apply Exists.intro; apply Exists.intro; refine ⟨?_, ?_, ?_, ?_⟩; (focus rfl); (focus rfl); (focus rfl))); apply Exists.intro; refine ⟨?_, ?_⟩; (focus (intro w' hw'; have hEw := hw'.2.1; have c0 := hEw.cell 0; have c1 := hEw.cell 1; have c2 := hEw.cell 2; have c3 := hEw.cell 3; have c4 := hEw.cell 4; have l0 := hEw.lt; have hSw := hw'.1; have d1 := hSw.cell 1; have l1 := hSw.lt; go_simp; (first | done | (with_reducible rfl)))); intro K hK; go_simp; (first | (with_reducible refine hK _ ?_) | (refine hK _ ?_)); clear hK K)
     iterate 2 ((first | (with_reducible refine Qt.q_val' rfl ?_) | ((with_reducible refine Qg.on_val' ?_); apply Exists.intro; apply Exists.intro; apply Exists.intro; refine ⟨?_, ?_, ?_, ?_⟩; (focus rfl); (focus rfl); (focus rfl))); apply Exists.intro; refine ⟨?_, ?_⟩; (focus (intro w' hw'; have hEw := hw'.2.1; have c0 := hEw.cell 0; have c1 := hEw.cell 1; have c2 := hEw.cell 2; have c3 := hEw.cell 3; have c4 := hEw.cell 4; have l0 := hEw.lt; have hSw := hw'.1; have d1 := hSw.cell 1; have l1 := hSw.lt; go_simp; (first | done | (with_reducible rfl)))); intro K hK; go_simp; (first | (with_reducible refine hK _ ?_) | (refine hK _ ?_)); clear hK K)
     iterate 8 ((first | ((with_reducible refine Qg.off' ?_); apply Exists.intro; apply Exists.intro; apply Exists.intro; refine ⟨?_, ?_, ?_, ?_⟩; (focus rfl); (focus rfl); (focus rfl)) | ((with_reducible refine Qg.never' ?_); apply Exists.intro; apply Exists.intro; apply Exists.intro; refine ⟨?_, ?_, ?_, ?_⟩; (focus rfl); (focus rfl); (focus rfl))); intro K hK; go_simp; (first | (with_reducible refine hK _ ?_) | (refine hK _ ?_)); clear hK K)
     iterate 1 ((first | (with_reducible refine Qt.q_val' rfl ?_) | ((with_reducible refine Qg.on_val' ?_); apply Exists.intro; apply Exists.intro; apply Exists.intro; refine ⟨?_, ?_, ?_, ?_⟩; (focus rfl); (focus rfl); (focus rfl))); apply Exists.intro; refine ⟨?_, ?_⟩; (focus (intro w' hw'; have hEw := hw'.2.1; have c0 := hEw.cell 0; have c1 := hEw.cell 1; have c2 := hEw.cell 2; have c3 := hEw.cell 3; have c4 := hEw.cell 4; have l0 := hEw.lt; have hSw := hw'.1; have d1 := hSw.cell 1; have l1 := hSw.lt; go_simp; (first | done | (with_reducible rfl)))); intro K hK; go_simp; (first | (with_reducible refine hK _ ?_) | (refine hK _ ?_)); clear hK K)
     (refine wpQuiet_nil ?_; intro w' hw')
     have BE := Aside0.mk (B1.out.trans (hw'.2.2.mono B1.out.size))
     clear hw'
     go_wp2
     go_ret3
     exact ⟨BE.out, .inr ⟨HBad.out, rfl⟩⟩
  case pos =>
    obtain ⟨rfl, ha, ho⟩ := hbad
    have t1 : decide (p.at_ = 0) = true := decide_eq_true ha
    have t2 : (p.at_ != 0) = false := by simp [ha]
    have t3 : (p.at_ == 0) = true := by simp [ha]
    have t4 : decide (p.of > S.count) = false := decide_eq_false (by omega)
    have HA := Aside0.mk (⟨ha, ho⟩ : _ ∧ _)
    clear ha ho
    refine Qt.wp_region_all (fun w' => Blk w' s TSp (spoolC t S) ∧ Blk w' w1.heap.size TPi (pieceC p A c) ∧ Below w1.heap.size w1 w') (by kernel_rfl) (by kernel_rfl) HE0 ?_
    clear HE0
    iterate 3 ((first | (with_reducible refine Qt.q_val' rfl ?_) | ((with_reducible refine Qg.on_val' ?_); apply Exists.intro; apply Exists.intro; apply Exists.intro; refine ⟨?_, ?_, ?_, ?_⟩; (focus rfl); (focus rfl); (focus rfl))); apply Exists.intro; refine ⟨?_, ?_⟩; (focus (intro w' hw'; have hEw := hw'.2.1; have c0 := hEw.cell 0; have c1 := hEw.cell 1; have c2 := hEw.cell 2; have c3 := hEw.cell 3; have c4 := hEw.cell 4; have l0 := hEw.lt; have hSw := hw'.1; have d1 := hSw.cell 1; have l1 := hSw.lt; go_simp; (first | done | (with_reducible rfl)))); intro K hK; go_simp; (first | (with_reducible refine hK _ ?_) | (refine hK _ ?_)); clear hK K)
    iterate 3 ((first | (with_reducible refine Qt.q_val' rfl ?_) | ((with_reducible refine Qg.on_val' ?_); apply Exists.intro; apply Exists.intro; apply Exists.intro; refine ⟨?_, ?_, ?_, ?_⟩; (focus rfl); (focus rfl); (focus rfl))); apply Exists.intro; refine ⟨?_, ?_⟩; (focus (intro w' hw'; have hEw := hw'.2.1; have c0 := hEw.cell 0; have c1 := hEw.cell 1; have c2 := hEw.cell 2; have c3 := hEw.cell 3; have c4 := hEw.cell 4; have l0 := hEw.lt; have hSw := hw'.1; have d1 := hSw.cell 1; have l1 := hSw.lt; go_simp; (first | done | (with_reducible rfl)))); intro K hK; go_simp; (first | (with_reducible refine hK _ ?_) | (refine hK _ ?_)); clear hK K)
    iterate 2 ((first | (with_reducible refine Qt.q_val' rfl ?_) | ((with_reducible refine Qg.on_val' ?_); apply Exists.intro; apply Exists.intro; apply Exists.intro; refine ⟨?_, ?_, ?_, ?_⟩; (focus rfl); (focus rfl); (focus rfl))); apply Exists.intro; refine ⟨?_, ?_⟩; (focus (intro w' hw'; have hEw := hw'.2.1; have c0 := hEw.cell 0; have c1 := hEw.cell 1; have c2 := hEw.cell 2; have c3 := hEw.cell 3; have c4 := hEw.cell 4; have l0 := hEw.lt; have hSw := hw'.1; have d1 := hSw.cell 1; have l1 := hSw.lt; go_simp; (first | done | (with_reducible rfl)))); intro K hK; go_simp; (first | (with_reducible refine hK _ ?_) | (refine hK _ ?_)); clear hK K)
    iterate 8 ((first | (with_reducible refine Qt.q_val' rfl ?_) | ((with_reducible refine Qg.on_val' ?_); apply Exists.intro; apply Exists.intro; apply Exists.intro; refine ⟨?_, ?_, ?_, ?_⟩; (focus rfl); (focus rfl); (focus rfl))); apply Exists.intro; refine ⟨?_, ?_⟩; (focus (intro w' hw'; have hEw := hw'.2.1; have c0 := hEw.cell 0; have c1 := hEw.cell 1; have c2 := hEw.cell 2; have c3 := hEw.cell 3; have c4 := hEw.cell 4; have l0 := hEw.lt; have hSw := hw'.1; have d1 := hSw.cell 1; have l1 := hSw.lt; go_simp; (first | done | (with_reducible rfl)))); intro K hK; go_simp; (first | (with_reducible refine hK _ ?_) | (refine hK _ ?_)); clear hK K)
    iterate 1 ((first | (with_reducible refine Qt.q_val' rfl ?_) | ((with_reducible refine Qg.on_val' ?_); apply Exists.intro; apply Exists.intro; apply Exists.intro; refine ⟨?_, ?_, ?_, ?_⟩; (focus rfl); (focus rfl); (focus rfl))); apply Exists.intro; refine ⟨?_, ?_⟩; (focus (intro w' hw'; have hEw := hw'.2.1; have c0 := hEw.cell 0; have c1 := hEw.cell 1; have c2 := hEw.cell 2; have c3 := hEw.cell 3; have c4 := hEw.cell 4; have l0 := hEw.lt; have hSw := hw'.1; have d1 := hSw.cell 1; have l1 := hSw.lt; go_simp; (first | done | (with_reducible rfl)))); intro K hK; go_simp; (first | (with_reducible refine hK _ ?_) | (refine hK _ ?_)); clear hK K)
    (refine wpQuiet_nil ?_; intro w' hw')
    obtain ⟨hp1, hp2, hp3, hp4⟩ := HP.out rfl
    have hlen := (here_facts HV.out (KL.out n HN.out.1)).1
    have hat := (here_facts HV.out (KL.out n HN.out.1)).2
    rw [← hp1] at hlen hat
    have hof : 1 ≤ p.of ∧ p.of ≤ 4096 := by
      have h1 := HA.out
      have h2 := HC.out
      omega
    have hM := hw'.2.1
    obtain ⟨w3, rfl⟩ : ∃ w3, w3 = w' := ⟨_, rfl⟩
    have B3 := Aside0.mk (B1.out.trans (hw'.2.2.mono B1.out.size))
    have KC := Aside0.mk (clone_calls p.b A p.b.length c hp3 (by omega) w3 (hp4.below hw'.2.2))
    have HPT := Aside0.mk hp1
    have HM := Aside0.mk hM
    have HOF := Aside0.mk hof
    have c4 := hM.cell 4
    have ml := hM.lt
    obtain ⟨m0, hm0⟩ : ∃ m0, w1.heap.size = m0 := ⟨_, rfl⟩
    rw [hm0] at c4 ml HM
    rw [hm0]
    have HM0 := Aside0.mk hm0
    clear hp1 hp2 hp3 hp4 hlen hat hof hM hw' HP hm0 t1 t2 t3 t4 S1
    go_wp2_with fail
    refine KC.out.mono ?_
    rintro e w4 ⟨v, rfl, hrow, b4⟩
    have R4 := Aside0.mk (by have := hrow.lower B3.out.size; rwa [show p.b = bodyR V S n 1 by rw [HPT.out]; simp [bodyR]] at this : Row w4 w.heap.size TU8 .u8 v (bodyR V S n 1))
    have M4 := Aside0.mk (HM.out.below b4)
    have B4 := Aside0.mk (B3.out.trans (b4.mono B3.out.size))
    clear hrow b4 KC c4 ml
    go_wp2
    go_loopw [9, 10] (fun v9 v10 wr => ∃ i : Nat, v10 = .int .i64 (i : Int) ∧ Aside0 (1 ≤ i ∧ (i : Int) ≤ p.of) ∧ Aside0 (∀ j, 1 ≤ j → j < i → followV V S n j = true) ∧ Aside0 (Row wr w.heap.size TU8 .u8 v9 (bodyR V S n i)) ∧ Aside0 (Blk wr m0 TPi (pieceC p A c)) ∧ Aside0 (Below w.heap.size w wr)) (fun _ v10 _ => p.of.toNat - (intOf v10).toNat)
    case atStart => exact ⟨1, rfl, ⟨Nat.le_refl _, HOF.out.1⟩, ⟨fun j h1 h2 => absurd h2 (by omega)⟩, R4, M4, B4⟩
    case round =>
      obtain ⟨i, rfl, hin, hfo, hrow, hM, hb⟩ := hrel
      have c0 := hM.out.cell 0
      have c3 := hM.out.cell 3
      have ml := hM.out.lt
      by_cases hi : (i : Int) < p.of
      · have t1 : decide ((i : Int) < p.of) = true := decide_eq_true hi
        have hw1 : IntKind.i64.wrap (n + (i : Int)) = n + (i : Int) := IntWalk.i64_in _ (by have := HN.out; have := HOF.out; omega)
        have hw : IntKind.i64.wrap ((i : Int) + 1) = ((i + 1 : Nat) : Int) := by rw [show ((i : Int) + 1) = ((i + 1 : Nat) : Int) by omega]; exact IntWalk.i64_in _ (by have := HOF.out; omega)
        have K := Aside0.mk (KP.out (n + (i : Int)) ⟨by have := HN.out; omega, by have := HN.out; have := HOF.out; omega⟩ wr hb.out)
        have HI := Aside0.mk hi
        have HBad := Aside0.mk (fun h => rec_bad (V := V) (S := S) (n := n) hin.out.1 (by rw [← HPT.out]; exact hi) h)
        clear hi
        go_wp2_with fail
        refine K.out.mono ?_
        rintro e w5 ⟨b5, q, A5, c5, rfl, hq⟩
        have hM5 := hM.out.below b5
        have hR5 := hrow.out.below b5
        have c0 := hM5.cell 0
        have c3 := hM5.cell 3
        have ml := hM5.lt
        have M5 := Aside0.mk hM5
        have R5 := Aside0.mk hR5
        have B5 := Aside0.mk (hb.out.trans (b5.mono hb.out.size))
        have BSZ := Aside0.mk b5.size
        have HQ := Aside0.mk hq
        clear b5 hq hM5 hR5 K
        obtain ⟨hv2, hhv2⟩ : ∃ hv2, hereV V S (n + (i : Int)) = hv2 := ⟨_, rfl⟩
        rw [hhv2]
        have HV2 := Aside0.mk hhv2
        have HQ := Aside0.mk (by have := HQ.out; rwa [hhv2] at this : hv2 = true → _)
        clear hhv2
        cases hv2 with
        | false =>
          have HB := Aside0.mk (HBad.out (by unfold followV; rw [HV2.out]; rfl))
          go_wp2
          go_ret3
          exact ⟨B5.out.alloc B5.out.size _, .inr ⟨HB.out, rfl⟩⟩
        | true =>
          obtain ⟨hq1, hq2, hq3, hq4⟩ := HQ.out rfl
          have hql := (here_facts HV2.out (KL.out _ (by have := HN.out; omega))).1
          rw [← hq1] at hql
          by_cases e1 : q.at_ = (i : Int)
          · have u1a : decide (q.at_ = (i : Int)) = true := decide_eq_true e1
            have u1b : (q.at_ != (i : Int)) = false := by simp [e1]
            have u1c : (q.at_ == (i : Int)) = true := by simp [e1]
            by_cases e2 : q.of = p.of
            · have u2a : decide (q.of = p.of) = true := decide_eq_true e2
              have u2b : (q.of != p.of) = false := by simp [e2]
              have u2c : (q.of == p.of) = true := by simp [e2]
              by_cases e3 : q.epoch = p.epoch
              · have u3a : decide (q.epoch = p.epoch) = true := decide_eq_true e3
                have u3b : (q.epoch != p.epoch) = false := by simp [e3]
                have u3c : (q.epoch == p.epoch) = true := by simp [e3]
                have HFol := Aside0.mk (by unfold followV; rw [HV2.out, ← hq1, decide_eq_true e1, ← HPT.out, decide_eq_true e2, decide_eq_true e3]; rfl : followV V S n i = true)
                have hbl : (bodyR V S n i).length ≤ 108 * i := bodyR_length i (fun j hj => by
                  have hh : hereV V S (n + (j : Nat)) = true := by
                    rcases Nat.eq_zero_or_pos j with h | h
                    · subst h; rw [show n + ((0 : Nat) : Int) = n by omega]; exact HV.out
                    · have := hfo.out j h hj
                      unfold followV at this
                      simp only [Bool.and_eq_true] at this
                      exact this.1.1.1
                  exact (here_facts hh (KL.out _ (by have := HN.out; omega))).1)
                have hlm : (bodyR V S n i).length + q.b.length ≤ 140737488355328 := by have := hin.out; have := HOF.out; omega
                obtain ⟨L, hL⟩ : ∃ L, bodyR V S n i = L := ⟨_, rfl⟩
                rw [hL] at hlm
                have R5 := Aside0.mk (by have := R5.out; rwa [hL] at this : Row w5 w.heap.size TU8 .u8 u9 L)
                have HNX := Aside0.mk (by rw [bodyR, hL, ← hq1] : bodyR V S n (i + 1) = L ++ q.b)
                have HQ4 := Aside0.mk hq4
                have tok1 : True := trivial
                clear e1 e2 e3 hq1 hq2 hq3 hq4 hql hbl hL hrow
                go_wp2_with (at_builtin; have _t := tok1; have q0 := B5.out.alloc B5.out.size (.cells (pieceC q A5 c5) TPi); have q1 := M5.out.alloc (.cells (pieceC q A5 c5) TPi); have q2 := R5.out.alloc (.cells (pieceC q A5 c5) TPi); have q3 := q2.ne q1 (by decide); go_must (refine app8 (w0 := w) w.heap.size rfl _ _ rfl _ L q.b A5 q.b.length c5 rfl rfl q2 (HQ4.out.below (below_alloc (Below.refl _ _) _)) q0 q0.size hlm ?_); intro v7 w7 hv7 hb7 hg7 hat7; have hM7 := q1.grown hg7 q3; clear hg7 hat7 _t tok1 q0 q1 q2 q3)
                have R7 := Aside0.mk (by rw [HNX.out]; exact hv7 : Row w7 w.heap.size TU8 .u8 v7 (bodyR V S n (i + 1)))
                have M7 := Aside0.mk hM7
                have B7 := Aside0.mk hb7
                clear hv7 hM7 hb7
                go_roundw
                case rel => exact ⟨i + 1, by first | rfl | (rw [hw]) | go_num | simp [hw], ⟨by omega, by have := HI.out; omega⟩, ⟨fun j h1 h2 => by
                  rcases Nat.lt_or_ge j i with h | h
                  · exact hfo.out j h1 h
                  · obtain rfl : j = i := by omega
                    exact HFol.out⟩, R7, M7, B7⟩
                case measure => have := HI.out; simp [intOf, hw]; omega
              · have u3a : decide (q.epoch = p.epoch) = false := decide_eq_false e3
                have u3b : (q.epoch != p.epoch) = true := by simpa using e3
                have u3c : (q.epoch == p.epoch) = false := by simpa using e3
                have HB := Aside0.mk (HBad.out (by unfold followV; rw [HV2.out, ← hq1, decide_eq_true e1, ← HPT.out, decide_eq_true e2, decide_eq_false e3]; rfl))
                clear e1 e2 e3 hq1 hq2 hq3 hq4 hql
                go_wp2
                go_ret3
                exact ⟨B5.out.alloc B5.out.size _, .inr ⟨HB.out, rfl⟩⟩
            · have u2a : decide (q.of = p.of) = false := decide_eq_false e2
              have u2b : (q.of != p.of) = true := by simpa using e2
              have u2c : (q.of == p.of) = false := by simpa using e2
              have HB := Aside0.mk (HBad.out (by unfold followV; rw [HV2.out, ← hq1, decide_eq_true e1, ← HPT.out, decide_eq_false e2]; rfl))
              clear e1 e2 hq1 hq2 hq3 hq4 hql
              go_wp2
              go_ret3
              exact ⟨B5.out.alloc B5.out.size _, .inr ⟨HB.out, rfl⟩⟩
          · have u1 : decide (q.at_ = (i : Int)) = false := decide_eq_false e1
            have u2 : (q.at_ != (i : Int)) = true := by simpa using e1
            have u3 : (q.at_ == (i : Int)) = false := by simpa using e1
            have HB := Aside0.mk (HBad.out (by unfold followV; rw [HV2.out, ← hq1, decide_eq_false e1]; rfl))
            clear e1 hq1 hq2 hq3 hq4 hql
            go_wp2
            go_ret3
            exact ⟨B5.out.alloc B5.out.size _, .inr ⟨HB.out, rfl⟩⟩
      · have t1 : decide ((i : Int) < p.of) = false := decide_eq_false hi
        have hi2 : p.of.toNat = i := by have := hin.out; omega
        have HR := Aside0.mk (rec_good (V := V) (S := S) (n := n) (by unfold headOk; rw [HV.out, ← HPT.out, decide_eq_true HA.out.1, decide_eq_true HA.out.2]; rfl) (by rw [← HPT.out]; omega) hfo.out : recOk V S n = true)
        have HI2 := Aside0.mk hi2
        clear hi hi2
        go_wp2_with fail
        refine Qt.wp_region_all (fun w' => Below wr.heap.size wr w') (by kernel_rfl) (by kernel_rfl) (Below.refl _ _).drew ?_
        iterate 8 ((first | (with_reducible refine Qt.q_val' rfl ?_) | ((with_reducible refine Qg.on_val' ?_); apply Exists.intro; apply Exists.intro; apply Exists.intro; refine ⟨?_, ?_, ?_, ?_⟩; (focus rfl); (focus rfl); (focus rfl))); apply Exists.intro; refine ⟨?_, ?_⟩; (focus (intro w' hw'; have hEw := hM.out.below hw'; have c0 := hEw.cell 0; have c3 := hEw.cell 3; have l0 := hEw.lt; go_simp; (first | done | (with_reducible rfl)))); intro K hK; go_simp; (first | (with_reducible refine hK _ ?_) | (refine hK _ ?_)); clear hK K)
        (refine wpQuiet_nil ?_; intro w' hw')
        go_wp2
        go_ret3
        refine ⟨hb.out.trans (hw'.mono hb.out.size), .inl ⟨HR.out, u9, ?_, ?_⟩⟩
        · rw [← HPT.out]; rfl
        · rw [← HPT.out, HI2.out]; exact hrow.out.below hw'
end Go.Proofs.Ytddhngalokmdoaa.Spo
