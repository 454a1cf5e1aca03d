/- Texts of this claim, merged: Qw, Qg, Kfa, Qn, Kfb, Kit, Kpu, Ksb, Kim, Kip, Glz, Whp. -/
import Derived.Test.YtmilpfccgggmkaaDoorMgKnotJoins1
/- Regions that draw their order, whose calls and new variables hand back what is new: each operation tells what it yields by a relation that stands under what only makes memory. Any program. -/
namespace Go.Proofs.YtmilpfccgggmkaaDoor.Qw
open Go.RowKit Go.Proofs.YtmilpfccgggmkaaDoor.Arr
set_option linter.unusedVariables false
set_option linter.unusedSimpArgs false
section
variable {P : Program} {ops : Array Oper} {md : Region.Mode} {S : FuncId → Array Value → Value → World → Prop} {E0 : World → Prop}

/-- It stands under what only makes memory. -/
def Stb (F : World → Prop) : Prop := ∀ w w', F w → Below w.heap.size w w' → F w'
def up (F : Nat → World → Prop) (i : Nat) (R : World → Prop) : Nat → World → Prop := fun k => if k = i then R else F k
theorem up_same (F : Nat → World → Prop) (i : Nat) (R : World → Prop) : up F i R i = R := by simp [up]
theorem up_ne (F : Nat → World → Prop) {i k : Nat} (R : World → Prop) (h : k ≠ i) : up F i R k = F k := by simp [up, h]
/-- What an operation yields; a call's tells S. -/
def rUpon (P : Program) (S : FuncId → Array Value → Value → World → Prop) (w : World) (R : Value → World → Prop) : Result Next → Prop
  | .ok (.value u) w' => Below w.heap.size w w' ∧ R u w'
  | .ok (.enter f args) w' => w' = w ∧ R = S f args ∧ Calls P f args w (fun e w'' => ∃ u, e = .returned u ∧ Below w.heap.size w w'' ∧ S f args u w'')
  | _ => False
def Gives (P : Program) (md : Region.Mode) (ops : Array Oper) (S : FuncId → Array Value → Value → World → Prop) (E0 : World → Prop) (F : Nat → World → Prop) (o : Oper) (a : Act) (R : Value → World → Prop) : Prop :=
  (Region.wanted o (yielded ops a.tmps) = true ∧ (∀ u, Stb (R u)) ∧ ∀ w, E0 w → (∀ e ∈ o.after, Region.binds md e = true → F e.on w) → rUpon P S w R ((execOp a.eval o).run P w)) ∨
  (Region.wanted o (yielded ops a.tmps) = false ∧ R = fun u _ => u = undef)
def Val (E0 : World → Prop) (F : Nat → World → Prop) (R : Value → World → Prop) (u : Value) : Prop := ∃ w, E0 w ∧ (∀ k, F k w) ∧ R u w
theorem Gives.stb {F : Nat → World → Prop} {o : Oper} {a : Act} {R : Value → World → Prop} (h : Gives P md ops S E0 F o a R) (u : Value) : Stb (R u) := by
  rcases h with h | h
  · exact h.2.1 u
  · rw [h.2]; exact fun _ _ e _ => e
theorem Gives.mono {F F' : Nat → World → Prop} {o : Oper} {a : Act} {R : Value → World → Prop} (h : Gives P md ops S E0 F o a R) (hF : ∀ k w, F' k w → F k w) : Gives P md ops S E0 F' o a R := by
  rcases h with h | h
  · exact .inl ⟨h.1, h.2.1, fun w hw hp => h.2.2 w hw fun e he hb => hF _ _ (hp e he hb)⟩
  · exact .inr h
theorem Gives.inh (hE : Stb E0) {F : Nat → World → Prop} (hF : ∀ k, Stb (F k)) {o : Oper} {a : Act} {R : Value → World → Prop} (h : Gives P md ops S E0 F o a R) (hi : ∃ w, E0 w ∧ ∀ k, F k w) : ∃ u, Val E0 F R u := by
  obtain ⟨w, hw, hk⟩ := hi
  rcases h with ⟨_, _, h⟩ | ⟨_, rfl⟩
  · have h1 := h w hw fun e _ _ => hk _
    generalize (execOp a.eval o).run P w = r at h1
    cases r with
    | ok nx w' =>
      cases nx <;> simp only [rUpon] at h1
      case value u => exact ⟨u, w', hE _ _ hw h1.1, fun k => hF k _ _ (hk k) h1.1, h1.2⟩
      case enter f args =>
        obtain ⟨_, hR, hc⟩ := h1
        obtain ⟨e, w'', fr, ⟨u, _, hb, hs⟩, _⟩ := hc []
        exact ⟨u, w'', hE _ _ hw hb, fun k => hF k _ _ (hk k) hb, by rw [hR]; exact hs⟩
    | halt x w' => simp only [rUpon] at h1
  · exact ⟨undef, w, hw, hk, rfl⟩

def opS (P : Program) (md : Region.Mode) (ops : Array Oper) (S : FuncId → Array Value → Value → World → Prop) (E0 : World → Prop) (i : Nat) (K : Act → (Nat → World → Prop) → Prop) (a : Act) (F : Nat → World → Prop) : Prop :=
  ∃ o, ops[i]? = some o ∧ ∃ R, Gives P md ops S E0 F o a R ∧ ∀ u, Val E0 F R u → K (a.put o.dst u) (up F i (R u))
def anyS (P : Program) (md : Region.Mode) (ops : Array Oper) (S : FuncId → Array Value → Value → World → Prop) (E0 : World → Prop) (n : Nat) (L : Array Bool → Act → (Nat → World → Prop) → Prop) : Nat → Array Bool → Act → (Nat → World → Prop) → Prop
  | 0, listed, a, F => L listed a F
  | f + 1, listed, a, F => Region.ready md ops listed ≠ [] ∧ ∀ i ∈ Region.ready md ops listed, i < n ∧ opS P md ops S E0 i (fun a' F' => anyS P md ops S E0 n L f (listed.setIfInBounds i true) a' F') a F

theorem up_mono {F F' : Nat → World → Prop} (hF : ∀ k w, F' k w → F k w) (i : Nat) (R : World → Prop) : ∀ k w, up F' i R k w → up F i R k w := by
  intro k w h
  by_cases hk : k = i
  · subst hk; rw [up_same] at h ⊢; exact h
  · rw [up_ne _ _ hk] at h ⊢; exact hF k w h
theorem anyS_mono {n : Nat} {L : Array Bool → Act → (Nat → World → Prop) → Prop} (hL : ∀ listed a F F', (∀ k w, F' k w → F k w) → L listed a F → L listed a F') :
    ∀ (f : Nat) (listed : Array Bool) (a : Act) (F F' : Nat → World → Prop), (∀ k w, F' k w → F k w) → anyS P md ops S E0 n L f listed a F → anyS P md ops S E0 n L f listed a F'
  | 0, listed, a, F, F', hF, h => hL _ _ _ _ hF h
  | f + 1, listed, a, F, F', hF, h => ⟨h.1, fun i hi => ⟨(h.2 i hi).1, by
    obtain ⟨o, ho, R, hg, hk⟩ := (h.2 i hi).2
    exact ⟨o, ho, R, hg.mono hF, fun u hu => anyS_mono hL f _ _ _ _ (up_mono hF i (R u)) (hk u (by obtain ⟨w, h1, h2, h3⟩ := hu; exact ⟨w, h1, fun k => hF _ _ (h2 k), h3⟩))⟩⟩⟩

theorem up_stb {F : Nat → World → Prop} (hF : ∀ k, Stb (F k)) {i : Nat} {R : World → Prop} (hR : Stb R) : ∀ k, Stb (up F i R k) := by
  intro k
  by_cases hk : k = i
  · subst hk; rw [up_same]; exact hR
  · rw [up_ne _ _ hk]; exact hF k
theorem up_all {F : Nat → World → Prop} {i : Nat} {R : World → Prop} {w : World} (hF : ∀ k, F k w) (hR : R w) : ∀ k, up F i R k w := by
  intro k
  by_cases hk : k = i
  · subst hk; rw [up_same]; exact hR
  · rw [up_ne _ _ hk]; exact hF k
theorem any_of_S (hE : Stb E0) {n g : Nat} {L : Array Bool → Act → (Nat → World → Prop) → Prop} {Q' : Exit → Act → World → Prop}
    (hL : ∀ listed a F w, (∀ k, Stb (F k)) → E0 w → (∀ k, F k w) → L listed a F → wpAny P md ops Q' g listed a w) :
    ∀ (f : Nat) (listed : Array Bool) (a : Act) (F : Nat → World → Prop) (w : World), (∀ k, Stb (F k)) → E0 w → (∀ k, F k w) → anyS P md ops S E0 n L f listed a F → wpAny P md ops Q' (f + g) listed a w
  | 0, listed, a, F, w, hF, hw, hk, h => by rw [Nat.zero_add]; exact hL _ _ _ _ hF hw hk h
  | f + 1, listed, a, F, w, hF, hw, hk, h => by
    rw [show f + 1 + g = (f + g) + 1 by omega]
    refine ⟨fun h0 => absurd h0 h.1, fun i hi => ?_⟩
    obtain ⟨o, ho, R, hg, hK⟩ := (h.2 i hi).2
    unfold wpOp
    simp only [ho]
    have next : ∀ u w', Below w.heap.size w w' → R u w' → wpAny P md ops Q' (f + g) (listed.setIfInBounds i true) (a.put o.dst u) w' := fun u w' hb hr =>
      any_of_S hE hL f _ _ _ w' (up_stb hF (hg.stb u)) (hE _ _ hw hb) (up_all (fun k => hF k _ _ (hk k) hb) hr) (hK u ⟨w', hE _ _ hw hb, fun k => hF k _ _ (hk k) hb, hr⟩)
    rcases hg with ⟨hwt, _, hx⟩ | ⟨hwt, hR⟩
    · simp only [hwt, if_true]
      refine .inl ?_
      have h3 := hx w hw fun e _ _ => hk _
      unfold Oper.wp
      generalize (execOp a.eval o).run P w = r at h3
      cases r with
      | ok nx w' =>
        cases nx <;> simp only [rUpon] at h3 <;> simp only [Oper.upon]
        case value u => exact next u w' h3.1 h3.2
        case enter fn args =>
          obtain ⟨e1, e2, hc⟩ := h3
          rw [e1]
          exact hc.mono fun e w'' ⟨u, he, hb, hs⟩ => by subst he; exact next u w'' hb (by rw [e2]; exact hs)
      | halt x w' => simp only [rUpon] at h3
    · simp only [hwt, Bool.false_eq_true, if_false]
      exact next undef w (Below.refl _ _) (by rw [hR])

theorem Gives.put {F : Nat → World → Prop} {oi oj : Oper} {u : Value} {a : Act} {R : Value → World → Prop} (h : Gives P md ops S E0 F oi a R) (hap : oi.apart ops oj = true) (hsi : ∀ cs b, oi.op ≠ .select cs b) : Gives P md ops S E0 F oi (a.put oj.dst u) R := by
  obtain ⟨h1, h2, h3⟩ := Oper.apart_spec hap
  unfold Gives at *
  rw [execOp_put oi hsi a oj.dst u h3, wanted_put oi a oj.dst u h3]
  exact h
theorem Gives.unput {F : Nat → World → Prop} {oi oj : Oper} {v : Value} {a : Act} {R : Value → World → Prop} (h : Gives P md ops S E0 F oj (a.put oi.dst v) R) (hap : oi.apart ops oj = true) (hsj : ∀ cs b, oj.op ≠ .select cs b) : Gives P md ops S E0 F oj a R := by
  obtain ⟨h1, h2, h3⟩ := Oper.apart_spec hap
  unfold Gives at *
  rw [execOp_put oj hsj a oi.dst v h1, wanted_put oj a oi.dst v h1] at h
  exact h
theorem Gives.facts {F F' : Nat → World → Prop} {o : Oper} {a : Act} {R : Value → World → Prop} (h : Gives P md ops S E0 F o a R) (hF : ∀ e ∈ o.after, Region.binds md e = true → F' e.on = F e.on) : Gives P md ops S E0 F' o a R := by
  rcases h with h | h
  · exact .inl ⟨h.1, h.2.1, fun w hw hp => h.2.2 w hw fun e he hb => by rw [← hF e he hb]; exact hp e he hb⟩
  · exact .inr h
/-- What holds of an operation whatever another one has yielded. -/
theorem Gives.all {F : Nat → World → Prop} {o : Oper} {a : Act} {V : Value → Prop} {Rc : Value → Value → World → Prop} (u0 : Value) (h0 : V u0) (h : ∀ u, V u → Gives P md ops S E0 F o a (Rc u)) :
    Gives P md ops S E0 F o a (fun v w => ∀ u, V u → Rc u v w) := by
  cases hwt : Region.wanted o (yielded ops a.tmps) with
  | true =>
    have hl : ∀ u, V u → (∀ v, Stb (Rc u v)) ∧ ∀ w, E0 w → (∀ e ∈ o.after, Region.binds md e = true → F e.on w) → rUpon P S w (Rc u) ((execOp a.eval o).run P w) := fun u hu => by
      rcases h u hu with h1 | h1
      · exact h1.2
      · rw [hwt] at h1; exact absurd h1.1 (by decide)
    refine .inl ⟨hwt, fun v w w' hr hb u hu => (hl u hu).1 v w w' (hr u hu) hb, fun w hw hp => ?_⟩
    have hx := fun u hu => (hl u hu).2 w hw hp
    generalize (execOp a.eval o).run P w = r at hx
    cases r with
    | ok nx w' =>
      have h1 := hx u0 h0
      cases nx <;> simp only [rUpon] at h1 hx ⊢
      case value x => exact ⟨h1.1, fun u hu => (hx u hu).2⟩
      case enter f args =>
        refine ⟨h1.1, ?_, h1.2.2⟩
        funext v w
        refine propext ⟨fun hh => ?_, fun hh u hu => ?_⟩
        · have := hh u0 h0; rw [h1.2.1] at this; exact this
        · rw [(hx u hu).2.1]; exact hh
    | halt x w' => exact absurd (hx u0 h0) (by simp only [rUpon]; exact id)
  | false =>
    have hl : ∀ u, V u → Rc u = fun v _ => v = undef := fun u hu => by
      rcases h u hu with h1 | h1
      · rw [hwt] at h1; exact absurd h1.1 (by decide)
      · exact h1.2
    refine .inr ⟨hwt, ?_⟩
    funext v w
    refine propext ⟨fun hh => ?_, fun hh u hu => ?_⟩
    · have := hh u0 h0; rw [hl u0 h0] at this; exact this
    · rw [hl u hu]; exact hh

/-- An operation that may come up may be taken first. -/
theorem anyS_first (hE : Stb E0) {n i : Nat} {oi : Oper} {L : Array Bool → Act → (Nat → World → Prop) → Prop} (hi : ops[i]? = some oi) (hsel : ∀ (j : Nat) (o : Oper) cs b, ops[j]? = some o → o.op ≠ .select cs b)
    (hlt : ∀ listed, HeadInv md ops n listed → listed.getD i true = false → ∀ j ∈ Region.ready md ops listed, j < n) (hin : i < n)
    (hL : ∀ listed a F F', (∀ k w, F' k w → F k w) → L listed a F → L listed a F')
    (hdone : ∀ listed a F, L listed a F → ∀ j ∈ Region.ready md ops listed, n ≤ j) :
    ∀ (f : Nat) (listed : Array Bool) (a : Act) (F : Nat → World → Prop) (R : Value → World → Prop), HeadInv md ops n listed →
      (∀ j oj, ops[j]? = some oj → j ≠ i → listed.getD j true = false → (∀ e ∈ oj.after, Region.binds md e = true → e.on ≠ i) → oi.apart ops oj = true) →
      i ∈ Region.ready md ops listed → (∀ k, Stb (F k)) → (∃ w, E0 w ∧ ∀ k, F k w) → (∀ k w, listed.getD k false = false → F k w) → Gives P md ops S E0 F oi a R →
      (∀ u, Val E0 F R u → anyS P md ops S E0 n L f (listed.setIfInBounds i true) (a.put oi.dst u) (up F i (R u))) → anyS P md ops S E0 n L (f + 1) listed a F := by
  classical
  intro f
  induction f with
  | zero =>
    intro listed a F R inv _ hr hF hinh hT hy H
    have hun := (mem_ready.1 hr).1
    refine ⟨fun h => (by rw [h] at hr; cases hr), fun j hj => ?_⟩
    have hjn := hlt listed inv hun j hj
    refine ⟨hjn, ?_⟩
    by_cases hji : j = i
    · subst hji; exact ⟨oi, hi, R, hy, H⟩
    · obtain ⟨u, hu⟩ := hy.inh hE hF hinh
      have := hdone _ _ _ (H u hu) j (ready_mono hj hji)
      omega
  | succ f ih =>
    intro listed a F R inv hfree hr hF hinh hT hy H
    have hun := (mem_ready.1 hr).1
    refine ⟨fun h => (by rw [h] at hr; cases hr), fun j hj => ?_⟩
    have hjn := hlt listed inv hun j hj
    refine ⟨hjn, ?_⟩
    by_cases hji : j = i
    · subst hji; exact ⟨oi, hi, R, hy, H⟩
    · obtain ⟨hjun, oj, hoj, hall⟩ := mem_ready.1 hj
      obtain ⟨_, oi', hoi', halli⟩ := mem_ready.1 hr
      obtain rfl : oi' = oi := Option.some.inj (hoi'.symm.trans hi)
      have hnot : ∀ e ∈ oj.after, Region.binds md e = true → e.on ≠ i := fun e he hb heq => by
        have h1 := hall e he hb
        rw [heq, getD_both hun] at h1
        cases h1
      have hnoti : ∀ e ∈ oi'.after, Region.binds md e = true → e.on ≠ j := fun e he hb heq => by
        have h1 := halli e he hb
        rw [heq, getD_both hjun] at h1
        cases h1
      have hap := hfree j oj hoj hji hjun hnot
      have hsi : ∀ cs b, oi'.op ≠ .select cs b := fun cs b => hsel i oi' cs b hi
      have hsj : ∀ cs b, oj.op ≠ .select cs b := fun cs b => hsel j oj cs b hoj
      have hfree' : ∀ k ok, ops[k]? = some ok → k ≠ i → (listed.setIfInBounds j true).getD k true = false →
          (∀ e ∈ ok.after, Region.binds md e = true → e.on ≠ i) → oi'.apart ops ok = true := fun k ok hk hki hun' hno => by
        refine hfree k ok hk hki ?_ hno
        by_cases hjk : j = k
        · subst hjk; exact hjun
        · rw [getD_set_ne true hjk] at hun'; exact hun'
      have hd := (Oper.apart_spec hap).2.1
      have hjf := getD_both hjun
      -- what j yields, whatever i has yielded
      have hc : ∀ u, Val E0 F R u → ∃ Rj : Value → World → Prop, Gives P md ops S E0 F oj a Rj ∧ ∀ v, Val E0 (up F i (R u)) Rj v → anyS P md ops S E0 n L f ((listed.setIfInBounds i true).setIfInBounds j true) ((a.put oi'.dst u).put oj.dst v) (up (up F i (R u)) j (Rj v)) := by
        intro u hu
        obtain ⟨oj', hoj', Rj, hg, hk⟩ := ((H u hu).2 j (ready_mono hj hji)).2
        obtain rfl : oj' = oj := Option.some.inj (hoj'.symm.trans hoj)
        exact ⟨Rj, (hg.unput hap hsj).facts fun e he hb => (up_ne _ _ (hnot e he hb)).symm, hk⟩
      obtain ⟨u0, hu0⟩ := hy.inh hE hF hinh
      let Rc : Value → Value → World → Prop := fun u => if hu : Val E0 F R u then Classical.choose (hc u hu) else fun _ _ => True
      have hRc : ∀ u (hu : Val E0 F R u), Gives P md ops S E0 F oj a (Rc u) ∧ ∀ v, Val E0 (up F i (R u)) (Rc u) v → anyS P md ops S E0 n L f ((listed.setIfInBounds i true).setIfInBounds j true) ((a.put oi'.dst u).put oj.dst v) (up (up F i (R u)) j (Rc u v)) := by
        intro u hu
        have := Classical.choose_spec (hc u hu)
        simp only [Rc, dif_pos hu]
        exact this
      have hG := Gives.all (V := Val E0 F R) u0 hu0 fun u hu => (hRc u hu).1
      refine ⟨oj, hoj, _, hG, fun v hv => ?_⟩
      have hv' := hv
      obtain ⟨wv, hv1, hv2, hv3⟩ := hv
      refine ih (listed.setIfInBounds j true) (a.put oj.dst v) _ R (inv.set hj hjn) hfree' (ready_mono hr (Ne.symm hji)) (up_stb hF (hG.stb v)) ⟨wv, hv1, up_all hv2 hv3⟩ ?_ ((hy.put hap hsi).facts fun e he hb => up_ne _ _ (hnoti e he hb)) ?_
      · intro k w hk
        by_cases hkj : k = j
        · subst hkj
          have : k < listed.size := by rw [inv.size]; exact (Array.getElem?_eq_some_iff.1 hoj).1
          simp [this] at hk
        · rw [up_ne _ _ hkj]
          rw [getD_set_ne false (Ne.symm hkj)] at hk
          exact hT k w hk
      · rintro u ⟨w, h1, h2, h3⟩
        have hFw : ∀ k, F k w := fun k => by
          by_cases hkj : k = j
          · subst hkj; exact hT k w hjf
          · have := h2 k; rwa [up_ne _ _ hkj] at this
        have hRw : ∀ u, Val E0 F R u → Rc u v w := by have := h2 j; rwa [up_same] at this
        have hu : Val E0 F R u := ⟨w, h1, hFw, h3⟩
        have hk := (hRc u hu).2 v ⟨w, h1, up_all hFw h3, hRw u hu⟩
        rw [Array.setIfInBounds_comm _ _ hji, ← Act.put_comm a u v hd]
        refine anyS_mono hL f _ _ _ _ ?_ hk
        intro k w' hh
        by_cases hki : k = i
        · subst hki
          rw [up_same] at hh
          rw [up_ne _ _ (Ne.symm hji), up_same]
          exact hh
        · rw [up_ne _ _ hki] at hh
          by_cases hkj : k = j
          · subst hkj
            rw [up_same] at hh ⊢
            exact hh u hu
          · rw [up_ne _ _ hkj] at hh
            rw [up_ne _ _ hkj, up_ne _ _ hki]
            exact hh

/-! ### the walk in the text's order -/
def wpW (P : Program) (md : Region.Mode) (ops : Array Oper) (S : FuncId → Array Value → Value → World → Prop) (E0 : World → Prop) (Q : Act → (Nat → World → Prop) → Prop) : Nat → List Oper → Act → (Nat → World → Prop) → Prop
  | _, [], a, F => Q a F
  | k, o :: rest, a, F => ∃ R, Gives P md ops S E0 F o a R ∧ ∀ u, Val E0 F R u → wpW P md ops S E0 Q (k + 1) rest (a.put o.dst u) (up F k (R u))

theorem anyS_lex (hE : Stb E0) {n g : Nat} {Lq : Act → (Nat → World → Prop) → Prop} (hLq : ∀ a F F', (∀ k w, F' k w → F k w) → Lq a F → Lq a F') (hsel : Region.noSelect ops = true) (hnsz : n ≤ ops.size)
    (hlt : ∀ i, i < n → ∀ listed, HeadInv md ops n listed → listed.getD i true = false → ∀ j ∈ Region.ready md ops listed, j < n) :
    ∀ (l : List Oper) (k : Nat) (listed : Array Bool) (a : Act) (F : Nat → World → Prop), (∀ j, j < l.length → l[j]? = ops[k + j]?) → k + l.length = n → HeadInv md ops n listed →
    (∀ k, Stb (F k)) → (∃ w, E0 w ∧ ∀ k, F k w) → (∀ k w, listed.getD k false = false → F k w) →
    Region.lexHead md ops g l.length k listed = true → wpW P md ops S E0 Lq k l a F →
    anyS P md ops S E0 n (fun listed' a' F' => Region.seqB md ops g n listed' = true ∧ Lq a' F') l.length listed a F
  | [], k, listed, a, F, _, hk, _, _, _, _, hB, h => by
    have : k = n := by simpa using hk
    subst this
    exact ⟨by simpa [Region.lexHead] using hB, h⟩
  | o :: l, k, listed, a, F, hl, hk, inv, hF, hinh, hT, hB, h => by
    have h0 : ops[k]? = some o := by simpa using (hl 0 (by simp)).symm
    simp only [List.length_cons, Region.lexHead, Bool.and_eq_true] at hB
    obtain ⟨⟨hr, hf⟩, hB'⟩ := hB
    have hkn : k < n := by simp only [List.length_cons] at hk; omega
    have hr' : k ∈ Region.ready md ops listed := by simpa using hr
    obtain ⟨R, hg, hK⟩ := h
    refine anyS_first hE h0 (Region.noSelect_spec hsel) (hlt k hkn) hkn (fun listed a F F' hF h => ⟨h.1, hLq _ _ _ hF h.2⟩) (fun listed' a' F' hL => seqB_ready hL.1) l.length listed a F R inv (Region.free_spec h0 hf) hr' hF hinh hT hg ?_
    rintro u ⟨w, h1, h2, h3⟩
    refine anyS_lex hE hLq hsel hnsz hlt l (k + 1) _ _ _ (fun j hj => by have := hl (j + 1) (by simp; omega); simpa [Nat.add_assoc, Nat.add_comm 1 j] using this) (by simp only [List.length_cons] at hk; omega) (inv.set hr' hkn) (up_stb hF (hg.stb u)) ⟨w, h1, up_all h2 h3⟩ ?_ hB' (hK u ⟨w, h1, h2, h3⟩)
    intro j w' hj
    by_cases hjk : j = k
    · subst hjk
      have : j < listed.size := by rw [inv.size]; omega
      simp [this] at hj
    · rw [up_ne _ _ hjk]
      rw [getD_set_ne false (Ne.symm hjk)] at hj
      exact hT j w' hj

/-- **The head in the text's order; then the tail.** -/
theorem wp_region_tail {id : Nat} {Q : Exit → Act → World → Prop} {a : Act} {w : World} {l : List Oper} (S : FuncId → Array Value → Value → World → Prop) (E0 : World → Prop) (hE : Stb E0) (n : Nat) (hm : P.follows .mixedOrders = true) (hB : Region.lexTailB .any l.toArray n = true)
    (hw : E0 w.drew) (h : wpW P .any l.toArray S E0 (fun a' F => ∀ w', E0 w' → (∀ k, F k w') → wpList P l.toArray Q (l.drop n) a' w') 0 (l.take n) a (fun _ _ => True)) : (Code.region id l.toArray true).wp P Q a w := by
  simp only [Region.lexTailB, Bool.and_eq_true, decide_eq_true_eq] at hB
  obtain ⟨⟨⟨⟨hsel, hn⟩, hs⟩, hc⟩, hlex⟩ := hB
  have hn' : n < l.length := by simpa using hn
  have htl : (l.take n).length = n := by simp; omega
  have hdl : (l.drop n).length = l.toArray.size - n := by simp
  have inv0 : HeadInv .any l.toArray n (Array.replicate l.toArray.size false) :=
    ⟨by simp, fun j oj _ hl => (by rw [getD_replicate_false] at hl; cases hl), fun t _ ht => getD_in (by simpa using ht) (getD_replicate_false _ _)⟩
  have H := anyS_lex (md := .any) (g := l.toArray.size - n) hE (Lq := fun a' F => ∀ w', E0 w' → (∀ k, F k w') → wpList P l.toArray Q (l.drop n) a' w') (fun a F F' hF h w' h1 h2 => h w' h1 fun k => hF k _ (h2 k)) hsel (Nat.le_of_lt hn)
    (fun i hin listed inv hun j hj => (Nat.lt_or_ge j n).resolve_right fun h => absurd hj (tail_waits hs hc hn inv _ i rfl hin hun j h)) (l.take n) 0 _ a (fun _ _ => True) (fun j hj => by
      have hj' : j < n := by rw [htl] at hj; exact hj
      simp [hj']) (by simpa using htl) inv0 (fun _ _ _ _ _ => trivial) ⟨_, hw, fun _ => trivial⟩ (fun _ _ _ => trivial) (by rw [htl]; exact hlex) h
  refine wp_region_any hm ?_
  have := any_of_S (Q' := Q) (g := l.toArray.size - n) hE (fun listed a' F w' _ hw' hk hL => by
    have := wpAny_of_seq (md := .any) (Q' := Q) (l.drop n) n listed a' w' (fun j => by simp [List.getElem?_drop]) (by rw [hdl]; exact hL.1) (hL.2 w' hw' hk)
    rwa [hdl] at this) _ _ _ _ _ (fun _ _ _ _ _ => trivial) hw (fun _ => trivial) H
  rw [htl, show n + (l.toArray.size - n) = l.toArray.size by omega] at this
  exact this
def lexAllB (ops : Array Oper) : Bool := Region.noSelect ops && Region.lexHead .any ops 0 ops.size 0 (Array.replicate ops.size false)
/-- A region that has no tail. -/
theorem wp_region_all {id : Nat} {Q : Exit → Act → World → Prop} {a : Act} {w : World} {l : List Oper} (S : FuncId → Array Value → Value → World → Prop) (E0 : World → Prop) (hE : Stb E0) (hm : P.follows .mixedOrders = true) (hB : lexAllB l.toArray = true)
    (hw : E0 w.drew) (h : wpW P .any l.toArray S E0 (fun a' F => ∀ w', E0 w' → (∀ k, F k w') → Q .normal a' w') 0 l a (fun _ _ => True)) : (Code.region id l.toArray true).wp P Q a w := by
  simp only [lexAllB, Bool.and_eq_true] at hB
  obtain ⟨hsel, hlex⟩ := hB
  have inv0 : HeadInv .any l.toArray l.toArray.size (Array.replicate l.toArray.size false) :=
    ⟨by simp, fun j oj _ hl => (by rw [getD_replicate_false] at hl; cases hl), fun t h1 h2 => by omega⟩
  have H := anyS_lex (md := .any) (g := 0) hE (Lq := fun a' F => ∀ w', E0 w' → (∀ k, F k w') → Q .normal a' w') (fun a F F' hF h w' h1 h2 => h w' h1 fun k => hF k _ (h2 k)) hsel (Nat.le_refl _)
    (fun i hin listed inv hun j hj => by
      obtain ⟨_, oj, hoj, _⟩ := mem_ready.1 hj
      exact (Array.getElem?_eq_some_iff.1 hoj).1) l 0 _ a (fun _ _ => True) (fun j hj => by simp) (by simp) inv0 (fun _ _ _ _ _ => trivial) ⟨_, hw, fun _ => trivial⟩ (fun _ _ _ => trivial) (by simpa using hlex) h
  refine wp_region_any hm ?_
  have := any_of_S (Q' := Q) (g := 0) hE (fun listed a' F w' _ hw' hk hL => by
    refine ⟨?_, hL.2 w' hw' hk⟩
    simpa [Region.seqB] using hL.1) _ _ _ _ _ (fun _ _ _ _ _ => trivial) hw (fun _ => trivial) H
  rw [Nat.add_zero] at this
  simpa using this

/-! ### one operation -/
variable {Q : Act → (Nat → World → Prop) → Prop} {F : Nat → World → Prop} {a : Act} {o : Oper} {rest : List Oper} {k : Nat}
theorem wpW_mono (hQ : ∀ a F F', (∀ k w, F' k w → F k w) → Q a F → Q a F') : ∀ (l : List Oper) (k : Nat) (a : Act) (F F' : Nat → World → Prop), (∀ k w, F' k w → F k w) → wpW P md ops S E0 Q k l a F → wpW P md ops S E0 Q k l a F'
  | [], _, _, _, _, hF, h => hQ _ _ _ hF h
  | o :: l, k, a, F, F', hF, h => by
    obtain ⟨R, hg, hk⟩ := h
    exact ⟨R, hg.mono hF, fun u hu => wpW_mono hQ l (k + 1) _ _ _ (up_mono hF k (R u)) (hk u (by obtain ⟨w, h1, h2, h3⟩ := hu; exact ⟨w, h1, fun k => hF _ _ (h2 k), h3⟩))⟩
/-- The walk's post, as the two theorems have it. -/
structure Mon (Q : Act → (Nat → World → Prop) → Prop) : Prop where mk ::
  out : ∀ a F F', (∀ k w, F' k w → F k w) → Q a F → Q a F'
theorem w_nil (h : Q a F) : wpW P md ops S E0 Q k [] a F := h
theorem wanted_none (h : o.guard = none) : Region.wanted o (yielded ops a.tmps) = true := by simp [Region.wanted, h]
/-- What operation i has told, to one that waits for it. -/
theorem fact {w : World} (hp : ∀ e ∈ o.after, Region.binds md e = true → F e.on w) (i : Nat) (h : (o.after.toList.any fun e => e.on == i && Region.binds md e) = true) : F i w := by
  obtain ⟨e, he, h2⟩ := List.any_eq_true.1 h
  simp only [Bool.and_eq_true, beq_iff_eq] at h2
  have := hp e (by simpa using he) h2.2
  rwa [h2.1] at this
/-- One value, found by running it. -/
theorem w_val (hQ : Mon Q) (hFk : ∀ w, F k w) (hw : Region.wanted o (yielded ops a.tmps) = true)
    (h : ∃ v, (∀ w, E0 w → (∀ e ∈ o.after, Region.binds md e = true → F e.on w) → (execOp a.eval o).run P w = .ok (.value v) w) ∧ ∀ K : Act → Prop, (∀ a, wpW P md ops S E0 Q (k + 1) rest a F → K a) → K (a.put o.dst v)) : wpW P md ops S E0 Q k (o :: rest) a F := by
  obtain ⟨v, hr, h⟩ := h
  refine ⟨fun u _ => u = v, .inl ⟨hw, fun u w w' e _ => e, fun w hw hp => by rw [hr w hw hp]; exact ⟨Below.refl _ _, rfl⟩⟩, ?_⟩
  rintro u ⟨w, _, _, rfl⟩
  exact h _ fun a hh => wpW_mono hQ.out rest (k + 1) a F _ (fun j w' hj => by
    by_cases hjk : j = k
    · subst hjk; exact hFk w'
    · rwa [up_ne _ _ hjk] at hj) hh
theorem w_skip (hQ : Mon Q) (hFk : ∀ w, F k w) (hw : Region.wanted o (yielded ops a.tmps) = false)
    (h : ∀ K : Act → Prop, (∀ a, wpW P md ops S E0 Q (k + 1) rest a F → K a) → K (a.put o.dst undef)) : wpW P md ops S E0 Q k (o :: rest) a F := by
  refine ⟨fun u _ => u = undef, .inr ⟨hw, rfl⟩, ?_⟩
  rintro u ⟨w, _, _, rfl⟩
  exact h _ fun a hh => wpW_mono hQ.out rest (k + 1) a F _ (fun j w' hj => by
    by_cases hjk : j = k
    · subst hjk; exact hFk w'
    · rwa [up_ne _ _ hjk] at hj) hh
/-- A call whose result S tells. -/
theorem w_call (hw : Region.wanted o (yielded ops a.tmps) = true)
    (h : ∃ f args, (∀ w, (execOp a.eval o).run P w = .ok (.enter f args) w) ∧ (∀ u, Stb (S f args u)) ∧
      (∀ w, E0 w → (∀ e ∈ o.after, Region.binds md e = true → F e.on w) → Calls P f args w (fun e w'' => ∃ u, e = .returned u ∧ Below w.heap.size w w'' ∧ S f args u w'')) ∧
      ∀ u, Val E0 F (S f args) u → ∀ K : Act → Prop, (∀ a, wpW P md ops S E0 Q (k + 1) rest a (up F k (S f args u)) → K a) → K (a.put o.dst u)) : wpW P md ops S E0 Q k (o :: rest) a F := by
  obtain ⟨f, args, hr, hs, hc, h⟩ := h
  exact ⟨S f args, .inl ⟨hw, hs, fun w hw hp => by rw [hr w]; exact ⟨rfl, rfl, hc w hw hp⟩⟩, fun u hu => h u hu _ fun a hh => hh⟩
end
end Go.Proofs.YtmilpfccgggmkaaDoor.Qw

/- The head's operations, a guard ahead of them or none. Any program. -/
namespace Go.Proofs.YtmilpfccgggmkaaDoor.Qg
open Go.RowKit
set_option linter.unusedVariables false
section
variable {P : Program} {ops : Array Oper} {C : World → Prop} {Q : Act → Prop} {a : Act} {o : Oper} {rest : List Oper}
theorem q_val (hw : Region.wanted o (yielded ops a.tmps) = true)
    (h : ∃ v, (∀ w, C w → (execOp a.eval o).run P w = .ok (.value v) w) ∧ ∀ K : Act → Prop, (∀ a, wpQuiet P ops C Q rest a → K a) → K (a.put o.dst v)) : wpQuiet P ops C Q (o :: rest) a := by
  obtain ⟨v, hr, h⟩ := h
  refine wpQuiet_step fun K hK => ?_
  rw [if_pos hw]
  refine ⟨v, fun w hw => ?_, h K hK⟩
  unfold Oper.quietAt
  rw [hr w hw]
  exact ⟨rfl, rfl⟩
theorem q_call (hw : Region.wanted o (yielded ops a.tmps) = true)
    (h : ∃ f args, (∀ w, (execOp a.eval o).run P w = .ok (.enter f args) w) ∧ ∃ v, (∀ w, C w → Calls P f args w fun e w' => e = .returned v ∧ C w') ∧
      ∀ K : Act → Prop, (∀ a, wpQuiet P ops C Q rest a → K a) → K (a.put o.dst v)) : wpQuiet P ops C Q (o :: rest) a := by
  obtain ⟨f, args, hr, v, hc, h⟩ := h
  refine wpQuiet_step fun K hK => ?_
  rw [if_pos hw]
  refine ⟨v, fun w hw => ?_, h K hK⟩
  unfold Oper.quietAt
  rw [hr w]
  exact ⟨rfl, hc w hw⟩
theorem q_skip (hw : Region.wanted o (yielded ops a.tmps) = false) (h : ∀ K : Act → Prop, (∀ a, wpQuiet P ops C Q rest a → K a) → K (a.put o.dst undef)) : wpQuiet P ops C Q (o :: rest) a := by
  refine wpQuiet_step fun K hK => ?_
  rw [if_neg (by rw [hw]; decide)]
  exact h K hK
theorem wanted_on {j d : Nat} {b : Bool} (hg : o.guard = some (j, b)) (hd : (ops[j]?).bind (·.dst) = some d) (hv : a.tmps[d]? = some (.bool b)) : Region.wanted o (yielded ops a.tmps) = true := by
  simp [Region.wanted, yielded, hg, hd, hv]
theorem wanted_off {j d : Nat} {b : Bool} (hg : o.guard = some (j, b)) (hd : (ops[j]?).bind (·.dst) = some d) (hv : a.tmps[d]? = some (.bool (!b))) : Region.wanted o (yielded ops a.tmps) = false := by
  simp [Region.wanted, yielded, hg, hd, hv]
theorem wanted_never {j d : Nat} {b : Bool} (hg : o.guard = some (j, b)) (hd : (ops[j]?).bind (·.dst) = some d) (hv : a.tmps[d]? = some undef) : Region.wanted o (yielded ops a.tmps) = false := by
  simp [Region.wanted, yielded, hg, hd, hv, undef]
/-- A guard that lets by. -/
theorem on_val {j d : Nat} {b : Bool} (hg : o.guard = some (j, b)) (hd : (ops[j]?).bind (·.dst) = some d) (hv : a.tmps[d]? = some (.bool b))
    (h : ∃ v, (∀ w, C w → (execOp a.eval o).run P w = .ok (.value v) w) ∧ ∀ K : Act → Prop, (∀ a, wpQuiet P ops C Q rest a → K a) → K (a.put o.dst v)) : wpQuiet P ops C Q (o :: rest) a :=
  q_val (wanted_on hg hd hv) h
theorem on_call {j d : Nat} {b : Bool} (hg : o.guard = some (j, b)) (hd : (ops[j]?).bind (·.dst) = some d) (hv : a.tmps[d]? = some (.bool b))
    (h : ∃ f args, (∀ w, (execOp a.eval o).run P w = .ok (.enter f args) w) ∧ ∃ v, (∀ w, C w → Calls P f args w fun e w' => e = .returned v ∧ C w') ∧
      ∀ K : Act → Prop, (∀ a, wpQuiet P ops C Q rest a → K a) → K (a.put o.dst v)) : wpQuiet P ops C Q (o :: rest) a :=
  q_call (wanted_on hg hd hv) h
theorem off {j d : Nat} {b : Bool} (hg : o.guard = some (j, b)) (hd : (ops[j]?).bind (·.dst) = some d) (hv : a.tmps[d]? = some (.bool (!b)))
    (h : ∀ K : Act → Prop, (∀ a, wpQuiet P ops C Q rest a → K a) → K (a.put o.dst undef)) : wpQuiet P ops C Q (o :: rest) a :=
  q_skip (wanted_off hg hd hv) h
/-- A guard that was not reckoned itself. -/
theorem never {j d : Nat} {b : Bool} (hg : o.guard = some (j, b)) (hd : (ops[j]?).bind (·.dst) = some d) (hv : a.tmps[d]? = some undef)
    (h : ∀ K : Act → Prop, (∀ a, wpQuiet P ops C Q rest a → K a) → K (a.put o.dst undef)) : wpQuiet P ops C Q (o :: rest) a :=
  q_skip (wanted_never hg hd hv) h
theorem on_val' (h : ∃ j b d, o.guard = some (j, b) ∧ (ops[j]?).bind (·.dst) = some d ∧ a.tmps[d]? = some (.bool b) ∧
      ∃ v, (∀ w, C w → (execOp a.eval o).run P w = .ok (.value v) w) ∧ ∀ K : Act → Prop, (∀ a, wpQuiet P ops C Q rest a → K a) → K (a.put o.dst v)) : wpQuiet P ops C Q (o :: rest) a := by
  obtain ⟨j, b, d, hg, hd, hv, h⟩ := h
  exact on_val hg hd hv h
theorem on_call' (h : ∃ j b d, o.guard = some (j, b) ∧ (ops[j]?).bind (·.dst) = some d ∧ a.tmps[d]? = some (.bool b) ∧
      ∃ f args, (∀ w, (execOp a.eval o).run P w = .ok (.enter f args) w) ∧ ∃ v, (∀ w, C w → Calls P f args w fun e w' => e = .returned v ∧ C w') ∧
      ∀ K : Act → Prop, (∀ a, wpQuiet P ops C Q rest a → K a) → K (a.put o.dst v)) : wpQuiet P ops C Q (o :: rest) a := by
  obtain ⟨j, b, d, hg, hd, hv, h⟩ := h
  exact on_call hg hd hv h
theorem off' (h : ∃ j b d, o.guard = some (j, b) ∧ (ops[j]?).bind (·.dst) = some d ∧ a.tmps[d]? = some (.bool (!b)) ∧
      ∀ K : Act → Prop, (∀ a, wpQuiet P ops C Q rest a → K a) → K (a.put o.dst undef)) : wpQuiet P ops C Q (o :: rest) a := by
  obtain ⟨j, b, d, hg, hd, hv, h⟩ := h
  exact off hg hd hv h
theorem never' (h : ∃ j b d, o.guard = some (j, b) ∧ (ops[j]?).bind (·.dst) = some d ∧ a.tmps[d]? = some undef ∧
      ∀ K : Act → Prop, (∀ a, wpQuiet P ops C Q rest a → K a) → K (a.put o.dst undef)) : wpQuiet P ops C Q (o :: rest) a := by
  obtain ⟨j, b, d, hg, hd, hv, h⟩ := h
  exact never hg hd hv h
end
end Go.Proofs.YtmilpfccgggmkaaDoor.Qg

/- A failed In: every further value is 0, empty or false, and nothing turns. -/
namespace Go.Proofs.YtmilpfccgggmkaaDoor.Knt
open Go.RowKit Go.Proofs.YtmilpfccgggmkaaDoorW.PrintWords Go.Proofs.YtmilpfccgggmkaaDoor.Arr
set_option linter.unusedVariables false
set_option linter.unusedSimpArgs false

abbrev TS : TypeId := 40
abbrev TT : TypeId := 42
abbrev ee : Value := .string ⟨#[]⟩
theorem same_below {w w1 : World} {g : Nat} {T : TypeId} {cs : Array Value} (h : Blk w g T cs) (h1 : Blk w1 g T cs) (ho : Only [g] w w1) : Below w.heap.size w w1 :=
  ⟨ho.os, ho.tape, ho.output, ho.size, fun k hk => by
    by_cases e : k = g
    · subst e; rw [h.out, h1.out]
    · exact ho.block k hk (by simpa using e)⟩
theorem numF_calls (g : Nat) (most : Int) (w : World) (h : IBlk w g [] true) :
    Calls Tryd.prog 24 #[.pointer (some ⟨g, 0, none⟩), .int .i64 most] w fun e w' => e = .returned (.int .i64 0) ∧ Below w.heap.size w w' := by
  have K := inum_calls g [] (by simp) true most w h
  rw [show numP most [] = none from rfl] at K
  refine K.mono ?_
  rintro e w' ⟨rfl, hi, ho⟩
  exact ⟨rfl, same_below h hi ho⟩
theorem failF_calls (g : Nat) (w : World) (h : IBlk w g [] true) :
    Calls Tryd.prog 37 #[.pointer (some ⟨g, 0, none⟩)] w fun e w' => e = .returned (.tuple #[]) ∧ Below w.heap.size w w' := by
  refine (fail_calls g [] true w h).mono ?_
  rintro e w' ⟨rfl, hi, ho⟩
  exact ⟨rfl, same_below h hi ho⟩
set_option maxHeartbeats 1000000 in
theorem textF_calls (g : Nat) (most : Int) (w : World) (h : IBlk w g [] true) :
    Calls Tryd.prog 25 #[.pointer (some ⟨g, 0, none⟩), .int .i64 most] w fun e w' => e = .returned ee ∧ Below w.heap.size w w' := by
  have H := Aside0.mk h
  clear h
  have HB0 := Aside0.mk (Below.refl w.heap.size w)
  go_enter Tryd.func25, Tryd.ntmps25
  (go_wp2_with fail; refine (numF_calls g most w H.out).mono ?_; rintro e w1 ⟨rfl, hb1⟩; have HB1 := Aside0.mk (HB0.out.trans (hb1.mono HB0.out.size)); clear hb1)
  have H1 := Aside0.mk (H.out.below HB1.out)
  have c0 := H1.out.cell 0
  have hlt := H1.out.lt
  rw [str_nil] at c0
  (go_wp2_with fail; refine (failF_calls g w1 H1.out).mono ?_; rintro e w2 ⟨rfl, hb2⟩; have HB2 := Aside0.mk (HB1.out.trans (hb2.mono HB1.out.size)); clear hb2)
  go_wp2
  go_ret
  exact ⟨rfl, HB2.out⟩
theorem leftF_calls (g : Nat) (w : World) (h : IBlk w g [] true) :
    Calls Tryd.prog 30 #[.pointer (some ⟨g, 0, none⟩)] w fun e w' => e = .returned (.int .i64 0) ∧ Below w.heap.size w w' := by
  have c0 := h.cell 0
  have hlt := h.lt
  rw [str_nil] at c0
  clear h
  go_enter Tryd.func30, Tryd.ntmps30
  go_wp2
  go_ret
  exact ⟨rfl, Below.refl _ _⟩
theorem endF_calls (g : Nat) (w : World) (h : IBlk w g [] true) :
    Calls Tryd.prog 31 #[.pointer (some ⟨g, 0, none⟩)] w fun e w' => e = .returned (.int .i64 2) ∧ Below w.heap.size w w' := by
  refine (end_calls g [] true w h).mono ?_
  rintro e w' ⟨rfl, rfl⟩
  exact ⟨rfl, Below.refl _ _⟩
set_option maxHeartbeats 1000000 in
theorem markF_calls (g : Nat) (w : World) (h : IBlk w g [] true) :
    Calls Tryd.prog 26 #[.pointer (some ⟨g, 0, none⟩)] w fun e w' => e = .returned (.bool false) ∧ Below w.heap.size w w' := by
  have H := Aside0.mk h
  have c0 := h.cell 0
  have hlt := h.lt
  rw [str_nil] at c0
  clear h
  go_enter Tryd.func26, Tryd.ntmps26
  go_wp2
  go_loopw [] (fun wr => wr.heap[w.heap.size]? = some (.stringIter ⟨#[]⟩ 0) ∧ Aside0 (Below w.heap.size w wr)) (fun _ => 0)
  case atStart => exact ⟨World.iter_heap w _ 0, ⟨(Below.refl _ _).alloc (Nat.le_refl _) _⟩⟩
  case round =>
    obtain ⟨hit, HB0⟩ := hrel
    have hnx : ∀ ty, (Instr.next (.pointer (some ⟨w.heap.size, 0, none⟩)) true ty).run Tryd.prog wr = _ := fun ty => Lib.run_next_end_at wr w.heap.size ⟨#[]⟩ 0 ty hit (by decide)
    have H1 := Aside0.mk (H.out.below HB0.out)
    clear hit
    (go_wp2_with fail; refine (failF_calls g wr H1.out).mono ?_; rintro e w1 ⟨rfl, hb1⟩; have HB1 := Aside0.mk (HB0.out.trans (hb1.mono HB0.out.size)); clear hb1)
    go_wp2
    go_ret
    exact ⟨rfl, HB1.out⟩
/-- Three cells of a Subject, stored anew. -/
abbrev three (W : World) (g : Nat) (x y z : Value) : World := ((W.setCell ⟨g, 0, none⟩ x).setCell ⟨g, 1, none⟩ y).setCell ⟨g, 2, none⟩ z
theorem three_blk {W : World} {g : Nat} {T : TypeId} {x0 y0 z0 : Value} (h : Blk W g T #[x0, y0, z0]) (x y z : Value) : Blk (three W g x y z) g T #[x, y, z] :=
  ((h.set 0 x).set 1 y).set 2 z
theorem three_below {W v : World} {g B : Nat} (h : Below B v W) (hg : B ≤ g) (x y z : Value) : Below B v (three W g x y z) :=
  ((h.setCell (by simpa using hg) _).setCell (by simpa using hg) _).setCell (by simpa using hg) _
set_option maxHeartbeats 2000000 in
theorem partsF_calls (g : Nat) (w : World) (h : IBlk w g [] true) :
    Calls Tryd.prog 38 #[.pointer (some ⟨g, 0, none⟩)] w fun e w' => e = .returned (.agg #[ee, ee, ee]) ∧ Below w.heap.size w w' := by
  have HB0 := Aside0.mk ((Below.refl w.heap.size w).alloc (Nat.le_refl _) (.cells #[ee, ee, ee] TS))
  have R0 := Aside0.mk (Blk.new w TS #[ee, ee, ee])
  have H0 := Aside0.mk (h.alloc (.cells #[ee, ee, ee] TS))
  clear h
  go_enter Tryd.func38, Tryd.ntmps38
  go_wp2_with fail
  refine (textF_calls g 16 _ H0.out).mono ?_
  rintro e w1 ⟨rfl, hb1⟩
  have hne : g ≠ w.heap.size := by have := H0.out.ne R0.out (by decide); exact this
  have f := R0.out.below hb1
  have HB1 := Aside0.mk ((HB0.out.trans (hb1.mono HB0.out.size)).setCell (p := ⟨w.heap.size, 0, none⟩) (Nat.le_refl _) ee)
  have R1 := Aside0.mk (f.set 0 ee)
  have H1 := Aside0.mk ((H0.out.below hb1).far (p := ⟨w.heap.size, 0, none⟩) hne ee)
  have f0 := f.frozen 0
  have d0 : w1.cell? ⟨w.heap.size, 0, none⟩ = some ee := f.cell 0
  have l0 := f.lt
  clear hb1 f
  go_wp2_with fail
  refine (textF_calls g 96 _ H1.out).mono ?_
  rintro e w2 ⟨rfl, hb2⟩
  clear f0 l0 d0
  have f := R1.out.below hb2
  have HB2 := Aside0.mk ((HB1.out.trans (hb2.mono HB1.out.size)).setCell (p := ⟨w.heap.size, 1, none⟩) (Nat.le_refl _) ee)
  have R2 := Aside0.mk (f.set 1 ee)
  have H2 := Aside0.mk ((H1.out.below hb2).far (p := ⟨w.heap.size, 1, none⟩) hne ee)
  have f0 := f.frozen 1
  have d0 : w2.cell? ⟨w.heap.size, 1, none⟩ = some ee := f.cell 1
  have l0 := f.lt
  clear hb2 f
  go_wp2_with fail
  refine (textF_calls g 16 _ H2.out).mono ?_
  rintro e w3 ⟨rfl, hb3⟩
  clear f0 l0 d0
  have f : Blk w3 w.heap.size TS #[ee, ee, ee] := R2.out.below hb3
  have HB3 := Aside0.mk (HB2.out.trans (hb3.mono HB2.out.size))
  have R3 := Aside0.mk f
  have f0 := f.frozen 0
  have f1 := f.frozen 1
  have f2 := f.frozen 2
  have c0 := f.cell 0
  have c1 := f.cell 1
  have c2 := f.cell 2
  have l0 := f.lt
  clear hb3 f
  go_wp2
  have E := three_blk (R3.out.set 2 ee) ee ee ee
  have e0 := E.cell 0
  have e1 := E.cell 1
  have e2 := E.cell 2
  exact bodyPost_ret (v := .agg #[ee, ee, ee]) (by simp [results, Tryd.results38, go_sem, e0, e1, e2]) rfl ⟨rfl, three_below (HB3.out.setCell (p := ⟨w.heap.size, 2, none⟩) (Nat.le_refl _) ee) (Nat.le_refl _) ee ee ee⟩
end Go.Proofs.YtmilpfccgggmkaaDoor.Knt

/- A new variable in a drawn region (XQw's third kind of operation). Any program. -/
namespace Go.Proofs.YtmilpfccgggmkaaDoor.Qw
open Go.RowKit Go.Proofs.YtmilpfccgggmkaaDoor.Arr
variable {P : Program} {ops : Array Oper} {md : Region.Mode} {S : FuncId → Array Value → Value → World → Prop} {E0 : World → Prop} {Q : Act → (Nat → World → Prop) → Prop} {k : Nat} {o : Oper} {rest : List Oper} {a : Act} {F : Nat → World → Prop}
theorem w_new (R : Value → World → Prop) (hs : ∀ u, Stb (R u)) (hw : Region.wanted o (yielded ops a.tmps) = true)
    (h : (∀ w, E0 w → ∃ u w', (execOp a.eval o).run P w = .ok (.value u) w' ∧ Below w.heap.size w w' ∧ R u w') ∧
      ∀ u, Val E0 F R u → ∀ K : Act → Prop, (∀ a, wpW P md ops S E0 Q (k + 1) rest a (up F k (R u)) → K a) → K (a.put o.dst u)) : wpW P md ops S E0 Q k (o :: rest) a F :=
  ⟨R, .inl ⟨hw, hs, fun w hw hp => by obtain ⟨u, w', e, hb, hr⟩ := h.1 w hw; rw [e]; exact ⟨hb, hr⟩⟩, fun u hu => h.2 u hu _ fun a hh => hh⟩
end Go.Proofs.YtmilpfccgggmkaaDoor.Qw

/- A failed In: Subject, Tuple, Tuples. -/
namespace Go.Proofs.YtmilpfccgggmkaaDoor.Knt
open Go.RowKit Go.Proofs.YtmilpfccgggmkaaDoorW.PrintWords Go.Proofs.YtmilpfccgggmkaaDoor.Arr
set_option linter.unusedVariables false
set_option linter.unusedSimpArgs false

abbrev e3 : Array Value := #[ee, ee, ee]
abbrev e6 : Array Value := #[ee, ee, ee, ee, ee, ee]
set_option maxHeartbeats 2000000 in
theorem infoT : (Tryd.prog.info? TT).map (·.size) = some 6 := by kernel_rfl
set_option maxHeartbeats 2000000 in
theorem subjectF_calls (g : Nat) (w : World) (h : IBlk w g [] true) :
    Calls Tryd.prog 27 #[.pointer (some ⟨g, 0, none⟩)] w fun e w' => e = .returned (.agg e3) ∧ Below w.heap.size w w' := by
  have HB0 := Aside0.mk ((Below.refl w.heap.size w).alloc (Nat.le_refl _) (.cells e3 TS))
  have R0 := Aside0.mk (Blk.new w TS e3)
  have H0 := Aside0.mk (h.alloc (.cells e3 TS))
  clear h
  go_enter Tryd.func27, Tryd.ntmps27
  go_wp2_with fail
  refine (partsF_calls g _ H0.out).mono ?_
  rintro e w1 ⟨rfl, hb1⟩
  have HB1 := Aside0.mk ((HB0.out.trans (hb1.mono HB0.out.size)).alloc (HB0.out.trans (hb1.mono HB0.out.size)).size (.cells e3 TS))
  have R1 := Aside0.mk ((R0.out.below hb1).alloc (.cells e3 TS))
  have H1 := Aside0.mk ((H0.out.below hb1).alloc (.cells e3 TS))
  have c1 := (H0.out.below hb1).cell 1
  have lt1 := (H0.out.below hb1).lt
  clear hb1
  go_wp2_with fail
  refine (failF_calls g _ H1.out).mono ?_
  rintro e w2 ⟨rfl, hb2⟩
  have R2 := R1.out.below hb2
  have HB2 := Aside0.mk (HB1.out.trans (hb2.mono HB1.out.size))
  have R3 := Aside0.mk R2
  have f0 := R2.frozen 0
  have f1 := R2.frozen 1
  have f2 := R2.frozen 2
  have d0 := R2.cell 0
  have d1 := R2.cell 1
  have d2 := R2.cell 2
  have l0 := R2.lt
  clear hb2 R2 c1 lt1
  go_wp2
  have E := three_blk R3.out ee ee ee
  have e0 := E.cell 0
  have e1 := E.cell 1
  have e2 := E.cell 2
  exact bodyPost_ret (v := .agg e3) (by simp [results, Tryd.results27, go_sem, e0, e1, e2]) rfl ⟨rfl, three_below HB2.out (Nat.le_refl _) ee ee ee⟩
set_option maxHeartbeats 2000000 in
theorem tuplesF_calls (g : Nat) (most : Int) (w : World) (h : IBlk w g [] true) :
    Calls Tryd.prog 29 #[.pointer (some ⟨g, 0, none⟩), .int .i64 most] w fun e w' => e = .returned (.slice none 0 0) ∧ Below w.heap.size w w' := by
  have H := Aside0.mk h
  clear h
  have HB0 := Aside0.mk (Below.refl w.heap.size w)
  go_enter Tryd.func29, Tryd.ntmps29
  (go_wp2_with fail; refine (numF_calls g most w H.out).mono ?_; rintro e w1 ⟨rfl, hb1⟩; have HB1 := Aside0.mk (HB0.out.trans (hb1.mono HB0.out.size)); clear hb1)
  have c1 := (H.out.below HB1.out).cell 1
  have lt1 := (H.out.below HB1.out).lt
  go_wp2
  go_loopw [6] (fun v6 wr => v6 = .int .i64 0 ∧ wr = w1) (fun _ _ => 0)
  case atStart => exact ⟨rfl, rfl⟩
  case round =>
    obtain ⟨rfl, rfl⟩ := hrel
    go_wp2
    go_ret
    exact ⟨rfl, HB1.out⟩
set_option maxHeartbeats 4000000 in
set_option maxRecDepth 100000 in
theorem tupleF_calls (g : Nat) (w : World) (h : IBlk w g [] true) :
    Calls Tryd.prog 28 #[.pointer (some ⟨g, 0, none⟩)] w fun e w' => e = .returned (.agg e6) ∧ Below w.heap.size w w' := by
  have HB0 := Aside0.mk ((Below.refl w.heap.size w).alloc (Nat.le_refl _) (.cells e6 TT))
  have R0 := Aside0.mk (Blk.new w TT e6)
  have H0 := Aside0.mk (h.alloc (.cells e6 TT))
  clear h
  go_enter Tryd.func28, Tryd.ntmps28
  go_wp2_with fail
  refine (partsF_calls g _ H0.out).mono ?_
  rintro e w1 ⟨rfl, hb1⟩
  obtain ⟨n, hn⟩ : ∃ n, w1.heap.size = n := ⟨_, rfl⟩
  have HB1 := Aside0.mk ((HB0.out.trans (hb1.mono HB0.out.size)).alloc (HB0.out.trans (hb1.mono HB0.out.size)).size (.cells e3 TS))
  have R1 := Aside0.mk ((R0.out.below hb1).alloc (.cells e3 TS))
  have H1 := Aside0.mk ((H0.out.below hb1).alloc (.cells e3 TS))
  have O1 := Aside0.mk (show Blk (w1.alloc (.cells e3 TS)) n TS e3 from Blk.newAt hn.symm)
  clear hb1
  go_wp2_with fail
  generalize w1.alloc (.cells e3 TS) = W1 at *
  clear R0 H0 HB0
  have HST : Qw.Stb (fun w' => IBlk w' g [] true ∧ Blk w' n TS e3 ∧ Blk w' w.heap.size TT e6 ∧ Below w.heap.size w w') := fun w1 w2 h hb => ⟨h.1.below hb, h.2.1.below hb, h.2.2.1.below hb, h.2.2.2.trans (hb.mono h.2.2.2.size)⟩
  have HE0 : IBlk W1.drew g [] true ∧ Blk W1.drew n TS e3 ∧ Blk W1.drew w.heap.size TT e6 ∧ Below w.heap.size w W1.drew := ⟨H1.out.drew, O1.out.drew, R1.out.drew, HB1.out.drew⟩
  clear R1 H1 O1 HB1
  refine Qw.wp_region_tail (fun f args u w' => u = .agg e3) _ HST 10 (by kernel_rfl) (by kernel_rfl) HE0 ?_
  clear HST HE0
  simp only [List.take_succ_cons, List.take_zero, List.drop_succ_cons, List.drop_zero]
  iterate 7 ((first | (with_reducible refine Qw.w_val ⟨fun _ _ _ hF h w' h1 h2 => h w' h1 fun k => hF k _ (h2 k)⟩ ?_ (Qw.wanted_none rfl) ?_) | ((with_reducible refine Qw.w_val ⟨fun _ _ _ hF h w' h1 h2 => h w' h1 fun k => hF k _ (h2 k)⟩ ?_ ?_ ?_); (focus (exact fun _ => trivial)); (focus (exact Qg.wanted_on rfl rfl rfl)))); (try (focus (exact fun _ => trivial))); apply Exists.intro; refine ⟨?_, ?_⟩; (focus (intro w' hw' hp'; have c0 := hw'.2.1.cell 0; have c1 := hw'.2.1.cell 1; have c2 := hw'.2.1.cell 2; have l0 := hw'.2.1.lt; go_simp; (first | done | (with_reducible rfl)))); intro K hK; go_simp; refine hK _ ?_; clear hK K)
  ((with_reducible refine Qw.w_call ?_ ?_); (first | (focus (exact Qw.wanted_none rfl)) | (focus (exact Qg.wanted_on rfl rfl rfl))); apply Exists.intro; apply Exists.intro; refine ⟨?_, ?_, ?_, ?_⟩; (focus (intro w'; go_simp; (first | rfl | exact ⟨rfl, rfl⟩))); (focus (exact fun u w1 w2 h hb => h)); (focus (intro w' hw' hp'; refine (subjectF_calls g w' hw'.1).mono ?_; rintro e w8 ⟨rfl, b8⟩; exact ⟨_, rfl, b8, rfl⟩)); rintro u8 ⟨wv8, -, -, rfl⟩; intro K hK; go_simp; refine hK _ ?_; clear hK K)
  ((first | (with_reducible refine Qw.w_val ⟨fun _ _ _ hF h w' h1 h2 => h w' h1 fun k => hF k _ (h2 k)⟩ ?_ (Qw.wanted_none rfl) ?_) | ((with_reducible refine Qw.w_val ⟨fun _ _ _ hF h w' h1 h2 => h w' h1 fun k => hF k _ (h2 k)⟩ ?_ ?_ ?_); (focus (exact fun _ => trivial)); (focus (exact Qg.wanted_on rfl rfl rfl)))); (try (focus (exact fun _ => trivial))); apply Exists.intro; refine ⟨?_, ?_⟩; (focus (intro w' hw' hp'; skip; go_simp; (first | done | (with_reducible rfl)))); intro K hK; go_simp; refine hK _ ?_; clear hK K)
  obtain ⟨R, hR⟩ : ∃ R : Value → World → Prop, R = fun u w' => ∃ m, u = .pointer (some ⟨m, 0, none⟩) ∧ w.heap.size < m ∧ Blk w' m TT e6 := ⟨_, rfl⟩
  have HSN : ∀ u, Qw.Stb (R u) := by
    subst hR
    intro u w1 w2 h hb
    obtain ⟨m, e, h1, h2⟩ := h
    exact ⟨m, e, h1, h2.below hb⟩
  have hR' : ∀ u w', R u w' ↔ ∃ m, u = .pointer (some ⟨m, 0, none⟩) ∧ w.heap.size < m ∧ Blk w' m TT e6 := fun u w' => by rw [hR]
  clear hR
  with_reducible refine Qw.w_new R HSN (Qw.wanted_none rfl) ⟨?_, ?_⟩
  · intro w' hw'
    refine ⟨.pointer (some ⟨w'.heap.size, 0, none⟩), w'.alloc (.cells e6 TT), ?_, (Below.refl _ _).alloc (Nat.le_refl _) _, (hR' _ _).2 ⟨w'.heap.size, rfl, hw'.2.2.1.lt, Blk.new _ _ _⟩⟩
    go_simp
  rintro u9 ⟨wv9, -, -, hu9⟩
  obtain ⟨m, rfl, hm, -⟩ := (hR' _ _).1 hu9
  clear hu9 wv9
  intro K hK
  go_simp
  refine hK _ ?_
  clear hK K
  ((with_reducible refine Qw.w_nil ?_); intro w' hw' hf')
  obtain ⟨m', e9, -, M2⟩ : ∃ m', Value.pointer (some ⟨m, 0, none⟩) = .pointer (some ⟨m', 0, none⟩) ∧ w.heap.size < m' ∧ Blk w' m' TT e6 := (hR' _ _).1 (hf' 9)
  clear hf' hR' HSN R
  obtain rfl : m = m' := by injection e9 with e9; injection e9 with e9; injection e9 with e9
  have hgm : g ≠ m := hw'.1.ne M2 (by decide)
  refine wpList_store_blk rfl TT _ _ rfl m e6 rfl rfl infoT rfl (by first | kernel_rfl | decide +kernel | simp [Value.oneCell']) M2 rfl ?_
  have I2 := Aside0.mk (hw'.1.rowFar hgm e6)
  have R2 := Aside0.mk (hw'.2.2.1.rowFar (show w.heap.size ≠ m by omega) e6)
  have B2 := Aside0.mk (below_setRow hw'.2.2.2 (show w.heap.size ≤ m by omega) e6)
  clear hw' M2
  generalize w'.setRow m e6 = W5 at *
  have i1 := I2.out.cell 1
  have ilt := I2.out.lt
  go_wp2_with fail
  clear i1 ilt
  refine (failF_calls g _ I2.out).mono ?_
  rintro e w2 ⟨rfl, hb2⟩
  have R4 := Aside0.mk (R2.out.below hb2)
  have B4 := Aside0.mk (B2.out.trans (hb2.mono B2.out.size))
  have f0 := R4.out.frozen 0
  have f1 := R4.out.frozen 1
  have f2 := R4.out.frozen 2
  have f3 := R4.out.frozen 3
  have f4 := R4.out.frozen 4
  have f5 := R4.out.frozen 5
  have d0 := R4.out.cell 0
  have d1 := R4.out.cell 1
  have d2 := R4.out.cell 2
  have d3 := R4.out.cell 3
  have d4 := R4.out.cell 4
  have d5 := R4.out.cell 5
  have l0 := R4.out.lt
  clear hb2 I2 R2 B2
  go_wp2
  have E := (((((R4.out.set 0 ee).set 1 ee).set 2 ee).set 3 ee).set 4 ee).set 5 ee
  have e0 := E.cell 0
  have e1 := E.cell 1
  have e2 := E.cell 2
  have e3 := E.cell 3
  have e4 := E.cell 4
  have e5 := E.cell 5
  have hg := Nat.le_refl w.heap.size
  exact bodyPost_ret (v := .agg e6) (by simp [results, Tryd.results28, go_sem, e0, e1, e2, e3, e4, e5]) rfl ⟨rfl, (((((B4.out.setCell (by simp) _).setCell (by simp) _).setCell (by simp) _).setCell (by simp) _).setCell (by simp) _).setCell (by simp) _⟩
end Go.Proofs.YtmilpfccgggmkaaDoor.Knt

/- Untying texts and marks, of any bytes. -/
namespace Go.Proofs.YtmilpfccgggmkaaDoor.Knt
open Go.RowKit Go.Proofs.YtmilpfccgggmkaaDoorW.PrintWords Go.Proofs.YtmilpfccgggmkaaDoor.Arr Go.Proofs.YtmilpfccgggmkaaDoor.Utf Go.Proofs.YtmilpfccgggmkaaDoor.Gly
set_option linter.unusedVariables false
set_option linter.unusedSimpArgs false

def textP (most : Int) (l : List UInt8) : Option (List UInt8 × List UInt8) :=
  match numP most l with
  | some (n, m) => if m[n]? = some 44 then some (m.take n, m.drop (n + 1)) else none
  | none => none
def TextPost (g : Nat) (f : Bool) (w : World) (r : Option (List UInt8 × List UInt8)) (e : Ending) (w' : World) : Prop :=
  match r with
  | some (t, m) => e = .returned (.string (str t)) ∧ IBlk w' g m f ∧ Only [g] w w'
  | none => e = .returned (.string ⟨#[]⟩) ∧ IBlk w' g [] true ∧ Only [g] w w'
theorem numR_len {z : Bool} {most : Int} : ∀ {l : List UInt8} {n d k : Nat} {m : List UInt8}, numR z most l n d = some (k, m) → m.length < l.length
  | [], _, _, _, _, h => by simp [numR] at h
  | c :: l, n, d, k, m, h => by
    simp only [numR] at h
    split at h
    · simp only [Option.some.injEq, Prod.mk.injEq] at h
      rw [← h.2]
      simp
    · split at h
      · cases h
      · have := numR_len h
        simp
        omega
theorem numP_len {most : Int} {l m : List UInt8} {k : Nat} (h : numP most l = some (k, m)) : m.length < l.length := numR_len h
set_option maxHeartbeats 4000000 in
set_option maxRecDepth 100000 in
theorem itext_calls (g : Nat) (l : List UInt8) (hl : l.length ≤ 140737488355328) (f : Bool) (most : Int) (w : World) (h : IBlk w g l f) :
    Calls Tryd.prog 25 #[.pointer (some ⟨g, 0, none⟩), .int .i64 most] w (TextPost g f w (textP most l)) := by
  have KN := inum_calls g l hl f most w h
  cases hn : numP most l with
  | none =>
    rw [hn] at KN
    have hr : textP most l = none := by unfold textP; rw [hn]
    rw [hr]
    have KN := Aside0.mk KN
    clear h hn hr
    go_enter Tryd.func25, Tryd.ntmps25
    go_wp2_with fail
    refine KN.out.mono ?_
    rintro e w1 ⟨rfl, i1, o1⟩
    have c0 := i1.cell 0
    rw [str_nil] at c0
    have hlt := i1.lt
    have I1 := Aside0.mk i1
    have O1 := Aside0.mk o1
    clear i1 o1 KN
    go_wp2_with fail
    refine (fail_calls g [] true w1 I1.out).mono ?_
    rintro e w2 ⟨rfl, i2, o2⟩
    have I2 := Aside0.mk i2
    have O2 := Aside0.mk (O1.out.trans o2 (fun k hk => .inl hk))
    clear i2 o2 c0 hlt
    go_wp2
    go_ret
    exact ⟨rfl, I2.out, O2.out⟩
  | some nm =>
    obtain ⟨n, m⟩ := nm
    rw [hn] at KN
    have hml := numP_len hn
    have KN := Aside0.mk KN
    obtain ⟨s, hs⟩ : ∃ s, str m = s := ⟨_, rfl⟩
    have hsz := str_size m
    have hsd := str_drop m (n + 1)
    have hst := str_take m n
    rw [hs] at hsz hsd hst
    by_cases hc : m[n]? = some 44
    · have hr : textP most l = some (m.take n, m.drop (n + 1)) := by unfold textP; rw [hn]; simp only; rw [if_pos hc]
      rw [hr]
      obtain ⟨hnm, hc44⟩ := List.getElem?_eq_some_iff.1 hc
      have hns : n < s.size := by omega
      have hgb : (s[n]'hns).toNat = 44 := by
        have h1 := gb_str m n hnm
        have h2 := gb_get s n hns
        rw [hs] at h1
        rw [h2, h1, hc44]
        rfl
      have HS := Aside0.mk hs
      have HSD := Aside0.mk hsd
      have HST := Aside0.mk hst
      have t1 : decide ((s.size : Int) ≤ (n : Int)) = false := decide_eq_false (by omega)
      have u1 : ¬ s.size ≤ n := by omega
      have t2 : (((s[n]'hns).toNat : Int) != 44) = false := bne_eq_false_iff_eq.2 (by omega)
      have q1 : (n : Int) ≤ (s.size : Int) := by omega
      have q2 : (n : Int) + 1 ≤ (s.size : Int) := by omega
      have q3 : (0 : Int) ≤ (n : Int) + 1 := by omega
      have hsb : s.size ≤ 140737488355328 := by omega
      clear h hn hr hc hc44 hsd hst hs hsz hnm hgb
      go_enter Tryd.func25, Tryd.ntmps25
      go_wp2_with fail
      refine KN.out.mono ?_
      rintro e w1 ⟨rfl, i1, o1⟩
      have c0 := i1.cell 0
      rw [HS.out] at c0
      have f0 := i1.frozen 0
      have hlt := i1.lt
      have I1 := Aside0.mk i1
      have O1 := Aside0.mk o1
      clear i1 o1 KN
      go_wp2
      go_ret
      refine ⟨?_, ?_, ?_⟩
      · rw [← HST.out]
        rfl
      · have := I1.out.set 0 (.string (s.extract (n + 1) s.size))
        rw [HSD.out] at this ⊢
        exact this
      · exact O1.out.setCell (.inl (by simp)) _
    · have hr : textP most l = none := by unfold textP; rw [hn]; simp only; rw [if_neg hc]
      rw [hr]
      have key : (decide ((s.size : Int) ≤ (n : Int)) = true ∧ s.size ≤ n) ∨ ((decide ((s.size : Int) ≤ (n : Int)) = false ∧ ¬ s.size ≤ n) ∧ ∃ hns : n < s.size, (((s[n]'hns).toNat : Int) != 44) = true) := by
        by_cases hns : n < s.size
        · refine .inr ⟨⟨decide_eq_false (by omega), by omega⟩, hns, bne_iff_ne.2 fun h44 => hc ?_⟩
          have hnm : n < m.length := by omega
          have h1 := gb_str m n hnm
          have h2 := gb_get s n hns
          rw [hs] at h1
          rw [List.getElem?_eq_getElem hnm]
          have h3 : (m[n]).toNat = 44 := by omega
          congr 1
          exact UInt8.toNat_inj.1 (by rw [h3]; rfl)
        · exact .inl ⟨decide_eq_true (by omega), by omega⟩
      have HS := Aside0.mk hs
      have hsb : s.size ≤ 140737488355328 := by omega
      clear h hn hr hc hsd hst hs hsz
      rcases key with ⟨t1, u1⟩ | ⟨⟨t1, u1⟩, hns, t2⟩
      all_goals
        go_enter Tryd.func25, Tryd.ntmps25
        go_wp2_with fail
        refine KN.out.mono ?_
        rintro e w1 ⟨rfl, i1, o1⟩
        have c0 := i1.cell 0
        rw [HS.out] at c0
        have hlt := i1.lt
        have I1 := Aside0.mk i1
        have O1 := Aside0.mk o1
        clear i1 o1 KN
        go_wp2_with fail
        refine (fail_calls g m f w1 I1.out).mono ?_
        rintro e w2 ⟨rfl, i2, o2⟩
        have I2 := Aside0.mk i2
        have O2 := Aside0.mk (O1.out.trans o2 (fun k hk => .inl hk))
        clear i2 o2 c0 hlt
        go_wp2
        go_ret
        exact ⟨rfl, I2.out, O2.out⟩
end Go.Proofs.YtmilpfccgggmkaaDoor.Knt

/- Tied bytes: plain facts: what is tied is taken. No program. -/
namespace Go.Proofs.YtmilpfccgggmkaaDoor.Knt
open Go.RowKit Go.Proofs.YtmilpfccgggmkaaDoorW.PrintWords Go.Proofs.YtmilpfccgggmkaaDoor.Arr
set_option linter.unusedVariables false
set_option linter.unusedSimpArgs false

theorem nDig_le : ∀ (k n : Nat), n < 10 ^ (k + 1) → Lib.nDigits n ≤ k + 1 := by
  intro k
  induction k with
  | zero => intro n h; rw [Lib.nDigits_small (by simpa using h)]; omega
  | succ k ih =>
    intro n h
    by_cases h10 : n < 10
    · rw [Lib.nDigits_small h10]; omega
    · rw [Lib.nDigits_big h10]
      have : n / 10 < 10 ^ (k + 1) := by rw [Nat.pow_succ] at h; omega
      have := ih _ this
      omega
theorem nDig_17 (n : Nat) (h : n < 100000000000000000) : Lib.nDigits n ≤ 17 := nDig_le 16 n h
theorem nDig_pos (n : Nat) : 1 ≤ Lib.nDigits n := by
  by_cases h : n < 10
  · rw [Lib.nDigits_small h]; omega
  · rw [Lib.nDigits_big h]; omega
theorem dec_small {n : Nat} (h : n < 10) : Lib.decDigits n = [UInt8.ofNat (48 + n)] := Lib.decDigits_one h
theorem dec_big {n : Nat} (h : ¬ n < 10) : Lib.decDigits n = Lib.decDigits (n / 10) ++ [UInt8.ofNat (48 + n % 10)] := by rw [Lib.decDigits, dif_neg h]
theorem digit_nat (d : Nat) (h : d < 10) : (UInt8.ofNat (48 + d)).toNat = 48 + d := by
  rw [UInt8.toNat_ofNat']
  omega
theorem numR_dec (z : Bool) (most : Int) : ∀ (k n : Nat) (m : List UInt8), n < 10 ^ (k + 1) → k ≤ 16 → numR z most (Lib.decDigits n ++ m) 0 0 = numR z most m n (Lib.nDigits n) := by
  intro k
  induction k with
  | zero =>
    intro n m h _
    have h10 : n < 10 := by simpa using h
    rw [dec_small h10, Lib.nDigits_small h10]
    simp only [List.cons_append, List.nil_append, numR]
    rw [digit_nat n h10, if_neg (by omega), if_neg (by omega)]
    congr 1
    omega
  | succ k ih =>
    intro n m h hk
    by_cases h10 : n < 10
    · rw [dec_small h10, Lib.nDigits_small h10]
      simp only [List.cons_append, List.nil_append, numR]
      rw [digit_nat n h10, if_neg (by omega), if_neg (by omega)]
      congr 1
      omega
    · have h' : n / 10 < 10 ^ (k + 1) := by rw [Nat.pow_succ] at h; omega
      have hd := nDig_le k _ h'
      rw [dec_big h10, Lib.nDigits_big h10, List.append_assoc, ih _ _ h' (by omega)]
      simp only [List.cons_append, List.nil_append, numR]
      rw [digit_nat (n % 10) (by omega), if_neg (by omega), if_neg (by omega)]
      congr 1
      omega
theorem dec_head : ∀ (k n : Nat), n < 10 ^ (k + 1) → ∃ c m, Lib.decDigits n = c :: m ∧ (c.toNat = 48 → n = 0) := by
  intro k
  induction k with
  | zero =>
    intro n h
    have h10 : n < 10 := by simpa using h
    exact ⟨_, [], dec_small h10, fun e => by rw [digit_nat n h10] at e; omega⟩
  | succ k ih =>
    intro n h
    by_cases h10 : n < 10
    · exact ⟨_, [], dec_small h10, fun e => by rw [digit_nat n h10] at e; omega⟩
    · have h' : n / 10 < 10 ^ (k + 1) := by rw [Nat.pow_succ] at h; omega
      obtain ⟨c, m, e1, e2⟩ := ih _ h'
      refine ⟨c, m ++ [UInt8.ofNat (48 + n % 10)], by rw [dec_big h10, e1]; rfl, fun e => ?_⟩
      have := e2 e
      omega
/-- A number that was tied is taken. -/
theorem numP_num (n : Nat) (hn : n < 100000000000000000) (most : Int) (hm : (n : Int) ≤ most) (r : List UInt8) : numP most (numT n ++ r) = some (n, r) := by
  obtain ⟨c, m, e1, e2⟩ := dec_head 16 n hn
  unfold numP numT
  rw [List.append_assoc, numR_dec _ most 16 n _ hn (by omega)]
  simp only [List.cons_append, List.nil_append, numR]
  have hp := nDig_pos n
  rw [if_pos]
  refine ⟨by decide, by omega, hm, ?_⟩
  by_cases h0 : n = 0
  · subst h0
    exact .inl (Lib.nDigits_small (by omega))
  · refine .inr ?_
    unfold zeroB
    rw [e1]
    simp only [List.cons_append, List.headD_cons]
    exact beq_eq_false_iff_ne.2 (fun e => h0 (e2 e))
theorem numT_inj {n n' : Nat} {r r' : List UInt8} (hn : n < 100000000000000000) (hn' : n' < 100000000000000000) (h : numT n ++ r = numT n' ++ r') : n = n' ∧ r = r' := by
  have h1 := numP_num n hn 100000000000000000 (by omega) r
  rw [h, numP_num n' hn' 100000000000000000 (by omega) r'] at h1
  simp only [Option.some.injEq, Prod.mk.injEq] at h1
  exact ⟨h1.1.symm, h1.2.symm⟩
theorem textT_inj {s t : ByteArray} {r r' : List UInt8} (hs : s.size < 100000000000000000) (ht : t.size < 100000000000000000) (h : textT s ++ r = textT t ++ r') : s = t ∧ r = r' := by
  unfold textT at h
  rw [List.append_assoc, List.append_assoc, List.append_assoc, List.append_assoc] at h
  obtain ⟨h1, h2⟩ := numT_inj hs ht h
  have h3 := List.append_inj h2 (by rw [size_list, size_list, h1])
  refine ⟨ByteArray.ext (Array.toList_inj.1 h3.1), ?_⟩
  simpa using h3.2
theorem texts_eq (s t x y : ByteArray) (hs : s.size < 100000000000000000) (ht : t.size < 100000000000000000) (hx : x.size < 100000000000000000) (hy : y.size < 100000000000000000) : (textT s ++ textT x = textT t ++ textT y) ↔ (s = t ∧ x = y) := by
  constructor
  · intro h
    obtain ⟨h1, h2⟩ := textT_inj hs ht h
    have h2' : textT x ++ [] = textT y ++ [] := by rw [h2]
    exact ⟨h1, (textT_inj hx hy h2').1⟩
  · rintro ⟨rfl, rfl⟩
    rfl
end Go.Proofs.YtmilpfccgggmkaaDoor.Knt

/- Tying subjects and tuples. -/
namespace Go.Proofs.YtmilpfccgggmkaaDoor.Knt
open Go.RowKit Go.Proofs.YtmilpfccgggmkaaDoorW.PrintWords Go.Proofs.YtmilpfccgggmkaaDoor.Arr
set_option linter.unusedVariables false
set_option linter.unusedSimpArgs false

theorem KPut.next {B : Nat} {S S1 : List Nat} {w w1 w2 : World} {g : Nat} {l2 : List UInt8} (o1 : Only S w w1) (s1 : ∀ k, k ∈ S1 → k ∈ S ∨ w.heap.size ≤ k) (h : KPut B S1 w1 w2 g l2) : KPut B S w w2 g l2 := by
  obtain ⟨S2, k2, o2, s2⟩ := h
  exact ⟨S2, k2, o1.trans o2 s1, fun k hk => by
    rcases s2 k hk with h | h
    · exact s1 k h
    · exact .inr (Nat.le_trans o1.size h)⟩
def firstT (a b c : ByteArray) : Nat → List UInt8
  | 0 => []
  | 1 => textT a
  | 2 => textT a ++ textT b
  | _ => textT a ++ (textT b ++ textT c)
def subT (a b c : ByteArray) : List UInt8 := textT a ++ (textT b ++ textT c)
set_option maxRecDepth 100000 in
theorem textT_ge (s : ByteArray) : s.size ≤ (textT s).length := by
  unfold textT
  have := size_list s
  simp only [List.length_append]
  omega
set_option maxRecDepth 100000 in
theorem three_pick (a b c : ByteArray) (j : Nat) (hj : j < 3) : ∃ t : ByteArray, (t = a ∨ t = b ∨ t = c) ∧ firstT a b c (j + 1) = firstT a b c j ++ textT t ∧
    ∀ w : World, (Instr.index 64 (.agg #[.string a, .string b, .string c]) (.int .i64 (j : Int))).run Tryd.prog w = .ok (.string t) w := by
  match j, hj with
  | 0, _ => exact ⟨a, .inl rfl, by simp [firstT], fun w => by rfl⟩
  | 1, _ => exact ⟨b, .inr (.inl rfl), by simp [firstT], fun w => by rfl⟩
  | 2, _ => exact ⟨c, .inr (.inr rfl), by simp [firstT], fun w => by rfl⟩
theorem firstT_len (a b c : ByteArray) (j : Nat) (ha : a.size < 9007199254740993) (hb : b.size < 9007199254740993) (hc : c.size < 9007199254740993) : (firstT a b c j).length ≤ a.size + b.size + c.size + 90 := by
  have h1 := textT_len a (by omega)
  have h2 := textT_len b (by omega)
  have h3 := textT_len c (by omega)
  match j with
  | 0 => simp [firstT]
  | 1 => simp [firstT]; omega
  | 2 => simp [firstT]; omega
  | _ + 3 => simp [firstT]; omega
set_option maxHeartbeats 4000000 in
set_option maxRecDepth 100000 in
theorem subject_calls (B g : Nat) (l : List UInt8) (S : List Nat) (a b c : ByteArray) (hl : l.length + a.size + b.size + c.size + 200 ≤ 140737488355328) (w : World) (hk : KAt B w g l S) (hP : PowB B w) :
    Calls Tryd.prog 19 #[.pointer (some ⟨g, 0, none⟩), .agg #[.string a, .string b, .string c]] w fun e w' => e = .returned (.tuple #[]) ∧ KPut B S w w' g (l ++ subT a b c) := by
  have b0 : Below w.heap.size w (w.alloc (.cells #[.string a, .string b, .string c] 40)) := (Below.refl _ _).alloc (Nat.le_refl _) _
  have K0 := Aside0.mk (hk.below b0)
  have HK := Aside0.mk hk
  have PB := Aside0.mk hP
  have O0 := Aside0.mk (Only.of_below b0 S)
  clear hk hP b0
  go_enter Tryd.func19, Tryd.ntmps19
  go_wp2
  go_loopw [13] (fun v13 wr => ∃ j : Nat, v13 = .int .i64 (j : Int) ∧ Aside0 (j ≤ 3) ∧ Aside0 (KPut B S w wr g (l ++ firstT a b c j))) (fun v13 _ => 3 - (intOf v13).toNat)
  case atStart => exact ⟨0, rfl, ⟨by omega⟩, ⟨S, by simpa [firstT] using K0.out, O0.out, fun k hk => .inl hk⟩⟩
  case round =>
    obtain ⟨j, rfl, hj, hkp⟩ := hrel
    by_cases hj3 : j < 3
    · have t1 : decide ((j : Int) < 3) = true := decide_eq_true (by omega)
      obtain ⟨t, ht, hf, hix⟩ := three_pick a b c j hj3
      have hts : t.size ≤ a.size + b.size + c.size := by rcases ht with rfl | rfl | rfl <;> omega
      have hfl := firstT_len a b c (j + 1) (by omega) (by omega) (by omega)
      rw [hf, List.length_append] at hfl
      have hge := textT_ge t
      obtain ⟨S1, k1, o1, s1⟩ := hkp.out
      have P1 := PB.out.on (HK.out.belowB o1)
      have KT := Aside0.mk (text_calls B g (l ++ firstT a b c j) S1 t (by omega) (by rw [List.length_append]; omega) wr k1 P1)
      have O1 := Aside0.mk o1
      have S1' := Aside0.mk s1
      have HF := Aside0.mk hf
      clear hkp k1 o1 s1 P1 ht hf hts hfl hge
      go_wp2_with fail
      refine KT.out.mono ?_
      rintro e w2 ⟨rfl, hp⟩
      have HP := Aside0.mk (KPut.next O1.out S1'.out hp)
      clear hp KT
      go_wp2
      go_roundw
      case rel => exact ⟨j + 1, by go_num, ⟨by omega⟩, ⟨by rw [HF.out, ← List.append_assoc]; exact HP.out⟩⟩
      case measure => simp [intOf]; omega
    · have t1 : decide ((j : Int) < 3) = false := decide_eq_false (by omega)
      obtain rfl : j = 3 := by have := hj.out; omega
      go_wp2
      go_end0
      exact ⟨rfl, hkp.out⟩
theorem subT_len (a b c : ByteArray) (ha : a.size < 9007199254740993) (hb : b.size < 9007199254740993) (hc : c.size < 9007199254740993) : (subT a b c).length ≤ a.size + b.size + c.size + 90 := firstT_len a b c 3 ha hb hc
def tupT (a b c d e f : ByteArray) : List UInt8 := subT a b c ++ subT d e f
def sum6 (a b c d e f : ByteArray) : Nat := a.size + b.size + c.size + d.size + e.size + f.size
set_option maxHeartbeats 4000000 in
set_option maxRecDepth 100000 in
theorem tuple_calls (B g : Nat) (l : List UInt8) (S : List Nat) (a b c d e f : ByteArray) (hl : l.length + sum6 a b c d e f + 400 ≤ 140737488355328) (w : World) (hk : KAt B w g l S) (hP : PowB B w) :
    Calls Tryd.prog 20 #[.pointer (some ⟨g, 0, none⟩), .agg #[.string a, .string b, .string c, .string d, .string e, .string f]] w fun z w' => z = .returned (.tuple #[]) ∧ KPut B S w w' g (l ++ tupT a b c d e f) := by
  unfold sum6 at hl
  obtain ⟨W, hW⟩ : ∃ W, w.alloc (.cells #[.string a, .string b, .string c, .string d, .string e, .string f] 42) = W := ⟨_, rfl⟩
  have b0 : Below w.heap.size w W := by rw [← hW]; exact (Below.refl _ _).alloc (Nat.le_refl _) _
  have R0 : Blk W w.heap.size 42 #[.string a, .string b, .string c, .string d, .string e, .string f] := by rw [← hW]; exact Blk.new _ _ _
  have hbs := hk.base
  have k0 := hk.below b0
  have PB := Aside0.mk (hP.on (b0.mono hk.size))
  have O0 := Aside0.mk (Only.of_below b0 S)
  have c0 := R0.cell 0
  have c1 := R0.cell 1
  have c2 := R0.cell 2
  have lt0 := R0.lt
  have K0 := Aside0.mk k0
  have RR := Aside0.mk R0
  have HW := Aside0.mk hW
  have HT := Aside0.mk (show ∀ i, i ∈ [w.heap.size] → i < W.heap.size ∧ i ∉ S from fun i hi => by
    obtain rfl := List.mem_singleton.1 hi
    exact ⟨R0.lt, fun hm => Nat.lt_irrefl _ (hbs _ hm).2⟩)
  clear hk hP b0 R0 k0 hbs
  have s1 := subT_len a b c (by omega) (by omega) (by omega)
  go_enter Tryd.func20, Tryd.ntmps20
  go_wp2_with fail
  refine (subject_calls B g l S a b c (by omega) W K0.out PB.out).mono ?_
  rintro e1 w1 ⟨rfl, hp⟩
  have P1 := Aside0.mk (PB.out.on (KPut.belowB K0.out hp))
  obtain ⟨S1, k1, o1, s1', t1⟩ := hp.take [w.heap.size] HT.out
  have R1 := RR.out.only o1 (HT.out _ (by simp)).2
  have K1 := Aside0.mk k1
  have O1 := Aside0.mk o1
  have SS := Aside0.mk s1'
  clear hp k1 o1 s1' t1 c0 c1 c2 lt0 hW
  have c3 := R1.cell 3
  have c4 := R1.cell 4
  have c5 := R1.cell 5
  have lt1 := R1.lt
  clear R1
  go_wp2_with fail
  refine (subject_calls B g (l ++ subT a b c) S1 d e f (by rw [List.length_append]; omega) w1 K1.out P1.out).mono ?_
  rintro e1 w2 ⟨rfl, hp⟩
  have HP := Aside0.mk (KPut.next O0.out (fun k hk => .inl hk) (KPut.next O1.out SS.out hp))
  clear hp
  go_wp2
  go_end0
  refine ⟨rfl, ?_⟩
  have := HP.out
  rw [List.append_assoc] at this
  exact this
end Go.Proofs.YtmilpfccgggmkaaDoor.Knt

/- Untying marks; three texts. -/
namespace Go.Proofs.YtmilpfccgggmkaaDoor.Knt
open Go.RowKit Go.Proofs.YtmilpfccgggmkaaDoorW.PrintWords Go.Proofs.YtmilpfccgggmkaaDoor.Arr Go.Proofs.YtmilpfccgggmkaaDoor.Utf Go.Proofs.YtmilpfccgggmkaaDoor.Gly
set_option linter.unusedVariables false
set_option linter.unusedSimpArgs false

def markP : List UInt8 → Option (Bool × List UInt8)
  | [] => none
  | c :: m => if c.toNat = 43 then some (true, m) else if c.toNat = 45 then some (false, m) else none
def MarkPost (g : Nat) (f : Bool) (w : World) (r : Option (Bool × List UInt8)) (e : Ending) (w' : World) : Prop :=
  match r with
  | some (b, m) => e = .returned (.bool b) ∧ IBlk w' g m f ∧ Only [g] w w'
  | none => e = .returned (.bool false) ∧ IBlk w' g [] true ∧ Only [g] w w'
set_option maxHeartbeats 4000000 in
set_option maxRecDepth 100000 in
theorem imark_calls (g : Nat) (l : List UInt8) (hl : l.length ≤ 140737488355328) (f : Bool) (w : World) (h : IBlk w g l f) :
    Calls Tryd.prog 26 #[.pointer (some ⟨g, 0, none⟩)] w (MarkPost g f w (markP l)) := by
  have H := Aside0.mk h
  have c0 := h.cell 0
  have hlt := h.lt
  obtain ⟨s, hs⟩ : ∃ s, str l = s := ⟨_, rfl⟩
  rw [hs] at c0
  have HS := Aside0.mk hs
  obtain ⟨res, hres⟩ : ∃ res, markP l = res := ⟨_, rfl⟩
  rw [hres]
  have HRES := Aside0.mk hres
  clear h hs hres
  go_enter Tryd.func26, Tryd.ntmps26
  go_wp2
  go_loopw [] (fun wr => wr.heap[w.heap.size]? = some (.stringIter s 0) ∧ Aside0 (Below w.heap.size w wr)) (fun _ => 0)
  case atStart => exact ⟨World.iter_heap w _ 0, ⟨(Below.refl _ _).alloc (Nat.le_refl _) _⟩⟩
  case round =>
    obtain ⟨hit, HB0⟩ := hrel
    cases l with
    | nil =>
      have hs0 := HS.out
      rw [str_nil] at hs0
      subst hs0
      obtain rfl : none = res := HRES.out
      have hnx : ∀ ty, (Instr.next (.pointer (some ⟨w.heap.size, 0, none⟩)) true ty).run Tryd.prog wr = _ := fun ty => Lib.run_next_end_at wr w.heap.size ⟨#[]⟩ 0 ty hit (by decide)
      have H1 := Aside0.mk (H.out.below HB0.out)
      clear hit
      go_wp2_with fail
      refine (fail_calls g [] f wr H1.out).mono ?_
      rintro e w2 ⟨rfl, i2, o2⟩
      have I2 := Aside0.mk i2
      have O2 := Aside0.mk ((Only.of_below HB0.out [g]).trans o2 (fun k hk => .inl hk))
      clear i2 o2
      go_wp2
      go_ret
      exact ⟨rfl, I2.out, O2.out⟩
    | cons c m =>
      have hsz : s.size = m.length + 1 := by rw [← HS.out, str_size]; simp
      have hp : 0 < s.size := by omega
      have hnx : ∀ ty, (Instr.next (.pointer (some ⟨w.heap.size, 0, none⟩)) true ty).run Tryd.prog wr = _ := fun ty => Lib.run_next_any_at wr w.heap.size s 0 ty hit hp
      have hby := dec_byte (c :: m) 0 (by simp)
      rw [HS.out] at hby
      simp only [List.getElem_cons_zero] at hby
      have hb2 := Lib.below_iterAt HB0.out (Nat.le_refl _) s (Utf8.decode s 0).2
      have H2 := H.out.below hb2
      have c0' := H2.cell 0
      rw [HS.out] at c0'
      have f0' := H2.frozen 0
      have lt' := H2.lt
      obtain ⟨r, hr⟩ : ∃ r, (Utf8.decode s 0).1 = r := ⟨_, rfl⟩
      obtain ⟨wd, hwd⟩ : ∃ wd, (Utf8.decode s 0).2 = wd := ⟨_, rfl⟩
      rw [hr, hwd] at hnx
      rw [hwd] at hb2 H2 c0' f0' lt'
      have hrc : (c.toNat < 128 ∧ r = c.toNat) ∨ (128 ≤ c.toNat ∧ 128 ≤ r) := by
        rcases hby with ⟨h1, h2⟩ | h1
        · rw [h2] at hr
          exact .inl ⟨h1, hr.symm⟩
        · exact .inr ⟨h1.1, by rw [← hr]; exact h1.2⟩
      have HD := Aside0.mk (show s.extract 1 s.size = str m by rw [← HS.out]; exact str_drop (c :: m) 1)
      have q1 : (1 : Int) ≤ (s.size : Int) := by omega
      have q2 : 1 ≤ s.size := by omega
      have hsb : s.size ≤ 140737488355328 := by simp at hl; omega
      have HH := Aside0.mk H2
      have HB2 := Aside0.mk hb2
      have hm := HRES.out
      simp only [markP] at hm
      clear hby hr hwd hit hb2 H2 hsz c0
      by_cases h43 : c.toNat = 43
      · rw [if_pos h43] at hm
        subst hm
        obtain rfl : r = 43 := by omega
        clear hrc
        go_wp2
        go_ret
        refine ⟨rfl, ?_, ?_⟩
        · have := HH.out.set 0 (.string (s.extract 1 s.size))
          rw [HD.out] at this ⊢
          exact this
        · exact ((Only.of_below HB2.out [g])).setCell (.inl (by simp)) _
      · rw [if_neg h43] at hm
        by_cases h45 : c.toNat = 45
        · rw [if_pos h45] at hm
          subst hm
          obtain rfl : r = 45 := by omega
          clear hrc
          go_wp2
          go_ret
          refine ⟨rfl, ?_, ?_⟩
          · have := HH.out.set 0 (.string (s.extract 1 s.size))
            rw [HD.out] at this ⊢
            exact this
          · exact ((Only.of_below HB2.out [g])).setCell (.inl (by simp)) _
        · rw [if_neg h45] at hm
          subst hm
          have t1 : ((r : Int) != 43) = true := bne_iff_ne.2 (by omega)
          have t2 : ((r : Int) != 45) = true := bne_iff_ne.2 (by omega)
          clear hrc
          go_wp2_with fail
          refine (fail_calls g (c :: m) f _ HH.out).mono ?_
          rintro e w2 ⟨rfl, i2, o2⟩
          have I2 := Aside0.mk i2
          have O2 := Aside0.mk ((Only.of_below HB2.out [g]).trans o2 (fun k hk => .inl hk))
          clear i2 o2
          go_wp2
          go_ret
          exact ⟨rfl, I2.out, O2.out⟩
theorem ileft_calls (g : Nat) (l : List UInt8) (f : Bool) (w : World) (h : IBlk w g l f) :
    Calls Tryd.prog 30 #[.pointer (some ⟨g, 0, none⟩)] w fun e w' => e = .returned (.int .i64 (l.length : Int)) ∧ w' = w := by
  have c0 := h.cell 0
  have hlt := h.lt
  have hz := str_size l
  obtain ⟨s, hs⟩ : ∃ s, str l = s := ⟨_, rfl⟩
  rw [hs] at c0 hz
  rw [← hz]
  clear h hs hz
  go_enter Tryd.func30, Tryd.ntmps30
  go_wp2
  go_ret
  exact ⟨rfl, rfl⟩
theorem markP_mark (b : Bool) (r : List UInt8) : markP (markT b ++ r) = some (b, r) := by
  cases b <;> rfl
end Go.Proofs.YtmilpfccgggmkaaDoor.Knt

/- Untying subjects that stand there. -/
namespace Go.Proofs.YtmilpfccgggmkaaDoor.Knt
open Go.RowKit Go.Proofs.YtmilpfccgggmkaaDoorW.PrintWords Go.Proofs.YtmilpfccgggmkaaDoor.Arr Go.Proofs.YtmilpfccgggmkaaDoor.Utf Go.Proofs.YtmilpfccgggmkaaDoor.Gly
set_option linter.unusedVariables false
set_option linter.unusedSimpArgs false

theorem textP_text (s : ByteArray) (most : Int) (hs : (s.size : Int) ≤ most) (hz : s.size < 100000000000000000) (r : List UInt8) : textP most (textT s ++ r) = some (s.data.toList, r) := by
  have e : textT s ++ r = numT s.size ++ (s.data.toList ++ (44 :: r)) := by
    unfold textT
    simp
  have hl : s.data.toList.length = s.size := size_list s
  unfold textP
  rw [e, numP_num s.size hz most hs]
  simp only
  rw [List.getElem?_append_right (by omega), hl, Nat.sub_self]
  simp only [List.getElem?_cons_zero, if_true]
  rw [← hl, List.take_left', ← List.drop_drop, List.drop_left']
  · rfl
  · rfl
  · rfl
theorem textP_len {most : Int} {l t m : List UInt8} (h : textP most l = some (t, m)) : m.length < l.length := by
  unfold textP at h
  cases hn : numP most l with
  | none => rw [hn] at h; cases h
  | some nm =>
    obtain ⟨n, k⟩ := nm
    rw [hn] at h
    simp only at h
    have := numP_len hn
    split at h
    · simp only [Option.some.injEq, Prod.mk.injEq] at h
      rw [← h.2, List.length_drop]
      omega
    · cases h
/-- Three texts stand at the front. -/
def Front (l : List UInt8) (a b c : ByteArray) (m : List UInt8) : Prop := ∃ l1 l2, textP 16 l = some (a.data.toList, l1) ∧ textP 96 l1 = some (b.data.toList, l2) ∧ textP 16 l2 = some (c.data.toList, m)
theorem front_sub (a b c : ByteArray) (ha : a.size ≤ 16) (hb : b.size ≤ 96) (hc : c.size ≤ 16) (r : List UInt8) : Front (subT a b c ++ r) a b c r := by
  refine ⟨textT b ++ (textT c ++ r), textT c ++ r, ?_, ?_, ?_⟩
  · have e : subT a b c ++ r = textT a ++ (textT b ++ (textT c ++ r)) := by unfold subT; simp only [List.append_assoc]
    rw [e]
    exact textP_text a 16 (by omega) (by omega) _
  · exact textP_text b 96 (by omega) (by omega) _
  · exact textP_text c 16 (by omega) (by omega) _
theorem itext_ok (g : Nat) (l : List UInt8) (hl : l.length ≤ 140737488355328) (f : Bool) (most : Int) (a : ByteArray) (m : List UInt8) (hp : textP most l = some (a.data.toList, m)) (w : World) (h : IBlk w g l f) :
    Calls Tryd.prog 25 #[.pointer (some ⟨g, 0, none⟩), .int .i64 most] w fun e w' => e = .returned (.string a) ∧ IBlk w' g m f ∧ Only [g] w w' := by
  have K := itext_calls g l hl f most w h
  rw [hp] at K
  refine K.mono ?_
  rintro e w' ⟨rfl, hi, ho⟩
  rw [str_list]
  exact ⟨rfl, hi, ho⟩
set_option maxHeartbeats 4000000 in
set_option maxRecDepth 100000 in
theorem iparts_ok (g : Nat) (l : List UInt8) (hl : l.length ≤ 140737488355328) (f : Bool) (a b c : ByteArray) (m : List UInt8) (hF : Front l a b c m) (w : World) (h : IBlk w g l f) :
    Calls Tryd.prog 38 #[.pointer (some ⟨g, 0, none⟩)] w fun e w' => e = .returned (.agg #[.string a, .string b, .string c]) ∧ IBlk w' g m f ∧ Only [g] w w' := by
  obtain ⟨l1, l2, hp0, hp1, hp2⟩ := hF
  have hz1 := textP_len hp0
  have hz2 := textP_len hp1
  obtain ⟨W0, hW0⟩ : ∃ W0, w.alloc (.cells #[ee, ee, ee] TS) = W0 := ⟨_, rfl⟩
  have b0 : Below w.heap.size w W0 := by rw [← hW0]; exact (Below.refl _ _).alloc (Nat.le_refl _) _
  have hgw := h.lt
  have hne : w.heap.size ≠ g := by omega
  have hnm : w.heap.size ∉ [g] := by simpa using hne
  have O0 := Aside0.mk (Only.of_below b0 [g])
  have R0 := Aside0.mk (show Blk W0 w.heap.size TS #[ee, ee, ee] by rw [← hW0]; exact Blk.new w TS #[ee, ee, ee])
  have H0 := Aside0.mk (h.below b0)
  have P0 := Aside0.mk hp0
  have P1 := Aside0.mk hp1
  have P2 := Aside0.mk hp2
  clear h b0 hp0 hp1 hp2
  go_enter Tryd.func38, Tryd.ntmps38
  go_wp2_with fail
  clear hW0
  refine (itext_ok g l hl f 16 a l1 P0.out W0 H0.out).mono ?_
  rintro e w1 ⟨rfl, i1, o1⟩
  have r1 := R0.out.only o1 hnm
  have o1' := O0.out.trans o1 (fun k hk => .inl hk)
  have d0 : w1.cell? ⟨w.heap.size, 0, none⟩ = some ee := r1.cell 0
  have f0 := r1.frozen 0
  have l0 := r1.lt
  have R1 := Aside0.mk (r1.set 0 (.string a))
  have H1 := Aside0.mk (i1.far (p := ⟨w.heap.size, 0, none⟩) (Ne.symm hne) (.string a))
  have O1 := Aside0.mk (o1'.setCell (p := ⟨w.heap.size, 0, none⟩) (.inr (Nat.le_refl _)) (.string a))
  clear i1 o1 r1 o1' R0 H0 O0
  go_wp2_with fail
  refine (itext_ok g l1 (by omega) f 96 b l2 P1.out _ H1.out).mono ?_
  rintro e w2 ⟨rfl, i2, o2⟩
  clear d0 f0 l0
  have r2 := R1.out.only o2 hnm
  have o2' := O1.out.trans o2 (fun k hk => .inl hk)
  have d0 : w2.cell? ⟨w.heap.size, 1, none⟩ = some ee := r2.cell 1
  have f0 := r2.frozen 1
  have l0 := r2.lt
  have R2 := Aside0.mk (r2.set 1 (.string b))
  have H2 := Aside0.mk (i2.far (p := ⟨w.heap.size, 1, none⟩) (Ne.symm hne) (.string b))
  have O2 := Aside0.mk (o2'.setCell (p := ⟨w.heap.size, 1, none⟩) (.inr (Nat.le_refl _)) (.string b))
  clear i2 o2 r2 o2' R1 H1 O1
  go_wp2_with fail
  refine (itext_ok g l2 (by omega) f 16 c m P2.out _ H2.out).mono ?_
  rintro e w3 ⟨rfl, i3, o3⟩
  clear d0 f0 l0
  have r3 : Blk w3 w.heap.size TS #[.string a, .string b, ee] := R2.out.only o3 hnm
  have o3' := O2.out.trans o3 (fun k hk => .inl hk)
  have f0 := r3.frozen 0
  have f1 := r3.frozen 1
  have f2 := r3.frozen 2
  have d0 := r3.cell 0
  have d1 := r3.cell 1
  have d2 := r3.cell 2
  have l0 := r3.lt
  have R3 := Aside0.mk r3
  have H3 := Aside0.mk i3
  have O3 := Aside0.mk o3'
  clear i3 o3 r3 o3' R2 H2 O2
  go_wp2
  have E := three_blk (R3.out.set 2 (.string c)) (.string a) (.string b) (.string c)
  have e0 := E.cell 0
  have e1 := E.cell 1
  have e2 := E.cell 2
  have ng : ∀ i, g ≠ (⟨w.heap.size, i, none⟩ : Addr).block := fun _ => Ne.symm hne
  have q : ∀ i, (⟨w.heap.size, i, none⟩ : Addr).block ∈ [g] ∨ w.heap.size ≤ (⟨w.heap.size, i, none⟩ : Addr).block := fun _ => .inr (Nat.le_refl _)
  exact bodyPost_ret (v := .agg #[.string a, .string b, .string c]) (by simp [results, Tryd.results38, go_sem, e0, e1, e2]) rfl
    ⟨rfl, (((H3.out.far (ng 2) (.string c)).far (ng 0) (.string a)).far (ng 1) (.string b)).far (ng 2) (.string c), (((O3.out.setCell (q 2) (.string c)).setCell (q 0) (.string a)).setCell (q 1) (.string b)).setCell (q 2) (.string c)⟩
end Go.Proofs.YtmilpfccgggmkaaDoor.Knt

/- The program's layer glyph: Name, Id. -/
namespace Go.Proofs.YtmilpfccgggmkaaDoor.Gly
open Go.RowKit Go.Proofs.YtmilpfccgggmkaaDoorW.PrintWords Go.Proofs.YtmilpfccgggmkaaDoor.Utf
set_option linter.unusedVariables false
set_option linter.unusedSimpArgs false

theorem nameB_no (s : ByteArray) (p : Nat) (hp : p < s.size) (h : nmAll s p = nmAll s 0) (hr : nmR p (gb s p) = false) : nameB s = false := by
  unfold nameB
  rw [← h, nmAll_step s p hp, hr]
  rfl
theorem nameB_end (s : ByteArray) (p : Nat) (hp : ¬ p < s.size) (h : nmAll s p = nmAll s 0) : nameB s = (decide (1 ≤ s.size) && decide (s.size ≤ 16)) := by
  unfold nameB
  rw [← h, nmAll_end s p hp, Bool.true_and]
theorem toList_size (s : ByteArray) : s.toList.length = s.size := by
  rw [Lib.toList_data, Array.length_toList]; rfl
theorem toList_ne (s : ByteArray) (h : s.size ≠ 0) : s.toList ≠ [] := fun e => h (by rw [← toList_size, e]; rfl)
theorem toList_nil (s : ByteArray) (h : s.size = 0) : s.toList = [] := List.eq_nil_of_length_eq_zero (by rw [toList_size]; exact h)

set_option maxHeartbeats 4000000 in
set_option maxRecDepth 100000 in
theorem name_calls (s : ByteArray) (hs : s.size ≤ 9223372036854775807) (w : World) :
    Calls Tryd.prog 49 #[.string s] w fun e w' => e = .returned (.bool (nameB s)) ∧ Below w.heap.size w w' := by
  go_enter Tryd.func49, Tryd.ntmps49
  go_wp2
  go_loopw [7] (fun v7 wr => ∃ pos : Nat, wr.heap[w.heap.size]? = some (.stringIter s pos) ∧ Aside0 (nmAll s pos = nmAll s 0) ∧ Below w.heap.size w wr) (fun _ wr => s.size - wr.iterPos w.heap.size)
  case atStart => exact ⟨0, World.iter_heap w s 0, ⟨rfl⟩, (Below.refl _ _).alloc (Nat.le_refl _) _⟩
  case round =>
    obtain ⟨pos, hit, hv, hb⟩ := hrel
    have hpos := iterPos_of hit
    by_cases hp : pos < s.size
    · have hnx : ∀ ty, (Instr.next (.pointer (some ⟨w.heap.size, 0, none⟩)) true ty).run Tryd.prog wr = _ := fun ty => Lib.run_next_any_at wr w.heap.size s pos ty hit hp
      have hw := dec_w s pos hp
      have hit2 := Lib.iterAt_heap wr w.heap.size s pos (pos + (Utf8.decode s pos).2) hit
      have hb2 := Lib.below_iterAt hb (Nat.le_refl _) s (pos + (Utf8.decode s pos).2)
      have hnd := nm_dec s pos pos
      have hno := fun h => nameB_no s pos hp hv.out h
      have hyes : nmR pos (Utf8.decode s pos).1 = true → nmAll s (pos + (Utf8.decode s pos).2) = nmAll s 0 := fun h => by
        rw [nm_one s pos pos h, ← hv.out, nmAll_step s pos hp, ← hnd, h, Bool.true_and]
      rw [← hnd] at hno
      clear hnd
      have NO := Aside0.mk hno
      have YES := Aside0.mk hyes
      have HP := Aside0.mk hpos
      have HI := Aside0.mk hit2
      have HW := Aside0.mk hw
      clear hno hyes hpos hit hit2 hv hw
      generalize (Utf8.decode s pos).1 = r at *
      generalize (Utf8.decode s pos).2 = n at *
      have hstep : ∀ (u : Value) (W : World), Below (wr.iterAt w.heap.size s (pos + n)).heap.size (wr.iterAt w.heap.size s (pos + n)) W → W.heap[w.heap.size]? = some (.stringIter s (pos + n)) := fun _ W h => (h.block _ (by have := HI.out; exact (Array.getElem?_eq_some_iff.1 this).1)).trans HI.out
      have HSTEP := Aside0.mk hstep
      clear hstep
      cases hsm : smallR r with
      | true =>
        have hz := YES.out (by unfold nmR; rw [hsm]; rfl)
        have HZ := Aside0.mk hz
        have HS := Aside0.mk hsm
        clear hz hsm
        go_wp2_with (go_at_call 55; refine (small_as true r HS.out _).mono ?_; rintro e w1 ⟨rfl, hb3⟩)
        have hI3 := HSTEP.out undef w1 hb3
        go_roundw
        case rel => exact ⟨_, hI3, HZ, hb2.trans (hb3.mono hb2.size)⟩
        case measure =>
          have := HW.out
          rw [iterPos_of hI3, HP.out]
          omega
      | false =>
        have HS := Aside0.mk hsm
        by_cases h0 : 0 < pos
        · have t0 : decide ((pos : Int) > 0) = true := decide_eq_true (by omega)
          by_cases h1 : 48 ≤ r
          · have t1 : decide ((r : Int) ≥ 48) = true := decide_eq_true (by omega)
            by_cases h2 : r ≤ 57
            · have t2 : decide ((r : Int) ≤ 57) = true := decide_eq_true (by omega)
              have hz := YES.out (by unfold nmR; rw [hsm, decide_eq_true h0, decide_eq_true h1, decide_eq_true h2]; rfl)
              have HZ := Aside0.mk hz
              clear hz hsm h1 h2
              go_wp2_with (go_at_call 55; refine (small_as false r HS.out _).mono ?_; rintro e w1 ⟨rfl, hb3⟩)
              have hI3 := HSTEP.out undef w1 hb3
              go_roundw
              case rel => exact ⟨_, hI3, HZ, hb2.trans (hb3.mono hb2.size)⟩
              case measure =>
                have := HW.out
                rw [iterPos_of hI3, HP.out]
                omega
            · have t2 : decide ((r : Int) ≤ 57) = false := decide_eq_false (by omega)
              by_cases h3 : r = 95
              · have t3 : ((r : Int) == 95) = true := beq_iff_eq.2 (by omega)
                have hz := YES.out (by unfold nmR; rw [hsm, decide_eq_true h0, beq_iff_eq.2 h3]; simp)
                have HZ := Aside0.mk hz
                clear hz hsm h1 h2 h3
                go_wp2_with (go_at_call 55; refine (small_as false r HS.out _).mono ?_; rintro e w1 ⟨rfl, hb3⟩)
                have hI3 := HSTEP.out undef w1 hb3
                go_roundw
                case rel => exact ⟨_, hI3, HZ, hb2.trans (hb3.mono hb2.size)⟩
                case measure =>
                  have := HW.out
                  rw [iterPos_of hI3, HP.out]
                  omega
              · have t3 : ((r : Int) == 95) = false := beq_eq_false_iff_ne.2 (by omega)
                have hz := NO.out (by unfold nmR; rw [hsm, decide_eq_false h2, beq_eq_false_iff_ne.2 h3]; simp)
                have HZ := Aside0.mk hz
                clear hz hsm h1 h2 h3
                go_wp2_with (go_at_call 55; refine (small_as false r HS.out _).mono ?_; rintro e w1 ⟨rfl, hb3⟩)
                go_ret
                exact ⟨ret_bool HZ.out.symm, hb2.trans (hb3.mono hb2.size)⟩
          · have t1 : decide ((r : Int) ≥ 48) = false := decide_eq_false (by omega)
            have t3 : ((r : Int) == 95) = false := beq_eq_false_iff_ne.2 (by omega)
            have hz := NO.out (by unfold nmR; rw [hsm, decide_eq_false h1, beq_eq_false_iff_ne.2 (show r ≠ 95 by omega)]; simp)
            have HZ := Aside0.mk hz
            clear hz hsm h1
            go_wp2_with (go_at_call 55; refine (small_as false r HS.out _).mono ?_; rintro e w1 ⟨rfl, hb3⟩)
            go_ret
            exact ⟨ret_bool HZ.out.symm, hb2.trans (hb3.mono hb2.size)⟩
        · have t0 : decide ((pos : Int) > 0) = false := decide_eq_false (by omega)
          have hz := NO.out (by unfold nmR; rw [hsm, decide_eq_false h0]; rfl)
          have HZ := Aside0.mk hz
          clear hz hsm
          go_wp2_with (go_at_call 55; refine (small_as false r HS.out _).mono ?_; rintro e w1 ⟨rfl, hb3⟩)
          go_ret
          exact ⟨ret_bool HZ.out.symm, hb2.trans (hb3.mono hb2.size)⟩
    · have hnx : ∀ ty, (Instr.next (.pointer (some ⟨w.heap.size, 0, none⟩)) true ty).run Tryd.prog wr = _ := fun ty => Lib.run_next_end_at wr w.heap.size s pos ty hit hp
      have hz := nameB_end s pos hp hv.out
      have HZ := Aside0.mk hz
      clear hz hv hit hpos hp
      by_cases h0 : s.size = 0
      · have t0 := toList_nil s h0
        go_wp2
        go_ret
        exact ⟨ret_bool (by rw [HZ.out, h0]; rfl), hb⟩
      · have t0 := toList_ne s h0
        have t2 : s.toList.isEmpty = false := by
          cases hl : s.toList with
          | nil => exact absurd hl t0
          | cons _ _ => rfl
        have t1 : decide ((s.size : Int) ≤ 16) = decide (s.size ≤ 16) := by rw [decide_eq_decide]; omega
        have T1 := Aside0.mk t1
        clear t1
        go_wp2
        go_ret
        exact ⟨ret_bool (by rw [HZ.out, decide_eq_true (show 1 ≤ s.size by omega), Bool.true_and, ← T1.out]), hb⟩

theorem count_good (s : ByteArray) (hs : s.size ≤ 9223372036854775807) (hv : validB s = true) (w : World) (hT : Tabs w) :
    Calls Tryd.prog 61 #[.string s] w fun e w' => e = .returned (.tuple #[.int .i64 (cnt s : Int), .int .i64 0]) ∧ Below w.heap.size w w' := by
  have := count_calls s hs w hT
  rwa [hv, if_pos rfl, if_pos rfl] at this
theorem count_bad (s : ByteArray) (hs : s.size ≤ 9223372036854775807) (hv : validB s = false) (w : World) (hT : Tabs w) :
    Calls Tryd.prog 61 #[.string s] w fun e w' => e = .returned (.tuple #[.int .i64 0, .int .i64 4]) ∧ Below w.heap.size w w' := by
  have := count_calls s hs w hT
  rwa [hv, if_neg (by decide), if_neg (by decide)] at this
theorem idB_no (s : ByteArray) (p : Nat) (hp : p < s.size) (h : plainT s p = plainT s 0) (hr : plainR (Utf8.decode s p).1 = false) : idB s = false := by
  unfold idB
  rw [← h, plainT_step s p hp, hr, Bool.false_and, Bool.and_false]
theorem idB_end (s : ByteArray) (p : Nat) (hp : ¬ p < s.size) (h : plainT s p = plainT s 0) (hv : validB s = true) (h1 : 1 ≤ cnt s) (h2 : cnt s ≤ 24) : idB s = true := by
  unfold idB
  rw [← h, plainT_end s p hp, hv, decide_eq_true h1, decide_eq_true h2]
  rfl

set_option maxHeartbeats 4000000 in
set_option maxRecDepth 100000 in
theorem id_calls (s : ByteArray) (hs : s.size ≤ 9223372036854775807) (w : World) (hT : Tabs w) :
    Calls Tryd.prog 54 #[.string s] w fun e w' => e = .returned (.bool (idB s)) ∧ Below w.heap.size w w' := by
  have HT := Aside0.mk hT
  clear hT
  cases hv : validB s with
  | false =>
    have hz : idB s = false := by unfold idB; rw [hv]; rfl
    have HC := Aside0.mk (count_bad s hs hv w HT.out)
    rw [hz]
    clear hz hv
    go_enter Tryd.func54, Tryd.ntmps54
    go_wp2_with (go_at_call 61; refine HC.out.mono ?_; rintro e w1 ⟨rfl, hb⟩)
    go_ret
    exact ⟨rfl, hb⟩
  | true =>
    have HC := Aside0.mk (count_good s hs hv w HT.out)
    have HV := Aside0.mk hv
    have hid : idB s = ((decide (1 ≤ cnt s) && decide (cnt s ≤ 24)) && plainT s 0) := by unfold idB; rw [hv, Bool.true_and]
    have hcl := cnt_le s
    clear hv
    by_cases h1 : 1 ≤ cnt s
    · have t1 : decide ((cnt s : Int) < 1) = false := decide_eq_false (by omega)
      by_cases h2 : cnt s ≤ 24
      · have t2 : decide ((cnt s : Int) > 24) = false := decide_eq_false (by omega)
        clear hid
        have END := fun p hp h => Aside0.mk (idB_end s p hp h HV.out h1 h2)
        have END' := Aside0.mk END
        clear END
        obtain ⟨c, hc⟩ : ∃ c, c = cnt s := ⟨_, rfl⟩
        rw [← hc] at t1 t2 h1 h2 hcl HC
        clear hc
        go_enter Tryd.func54, Tryd.ntmps54
        go_wp2_with (go_at_call 61; refine HC.out.mono ?_; rintro e w1 ⟨rfl, hb0⟩)
        go_loopw [24] (fun v24 wr => ∃ pos : Nat, wr.heap[w1.heap.size]? = some (.stringIter s pos) ∧ Aside0 (plainT s pos = plainT s 0) ∧ Below w1.heap.size w1 wr) (fun _ wr => s.size - wr.iterPos w1.heap.size)
        case atStart => exact ⟨0, World.iter_heap w1 s 0, ⟨rfl⟩, (Below.refl _ _).alloc (Nat.le_refl _) _⟩
        case round =>
          obtain ⟨pos, hit, hv, hb⟩ := hrel
          have hpos := iterPos_of hit
          by_cases hp : pos < s.size
          · have hnx : ∀ ty, (Instr.next (.pointer (some ⟨w1.heap.size, 0, none⟩)) true ty).run Tryd.prog wr = _ := fun ty => Lib.run_next_any_at wr w1.heap.size s pos ty hit hp
            have hw := dec_w s pos hp
            have hst := plainT_step s pos hp
            have hno := idB_no s pos hp hv.out
            have hit2 := Lib.iterAt_heap wr w1.heap.size s pos (pos + (Utf8.decode s pos).2) hit
            have hb2 := Lib.below_iterAt hb (Nat.le_refl _) s (pos + (Utf8.decode s pos).2)
            cases hpl : plainR (Utf8.decode s pos).1 with
            | true =>
              rw [hpl, Bool.true_and] at hst
              have HZ := Aside0.mk (hst.symm.trans hv.out)
              have HPL := Aside0.mk hpl
              have HP := Aside0.mk hpos
              have HI := Aside0.mk hit2
              have HW := Aside0.mk hw
              clear hst hpl hv hit hpos hit2 hno hw
              go_wp2_with (go_at_call 62; refine (plain_as true _ HPL.out _).mono ?_; rintro e w2 ⟨rfl, hb3⟩)
              have hI3 := (hb3.block _ (by have := HI.out; exact (Array.getElem?_eq_some_iff.1 this).1)).trans HI.out
              go_roundw
              case rel => exact ⟨_, hI3, HZ, hb2.trans (hb3.mono hb2.size)⟩
              case measure =>
                have := HW.out
                rw [iterPos_of hI3, HP.out]
                omega
            | false =>
              have HZ := Aside0.mk (hno hpl)
              have HPL := Aside0.mk hpl
              clear hst hpl hv hit hpos hit2 hno hw
              go_wp2_with (go_at_call 62; refine (plain_as false _ HPL.out _).mono ?_; rintro e w2 ⟨rfl, hb3⟩)
              go_ret
              exact ⟨ret_bool HZ.out.symm, hb0.trans ((hb2.trans (hb3.mono hb2.size)).mono hb0.size)⟩
          · have hnx : ∀ ty, (Instr.next (.pointer (some ⟨w1.heap.size, 0, none⟩)) true ty).run Tryd.prog wr = _ := fun ty => Lib.run_next_end_at wr w1.heap.size s pos ty hit hp
            have HZ := END'.out pos hp hv.out
            clear hv hit hpos hp
            go_wp2
            go_ret
            exact ⟨ret_bool HZ.out.symm, hb0.trans (hb.mono hb0.size)⟩
      · have t2 : decide ((cnt s : Int) > 24) = true := decide_eq_true (by omega)
        rw [decide_eq_false h2, Bool.and_false, Bool.false_and] at hid
        rw [hid]
        clear hid
        go_enter Tryd.func54, Tryd.ntmps54
        go_wp2_with (go_at_call 61; refine HC.out.mono ?_; rintro e w1 ⟨rfl, hb⟩)
        go_ret
        exact ⟨rfl, hb⟩
    · have t1 : decide ((cnt s : Int) < 1) = true := decide_eq_true (by omega)
      rw [decide_eq_false h1, Bool.false_and, Bool.false_and] at hid
      rw [hid]
      clear hid
      obtain ⟨c, hc⟩ : ∃ c, c = cnt s := ⟨_, rfl⟩
      rw [← hc] at t1 h1 hcl HC
      clear hc
      go_enter Tryd.func54, Tryd.ntmps54
      go_wp2_with (go_at_call 61; refine HC.out.mono ?_; rintro e w1 ⟨rfl, hb⟩)
      go_ret
      exact ⟨rfl, hb⟩
end Go.Proofs.YtmilpfccgggmkaaDoor.Gly

/- Subjects and objects: plain facts on cutting and on texts. No program. -/
namespace Go.Proofs.YtmilpfccgggmkaaDoor.Utf
open Go.Proofs.YtmilpfccgggmkaaDoorW.PrintWords
set_option linter.unusedVariables false
set_option linter.unusedSimpArgs false

/-! ### the first such byte -/
def ix (s : ByteArray) (c : Nat) : Nat := ((List.range s.size).find? fun i => gb s i == c).getD s.size
theorem ix_spec (s : ByteArray) (c : Nat) : ix s c ≤ s.size ∧ (∀ j, j < ix s c → gb s j ≠ c) ∧ (ix s c < s.size → gb s (ix s c) = c) := by
  unfold ix
  cases h : (List.range s.size).find? fun i => gb s i == c with
  | none =>
    rw [List.find?_eq_none] at h
    refine ⟨Nat.le_refl _, fun j hj => ?_, fun hh => absurd hh (Nat.lt_irrefl _)⟩
    have := h j (by simpa using hj)
    simpa using this
  | some k =>
    rw [List.find?_range_eq_some] at h
    obtain ⟨h1, h2, h3⟩ := h
    simp only [Option.getD_some]
    have h2' : k < s.size := by simpa using h2
    refine ⟨Nat.le_of_lt h2', fun j hj => ?_, fun _ => by simpa using h1⟩
    have := h3 j hj
    simpa using this
theorem ix_hit (s : ByteArray) (c k : Nat) (hk : k < s.size) (h : gb s k = c) (hno : ∀ j, j < k → gb s j ≠ c) : ix s c = k := by
  obtain ⟨a, b, d⟩ := ix_spec s c
  by_cases h1 : ix s c < k
  · exact absurd (d (by omega)) (hno _ h1)
  · by_cases h2 : k < ix s c
    · exact absurd h (b k h2)
    · omega
theorem ix_none (s : ByteArray) (c : Nat) (hno : ∀ j, j < s.size → gb s j ≠ c) : ix s c = s.size := by
  obtain ⟨a, b, d⟩ := ix_spec s c
  by_cases h1 : ix s c < s.size
  · exact absurd (d h1) (hno _ h1)
  · omega
def cutA (s : ByteArray) (c : Nat) : ByteArray := if ix s c < s.size then s.extract 0 (ix s c) else s
def cutB (s : ByteArray) (c : Nat) : ByteArray := if ix s c < s.size then s.extract (ix s c + 1) s.size else ⟨#[]⟩
def cutOk (s : ByteArray) (c : Nat) : Bool := decide (ix s c < s.size)
theorem cutA_size (s : ByteArray) (c : Nat) : (cutA s c).size ≤ s.size := by
  unfold cutA
  split
  · rw [ByteArray.size_extract]; omega
  · exact Nat.le_refl _
theorem cutB_size (s : ByteArray) (c : Nat) : (cutB s c).size ≤ s.size := by
  unfold cutB
  split
  · rw [ByteArray.size_extract]; omega
  · exact Nat.zero_le _
/-- A rune below 128 is its byte; behind another one no byte is such. -/
theorem dec_is (s : ByteArray) (p c : Nat) (hc : c < 128) : (Utf8.decode s p).1 = c ↔ gb s p = c := by
  by_cases h : gb s p < 128
  · rw [dec_ascii s p h]
  · have := dec_high s p (by omega)
    omega
theorem dec_not (s : ByteArray) (p c : Nat) (hc : c < 128) (h : (Utf8.decode s p).1 ≠ c) : ∀ j, p ≤ j → j < p + (Utf8.decode s p).2 → gb s j ≠ c := by
  intro j h1 h2
  by_cases hg : gb s p < 128
  · rw [dec_ascii s p hg] at h2 h
    simp only at h2 h
    obtain rfl : j = p := by omega
    exact h
  · have := dec_bytes s p j (by omega) h1 h2
    omega

/-! ### bytes put behind each other -/
theorem gb_append (a b : ByteArray) (i : Nat) : gb (a ++ b) i = if i < a.size then gb a i else gb b (i - a.size) := by
  by_cases h : i < a.size
  · rw [if_pos h, ← gb_get _ _ (show i < (a ++ b).size by rw [ByteArray.size_append]; omega), ← gb_get _ _ h]
    exact congrArg UInt8.toNat (ByteArray.getElem_append_left h)
  · rw [if_neg h]
    by_cases h2 : i < (a ++ b).size
    · have h3 : i - a.size < b.size := by rw [ByteArray.size_append] at h2; omega
      rw [← gb_get _ _ h2, ← gb_get _ _ h3]
      exact congrArg UInt8.toNat (ByteArray.getElem_append_right (by omega))
    · rw [ByteArray.size_append] at h2
      rw [gb_out _ _ (by rw [ByteArray.size_append]; omega), gb_out _ _ (by omega)]
def one (c : UInt8) : ByteArray := ⟨#[c]⟩
theorem one_size (c : UInt8) : (one c).size = 1 := rfl
theorem gb_one (c : UInt8) : gb (one c) 0 = c.toNat := rfl
theorem cut_parts (s : ByteArray) (c : UInt8) (h : cutOk s c.toNat = true) : s = (cutA s c.toNat ++ one c) ++ cutB s c.toNat := by
  have hl : ix s c.toNat < s.size := of_decide_eq_true h
  obtain ⟨_, _, hd⟩ := ix_spec s c.toNat
  have hg := hd hl
  unfold cutA cutB
  rw [if_pos hl, if_pos hl]
  have hz : ((s.extract 0 (ix s c.toNat) ++ one c) ++ s.extract (ix s c.toNat + 1) s.size).size = s.size := by
    simp only [ByteArray.size_append, ByteArray.size_extract, one_size]; omega
  apply ext_gb _ _ hz.symm
  intro i hi
  have hz1 : (s.extract 0 (ix s c.toNat)).size = ix s c.toNat := by rw [ByteArray.size_extract]; omega
  rw [gb_append, gb_append]
  simp only [ByteArray.size_append, hz1, one_size]
  by_cases h1 : i < ix s c.toNat
  · rw [if_pos (by omega), if_pos h1, gb_extract s 0 _ _ (by omega) (by omega), Nat.zero_add]
  · by_cases h2 : i = ix s c.toNat
    · rw [if_pos (by omega), if_neg h1, h2, Nat.sub_self, gb_one, hg]
    · rw [if_neg (by omega), gb_extract s _ _ _ (by omega) (Nat.le_refl _)]
      congr 1
      omega
theorem cut_none (s : ByteArray) (c : Nat) (h : cutOk s c = false) : cutA s c = s ∧ cutB s c = ⟨#[]⟩ := by
  have hl : ¬ ix s c < s.size := of_decide_eq_false h
  unfold cutA cutB
  rw [if_neg hl, if_neg hl]
  exact ⟨rfl, rfl⟩
theorem cut_append (a b : ByteArray) (c : UInt8) (h : ∀ j, j < a.size → gb a j ≠ c.toNat) : cutA ((a ++ one c) ++ b) c.toNat = a ∧ cutB ((a ++ one c) ++ b) c.toNat = b ∧ cutOk ((a ++ one c) ++ b) c.toNat = true := by
  have hz : ((a ++ one c) ++ b).size = a.size + 1 + b.size := by simp only [ByteArray.size_append, one_size]
  have hi : ix ((a ++ one c) ++ b) c.toNat = a.size := by
    refine ix_hit _ _ _ (by omega) ?_ (fun j hj => ?_)
    · rw [gb_append, ByteArray.size_append, one_size, if_pos (by omega), gb_append, if_neg (by omega), Nat.sub_self, gb_one]
    · rw [gb_append, ByteArray.size_append, one_size, if_pos (by omega), gb_append, if_pos hj]
      exact h j hj
  unfold cutA cutB cutOk
  rw [hi, hz, if_pos (by omega), if_pos (by omega), decide_eq_true (by omega)]
  refine ⟨?_, ?_, rfl⟩
  · have hz1 : (((a ++ one c) ++ b).extract 0 a.size).size = a.size := by rw [ByteArray.size_extract, hz]; omega
    apply ext_gb _ _ hz1
    intro i hi
    rw [hz1] at hi
    rw [gb_extract _ 0 _ _ (by omega) (by omega), Nat.zero_add, gb_append, ByteArray.size_append, one_size, if_pos (by omega), gb_append, if_pos hi]
  · have hz1 : (((a ++ one c) ++ b).extract (a.size + 1) (a.size + 1 + b.size)).size = b.size := by rw [ByteArray.size_extract, hz]; omega
    apply ext_gb _ _ hz1
    intro i hi
    rw [hz1] at hi
    rw [gb_extract _ _ _ _ (by omega) (by omega), gb_append, ByteArray.size_append, one_size, if_neg (by omega)]
    congr 1
    omega
theorem cut_absent (a : ByteArray) (c : Nat) (h : ∀ j, j < a.size → gb a j ≠ c) : cutA a c = a ∧ cutB a c = ⟨#[]⟩ ∧ cutOk a c = false := by
  have hi := ix_none a c h
  unfold cutA cutB cutOk
  rw [hi, if_neg (Nat.lt_irrefl _), if_neg (Nat.lt_irrefl _)]
  exact ⟨rfl, rfl, decide_eq_false (Nat.lt_irrefl _)⟩

/-! ### which bytes names and ids have -/
theorem name_byte (s : ByteArray) (h : nameB s = true) (j : Nat) (hj : j < s.size) : (97 ≤ gb s j ∧ gb s j ≤ 122) ∨ (48 ≤ gb s j ∧ gb s j ≤ 57) ∨ gb s j = 95 := by
  unfold nameB nmAll at h
  simp only [Bool.and_eq_true, List.all_eq_true, List.mem_range, Bool.or_eq_true, decide_eq_true_eq] at h
  rcases h.1 j hj with h1 | h1
  · omega
  · unfold nmR smallR at h1
    simp at h1
    omega
theorem name_ne (s : ByteArray) (h : nameB s = true) (c : Nat) (hc : c < 48 ∨ (57 < c ∧ c < 95) ∨ 122 < c) : ∀ j, j < s.size → gb s j ≠ c := by
  intro j hj
  have := name_byte s h j hj
  omega
theorem name_size (s : ByteArray) (h : nameB s = true) : 1 ≤ s.size ∧ s.size ≤ 16 := by
  unfold nameB at h
  simp only [Bool.and_eq_true, decide_eq_true_eq] at h
  exact h.2
theorem plainT_ne (s : ByteArray) (c : Nat) (hc : c < 128) (hp : plainR c = false) : ∀ p, plainT s p = true → ∀ j, p ≤ j → j < s.size → gb s j ≠ c := by
  apply tail_ind s
  · intro p h _ j h1 h2; omega
  · intro p h ih hpl j h1 h2
    rw [plainT_step s p h, Bool.and_eq_true] at hpl
    have hne : (Utf8.decode s p).1 ≠ c := fun e => by rw [e, hp] at hpl; cases hpl.1
    by_cases h3 : j < p + (Utf8.decode s p).2
    · exact dec_not s p c hc hne j h1 h3
    · exact ih hpl.2 j (by omega) h2
theorem id_ne (s : ByteArray) (h : idB s = true) (c : Nat) (hc : c < 128) (hp : plainR c = false) : ∀ j, j < s.size → gb s j ≠ c := by
  intro j hj
  unfold idB at h
  simp only [Bool.and_eq_true] at h
  exact plainT_ne s c hc hp 0 h.2 j (Nat.zero_le _) hj
theorem id_size (s : ByteArray) (h : idB s = true) : 1 ≤ s.size := by
  unfold idB at h
  simp only [Bool.and_eq_true, decide_eq_true_eq] at h
  have := cnt_le s
  omega
end Go.Proofs.YtmilpfccgggmkaaDoor.Utf
