/- Texts of this claim, merged: Qw, Qn. -/
import Derived.Test.YtddhngalokmdoaaMgBase4
/- Regions that draw their order, whose calls and new variables hand back what is new: each operation tells what it yields by a relation that stands under what only makes memory. Any program. -/
namespace Go.Proofs.Ytddhngalokmdoaa.Qw
open Go.RowKit Go.Proofs.Ytddhngalokmdoaa.Arr
set_option linter.unusedVariables false
set_option linter.unusedSimpArgs false
section
variable {P : Program} {ops : Array Oper} {md : Region.Mode} {S : FuncId → Array Value → Value → World → Prop} {E0 : World → Prop}

/-- It stands under what only makes memory. -/
def Stb (F : World → Prop) : Prop := ∀ w w', F w → Below w.heap.size w w' → F w'
def up (F : Nat → World → Prop) (i : Nat) (R : World → Prop) : Nat → World → Prop := fun k => if k = i then R else F k
theorem up_same (F : Nat → World → Prop) (i : Nat) (R : World → Prop) : up F i R i = R := by simp [up]
theorem up_ne (F : Nat → World → Prop) {i k : Nat} (R : World → Prop) (h : k ≠ i) : up F i R k = F k := by simp [up, h]
/-- What an operation yields; a call's tells S. -/
def rUpon (P : Program) (S : FuncId → Array Value → Value → World → Prop) (w : World) (R : Value → World → Prop) : Result Next → Prop
  | .ok (.value u) w' => Below w.heap.size w w' ∧ R u w'
  | .ok (.enter f args) w' => w' = w ∧ R = S f args ∧ Calls P f args w (fun e w'' => ∃ u, e = .returned u ∧ Below w.heap.size w w'' ∧ S f args u w'')
  | _ => False
def Gives (P : Program) (md : Region.Mode) (ops : Array Oper) (S : FuncId → Array Value → Value → World → Prop) (E0 : World → Prop) (F : Nat → World → Prop) (o : Oper) (a : Act) (R : Value → World → Prop) : Prop :=
  (Region.wanted o (yielded ops a.tmps) = true ∧ (∀ u, Stb (R u)) ∧ ∀ w, E0 w → (∀ e ∈ o.after, Region.binds md e = true → F e.on w) → rUpon P S w R ((execOp a.eval o).run P w)) ∨
  (Region.wanted o (yielded ops a.tmps) = false ∧ R = fun u _ => u = undef)
def Val (E0 : World → Prop) (F : Nat → World → Prop) (R : Value → World → Prop) (u : Value) : Prop := ∃ w, E0 w ∧ (∀ k, F k w) ∧ R u w
theorem Gives.stb {F : Nat → World → Prop} {o : Oper} {a : Act} {R : Value → World → Prop} (h : Gives P md ops S E0 F o a R) (u : Value) : Stb (R u) := by
  rcases h with h | h
  · exact h.2.1 u
  · rw [h.2]; exact fun _ _ e _ => e
theorem Gives.mono {F F' : Nat → World → Prop} {o : Oper} {a : Act} {R : Value → World → Prop} (h : Gives P md ops S E0 F o a R) (hF : ∀ k w, F' k w → F k w) : Gives P md ops S E0 F' o a R := by
  rcases h with h | h
  · exact .inl ⟨h.1, h.2.1, fun w hw hp => h.2.2 w hw fun e he hb => hF _ _ (hp e he hb)⟩
  · exact .inr h
theorem Gives.inh (hE : Stb E0) {F : Nat → World → Prop} (hF : ∀ k, Stb (F k)) {o : Oper} {a : Act} {R : Value → World → Prop} (h : Gives P md ops S E0 F o a R) (hi : ∃ w, E0 w ∧ ∀ k, F k w) : ∃ u, Val E0 F R u := by
  obtain ⟨w, hw, hk⟩ := hi
  rcases h with ⟨_, _, h⟩ | ⟨_, rfl⟩
  · have h1 := h w hw fun e _ _ => hk _
    generalize (execOp a.eval o).run P w = r at h1
    cases r with
    | ok nx w' =>
      cases nx <;> simp only [rUpon] at h1
      case value u => exact ⟨u, w', hE _ _ hw h1.1, fun k => hF k _ _ (hk k) h1.1, h1.2⟩
      case enter f args =>
        obtain ⟨_, hR, hc⟩ := h1
        obtain ⟨e, w'', fr, ⟨u, _, hb, hs⟩, _⟩ := hc []
        exact ⟨u, w'', hE _ _ hw hb, fun k => hF k _ _ (hk k) hb, by rw [hR]; exact hs⟩
    | halt x w' => simp only [rUpon] at h1
  · exact ⟨undef, w, hw, hk, rfl⟩

def opS (P : Program) (md : Region.Mode) (ops : Array Oper) (S : FuncId → Array Value → Value → World → Prop) (E0 : World → Prop) (i : Nat) (K : Act → (Nat → World → Prop) → Prop) (a : Act) (F : Nat → World → Prop) : Prop :=
  ∃ o, ops[i]? = some o ∧ ∃ R, Gives P md ops S E0 F o a R ∧ ∀ u, Val E0 F R u → K (a.put o.dst u) (up F i (R u))
def anyS (P : Program) (md : Region.Mode) (ops : Array Oper) (S : FuncId → Array Value → Value → World → Prop) (E0 : World → Prop) (n : Nat) (L : Array Bool → Act → (Nat → World → Prop) → Prop) : Nat → Array Bool → Act → (Nat → World → Prop) → Prop
  | 0, listed, a, F => L listed a F
  | f + 1, listed, a, F => Region.ready md ops listed ≠ [] ∧ ∀ i ∈ Region.ready md ops listed, i < n ∧ opS P md ops S E0 i (fun a' F' => anyS P md ops S E0 n L f (listed.setIfInBounds i true) a' F') a F

theorem up_mono {F F' : Nat → World → Prop} (hF : ∀ k w, F' k w → F k w) (i : Nat) (R : World → Prop) : ∀ k w, up F' i R k w → up F i R k w := by
  intro k w h
  by_cases hk : k = i
  · subst hk; rw [up_same] at h ⊢; exact h
  · rw [up_ne _ _ hk] at h ⊢; exact hF k w h
theorem anyS_mono {n : Nat} {L : Array Bool → Act → (Nat → World → Prop) → Prop} (hL : ∀ listed a F F', (∀ k w, F' k w → F k w) → L listed a F → L listed a F') :
    ∀ (f : Nat) (listed : Array Bool) (a : Act) (F F' : Nat → World → Prop), (∀ k w, F' k w → F k w) → anyS P md ops S E0 n L f listed a F → anyS P md ops S E0 n L f listed a F'
  | 0, listed, a, F, F', hF, h => hL _ _ _ _ hF h
  | f + 1, listed, a, F, F', hF, h => ⟨h.1, fun i hi => ⟨(h.2 i hi).1, by
    obtain ⟨o, ho, R, hg, hk⟩ := (h.2 i hi).2
    exact ⟨o, ho, R, hg.mono hF, fun u hu => anyS_mono hL f _ _ _ _ (up_mono hF i (R u)) (hk u (by obtain ⟨w, h1, h2, h3⟩ := hu; exact ⟨w, h1, fun k => hF _ _ (h2 k), h3⟩))⟩⟩⟩

theorem up_stb {F : Nat → World → Prop} (hF : ∀ k, Stb (F k)) {i : Nat} {R : World → Prop} (hR : Stb R) : ∀ k, Stb (up F i R k) := by
  intro k
  by_cases hk : k = i
  · subst hk; rw [up_same]; exact hR
  · rw [up_ne _ _ hk]; exact hF k
theorem up_all {F : Nat → World → Prop} {i : Nat} {R : World → Prop} {w : World} (hF : ∀ k, F k w) (hR : R w) : ∀ k, up F i R k w := by
  intro k
  by_cases hk : k = i
  · subst hk; rw [up_same]; exact hR
  · rw [up_ne _ _ hk]; exact hF k
theorem any_of_S (hE : Stb E0) {n g : Nat} {L : Array Bool → Act → (Nat → World → Prop) → Prop} {Q' : Exit → Act → World → Prop}
    (hL : ∀ listed a F w, (∀ k, Stb (F k)) → E0 w → (∀ k, F k w) → L listed a F → wpAny P md ops Q' g listed a w) :
    ∀ (f : Nat) (listed : Array Bool) (a : Act) (F : Nat → World → Prop) (w : World), (∀ k, Stb (F k)) → E0 w → (∀ k, F k w) → anyS P md ops S E0 n L f listed a F → wpAny P md ops Q' (f + g) listed a w
  | 0, listed, a, F, w, hF, hw, hk, h => by rw [Nat.zero_add]; exact hL _ _ _ _ hF hw hk h
  | f + 1, listed, a, F, w, hF, hw, hk, h => by
    rw [show f + 1 + g = (f + g) + 1 by omega]
    refine ⟨fun h0 => absurd h0 h.1, fun i hi => ?_⟩
    obtain ⟨o, ho, R, hg, hK⟩ := (h.2 i hi).2
    unfold wpOp
    simp only [ho]
    have next : ∀ u w', Below w.heap.size w w' → R u w' → wpAny P md ops Q' (f + g) (listed.setIfInBounds i true) (a.put o.dst u) w' := fun u w' hb hr =>
      any_of_S hE hL f _ _ _ w' (up_stb hF (hg.stb u)) (hE _ _ hw hb) (up_all (fun k => hF k _ _ (hk k) hb) hr) (hK u ⟨w', hE _ _ hw hb, fun k => hF k _ _ (hk k) hb, hr⟩)
    rcases hg with ⟨hwt, _, hx⟩ | ⟨hwt, hR⟩
    · simp only [hwt, if_true]
      refine .inl ?_
      have h3 := hx w hw fun e _ _ => hk _
      unfold Oper.wp
      generalize (execOp a.eval o).run P w = r at h3
      cases r with
      | ok nx w' =>
        cases nx <;> simp only [rUpon] at h3 <;> simp only [Oper.upon]
        case value u => exact next u w' h3.1 h3.2
        case enter fn args =>
          obtain ⟨e1, e2, hc⟩ := h3
          rw [e1]
          exact hc.mono fun e w'' ⟨u, he, hb, hs⟩ => by subst he; exact next u w'' hb (by rw [e2]; exact hs)
      | halt x w' => simp only [rUpon] at h3
    · simp only [hwt, Bool.false_eq_true, if_false]
      exact next undef w (Below.refl _ _) (by rw [hR])

theorem Gives.put {F : Nat → World → Prop} {oi oj : Oper} {u : Value} {a : Act} {R : Value → World → Prop} (h : Gives P md ops S E0 F oi a R) (hap : oi.apart ops oj = true) (hsi : ∀ cs b, oi.op ≠ .select cs b) : Gives P md ops S E0 F oi (a.put oj.dst u) R := by
  obtain ⟨h1, h2, h3⟩ := Oper.apart_spec hap
  unfold Gives at *
  rw [execOp_put oi hsi a oj.dst u h3, wanted_put oi a oj.dst u h3]
  exact h
theorem Gives.unput {F : Nat → World → Prop} {oi oj : Oper} {v : Value} {a : Act} {R : Value → World → Prop} (h : Gives P md ops S E0 F oj (a.put oi.dst v) R) (hap : oi.apart ops oj = true) (hsj : ∀ cs b, oj.op ≠ .select cs b) : Gives P md ops S E0 F oj a R := by
  obtain ⟨h1, h2, h3⟩ := Oper.apart_spec hap
  unfold Gives at *
  rw [execOp_put oj hsj a oi.dst v h1, wanted_put oj a oi.dst v h1] at h
  exact h
theorem Gives.facts {F F' : Nat → World → Prop} {o : Oper} {a : Act} {R : Value → World → Prop} (h : Gives P md ops S E0 F o a R) (hF : ∀ e ∈ o.after, Region.binds md e = true → F' e.on = F e.on) : Gives P md ops S E0 F' o a R := by
  rcases h with h | h
  · exact .inl ⟨h.1, h.2.1, fun w hw hp => h.2.2 w hw fun e he hb => by rw [← hF e he hb]; exact hp e he hb⟩
  · exact .inr h
/-- What holds of an operation whatever another one has yielded. -/
theorem Gives.all {F : Nat → World → Prop} {o : Oper} {a : Act} {V : Value → Prop} {Rc : Value → Value → World → Prop} (u0 : Value) (h0 : V u0) (h : ∀ u, V u → Gives P md ops S E0 F o a (Rc u)) :
    Gives P md ops S E0 F o a (fun v w => ∀ u, V u → Rc u v w) := by
  cases hwt : Region.wanted o (yielded ops a.tmps) with
  | true =>
    have hl : ∀ u, V u → (∀ v, Stb (Rc u v)) ∧ ∀ w, E0 w → (∀ e ∈ o.after, Region.binds md e = true → F e.on w) → rUpon P S w (Rc u) ((execOp a.eval o).run P w) := fun u hu => by
      rcases h u hu with h1 | h1
      · exact h1.2
      · rw [hwt] at h1; exact absurd h1.1 (by decide)
    refine .inl ⟨hwt, fun v w w' hr hb u hu => (hl u hu).1 v w w' (hr u hu) hb, fun w hw hp => ?_⟩
    have hx := fun u hu => (hl u hu).2 w hw hp
    generalize (execOp a.eval o).run P w = r at hx
    cases r with
    | ok nx w' =>
      have h1 := hx u0 h0
      cases nx <;> simp only [rUpon] at h1 hx ⊢
      case value x => exact ⟨h1.1, fun u hu => (hx u hu).2⟩
      case enter f args =>
        refine ⟨h1.1, ?_, h1.2.2⟩
        funext v w
        refine propext ⟨fun hh => ?_, fun hh u hu => ?_⟩
        · have := hh u0 h0; rw [h1.2.1] at this; exact this
        · rw [(hx u hu).2.1]; exact hh
    | halt x w' => exact absurd (hx u0 h0) (by simp only [rUpon]; exact id)
  | false =>
    have hl : ∀ u, V u → Rc u = fun v _ => v = undef := fun u hu => by
      rcases h u hu with h1 | h1
      · rw [hwt] at h1; exact absurd h1.1 (by decide)
      · exact h1.2
    refine .inr ⟨hwt, ?_⟩
    funext v w
    refine propext ⟨fun hh => ?_, fun hh u hu => ?_⟩
    · have := hh u0 h0; rw [hl u0 h0] at this; exact this
    · rw [hl u hu]; exact hh

/-- An operation that may come up may be taken first. -/
theorem anyS_first (hE : Stb E0) {n i : Nat} {oi : Oper} {L : Array Bool → Act → (Nat → World → Prop) → Prop} (hi : ops[i]? = some oi) (hsel : ∀ (j : Nat) (o : Oper) cs b, ops[j]? = some o → o.op ≠ .select cs b)
    (hlt : ∀ listed, HeadInv md ops n listed → listed.getD i true = false → ∀ j ∈ Region.ready md ops listed, j < n) (hin : i < n)
    (hL : ∀ listed a F F', (∀ k w, F' k w → F k w) → L listed a F → L listed a F')
    (hdone : ∀ listed a F, L listed a F → ∀ j ∈ Region.ready md ops listed, n ≤ j) :
    ∀ (f : Nat) (listed : Array Bool) (a : Act) (F : Nat → World → Prop) (R : Value → World → Prop), HeadInv md ops n listed →
      (∀ j oj, ops[j]? = some oj → j ≠ i → listed.getD j true = false → (∀ e ∈ oj.after, Region.binds md e = true → e.on ≠ i) → oi.apart ops oj = true) →
      i ∈ Region.ready md ops listed → (∀ k, Stb (F k)) → (∃ w, E0 w ∧ ∀ k, F k w) → (∀ k w, listed.getD k false = false → F k w) → Gives P md ops S E0 F oi a R →
      (∀ u, Val E0 F R u → anyS P md ops S E0 n L f (listed.setIfInBounds i true) (a.put oi.dst u) (up F i (R u))) → anyS P md ops S E0 n L (f + 1) listed a F := by
  classical
  intro f
  induction f with
  | zero =>
    intro listed a F R inv _ hr hF hinh hT hy H
    have hun := (mem_ready.1 hr).1
    refine ⟨fun h => (by rw [h] at hr; cases hr), fun j hj => ?_⟩
    have hjn := hlt listed inv hun j hj
    refine ⟨hjn, ?_⟩
    by_cases hji : j = i
    · subst hji; exact ⟨oi, hi, R, hy, H⟩
    · obtain ⟨u, hu⟩ := hy.inh hE hF hinh
      have := hdone _ _ _ (H u hu) j (ready_mono hj hji)
      omega
  | succ f ih =>
    intro listed a F R inv hfree hr hF hinh hT hy H
    have hun := (mem_ready.1 hr).1
    refine ⟨fun h => (by rw [h] at hr; cases hr), fun j hj => ?_⟩
    have hjn := hlt listed inv hun j hj
    refine ⟨hjn, ?_⟩
    by_cases hji : j = i
    · subst hji; exact ⟨oi, hi, R, hy, H⟩
    · obtain ⟨hjun, oj, hoj, hall⟩ := mem_ready.1 hj
      obtain ⟨_, oi', hoi', halli⟩ := mem_ready.1 hr
      obtain rfl : oi' = oi := Option.some.inj (hoi'.symm.trans hi)
      have hnot : ∀ e ∈ oj.after, Region.binds md e = true → e.on ≠ i := fun e he hb heq => by
        have h1 := hall e he hb
        rw [heq, getD_both hun] at h1
        cases h1
      have hnoti : ∀ e ∈ oi'.after, Region.binds md e = true → e.on ≠ j := fun e he hb heq => by
        have h1 := halli e he hb
        rw [heq, getD_both hjun] at h1
        cases h1
      have hap := hfree j oj hoj hji hjun hnot
      have hsi : ∀ cs b, oi'.op ≠ .select cs b := fun cs b => hsel i oi' cs b hi
      have hsj : ∀ cs b, oj.op ≠ .select cs b := fun cs b => hsel j oj cs b hoj
      have hfree' : ∀ k ok, ops[k]? = some ok → k ≠ i → (listed.setIfInBounds j true).getD k true = false →
          (∀ e ∈ ok.after, Region.binds md e = true → e.on ≠ i) → oi'.apart ops ok = true := fun k ok hk hki hun' hno => by
        refine hfree k ok hk hki ?_ hno
        by_cases hjk : j = k
        · subst hjk; exact hjun
        · rw [getD_set_ne true hjk] at hun'; exact hun'
      have hd := (Oper.apart_spec hap).2.1
      have hjf := getD_both hjun
      -- what j yields, whatever i has yielded
      have hc : ∀ u, Val E0 F R u → ∃ Rj : Value → World → Prop, Gives P md ops S E0 F oj a Rj ∧ ∀ v, Val E0 (up F i (R u)) Rj v → anyS P md ops S E0 n L f ((listed.setIfInBounds i true).setIfInBounds j true) ((a.put oi'.dst u).put oj.dst v) (up (up F i (R u)) j (Rj v)) := by
        intro u hu
        obtain ⟨oj', hoj', Rj, hg, hk⟩ := ((H u hu).2 j (ready_mono hj hji)).2
        obtain rfl : oj' = oj := Option.some.inj (hoj'.symm.trans hoj)
        exact ⟨Rj, (hg.unput hap hsj).facts fun e he hb => (up_ne _ _ (hnot e he hb)).symm, hk⟩
      obtain ⟨u0, hu0⟩ := hy.inh hE hF hinh
      let Rc : Value → Value → World → Prop := fun u => if hu : Val E0 F R u then Classical.choose (hc u hu) else fun _ _ => True
      have hRc : ∀ u (hu : Val E0 F R u), Gives P md ops S E0 F oj a (Rc u) ∧ ∀ v, Val E0 (up F i (R u)) (Rc u) v → anyS P md ops S E0 n L f ((listed.setIfInBounds i true).setIfInBounds j true) ((a.put oi'.dst u).put oj.dst v) (up (up F i (R u)) j (Rc u v)) := by
        intro u hu
        have := Classical.choose_spec (hc u hu)
        simp only [Rc, dif_pos hu]
        exact this
      have hG := Gives.all (V := Val E0 F R) u0 hu0 fun u hu => (hRc u hu).1
      refine ⟨oj, hoj, _, hG, fun v hv => ?_⟩
      have hv' := hv
      obtain ⟨wv, hv1, hv2, hv3⟩ := hv
      refine ih (listed.setIfInBounds j true) (a.put oj.dst v) _ R (inv.set hj hjn) hfree' (ready_mono hr (Ne.symm hji)) (up_stb hF (hG.stb v)) ⟨wv, hv1, up_all hv2 hv3⟩ ?_ ((hy.put hap hsi).facts fun e he hb => up_ne _ _ (hnoti e he hb)) ?_
      · intro k w hk
        by_cases hkj : k = j
        · subst hkj
          have : k < listed.size := by rw [inv.size]; exact (Array.getElem?_eq_some_iff.1 hoj).1
          simp [this] at hk
        · rw [up_ne _ _ hkj]
          rw [getD_set_ne false (Ne.symm hkj)] at hk
          exact hT k w hk
      · rintro u ⟨w, h1, h2, h3⟩
        have hFw : ∀ k, F k w := fun k => by
          by_cases hkj : k = j
          · subst hkj; exact hT k w hjf
          · have := h2 k; rwa [up_ne _ _ hkj] at this
        have hRw : ∀ u, Val E0 F R u → Rc u v w := by have := h2 j; rwa [up_same] at this
        have hu : Val E0 F R u := ⟨w, h1, hFw, h3⟩
        have hk := (hRc u hu).2 v ⟨w, h1, up_all hFw h3, hRw u hu⟩
        rw [Array.setIfInBounds_comm _ _ hji, ← Act.put_comm a u v hd]
        refine anyS_mono hL f _ _ _ _ ?_ hk
        intro k w' hh
        by_cases hki : k = i
        · subst hki
          rw [up_same] at hh
          rw [up_ne _ _ (Ne.symm hji), up_same]
          exact hh
        · rw [up_ne _ _ hki] at hh
          by_cases hkj : k = j
          · subst hkj
            rw [up_same] at hh ⊢
            exact hh u hu
          · rw [up_ne _ _ hkj] at hh
            rw [up_ne _ _ hkj, up_ne _ _ hki]
            exact hh

/-! ### the walk in the text's order -/
def wpW (P : Program) (md : Region.Mode) (ops : Array Oper) (S : FuncId → Array Value → Value → World → Prop) (E0 : World → Prop) (Q : Act → (Nat → World → Prop) → Prop) : Nat → List Oper → Act → (Nat → World → Prop) → Prop
  | _, [], a, F => Q a F
  | k, o :: rest, a, F => ∃ R, Gives P md ops S E0 F o a R ∧ ∀ u, Val E0 F R u → wpW P md ops S E0 Q (k + 1) rest (a.put o.dst u) (up F k (R u))

theorem anyS_lex (hE : Stb E0) {n g : Nat} {Lq : Act → (Nat → World → Prop) → Prop} (hLq : ∀ a F F', (∀ k w, F' k w → F k w) → Lq a F → Lq a F') (hsel : Region.noSelect ops = true) (hnsz : n ≤ ops.size)
    (hlt : ∀ i, i < n → ∀ listed, HeadInv md ops n listed → listed.getD i true = false → ∀ j ∈ Region.ready md ops listed, j < n) :
    ∀ (l : List Oper) (k : Nat) (listed : Array Bool) (a : Act) (F : Nat → World → Prop), (∀ j, j < l.length → l[j]? = ops[k + j]?) → k + l.length = n → HeadInv md ops n listed →
    (∀ k, Stb (F k)) → (∃ w, E0 w ∧ ∀ k, F k w) → (∀ k w, listed.getD k false = false → F k w) →
    Region.lexHead md ops g l.length k listed = true → wpW P md ops S E0 Lq k l a F →
    anyS P md ops S E0 n (fun listed' a' F' => Region.seqB md ops g n listed' = true ∧ Lq a' F') l.length listed a F
  | [], k, listed, a, F, _, hk, _, _, _, _, hB, h => by
    have : k = n := by simpa using hk
    subst this
    exact ⟨by simpa [Region.lexHead] using hB, h⟩
  | o :: l, k, listed, a, F, hl, hk, inv, hF, hinh, hT, hB, h => by
    have h0 : ops[k]? = some o := by simpa using (hl 0 (by simp)).symm
    simp only [List.length_cons, Region.lexHead, Bool.and_eq_true] at hB
    obtain ⟨⟨hr, hf⟩, hB'⟩ := hB
    have hkn : k < n := by simp only [List.length_cons] at hk; omega
    have hr' : k ∈ Region.ready md ops listed := by simpa using hr
    obtain ⟨R, hg, hK⟩ := h
    refine anyS_first hE h0 (Region.noSelect_spec hsel) (hlt k hkn) hkn (fun listed a F F' hF h => ⟨h.1, hLq _ _ _ hF h.2⟩) (fun listed' a' F' hL => seqB_ready hL.1) l.length listed a F R inv (Region.free_spec h0 hf) hr' hF hinh hT hg ?_
    rintro u ⟨w, h1, h2, h3⟩
    refine anyS_lex hE hLq hsel hnsz hlt l (k + 1) _ _ _ (fun j hj => by have := hl (j + 1) (by simp; omega); simpa [Nat.add_assoc, Nat.add_comm 1 j] using this) (by simp only [List.length_cons] at hk; omega) (inv.set hr' hkn) (up_stb hF (hg.stb u)) ⟨w, h1, up_all h2 h3⟩ ?_ hB' (hK u ⟨w, h1, h2, h3⟩)
    intro j w' hj
    by_cases hjk : j = k
    · subst hjk
      have : j < listed.size := by rw [inv.size]; omega
      simp [this] at hj
    · rw [up_ne _ _ hjk]
      rw [getD_set_ne false (Ne.symm hjk)] at hj
      exact hT j w' hj

/-- **The head in the text's order; then the tail.** -/
theorem wp_region_tail {id : Nat} {Q : Exit → Act → World → Prop} {a : Act} {w : World} {l : List Oper} (S : FuncId → Array Value → Value → World → Prop) (E0 : World → Prop) (hE : Stb E0) (n : Nat) (hm : P.follows .mixedOrders = true) (hB : Region.lexTailB .any l.toArray n = true)
    (hw : E0 w.drew) (h : wpW P .any l.toArray S E0 (fun a' F => ∀ w', E0 w' → (∀ k, F k w') → wpList P l.toArray Q (l.drop n) a' w') 0 (l.take n) a (fun _ _ => True)) : (Code.region id l.toArray true).wp P Q a w := by
  simp only [Region.lexTailB, Bool.and_eq_true, decide_eq_true_eq] at hB
  obtain ⟨⟨⟨⟨hsel, hn⟩, hs⟩, hc⟩, hlex⟩ := hB
  have hn' : n < l.length := by simpa using hn
  have htl : (l.take n).length = n := by simp; omega
  have hdl : (l.drop n).length = l.toArray.size - n := by simp
  have inv0 : HeadInv .any l.toArray n (Array.replicate l.toArray.size false) :=
    ⟨by simp, fun j oj _ hl => (by rw [getD_replicate_false] at hl; cases hl), fun t _ ht => getD_in (by simpa using ht) (getD_replicate_false _ _)⟩
  have H := anyS_lex (md := .any) (g := l.toArray.size - n) hE (Lq := fun a' F => ∀ w', E0 w' → (∀ k, F k w') → wpList P l.toArray Q (l.drop n) a' w') (fun a F F' hF h w' h1 h2 => h w' h1 fun k => hF k _ (h2 k)) hsel (Nat.le_of_lt hn)
    (fun i hin listed inv hun j hj => (Nat.lt_or_ge j n).resolve_right fun h => absurd hj (tail_waits hs hc hn inv _ i rfl hin hun j h)) (l.take n) 0 _ a (fun _ _ => True) (fun j hj => by
      have hj' : j < n := by rw [htl] at hj; exact hj
      simp [hj']) (by simpa using htl) inv0 (fun _ _ _ _ _ => trivial) ⟨_, hw, fun _ => trivial⟩ (fun _ _ _ => trivial) (by rw [htl]; exact hlex) h
  refine wp_region_any hm ?_
  have := any_of_S (Q' := Q) (g := l.toArray.size - n) hE (fun listed a' F w' _ hw' hk hL => by
    have := wpAny_of_seq (md := .any) (Q' := Q) (l.drop n) n listed a' w' (fun j => by simp [List.getElem?_drop]) (by rw [hdl]; exact hL.1) (hL.2 w' hw' hk)
    rwa [hdl] at this) _ _ _ _ _ (fun _ _ _ _ _ => trivial) hw (fun _ => trivial) H
  rw [htl, show n + (l.toArray.size - n) = l.toArray.size by omega] at this
  exact this
def lexAllB (ops : Array Oper) : Bool := Region.noSelect ops && Region.lexHead .any ops 0 ops.size 0 (Array.replicate ops.size false)
/-- A region that has no tail. -/
theorem wp_region_all {id : Nat} {Q : Exit → Act → World → Prop} {a : Act} {w : World} {l : List Oper} (S : FuncId → Array Value → Value → World → Prop) (E0 : World → Prop) (hE : Stb E0) (hm : P.follows .mixedOrders = true) (hB : lexAllB l.toArray = true)
    (hw : E0 w.drew) (h : wpW P .any l.toArray S E0 (fun a' F => ∀ w', E0 w' → (∀ k, F k w') → Q .normal a' w') 0 l a (fun _ _ => True)) : (Code.region id l.toArray true).wp P Q a w := by
  simp only [lexAllB, Bool.and_eq_true] at hB
  obtain ⟨hsel, hlex⟩ := hB
  have inv0 : HeadInv .any l.toArray l.toArray.size (Array.replicate l.toArray.size false) :=
    ⟨by simp, fun j oj _ hl => (by rw [getD_replicate_false] at hl; cases hl), fun t h1 h2 => by omega⟩
  have H := anyS_lex (md := .any) (g := 0) hE (Lq := fun a' F => ∀ w', E0 w' → (∀ k, F k w') → Q .normal a' w') (fun a F F' hF h w' h1 h2 => h w' h1 fun k => hF k _ (h2 k)) hsel (Nat.le_refl _)
    (fun i hin listed inv hun j hj => by
      obtain ⟨_, oj, hoj, _⟩ := mem_ready.1 hj
      exact (Array.getElem?_eq_some_iff.1 hoj).1) l 0 _ a (fun _ _ => True) (fun j hj => by simp) (by simp) inv0 (fun _ _ _ _ _ => trivial) ⟨_, hw, fun _ => trivial⟩ (fun _ _ _ => trivial) (by simpa using hlex) h
  refine wp_region_any hm ?_
  have := any_of_S (Q' := Q) (g := 0) hE (fun listed a' F w' _ hw' hk hL => by
    refine ⟨?_, hL.2 w' hw' hk⟩
    simpa [Region.seqB] using hL.1) _ _ _ _ _ (fun _ _ _ _ _ => trivial) hw (fun _ => trivial) H
  rw [Nat.add_zero] at this
  simpa using this

/-! ### one operation -/
variable {Q : Act → (Nat → World → Prop) → Prop} {F : Nat → World → Prop} {a : Act} {o : Oper} {rest : List Oper} {k : Nat}
theorem wpW_mono (hQ : ∀ a F F', (∀ k w, F' k w → F k w) → Q a F → Q a F') : ∀ (l : List Oper) (k : Nat) (a : Act) (F F' : Nat → World → Prop), (∀ k w, F' k w → F k w) → wpW P md ops S E0 Q k l a F → wpW P md ops S E0 Q k l a F'
  | [], _, _, _, _, hF, h => hQ _ _ _ hF h
  | o :: l, k, a, F, F', hF, h => by
    obtain ⟨R, hg, hk⟩ := h
    exact ⟨R, hg.mono hF, fun u hu => wpW_mono hQ l (k + 1) _ _ _ (up_mono hF k (R u)) (hk u (by obtain ⟨w, h1, h2, h3⟩ := hu; exact ⟨w, h1, fun k => hF _ _ (h2 k), h3⟩))⟩
/-- The walk's post, as the two theorems have it. -/
structure Mon (Q : Act → (Nat → World → Prop) → Prop) : Prop where mk ::
  out : ∀ a F F', (∀ k w, F' k w → F k w) → Q a F → Q a F'
theorem w_nil (h : Q a F) : wpW P md ops S E0 Q k [] a F := h
theorem wanted_none (h : o.guard = none) : Region.wanted o (yielded ops a.tmps) = true := by simp [Region.wanted, h]
/-- What operation i has told, to one that waits for it. -/
theorem fact {w : World} (hp : ∀ e ∈ o.after, Region.binds md e = true → F e.on w) (i : Nat) (h : (o.after.toList.any fun e => e.on == i && Region.binds md e) = true) : F i w := by
  obtain ⟨e, he, h2⟩ := List.any_eq_true.1 h
  simp only [Bool.and_eq_true, beq_iff_eq] at h2
  have := hp e (by simpa using he) h2.2
  rwa [h2.1] at this
/-- One value, found by running it. -/
theorem w_val (hQ : Mon Q) (hFk : ∀ w, F k w) (hw : Region.wanted o (yielded ops a.tmps) = true)
    (h : ∃ v, (∀ w, E0 w → (∀ e ∈ o.after, Region.binds md e = true → F e.on w) → (execOp a.eval o).run P w = .ok (.value v) w) ∧ ∀ K : Act → Prop, (∀ a, wpW P md ops S E0 Q (k + 1) rest a F → K a) → K (a.put o.dst v)) : wpW P md ops S E0 Q k (o :: rest) a F := by
  obtain ⟨v, hr, h⟩ := h
  refine ⟨fun u _ => u = v, .inl ⟨hw, fun u w w' e _ => e, fun w hw hp => by rw [hr w hw hp]; exact ⟨Below.refl _ _, rfl⟩⟩, ?_⟩
  rintro u ⟨w, _, _, rfl⟩
  exact h _ fun a hh => wpW_mono hQ.out rest (k + 1) a F _ (fun j w' hj => by
    by_cases hjk : j = k
    · subst hjk; exact hFk w'
    · rwa [up_ne _ _ hjk] at hj) hh
theorem w_skip (hQ : Mon Q) (hFk : ∀ w, F k w) (hw : Region.wanted o (yielded ops a.tmps) = false)
    (h : ∀ K : Act → Prop, (∀ a, wpW P md ops S E0 Q (k + 1) rest a F → K a) → K (a.put o.dst undef)) : wpW P md ops S E0 Q k (o :: rest) a F := by
  refine ⟨fun u _ => u = undef, .inr ⟨hw, rfl⟩, ?_⟩
  rintro u ⟨w, _, _, rfl⟩
  exact h _ fun a hh => wpW_mono hQ.out rest (k + 1) a F _ (fun j w' hj => by
    by_cases hjk : j = k
    · subst hjk; exact hFk w'
    · rwa [up_ne _ _ hjk] at hj) hh
/-- A call whose result S tells. -/
theorem w_call (hw : Region.wanted o (yielded ops a.tmps) = true)
    (h : ∃ f args, (∀ w, (execOp a.eval o).run P w = .ok (.enter f args) w) ∧ (∀ u, Stb (S f args u)) ∧
      (∀ w, E0 w → (∀ e ∈ o.after, Region.binds md e = true → F e.on w) → Calls P f args w (fun e w'' => ∃ u, e = .returned u ∧ Below w.heap.size w w'' ∧ S f args u w'')) ∧
      ∀ u, Val E0 F (S f args) u → ∀ K : Act → Prop, (∀ a, wpW P md ops S E0 Q (k + 1) rest a (up F k (S f args u)) → K a) → K (a.put o.dst u)) : wpW P md ops S E0 Q k (o :: rest) a F := by
  obtain ⟨f, args, hr, hs, hc, h⟩ := h
  exact ⟨S f args, .inl ⟨hw, hs, fun w hw hp => by rw [hr w]; exact ⟨rfl, rfl, hc w hw hp⟩⟩, fun u hu => h u hu _ fun a hh => hh⟩
end
end Go.Proofs.Ytddhngalokmdoaa.Qw

/- A new variable in a drawn region (XQw's third kind of operation). Any program. -/
namespace Go.Proofs.Ytddhngalokmdoaa.Qw
open Go.RowKit Go.Proofs.Ytddhngalokmdoaa.Arr
variable {P : Program} {ops : Array Oper} {md : Region.Mode} {S : FuncId → Array Value → Value → World → Prop} {E0 : World → Prop} {Q : Act → (Nat → World → Prop) → Prop} {k : Nat} {o : Oper} {rest : List Oper} {a : Act} {F : Nat → World → Prop}
theorem w_new (R : Value → World → Prop) (hs : ∀ u, Stb (R u)) (hw : Region.wanted o (yielded ops a.tmps) = true)
    (h : (∀ w, E0 w → ∃ u w', (execOp a.eval o).run P w = .ok (.value u) w' ∧ Below w.heap.size w w' ∧ R u w') ∧
      ∀ u, Val E0 F R u → ∀ K : Act → Prop, (∀ a, wpW P md ops S E0 Q (k + 1) rest a (up F k (R u)) → K a) → K (a.put o.dst u)) : wpW P md ops S E0 Q k (o :: rest) a F :=
  ⟨R, .inl ⟨hw, hs, fun w hw hp => by obtain ⟨u, w', e, hb, hr⟩ := h.1 w hw; rw [e]; exact ⟨hb, hr⟩⟩, fun u hu => h.2 u hu _ fun a hh => hh⟩
end Go.Proofs.Ytddhngalokmdoaa.Qw
