/- Texts of this claim, merged: Qy. -/
import Derived.Test.YtddhngalokmdoaaMgBase4
/- Regions that draw their order: each operation tells what it yields (a set of values, and a relation that stands under Le); those of the list cs, one behind the other, turn the class of worlds. Any program. -/
namespace Go.Proofs.Ytddhngalokmdoaa.Qy
open Go.RowKit Go.Proofs.Ytddhngalokmdoaa.Arr
set_option linter.unusedVariables false
set_option linter.unusedSimpArgs false
section
variable {P : Program} {ops : Array Oper} {md : Region.Mode} {Le : World → World → Prop} {S : FuncId → Array Value → Value → World → Prop} {SV : FuncId → Array Value → Value → Prop} {C : Nat → World → Prop} {cs : List Nat}

def Stb (Le : World → World → Prop) (F : World → Prop) : Prop := ∀ w w', F w → Le w w' → F w'
def up (F : Nat → World → Prop) (i : Nat) (R : World → Prop) : Nat → World → Prop := fun k => if k = i then R else F k
theorem up_same (F : Nat → World → Prop) (i : Nat) (R : World → Prop) : up F i R i = R := by simp [up]
theorem up_ne (F : Nat → World → Prop) {i k : Nat} (R : World → Prop) (h : k ≠ i) : up F i R k = F k := by simp [up, h]

/-! ### the phase -/
def ph (cs : List Nat) (listed : Array Bool) : Nat := (cs.takeWhile fun c => listed.getD c false).length
def chainedB (md : Region.Mode) (ops : Array Oper) : List Nat → Bool
  | [] => true
  | [_] => true
  | c :: d :: l => decide (c < d) && Region.waitsFor md ops d c && chainedB md ops (d :: l)
def tr (cs : List Nat) (i p p' : Nat) : Prop := (i ∉ cs ∧ p' = p) ∨ (cs[p]? = some i ∧ p' = p + 1)
theorem chained_tail {c : Nat} {l : List Nat} (h : chainedB md ops (c :: l) = true) : chainedB md ops l = true := by
  cases l with
  | nil => rfl
  | cons d l => simp only [chainedB, Bool.and_eq_true] at h; exact h.2
theorem chained_off {n : Nat} {listed : Array Bool} (inv : HeadInv md ops n listed) : ∀ {l : List Nat} {c : Nat}, chainedB md ops (c :: l) = true → listed.getD c false = false → ∀ x ∈ c :: l, listed.getD x false = false
  | [], c, _, hc, x, hx => by simp at hx; subst hx; exact hc
  | d :: l, c, h, hc, x, hx => by
    simp only [chainedB, Bool.and_eq_true, decide_eq_true_eq] at h
    rcases List.mem_cons.1 hx with rfl | hx
    · exact hc
    · refine chained_off inv h.2 ?_ x hx
      obtain ⟨oj, hoj, e, he, hb, hon⟩ := Region.waitsFor_spec h.1.2
      cases hd : listed.getD d false with
      | false => rfl
      | true =>
        have := inv.closed d oj hoj hd e he hb
        rw [hon, hc] at this
        cases this
theorem chained_pred : ∀ {l : List Nat} {c i : Nat}, chainedB md ops (c :: l) = true → i ∈ l → ∃ d, d ∈ c :: l ∧ Region.waitsFor md ops i d = true
  | [], _, _, _, h => by cases h
  | d :: l, c, i, h, hi => by
    simp only [chainedB, Bool.and_eq_true, decide_eq_true_eq] at h
    rcases List.mem_cons.1 hi with rfl | hi
    · exact ⟨c, by simp, h.1.2⟩
    · obtain ⟨x, hx, hw⟩ := chained_pred h.2 hi
      exact ⟨x, List.mem_cons_of_mem _ hx, hw⟩
theorem getD_set_at {listed : Array Bool} {i : Nat} (h : i < listed.size) : (listed.setIfInBounds i true).getD i false = true := by simp [h]
theorem ph_at {n i : Nat} {listed : Array Bool} (inv : HeadInv md ops n listed) (hr : i ∈ Region.ready md ops listed) : ∀ {cs : List Nat}, chainedB md ops cs = true → tr cs i (ph cs listed) (ph cs (listed.setIfInBounds i true))
  | [], _ => .inl ⟨by simp, rfl⟩
  | c :: l, h => by
    obtain ⟨hun, oi, hoi, hall⟩ := mem_ready.1 hr
    have hun' := getD_both hun
    have hil : i < listed.size := by rw [inv.size]; exact (Array.getElem?_eq_some_iff.1 hoi).1
    cases hc : listed.getD c false with
    | true =>
      have hci : i ≠ c := fun e => by subst e; rw [hun'] at hc; cases hc
      have ih := ph_at inv hr (chained_tail h)
      have e1 : ph (c :: l) listed = ph l listed + 1 := by unfold ph; rw [List.takeWhile_cons_of_pos (p := fun c => listed.getD c false) hc]; rfl
      have e2 : ph (c :: l) (listed.setIfInBounds i true) = ph l (listed.setIfInBounds i true) + 1 := by
        unfold ph; rw [List.takeWhile_cons_of_pos (p := fun c => (listed.setIfInBounds i true).getD c false) (by rw [getD_set_ne false hci]; exact hc)]; rfl
      rw [e1, e2]
      rcases ih with ⟨h1, h2⟩ | ⟨h1, h2⟩
      · exact .inl ⟨by simp [hci, h1], by omega⟩
      · exact .inr ⟨by simpa using h1, by omega⟩
    | false =>
      have hoff := chained_off inv h hc
      have e1 : ph (c :: l) listed = 0 := by unfold ph; rw [List.takeWhile_cons_of_neg (p := fun c => listed.getD c false) (by simp only [hc]; decide)]; rfl
      rw [e1]
      by_cases hic : i = c
      · subst hic
        refine .inr ⟨rfl, ?_⟩
        unfold ph
        rw [List.takeWhile_cons_of_pos (p := fun c => (listed.setIfInBounds i true).getD c false) (getD_set_at hil)]
        cases l with
        | nil => rfl
        | cons d l =>
          have hd : i < d := by simp only [chainedB, Bool.and_eq_true, decide_eq_true_eq] at h; exact h.1.1
          rw [List.takeWhile_cons_of_neg (p := fun c => (listed.setIfInBounds i true).getD c false) (by rw [getD_set_ne false (show i ≠ d by omega), hoff d (by simp)]; decide)]
          rfl
      · have e2 : ph (c :: l) (listed.setIfInBounds i true) = 0 := by unfold ph; rw [List.takeWhile_cons_of_neg (p := fun c => (listed.setIfInBounds i true).getD c false) (by rw [getD_set_ne false hic, hc]; decide)]; rfl
        rw [e2]
        refine .inl ⟨fun hm => ?_, rfl⟩
        rcases List.mem_cons.1 hm with rfl | hm
        · exact hic rfl
        · obtain ⟨d, hd, hw⟩ := chained_pred h hm
          obtain ⟨oj, hoj, e, he, hb, hon⟩ := Region.waitsFor_spec hw
          have : oj = oi := Option.some.inj (hoj.symm.trans hoi)
          subst this
          have h2 := hall e he hb
          rw [hon, hoff d hd] at h2
          cases h2
theorem ph_all {listed : Array Bool} : ∀ {cs : List Nat}, (∀ c ∈ cs, listed.getD c false = true) → ph cs listed = cs.length
  | [], _ => rfl
  | c :: l, h => by
    have := ph_all (listed := listed) (cs := l) fun x hx => h x (List.mem_cons_of_mem _ hx)
    unfold ph at this ⊢
    rw [List.takeWhile_cons_of_pos (p := fun c => listed.getD c false) (h c (by simp))]
    rw [List.length_cons, this, List.length_cons]
theorem ph_none {listed : Array Bool} (h : ∀ c, listed.getD c false = false) : ph cs listed = 0 := by
  cases cs with
  | nil => rfl
  | cons c l => unfold ph; rw [List.takeWhile_cons_of_neg (p := fun c => listed.getD c false) (by rw [h c]; decide)]; rfl

/-! ### what an operation yields -/
def yUpon (P : Program) (Le : World → World → Prop) (S : FuncId → Array Value → Value → World → Prop) (SV : FuncId → Array Value → Value → Prop) (C' : World → Prop) (w : World) (V : Value → Prop) (R : Value → World → Prop) : Result Next → Prop
  | .ok (.value u) w' => Le w w' ∧ C' w' ∧ V u ∧ R u w'
  | .ok (.enter f args) w' => w' = w ∧ V = SV f args ∧ R = S f args ∧ Calls P f args w (fun e w'' => ∃ u, e = .returned u ∧ Le w w'' ∧ C' w'' ∧ SV f args u ∧ S f args u w'')
  | _ => False
def Gives (P : Program) (md : Region.Mode) (ops : Array Oper) (Le : World → World → Prop) (S : FuncId → Array Value → Value → World → Prop) (SV : FuncId → Array Value → Value → Prop) (C : Nat → World → Prop) (cs : List Nat) (F : Nat → World → Prop) (i : Nat) (o : Oper) (a : Act) (V : Value → Prop) (R : Value → World → Prop) : Prop :=
  (Region.wanted o (yielded ops a.tmps) = true ∧ (∀ u, Stb Le (R u)) ∧ ∀ p p', tr cs i p p' → ∀ w, C p w → (∀ e ∈ o.after, Region.binds md e = true → F e.on w) → yUpon P Le S SV (C p') w V R ((execOp a.eval o).run P w)) ∨
  (Region.wanted o (yielded ops a.tmps) = false ∧ (∀ p p', tr cs i p p' → ∀ w, C p w → C p' w) ∧ V = (fun u => u = undef) ∧ R = fun _ _ => True)
theorem Gives.stb {F : Nat → World → Prop} {i : Nat} {o : Oper} {a : Act} {V : Value → Prop} {R : Value → World → Prop} (h : Gives P md ops Le S SV C cs F i o a V R) (u : Value) : Stb Le (R u) := by
  rcases h with h | h
  · exact h.2.1 u
  · rw [h.2.2.2]; exact fun _ _ _ _ => trivial
theorem Gives.mono {F F' : Nat → World → Prop} {i : Nat} {o : Oper} {a : Act} {V : Value → Prop} {R : Value → World → Prop} (h : Gives P md ops Le S SV C cs F i o a V R) (hF : ∀ k w, F' k w → F k w) : Gives P md ops Le S SV C cs F' i o a V R := by
  rcases h with h | h
  · exact .inl ⟨h.1, h.2.1, fun p p' ht w hw hp => h.2.2 p p' ht w hw fun e he hb => hF _ _ (hp e he hb)⟩
  · exact .inr h
theorem Gives.put {F : Nat → World → Prop} {i : Nat} {oi oj : Oper} {u : Value} {a : Act} {V : Value → Prop} {R : Value → World → Prop} (h : Gives P md ops Le S SV C cs F i oi a V R) (hap : oi.apart ops oj = true) (hsi : ∀ cs b, oi.op ≠ .select cs b) : Gives P md ops Le S SV C cs F i oi (a.put oj.dst u) V R := by
  obtain ⟨h1, h2, h3⟩ := Oper.apart_spec hap
  unfold Gives at *
  rw [execOp_put oi hsi a oj.dst u h3, wanted_put oi a oj.dst u h3]
  exact h
theorem Gives.unput {F : Nat → World → Prop} {j : Nat} {oi oj : Oper} {v : Value} {a : Act} {V : Value → Prop} {R : Value → World → Prop} (h : Gives P md ops Le S SV C cs F j oj (a.put oi.dst v) V R) (hap : oi.apart ops oj = true) (hsj : ∀ cs b, oj.op ≠ .select cs b) : Gives P md ops Le S SV C cs F j oj a V R := by
  obtain ⟨h1, h2, h3⟩ := Oper.apart_spec hap
  unfold Gives at *
  rw [execOp_put oj hsj a oi.dst v h1, wanted_put oj a oi.dst v h1] at h
  exact h
theorem Gives.facts {F F' : Nat → World → Prop} {i : Nat} {o : Oper} {a : Act} {V : Value → Prop} {R : Value → World → Prop} (h : Gives P md ops Le S SV C cs F i o a V R) (hF : ∀ e ∈ o.after, Region.binds md e = true → F' e.on = F e.on) : Gives P md ops Le S SV C cs F' i o a V R := by
  rcases h with h | h
  · exact .inl ⟨h.1, h.2.1, fun p p' ht w hw hp => h.2.2 p p' ht w hw fun e he hb => by rw [← hF e he hb]; exact hp e he hb⟩
  · exact .inr h
/-- What holds of an operation whatever another one has yielded. -/
theorem Gives.all {F : Nat → World → Prop} {i : Nat} {o : Oper} {a : Act} {V0 : Value → Prop} {Vc : Value → Value → Prop} {Rc : Value → Value → World → Prop} (u0 : Value) (h0 : V0 u0) (h : ∀ u, V0 u → Gives P md ops Le S SV C cs F i o a (Vc u) (Rc u)) :
    Gives P md ops Le S SV C cs F i o a (fun v => ∀ u, V0 u → Vc u v) (fun v w => ∀ u, V0 u → Rc u v w) := by
  cases hwt : Region.wanted o (yielded ops a.tmps) with
  | true =>
    have hl : ∀ u, V0 u → (∀ v, Stb Le (Rc u v)) ∧ ∀ p p', tr cs i p p' → ∀ w, C p w → (∀ e ∈ o.after, Region.binds md e = true → F e.on w) → yUpon P Le S SV (C p') w (Vc u) (Rc u) ((execOp a.eval o).run P w) := fun u hu => by
      rcases h u hu with h1 | h1
      · exact h1.2
      · rw [hwt] at h1; exact absurd h1.1 (by decide)
    refine .inl ⟨hwt, fun v w w' hr hb u hu => (hl u hu).1 v w w' (hr u hu) hb, fun p p' ht w hw hp => ?_⟩
    have hx := fun u hu => (hl u hu).2 p p' ht w hw hp
    generalize (execOp a.eval o).run P w = r at hx
    cases r with
    | ok nx w' =>
      have h1 := hx u0 h0
      cases nx <;> simp only [yUpon] at h1 hx ⊢
      case value x => exact ⟨h1.1, h1.2.1, fun u hu => (hx u hu).2.2.1, fun u hu => (hx u hu).2.2.2⟩
      case enter f args =>
        refine ⟨h1.1, ?_, ?_, h1.2.2.2⟩
        · funext v
          refine propext ⟨fun hh => ?_, fun hh u hu => ?_⟩
          · have := hh u0 h0; rw [h1.2.1] at this; exact this
          · rw [(hx u hu).2.1]; exact hh
        · funext v w
          refine propext ⟨fun hh => ?_, fun hh u hu => ?_⟩
          · have := hh u0 h0; rw [h1.2.2.1] at this; exact this
          · rw [(hx u hu).2.2.1]; exact hh
    | halt x w' => exact absurd (hx u0 h0) (by simp only [yUpon]; exact id)
  | false =>
    have hl : ∀ u, V0 u → (∀ p p', tr cs i p p' → ∀ w, C p w → C p' w) ∧ Vc u = (fun v => v = undef) ∧ Rc u = fun _ _ => True := fun u hu => by
      rcases h u hu with h1 | h1
      · rw [hwt] at h1; exact absurd h1.1 (by decide)
      · exact h1.2
    refine .inr ⟨hwt, (hl u0 h0).1, ?_, ?_⟩
    · funext v
      refine propext ⟨fun hh => ?_, fun hh u hu => ?_⟩
      · have := hh u0 h0; rw [(hl u0 h0).2.1] at this; exact this
      · rw [(hl u hu).2.1]; exact hh
    · funext v w
      refine propext ⟨fun _ => trivial, fun _ u hu => ?_⟩
      rw [(hl u hu).2.2]; trivial

def opY (P : Program) (md : Region.Mode) (ops : Array Oper) (Le : World → World → Prop) (S : FuncId → Array Value → Value → World → Prop) (SV : FuncId → Array Value → Value → Prop) (C : Nat → World → Prop) (cs : List Nat) (i : Nat) (K : Act → (Nat → World → Prop) → Prop) (a : Act) (F : Nat → World → Prop) : Prop :=
  ∃ o, ops[i]? = some o ∧ ∃ V R, Gives P md ops Le S SV C cs F i o a V R ∧ ∀ u, V u → K (a.put o.dst u) (up F i (R u))
def anyY (P : Program) (md : Region.Mode) (ops : Array Oper) (Le : World → World → Prop) (S : FuncId → Array Value → Value → World → Prop) (SV : FuncId → Array Value → Value → Prop) (C : Nat → World → Prop) (cs : List Nat) (n : Nat) (L : Array Bool → Act → (Nat → World → Prop) → Prop) : Nat → Array Bool → Act → (Nat → World → Prop) → Prop
  | 0, listed, a, F => L listed a F
  | f + 1, listed, a, F => Region.ready md ops listed ≠ [] ∧ ∀ i ∈ Region.ready md ops listed, i < n ∧ opY P md ops Le S SV C cs i (fun a' F' => anyY P md ops Le S SV C cs n L f (listed.setIfInBounds i true) a' F') a F
theorem up_mono {F F' : Nat → World → Prop} (hF : ∀ k w, F' k w → F k w) (i : Nat) (R : World → Prop) : ∀ k w, up F' i R k w → up F i R k w := by
  intro k w h
  by_cases hk : k = i
  · subst hk; rw [up_same] at h ⊢; exact h
  · rw [up_ne _ _ hk] at h ⊢; exact hF k w h
theorem anyY_mono {n : Nat} {L : Array Bool → Act → (Nat → World → Prop) → Prop} (hL : ∀ listed a F F', (∀ k w, F' k w → F k w) → L listed a F → L listed a F') :
    ∀ (f : Nat) (listed : Array Bool) (a : Act) (F F' : Nat → World → Prop), (∀ k w, F' k w → F k w) → anyY P md ops Le S SV C cs n L f listed a F → anyY P md ops Le S SV C cs n L f listed a F'
  | 0, listed, a, F, F', hF, h => hL _ _ _ _ hF h
  | f + 1, listed, a, F, F', hF, h => ⟨h.1, fun i hi => ⟨(h.2 i hi).1, by
    obtain ⟨o, ho, V, R, hg, hk⟩ := (h.2 i hi).2
    exact ⟨o, ho, V, R, hg.mono hF, fun u hu => anyY_mono hL f _ _ _ _ (up_mono hF i (R u)) (hk u hu)⟩⟩⟩
theorem up_stb {F : Nat → World → Prop} (hF : ∀ k, Stb Le (F k)) {i : Nat} {R : World → Prop} (hR : Stb Le R) : ∀ k, Stb Le (up F i R k) := by
  intro k
  by_cases hk : k = i
  · subst hk; rw [up_same]; exact hR
  · rw [up_ne _ _ hk]; exact hF k
theorem up_all {F : Nat → World → Prop} {i : Nat} {R : World → Prop} {w : World} (hF : ∀ k, F k w) (hR : R w) : ∀ k, up F i R k w := by
  intro k
  by_cases hk : k = i
  · subst hk; rw [up_same]; exact hR
  · rw [up_ne _ _ hk]; exact hF k
theorem any_of_Y (hcs : chainedB md ops cs = true) {n g : Nat} {L : Array Bool → Act → (Nat → World → Prop) → Prop} {Q' : Exit → Act → World → Prop}
    (hL : ∀ listed a F w, C (ph cs listed) w → (∀ k, F k w) → L listed a F → wpAny P md ops Q' g listed a w) :
    ∀ (f : Nat) (listed : Array Bool) (a : Act) (F : Nat → World → Prop) (w : World), HeadInv md ops n listed → (∀ k, Stb Le (F k)) → C (ph cs listed) w → (∀ k, F k w) → anyY P md ops Le S SV C cs n L f listed a F → wpAny P md ops Q' (f + g) listed a w
  | 0, listed, a, F, w, _, hF, hw, hk, h => by rw [Nat.zero_add]; exact hL _ _ _ _ hw hk h
  | f + 1, listed, a, F, w, inv, hF, hw, hk, h => by
    rw [show f + 1 + g = (f + g) + 1 by omega]
    refine ⟨fun h0 => absurd h0 h.1, fun i hi => ?_⟩
    obtain ⟨hin, o, ho, V, R, hg, hK⟩ := h.2 i hi
    have ht := ph_at inv hi hcs
    unfold wpOp
    simp only [ho]
    have next : ∀ u w', (∀ k, F k w') → C (ph cs (listed.setIfInBounds i true)) w' → V u → R u w' → wpAny P md ops Q' (f + g) (listed.setIfInBounds i true) (a.put o.dst u) w' := fun u w' hk' hc hv hr =>
      any_of_Y hcs hL f _ _ _ w' (inv.set hi hin) (up_stb hF (hg.stb u)) hc (up_all hk' hr) (hK u hv)
    rcases hg with ⟨hwt, _, hx⟩ | ⟨hwt, hx, hV, hR⟩
    · simp only [hwt, if_true]
      refine .inl ?_
      have h3 := hx _ _ ht w hw fun e _ _ => hk _
      unfold Oper.wp
      generalize (execOp a.eval o).run P w = r at h3
      cases r with
      | ok nx w' =>
        cases nx <;> simp only [yUpon] at h3 <;> simp only [Oper.upon]
        case value u => exact next u w' (fun k => hF k _ _ (hk k) h3.1) h3.2.1 h3.2.2.1 h3.2.2.2
        case enter fn args =>
          obtain ⟨e1, e2, e3, hc⟩ := h3
          rw [e1]
          exact hc.mono fun e w'' ⟨u, he, hb, hc', hv, hs⟩ => by subst he; exact next u w'' (fun k => hF k _ _ (hk k) hb) hc' (by rw [e2]; exact hv) (by rw [e3]; exact hs)
      | halt x w' => simp only [yUpon] at h3
    · simp only [hwt, Bool.false_eq_true, if_false]
      exact next undef w hk (hx _ _ ht w hw) (by rw [hV]) (by rw [hR]; trivial)

/-- An operation that may come up may be taken first. -/
theorem anyY_first {n i : Nat} {oi : Oper} {L : Array Bool → Act → (Nat → World → Prop) → Prop} (hi : ops[i]? = some oi) (hsel : ∀ (j : Nat) (o : Oper) cs b, ops[j]? = some o → o.op ≠ .select cs b)
    (hlt : ∀ listed, HeadInv md ops n listed → listed.getD i true = false → ∀ j ∈ Region.ready md ops listed, j < n) (hin : i < n)
    (hL : ∀ listed a F F', (∀ k w, F' k w → F k w) → L listed a F → L listed a F')
    (hdone : ∀ listed a F, L listed a F → ∀ j ∈ Region.ready md ops listed, n ≤ j) :
    ∀ (f : Nat) (listed : Array Bool) (a : Act) (F : Nat → World → Prop) (V : Value → Prop) (R : Value → World → Prop) (u0 : Value), V u0 → HeadInv md ops n listed →
      (∀ j oj, ops[j]? = some oj → j ≠ i → listed.getD j true = false → (∀ e ∈ oj.after, Region.binds md e = true → e.on ≠ i) → oi.apart ops oj = true) →
      i ∈ Region.ready md ops listed → Gives P md ops Le S SV C cs F i oi a V R →
      (∀ u, V u → anyY P md ops Le S SV C cs n L f (listed.setIfInBounds i true) (a.put oi.dst u) (up F i (R u))) → anyY P md ops Le S SV C cs n L (f + 1) listed a F := by
  classical
  intro f
  induction f with
  | zero =>
    intro listed a F V R u0 h0 inv _ hr hy H
    have hun := (mem_ready.1 hr).1
    refine ⟨fun h => (by rw [h] at hr; cases hr), fun j hj => ?_⟩
    have hjn := hlt listed inv hun j hj
    refine ⟨hjn, ?_⟩
    by_cases hji : j = i
    · subst hji; exact ⟨oi, hi, V, R, hy, H⟩
    · have := hdone _ _ _ (H u0 h0) j (ready_mono hj hji)
      omega
  | succ f ih =>
    intro listed a F V R u0 h0 inv hfree hr hy H
    have hun := (mem_ready.1 hr).1
    refine ⟨fun h => (by rw [h] at hr; cases hr), fun j hj => ?_⟩
    have hjn := hlt listed inv hun j hj
    refine ⟨hjn, ?_⟩
    by_cases hji : j = i
    · subst hji; exact ⟨oi, hi, V, R, hy, H⟩
    · obtain ⟨hjun, oj, hoj, hall⟩ := mem_ready.1 hj
      obtain ⟨_, oi', hoi', halli⟩ := mem_ready.1 hr
      obtain rfl : oi' = oi := Option.some.inj (hoi'.symm.trans hi)
      have hnot : ∀ e ∈ oj.after, Region.binds md e = true → e.on ≠ i := fun e he hb heq => by
        have h1 := hall e he hb
        rw [heq, getD_both hun] at h1
        cases h1
      have hnoti : ∀ e ∈ oi'.after, Region.binds md e = true → e.on ≠ j := fun e he hb heq => by
        have h1 := halli e he hb
        rw [heq, getD_both hjun] at h1
        cases h1
      have hap := hfree j oj hoj hji hjun hnot
      have hsi : ∀ cs b, oi'.op ≠ .select cs b := fun cs b => hsel i oi' cs b hi
      have hsj : ∀ cs b, oj.op ≠ .select cs b := fun cs b => hsel j oj cs b hoj
      have hfree' : ∀ k ok, ops[k]? = some ok → k ≠ i → (listed.setIfInBounds j true).getD k true = false →
          (∀ e ∈ ok.after, Region.binds md e = true → e.on ≠ i) → oi'.apart ops ok = true := fun k ok hk hki hun' hno => by
        refine hfree k ok hk hki ?_ hno
        by_cases hjk : j = k
        · subst hjk; exact hjun
        · rw [getD_set_ne true hjk] at hun'; exact hun'
      have hd := (Oper.apart_spec hap).2.1
      have hc : ∀ u, V u → ∃ (Vj : Value → Prop) (Rj : Value → World → Prop), Gives P md ops Le S SV C cs F j oj a Vj Rj ∧ ∀ v, Vj v → anyY P md ops Le S SV C cs n L f ((listed.setIfInBounds i true).setIfInBounds j true) ((a.put oi'.dst u).put oj.dst v) (up (up F i (R u)) j (Rj v)) := by
        intro u hu
        obtain ⟨oj', hoj', Vj, Rj, hg, hk⟩ := ((H u hu).2 j (ready_mono hj hji)).2
        obtain rfl : oj' = oj := Option.some.inj (hoj'.symm.trans hoj)
        exact ⟨Vj, Rj, (hg.unput hap hsj).facts fun e he hb => (up_ne _ _ (hnot e he hb)).symm, hk⟩
      let Vc : Value → Value → Prop := fun u => if hu : V u then Classical.choose (hc u hu) else fun _ => True
      let Rc : Value → Value → World → Prop := fun u => if hu : V u then Classical.choose (Classical.choose_spec (hc u hu)) else fun _ _ => True
      have hRc : ∀ u (hu : V u), Gives P md ops Le S SV C cs F j oj a (Vc u) (Rc u) ∧ ∀ v, Vc u v → anyY P md ops Le S SV C cs n L f ((listed.setIfInBounds i true).setIfInBounds j true) ((a.put oi'.dst u).put oj.dst v) (up (up F i (R u)) j (Rc u v)) := by
        intro u hu
        have := Classical.choose_spec (Classical.choose_spec (hc u hu))
        simp only [Vc, Rc, dif_pos hu]
        exact this
      have hG := Gives.all (V0 := V) u0 h0 fun u hu => (hRc u hu).1
      refine ⟨oj, hoj, _, _, hG, fun v hv => ?_⟩
      refine ih (listed.setIfInBounds j true) (a.put oj.dst v) _ V R u0 h0 (inv.set hj hjn) hfree' (ready_mono hr (Ne.symm hji)) ((hy.put hap hsi).facts fun e he hb => up_ne _ _ (hnoti e he hb)) ?_
      intro u hu
      have hk := (hRc u hu).2 v (hv u hu)
      rw [Array.setIfInBounds_comm _ _ hji, ← Act.put_comm a u v hd]
      refine anyY_mono hL f _ _ _ _ ?_ hk
      intro k w' hh
      by_cases hki : k = i
      · subst hki
        rw [up_same] at hh
        rw [up_ne _ _ (Ne.symm hji), up_same]
        exact hh
      · rw [up_ne _ _ hki] at hh
        by_cases hkj : k = j
        · subst hkj
          rw [up_same] at hh ⊢
          exact hh u hu
        · rw [up_ne _ _ hkj] at hh
          rw [up_ne _ _ hkj, up_ne _ _ hki]
          exact hh

/-! ### the walk in the text's order -/
def wpY (P : Program) (md : Region.Mode) (ops : Array Oper) (Le : World → World → Prop) (S : FuncId → Array Value → Value → World → Prop) (SV : FuncId → Array Value → Value → Prop) (C : Nat → World → Prop) (cs : List Nat) (Q : Act → (Nat → World → Prop) → Prop) : Nat → List Oper → Act → (Nat → World → Prop) → Prop
  | _, [], a, F => Q a F
  | k, o :: rest, a, F => ∃ V R, (∃ u, V u) ∧ Gives P md ops Le S SV C cs F k o a V R ∧ ∀ u, V u → wpY P md ops Le S SV C cs Q (k + 1) rest (a.put o.dst u) (up F k (R u))
theorem anyY_lex {n g : Nat} {Lq : Act → (Nat → World → Prop) → Prop} (hLq : ∀ a F F', (∀ k w, F' k w → F k w) → Lq a F → Lq a F') (hsel : Region.noSelect ops = true)
    (hlt : ∀ i, i < n → ∀ listed, HeadInv md ops n listed → listed.getD i true = false → ∀ j ∈ Region.ready md ops listed, j < n) :
    ∀ (l : List Oper) (k : Nat) (listed : Array Bool) (a : Act) (F : Nat → World → Prop), (∀ j, j < l.length → l[j]? = ops[k + j]?) → k + l.length = n → HeadInv md ops n listed → (∀ j, j < k → listed.getD j false = true) →
    Region.lexHead md ops g l.length k listed = true → wpY P md ops Le S SV C cs Lq k l a F →
    anyY P md ops Le S SV C cs n (fun listed' a' F' => Region.seqB md ops g n listed' = true ∧ (∀ j, j < n → listed'.getD j false = true) ∧ Lq a' F') l.length listed a F
  | [], k, listed, a, F, _, hk, _, hd, hB, h => by
    have : k = n := by simpa using hk
    subst this
    exact ⟨by simpa [Region.lexHead] using hB, hd, h⟩
  | o :: l, k, listed, a, F, hl, hk, inv, hd, hB, h => by
    have h0 : ops[k]? = some o := by simpa using (hl 0 (by simp)).symm
    simp only [List.length_cons, Region.lexHead, Bool.and_eq_true] at hB
    obtain ⟨⟨hr, hf⟩, hB'⟩ := hB
    have hkn : k < n := by simp only [List.length_cons] at hk; omega
    have hr' : k ∈ Region.ready md ops listed := by simpa using hr
    obtain ⟨V, R, ⟨u0, hu0⟩, hg, hK⟩ := h
    have hks : k < listed.size := by rw [inv.size]; exact (Array.getElem?_eq_some_iff.1 h0).1
    refine anyY_first h0 (Region.noSelect_spec hsel) (hlt k hkn) hkn (fun listed a F F' hF h => ⟨h.1, h.2.1, hLq _ _ _ hF h.2.2⟩) (fun listed' a' F' hL => seqB_ready hL.1) l.length listed a F V R u0 hu0 inv (Region.free_spec h0 hf) hr' hg ?_
    intro u hu
    refine anyY_lex hLq hsel hlt l (k + 1) _ _ _ (fun j hj => by have := hl (j + 1) (by simp; omega); simpa [Nat.add_assoc, Nat.add_comm 1 j] using this) (by simp only [List.length_cons] at hk; omega) (inv.set hr' hkn) (fun j hj => ?_) hB' (hK u hu)
    by_cases hjk : k = j
    · subst hjk; exact getD_set_at hks
    · rw [getD_set_ne false hjk]; exact hd j (by omega)
def headB (ops : Array Oper) (n : Nat) (cs : List Nat) : Bool := Region.lexTailB .any ops n && chainedB .any ops cs && cs.all (fun c => decide (c < n))
/-- **The head in the text's order; then the tail.** -/
theorem wp_region_tail {id : Nat} {Q : Exit → Act → World → Prop} {a : Act} {w : World} {l : List Oper} (Le : World → World → Prop) (S : FuncId → Array Value → Value → World → Prop) (SV : FuncId → Array Value → Value → Prop) (C : Nat → World → Prop) (cs : List Nat) (n : Nat) (hm : P.follows .mixedOrders = true) (hB : headB l.toArray n cs = true)
    (hw : C 0 w.drew) (h : wpY P .any l.toArray Le S SV C cs (fun a' F => ∀ w', C cs.length w' → (∀ k, F k w') → wpList P l.toArray Q (l.drop n) a' w') 0 (l.take n) a (fun _ _ => True)) : (Code.region id l.toArray true).wp P Q a w := by
  simp only [headB, Bool.and_eq_true] at hB
  obtain ⟨⟨hB, hch⟩, hlc⟩ := hB
  have hlc' : ∀ c ∈ cs, c < n := fun c hc => by have := List.all_eq_true.1 hlc c hc; simpa using this
  simp only [Region.lexTailB, Bool.and_eq_true, decide_eq_true_eq] at hB
  obtain ⟨⟨⟨⟨hsel, hn⟩, hs⟩, hc⟩, hlex⟩ := hB
  have hn' : n < l.length := by simpa using hn
  have htl : (l.take n).length = n := by simp; omega
  have hdl : (l.drop n).length = l.toArray.size - n := by simp
  have inv0 : HeadInv .any l.toArray n (Array.replicate l.toArray.size false) :=
    ⟨by simp, fun j oj _ hl => (by rw [getD_replicate_false] at hl; cases hl), fun t _ ht => getD_in (by simpa using ht) (getD_replicate_false _ _)⟩
  have H := anyY_lex (md := .any) (g := l.toArray.size - n) (Lq := fun a' F => ∀ w', C cs.length w' → (∀ k, F k w') → wpList P l.toArray Q (l.drop n) a' w') (fun a F F' hF h w' h1 h2 => h w' h1 fun k => hF k _ (h2 k)) hsel
    (fun i hin listed inv hun j hj => (Nat.lt_or_ge j n).resolve_right fun h => absurd hj (tail_waits hs hc hn inv _ i rfl hin hun j h)) (l.take n) 0 _ a (fun _ _ => True) (fun j hj => by
      have hj' : j < n := by rw [htl] at hj; exact hj
      simp [hj']) (by simpa using htl) inv0 (fun j hj => by omega) (by rw [htl]; exact hlex) h
  refine wp_region_any hm ?_
  have := any_of_Y (Q' := Q) (g := l.toArray.size - n) hch (fun listed a' F w' hw' hk hL => by
    have hw2 : C cs.length w' := by rwa [ph_all fun c hc => hL.2.1 c (hlc' c hc)] at hw'
    have := wpAny_of_seq (md := .any) (Q' := Q) (l.drop n) n listed a' w' (fun j => by simp [List.getElem?_drop]) (by rw [hdl]; exact hL.1) (hL.2.2 w' hw2 hk)
    rwa [hdl] at this) _ _ _ _ _ inv0 (fun _ _ _ _ _ => trivial) (by rw [ph_none fun c => getD_replicate_false _ _]; exact hw) (fun _ => trivial) H
  rw [htl, show n + (l.toArray.size - n) = l.toArray.size by omega] at this
  exact this
def allB (ops : Array Oper) (cs : List Nat) : Bool := Region.noSelect ops && Region.lexHead .any ops 0 ops.size 0 (Array.replicate ops.size false) && chainedB .any ops cs && cs.all (fun c => decide (c < ops.size))
/-- A region that has no tail. -/
theorem wp_region_all {id : Nat} {Q : Exit → Act → World → Prop} {a : Act} {w : World} {l : List Oper} (Le : World → World → Prop) (S : FuncId → Array Value → Value → World → Prop) (SV : FuncId → Array Value → Value → Prop) (C : Nat → World → Prop) (cs : List Nat) (hm : P.follows .mixedOrders = true) (hB : allB l.toArray cs = true)
    (hw : C 0 w.drew) (h : wpY P .any l.toArray Le S SV C cs (fun a' F => ∀ w', C cs.length w' → (∀ k, F k w') → Q .normal a' w') 0 l a (fun _ _ => True)) : (Code.region id l.toArray true).wp P Q a w := by
  simp only [allB, Bool.and_eq_true] at hB
  obtain ⟨⟨⟨hsel, hlex⟩, hch⟩, hlc⟩ := hB
  have hlc' : ∀ c ∈ cs, c < l.toArray.size := fun c hc => by have := List.all_eq_true.1 hlc c hc; simpa using this
  have inv0 : HeadInv .any l.toArray l.toArray.size (Array.replicate l.toArray.size false) :=
    ⟨by simp, fun j oj _ hl => (by rw [getD_replicate_false] at hl; cases hl), fun t h1 h2 => by omega⟩
  have H := anyY_lex (md := .any) (g := 0) (Lq := fun a' F => ∀ w', C cs.length w' → (∀ k, F k w') → Q .normal a' w') (fun a F F' hF h w' h1 h2 => h w' h1 fun k => hF k _ (h2 k)) hsel
    (fun i hin listed inv hun j hj => by
      obtain ⟨_, oj, hoj, _⟩ := mem_ready.1 hj
      exact (Array.getElem?_eq_some_iff.1 hoj).1) l 0 _ a (fun _ _ => True) (fun j hj => by simp) (by simp) inv0 (fun j hj => by omega) (by simpa using hlex) h
  refine wp_region_any hm ?_
  have := any_of_Y (Q' := Q) (g := 0) hch (fun listed a' F w' hw' hk hL => by
    have hw2 : C cs.length w' := by rwa [ph_all fun c hc => hL.2.1 c (hlc' c hc)] at hw'
    refine ⟨?_, hL.2.2 w' hw2 hk⟩
    simpa [Region.seqB] using hL.1) _ _ _ _ _ inv0 (fun _ _ _ _ _ => trivial) (by rw [ph_none fun c => getD_replicate_false _ _]; exact hw) (fun _ => trivial) H
  rw [Nat.add_zero] at this
  simpa using this

/-! ### one operation -/
variable {Q : Act → (Nat → World → Prop) → Prop} {F : Nat → World → Prop} {a : Act} {o : Oper} {rest : List Oper} {k : Nat}
theorem wpY_mono (hQ : ∀ a F F', (∀ k w, F' k w → F k w) → Q a F → Q a F') : ∀ (l : List Oper) (k : Nat) (a : Act) (F F' : Nat → World → Prop), (∀ k w, F' k w → F k w) → wpY P md ops Le S SV C cs Q k l a F → wpY P md ops Le S SV C cs Q k l a F'
  | [], _, _, _, _, hF, h => hQ _ _ _ hF h
  | o :: l, k, a, F, F', hF, h => by
    obtain ⟨V, R, hi, hg, hk⟩ := h
    exact ⟨V, R, hi, hg.mono hF, fun u hu => wpY_mono hQ l (k + 1) _ _ _ (up_mono hF k (R u)) (hk u hu)⟩
/-- The walk's post, as the two theorems have it. -/
structure Mon (Q : Act → (Nat → World → Prop) → Prop) : Prop where mk ::
  out : ∀ a F F', (∀ k w, F' k w → F k w) → Q a F → Q a F'
theorem y_nil (h : Q a F) : wpY P md ops Le S SV C cs Q k [] a F := h
theorem wanted_none (h : o.guard = none) : Region.wanted o (yielded ops a.tmps) = true := by simp [Region.wanted, h]
/-- What operation i has told, to one that waits for it. -/
theorem fact {w : World} (hp : ∀ e ∈ o.after, Region.binds md e = true → F e.on w) (i : Nat) (h : (o.after.toList.any fun e => e.on == i && Region.binds md e) = true) : F i w := by
  obtain ⟨e, he, h2⟩ := List.any_eq_true.1 h
  simp only [Bool.and_eq_true, beq_iff_eq] at h2
  have := hp e (by simpa using he) h2.2
  rwa [h2.1] at this
def offB (cs : List Nat) (k : Nat) : Bool := !(cs.contains k)
theorem tr_off {i p p' : Nat} (h : offB cs i = true) (ht : tr cs i p p') : p' = p := by
  rcases ht with ⟨_, h2⟩ | ⟨h1, _⟩
  · exact h2
  · have : i ∈ cs := List.mem_of_getElem? h1
    simp [offB] at h
    exact absurd this h
def onB (cs : List Nat) (k q : Nat) : Bool := cs.contains k && (List.range cs.length).all fun p => p == q || cs[p]? != some k
theorem tr_on {i p p' q : Nat} (h : onB cs i q = true) (ht : tr cs i p p') : p = q ∧ p' = q + 1 := by
  simp only [onB, Bool.and_eq_true] at h
  rcases ht with ⟨h1, _⟩ | ⟨h1, h2⟩
  · have := h.1; simp at this; exact absurd this h1
  · have hp : p < cs.length := (List.getElem?_eq_some_iff.1 h1).1
    have := List.all_eq_true.1 h.2 p (List.mem_range.2 hp)
    simp [h1] at this
    subst this
    exact ⟨rfl, h2⟩
/-- One value, found by running it. -/
theorem y_val (hQ : Mon Q) (hrefl : ∀ w, Le w w) (hFk : ∀ w, F k w) (hoff : offB cs k = true) (hw : Region.wanted o (yielded ops a.tmps) = true)
    (h : ∃ v, (∀ p w, C p w → (∀ e ∈ o.after, Region.binds md e = true → F e.on w) → (execOp a.eval o).run P w = .ok (.value v) w) ∧ ∀ K : Act → Prop, (∀ a, wpY P md ops Le S SV C cs Q (k + 1) rest a F → K a) → K (a.put o.dst v)) : wpY P md ops Le S SV C cs Q k (o :: rest) a F := by
  obtain ⟨v, hr, h⟩ := h
  refine ⟨fun u => u = v, fun _ _ => True, ⟨v, rfl⟩, .inl ⟨hw, fun _ _ _ _ _ => trivial, fun p p' ht w hc hp => ?_⟩, ?_⟩
  · rw [hr p w hc hp, tr_off hoff ht]
    exact ⟨hrefl w, hc, rfl, trivial⟩
  · rintro u rfl
    exact h _ fun a hh => wpY_mono hQ.out rest (k + 1) a F _ (fun j w' hj => by
      by_cases hjk : j = k
      · subst hjk; exact hFk w'
      · rwa [up_ne _ _ hjk] at hj) hh
/-- One value at an operation of cs: the class q is turned as it is. -/
theorem y_pass (q : Nat) (hQ : Mon Q) (hrefl : ∀ w, Le w w) (hFk : ∀ w, F k w) (hon : onB cs k q = true) (hw : Region.wanted o (yielded ops a.tmps) = true) (hC : ∀ w, C q w → C (q + 1) w)
    (h : ∃ v, (∀ w, C q w → (∀ e ∈ o.after, Region.binds md e = true → F e.on w) → (execOp a.eval o).run P w = .ok (.value v) w) ∧ ∀ K : Act → Prop, (∀ a, wpY P md ops Le S SV C cs Q (k + 1) rest a F → K a) → K (a.put o.dst v)) : wpY P md ops Le S SV C cs Q k (o :: rest) a F := by
  obtain ⟨v, hr, h⟩ := h
  refine ⟨fun u => u = v, fun _ _ => True, ⟨v, rfl⟩, .inl ⟨hw, fun _ _ _ _ _ => trivial, fun p p' ht w hc hp => ?_⟩, ?_⟩
  · obtain ⟨rfl, rfl⟩ := tr_on hon ht
    rw [hr w hc hp]
    exact ⟨hrefl w, hC w hc, rfl, trivial⟩
  · rintro u rfl
    exact h _ fun a hh => wpY_mono hQ.out rest (k + 1) a F _ (fun j w' hj => by
      by_cases hjk : j = k
      · subst hjk; exact hFk w'
      · rwa [up_ne _ _ hjk] at hj) hh
theorem y_skip (hQ : Mon Q) (hFk : ∀ w, F k w) (hoff : offB cs k = true) (hw : Region.wanted o (yielded ops a.tmps) = false)
    (h : ∀ K : Act → Prop, (∀ a, wpY P md ops Le S SV C cs Q (k + 1) rest a F → K a) → K (a.put o.dst undef)) : wpY P md ops Le S SV C cs Q k (o :: rest) a F := by
  refine ⟨fun u => u = undef, fun _ _ => True, ⟨undef, rfl⟩, .inr ⟨hw, fun p p' ht w hc => by rw [tr_off hoff ht]; exact hc, rfl, rfl⟩, ?_⟩
  rintro u rfl
  exact h _ fun a hh => wpY_mono hQ.out rest (k + 1) a F _ (fun j w' hj => by
    by_cases hjk : j = k
    · subst hjk; exact hFk w'
    · rwa [up_ne _ _ hjk] at hj) hh
/-- A call whose result S tells. -/
theorem y_call (hoff : offB cs k = true) (hw : Region.wanted o (yielded ops a.tmps) = true)
    (h : ∃ f args, (∀ w, (execOp a.eval o).run P w = .ok (.enter f args) w) ∧ (∃ u, SV f args u) ∧ (∀ u, Stb Le (S f args u)) ∧
      (∀ p w, C p w → (∀ e ∈ o.after, Region.binds md e = true → F e.on w) → Calls P f args w (fun e w'' => ∃ u, e = .returned u ∧ Le w w'' ∧ C p w'' ∧ SV f args u ∧ S f args u w'')) ∧
      ∀ u, SV f args u → ∀ K : Act → Prop, (∀ a, wpY P md ops Le S SV C cs Q (k + 1) rest a (up F k (S f args u)) → K a) → K (a.put o.dst u)) : wpY P md ops Le S SV C cs Q k (o :: rest) a F := by
  obtain ⟨f, args, hr, hi, hs, hc, h⟩ := h
  exact ⟨SV f args, S f args, hi, .inl ⟨hw, hs, fun p p' ht w hw hp => by rw [hr w, tr_off hoff ht]; exact ⟨rfl, rfl, rfl, hc p w hw hp⟩⟩, fun u hu => h u hu _ fun a hh => hh⟩
/-- The call that turns the class q. -/
theorem y_turn (q : Nat) (hon : onB cs k q = true) (hw : Region.wanted o (yielded ops a.tmps) = true)
    (h : ∃ f args, (∀ w, (execOp a.eval o).run P w = .ok (.enter f args) w) ∧ (∃ u, SV f args u) ∧ (∀ u, Stb Le (S f args u)) ∧
      (∀ w, C q w → (∀ e ∈ o.after, Region.binds md e = true → F e.on w) → Calls P f args w (fun e w'' => ∃ u, e = .returned u ∧ Le w w'' ∧ C (q + 1) w'' ∧ SV f args u ∧ S f args u w'')) ∧
      ∀ u, SV f args u → ∀ K : Act → Prop, (∀ a, wpY P md ops Le S SV C cs Q (k + 1) rest a (up F k (S f args u)) → K a) → K (a.put o.dst u)) : wpY P md ops Le S SV C cs Q k (o :: rest) a F := by
  obtain ⟨f, args, hr, hi, hs, hc, h⟩ := h
  exact ⟨SV f args, S f args, hi, .inl ⟨hw, hs, fun p p' ht w hw hp => by obtain ⟨rfl, rfl⟩ := tr_on hon ht; rw [hr w]; exact ⟨rfl, rfl, rfl, hc w hw hp⟩⟩, fun u hu => h u hu _ fun a hh => hh⟩
/-- The call that turns the class q is not made: the class is turned as it is. -/
theorem y_idle (q : Nat) (hQ : Mon Q) (hFk : ∀ w, F k w) (hon : onB cs k q = true) (hw : Region.wanted o (yielded ops a.tmps) = false) (hC : ∀ w, C q w → C (q + 1) w)
    (h : ∀ K : Act → Prop, (∀ a, wpY P md ops Le S SV C cs Q (k + 1) rest a F → K a) → K (a.put o.dst undef)) : wpY P md ops Le S SV C cs Q k (o :: rest) a F := by
  refine ⟨fun u => u = undef, fun _ _ => True, ⟨undef, rfl⟩, .inr ⟨hw, fun p p' ht w hc => by obtain ⟨rfl, rfl⟩ := tr_on hon ht; exact hC w hc, rfl, rfl⟩, ?_⟩
  rintro u rfl
  exact h _ fun a hh => wpY_mono hQ.out rest (k + 1) a F _ (fun j w' hj => by
    by_cases hjk : j = k
    · subst hjk; exact hFk w'
    · rwa [up_ne _ _ hjk] at hj) hh
/-- A new variable, or another operation that makes memory. -/
theorem y_new (V : Value → Prop) (R : Value → World → Prop) (hV : ∃ u, V u) (hs : ∀ u, Stb Le (R u)) (hoff : offB cs k = true) (hw : Region.wanted o (yielded ops a.tmps) = true)
    (h : (∀ p w, C p w → (∀ e ∈ o.after, Region.binds md e = true → F e.on w) → ∃ u w', (execOp a.eval o).run P w = .ok (.value u) w' ∧ Le w w' ∧ C p w' ∧ V u ∧ R u w') ∧
      ∀ u, V u → ∀ K : Act → Prop, (∀ a, wpY P md ops Le S SV C cs Q (k + 1) rest a (up F k (R u)) → K a) → K (a.put o.dst u)) : wpY P md ops Le S SV C cs Q k (o :: rest) a F :=
  ⟨V, R, hV, .inl ⟨hw, hs, fun p p' ht w hw hp => by obtain ⟨u, w', e, hb, hc, hv, hr⟩ := h.1 p w hw hp; rw [e, tr_off hoff ht]; exact ⟨hb, hc, hv, hr⟩⟩, fun u hu => h.2 u hu _ fun a hh => hh⟩
/-- A store that turns the class q. -/
theorem y_put (q : Nat) (v : Value) (hQ : Mon Q) (hFk : ∀ w, F k w) (hon : onB cs k q = true) (hw : Region.wanted o (yielded ops a.tmps) = true)
    (h : (∀ w, C q w → (∀ e ∈ o.after, Region.binds md e = true → F e.on w) → ∃ w', (execOp a.eval o).run P w = .ok (.value v) w' ∧ Le w w' ∧ C (q + 1) w') ∧
      ∀ K : Act → Prop, (∀ a, wpY P md ops Le S SV C cs Q (k + 1) rest a F → K a) → K (a.put o.dst v)) : wpY P md ops Le S SV C cs Q k (o :: rest) a F := by
  refine ⟨fun u => u = v, fun _ _ => True, ⟨v, rfl⟩, .inl ⟨hw, fun _ _ _ _ _ => trivial, fun p p' ht w hw hp => by obtain ⟨rfl, rfl⟩ := tr_on hon ht; obtain ⟨w', e, hb, hc⟩ := h.1 w hw hp; rw [e]; exact ⟨hb, hc, rfl, trivial⟩⟩, ?_⟩
  rintro u rfl
  exact h.2 _ fun a hh => wpY_mono hQ.out rest (k + 1) a F _ (fun j w' hj => by
    by_cases hjk : j = k
    · subst hjk; exact hFk w'
    · rwa [up_ne _ _ hjk] at hj) hh
/-- An operation that makes memory and turns the class q. -/
theorem y_grow (q : Nat) (V : Value → Prop) (R : Value → World → Prop) (hV : ∃ u, V u) (hs : ∀ u, Stb Le (R u)) (hon : onB cs k q = true) (hw : Region.wanted o (yielded ops a.tmps) = true)
    (h : (∀ w, C q w → (∀ e ∈ o.after, Region.binds md e = true → F e.on w) → ∃ u w', (execOp a.eval o).run P w = .ok (.value u) w' ∧ Le w w' ∧ C (q + 1) w' ∧ V u ∧ R u w') ∧
      ∀ u, V u → ∀ K : Act → Prop, (∀ a, wpY P md ops Le S SV C cs Q (k + 1) rest a (up F k (R u)) → K a) → K (a.put o.dst u)) : wpY P md ops Le S SV C cs Q k (o :: rest) a F :=
  ⟨V, R, hV, .inl ⟨hw, hs, fun p p' ht w hw hp => by obtain ⟨rfl, rfl⟩ := tr_on hon ht; obtain ⟨u, w', e, hb, hc, hv, hr⟩ := h.1 w hw hp; rw [e]; exact ⟨hb, hc, hv, hr⟩⟩, fun u hu => h.2 u hu _ fun a hh => hh⟩
end
end Go.Proofs.Ytddhngalokmdoaa.Qy
