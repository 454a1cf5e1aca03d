/- Regions that draw their order: a head of reads and calls that only make memory, two new variables that come up at any time, and a tail in one order. Any program. -/
import Derived.Test.YtlhapohpedihjaaDoorQt
namespace Go.Proofs.YtlhapohpedihjaaDoor.Qf
open Go.RowKit Go.Proofs.YtlhapohpedihjaaDoor.Arr
set_option linter.unusedVariables false
set_option linter.unusedSimpArgs false
section
variable {P : Program} {ops : Array Oper} {md : Region.Mode}

/-- The one value of an operation in each world of a class; a call leaves what was there as it was. -/
def tUpon (P : Program) (w : World) (v : Value) : Result Next → Prop
  | .ok (.value u) w' => w' = w ∧ u = v
  | .ok (.enter f args) w' => w' = w ∧ Calls P f args w (fun e w'' => e = .returned v ∧ Below w.heap.size w w'')
  | _ => False
def Yields (P : Program) (ops : Array Oper) (E : World → Prop) (o : Oper) (v : Value) (a : Act) : Prop :=
  Region.wanted o (yielded ops a.tmps) = true ∧ ∀ w, E w → tUpon P w v ((execOp a.eval o).run P w)
theorem Yields.mono {E E' : World → Prop} {o : Oper} {v : Value} {a : Act} (h : Yields P ops E o v a) (hE : ∀ w, E' w → E w) : Yields P ops E' o v a := ⟨h.1, fun w hw => h.2 w (hE w hw)⟩

/-- A new variable: which block it is, nothing tells but that it is new. -/
structure Fresh (E : World → Prop) (g : Nat) (T : TypeId) (Z : Array Value) (w : World) : Prop where mk ::
  old : E w
  blk : Blk w g T Z
  new : ∃ w0, E w0 ∧ g = w0.heap.size

/-- Operation i, of those that are floating (fl tells type and zero) or fixed. -/
def opE (P : Program) (ops : Array Oper) (fl : Nat → Option (TypeId × Array Value)) (i : Nat) (K : Act → (World → Prop) → Prop) (a : Act) (E : World → Prop) : Prop :=
  ∃ o, ops[i]? = some o ∧ match fl i with
    | some (T, Z) => ∀ g, (∃ w0, E w0 ∧ g = w0.heap.size) → K (a.put o.dst (.pointer (some ⟨g, 0, none⟩))) (Fresh E g T Z)
    | none => ∃ v, Yields P ops E o v a ∧ K (a.put o.dst v) E
theorem opE_mono {fl : Nat → Option (TypeId × Array Value)} {i : Nat} {K K' : Act → (World → Prop) → Prop} {a : Act} {E : World → Prop}
    (h : ∀ a' E', (∀ w, E' w → E w) → K a' E' → K' a' E') (H : opE P ops fl i K a E) : opE P ops fl i K' a E := by
  obtain ⟨o, ho, H⟩ := H
  refine ⟨o, ho, ?_⟩
  cases hf : fl i with
  | none =>
    rw [hf] at H
    obtain ⟨v, hv, hk⟩ := H
    exact ⟨v, hv, h _ _ (fun _ hw => hw) hk⟩
  | some x =>
    rw [hf] at H
    exact fun g hg => h _ _ (fun _ hw => hw.old) (H g hg)

def anyE (P : Program) (md : Region.Mode) (ops : Array Oper) (fl : Nat → Option (TypeId × Array Value)) (n : Nat) (L : Array Bool → Act → (World → Prop) → Prop) : Nat → Array Bool → Act → (World → Prop) → Prop
  | 0, listed, a, E => L listed a E
  | f + 1, listed, a, E => Region.ready md ops listed ≠ [] ∧ ∀ i ∈ Region.ready md ops listed, i < n ∧ opE P ops fl i (fun a' E' => anyE P md ops fl n L f (listed.setIfInBounds i true) a' E') a E

/-- Closed under what only makes memory. -/
def Closed (E : World → Prop) : Prop := ∀ w w', E w → Below w.heap.size w w' → E w'
theorem Fresh.closed {E : World → Prop} (h : Closed E) (g : Nat) (T : TypeId) (Z : Array Value) : Closed (Fresh E g T Z) :=
  fun w w' hw hb => ⟨h w w' hw.old hb, hw.blk.below hb, hw.new⟩

/-- What a floating operation is. -/
def IsFl (P : Program) (ops : Array Oper) (fl : Nat → Option (TypeId × Array Value)) : Prop :=
  ∀ i T Z, fl i = some (T, Z) → ∃ o, ops[i]? = some o ∧ o.guard = none ∧ o.op = .alloc T ∧ ∀ w, (zeroValue T).run P w = .ok (.agg Z) w

theorem wpOp_of_opE {fl : Nat → Option (TypeId × Array Value)} (hfl : IsFl P ops fl) {i : Nat} {K : Act → (World → Prop) → Prop} {a : Act} {E : World → Prop} (hc : Closed E) {w : World} (hw : E w) {Q' : Exit → Act → World → Prop} {K' : Act → World → Prop}
    (hK : ∀ a' E' w', Closed E' → E' w' → K a' E' → K' a' w') (H : opE P ops fl i K a E) : wpOp P ops Q' i K' a w := by
  obtain ⟨o, ho, H⟩ := H
  unfold wpOp
  simp only [ho]
  cases hf : fl i with
  | none =>
    rw [hf] at H
    obtain ⟨v, ⟨hwt, hv⟩, hk⟩ := H
    simp only [hwt, if_true]
    refine .inl ?_
    have h3 := hv w hw
    unfold Oper.wp
    generalize (execOp a.eval o).run P w = r at *
    cases r with
    | ok nx w' =>
      cases nx <;> simp only [tUpon] at h3 <;> simp only [Oper.upon]
      case value u =>
        obtain ⟨e1, e2⟩ := h3
        rw [e1, e2]
        exact hK _ _ _ hc hw hk
      case enter f args =>
        obtain ⟨e1, hcl⟩ := h3
        rw [e1]
        exact hcl.mono fun e w'' ⟨he, hw''⟩ => by subst he; exact hK _ _ _ hc (hc _ _ hw hw'') hk
    | halt x w' => simp only [tUpon] at h3
  | some x =>
    obtain ⟨T, Z⟩ := x
    rw [hf] at H
    obtain ⟨o', ho', hgd, hop, hz⟩ := hfl i T Z hf
    obtain rfl : o' = o := Option.some.inj (ho'.symm.trans ho)
    have hwt : Region.wanted o' (yielded ops a.tmps) = true := by simp [Region.wanted, hgd]
    simp only [hwt, if_true]
    refine .inl ?_
    have hr : (Instr.alloc T true (.tuple #[])).run P w = .ok (.pointer (some ⟨w.heap.size, 0, none⟩)) (w.alloc (.cells Z T)) := by
      unfold Instr.alloc
      rw [Sem.run_bind, hz]
      rfl
    unfold Oper.wp execOp
    simp only [hop, Sem.run_bind, hr, Result.andThen_ok, Sem.run_pure]
    have hb : Below w.heap.size w (w.alloc (.cells Z T)) := (Below.refl _ _).alloc (Nat.le_refl _) _
    exact hK _ _ _ (Fresh.closed hc _ _ _) ⟨hc _ _ hw hb, Blk.new _ _ _, w, hw, rfl⟩ (H _ ⟨w, hw, rfl⟩)

theorem any_of_E {fl : Nat → Option (TypeId × Array Value)} (hfl : IsFl P ops fl) {n g : Nat} {L : Array Bool → Act → (World → Prop) → Prop} {Q' : Exit → Act → World → Prop}
    (hL : ∀ listed a E w, Closed E → E w → L listed a E → wpAny P md ops Q' g listed a w) :
    ∀ (f : Nat) (listed : Array Bool) (a : Act) (E : World → Prop) (w : World), Closed E → E w → anyE P md ops fl n L f listed a E → wpAny P md ops Q' (f + g) listed a w
  | 0, listed, a, E, w, hc, hw, h => by rw [Nat.zero_add]; exact hL _ _ _ _ hc hw h
  | f + 1, listed, a, E, w, hc, hw, h => by
    rw [show f + 1 + g = (f + g) + 1 by omega]
    exact ⟨fun h0 => absurd h0 h.1, fun i hi => wpOp_of_opE hfl hc hw (fun a' E' w' hc' hw' h' => any_of_E hfl hL f _ a' E' w' hc' hw' h') (h.2 i hi).2⟩

theorem Yields.put {E : World → Prop} {oi oj : Oper} {v u : Value} {a : Act} (hy : Yields P ops E oi v a) (hap : oi.apart ops oj = true) (hsi : ∀ cs b, oi.op ≠ .select cs b) : Yields P ops E oi v (a.put oj.dst u) := by
  obtain ⟨h1, h2, h3⟩ := Oper.apart_spec hap
  unfold Yields at *
  rw [execOp_put oi hsi a oj.dst u h3, wanted_put oi a oj.dst u h3]
  exact hy
theorem Yields.unput {E : World → Prop} {oi oj : Oper} {v u : Value} {a : Act} (hy : Yields P ops E oj u (a.put oi.dst v)) (hap : oi.apart ops oj = true) (hsj : ∀ cs b, oj.op ≠ .select cs b) : Yields P ops E oj u a := by
  obtain ⟨h1, h2, h3⟩ := Oper.apart_spec hap
  unfold Yields at *
  rw [execOp_put oj hsj a oi.dst v h1, wanted_put oj a oi.dst v h1] at hy
  exact hy

/-- A fixed operation that may come up may be taken first. -/
theorem anyE_first {fl : Nat → Option (TypeId × Array Value)} {n i : Nat} {oi : Oper} {v : Value} {L : Array Bool → Act → (World → Prop) → Prop} (hi : ops[i]? = some oi) (hfi : fl i = none) (hsel : ∀ (j : Nat) (o : Oper) cs b, ops[j]? = some o → o.op ≠ .select cs b)
    (hs : Region.sinkB md ops n = true) (hc : Region.chainB md ops n = true) (hn : n < ops.size) (hin : i < n)
    (hdone : ∀ listed a E, L listed a E → ∀ j ∈ Region.ready md ops listed, n ≤ j) :
    ∀ (f : Nat) (listed : Array Bool) (a : Act) (E : World → Prop), HeadInv md ops n listed →
      (∀ j oj, ops[j]? = some oj → j ≠ i → listed.getD j true = false → (∀ e ∈ oj.after, Region.binds md e = true → e.on ≠ i) → oi.apart ops oj = true) →
      i ∈ Region.ready md ops listed → Yields P ops E oi v a →
      anyE P md ops fl n L f (listed.setIfInBounds i true) (a.put oi.dst v) E → anyE P md ops fl n L (f + 1) listed a E := by
  intro f
  induction f with
  | zero =>
    intro listed a E inv _ hr hy H
    have hun := (mem_ready.1 hr).1
    refine ⟨fun h => (by rw [h] at hr; cases hr), fun j hj => ?_⟩
    have hjn : j < n := (Nat.lt_or_ge j n).resolve_right fun h => absurd hj (tail_waits hs hc hn inv _ i rfl hin hun j h)
    refine ⟨hjn, ?_⟩
    by_cases hji : j = i
    · subst hji; exact ⟨oi, hi, by rw [hfi]; exact ⟨v, hy, H⟩⟩
    · have := hdone _ _ _ H j (ready_mono hj hji)
      omega
  | succ f ih =>
    intro listed a E inv hfree hr hy H
    have hun := (mem_ready.1 hr).1
    refine ⟨fun h => (by rw [h] at hr; cases hr), fun j hj => ?_⟩
    have hjn : j < n := (Nat.lt_or_ge j n).resolve_right fun h => absurd hj (tail_waits hs hc hn inv _ i rfl hin hun j h)
    refine ⟨hjn, ?_⟩
    by_cases hji : j = i
    · subst hji; exact ⟨oi, hi, by rw [hfi]; exact ⟨v, hy, H⟩⟩
    · obtain ⟨oj, hoj, h1⟩ := (H.2 j (ready_mono hj hji)).2
      obtain ⟨hjun, oj', hoj', hall⟩ := mem_ready.1 hj
      obtain rfl : oj' = oj := Option.some.inj (hoj'.symm.trans hoj)
      have hnot : ∀ e ∈ oj'.after, Region.binds md e = true → e.on ≠ i := fun e he hb heq => by
        have h1 := hall e he hb
        rw [heq, getD_both hun] at h1
        cases h1
      have hap := hfree j oj' hoj hji hjun hnot
      have hsi : ∀ cs b, oi.op ≠ .select cs b := fun cs b => hsel i oi cs b hi
      have hsj : ∀ cs b, oj'.op ≠ .select cs b := fun cs b => hsel j oj' cs b hoj
      have hfree' : ∀ k ok, ops[k]? = some ok → k ≠ i → (listed.setIfInBounds j true).getD k true = false →
          (∀ e ∈ ok.after, Region.binds md e = true → e.on ≠ i) → oi.apart ops ok = true := fun k ok hk hki hun' hno => by
        refine hfree k ok hk hki ?_ hno
        by_cases hjk : j = k
        · subst hjk; exact hjun
        · rw [getD_set_ne true hjk] at hun'; exact hun'
      have hd := (Oper.apart_spec hap).2.1
      refine ⟨oj', hoj, ?_⟩
      cases hf : fl j with
      | none =>
        rw [hf] at h1
        obtain ⟨u, hu, hk⟩ := h1
        refine ⟨u, hu.unput hap hsj, ih (listed.setIfInBounds j true) _ E (inv.set hj hjn) hfree' (ready_mono hr (Ne.symm hji)) (hy.put hap hsi) ?_⟩
        rw [Array.setIfInBounds_comm _ _ hji, ← Act.put_comm a v u hd]
        exact hk
      | some x =>
        rw [hf] at h1
        intro g hg
        refine ih (listed.setIfInBounds j true) _ (Fresh E g x.1 x.2) (inv.set hj hjn) hfree' (ready_mono hr (Ne.symm hji)) ((hy.mono fun _ hw => hw.old).put hap hsi) ?_
        rw [Array.setIfInBounds_comm _ _ hji, ← Act.put_comm a v _ hd]
        exact h1 g hg

/-- The walk of the fixed operations, at the places ks. -/
def wpE (P : Program) (ops : Array Oper) (E : World → Prop) (Q : Act → Prop) : List Oper → Act → Prop
  | [], a => Q a
  | o :: rest, a => ∃ v, Yields P ops E o v a ∧ wpE P ops E Q rest (a.put o.dst v)
theorem wpE_nil {E : World → Prop} {Q : Act → Prop} {a : Act} (h : Q a) : wpE P ops E Q [] a := h

def lexE (md : Region.Mode) (ops : Array Oper) (fl : Nat → Option (TypeId × Array Value)) (done : Array Bool → Bool) : List Nat → Array Bool → Bool
  | [], listed => done listed
  | k :: ks, listed => (fl k).isNone && (Region.ready md ops listed).contains k && Region.free md ops listed k && lexE md ops fl done ks (listed.setIfInBounds k true)
theorem anyE_lex {fl : Nat → Option (TypeId × Array Value)} {n m : Nat} {L : Array Bool → Act → (World → Prop) → Prop} {Lq : Act → Prop} {E : World → Prop} {done : Array Bool → Bool} (hsel : Region.noSelect ops = true) (hs : Region.sinkB md ops n = true) (hc : Region.chainB md ops n = true) (hn : n < ops.size)
    (hdone : ∀ listed a E, L listed a E → ∀ j ∈ Region.ready md ops listed, n ≤ j)
    (hend : ∀ listed a, HeadInv md ops n listed → done listed = true → Lq a → anyE P md ops fl n L m listed a E) :
    ∀ (ks : List Nat) (l : List Oper) (listed : Array Bool) (a : Act), ks.map (ops[·]?) = l.map some → (∀ k ∈ ks, k < n) → HeadInv md ops n listed →
    lexE md ops fl done ks listed = true → wpE P ops E Lq l a → anyE P md ops fl n L (ks.length + m) listed a E
  | [], [], listed, a, _, _, inv, hB, h => by
    rw [List.length_nil, Nat.zero_add]
    exact hend _ _ inv hB h
  | [], _ :: _, _, _, hl, _, _, _, _ => by simp at hl
  | _ :: _, [], _, _, hl, _, _, _, _ => by simp at hl
  | k :: ks, o :: l, listed, a, hl, hk, inv, hB, h => by
    simp only [List.map_cons, List.cons.injEq] at hl
    simp only [lexE, Bool.and_eq_true] at hB
    obtain ⟨⟨⟨hf, hr⟩, hfr⟩, hB'⟩ := hB
    have hkn : k < n := hk k (by simp)
    have hr' : k ∈ Region.ready md ops listed := by simpa using hr
    obtain ⟨v, hy, hK⟩ := h
    rw [show (k :: ks).length + m = (ks.length + m) + 1 by simp; omega]
    exact anyE_first hl.1 (by simpa using hf) (Region.noSelect_spec hsel) hs hc hn hkn hdone (ks.length + m) listed a E inv (Region.free_spec hl.1 hfr) hr' hy
      (anyE_lex hsel hs hc hn hdone hend ks l _ _ hl.2 (fun x hx => hk x (by simp [hx])) (inv.set hr' hkn) hB' hK)

/-- **Two new variables, at p and q.** -/
def twoB (md : Region.Mode) (ops : Array Oper) (n p q : Nat) (listed : Array Bool) : Bool :=
  decide (Region.ready md ops listed = [p, q]) && decide (Region.ready md ops (listed.setIfInBounds p true) = [q]) && decide (Region.ready md ops (listed.setIfInBounds q true) = [p]) &&
  Region.seqB md ops (ops.size - n) n ((listed.setIfInBounds p true).setIfInBounds q true)
def flTwo (p q : Nat) (x y : TypeId × Array Value) (i : Nat) : Option (TypeId × Array Value) := if i = p then some x else if i = q then some y else none
theorem wp_region_two {id : Nat} {Q : Exit → Act → World → Prop} {a : Act} {w : World} {l : List Oper} (n p q : Nat) (op oq : Oper) (T U : TypeId) (Z Y : Array Value) (ks : List Nat) (lk : List Oper) (hm : P.follows .mixedOrders = true)
    (hp : l.toArray[p]? = some op) (hq : l.toArray[q]? = some oq) (hpq : p < n ∧ q < n ∧ p ≠ q) (hap : op.apart l.toArray oq = true)
    (gp : op.guard = none) (gq : oq.guard = none) (ap : op.op = .alloc T) (aq : oq.op = .alloc U) (zp : ∀ w, (zeroValue T).run P w = .ok (.agg Z) w) (zq : ∀ w, (zeroValue U).run P w = .ok (.agg Y) w)
    (hk : ks.map (l.toArray[·]?) = lk.map some) (hkn : ∀ k ∈ ks, k < n) (hks : ks.length + 2 = n)
    (hB : (Region.noSelect l.toArray && decide (n < l.toArray.size) && Region.sinkB .any l.toArray n && Region.chainB .any l.toArray n) = true)
    (hX : lexE .any l.toArray (flTwo p q (T, #[]) (U, #[])) (twoB .any l.toArray n p q) ks (Array.replicate l.toArray.size false) = true)
    (h : wpE P l.toArray (Below w.heap.size w) (fun a' => ∀ g g' w', g ≠ g' → w.heap.size ≤ g → w.heap.size ≤ g' → Below w.heap.size w w' → Blk w' g T Z → Blk w' g' U Y →
      wpList P l.toArray Q (l.drop n) ((a'.put op.dst (.pointer (some ⟨g, 0, none⟩))).put oq.dst (.pointer (some ⟨g', 0, none⟩))) w') lk a) : (Code.region id l.toArray true).wp P Q a w := by
  simp only [Bool.and_eq_true, decide_eq_true_eq] at hB
  obtain ⟨⟨⟨hsel, hn⟩, hs⟩, hc⟩ := hB
  have hn' : n < l.length := by simpa using hn
  have hdl : (l.drop n).length = l.toArray.size - n := by simp
  have inv0 : HeadInv .any l.toArray n (Array.replicate l.toArray.size false) :=
    ⟨by simp, fun j oj _ hl => (by rw [getD_replicate_false] at hl; cases hl), fun t _ ht => getD_in (by simpa using ht) (getD_replicate_false _ _)⟩
  have hX' : ∀ ks listed, lexE .any l.toArray (flTwo p q (T, #[]) (U, #[])) (twoB .any l.toArray n p q) ks listed = true → lexE .any l.toArray (flTwo p q (T, Z) (U, Y)) (twoB .any l.toArray n p q) ks listed = true := by
    intro ks
    induction ks with
    | nil => intro listed h; exact h
    | cons k ks ih =>
      intro listed h
      simp only [lexE, Bool.and_eq_true] at h ⊢
      refine ⟨⟨⟨?_, h.1.1.2⟩, h.1.2⟩, ih _ h.2⟩
      have := h.1.1.1
      unfold flTwo at this ⊢
      split at this
      · simp at this
      · split at this
        · simp at this
        · rename_i h1 h2; rw [if_neg h1, if_neg h2]; rfl
  have hfl : IsFl P l.toArray (flTwo p q (T, Z) (U, Y)) := by
    intro i T' Z' hi
    unfold flTwo at hi
    split at hi
    · rename_i e; subst e; simp only [Option.some.injEq, Prod.mk.injEq] at hi; obtain ⟨rfl, rfl⟩ := hi; exact ⟨op, hp, gp, ap, zp⟩
    · split at hi
      · rename_i e; subst e; simp only [Option.some.injEq, Prod.mk.injEq] at hi; obtain ⟨rfl, rfl⟩ := hi; exact ⟨oq, hq, gq, aq, zq⟩
      · cases hi
  have hd := (Oper.apart_spec hap).2.1
  have fp : flTwo p q (T, Z) (U, Y) p = some (T, Z) := by simp [flTwo]
  have fq : flTwo p q (T, Z) (U, Y) q = some (U, Y) := by simp [flTwo, Ne.symm hpq.2.2]
  have H := anyE_lex (P := P) (md := .any) (ops := l.toArray) (fl := flTwo p q (T, Z) (U, Y)) (n := n) (m := 2)
    (L := fun listed' a' E' => Region.seqB .any l.toArray (l.toArray.size - n) n listed' = true ∧ ∀ w', E' w' → wpList P l.toArray Q (l.drop n) a' w')
    hsel hs hc hn (fun listed' a' E' hL => seqB_ready hL.1) (by
      intro listed a' inv hdn hq2
      simp only [twoB, Bool.and_eq_true, decide_eq_true_eq] at hdn
      obtain ⟨⟨⟨r0, r1⟩, r2⟩, r3⟩ := hdn
      refine ⟨by rw [r0]; simp, fun i hi => ?_⟩
      rw [r0] at hi
      simp only [List.mem_cons, List.not_mem_nil, or_false] at hi
      rcases hi with rfl | rfl
      · refine ⟨hpq.1, op, hp, ?_⟩
        rw [fp]
        intro g ⟨w0, hw0, hg⟩
        refine ⟨by rw [r1]; simp, fun i hi => ?_⟩
        rw [r1] at hi
        simp only [List.mem_cons, List.not_mem_nil, or_false] at hi
        subst hi
        refine ⟨hpq.2.1, oq, hq, ?_⟩
        rw [fq]
        intro g' ⟨w1, hw1, hg'⟩
        refine ⟨r3, fun w' hw' => ?_⟩
        have b1 := hw1.blk.lt
        have c1 : w.heap.size ≤ w0.heap.size := hw0.size
        have c2 : w.heap.size ≤ w1.heap.size := hw1.old.size
        exact hq2 g g' w' (by omega) (by omega) (by omega) hw'.old.old hw'.old.blk hw'.blk
      · refine ⟨hpq.2.1, oq, hq, ?_⟩
        rw [fq]
        intro g' ⟨w0, hw0, hg'⟩
        refine ⟨by rw [r2]; simp, fun i hi => ?_⟩
        rw [r2] at hi
        simp only [List.mem_cons, List.not_mem_nil, or_false] at hi
        subst hi
        refine ⟨hpq.1, op, hp, ?_⟩
        rw [fp]
        intro g ⟨w1, hw1, hg⟩
        refine ⟨by rw [Array.setIfInBounds_comm _ _ (Ne.symm hpq.2.2)]; exact r3, fun w' hw' => ?_⟩
        have b1 := hw1.blk.lt
        have c1 : w.heap.size ≤ w0.heap.size := hw0.size
        have c2 : w.heap.size ≤ w1.heap.size := hw1.old.size
        rw [← Act.put_comm a' _ _ hd]
        exact hq2 g g' w' (by omega) (by omega) (by omega) hw'.old.old hw'.blk hw'.old.blk)
    ks lk _ a hk hkn inv0 (hX' _ _ hX) h
  refine wp_region_any hm ?_
  have := any_of_E (Q' := Q) hfl (g := l.toArray.size - n) (fun listed' a' E' w' _ hw' hL => by
    have := wpAny_of_seq (md := .any) (Q' := Q) (l.drop n) n listed' a' w' (fun j => by simp [List.getElem?_drop]) (by rw [hdl]; exact hL.1) (hL.2 w' hw')
    rwa [hdl] at this) _ _ _ _ _ (fun w1 w2 h1 h2 => h1.trans (h2.mono h1.size)) ((Below.refl w.heap.size w).drew) H
  rw [hks, show n + (l.toArray.size - n) = l.toArray.size by simp; omega] at this
  exact this

/-- The two new variables stand right behind m fixed operations, ahead of the tail. -/
theorem wp_region_two' {id : Nat} {Q : Exit → Act → World → Prop} {a : Act} {w : World} {l : List Oper} (m : Nat) (op oq : Oper) (T U : TypeId) (Z Y : Array Value) (hm : P.follows .mixedOrders = true)
    (hp : l.toArray[m]? = some op) (hq : l.toArray[m + 1]? = some oq) (hap : op.apart l.toArray oq = true)
    (gp : op.guard = none) (gq : oq.guard = none) (ap : op.op = .alloc T) (aq : oq.op = .alloc U) (zp : ∀ w, (zeroValue T).run P w = .ok (.agg Z) w) (zq : ∀ w, (zeroValue U).run P w = .ok (.agg Y) w)
    (hB : (Region.noSelect l.toArray && decide (m + 2 < l.toArray.size) && Region.sinkB .any l.toArray (m + 2) && Region.chainB .any l.toArray (m + 2) &&
      lexE .any l.toArray (flTwo m (m + 1) (T, #[]) (U, #[])) (twoB .any l.toArray (m + 2) m (m + 1)) (List.range m) (Array.replicate l.toArray.size false)) = true)
    (h : wpE P l.toArray (Below w.heap.size w) (fun a' => ∀ g g' w', g ≠ g' → w.heap.size ≤ g → w.heap.size ≤ g' → Below w.heap.size w w' → Blk w' g T Z → Blk w' g' U Y →
      wpList P l.toArray Q (l.drop (m + 2)) ((a'.put op.dst (.pointer (some ⟨g, 0, none⟩))).put oq.dst (.pointer (some ⟨g', 0, none⟩))) w') (l.take m) a) : (Code.region id l.toArray true).wp P Q a w := by
  rw [Bool.and_eq_true] at hB
  have hn : m + 2 < l.length := by
    have := hB.1
    simp only [Bool.and_eq_true, decide_eq_true_eq] at this
    simpa using this.1.1.2
  refine wp_region_two (m + 2) m (m + 1) op oq T U Z Y (List.range m) (l.take m) hm hp hq (by omega) hap gp gq ap aq zp zq ?_ (fun k hk => by simp at hk; omega) (by simp) hB.1 hB.2 h
  apply List.ext_getElem
  · simp; omega
  · intro i h1 h2
    simp at h1 h2
    simp [h2]

/-! ### one operation of the fixed walk -/
variable {E : World → Prop} {Q : Act → Prop} {a : Act} {o : Oper} {rest : List Oper}
theorem e_val (hgd : o.guard = none)
    (h : ∃ v, (∀ w, E w → (execOp a.eval o).run P w = .ok (.value v) w) ∧ ∀ K : Act → Prop, (∀ a, wpE P ops E Q rest a → K a) → K (a.put o.dst v)) : wpE P ops E Q (o :: rest) a := by
  obtain ⟨v, hr, h⟩ := h
  exact ⟨v, ⟨by simp [Region.wanted, hgd], fun w hw => by rw [hr w hw]; exact ⟨rfl, rfl⟩⟩, h _ fun _ x => x⟩
theorem e_call (hgd : o.guard = none)
    (h : ∃ f args, (∀ w, (execOp a.eval o).run P w = .ok (.enter f args) w) ∧ ∃ v, (∀ w, E w → Calls P f args w fun e w' => e = .returned v ∧ Below w.heap.size w w') ∧
      ∀ K : Act → Prop, (∀ a, wpE P ops E Q rest a → K a) → K (a.put o.dst v)) : wpE P ops E Q (o :: rest) a := by
  obtain ⟨f, args, hr, v, hc, h⟩ := h
  exact ⟨v, ⟨by simp [Region.wanted, hgd], fun w hw => by rw [hr w]; exact ⟨rfl, hc w hw⟩⟩, h _ fun _ x => x⟩
end
end Go.Proofs.YtlhapohpedihjaaDoor.Qf
