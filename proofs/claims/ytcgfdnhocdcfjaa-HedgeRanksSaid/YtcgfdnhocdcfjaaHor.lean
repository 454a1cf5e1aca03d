/- Keys in order; sorted trees, plainly. -/
import Derived.Test.YtcgfdnhocdcfjaaHtp
namespace Go.Proofs.Ytcgfdnhocdcfjaa.Hed
open Go.RowKit Go.Proofs.Ytcgfdnhocdcfjaa.Utf T
set_option linter.unusedVariables false
set_option linter.unusedSimpArgs false

theorem intsV_neg (a b : Int) : intsV a b < 0 ↔ a < b := by unfold intsV; split <;> (try split) <;> omega
theorem intsV_pos (a b : Int) : 0 < intsV a b ↔ b < a := by unfold intsV; split <;> (try split) <;> omega
theorem cmpL_zero : ∀ l m : List Int, cmpL l m = 0 → l = m
  | [], [], _ => rfl
  | [], _ :: _, h => by simp [cmpL] at h
  | _ :: _, [], h => by simp [cmpL] at h
  | a :: l, b :: m, h => by
    simp only [cmpL] at h
    split at h
    · rename_i e; rw [e, cmpL_zero l m h]
    · rename_i e
      unfold intsV at h
      split at h <;> (try split at h) <;> omega
theorem cmpL_self : ∀ l : List Int, cmpL l l = 0
  | [] => rfl
  | a :: l => by simp only [cmpL, if_true]; exact cmpL_self l
theorem cmpL_trans : ∀ l m n : List Int, cmpL l m < 0 → cmpL m n < 0 → cmpL l n < 0
  | [], [], _, h, _ => by simp [cmpL] at h
  | _ :: _, [], _, h, _ => by simp [cmpL] at h
  | [], _ :: _, [], _, h => by simp [cmpL] at h
  | [], _ :: _, _ :: _, _, _ => by simp [cmpL]
  | _ :: _, _ :: _, [], _, h => by simp [cmpL] at h
  | a :: l, b :: m, c :: n, h, h' => by
    simp only [cmpL] at h h' ⊢
    by_cases e1 : a = b
    · rw [if_pos e1] at h
      by_cases e2 : b = c
      · rw [if_pos e2] at h'
        rw [if_pos (e1.trans e2)]
        exact cmpL_trans l m n h h'
      · rw [if_neg e2] at h'
        rw [if_neg (by rw [e1]; exact e2), e1]
        exact h'
    · rw [if_neg e1] at h
      rw [intsV_neg] at h
      by_cases e2 : b = c
      · rw [if_neg (by rw [← e2]; exact e1), ← e2, intsV_neg]
        exact h
      · rw [if_neg e2, intsV_neg] at h'
        rw [if_neg (by omega), intsV_neg]
        omega
theorem cmpL_snoc : ∀ l m : List Int, (∀ x, x ∈ l → 0 ≤ x) → (cmpL l (m ++ [0]) < 0 ↔ cmpL l m ≤ 0)
  | [], [], _ => by simp [cmpL]
  | [], _ :: _, _ => by simp [cmpL]
  | a :: l, [], h => by
    have ha := h a (by simp)
    simp only [List.nil_append, cmpL]
    constructor
    · intro h1
      split at h1
      · cases l with
        | nil => simp [cmpL] at h1
        | cons b l => simp [cmpL] at h1
      · rw [intsV_neg] at h1; omega
    · intro h1; omega
  | a :: l, b :: m, h => by
    simp only [List.cons_append, cmpL]
    by_cases e : a = b
    · rw [if_pos e, if_pos e]
      exact cmpL_snoc l m (fun x hx => h x (by simp [hx]))
    · rw [if_neg e, if_neg e, intsV_neg]
      constructor
      · intro h1; have := (intsV_neg a b).2 h1; omega
      · intro h1
        have h2 : ¬ 0 < intsV a b := by omega
        rw [intsV_pos] at h2
        omega
theorem bl_inj (a b : ByteArray) (h : bl a 0 = bl b 0) : a = b := by
  unfold bl at h
  simp only [List.drop_zero] at h
  have h2 : a.data.toList = b.data.toList := by
    refine List.map_inj_right (f := fun c : UInt8 => (c.toNat : Int)) (fun x y hxy => ?_) |>.1 h
    exact UInt8.toNat_inj.1 (by have : (x.toNat : Int) = y.toNat := hxy; omega)
  obtain ⟨⟨x⟩⟩ := a
  obtain ⟨⟨y⟩⟩ := b
  simp at h2
  rw [h2]
theorem cmpB_zero (a b : ByteArray) : cmpB a b = 0 ↔ a = b := ⟨fun h => bl_inj a b (cmpL_zero _ _ h), fun h => by rw [h]; exact cmpL_self _⟩
theorem lt_trans {a b c : ByteArray} (h : T.lt a b = true) (h' : T.lt b c = true) : T.lt a c = true := by
  unfold T.lt at *
  simp only [decide_eq_true_eq] at *
  exact cmpL_trans _ _ _ h h'
theorem lt_irrefl (a : ByteArray) : T.lt a a = false := by
  unfold T.lt
  rw [(cmpB_zero a a).2 rfl]
  rfl
theorem lt_asymm {a b : ByteArray} (h : T.lt a b = true) : T.lt b a = false := by
  cases h2 : T.lt b a with
  | false => rfl
  | true => have := lt_trans h h2; rw [lt_irrefl] at this; cases this
theorem cmpB_flip (a b : ByteArray) : cmpB b a = -cmpB a b := cmpL_flip _ _
theorem lt_total {a b : ByteArray} (h : T.lt a b = false) (h' : T.lt b a = false) : a = b := by
  unfold T.lt at *
  simp only [decide_eq_false_iff_not] at *
  rw [cmpB_flip] at h'
  exact (cmpB_zero a b).1 (by omega)
def aboveK (key : ByteArray) : ByteArray := key ++ ⟨#[0]⟩
theorem bl_above (key : ByteArray) : bl (aboveK key) 0 = bl key 0 ++ [0] := by
  unfold aboveK bl
  simp [ByteArray.data_append]
theorem lt_above (k key : ByteArray) : T.lt k (aboveK key) = !T.lt key k := by
  unfold T.lt cmpB
  rw [bl_above]
  have h := cmpL_snoc (bl k 0) (bl key 0) (fun x hx => by unfold bl at hx; simp at hx; obtain ⟨c, -, rfl⟩ := hx; omega)
  have h2 := cmpL_flip (bl k 0) (bl key 0)
  rw [← decide_not, decide_eq_decide, h]
  omega
/-- Strictly rising keys. -/
def Srt (l : List Ent) : Prop := l.Pairwise fun a b => T.lt a.1 b.1 = true
theorem srt_append {l m : List Ent} : Srt (l ++ m) ↔ Srt l ∧ Srt m ∧ ∀ a, a ∈ l → ∀ b, b ∈ m → T.lt a.1 b.1 = true := List.pairwise_append
theorem srt_filter {l : List Ent} (h : Srt l) (p : Ent → Bool) : Srt (l.filter p) := List.Pairwise.filter p h
def lo (key : ByteArray) (e : Ent) : Bool := T.lt e.1 key
def hi (key : ByteArray) (e : Ent) : Bool := !T.lt e.1 key
theorem filter_all {l : List Ent} {p : Ent → Bool} (h : ∀ e, e ∈ l → p e = true) : l.filter p = l := List.filter_eq_self.2 h
theorem filter_none {l : List Ent} {p : Ent → Bool} (h : ∀ e, e ∈ l → p e = false) : l.filter p = [] := List.filter_eq_nil_iff.2 fun e he => by simp [h e he]
theorem node_parts {g : Nat} {k : ByteArray} {v wt : Int} {l r : T} (h : Srt (T.node g k v wt l r).ents) :
    Srt l.ents ∧ Srt r.ents ∧ (∀ e, e ∈ l.ents → T.lt e.1 k = true) ∧ (∀ e, e ∈ r.ents → T.lt k e.1 = true) := by
  simp only [T.ents] at h
  obtain ⟨h1, h2, h3⟩ := srt_append.1 h
  obtain ⟨h4, h5⟩ := List.pairwise_cons.1 h2
  exact ⟨h1, h5, fun e he => h3 e he (k, v) (by simp), fun e he => h4 e he⟩
theorem split_lo (t : T) (key : ByteArray) (h : Srt t.ents) : (splitT t key).1.ents = t.ents.filter (lo key) ∧ (splitT t key).2.ents = t.ents.filter (hi key) := by
  induction t with
  | nil => exact ⟨rfl, rfl⟩
  | node g k v wt l r ihl ihr =>
    obtain ⟨hl, hr, h1, h2⟩ := node_parts h
    simp only [splitT]
    cases hk : T.lt k key with
    | true =>
      simp only [if_true, T.ents, List.filter_append, List.filter_cons]
      have e1 : lo key (k, v) = true := hk
      have e2 : hi key (k, v) = false := by unfold hi; rw [hk]; rfl
      have a1 : l.ents.filter (lo key) = l.ents := filter_all fun e he => lt_trans (h1 e he) hk
      have a2 : l.ents.filter (hi key) = [] := filter_none fun e he => by unfold hi; rw [lt_trans (h1 e he) hk]; rfl
      rw [e1, e2, a1, a2, (ihr hr).1, (ihr hr).2]
      exact ⟨rfl, rfl⟩
    | false =>
      simp only [Bool.false_eq_true, if_false, T.ents, List.filter_append, List.filter_cons]
      have e1 : lo key (k, v) = false := hk
      have e2 : hi key (k, v) = true := by unfold hi; rw [hk]; rfl
      have hge : ∀ e, e ∈ r.ents → T.lt e.1 key = false := fun e he => by
        cases h3 : T.lt e.1 key with
        | false => rfl
        | true => have := lt_trans (h2 e he) h3; rw [hk] at this; cases this
      have a1 : r.ents.filter (lo key) = [] := filter_none fun e he => hge e he
      have a2 : r.ents.filter (hi key) = r.ents := filter_all fun e he => by unfold hi; rw [hge e he]; rfl
      rw [e1, e2, a1, a2, (ihl hl).1, (ihl hl).2]
      simp
theorem from_hi (t : T) (key : ByteArray) (h : Srt t.ents) : from_ t key = t.ents.filter (hi key) := by
  induction t with
  | nil => rfl
  | node g k v wt l r ihl ihr =>
    obtain ⟨hl, hr, h1, h2⟩ := node_parts h
    simp only [from_]
    cases hk : T.lt k key with
    | true =>
      simp only [if_true, T.ents, List.filter_append, List.filter_cons]
      have e2 : hi key (k, v) = false := by unfold hi; rw [hk]; rfl
      have a2 : l.ents.filter (hi key) = [] := filter_none fun e he => by unfold hi; rw [lt_trans (h1 e he) hk]; rfl
      rw [e2, a2, ihr hr]
      rfl
    | false =>
      simp only [Bool.false_eq_true, if_false, T.ents, List.filter_append, List.filter_cons]
      have e2 : hi key (k, v) = true := by unfold hi; rw [hk]; rfl
      rw [e2, ihl hl, ihr hr]
      rfl
theorem rank_lo (t : T) (key : ByteArray) (h : Srt t.ents) : rankT t key = (t.ents.filter (lo key)).length := by
  induction t with
  | nil => rfl
  | node g k v wt l r ihl ihr =>
    obtain ⟨hl, hr, h1, h2⟩ := node_parts h
    simp only [rankT]
    cases hk : T.lt k key with
    | true =>
      simp only [if_true, T.ents, List.filter_append, List.filter_cons]
      have e1 : lo key (k, v) = true := hk
      have a1 : l.ents.filter (lo key) = l.ents := filter_all fun e he => lt_trans (h1 e he) hk
      rw [e1, a1, ihr hr]
      simp only [if_true, List.length_append, List.length_cons, size_ents]
      omega
    | false =>
      simp only [Bool.false_eq_true, if_false, T.ents, List.filter_append, List.filter_cons]
      have e1 : lo key (k, v) = false := hk
      have hge : ∀ e, e ∈ r.ents → T.lt e.1 key = false := fun e he => by
        cases h3 : T.lt e.1 key with
        | false => rfl
        | true => have := lt_trans (h2 e he) h3; rw [hk] at this; cases this
      have a1 : r.ents.filter (lo key) = [] := filter_none fun e he => hge e he
      rw [e1, a1, ihl hl]
      simp
end Go.Proofs.Ytcgfdnhocdcfjaa.Hed
