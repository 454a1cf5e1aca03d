/- Sorted trees, plainly: Put, Drop, Get; what begins with a prefix. -/
import Derived.Test.YtcgfdnhocdcfjaaHor
import Derived.Test.YtcgfdnhocdcfjaaHfr
namespace Go.Proofs.Ytcgfdnhocdcfjaa.Hed
open Go.RowKit Go.Proofs.Ytcgfdnhocdcfjaa.Utf Go.Proofs.Ytcgfdnhocdcfjaa.PHedgePlays T
set_option linter.unusedVariables false
set_option linter.unusedSimpArgs false

def eqK (key : ByteArray) (e : Ent) : Bool := decide (e.1 = key)
def gtK (key : ByteArray) (e : Ent) : Bool := T.lt key e.1
theorem hi_cases (key : ByteArray) (e : Ent) : (hi key e = true ∧ lo (aboveK key) e = true) ↔ eqK key e = true := by
  unfold hi lo eqK
  rw [lt_above]
  simp only [Bool.not_eq_true', decide_eq_true_eq]
  constructor
  · rintro ⟨h1, h2⟩; exact lt_total h1 (by simpa using h2)
  · intro h; rw [h]; exact ⟨lt_irrefl _, by rw [lt_irrefl]⟩
theorem hi_above (key : ByteArray) (e : Ent) : (hi key e = true ∧ hi (aboveK key) e = true) ↔ gtK key e = true := by
  unfold hi gtK
  rw [lt_above]
  simp only [Bool.not_eq_true', Bool.not_not]
  constructor
  · rintro ⟨_, h2⟩
    cases h : T.lt key e.1 with
    | true => rfl
    | false => rw [h] at h2; simp at h2
  · intro h; exact ⟨lt_asymm h, by rw [h]⟩
theorem filter_two {l : List Ent} {p q r : Ent → Bool} (h : ∀ e, (p e = true ∧ q e = true) ↔ r e = true) : (l.filter p).filter q = l.filter r := by
  rw [List.filter_filter]
  congr 1
  funext e
  rw [Bool.eq_iff_iff, Bool.and_eq_true, ← h e]
  exact ⟨fun ⟨a, b⟩ => ⟨b, a⟩, fun ⟨a, b⟩ => ⟨b, a⟩⟩
theorem cut_lo (t : T) (key : ByteArray) (h : Srt t.ents) : (cutT t key).1.ents = t.ents.filter (lo key) ∧ (cutT t key).2.1.ents = t.ents.filter (eqK key) ∧ (cutT t key).2.2.ents = t.ents.filter (gtK key) := by
  obtain ⟨h1, h2⟩ := split_lo t key h
  have hs : Srt (splitT t key).2.ents := by rw [h2]; exact srt_filter h _
  obtain ⟨h3, h4⟩ := split_lo (splitT t key).2 (above key) hs
  refine ⟨h1, ?_, ?_⟩
  · show (splitT (splitT t key).2 (above key)).1.ents = _
    rw [h3, h2]
    exact filter_two fun e => hi_cases key e
  · show (splitT (splitT t key).2 (above key)).2.ents = _
    rw [h4, h2]
    exact filter_two fun e => hi_above key e
theorem srt_eq {l : List Ent} (h : Srt l) {key : ByteArray} (he : ∀ e, e ∈ l → e.1 = key) : l.length ≤ 1 := by
  match l, h, he with
  | [], _, _ => simp
  | [a], _, _ => simp
  | a :: b :: r, h, he =>
    have h1 := (List.pairwise_cons.1 h).1 b (by simp)
    rw [he a (by simp), he b (by simp), lt_irrefl] at h1
    cases h1
def putE (l : List Ent) (key : ByteArray) (v : Int) : List Ent := l.filter (lo key) ++ (key, v) :: l.filter (gtK key)
def dropE (l : List Ent) (key : ByteArray) : List Ent := l.filter (lo key) ++ l.filter (gtK key)
theorem mid_ents (t : T) (key : ByteArray) (h : Srt t.ents) (g : Nat) (wt v : Int) : (midT (cutT t key).2.1 g wt key v).ents = [(key, v)] := by
  obtain ⟨-, h2, -⟩ := cut_lo t key h
  have hs : Srt (cutT t key).2.1.ents := by rw [h2]; exact srt_filter h _
  have he : ∀ e, e ∈ (cutT t key).2.1.ents → e.1 = key := fun e hm => by
    rw [h2] at hm
    have := (List.mem_filter.1 hm).2
    simpa [eqK] using this
  have hl := srt_eq hs he
  cases hb : (cutT t key).2.1 with
  | nil => rfl
  | node g' k' v' wt' l r =>
    rw [hb] at he hl
    simp only [T.ents, List.length_append, List.length_cons] at hl
    have hk : k' = key := he (k', v') (by simp [T.ents])
    have e1 : l.ents = [] := List.eq_nil_of_length_eq_zero (by omega)
    have e2 : r.ents = [] := List.eq_nil_of_length_eq_zero (by omega)
    simp [midT, T.ents, e1, e2, hk]
theorem put_ents (t : T) (key : ByteArray) (h : Srt t.ents) (g : Nat) (wt v : Int) : (putT t g wt key v).ents = putE t.ents key v := by
  obtain ⟨h1, -, h3⟩ := cut_lo t key h
  unfold putT putE
  rw [join_ents, join_ents, mid_ents t key h, h1, h3]
  simp
theorem drop_ents (t : T) (key : ByteArray) (h : Srt t.ents) : (dropT t key).ents = dropE t.ents key := by
  obtain ⟨h1, -, h3⟩ := cut_lo t key h
  unfold dropT dropE
  rw [join_ents, h1, h3]
theorem isNil_has (t : T) (key : ByteArray) (h : Srt t.ents) : isNil (cutT t key).2.1 = !(t.ents.any (eqK key)) := by
  obtain ⟨-, h2, -⟩ := cut_lo t key h
  rw [Bool.eq_iff_iff]
  simp only [Bool.not_eq_true', List.any_eq_false]
  constructor
  · intro hn e he hk
    have hm : e ∈ (cutT t key).2.1.ents := by rw [h2]; exact List.mem_filter.2 ⟨he, hk⟩
    cases hb : (cutT t key).2.1 with
    | nil => rw [hb] at hm; simp [T.ents] at hm
    | node _ _ _ _ _ _ => rw [hb] at hn; simp [isNil] at hn
  · intro hn
    have e : (cutT t key).2.1.ents = [] := by rw [h2]; exact List.filter_eq_nil_iff.2 hn
    cases hb : (cutT t key).2.1 with
    | nil => rfl
    | node _ _ _ _ _ _ => rw [hb] at e; simp [T.ents] at e
theorem lo_gt {key : ByteArray} {a b : Ent} (h : lo key a = true) (h' : gtK key b = true) : T.lt a.1 b.1 = true := lt_trans h h'
theorem srt_put {l : List Ent} (h : Srt l) (key : ByteArray) (v : Int) : Srt (putE l key v) := by
  refine srt_append.2 ⟨srt_filter h _, List.pairwise_cons.2 ⟨fun e he => (List.mem_filter.1 he).2, srt_filter h _⟩, fun a ha b hb => ?_⟩
  have h1 := (List.mem_filter.1 ha).2
  rcases List.mem_cons.1 hb with rfl | hb
  · exact h1
  · exact lo_gt h1 (List.mem_filter.1 hb).2
theorem srt_drop {l : List Ent} (h : Srt l) (key : ByteArray) : Srt (dropE l key) :=
  srt_append.2 ⟨srt_filter h _, srt_filter h _, fun a ha b hb => lo_gt (List.mem_filter.1 ha).2 (List.mem_filter.1 hb).2⟩
theorem get_ents (t : T) (key : ByteArray) (h : Srt t.ents) : getT t key = (t.ents.find? (eqK key)).map (·.2) := by
  induction t with
  | nil => rfl
  | node g k v wt l r ihl ihr =>
    obtain ⟨hl, hr, h1, h2⟩ := node_parts h
    simp only [getT, T.ents, List.find?_append, List.find?_cons]
    cases ha : T.lt key k with
    | true =>
      have e1 : eqK key (k, v) = false := by unfold eqK; rw [decide_eq_false_iff_not]; intro e; simp only at e; rw [e, lt_irrefl] at ha; cases ha
      have e2 : r.ents.find? (eqK key) = none := List.find?_eq_none.2 fun e he hk => by
        have h3 := h2 e he
        have h4 : e.1 = key := by simpa [eqK] using hk
        rw [h4] at h3
        rw [lt_asymm h3] at ha; cases ha
      simp only [if_true]
      rw [e1, e2, ihl hl]
      simp
    | false =>
      simp only [Bool.false_eq_true, if_false]
      cases hb : T.lt k key with
      | true =>
        have e1 : eqK key (k, v) = false := by unfold eqK; rw [decide_eq_false_iff_not]; intro e; simp only at e; rw [e, lt_irrefl] at hb; cases hb
        have e2 : l.ents.find? (eqK key) = none := List.find?_eq_none.2 fun e he hk => by
          have h3 := h1 e he
          have h4 : e.1 = key := by simpa [eqK] using hk
          rw [h4] at h3
          rw [lt_asymm h3] at hb; cases hb
        simp only [if_true]
        rw [e1, e2, ihr hr]
        simp
      | false =>
        have hk : k = key := (lt_total ha hb).symm
        have e1 : eqK key (k, v) = true := by unfold eqK; exact decide_eq_true hk
        have e2 : l.ents.find? (eqK key) = none := List.find?_eq_none.2 fun e he hq => by
          have h3 := h1 e he
          have h4 : e.1 = key := by simpa [eqK] using hq
          rw [h4, hk, lt_irrefl] at h3; cases h3
        simp only [Bool.false_eq_true, if_false]
        rw [e1, e2]
        simp
/-- What is gathered: the first entries from a key on. -/
theorem runG_take (most : Int) (rt : ByteArray → Bool) : ∀ (l out : List Ent), (runL (okG most rt) l out).1 = out ++ (l.take (most - out.length).toNat).takeWhile (fun e => rt e.1)
  | [], out => by simp [runL]
  | e :: l, out => by
    simp only [runL]
    unfold okG
    by_cases h : (out.length : Int) < most
    · have e1 : (most - (out.length : Int)).toNat = (most - ((out.length : Int) + 1)).toNat + 1 := by omega
      rw [decide_eq_true h, e1, List.take_succ_cons, List.takeWhile_cons]
      cases hr : rt e.1 with
      | true =>
        simp only [Bool.and_self, if_true]
        have := runG_take most rt l (out ++ [e])
        unfold okG at this
        rw [this]
        simp [List.append_assoc]
      | false => simp
    · rw [decide_eq_false h, show (most - (out.length : Int)).toNat = 0 by omega]
      simp
theorem gather_take (t : T) (key : ByteArray) (most : Int) (rt : ByteArray → Bool) (h : Srt t.ents) : gatherT t key most rt = ((t.ents.filter (hi key)).take most.toNat).takeWhile (fun e => rt e.1) := by
  unfold gatherT
  rw [runG_take, from_hi t key h]
  simp
end Go.Proofs.Ytcgfdnhocdcfjaa.Hed
