/- What begins with a prefix, in a sorted list: plain facts. -/
import Derived.Test.YtcgfdnhocdcfjaaHli
namespace Go.Proofs.Ytcgfdnhocdcfjaa.Hed
open Go.RowKit Go.Proofs.Ytcgfdnhocdcfjaa.Utf T
set_option linter.unusedVariables false
set_option linter.unusedSimpArgs false

/-- Between a prefix and a list that begins with it all lists begin with it. -/
theorem pre_mid : ∀ (p x y : List Int), cmpL p x ≤ 0 → cmpL x y < 0 → p <+: y → p <+: x
  | [], x, y, _, _, _ => List.nil_prefix
  | a :: p, [], y, h, _, _ => by simp [cmpL] at h
  | a :: p, b :: x, [], _, _, h => by simp at h
  | a :: p, b :: x, c :: y, h, h', hp => by
    obtain ⟨rfl, hp2⟩ := List.cons_prefix_cons.1 hp
    simp only [cmpL] at h h'
    by_cases e : a = b
    · rw [if_pos e] at h
      rw [if_pos e.symm] at h'
      subst e
      exact List.cons_prefix_cons.2 ⟨rfl, pre_mid p x y h h' hp2⟩
    · exfalso
      rw [if_neg e] at h
      rw [if_neg (Ne.symm e), intsV_neg] at h'
      have h2 : ¬ 0 < intsV a b := by omega
      rw [intsV_pos] at h2
      exact h2 h'
/-- Where a property holds on a first part alone, takeWhile is that part. -/
theorem take_while_at {α : Type} (q : α → Bool) : ∀ (l : List α), (l.Pairwise fun a b => q b = true → q a = true) → ∀ i (h : i < l.length), q l[i] = decide (i < (l.takeWhile q).length)
  | [], _, i, h => by simp at h
  | a :: l, hp, i, h => by
    obtain ⟨h1, h2⟩ := List.pairwise_cons.1 hp
    rw [List.takeWhile_cons]
    cases ha : q a with
    | true =>
      simp only [if_true, List.length_cons]
      cases i with
      | zero => simp [ha]
      | succ i =>
        have := take_while_at q l h2 i (by simpa using h)
        simp only [List.getElem_cons_succ]
        rw [this]
        simp
    | false =>
      simp only [Bool.false_eq_true, if_false, List.length_nil]
      cases i with
      | zero => simp [ha]
      | succ i =>
        have hi : i < l.length := by simpa using h
        have h3 : ¬ q l[i] = true := fun hq => by have := h1 l[i] (List.getElem_mem hi) hq; rw [ha] at this; cases this
        simp only [List.getElem_cons_succ]
        simp [h3]
theorem take_while_get {α : Type} (q : α → Bool) : ∀ (l : List α) (i : Nat) (h : i < (l.takeWhile q).length) (h' : i < l.length), (l.takeWhile q)[i] = l[i]
  | [], i, h, _ => by simp at h
  | a :: l, i, h, h' => by
    cases ha : q a with
    | false => rw [List.takeWhile_cons, ha] at h; simp at h
    | true =>
      have e : (a :: l).takeWhile q = a :: l.takeWhile q := by rw [List.takeWhile_cons, ha]; rfl
      simp only [e] at h ⊢
      cases i with
      | zero => rfl
      | succ i =>
        simp only [List.getElem_cons_succ]
        exact take_while_get q l i (by simpa using h) (by simpa using h')
theorem lo_hi_len (l : List Ent) (key : ByteArray) : (l.filter (lo key)).length + (l.filter (hi key)).length = l.length := by
  induction l with
  | nil => rfl
  | cons a l ih =>
    simp only [List.filter_cons]
    unfold hi at *
    cases h : T.lt a.1 key with
    | true =>
      have h1 : lo key a = true := h
      simp only [h1, if_true, Bool.not_true, Bool.false_eq_true, if_false, List.length_cons]
      omega
    | false =>
      have h1 : lo key a = false := h
      simp only [h1, if_true, Bool.not_false, Bool.false_eq_true, if_false, List.length_cons]
      omega
/-- A key begins with a prefix: of the lists of bytes. -/
def preL (p k : ByteArray) : Prop := bl p 0 <+: bl k 0
theorem bl_ge (p k : ByteArray) (h : T.lt k p = false) : cmpL (bl p 0) (bl k 0) ≤ 0 := by
  unfold T.lt cmpB at h
  rw [decide_eq_false_iff_not] at h
  rw [cmpL_flip]
  omega
theorem pre_iff (p k : ByteArray) : pre p k = true ↔ preL p k := by
  unfold pre preL bl Lib.hasPrefix
  simp only [List.drop_zero, List.isPrefixOf_iff_prefix]
  constructor
  · rintro ⟨r, hr⟩
    exact ⟨r.map fun c => (c.toNat : Int), by rw [← List.map_append, hr]⟩
  · rintro ⟨r, hr⟩
    have hl := congrArg List.length hr
    simp only [List.length_append, List.length_map] at hl
    refine ⟨k.data.toList.drop p.data.toList.length, ?_⟩
    have h1 : p.data.toList = k.data.toList.take p.data.toList.length := by
      refine (List.map_inj_right (f := fun c : UInt8 => (c.toNat : Int)) (fun x y hxy => UInt8.toNat_inj.1 (by have : (x.toNat : Int) = y.toNat := hxy; omega))).1 ?_
      rw [List.map_take, ← hr, List.take_left' (by simp)]
    conv => lhs; lhs; rw [h1]
    exact List.take_append_drop _ _
/-- The law's own test: long enough, and the first bytes are the prefix's. -/
theorem pre_test (p k : ByteArray) : pre p k = (decide (p.size ≤ k.size) && decide ((k.extract 0 p.size).data.toList = p.data.toList)) := by
  have e : (k.extract 0 p.size).data.toList = k.data.toList.take p.data.toList.length := by
    rw [ByteArray.data_extract, Array.toList_extract]
    simp [List.extract]
  rw [Bool.eq_iff_iff]
  unfold pre Lib.hasPrefix
  rw [e]
  simp only [List.isPrefixOf_iff_prefix, Bool.and_eq_true, decide_eq_true_eq]
  constructor
  · intro h
    exact ⟨by have := h.length_le; simpa using this, (List.prefix_iff_eq_take.1 h).symm⟩
  · rintro ⟨_, h⟩
    exact List.prefix_iff_eq_take.2 h.symm
theorem pre_pairs (p : ByteArray) (l : List Ent) (h : Srt l) (hh : ∀ e, e ∈ l → hi p e = true) : l.Pairwise fun a b => preL p b.1 → preL p a.1 := by
  induction l with
  | nil => exact List.Pairwise.nil
  | cons a l ih =>
    obtain ⟨h1, h2⟩ := List.pairwise_cons.1 h
    refine List.pairwise_cons.2 ⟨fun b hb hp => ?_, ih h2 (fun e he => hh e (by simp [he]))⟩
    have ha := hh a (by simp)
    have hb' := h1 b hb
    unfold hi at ha
    simp only [Bool.not_eq_true'] at ha
    refine pre_mid _ _ _ (bl_ge p a.1 ha) ?_ hp
    unfold T.lt cmpB at hb'
    simpa using hb'
end Go.Proofs.Ytcgfdnhocdcfjaa.Hed
