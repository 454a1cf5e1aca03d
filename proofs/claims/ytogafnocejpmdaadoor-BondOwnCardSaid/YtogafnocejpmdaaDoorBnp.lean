/- Tuples: plain facts on their texts; what both layers' Read tell, in one form. -/
import Derived.Test.YtogafnocejpmdaaDoorWht
namespace Go.Proofs.YtogafnocejpmdaaDoor.Bnd
open Go.RowKit Go.Proofs.YtogafnocejpmdaaDoorW.PrintWords Go.Proofs.YtogafnocejpmdaaDoor.Utf Go.Proofs.YtogafnocejpmdaaDoor.Arr Go.Proofs.YtogafnocejpmdaaDoor.Gly Go.Proofs.YtogafnocejpmdaaDoor.Glr Go.Proofs.YtogafnocejpmdaaDoor.Who
set_option linter.unusedVariables false
set_option linter.unusedSimpArgs false

/-! ### Read in one form -/
def rt (s : ByteArray) : ByteArray := if readOk s = true then cutA s 58 else ⟨#[]⟩
def ri (s : ByteArray) : ByteArray := if readOk s = true then cutA (cutB s 58) 35 else ⟨#[]⟩
def rr (s : ByteArray) : ByteArray := if readOk s = true then cutB (cutB s 58) 35 else ⟨#[]⟩
theorem rsize (s : ByteArray) : (rt s).size ≤ s.size ∧ (ri s).size ≤ s.size ∧ (rr s).size ≤ s.size := by
  have s1 := cutA_size s 58
  have s2 := cutB_size s 58
  have s3 := cutA_size (cutB s 58) 35
  have s4 := cutB_size (cutB s 58) 35
  unfold rt ri rr
  have z0 : (⟨#[]⟩ : ByteArray).size = 0 := rfl
  split <;> omega
theorem read_one (s t i r : ByteArray) (b : Bool) (e : Int) (hs : s.size ≤ 1000000000000) (hb : readOk s = b) (ht : rt s = t) (hi : ri s = i) (hr : rr s = r) (he : e = if b = true then 0 else 2) (w : World) (hT : Tabs w) :
    Calls Tryd.prog 21 #[.string s] w fun e' w' => e' = .returned (.tuple #[.agg #[.string t, .string i, .string r], .int .i64 e]) ∧ Below w.heap.size w w' := by
  unfold rt at ht
  unfold ri at hi
  unfold rr at hr
  cases b with
  | false =>
    rw [hb, if_neg (by decide)] at ht hi hr
    subst ht hi hr he
    exact read_no s hs hb w hT
  | true =>
    rw [hb, if_pos rfl] at ht hi hr
    subst he
    exact read_yes s t i r hs hb ht hi hr w hT
theorem rread_one (s t i r : ByteArray) (b : Bool) (hs : s.size ≤ 100000000) (hb : readOk s = b) (ht : rt s = t) (hi : ri s = i) (hr : rr s = r) (w : World) :
    Calls Tryd.prog 25 #[.string s] w fun e' w' => e' = .returned (.tuple #[.agg #[.string t, .string i, .string r], .bool b]) ∧ Below w.heap.size w w' := by
  have h := ref_read_calls s hs w
  unfold rt at ht
  unfold ri at hi
  unfold rr at hr
  rw [hb] at h
  cases b with
  | false =>
    rw [hb, if_neg (by decide)] at ht hi hr
    subst ht hi hr
    rwa [if_neg (by decide)] at h
  | true =>
    rw [hb, if_pos rfl] at ht hi hr
    rwa [if_pos rfl, ht, hi, hr] at h

/-! ### tuples -/
def tupGood (t i r a b c : ByteArray) : Bool := goodB t i && nameB r && subjB a b c
theorem good_star (t i : ByteArray) (h : goodB t i = true) : nameB t = true ∧ idB i = true ∧ (i.toList == [42]) = false := by
  unfold goodB at h
  rw [Bool.and_eq_true] at h
  refine ⟨h.1, h.2, ?_⟩
  cases hs : (i.toList == [42]) with
  | true => have := star_no_id i hs; rw [h.2] at this; cases this
  | false => rfl
theorem name_empty (r : ByteArray) (h : nameB r = true) : r.toList.isEmpty = false := by
  cases he : r.toList.isEmpty with
  | false => rfl
  | true =>
    obtain rfl := (empty_iff r).1 he
    have := (name_size _ h).1
    exact absurd this (by decide)
theorem set_kind (t i r : ByteArray) : setB t i r = (kindV t i r == 2) := by
  unfold setB kindV
  cases hg : goodB t i with
  | true =>
    obtain ⟨h1, h2, h3⟩ := good_star t i hg
    rw [h1, h2, h3, if_pos rfl, if_neg (by decide), if_pos rfl]
    cases hn : nameB r with
    | true => rw [name_empty r hn, if_neg (by decide), if_pos rfl]; rfl
    | false => cases r.toList.isEmpty <;> rfl
  | false =>
    unfold goodB at hg
    cases h1 : nameB t with
    | false => rw [if_neg (by decide)]; rfl
    | true =>
      rw [h1, Bool.true_and] at hg
      rw [hg, if_pos rfl]
      cases (i.toList == [42]) <;> cases r.toList.isEmpty <;> rfl
def textT (t i r a b c : ByteArray) : ByteArray := (textV t i r ++ one 64) ++ textV a b c
def tOk (s : ByteArray) : Bool := cutOk s 64 && (readOk (cutA s 64) && readOk (cutB s 64) && setB (rt (cutA s 64)) (ri (cutA s 64)) (rr (cutA s 64)))
theorem set_bytes (t i r : ByteArray) (h : kindV t i r ≠ 0) (hs : (i.toList == [42]) = false) : ∀ j, j < (textV t i r).size → gb (textV t i r) j ≠ 64 := by
  have hn := (kind_id t i r h).1
  have n64 := name_ne t hn 64 (by omega)
  unfold kindV at h
  rw [hn, if_pos rfl, hs, if_neg (by decide)] at h
  have hi : idB i = true := by
    cases hd : idB i with
    | true => rfl
    | false => rw [hd, if_neg (by decide)] at h; exact absurd rfl h
  have i64 := id_ne i hi 64 (by decide) (by decide)
  rw [hi, if_pos rfl] at h
  have r64 : r.toList = [] ∨ ∀ j, j < r.size → gb r j ≠ 64 := by
    by_cases he : r.toList = []
    · exact .inl he
    · rw [isEmpty_of he, if_neg (by decide)] at h
      refine .inr (name_ne r ?_ 64 (by omega))
      cases hr : nameB r with
      | true => rfl
      | false => rw [hr, if_neg (by decide)] at h; exact absurd rfl h
  have two : ∀ j, j < ((t ++ one 58) ++ i).size → gb ((t ++ one 58) ++ i) j ≠ 64 := by
    intro j hj
    rw [ByteArray.size_append, ByteArray.size_append, one_size] at hj
    rw [gb_append, ByteArray.size_append, one_size]
    by_cases h1 : j < t.size + 1
    · rw [if_pos h1, gb_append]
      by_cases h2 : j < t.size
      · rw [if_pos h2]; exact n64 j h2
      · rw [if_neg h2, show j - t.size = 0 by omega]; decide
    · rw [if_neg h1]; exact i64 _ (by omega)
  unfold textV
  by_cases he : r.toList = []
  · rw [if_pos he]; exact two
  · rw [if_neg he]
    have r2 := r64.resolve_left he
    intro j hj
    rw [ByteArray.size_append (b := one 35 ++ r), ByteArray.size_append (a := one 35), one_size] at hj
    rw [gb_append]
    by_cases h1 : j < ((t ++ one 58) ++ i).size
    · rw [if_pos h1]; exact two j h1
    · rw [if_neg h1, gb_append, one_size]
      by_cases h2 : j - ((t ++ one 58) ++ i).size < 1
      · rw [if_pos h2, show j - ((t ++ one 58) ++ i).size = 0 by omega]; decide
      · rw [if_neg h2]; exact r2 _ (by omega)
/-- A good tuple's text is cut where it was joined. -/
theorem tuple_parts (t i r a b c : ByteArray) (h : tupGood t i r a b c = true) : cutOk (textT t i r a b c) 64 = true ∧ cutA (textT t i r a b c) 64 = textV t i r ∧ cutB (textT t i r a b c) 64 = textV a b c ∧ kindV t i r = 2 ∧ kindV a b c ≠ 0 := by
  unfold tupGood at h
  simp only [Bool.and_eq_true] at h
  obtain ⟨⟨h1, h2⟩, h3⟩ := h
  have hk : kindV t i r = 2 := by
    have := set_kind t i r
    unfold setB at this
    rw [h1, h2, Bool.true_and] at this
    simpa using this.symm
  have hk2 : kindV a b c ≠ 0 := by
    rw [subj_kind] at h3
    simpa using h3
  have e64 : (64 : UInt8).toNat = 64 := rfl
  obtain ⟨x, y, z⟩ := cut_append (textV t i r) (textV a b c) 64 (set_bytes t i r (by rw [hk]; decide) (good_star t i h1).2.2)
  rw [e64] at x y z
  exact ⟨z, x, y, hk, hk2⟩
theorem tuple_reads (t i r a b c : ByteArray) (h : tupGood t i r a b c = true) : tOk (textT t i r a b c) = true ∧ rt (cutA (textT t i r a b c) 64) = t ∧ ri (cutA (textT t i r a b c) 64) = i ∧ rr (cutA (textT t i r a b c) 64) = r ∧ rt (cutB (textT t i r a b c) 64) = a ∧ ri (cutB (textT t i r a b c) 64) = b ∧ rr (cutB (textT t i r a b c) 64) = c := by
  obtain ⟨x, y, z, k1, k2⟩ := tuple_parts t i r a b c h
  have o1 := text_reads t i r (by rw [k1]; decide)
  have o2 := text_reads a b c k2
  obtain ⟨p1, p2, p3⟩ := text_parts t i r (by rw [k1]; decide)
  obtain ⟨q1, q2, q3⟩ := text_parts a b c k2
  have R : rt (cutA (textT t i r a b c) 64) = t ∧ ri (cutA (textT t i r a b c) 64) = i ∧ rr (cutA (textT t i r a b c) 64) = r := by
    unfold rt ri rr
    rw [y, o1, if_pos rfl, if_pos rfl, if_pos rfl]
    exact ⟨p1, p2, p3⟩
  refine ⟨?_, R.1, R.2.1, R.2.2, ?_⟩
  · unfold tOk
    rw [R.1, R.2.1, R.2.2, x, y, z, o1, o2, set_kind, k1]
    rfl
  · unfold rt ri rr
    rw [z, o2, if_pos rfl, if_pos rfl, if_pos rfl]
    exact ⟨q1, q2, q3⟩
theorem read_back (s : ByteArray) (h : readOk s = true) : textV (rt s) (ri s) (rr s) = s ∧ subjB (rt s) (ri s) (rr s) = true := by
  unfold rt ri rr
  rw [h, if_pos rfl, if_pos rfl, if_pos rfl]
  unfold readOk at h
  simp only [Bool.and_eq_true, beq_iff_eq] at h
  exact ⟨toList_inj h.2, h.1⟩
theorem tuple_back (s : ByteArray) (h : tOk s = true) : textT (rt (cutA s 64)) (ri (cutA s 64)) (rr (cutA s 64)) (rt (cutB s 64)) (ri (cutB s 64)) (rr (cutB s 64)) = s ∧ tupGood (rt (cutA s 64)) (ri (cutA s 64)) (rr (cutA s 64)) (rt (cutB s 64)) (ri (cutB s 64)) (rr (cutB s 64)) = true := by
  unfold tOk at h
  simp only [Bool.and_eq_true] at h
  obtain ⟨h0, ⟨h1, h2⟩, h3⟩ := h
  obtain ⟨x1, x2⟩ := read_back _ h1
  obtain ⟨y1, y2⟩ := read_back _ h2
  have hp := cut_parts s 64 (by exact h0)
  have e64 : (64 : UInt8).toNat = 64 := rfl
  rw [e64] at hp
  refine ⟨?_, ?_⟩
  · unfold textT
    rw [x1, y1]
    exact hp.symm
  · unfold tupGood
    unfold setB at h3
    rw [Bool.and_eq_true] at h3
    rw [h3.1, h3.2, y2]
    rfl
theorem textT_le (t i r a b c : ByteArray) : (textT t i r a b c).size ≤ t.size + i.size + r.size + a.size + b.size + c.size + 5 := by
  have tl : ∀ t i r : ByteArray, (textV t i r).size ≤ t.size + i.size + r.size + 2 := text_le
  have h1 := tl t i r
  have h2 := tl a b c
  unfold textT
  rw [ByteArray.size_append, ByteArray.size_append, one_size]
  omega
end Go.Proofs.YtogafnocejpmdaaDoor.Bnd
