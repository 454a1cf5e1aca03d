/- Texts of this claim, merged: Whs, Wht, Bnp, Bnd, Kis, Qy, Ktp. -/
import Derived.Test.YtmilpfccgggmkaaDoorMgKnotJoins3
import Derived.Test.YtmilpfccgggmkaaDoorMgKnotJoins2
/- The reference's layer who: Good, Read; and that both tell the same. -/
namespace Go.Proofs.YtmilpfccgggmkaaDoor.Who
open Go.RowKit Go.Proofs.YtmilpfccgggmkaaDoorW.PrintWords Go.Proofs.YtmilpfccgggmkaaDoor.Utf Go.Proofs.YtmilpfccgggmkaaDoor.Arr Go.Proofs.YtmilpfccgggmkaaDoor.Gly Go.Proofs.YtmilpfccgggmkaaDoor.Glr
set_option linter.unusedVariables false
set_option linter.unusedSimpArgs false

/-! ### plain: both read alike -/
def refOk (s : ByteArray) : Bool := cutOk s 58 && (kindV (cutA s 58) (cutA (cutB s 58) 35) (cutB (cutB s 58) 35) != 0 && (cutOk (cutB s 58) 35 == !(cutB (cutB s 58) 35).toList.isEmpty))
theorem star_no_id (i : ByteArray) (h : (i.toList == [42]) = true) : idB i = false := by
  have h1 : i.toList = [42] := by simpa using h
  cases hd : idB i with
  | false => rfl
  | true =>
    have h2 := id_ne i hd 42 (by decide) (by decide)
    have hz : i.size = 1 := by rw [← toList_size, h1]; rfl
    have := h2 0 (by omega)
    rw [Lib.toList_data] at h1
    have h3 : i = ⟨#[42]⟩ := by
      cases i with
      | mk d =>
        congr 1
        apply Array.ext'
        exact h1
    rw [h3] at this
    exact absurd rfl this
theorem subj_kind (t i r : ByteArray) : subjB t i r = (kindV t i r != 0) := by
  unfold subjB oneB setB allB goodB kindV
  cases nameB t with
  | false => simp
  | true =>
    cases h : (i.toList == [42]) with
    | true =>
      rw [star_no_id i h]
      cases r.toList.isEmpty <;> simp
    | false =>
      cases idB i with
      | false => simp
      | true =>
        cases r.toList.isEmpty with
        | true => simp
        | false => cases nameB r <;> simp
theorem one_kind (t i r : ByteArray) : oneB t i r = (kindV t i r == 1) := by
  unfold oneB goodB kindV
  cases nameB t with
  | false => simp
  | true =>
    cases h : (i.toList == [42]) with
    | true =>
      rw [star_no_id i h]
      cases r.toList.isEmpty <;> simp
    | false =>
      cases idB i with
      | false => simp
      | true =>
        cases r.toList.isEmpty with
        | true => simp
        | false => cases nameB r <;> simp
theorem nil_list : (⟨#[]⟩ : ByteArray).toList = [] := by rw [Lib.toList_data]
theorem empty_iff (r : ByteArray) : r.toList.isEmpty = true ↔ r = ⟨#[]⟩ := by
  constructor
  · intro h
    have h1 : r.toList = [] := by simpa using h
    rw [Lib.toList_data] at h1
    cases r with
    | mk d =>
      congr 1
      apply Array.ext'
      exact h1
  · rintro rfl
    rw [nil_list]; rfl
theorem toList_inj {a b : ByteArray} (h : a.toList = b.toList) : a = b := by
  rw [Lib.toList_data, Lib.toList_data] at h
  cases a with
  | mk d => cases b with
    | mk e => congr 1; exact Array.ext' h
theorem text_size (t i r : ByteArray) : t.size + 1 + i.size ≤ (textV t i r).size := by
  unfold textV
  split
  · rw [ByteArray.size_append, ByteArray.size_append, one_size]; omega
  · rw [ByteArray.size_append, ByteArray.size_append, ByteArray.size_append, one_size]; omega
/-- What was cut has its text again just if the signs stood there. -/
theorem text_back (s : ByteArray) : ((textV (cutA s 58) (cutA (cutB s 58) 35) (cutB (cutB s 58) 35)).toList == s.toList) = (cutOk s 58 && (cutOk (cutB s 58) 35 == !(cutB (cutB s 58) 35).toList.isEmpty)) := by
  have heq : ∀ a b : ByteArray, (a.toList == b.toList) = decide (a = b) := fun a b => by
    rw [Bool.eq_iff_iff]
    simp only [beq_iff_eq, decide_eq_true_eq]
    exact ⟨toList_inj, fun h => by rw [h]⟩
  rw [heq]
  cases h1 : cutOk s 58 with
  | false =>
    obtain ⟨a, b⟩ := cut_none s 58 h1
    rw [Bool.false_and, a, b]
    apply decide_eq_false
    intro e
    have := congrArg ByteArray.size e
    have h2 := text_size s (cutA ⟨#[]⟩ 35) (cutB ⟨#[]⟩ 35)
    omega
  | true =>
    rw [Bool.true_and]
    have hs := cut_parts s 58 h1
    have e58 : (58 : UInt8).toNat = 58 := rfl
    have e35 : (35 : UInt8).toNat = 35 := rfl
    rw [e58] at hs
    generalize cutA s 58 = t at *
    generalize cutB s 58 = q at *
    cases h2 : cutOk q 35 with
    | false =>
      obtain ⟨a, b⟩ := cut_none q 35 h2
      rw [a, b]
      have : textV t q ⟨#[]⟩ = s := by
        unfold textV
        rw [if_pos nil_list]
        exact hs.symm
      rw [decide_eq_true this, nil_list]
      rfl
    | true =>
      have hq := cut_parts q 35 h2
      rw [e35] at hq
      generalize cutA q 35 = i at *
      generalize cutB q 35 = r at *
      cases h3 : r.toList.isEmpty with
      | true =>
        obtain rfl := (empty_iff r).1 h3
        apply decide_eq_false
        intro e
        have e2 := congrArg ByteArray.size e
        unfold textV at e2
        rw [if_pos nil_list, hs, hq] at e2
        simp only [ByteArray.size_append, one_size] at e2
        omega
      | false =>
        have : textV t i r = s := by
          unfold textV
          rw [if_neg (fun h => by rw [h] at h3; cases h3), hs]
          conv => rhs; rw [hq]
          simp only [ByteArray.append_assoc]
        rw [decide_eq_true this]
        rfl
theorem read_same (s : ByteArray) : readOk s = refOk s := by
  unfold readOk refOk
  rw [subj_kind, text_back]
  cases cutOk s 58 with
  | false => simp
  | true => simp
theorem kind_id (t i r : ByteArray) (h : kindV t i r ≠ 0) : nameB t = true ∧ (∀ j, j < i.size → gb i j ≠ 35) := by
  unfold kindV at h
  cases hn : nameB t with
  | false => rw [hn] at h; exact absurd rfl h
  | true =>
    refine ⟨rfl, ?_⟩
    rw [hn, if_pos rfl] at h
    cases hs : (i.toList == [42]) with
    | true =>
      have h1 : i.toList = [42] := by simpa using hs
      rw [Lib.toList_data] at h1
      have h3 : i = ⟨#[42]⟩ := by
        cases i with
        | mk d => congr 1; exact Array.ext' h1
      subst h3
      intro j hj
      have : j = 0 := by have : (⟨#[42]⟩ : ByteArray).size = 1 := rfl; omega
      subst this
      decide
    | false =>
      rw [hs, if_neg (by decide)] at h
      cases hd : idB i with
      | false => rw [hd, if_neg (by decide)] at h; exact absurd rfl h
      | true => exact id_ne i hd 35 (by decide) (by decide)
theorem text_parts (t i r : ByteArray) (h : kindV t i r ≠ 0) : cutA (textV t i r) 58 = t ∧ cutA (cutB (textV t i r) 58) 35 = i ∧ cutB (cutB (textV t i r) 58) 35 = r := by
  obtain ⟨h1, h2⟩ := kind_id t i r h
  have e58 : (58 : UInt8).toNat = 58 := rfl
  have e35 : (35 : UInt8).toNat = 35 := rfl
  have n58 : ∀ j, j < t.size → gb t j ≠ (58 : UInt8).toNat := name_ne t h1 58 (by omega)
  unfold textV
  by_cases hr : r.toList = []
  · rw [if_pos hr]
    obtain ⟨a, b, _⟩ := cut_append t i 58 n58
    rw [e58] at a b
    obtain ⟨c, d, _⟩ := cut_absent i 35 h2
    rw [a, b, c, d]
    exact ⟨rfl, rfl, ((empty_iff r).1 (by rw [hr]; rfl)).symm⟩
  · rw [if_neg hr, show ((t ++ one 58) ++ i) ++ (one 35 ++ r) = (t ++ one 58) ++ ((i ++ one 35) ++ r) by simp only [ByteArray.append_assoc]]
    obtain ⟨a, b, _⟩ := cut_append t ((i ++ one 35) ++ r) 58 n58
    rw [e58] at a b
    obtain ⟨c, d, _⟩ := cut_append i r 35 h2
    rw [e35] at c d
    rw [a, b, c, d]
    exact ⟨rfl, rfl, rfl⟩
theorem text_reads (t i r : ByteArray) (h : kindV t i r ≠ 0) : readOk (textV t i r) = true := by
  obtain ⟨a, b, c⟩ := text_parts t i r h
  unfold readOk
  rw [a, b, c, subj_kind]
  simpa using h
theorem text_le (t i r : ByteArray) : (textV t i r).size ≤ t.size + i.size + r.size + 2 := by
  unfold textV
  split <;> simp only [ByteArray.size_append, one_size] <;> omega

end Go.Proofs.YtmilpfccgggmkaaDoor.Who

/- The reference's Read of a subject. -/
namespace Go.Proofs.YtmilpfccgggmkaaDoor.Who
open Go.RowKit Go.Proofs.YtmilpfccgggmkaaDoorW.PrintWords Go.Proofs.YtmilpfccgggmkaaDoor.Utf Go.Proofs.YtmilpfccgggmkaaDoor.Arr Go.Proofs.YtmilpfccgggmkaaDoor.Gly Go.Proofs.YtmilpfccgggmkaaDoor.Glr
set_option linter.unusedVariables false
set_option linter.unusedSimpArgs false

theorem kind_as (k : Nat) (t i r : ByteArray) (hk : kindV t i r = k) (ht : t.size ≤ 9223372036854775807) (hi : i.size ≤ 100000000) (hr : r.size ≤ 9223372036854775807) (w : World) :
    Calls Tryd.prog 34 #[.agg #[.string t, .string i, .string r]] w fun e w' => e = .returned (.int .i64 (k : Int)) ∧ Below w.heap.size w w' := by
  subst hk
  exact ref_kind_calls t i r ht hi hr w

end Go.Proofs.YtmilpfccgggmkaaDoor.Who

/- Tuples: plain facts on their texts; what both layers' Read tell, in one form. -/
namespace Go.Proofs.YtmilpfccgggmkaaDoor.Bnd
open Go.RowKit Go.Proofs.YtmilpfccgggmkaaDoorW.PrintWords Go.Proofs.YtmilpfccgggmkaaDoor.Utf Go.Proofs.YtmilpfccgggmkaaDoor.Arr Go.Proofs.YtmilpfccgggmkaaDoor.Gly Go.Proofs.YtmilpfccgggmkaaDoor.Glr Go.Proofs.YtmilpfccgggmkaaDoor.Who
set_option linter.unusedVariables false
set_option linter.unusedSimpArgs false

/-! ### Read in one form -/
def rt (s : ByteArray) : ByteArray := if readOk s = true then cutA s 58 else ⟨#[]⟩
def ri (s : ByteArray) : ByteArray := if readOk s = true then cutA (cutB s 58) 35 else ⟨#[]⟩
def rr (s : ByteArray) : ByteArray := if readOk s = true then cutB (cutB s 58) 35 else ⟨#[]⟩
theorem rsize (s : ByteArray) : (rt s).size ≤ s.size ∧ (ri s).size ≤ s.size ∧ (rr s).size ≤ s.size := by
  have s1 := cutA_size s 58
  have s2 := cutB_size s 58
  have s3 := cutA_size (cutB s 58) 35
  have s4 := cutB_size (cutB s 58) 35
  unfold rt ri rr
  have z0 : (⟨#[]⟩ : ByteArray).size = 0 := rfl
  split <;> omega
/-! ### tuples -/
def tupGood (t i r a b c : ByteArray) : Bool := goodB t i && nameB r && subjB a b c
theorem good_star (t i : ByteArray) (h : goodB t i = true) : nameB t = true ∧ idB i = true ∧ (i.toList == [42]) = false := by
  unfold goodB at h
  rw [Bool.and_eq_true] at h
  refine ⟨h.1, h.2, ?_⟩
  cases hs : (i.toList == [42]) with
  | true => have := star_no_id i hs; rw [h.2] at this; cases this
  | false => rfl
theorem name_empty (r : ByteArray) (h : nameB r = true) : r.toList.isEmpty = false := by
  cases he : r.toList.isEmpty with
  | false => rfl
  | true =>
    obtain rfl := (empty_iff r).1 he
    have := (name_size _ h).1
    exact absurd this (by decide)
theorem set_kind (t i r : ByteArray) : setB t i r = (kindV t i r == 2) := by
  unfold setB kindV
  cases hg : goodB t i with
  | true =>
    obtain ⟨h1, h2, h3⟩ := good_star t i hg
    rw [h1, h2, h3, if_pos rfl, if_neg (by decide), if_pos rfl]
    cases hn : nameB r with
    | true => rw [name_empty r hn, if_neg (by decide), if_pos rfl]; rfl
    | false => cases r.toList.isEmpty <;> rfl
  | false =>
    unfold goodB at hg
    cases h1 : nameB t with
    | false => rw [if_neg (by decide)]; rfl
    | true =>
      rw [h1, Bool.true_and] at hg
      rw [hg, if_pos rfl]
      cases (i.toList == [42]) <;> cases r.toList.isEmpty <;> rfl
def textT (t i r a b c : ByteArray) : ByteArray := (textV t i r ++ one 64) ++ textV a b c
def tOk (s : ByteArray) : Bool := cutOk s 64 && (readOk (cutA s 64) && readOk (cutB s 64) && setB (rt (cutA s 64)) (ri (cutA s 64)) (rr (cutA s 64)))
theorem set_bytes (t i r : ByteArray) (h : kindV t i r ≠ 0) (hs : (i.toList == [42]) = false) : ∀ j, j < (textV t i r).size → gb (textV t i r) j ≠ 64 := by
  have hn := (kind_id t i r h).1
  have n64 := name_ne t hn 64 (by omega)
  unfold kindV at h
  rw [hn, if_pos rfl, hs, if_neg (by decide)] at h
  have hi : idB i = true := by
    cases hd : idB i with
    | true => rfl
    | false => rw [hd, if_neg (by decide)] at h; exact absurd rfl h
  have i64 := id_ne i hi 64 (by decide) (by decide)
  rw [hi, if_pos rfl] at h
  have r64 : r.toList = [] ∨ ∀ j, j < r.size → gb r j ≠ 64 := by
    by_cases he : r.toList = []
    · exact .inl he
    · rw [isEmpty_of he, if_neg (by decide)] at h
      refine .inr (name_ne r ?_ 64 (by omega))
      cases hr : nameB r with
      | true => rfl
      | false => rw [hr, if_neg (by decide)] at h; exact absurd rfl h
  have two : ∀ j, j < ((t ++ one 58) ++ i).size → gb ((t ++ one 58) ++ i) j ≠ 64 := by
    intro j hj
    rw [ByteArray.size_append, ByteArray.size_append, one_size] at hj
    rw [gb_append, ByteArray.size_append, one_size]
    by_cases h1 : j < t.size + 1
    · rw [if_pos h1, gb_append]
      by_cases h2 : j < t.size
      · rw [if_pos h2]; exact n64 j h2
      · rw [if_neg h2, show j - t.size = 0 by omega]; decide
    · rw [if_neg h1]; exact i64 _ (by omega)
  unfold textV
  by_cases he : r.toList = []
  · rw [if_pos he]; exact two
  · rw [if_neg he]
    have r2 := r64.resolve_left he
    intro j hj
    rw [ByteArray.size_append (b := one 35 ++ r), ByteArray.size_append (a := one 35), one_size] at hj
    rw [gb_append]
    by_cases h1 : j < ((t ++ one 58) ++ i).size
    · rw [if_pos h1]; exact two j h1
    · rw [if_neg h1, gb_append, one_size]
      by_cases h2 : j - ((t ++ one 58) ++ i).size < 1
      · rw [if_pos h2, show j - ((t ++ one 58) ++ i).size = 0 by omega]; decide
      · rw [if_neg h2]; exact r2 _ (by omega)
/-- A good tuple's text is cut where it was joined. -/
theorem tuple_parts (t i r a b c : ByteArray) (h : tupGood t i r a b c = true) : cutOk (textT t i r a b c) 64 = true ∧ cutA (textT t i r a b c) 64 = textV t i r ∧ cutB (textT t i r a b c) 64 = textV a b c ∧ kindV t i r = 2 ∧ kindV a b c ≠ 0 := by
  unfold tupGood at h
  simp only [Bool.and_eq_true] at h
  obtain ⟨⟨h1, h2⟩, h3⟩ := h
  have hk : kindV t i r = 2 := by
    have := set_kind t i r
    unfold setB at this
    rw [h1, h2, Bool.true_and] at this
    simpa using this.symm
  have hk2 : kindV a b c ≠ 0 := by
    rw [subj_kind] at h3
    simpa using h3
  have e64 : (64 : UInt8).toNat = 64 := rfl
  obtain ⟨x, y, z⟩ := cut_append (textV t i r) (textV a b c) 64 (set_bytes t i r (by rw [hk]; decide) (good_star t i h1).2.2)
  rw [e64] at x y z
  exact ⟨z, x, y, hk, hk2⟩
theorem tuple_reads (t i r a b c : ByteArray) (h : tupGood t i r a b c = true) : tOk (textT t i r a b c) = true ∧ rt (cutA (textT t i r a b c) 64) = t ∧ ri (cutA (textT t i r a b c) 64) = i ∧ rr (cutA (textT t i r a b c) 64) = r ∧ rt (cutB (textT t i r a b c) 64) = a ∧ ri (cutB (textT t i r a b c) 64) = b ∧ rr (cutB (textT t i r a b c) 64) = c := by
  obtain ⟨x, y, z, k1, k2⟩ := tuple_parts t i r a b c h
  have o1 := text_reads t i r (by rw [k1]; decide)
  have o2 := text_reads a b c k2
  obtain ⟨p1, p2, p3⟩ := text_parts t i r (by rw [k1]; decide)
  obtain ⟨q1, q2, q3⟩ := text_parts a b c k2
  have R : rt (cutA (textT t i r a b c) 64) = t ∧ ri (cutA (textT t i r a b c) 64) = i ∧ rr (cutA (textT t i r a b c) 64) = r := by
    unfold rt ri rr
    rw [y, o1, if_pos rfl, if_pos rfl, if_pos rfl]
    exact ⟨p1, p2, p3⟩
  refine ⟨?_, R.1, R.2.1, R.2.2, ?_⟩
  · unfold tOk
    rw [R.1, R.2.1, R.2.2, x, y, z, o1, o2, set_kind, k1]
    rfl
  · unfold rt ri rr
    rw [z, o2, if_pos rfl, if_pos rfl, if_pos rfl]
    exact ⟨q1, q2, q3⟩
theorem read_back (s : ByteArray) (h : readOk s = true) : textV (rt s) (ri s) (rr s) = s ∧ subjB (rt s) (ri s) (rr s) = true := by
  unfold rt ri rr
  rw [h, if_pos rfl, if_pos rfl, if_pos rfl]
  unfold readOk at h
  simp only [Bool.and_eq_true, beq_iff_eq] at h
  exact ⟨toList_inj h.2, h.1⟩
theorem tuple_back (s : ByteArray) (h : tOk s = true) : textT (rt (cutA s 64)) (ri (cutA s 64)) (rr (cutA s 64)) (rt (cutB s 64)) (ri (cutB s 64)) (rr (cutB s 64)) = s ∧ tupGood (rt (cutA s 64)) (ri (cutA s 64)) (rr (cutA s 64)) (rt (cutB s 64)) (ri (cutB s 64)) (rr (cutB s 64)) = true := by
  unfold tOk at h
  simp only [Bool.and_eq_true] at h
  obtain ⟨h0, ⟨h1, h2⟩, h3⟩ := h
  obtain ⟨x1, x2⟩ := read_back _ h1
  obtain ⟨y1, y2⟩ := read_back _ h2
  have hp := cut_parts s 64 (by exact h0)
  have e64 : (64 : UInt8).toNat = 64 := rfl
  rw [e64] at hp
  refine ⟨?_, ?_⟩
  · unfold textT
    rw [x1, y1]
    exact hp.symm
  · unfold tupGood
    unfold setB at h3
    rw [Bool.and_eq_true] at h3
    rw [h3.1, h3.2, y2]
    rfl
theorem textT_le (t i r a b c : ByteArray) : (textT t i r a b c).size ≤ t.size + i.size + r.size + a.size + b.size + c.size + 5 := by
  have tl : ∀ t i r : ByteArray, (textV t i r).size ≤ t.size + i.size + r.size + 2 := text_le
  have h1 := tl t i r
  have h2 := tl a b c
  unfold textT
  rw [ByteArray.size_append, ByteArray.size_append, one_size]
  omega
end Go.Proofs.YtmilpfccgggmkaaDoor.Bnd

/- The program's layer bond: object, Good, Text; the reference's Good, Text. -/
namespace Go.Proofs.YtmilpfccgggmkaaDoor.Bnd
open Go.RowKit Go.Proofs.YtmilpfccgggmkaaDoorW.PrintWords Go.Proofs.YtmilpfccgggmkaaDoor.Utf Go.Proofs.YtmilpfccgggmkaaDoor.Arr Go.Proofs.YtmilpfccgggmkaaDoor.Gly Go.Proofs.YtmilpfccgggmkaaDoor.Glr Go.Proofs.YtmilpfccgggmkaaDoor.Who
set_option linter.unusedVariables false
set_option linter.unusedSimpArgs false

/-- A tuple's cells. -/
abbrev tup (t i r a b c : ByteArray) : Array Value := #[.string t, .string i, .string r, .string a, .string b, .string c]
set_option maxHeartbeats 1000000 in
theorem object_calls (t i r a b c : ByteArray) (w : World) :
    Calls Tryd.prog 48 #[.agg (tup t i r a b c)] w fun e w' => e = .returned (.agg #[.string t, .string i]) ∧ Below w.heap.size w w' := by
  go_enter Tryd.func48, Tryd.ntmps48
  go_wp2
  exact bodyPost_ret (v := .agg #[.string t, .string i]) (by simp [results, Tryd.results48, go_sem]) rfl ⟨rfl, ((Below.refl _ _).alloc (Nat.le_refl _) _).alloc (by simp) _⟩

structure Sz (t i r a b c : ByteArray) (n : Nat) : Prop where mk ::
  t : t.size ≤ n
  i : i.size ≤ n
  r : r.size ≤ n
  a : a.size ≤ n
  b : b.size ≤ n
  c : c.size ≤ n

set_option maxHeartbeats 4000000 in
set_option maxRecDepth 100000 in
theorem tgood_calls (t i r a b c : ByteArray) (z : Sz t i r a b c 9223372036854775807) (w : World) (hT : Tabs w) :
    Calls Tryd.prog 40 #[.agg (tup t i r a b c)] w fun e w' => e = .returned (.bool (tupGood t i r a b c)) ∧ Below w.heap.size w w' := by
  have HB := Aside0.mk (box_below w (tup t i r a b c) 42)
  have B0 := Aside0.mk (Blk.new w 42 (tup t i r a b c))
  have HT := Aside0.mk (Tabs.below hT HB.out)
  have Z := Aside0.mk z
  clear hT z
  unfold tupGood
  obtain ⟨g, hg⟩ : ∃ g, goodB t i = g := ⟨_, rfl⟩
  have HG := Aside0.mk hg
  rw [hg]
  clear hg
  obtain ⟨n, hn⟩ : ∃ n, nameB r = n := ⟨_, rfl⟩
  have HN := Aside0.mk hn
  rw [hn]
  clear hn
  obtain ⟨s, hs⟩ : ∃ s, subjB a b c = s := ⟨_, rfl⟩
  have HS := Aside0.mk hs
  rw [hs]
  clear hs
  go_enter Tryd.func40, Tryd.ntmps40
  go_wp2_with fail
  refine (object_calls t i r a b c _).mono ?_
  rintro e w1 ⟨rfl, hb1⟩
  have B1 := Aside0.mk (B0.out.below hb1)
  have HB1 := Aside0.mk (HB.out.trans (hb1.mono HB.out.size))
  have HT1 := Aside0.mk (Tabs.below HT.out hb1)
  clear B0 HB HT hb1
  go_wp2_with fail
  refine (good_as g t i HG.out Z.out.t Z.out.i _ HT1.out).mono ?_
  rintro e w2 ⟨rfl, hb2⟩
  have B2 := Aside0.mk (B1.out.below hb2)
  have HB2 := Aside0.mk (HB1.out.trans (hb2.mono HB1.out.size))
  have HT2 := Aside0.mk (Tabs.below HT1.out hb2)
  clear B1 HB1 HT1 hb2
  cases g with
  | false =>
    go_wp2
    go_ret
    exact ⟨rfl, HB2.out⟩
  | true =>
    have c2 := B2.out.cell 2
    go_wp2_with fail
    refine (name_as n r HN.out Z.out.r _).mono ?_
    rintro e w3 ⟨rfl, hb3⟩
    have B3 := Aside0.mk (B2.out.below hb3)
    have HB3 := Aside0.mk (HB2.out.trans (hb3.mono HB2.out.size))
    have HT3 := Aside0.mk (Tabs.below HT2.out hb3)
    clear B2 HB2 HT2 hb3 c2
    cases n with
    | false =>
      go_wp2
      go_ret
      exact ⟨rfl, HB3.out⟩
    | true =>
      have c3 := B3.out.cell 3
      have c4 := B3.out.cell 4
      have c5 := B3.out.cell 5
      go_wp2_with fail
      refine (subject_as s a b c HS.out Z.out.a Z.out.b Z.out.c _ HT3.out).mono ?_
      rintro e w4 ⟨rfl, hb4⟩
      have HB4 := HB3.out.trans (hb4.mono HB3.out.size)
      clear c3 c4 c5
      go_wp2
      go_ret
      exact ⟨by cases s <;> rfl, HB4⟩
theorem tgood_as (g : Bool) (t i r a b c : ByteArray) (hg : tupGood t i r a b c = g) (z : Sz t i r a b c 9223372036854775807) (w : World) (hT : Tabs w) :
    Calls Tryd.prog 40 #[.agg (tup t i r a b c)] w fun e w' => e = .returned (.bool g) ∧ Below w.heap.size w w' := by
  subst hg
  exact tgood_calls t i r a b c z w hT

set_option maxHeartbeats 4000000 in
set_option maxRecDepth 100000 in
theorem rtgood_calls (t i r a b c : ByteArray) (z : Sz t i r a b c 100000000) (w : World) :
    Calls Tryd.prog 32 #[.agg (tup t i r a b c)] w fun e w' => e = .returned (.bool (tupGood t i r a b c)) ∧ Below w.heap.size w w' := by
  have HB := Aside0.mk (box_below w (tup t i r a b c) 42)
  have B0 := Aside0.mk (Blk.new w 42 (tup t i r a b c))
  have z1 := z.t
  have z2 := z.i
  have z3 := z.r
  have z4 := z.a
  have z5 := z.b
  have z6 := z.c
  clear z
  have hT2 : tupGood t i r a b c = (nameB t && (idB i && (nameB r && (kindV a b c != 0)))) := by
    unfold tupGood goodB
    rw [subj_kind]
    cases nameB t <;> cases idB i <;> cases nameB r <;> rfl
  rw [hT2]
  clear hT2
  obtain ⟨g, hg⟩ : ∃ g, nameB t = g := ⟨_, rfl⟩
  have HG := Aside0.mk hg
  rw [hg]
  clear hg
  obtain ⟨d, hd⟩ : ∃ d, idB i = d := ⟨_, rfl⟩
  have HD := Aside0.mk hd
  rw [hd]
  clear hd
  obtain ⟨n, hn⟩ : ∃ n, nameB r = n := ⟨_, rfl⟩
  have HN := Aside0.mk hn
  rw [hn]
  clear hn
  obtain ⟨k, hk⟩ : ∃ k, kindV a b c = k := ⟨_, rfl⟩
  have HK := Aside0.mk hk
  rw [hk]
  clear hk
  have hkk : (k != 0) = decide (0 < k) := by
    rw [Bool.eq_iff_iff]
    simp
    omega
  have HKK := Aside0.mk hkk
  clear hkk
  go_enter Tryd.func32, Tryd.ntmps32
  go_wp2_with fail
  refine (rname_as g t HG.out (by omega) _).mono ?_
  rintro e w1 ⟨rfl, hb1⟩
  have B1 := Aside0.mk (B0.out.below hb1)
  have HB1 := Aside0.mk (HB.out.trans (hb1.mono HB.out.size))
  clear B0 HB hb1
  cases g with
  | false =>
    go_wp2
    go_ret
    exact ⟨rfl, HB1.out⟩
  | true =>
    have c1 := B1.out.cell 1
    go_wp2_with fail
    refine (rid_as d i HD.out (by omega) _).mono ?_
    rintro e w2 ⟨rfl, hb2⟩
    have B2 := Aside0.mk (B1.out.below hb2)
    have HB2 := Aside0.mk (HB1.out.trans (hb2.mono HB1.out.size))
    clear B1 HB1 hb2 c1
    cases d with
    | false =>
      go_wp2
      go_ret
      exact ⟨rfl, HB2.out⟩
    | true =>
      have c2 := B2.out.cell 2
      go_wp2_with fail
      refine (rname_as n r HN.out (by omega) _).mono ?_
      rintro e w3 ⟨rfl, hb3⟩
      have B3 := Aside0.mk (B2.out.below hb3)
      have HB3 := Aside0.mk (HB2.out.trans (hb3.mono HB2.out.size))
      clear B2 HB2 hb3 c2
      cases n with
      | false =>
        go_wp2
        go_ret
        exact ⟨rfl, HB3.out⟩
      | true =>
        have c3 := B3.out.cell 3
        have c4 := B3.out.cell 4
        have c5 := B3.out.cell 5
        go_wp2_with fail
        refine (kind_as k a b c HK.out (by omega) (by omega) (by omega) _).mono ?_
        rintro e w4 ⟨rfl, hb4⟩
        have HB4 := HB3.out.trans (hb4.mono HB3.out.size)
        clear c3 c4 c5
        go_wp2
        go_ret
        exact ⟨ret_bool (by rw [HKK.out]; simp), HB4⟩

end Go.Proofs.YtmilpfccgggmkaaDoor.Bnd

/- Untying good subjects and tuples. -/
namespace Go.Proofs.YtmilpfccgggmkaaDoor.Knt
open Go.RowKit Go.Proofs.YtmilpfccgggmkaaDoorW.PrintWords Go.Proofs.YtmilpfccgggmkaaDoor.Arr
set_option linter.unusedVariables false
set_option linter.unusedSimpArgs false

set_option maxHeartbeats 4000000 in
set_option maxRecDepth 100000 in
theorem isubject_ok (g : Nat) (l : List UInt8) (hl : l.length ≤ 140737488355328) (a b c : ByteArray) (ha : a.size ≤ 9223372036854775807) (hb : b.size ≤ 9223372036854775807) (hc : c.size ≤ 9223372036854775807) (m : List UInt8) (hF : Front l a b c m) (hG : Who.subjB a b c = true)
    (w : World) (h : IBlk w g l false) (hT : ∀ w1, Only [g] w w1 → Gly.Tabs w1) :
    Calls Tryd.prog 27 #[.pointer (some ⟨g, 0, none⟩)] w fun e w' => e = .returned (.agg #[.string a, .string b, .string c]) ∧ IBlk w' g m false ∧ Only [g] w w' := by
  obtain ⟨W0, hW0⟩ : ∃ W0, w.alloc (.cells e3 TS) = W0 := ⟨_, rfl⟩
  have b0 : Below w.heap.size w W0 := by rw [← hW0]; exact (Below.refl _ _).alloc (Nat.le_refl _) _
  have hgw := h.lt
  have hne : w.heap.size ≠ g := by omega
  have hnm : w.heap.size ∉ [g] := by simpa using hne
  have O0 := Aside0.mk (Only.of_below b0 [g])
  have R0 := Aside0.mk (show Blk W0 w.heap.size TS e3 by rw [← hW0]; exact Blk.new w TS e3)
  have H0 := Aside0.mk (h.below b0)
  have HT := Aside0.mk hT
  have HF := Aside0.mk hF
  have HG := Aside0.mk hG
  clear h b0 hT hF hG
  go_enter Tryd.func27, Tryd.ntmps27
  go_wp2_with fail
  clear hW0
  refine (iparts_ok g l hl false a b c m HF.out W0 H0.out).mono ?_
  rintro e w1 ⟨rfl, i1, o1⟩
  have r1 := R0.out.only o1 hnm
  have o1' := O0.out.trans o1 (fun k hk => .inl hk)
  obtain ⟨n, hn⟩ : ∃ n, w1.heap.size = n := ⟨_, rfl⟩
  obtain ⟨W1, hW1⟩ : ∃ W1, w1.alloc (.cells #[.string a, .string b, .string c] TS) = W1 := ⟨_, rfl⟩
  have b1 : Below w1.heap.size w1 W1 := by rw [← hW1]; exact (Below.refl _ _).alloc (Nat.le_refl _) _
  have X1 := Aside0.mk (show Blk W1 n TS #[.string a, .string b, .string c] by rw [← hW1]; exact Blk.newAt hn.symm)
  have R1 := Aside0.mk (r1.below b1)
  have H1 := Aside0.mk (i1.below b1)
  have O1 := Aside0.mk (o1'.step b1)
  clear i1 o1 r1 o1' R0 H0 O0 b1
  have c1 := H1.out.cell 1
  have lt1 := H1.out.lt
  have x0 := X1.out.cell 0
  have x1 := X1.out.cell 1
  have x2 := X1.out.cell 2
  have xl := X1.out.lt
  go_wp2_with fail
  clear hW1
  refine (Who.subject_calls a b c ha hb hc W1 (HT.out _ O1.out)).mono ?_
  rintro e w2 ⟨rfl, b2⟩
  rw [HG.out]
  have X2 := X1.out.below b2
  have R2 := R1.out.below b2
  have R2' := Aside0.mk R2
  have H2 := Aside0.mk (H1.out.below b2)
  have O2 := Aside0.mk (O1.out.step b2)
  clear c1 lt1 x0 x1 x2 xl b2 R1 H1 O1 X1
  have x0 := X2.cell 0
  have x1 := X2.cell 1
  have x2 := X2.cell 2
  have xl := X2.lt
  have f0 := R2.frozen 0
  have f1 := R2.frozen 1
  have f2 := R2.frozen 2
  have d0 := R2.cell 0
  have d1 := R2.cell 1
  have d2 := R2.cell 2
  have l0 := R2.lt
  clear X2 R2
  go_wp2
  have E := three_blk R2'.out (.string a) (.string b) (.string c)
  have e0 := E.cell 0
  have e1 := E.cell 1
  have e2 := E.cell 2
  have ng : ∀ i, g ≠ (⟨w.heap.size, i, none⟩ : Addr).block := fun _ => Ne.symm hne
  have q : ∀ i, (⟨w.heap.size, i, none⟩ : Addr).block ∈ [g] ∨ w.heap.size ≤ (⟨w.heap.size, i, none⟩ : Addr).block := fun _ => .inr (Nat.le_refl _)
  exact bodyPost_ret (v := .agg #[.string a, .string b, .string c]) (by simp [results, Tryd.results27, go_sem, e0, e1, e2]) rfl
    ⟨rfl, ((H2.out.far (ng 0) (.string a)).far (ng 1) (.string b)).far (ng 2) (.string c), ((O2.out.setCell (q 0) (.string a)).setCell (q 1) (.string b)).setCell (q 2) (.string c)⟩
end Go.Proofs.YtmilpfccgggmkaaDoor.Knt

/- Regions that draw their order: each operation tells what it yields (a set of values, and a relation that stands under Le); those of the list cs, one behind the other, turn the class of worlds. Any program. -/
namespace Go.Proofs.YtmilpfccgggmkaaDoor.Qy
open Go.RowKit Go.Proofs.YtmilpfccgggmkaaDoor.Arr
set_option linter.unusedVariables false
set_option linter.unusedSimpArgs false
section
variable {P : Program} {ops : Array Oper} {md : Region.Mode} {Le : World → World → Prop} {S : FuncId → Array Value → Value → World → Prop} {SV : FuncId → Array Value → Value → Prop} {C : Nat → World → Prop} {cs : List Nat}

def Stb (Le : World → World → Prop) (F : World → Prop) : Prop := ∀ w w', F w → Le w w' → F w'
def up (F : Nat → World → Prop) (i : Nat) (R : World → Prop) : Nat → World → Prop := fun k => if k = i then R else F k
theorem up_same (F : Nat → World → Prop) (i : Nat) (R : World → Prop) : up F i R i = R := by simp [up]
theorem up_ne (F : Nat → World → Prop) {i k : Nat} (R : World → Prop) (h : k ≠ i) : up F i R k = F k := by simp [up, h]

/-! ### the phase -/
def ph (cs : List Nat) (listed : Array Bool) : Nat := (cs.takeWhile fun c => listed.getD c false).length
def chainedB (md : Region.Mode) (ops : Array Oper) : List Nat → Bool
  | [] => true
  | [_] => true
  | c :: d :: l => decide (c < d) && Region.waitsFor md ops d c && chainedB md ops (d :: l)
def tr (cs : List Nat) (i p p' : Nat) : Prop := (i ∉ cs ∧ p' = p) ∨ (cs[p]? = some i ∧ p' = p + 1)
theorem chained_tail {c : Nat} {l : List Nat} (h : chainedB md ops (c :: l) = true) : chainedB md ops l = true := by
  cases l with
  | nil => rfl
  | cons d l => simp only [chainedB, Bool.and_eq_true] at h; exact h.2
theorem chained_off {n : Nat} {listed : Array Bool} (inv : HeadInv md ops n listed) : ∀ {l : List Nat} {c : Nat}, chainedB md ops (c :: l) = true → listed.getD c false = false → ∀ x ∈ c :: l, listed.getD x false = false
  | [], c, _, hc, x, hx => by simp at hx; subst hx; exact hc
  | d :: l, c, h, hc, x, hx => by
    simp only [chainedB, Bool.and_eq_true, decide_eq_true_eq] at h
    rcases List.mem_cons.1 hx with rfl | hx
    · exact hc
    · refine chained_off inv h.2 ?_ x hx
      obtain ⟨oj, hoj, e, he, hb, hon⟩ := Region.waitsFor_spec h.1.2
      cases hd : listed.getD d false with
      | false => rfl
      | true =>
        have := inv.closed d oj hoj hd e he hb
        rw [hon, hc] at this
        cases this
theorem chained_pred : ∀ {l : List Nat} {c i : Nat}, chainedB md ops (c :: l) = true → i ∈ l → ∃ d, d ∈ c :: l ∧ Region.waitsFor md ops i d = true
  | [], _, _, _, h => by cases h
  | d :: l, c, i, h, hi => by
    simp only [chainedB, Bool.and_eq_true, decide_eq_true_eq] at h
    rcases List.mem_cons.1 hi with rfl | hi
    · exact ⟨c, by simp, h.1.2⟩
    · obtain ⟨x, hx, hw⟩ := chained_pred h.2 hi
      exact ⟨x, List.mem_cons_of_mem _ hx, hw⟩
theorem getD_set_at {listed : Array Bool} {i : Nat} (h : i < listed.size) : (listed.setIfInBounds i true).getD i false = true := by simp [h]
theorem ph_at {n i : Nat} {listed : Array Bool} (inv : HeadInv md ops n listed) (hr : i ∈ Region.ready md ops listed) : ∀ {cs : List Nat}, chainedB md ops cs = true → tr cs i (ph cs listed) (ph cs (listed.setIfInBounds i true))
  | [], _ => .inl ⟨by simp, rfl⟩
  | c :: l, h => by
    obtain ⟨hun, oi, hoi, hall⟩ := mem_ready.1 hr
    have hun' := getD_both hun
    have hil : i < listed.size := by rw [inv.size]; exact (Array.getElem?_eq_some_iff.1 hoi).1
    cases hc : listed.getD c false with
    | true =>
      have hci : i ≠ c := fun e => by subst e; rw [hun'] at hc; cases hc
      have ih := ph_at inv hr (chained_tail h)
      have e1 : ph (c :: l) listed = ph l listed + 1 := by unfold ph; rw [List.takeWhile_cons_of_pos (p := fun c => listed.getD c false) hc]; rfl
      have e2 : ph (c :: l) (listed.setIfInBounds i true) = ph l (listed.setIfInBounds i true) + 1 := by
        unfold ph; rw [List.takeWhile_cons_of_pos (p := fun c => (listed.setIfInBounds i true).getD c false) (by rw [getD_set_ne false hci]; exact hc)]; rfl
      rw [e1, e2]
      rcases ih with ⟨h1, h2⟩ | ⟨h1, h2⟩
      · exact .inl ⟨by simp [hci, h1], by omega⟩
      · exact .inr ⟨by simpa using h1, by omega⟩
    | false =>
      have hoff := chained_off inv h hc
      have e1 : ph (c :: l) listed = 0 := by unfold ph; rw [List.takeWhile_cons_of_neg (p := fun c => listed.getD c false) (by simp only [hc]; decide)]; rfl
      rw [e1]
      by_cases hic : i = c
      · subst hic
        refine .inr ⟨rfl, ?_⟩
        unfold ph
        rw [List.takeWhile_cons_of_pos (p := fun c => (listed.setIfInBounds i true).getD c false) (getD_set_at hil)]
        cases l with
        | nil => rfl
        | cons d l =>
          have hd : i < d := by simp only [chainedB, Bool.and_eq_true, decide_eq_true_eq] at h; exact h.1.1
          rw [List.takeWhile_cons_of_neg (p := fun c => (listed.setIfInBounds i true).getD c false) (by rw [getD_set_ne false (show i ≠ d by omega), hoff d (by simp)]; decide)]
          rfl
      · have e2 : ph (c :: l) (listed.setIfInBounds i true) = 0 := by unfold ph; rw [List.takeWhile_cons_of_neg (p := fun c => (listed.setIfInBounds i true).getD c false) (by rw [getD_set_ne false hic, hc]; decide)]; rfl
        rw [e2]
        refine .inl ⟨fun hm => ?_, rfl⟩
        rcases List.mem_cons.1 hm with rfl | hm
        · exact hic rfl
        · obtain ⟨d, hd, hw⟩ := chained_pred h hm
          obtain ⟨oj, hoj, e, he, hb, hon⟩ := Region.waitsFor_spec hw
          have : oj = oi := Option.some.inj (hoj.symm.trans hoi)
          subst this
          have h2 := hall e he hb
          rw [hon, hoff d hd] at h2
          cases h2
theorem ph_all {listed : Array Bool} : ∀ {cs : List Nat}, (∀ c ∈ cs, listed.getD c false = true) → ph cs listed = cs.length
  | [], _ => rfl
  | c :: l, h => by
    have := ph_all (listed := listed) (cs := l) fun x hx => h x (List.mem_cons_of_mem _ hx)
    unfold ph at this ⊢
    rw [List.takeWhile_cons_of_pos (p := fun c => listed.getD c false) (h c (by simp))]
    rw [List.length_cons, this, List.length_cons]
theorem ph_none {listed : Array Bool} (h : ∀ c, listed.getD c false = false) : ph cs listed = 0 := by
  cases cs with
  | nil => rfl
  | cons c l => unfold ph; rw [List.takeWhile_cons_of_neg (p := fun c => listed.getD c false) (by rw [h c]; decide)]; rfl

/-! ### what an operation yields -/
def yUpon (P : Program) (Le : World → World → Prop) (S : FuncId → Array Value → Value → World → Prop) (SV : FuncId → Array Value → Value → Prop) (C' : World → Prop) (w : World) (V : Value → Prop) (R : Value → World → Prop) : Result Next → Prop
  | .ok (.value u) w' => Le w w' ∧ C' w' ∧ V u ∧ R u w'
  | .ok (.enter f args) w' => w' = w ∧ V = SV f args ∧ R = S f args ∧ Calls P f args w (fun e w'' => ∃ u, e = .returned u ∧ Le w w'' ∧ C' w'' ∧ SV f args u ∧ S f args u w'')
  | _ => False
def Gives (P : Program) (md : Region.Mode) (ops : Array Oper) (Le : World → World → Prop) (S : FuncId → Array Value → Value → World → Prop) (SV : FuncId → Array Value → Value → Prop) (C : Nat → World → Prop) (cs : List Nat) (F : Nat → World → Prop) (i : Nat) (o : Oper) (a : Act) (V : Value → Prop) (R : Value → World → Prop) : Prop :=
  (Region.wanted o (yielded ops a.tmps) = true ∧ (∀ u, Stb Le (R u)) ∧ ∀ p p', tr cs i p p' → ∀ w, C p w → (∀ e ∈ o.after, Region.binds md e = true → F e.on w) → yUpon P Le S SV (C p') w V R ((execOp a.eval o).run P w)) ∨
  (Region.wanted o (yielded ops a.tmps) = false ∧ (∀ p p', tr cs i p p' → ∀ w, C p w → C p' w) ∧ V = (fun u => u = undef) ∧ R = fun _ _ => True)
theorem Gives.stb {F : Nat → World → Prop} {i : Nat} {o : Oper} {a : Act} {V : Value → Prop} {R : Value → World → Prop} (h : Gives P md ops Le S SV C cs F i o a V R) (u : Value) : Stb Le (R u) := by
  rcases h with h | h
  · exact h.2.1 u
  · rw [h.2.2.2]; exact fun _ _ _ _ => trivial
theorem Gives.mono {F F' : Nat → World → Prop} {i : Nat} {o : Oper} {a : Act} {V : Value → Prop} {R : Value → World → Prop} (h : Gives P md ops Le S SV C cs F i o a V R) (hF : ∀ k w, F' k w → F k w) : Gives P md ops Le S SV C cs F' i o a V R := by
  rcases h with h | h
  · exact .inl ⟨h.1, h.2.1, fun p p' ht w hw hp => h.2.2 p p' ht w hw fun e he hb => hF _ _ (hp e he hb)⟩
  · exact .inr h
theorem Gives.put {F : Nat → World → Prop} {i : Nat} {oi oj : Oper} {u : Value} {a : Act} {V : Value → Prop} {R : Value → World → Prop} (h : Gives P md ops Le S SV C cs F i oi a V R) (hap : oi.apart ops oj = true) (hsi : ∀ cs b, oi.op ≠ .select cs b) : Gives P md ops Le S SV C cs F i oi (a.put oj.dst u) V R := by
  obtain ⟨h1, h2, h3⟩ := Oper.apart_spec hap
  unfold Gives at *
  rw [execOp_put oi hsi a oj.dst u h3, wanted_put oi a oj.dst u h3]
  exact h
theorem Gives.unput {F : Nat → World → Prop} {j : Nat} {oi oj : Oper} {v : Value} {a : Act} {V : Value → Prop} {R : Value → World → Prop} (h : Gives P md ops Le S SV C cs F j oj (a.put oi.dst v) V R) (hap : oi.apart ops oj = true) (hsj : ∀ cs b, oj.op ≠ .select cs b) : Gives P md ops Le S SV C cs F j oj a V R := by
  obtain ⟨h1, h2, h3⟩ := Oper.apart_spec hap
  unfold Gives at *
  rw [execOp_put oj hsj a oi.dst v h1, wanted_put oj a oi.dst v h1] at h
  exact h
theorem Gives.facts {F F' : Nat → World → Prop} {i : Nat} {o : Oper} {a : Act} {V : Value → Prop} {R : Value → World → Prop} (h : Gives P md ops Le S SV C cs F i o a V R) (hF : ∀ e ∈ o.after, Region.binds md e = true → F' e.on = F e.on) : Gives P md ops Le S SV C cs F' i o a V R := by
  rcases h with h | h
  · exact .inl ⟨h.1, h.2.1, fun p p' ht w hw hp => h.2.2 p p' ht w hw fun e he hb => by rw [← hF e he hb]; exact hp e he hb⟩
  · exact .inr h
/-- What holds of an operation whatever another one has yielded. -/
theorem Gives.all {F : Nat → World → Prop} {i : Nat} {o : Oper} {a : Act} {V0 : Value → Prop} {Vc : Value → Value → Prop} {Rc : Value → Value → World → Prop} (u0 : Value) (h0 : V0 u0) (h : ∀ u, V0 u → Gives P md ops Le S SV C cs F i o a (Vc u) (Rc u)) :
    Gives P md ops Le S SV C cs F i o a (fun v => ∀ u, V0 u → Vc u v) (fun v w => ∀ u, V0 u → Rc u v w) := by
  cases hwt : Region.wanted o (yielded ops a.tmps) with
  | true =>
    have hl : ∀ u, V0 u → (∀ v, Stb Le (Rc u v)) ∧ ∀ p p', tr cs i p p' → ∀ w, C p w → (∀ e ∈ o.after, Region.binds md e = true → F e.on w) → yUpon P Le S SV (C p') w (Vc u) (Rc u) ((execOp a.eval o).run P w) := fun u hu => by
      rcases h u hu with h1 | h1
      · exact h1.2
      · rw [hwt] at h1; exact absurd h1.1 (by decide)
    refine .inl ⟨hwt, fun v w w' hr hb u hu => (hl u hu).1 v w w' (hr u hu) hb, fun p p' ht w hw hp => ?_⟩
    have hx := fun u hu => (hl u hu).2 p p' ht w hw hp
    generalize (execOp a.eval o).run P w = r at hx
    cases r with
    | ok nx w' =>
      have h1 := hx u0 h0
      cases nx <;> simp only [yUpon] at h1 hx ⊢
      case value x => exact ⟨h1.1, h1.2.1, fun u hu => (hx u hu).2.2.1, fun u hu => (hx u hu).2.2.2⟩
      case enter f args =>
        refine ⟨h1.1, ?_, ?_, h1.2.2.2⟩
        · funext v
          refine propext ⟨fun hh => ?_, fun hh u hu => ?_⟩
          · have := hh u0 h0; rw [h1.2.1] at this; exact this
          · rw [(hx u hu).2.1]; exact hh
        · funext v w
          refine propext ⟨fun hh => ?_, fun hh u hu => ?_⟩
          · have := hh u0 h0; rw [h1.2.2.1] at this; exact this
          · rw [(hx u hu).2.2.1]; exact hh
    | halt x w' => exact absurd (hx u0 h0) (by simp only [yUpon]; exact id)
  | false =>
    have hl : ∀ u, V0 u → (∀ p p', tr cs i p p' → ∀ w, C p w → C p' w) ∧ Vc u = (fun v => v = undef) ∧ Rc u = fun _ _ => True := fun u hu => by
      rcases h u hu with h1 | h1
      · rw [hwt] at h1; exact absurd h1.1 (by decide)
      · exact h1.2
    refine .inr ⟨hwt, (hl u0 h0).1, ?_, ?_⟩
    · funext v
      refine propext ⟨fun hh => ?_, fun hh u hu => ?_⟩
      · have := hh u0 h0; rw [(hl u0 h0).2.1] at this; exact this
      · rw [(hl u hu).2.1]; exact hh
    · funext v w
      refine propext ⟨fun _ => trivial, fun _ u hu => ?_⟩
      rw [(hl u hu).2.2]; trivial

def opY (P : Program) (md : Region.Mode) (ops : Array Oper) (Le : World → World → Prop) (S : FuncId → Array Value → Value → World → Prop) (SV : FuncId → Array Value → Value → Prop) (C : Nat → World → Prop) (cs : List Nat) (i : Nat) (K : Act → (Nat → World → Prop) → Prop) (a : Act) (F : Nat → World → Prop) : Prop :=
  ∃ o, ops[i]? = some o ∧ ∃ V R, Gives P md ops Le S SV C cs F i o a V R ∧ ∀ u, V u → K (a.put o.dst u) (up F i (R u))
def anyY (P : Program) (md : Region.Mode) (ops : Array Oper) (Le : World → World → Prop) (S : FuncId → Array Value → Value → World → Prop) (SV : FuncId → Array Value → Value → Prop) (C : Nat → World → Prop) (cs : List Nat) (n : Nat) (L : Array Bool → Act → (Nat → World → Prop) → Prop) : Nat → Array Bool → Act → (Nat → World → Prop) → Prop
  | 0, listed, a, F => L listed a F
  | f + 1, listed, a, F => Region.ready md ops listed ≠ [] ∧ ∀ i ∈ Region.ready md ops listed, i < n ∧ opY P md ops Le S SV C cs i (fun a' F' => anyY P md ops Le S SV C cs n L f (listed.setIfInBounds i true) a' F') a F
theorem up_mono {F F' : Nat → World → Prop} (hF : ∀ k w, F' k w → F k w) (i : Nat) (R : World → Prop) : ∀ k w, up F' i R k w → up F i R k w := by
  intro k w h
  by_cases hk : k = i
  · subst hk; rw [up_same] at h ⊢; exact h
  · rw [up_ne _ _ hk] at h ⊢; exact hF k w h
theorem anyY_mono {n : Nat} {L : Array Bool → Act → (Nat → World → Prop) → Prop} (hL : ∀ listed a F F', (∀ k w, F' k w → F k w) → L listed a F → L listed a F') :
    ∀ (f : Nat) (listed : Array Bool) (a : Act) (F F' : Nat → World → Prop), (∀ k w, F' k w → F k w) → anyY P md ops Le S SV C cs n L f listed a F → anyY P md ops Le S SV C cs n L f listed a F'
  | 0, listed, a, F, F', hF, h => hL _ _ _ _ hF h
  | f + 1, listed, a, F, F', hF, h => ⟨h.1, fun i hi => ⟨(h.2 i hi).1, by
    obtain ⟨o, ho, V, R, hg, hk⟩ := (h.2 i hi).2
    exact ⟨o, ho, V, R, hg.mono hF, fun u hu => anyY_mono hL f _ _ _ _ (up_mono hF i (R u)) (hk u hu)⟩⟩⟩
theorem up_stb {F : Nat → World → Prop} (hF : ∀ k, Stb Le (F k)) {i : Nat} {R : World → Prop} (hR : Stb Le R) : ∀ k, Stb Le (up F i R k) := by
  intro k
  by_cases hk : k = i
  · subst hk; rw [up_same]; exact hR
  · rw [up_ne _ _ hk]; exact hF k
theorem up_all {F : Nat → World → Prop} {i : Nat} {R : World → Prop} {w : World} (hF : ∀ k, F k w) (hR : R w) : ∀ k, up F i R k w := by
  intro k
  by_cases hk : k = i
  · subst hk; rw [up_same]; exact hR
  · rw [up_ne _ _ hk]; exact hF k
theorem any_of_Y (hcs : chainedB md ops cs = true) {n g : Nat} {L : Array Bool → Act → (Nat → World → Prop) → Prop} {Q' : Exit → Act → World → Prop}
    (hL : ∀ listed a F w, C (ph cs listed) w → (∀ k, F k w) → L listed a F → wpAny P md ops Q' g listed a w) :
    ∀ (f : Nat) (listed : Array Bool) (a : Act) (F : Nat → World → Prop) (w : World), HeadInv md ops n listed → (∀ k, Stb Le (F k)) → C (ph cs listed) w → (∀ k, F k w) → anyY P md ops Le S SV C cs n L f listed a F → wpAny P md ops Q' (f + g) listed a w
  | 0, listed, a, F, w, _, hF, hw, hk, h => by rw [Nat.zero_add]; exact hL _ _ _ _ hw hk h
  | f + 1, listed, a, F, w, inv, hF, hw, hk, h => by
    rw [show f + 1 + g = (f + g) + 1 by omega]
    refine ⟨fun h0 => absurd h0 h.1, fun i hi => ?_⟩
    obtain ⟨hin, o, ho, V, R, hg, hK⟩ := h.2 i hi
    have ht := ph_at inv hi hcs
    unfold wpOp
    simp only [ho]
    have next : ∀ u w', (∀ k, F k w') → C (ph cs (listed.setIfInBounds i true)) w' → V u → R u w' → wpAny P md ops Q' (f + g) (listed.setIfInBounds i true) (a.put o.dst u) w' := fun u w' hk' hc hv hr =>
      any_of_Y hcs hL f _ _ _ w' (inv.set hi hin) (up_stb hF (hg.stb u)) hc (up_all hk' hr) (hK u hv)
    rcases hg with ⟨hwt, _, hx⟩ | ⟨hwt, hx, hV, hR⟩
    · simp only [hwt, if_true]
      refine .inl ?_
      have h3 := hx _ _ ht w hw fun e _ _ => hk _
      unfold Oper.wp
      generalize (execOp a.eval o).run P w = r at h3
      cases r with
      | ok nx w' =>
        cases nx <;> simp only [yUpon] at h3 <;> simp only [Oper.upon]
        case value u => exact next u w' (fun k => hF k _ _ (hk k) h3.1) h3.2.1 h3.2.2.1 h3.2.2.2
        case enter fn args =>
          obtain ⟨e1, e2, e3, hc⟩ := h3
          rw [e1]
          exact hc.mono fun e w'' ⟨u, he, hb, hc', hv, hs⟩ => by subst he; exact next u w'' (fun k => hF k _ _ (hk k) hb) hc' (by rw [e2]; exact hv) (by rw [e3]; exact hs)
      | halt x w' => simp only [yUpon] at h3
    · simp only [hwt, Bool.false_eq_true, if_false]
      exact next undef w hk (hx _ _ ht w hw) (by rw [hV]) (by rw [hR]; trivial)

/-- An operation that may come up may be taken first. -/
theorem anyY_first {n i : Nat} {oi : Oper} {L : Array Bool → Act → (Nat → World → Prop) → Prop} (hi : ops[i]? = some oi) (hsel : ∀ (j : Nat) (o : Oper) cs b, ops[j]? = some o → o.op ≠ .select cs b)
    (hlt : ∀ listed, HeadInv md ops n listed → listed.getD i true = false → ∀ j ∈ Region.ready md ops listed, j < n) (hin : i < n)
    (hL : ∀ listed a F F', (∀ k w, F' k w → F k w) → L listed a F → L listed a F')
    (hdone : ∀ listed a F, L listed a F → ∀ j ∈ Region.ready md ops listed, n ≤ j) :
    ∀ (f : Nat) (listed : Array Bool) (a : Act) (F : Nat → World → Prop) (V : Value → Prop) (R : Value → World → Prop) (u0 : Value), V u0 → HeadInv md ops n listed →
      (∀ j oj, ops[j]? = some oj → j ≠ i → listed.getD j true = false → (∀ e ∈ oj.after, Region.binds md e = true → e.on ≠ i) → oi.apart ops oj = true) →
      i ∈ Region.ready md ops listed → Gives P md ops Le S SV C cs F i oi a V R →
      (∀ u, V u → anyY P md ops Le S SV C cs n L f (listed.setIfInBounds i true) (a.put oi.dst u) (up F i (R u))) → anyY P md ops Le S SV C cs n L (f + 1) listed a F := by
  classical
  intro f
  induction f with
  | zero =>
    intro listed a F V R u0 h0 inv _ hr hy H
    have hun := (mem_ready.1 hr).1
    refine ⟨fun h => (by rw [h] at hr; cases hr), fun j hj => ?_⟩
    have hjn := hlt listed inv hun j hj
    refine ⟨hjn, ?_⟩
    by_cases hji : j = i
    · subst hji; exact ⟨oi, hi, V, R, hy, H⟩
    · have := hdone _ _ _ (H u0 h0) j (ready_mono hj hji)
      omega
  | succ f ih =>
    intro listed a F V R u0 h0 inv hfree hr hy H
    have hun := (mem_ready.1 hr).1
    refine ⟨fun h => (by rw [h] at hr; cases hr), fun j hj => ?_⟩
    have hjn := hlt listed inv hun j hj
    refine ⟨hjn, ?_⟩
    by_cases hji : j = i
    · subst hji; exact ⟨oi, hi, V, R, hy, H⟩
    · obtain ⟨hjun, oj, hoj, hall⟩ := mem_ready.1 hj
      obtain ⟨_, oi', hoi', halli⟩ := mem_ready.1 hr
      obtain rfl : oi' = oi := Option.some.inj (hoi'.symm.trans hi)
      have hnot : ∀ e ∈ oj.after, Region.binds md e = true → e.on ≠ i := fun e he hb heq => by
        have h1 := hall e he hb
        rw [heq, getD_both hun] at h1
        cases h1
      have hnoti : ∀ e ∈ oi'.after, Region.binds md e = true → e.on ≠ j := fun e he hb heq => by
        have h1 := halli e he hb
        rw [heq, getD_both hjun] at h1
        cases h1
      have hap := hfree j oj hoj hji hjun hnot
      have hsi : ∀ cs b, oi'.op ≠ .select cs b := fun cs b => hsel i oi' cs b hi
      have hsj : ∀ cs b, oj.op ≠ .select cs b := fun cs b => hsel j oj cs b hoj
      have hfree' : ∀ k ok, ops[k]? = some ok → k ≠ i → (listed.setIfInBounds j true).getD k true = false →
          (∀ e ∈ ok.after, Region.binds md e = true → e.on ≠ i) → oi'.apart ops ok = true := fun k ok hk hki hun' hno => by
        refine hfree k ok hk hki ?_ hno
        by_cases hjk : j = k
        · subst hjk; exact hjun
        · rw [getD_set_ne true hjk] at hun'; exact hun'
      have hd := (Oper.apart_spec hap).2.1
      have hc : ∀ u, V u → ∃ (Vj : Value → Prop) (Rj : Value → World → Prop), Gives P md ops Le S SV C cs F j oj a Vj Rj ∧ ∀ v, Vj v → anyY P md ops Le S SV C cs n L f ((listed.setIfInBounds i true).setIfInBounds j true) ((a.put oi'.dst u).put oj.dst v) (up (up F i (R u)) j (Rj v)) := by
        intro u hu
        obtain ⟨oj', hoj', Vj, Rj, hg, hk⟩ := ((H u hu).2 j (ready_mono hj hji)).2
        obtain rfl : oj' = oj := Option.some.inj (hoj'.symm.trans hoj)
        exact ⟨Vj, Rj, (hg.unput hap hsj).facts fun e he hb => (up_ne _ _ (hnot e he hb)).symm, hk⟩
      let Vc : Value → Value → Prop := fun u => if hu : V u then Classical.choose (hc u hu) else fun _ => True
      let Rc : Value → Value → World → Prop := fun u => if hu : V u then Classical.choose (Classical.choose_spec (hc u hu)) else fun _ _ => True
      have hRc : ∀ u (hu : V u), Gives P md ops Le S SV C cs F j oj a (Vc u) (Rc u) ∧ ∀ v, Vc u v → anyY P md ops Le S SV C cs n L f ((listed.setIfInBounds i true).setIfInBounds j true) ((a.put oi'.dst u).put oj.dst v) (up (up F i (R u)) j (Rc u v)) := by
        intro u hu
        have := Classical.choose_spec (Classical.choose_spec (hc u hu))
        simp only [Vc, Rc, dif_pos hu]
        exact this
      have hG := Gives.all (V0 := V) u0 h0 fun u hu => (hRc u hu).1
      refine ⟨oj, hoj, _, _, hG, fun v hv => ?_⟩
      refine ih (listed.setIfInBounds j true) (a.put oj.dst v) _ V R u0 h0 (inv.set hj hjn) hfree' (ready_mono hr (Ne.symm hji)) ((hy.put hap hsi).facts fun e he hb => up_ne _ _ (hnoti e he hb)) ?_
      intro u hu
      have hk := (hRc u hu).2 v (hv u hu)
      rw [Array.setIfInBounds_comm _ _ hji, ← Act.put_comm a u v hd]
      refine anyY_mono hL f _ _ _ _ ?_ hk
      intro k w' hh
      by_cases hki : k = i
      · subst hki
        rw [up_same] at hh
        rw [up_ne _ _ (Ne.symm hji), up_same]
        exact hh
      · rw [up_ne _ _ hki] at hh
        by_cases hkj : k = j
        · subst hkj
          rw [up_same] at hh ⊢
          exact hh u hu
        · rw [up_ne _ _ hkj] at hh
          rw [up_ne _ _ hkj, up_ne _ _ hki]
          exact hh

/-! ### the walk in the text's order -/
def wpY (P : Program) (md : Region.Mode) (ops : Array Oper) (Le : World → World → Prop) (S : FuncId → Array Value → Value → World → Prop) (SV : FuncId → Array Value → Value → Prop) (C : Nat → World → Prop) (cs : List Nat) (Q : Act → (Nat → World → Prop) → Prop) : Nat → List Oper → Act → (Nat → World → Prop) → Prop
  | _, [], a, F => Q a F
  | k, o :: rest, a, F => ∃ V R, (∃ u, V u) ∧ Gives P md ops Le S SV C cs F k o a V R ∧ ∀ u, V u → wpY P md ops Le S SV C cs Q (k + 1) rest (a.put o.dst u) (up F k (R u))
theorem anyY_lex {n g : Nat} {Lq : Act → (Nat → World → Prop) → Prop} (hLq : ∀ a F F', (∀ k w, F' k w → F k w) → Lq a F → Lq a F') (hsel : Region.noSelect ops = true)
    (hlt : ∀ i, i < n → ∀ listed, HeadInv md ops n listed → listed.getD i true = false → ∀ j ∈ Region.ready md ops listed, j < n) :
    ∀ (l : List Oper) (k : Nat) (listed : Array Bool) (a : Act) (F : Nat → World → Prop), (∀ j, j < l.length → l[j]? = ops[k + j]?) → k + l.length = n → HeadInv md ops n listed → (∀ j, j < k → listed.getD j false = true) →
    Region.lexHead md ops g l.length k listed = true → wpY P md ops Le S SV C cs Lq k l a F →
    anyY P md ops Le S SV C cs n (fun listed' a' F' => Region.seqB md ops g n listed' = true ∧ (∀ j, j < n → listed'.getD j false = true) ∧ Lq a' F') l.length listed a F
  | [], k, listed, a, F, _, hk, _, hd, hB, h => by
    have : k = n := by simpa using hk
    subst this
    exact ⟨by simpa [Region.lexHead] using hB, hd, h⟩
  | o :: l, k, listed, a, F, hl, hk, inv, hd, hB, h => by
    have h0 : ops[k]? = some o := by simpa using (hl 0 (by simp)).symm
    simp only [List.length_cons, Region.lexHead, Bool.and_eq_true] at hB
    obtain ⟨⟨hr, hf⟩, hB'⟩ := hB
    have hkn : k < n := by simp only [List.length_cons] at hk; omega
    have hr' : k ∈ Region.ready md ops listed := by simpa using hr
    obtain ⟨V, R, ⟨u0, hu0⟩, hg, hK⟩ := h
    have hks : k < listed.size := by rw [inv.size]; exact (Array.getElem?_eq_some_iff.1 h0).1
    refine anyY_first h0 (Region.noSelect_spec hsel) (hlt k hkn) hkn (fun listed a F F' hF h => ⟨h.1, h.2.1, hLq _ _ _ hF h.2.2⟩) (fun listed' a' F' hL => seqB_ready hL.1) l.length listed a F V R u0 hu0 inv (Region.free_spec h0 hf) hr' hg ?_
    intro u hu
    refine anyY_lex hLq hsel hlt l (k + 1) _ _ _ (fun j hj => by have := hl (j + 1) (by simp; omega); simpa [Nat.add_assoc, Nat.add_comm 1 j] using this) (by simp only [List.length_cons] at hk; omega) (inv.set hr' hkn) (fun j hj => ?_) hB' (hK u hu)
    by_cases hjk : k = j
    · subst hjk; exact getD_set_at hks
    · rw [getD_set_ne false hjk]; exact hd j (by omega)
def headB (ops : Array Oper) (n : Nat) (cs : List Nat) : Bool := Region.lexTailB .any ops n && chainedB .any ops cs && cs.all (fun c => decide (c < n))
/-- **The head in the text's order; then the tail.** -/
theorem wp_region_tail {id : Nat} {Q : Exit → Act → World → Prop} {a : Act} {w : World} {l : List Oper} (Le : World → World → Prop) (S : FuncId → Array Value → Value → World → Prop) (SV : FuncId → Array Value → Value → Prop) (C : Nat → World → Prop) (cs : List Nat) (n : Nat) (hm : P.follows .mixedOrders = true) (hB : headB l.toArray n cs = true)
    (hw : C 0 w.drew) (h : wpY P .any l.toArray Le S SV C cs (fun a' F => ∀ w', C cs.length w' → (∀ k, F k w') → wpList P l.toArray Q (l.drop n) a' w') 0 (l.take n) a (fun _ _ => True)) : (Code.region id l.toArray true).wp P Q a w := by
  simp only [headB, Bool.and_eq_true] at hB
  obtain ⟨⟨hB, hch⟩, hlc⟩ := hB
  have hlc' : ∀ c ∈ cs, c < n := fun c hc => by have := List.all_eq_true.1 hlc c hc; simpa using this
  simp only [Region.lexTailB, Bool.and_eq_true, decide_eq_true_eq] at hB
  obtain ⟨⟨⟨⟨hsel, hn⟩, hs⟩, hc⟩, hlex⟩ := hB
  have hn' : n < l.length := by simpa using hn
  have htl : (l.take n).length = n := by simp; omega
  have hdl : (l.drop n).length = l.toArray.size - n := by simp
  have inv0 : HeadInv .any l.toArray n (Array.replicate l.toArray.size false) :=
    ⟨by simp, fun j oj _ hl => (by rw [getD_replicate_false] at hl; cases hl), fun t _ ht => getD_in (by simpa using ht) (getD_replicate_false _ _)⟩
  have H := anyY_lex (md := .any) (g := l.toArray.size - n) (Lq := fun a' F => ∀ w', C cs.length w' → (∀ k, F k w') → wpList P l.toArray Q (l.drop n) a' w') (fun a F F' hF h w' h1 h2 => h w' h1 fun k => hF k _ (h2 k)) hsel
    (fun i hin listed inv hun j hj => (Nat.lt_or_ge j n).resolve_right fun h => absurd hj (tail_waits hs hc hn inv _ i rfl hin hun j h)) (l.take n) 0 _ a (fun _ _ => True) (fun j hj => by
      have hj' : j < n := by rw [htl] at hj; exact hj
      simp [hj']) (by simpa using htl) inv0 (fun j hj => by omega) (by rw [htl]; exact hlex) h
  refine wp_region_any hm ?_
  have := any_of_Y (Q' := Q) (g := l.toArray.size - n) hch (fun listed a' F w' hw' hk hL => by
    have hw2 : C cs.length w' := by rwa [ph_all fun c hc => hL.2.1 c (hlc' c hc)] at hw'
    have := wpAny_of_seq (md := .any) (Q' := Q) (l.drop n) n listed a' w' (fun j => by simp [List.getElem?_drop]) (by rw [hdl]; exact hL.1) (hL.2.2 w' hw2 hk)
    rwa [hdl] at this) _ _ _ _ _ inv0 (fun _ _ _ _ _ => trivial) (by rw [ph_none fun c => getD_replicate_false _ _]; exact hw) (fun _ => trivial) H
  rw [htl, show n + (l.toArray.size - n) = l.toArray.size by omega] at this
  exact this
def allB (ops : Array Oper) (cs : List Nat) : Bool := Region.noSelect ops && Region.lexHead .any ops 0 ops.size 0 (Array.replicate ops.size false) && chainedB .any ops cs && cs.all (fun c => decide (c < ops.size))
/-- A region that has no tail. -/
theorem wp_region_all {id : Nat} {Q : Exit → Act → World → Prop} {a : Act} {w : World} {l : List Oper} (Le : World → World → Prop) (S : FuncId → Array Value → Value → World → Prop) (SV : FuncId → Array Value → Value → Prop) (C : Nat → World → Prop) (cs : List Nat) (hm : P.follows .mixedOrders = true) (hB : allB l.toArray cs = true)
    (hw : C 0 w.drew) (h : wpY P .any l.toArray Le S SV C cs (fun a' F => ∀ w', C cs.length w' → (∀ k, F k w') → Q .normal a' w') 0 l a (fun _ _ => True)) : (Code.region id l.toArray true).wp P Q a w := by
  simp only [allB, Bool.and_eq_true] at hB
  obtain ⟨⟨⟨hsel, hlex⟩, hch⟩, hlc⟩ := hB
  have hlc' : ∀ c ∈ cs, c < l.toArray.size := fun c hc => by have := List.all_eq_true.1 hlc c hc; simpa using this
  have inv0 : HeadInv .any l.toArray l.toArray.size (Array.replicate l.toArray.size false) :=
    ⟨by simp, fun j oj _ hl => (by rw [getD_replicate_false] at hl; cases hl), fun t h1 h2 => by omega⟩
  have H := anyY_lex (md := .any) (g := 0) (Lq := fun a' F => ∀ w', C cs.length w' → (∀ k, F k w') → Q .normal a' w') (fun a F F' hF h w' h1 h2 => h w' h1 fun k => hF k _ (h2 k)) hsel
    (fun i hin listed inv hun j hj => by
      obtain ⟨_, oj, hoj, _⟩ := mem_ready.1 hj
      exact (Array.getElem?_eq_some_iff.1 hoj).1) l 0 _ a (fun _ _ => True) (fun j hj => by simp) (by simp) inv0 (fun j hj => by omega) (by simpa using hlex) h
  refine wp_region_any hm ?_
  have := any_of_Y (Q' := Q) (g := 0) hch (fun listed a' F w' hw' hk hL => by
    have hw2 : C cs.length w' := by rwa [ph_all fun c hc => hL.2.1 c (hlc' c hc)] at hw'
    refine ⟨?_, hL.2.2 w' hw2 hk⟩
    simpa [Region.seqB] using hL.1) _ _ _ _ _ inv0 (fun _ _ _ _ _ => trivial) (by rw [ph_none fun c => getD_replicate_false _ _]; exact hw) (fun _ => trivial) H
  rw [Nat.add_zero] at this
  simpa using this

/-! ### one operation -/
variable {Q : Act → (Nat → World → Prop) → Prop} {F : Nat → World → Prop} {a : Act} {o : Oper} {rest : List Oper} {k : Nat}
theorem wpY_mono (hQ : ∀ a F F', (∀ k w, F' k w → F k w) → Q a F → Q a F') : ∀ (l : List Oper) (k : Nat) (a : Act) (F F' : Nat → World → Prop), (∀ k w, F' k w → F k w) → wpY P md ops Le S SV C cs Q k l a F → wpY P md ops Le S SV C cs Q k l a F'
  | [], _, _, _, _, hF, h => hQ _ _ _ hF h
  | o :: l, k, a, F, F', hF, h => by
    obtain ⟨V, R, hi, hg, hk⟩ := h
    exact ⟨V, R, hi, hg.mono hF, fun u hu => wpY_mono hQ l (k + 1) _ _ _ (up_mono hF k (R u)) (hk u hu)⟩
/-- The walk's post, as the two theorems have it. -/
structure Mon (Q : Act → (Nat → World → Prop) → Prop) : Prop where mk ::
  out : ∀ a F F', (∀ k w, F' k w → F k w) → Q a F → Q a F'
theorem y_nil (h : Q a F) : wpY P md ops Le S SV C cs Q k [] a F := h
theorem wanted_none (h : o.guard = none) : Region.wanted o (yielded ops a.tmps) = true := by simp [Region.wanted, h]
/-- What operation i has told, to one that waits for it. -/
theorem fact {w : World} (hp : ∀ e ∈ o.after, Region.binds md e = true → F e.on w) (i : Nat) (h : (o.after.toList.any fun e => e.on == i && Region.binds md e) = true) : F i w := by
  obtain ⟨e, he, h2⟩ := List.any_eq_true.1 h
  simp only [Bool.and_eq_true, beq_iff_eq] at h2
  have := hp e (by simpa using he) h2.2
  rwa [h2.1] at this
def offB (cs : List Nat) (k : Nat) : Bool := !(cs.contains k)
theorem tr_off {i p p' : Nat} (h : offB cs i = true) (ht : tr cs i p p') : p' = p := by
  rcases ht with ⟨_, h2⟩ | ⟨h1, _⟩
  · exact h2
  · have : i ∈ cs := List.mem_of_getElem? h1
    simp [offB] at h
    exact absurd this h
def onB (cs : List Nat) (k q : Nat) : Bool := cs.contains k && (List.range cs.length).all fun p => p == q || cs[p]? != some k
theorem tr_on {i p p' q : Nat} (h : onB cs i q = true) (ht : tr cs i p p') : p = q ∧ p' = q + 1 := by
  simp only [onB, Bool.and_eq_true] at h
  rcases ht with ⟨h1, _⟩ | ⟨h1, h2⟩
  · have := h.1; simp at this; exact absurd this h1
  · have hp : p < cs.length := (List.getElem?_eq_some_iff.1 h1).1
    have := List.all_eq_true.1 h.2 p (List.mem_range.2 hp)
    simp [h1] at this
    subst this
    exact ⟨rfl, h2⟩
/-- One value, found by running it. -/
theorem y_val (hQ : Mon Q) (hrefl : ∀ w, Le w w) (hFk : ∀ w, F k w) (hoff : offB cs k = true) (hw : Region.wanted o (yielded ops a.tmps) = true)
    (h : ∃ v, (∀ p w, C p w → (∀ e ∈ o.after, Region.binds md e = true → F e.on w) → (execOp a.eval o).run P w = .ok (.value v) w) ∧ ∀ K : Act → Prop, (∀ a, wpY P md ops Le S SV C cs Q (k + 1) rest a F → K a) → K (a.put o.dst v)) : wpY P md ops Le S SV C cs Q k (o :: rest) a F := by
  obtain ⟨v, hr, h⟩ := h
  refine ⟨fun u => u = v, fun _ _ => True, ⟨v, rfl⟩, .inl ⟨hw, fun _ _ _ _ _ => trivial, fun p p' ht w hc hp => ?_⟩, ?_⟩
  · rw [hr p w hc hp, tr_off hoff ht]
    exact ⟨hrefl w, hc, rfl, trivial⟩
  · rintro u rfl
    exact h _ fun a hh => wpY_mono hQ.out rest (k + 1) a F _ (fun j w' hj => by
      by_cases hjk : j = k
      · subst hjk; exact hFk w'
      · rwa [up_ne _ _ hjk] at hj) hh
/-- One value at an operation of cs: the class q is turned as it is. -/
theorem y_pass (q : Nat) (hQ : Mon Q) (hrefl : ∀ w, Le w w) (hFk : ∀ w, F k w) (hon : onB cs k q = true) (hw : Region.wanted o (yielded ops a.tmps) = true) (hC : ∀ w, C q w → C (q + 1) w)
    (h : ∃ v, (∀ w, C q w → (∀ e ∈ o.after, Region.binds md e = true → F e.on w) → (execOp a.eval o).run P w = .ok (.value v) w) ∧ ∀ K : Act → Prop, (∀ a, wpY P md ops Le S SV C cs Q (k + 1) rest a F → K a) → K (a.put o.dst v)) : wpY P md ops Le S SV C cs Q k (o :: rest) a F := by
  obtain ⟨v, hr, h⟩ := h
  refine ⟨fun u => u = v, fun _ _ => True, ⟨v, rfl⟩, .inl ⟨hw, fun _ _ _ _ _ => trivial, fun p p' ht w hc hp => ?_⟩, ?_⟩
  · obtain ⟨rfl, rfl⟩ := tr_on hon ht
    rw [hr w hc hp]
    exact ⟨hrefl w, hC w hc, rfl, trivial⟩
  · rintro u rfl
    exact h _ fun a hh => wpY_mono hQ.out rest (k + 1) a F _ (fun j w' hj => by
      by_cases hjk : j = k
      · subst hjk; exact hFk w'
      · rwa [up_ne _ _ hjk] at hj) hh
theorem y_skip (hQ : Mon Q) (hFk : ∀ w, F k w) (hoff : offB cs k = true) (hw : Region.wanted o (yielded ops a.tmps) = false)
    (h : ∀ K : Act → Prop, (∀ a, wpY P md ops Le S SV C cs Q (k + 1) rest a F → K a) → K (a.put o.dst undef)) : wpY P md ops Le S SV C cs Q k (o :: rest) a F := by
  refine ⟨fun u => u = undef, fun _ _ => True, ⟨undef, rfl⟩, .inr ⟨hw, fun p p' ht w hc => by rw [tr_off hoff ht]; exact hc, rfl, rfl⟩, ?_⟩
  rintro u rfl
  exact h _ fun a hh => wpY_mono hQ.out rest (k + 1) a F _ (fun j w' hj => by
    by_cases hjk : j = k
    · subst hjk; exact hFk w'
    · rwa [up_ne _ _ hjk] at hj) hh
/-- A call whose result S tells. -/
theorem y_call (hoff : offB cs k = true) (hw : Region.wanted o (yielded ops a.tmps) = true)
    (h : ∃ f args, (∀ w, (execOp a.eval o).run P w = .ok (.enter f args) w) ∧ (∃ u, SV f args u) ∧ (∀ u, Stb Le (S f args u)) ∧
      (∀ p w, C p w → (∀ e ∈ o.after, Region.binds md e = true → F e.on w) → Calls P f args w (fun e w'' => ∃ u, e = .returned u ∧ Le w w'' ∧ C p w'' ∧ SV f args u ∧ S f args u w'')) ∧
      ∀ u, SV f args u → ∀ K : Act → Prop, (∀ a, wpY P md ops Le S SV C cs Q (k + 1) rest a (up F k (S f args u)) → K a) → K (a.put o.dst u)) : wpY P md ops Le S SV C cs Q k (o :: rest) a F := by
  obtain ⟨f, args, hr, hi, hs, hc, h⟩ := h
  exact ⟨SV f args, S f args, hi, .inl ⟨hw, hs, fun p p' ht w hw hp => by rw [hr w, tr_off hoff ht]; exact ⟨rfl, rfl, rfl, hc p w hw hp⟩⟩, fun u hu => h u hu _ fun a hh => hh⟩
/-- The call that turns the class q. -/
theorem y_turn (q : Nat) (hon : onB cs k q = true) (hw : Region.wanted o (yielded ops a.tmps) = true)
    (h : ∃ f args, (∀ w, (execOp a.eval o).run P w = .ok (.enter f args) w) ∧ (∃ u, SV f args u) ∧ (∀ u, Stb Le (S f args u)) ∧
      (∀ w, C q w → (∀ e ∈ o.after, Region.binds md e = true → F e.on w) → Calls P f args w (fun e w'' => ∃ u, e = .returned u ∧ Le w w'' ∧ C (q + 1) w'' ∧ SV f args u ∧ S f args u w'')) ∧
      ∀ u, SV f args u → ∀ K : Act → Prop, (∀ a, wpY P md ops Le S SV C cs Q (k + 1) rest a (up F k (S f args u)) → K a) → K (a.put o.dst u)) : wpY P md ops Le S SV C cs Q k (o :: rest) a F := by
  obtain ⟨f, args, hr, hi, hs, hc, h⟩ := h
  exact ⟨SV f args, S f args, hi, .inl ⟨hw, hs, fun p p' ht w hw hp => by obtain ⟨rfl, rfl⟩ := tr_on hon ht; rw [hr w]; exact ⟨rfl, rfl, rfl, hc w hw hp⟩⟩, fun u hu => h u hu _ fun a hh => hh⟩
/-- The call that turns the class q is not made: the class is turned as it is. -/
theorem y_idle (q : Nat) (hQ : Mon Q) (hFk : ∀ w, F k w) (hon : onB cs k q = true) (hw : Region.wanted o (yielded ops a.tmps) = false) (hC : ∀ w, C q w → C (q + 1) w)
    (h : ∀ K : Act → Prop, (∀ a, wpY P md ops Le S SV C cs Q (k + 1) rest a F → K a) → K (a.put o.dst undef)) : wpY P md ops Le S SV C cs Q k (o :: rest) a F := by
  refine ⟨fun u => u = undef, fun _ _ => True, ⟨undef, rfl⟩, .inr ⟨hw, fun p p' ht w hc => by obtain ⟨rfl, rfl⟩ := tr_on hon ht; exact hC w hc, rfl, rfl⟩, ?_⟩
  rintro u rfl
  exact h _ fun a hh => wpY_mono hQ.out rest (k + 1) a F _ (fun j w' hj => by
    by_cases hjk : j = k
    · subst hjk; exact hFk w'
    · rwa [up_ne _ _ hjk] at hj) hh
/-- A new variable, or another operation that makes memory. -/
theorem y_new (V : Value → Prop) (R : Value → World → Prop) (hV : ∃ u, V u) (hs : ∀ u, Stb Le (R u)) (hoff : offB cs k = true) (hw : Region.wanted o (yielded ops a.tmps) = true)
    (h : (∀ p w, C p w → (∀ e ∈ o.after, Region.binds md e = true → F e.on w) → ∃ u w', (execOp a.eval o).run P w = .ok (.value u) w' ∧ Le w w' ∧ C p w' ∧ V u ∧ R u w') ∧
      ∀ u, V u → ∀ K : Act → Prop, (∀ a, wpY P md ops Le S SV C cs Q (k + 1) rest a (up F k (R u)) → K a) → K (a.put o.dst u)) : wpY P md ops Le S SV C cs Q k (o :: rest) a F :=
  ⟨V, R, hV, .inl ⟨hw, hs, fun p p' ht w hw hp => by obtain ⟨u, w', e, hb, hc, hv, hr⟩ := h.1 p w hw hp; rw [e, tr_off hoff ht]; exact ⟨hb, hc, hv, hr⟩⟩, fun u hu => h.2 u hu _ fun a hh => hh⟩
/-- A store that turns the class q. -/
theorem y_put (q : Nat) (v : Value) (hQ : Mon Q) (hFk : ∀ w, F k w) (hon : onB cs k q = true) (hw : Region.wanted o (yielded ops a.tmps) = true)
    (h : (∀ w, C q w → (∀ e ∈ o.after, Region.binds md e = true → F e.on w) → ∃ w', (execOp a.eval o).run P w = .ok (.value v) w' ∧ Le w w' ∧ C (q + 1) w') ∧
      ∀ K : Act → Prop, (∀ a, wpY P md ops Le S SV C cs Q (k + 1) rest a F → K a) → K (a.put o.dst v)) : wpY P md ops Le S SV C cs Q k (o :: rest) a F := by
  refine ⟨fun u => u = v, fun _ _ => True, ⟨v, rfl⟩, .inl ⟨hw, fun _ _ _ _ _ => trivial, fun p p' ht w hw hp => by obtain ⟨rfl, rfl⟩ := tr_on hon ht; obtain ⟨w', e, hb, hc⟩ := h.1 w hw hp; rw [e]; exact ⟨hb, hc, rfl, trivial⟩⟩, ?_⟩
  rintro u rfl
  exact h.2 _ fun a hh => wpY_mono hQ.out rest (k + 1) a F _ (fun j w' hj => by
    by_cases hjk : j = k
    · subst hjk; exact hFk w'
    · rwa [up_ne _ _ hjk] at hj) hh
end
end Go.Proofs.YtmilpfccgggmkaaDoor.Qy

/- Untying tuples that stand there. -/
namespace Go.Proofs.YtmilpfccgggmkaaDoor.Knt
open Go.RowKit Go.Proofs.YtmilpfccgggmkaaDoorW.PrintWords Go.Proofs.YtmilpfccgggmkaaDoor.Arr
set_option linter.unusedVariables false
set_option linter.unusedSimpArgs false

theorem front_len {l m : List UInt8} {a b c : ByteArray} (h : Front l a b c m) : m.length < l.length := by
  obtain ⟨l1, l2, h0, h1, h2⟩ := h
  have := textP_len h0
  have := textP_len h1
  have := textP_len h2
  omega
theorem only_upper {S : List Nat} {w w1 w2 : World} {B : Nat} (h : Only S w w1) (hb : Below B w1 w2) (hB : w.heap.size ≤ B) : Only S w w2 :=
  ⟨hb.os.trans h.os, hb.tape.trans h.tape, hb.output.trans h.output, Nat.le_trans h.size hb.size, fun k hk hn => (hb.block k (by omega)).trans (h.block k hk hn)⟩
def two {α : Type} (p : Nat) (x y : α) : α := match p with | 0 => x | _ => y
set_option maxHeartbeats 4000000 in
set_option maxRecDepth 100000 in
theorem ituple_ok (g : Nat) (l : List UInt8) (hl : l.length ≤ 140737488355328) (t i r a b c : ByteArray) (z : Bnd.Sz t i r a b c 9223372036854775807) (l1 m : List UInt8) (hF : Front l t i r l1) (hF2 : Front l1 a b c m) (hG : Bnd.tupGood t i r a b c = true)
    (w : World) (h : IBlk w g l false) (hT : ∀ w1, Only [g] w w1 → Gly.Tabs w1) :
    Calls Tryd.prog 28 #[.pointer (some ⟨g, 0, none⟩)] w fun e w' => e = .returned (.agg (Bnd.tup t i r a b c)) ∧ IBlk w' g m false ∧ Only [g] w w' := by
  have hS : Who.subjB a b c = true := by
    unfold Bnd.tupGood at hG
    simp only [Bool.and_eq_true] at hG
    exact hG.2
  have hl1 := front_len hF
  obtain ⟨W0, hW0⟩ : ∃ W0, w.alloc (.cells e6 TT) = W0 := ⟨_, rfl⟩
  have b0 : Below w.heap.size w W0 := by rw [← hW0]; exact (Below.refl _ _).alloc (Nat.le_refl _) _
  have hgw := h.lt
  have hne : w.heap.size ≠ g := by omega
  have hnm : w.heap.size ∉ [g] := by simpa using hne
  have O0 := Aside0.mk (Only.of_below b0 [g])
  have R0 := Aside0.mk (show Blk W0 w.heap.size TT e6 by rw [← hW0]; exact Blk.new w TT e6)
  have H0 := Aside0.mk (h.below b0)
  have HT := Aside0.mk hT
  have HF := Aside0.mk hF
  have HF2 := Aside0.mk hF2
  have HG := Aside0.mk hG
  have HS := Aside0.mk hS
  clear h b0 hT hF hF2 hG hS
  go_enter Tryd.func28, Tryd.ntmps28
  go_wp2_with fail
  clear hW0
  refine (iparts_ok g l hl false t i r l1 HF.out W0 H0.out).mono ?_
  rintro e w1 ⟨rfl, i1, o1⟩
  have r1 := R0.out.only o1 hnm
  have o1' := O0.out.trans o1 (fun k hk => .inl hk)
  obtain ⟨n, hn⟩ : ∃ n, w1.heap.size = n := ⟨_, rfl⟩
  have hgn : g < n := by rw [← hn]; exact i1.lt
  have hwn : w.heap.size < n := by rw [← hn]; exact r1.lt
  obtain ⟨W1, hW1⟩ : ∃ W1, w1.alloc (.cells #[.string t, .string i, .string r] TS) = W1 := ⟨_, rfl⟩
  have b1 : Below w1.heap.size w1 W1 := by rw [← hW1]; exact (Below.refl _ _).alloc (Nat.le_refl _) _
  have X1 := Aside0.mk (show Blk W1 n TS #[.string t, .string i, .string r] by rw [← hW1]; exact Blk.newAt hn.symm)
  have R1 := Aside0.mk (r1.below b1)
  have H1 := Aside0.mk (i1.below b1)
  have O1 := Aside0.mk (o1'.step b1)
  have HGN := Aside0.mk hgn
  have HWN := Aside0.mk hwn
  clear i1 o1 r1 o1' R0 H0 O0 b1 hgn hwn
  go_wp2_with fail
  clear hW1
  have HE0 : IBlk W1.drew g (two 0 l1 m) false ∧ Blk W1.drew n TS #[.string t, .string i, .string r] ∧ Blk W1.drew w.heap.size TT e6 ∧ Only [g] w W1.drew := ⟨H1.out.drew, X1.out.drew, R1.out.drew, O1.out.drew⟩
  clear R1 H1 O1 X1
  have hng : n ∉ [g] := by have := HGN.out; simp; omega
  have hwg := HWN.out
  refine Qy.wp_region_tail (Only [g]) (fun f args u w' => True) (fun f args u => u = .agg #[.string a, .string b, .string c]) (fun p w' => IBlk w' g (two p l1 m) false ∧ Blk w' n TS #[.string t, .string i, .string r] ∧ Blk w' w.heap.size TT e6 ∧ Only [g] w w') [7] 10 (by kernel_rfl) (by kernel_rfl) HE0 ?_
  clear HE0
  simp only [List.take_succ_cons, List.take_zero, List.drop_succ_cons, List.drop_zero]
  iterate 7 ((with_reducible refine Qy.y_val ⟨fun _ _ _ hF h w' h1 h2 => h w' h1 fun k => hF k _ (h2 k)⟩ ?_ ?_ ?_ ?_ ?_); (focus (first | exact fun _ => Only.refl _ _ | exact fun _ => Below.refl _ _)); (focus (exact fun _ => trivial)); (focus (first | rfl | decide)); (first | (focus (exact Qy.wanted_none rfl)) | (focus (exact Qg.wanted_on rfl rfl rfl))); apply Exists.intro; refine ⟨?_, ?_⟩; (focus (intro p' w' hw' hp'; have c0 := hw'.2.1.cell 0; have c1 := hw'.2.1.cell 1; have c2 := hw'.2.1.cell 2; have l0 := hw'.2.1.lt; go_simp; (first | done | (with_reducible rfl)))); intro K hK; go_simp; refine hK _ ?_; clear hK K)
  ((with_reducible refine Qy.y_turn 0 ?_ ?_ ?_); (focus (first | rfl | decide)); (first | (focus (exact Qy.wanted_none rfl)) | (focus (exact Qg.wanted_on rfl rfl rfl))); apply Exists.intro; apply Exists.intro; refine ⟨?_, ?_, ?_, ?_, ?_⟩; (focus (intro w'; go_simp; (first | rfl | exact ⟨rfl, rfl⟩))); (focus (exact ⟨_, rfl⟩)); (focus (exact fun u w1 w2 h hb => trivial)); (focus (intro w' hw' hp'; refine (isubject_ok g l1 (by omega) a b c z.a z.b z.c m HF2.out HS.out w' hw'.1 (fun w1 ho => HT.out w1 (hw'.2.2.2.trans ho (fun k hk => .inl hk)))).mono ?_; rintro e w8 ⟨rfl, i8, o8⟩; exact ⟨_, rfl, o8, ⟨i8, hw'.2.1.only o8 hng, hw'.2.2.1.only o8 hnm, hw'.2.2.2.trans o8 (fun k hk => .inl hk)⟩, rfl, trivial⟩)); rintro u8 rfl; intro K hK; go_simp; refine hK _ ?_; clear hK K)
  ((with_reducible refine Qy.y_val ⟨fun _ _ _ hF h w' h1 h2 => h w' h1 fun k => hF k _ (h2 k)⟩ ?_ ?_ ?_ ?_ ?_); (focus (first | exact fun _ => Only.refl _ _ | exact fun _ => Below.refl _ _)); (focus (exact fun _ => trivial)); (focus (first | rfl | decide)); (first | (focus (exact Qy.wanted_none rfl)) | (focus (exact Qg.wanted_on rfl rfl rfl))); apply Exists.intro; refine ⟨?_, ?_⟩; (focus (intro p' w' hw' hp'; skip; go_simp; (first | done | (with_reducible rfl)))); intro K hK; go_simp; refine hK _ ?_; clear hK K)
  obtain ⟨R, hR⟩ : ∃ R : Value → World → Prop, R = fun u w' => ∃ m', u = .pointer (some ⟨m', 0, none⟩) ∧ w.heap.size < m' ∧ Blk w' m' TT e6 := ⟨_, rfl⟩
  obtain ⟨V, hV⟩ : ∃ V : Value → Prop, V = fun u => ∃ m', u = .pointer (some ⟨m', 0, none⟩) := ⟨_, rfl⟩
  have HSN : ∀ u, Qy.Stb (Only [g]) (R u) := by
    subst hR
    intro u w1 w2 h hb
    obtain ⟨m', e, h1, h2⟩ := h
    exact ⟨m', e, h1, h2.only hb (by simp; omega)⟩
  have hR' : ∀ u w', R u w' ↔ ∃ m', u = .pointer (some ⟨m', 0, none⟩) ∧ w.heap.size < m' ∧ Blk w' m' TT e6 := fun u w' => by rw [hR]
  have hV' : ∀ u, V u ↔ ∃ m', u = .pointer (some ⟨m', 0, none⟩) := fun u => by rw [hV]
  clear hR hV
  with_reducible refine Qy.y_new V R ⟨.pointer (some ⟨0, 0, none⟩), (hV' _).2 ⟨0, rfl⟩⟩ HSN ?_ (Qy.wanted_none rfl) ⟨?_, ?_⟩
  · decide
  · intro p' w' hw' hp'
    have hbb : Below w'.heap.size w' (w'.alloc (.cells e6 TT)) := (Below.refl _ _).alloc (Nat.le_refl _) _
    refine ⟨.pointer (some ⟨w'.heap.size, 0, none⟩), w'.alloc (.cells e6 TT), ?_, Only.of_below hbb [g], ⟨hw'.1.below hbb, hw'.2.1.below hbb, hw'.2.2.1.below hbb, hw'.2.2.2.step hbb⟩, (hV' _).2 ⟨_, rfl⟩, (hR' _ _).2 ⟨w'.heap.size, rfl, hw'.2.2.1.lt, Blk.new _ _ _⟩⟩
    go_simp
  intro u9 hu9
  obtain ⟨m', rfl⟩ := (hV' _).1 hu9
  clear hu9
  intro K hK
  go_simp
  refine hK _ ?_
  clear hK K
  ((with_reducible refine Qy.y_nil ?_); intro w' hw' hf')
  obtain ⟨m'', e9, hm, M2⟩ : ∃ m'', Value.pointer (some ⟨m', 0, none⟩) = .pointer (some ⟨m'', 0, none⟩) ∧ w.heap.size < m'' ∧ Blk w' m'' TT e6 := (hR' _ _).1 (hf' 9)
  clear hf' hR' hV' HSN R V
  obtain rfl : m' = m'' := by injection e9 with e9; injection e9 with e9; injection e9 with e9
  have hgm : g ≠ m' := by omega
  have I' : IBlk w' g m false := hw'.1
  refine wpList_store_blk rfl TT _ _ rfl m' (Bnd.tup t i r a b c) rfl rfl infoT rfl (by first | kernel_rfl | decide +kernel | simp [Value.oneCell']) M2 rfl ?_
  have I2 := Aside0.mk (I'.rowFar hgm (Bnd.tup t i r a b c))
  have R2 := Aside0.mk (hw'.2.2.1.rowFar (show w.heap.size ≠ m' by omega) (Bnd.tup t i r a b c))
  have M3 := Aside0.mk (M2.row (Bnd.tup t i r a b c))
  have B2 := Aside0.mk (show Only [g] w (w'.setRow m' (Bnd.tup t i r a b c)) from only_upper hw'.2.2.2 (below_setRow (Below.refl w.heap.size w') (show w.heap.size ≤ m' by omega) _) (Nat.le_refl _))
  clear hw' M2 I'
  generalize w'.setRow m' (Bnd.tup t i r a b c) = W5 at *
  have i1 := I2.out.cell 1
  have ilt := I2.out.lt
  have m0 := M3.out.cell 0
  have m1 := M3.out.cell 1
  have m2 := M3.out.cell 2
  have m3 := M3.out.cell 3
  have m4 := M3.out.cell 4
  have m5 := M3.out.cell 5
  have ml := M3.out.lt
  go_wp2_with fail
  clear i1 ilt m0 m1 m2 m3 m4 m5 ml
  refine (Bnd.tgood_calls t i r a b c z W5 (HT.out _ B2.out)).mono ?_
  rintro e w2 ⟨rfl, b2⟩
  rw [HG.out]
  have R4 := Aside0.mk (R2.out.below b2)
  have M4 := Aside0.mk (M3.out.below b2)
  have I4 := Aside0.mk (I2.out.below b2)
  have B4 := Aside0.mk (B2.out.step b2)
  have f0 := R4.out.frozen 0
  have f1 := R4.out.frozen 1
  have f2 := R4.out.frozen 2
  have f3 := R4.out.frozen 3
  have f4 := R4.out.frozen 4
  have f5 := R4.out.frozen 5
  have d0 := R4.out.cell 0
  have d1 := R4.out.cell 1
  have d2 := R4.out.cell 2
  have d3 := R4.out.cell 3
  have d4 := R4.out.cell 4
  have d5 := R4.out.cell 5
  have l0 := R4.out.lt
  have m0 := M4.out.cell 0
  have m1 := M4.out.cell 1
  have m2 := M4.out.cell 2
  have m3 := M4.out.cell 3
  have m4 := M4.out.cell 4
  have m5 := M4.out.cell 5
  have ml := M4.out.lt
  clear b2 R2 B2 M3 I2 M4
  go_wp2
  have E := (((((R4.out.set 0 (.string t)).set 1 (.string i)).set 2 (.string r)).set 3 (.string a)).set 4 (.string b)).set 5 (.string c)
  have e0 := E.cell 0
  have e1 := E.cell 1
  have e2 := E.cell 2
  have e3 := E.cell 3
  have e4 := E.cell 4
  have e5 := E.cell 5
  have ng : ∀ i, g ≠ (⟨w.heap.size, i, none⟩ : Addr).block := fun _ => Ne.symm hne
  have q : ∀ i, (⟨w.heap.size, i, none⟩ : Addr).block ∈ [g] ∨ w.heap.size ≤ (⟨w.heap.size, i, none⟩ : Addr).block := fun _ => .inr (Nat.le_refl _)
  exact bodyPost_ret (v := .agg (Bnd.tup t i r a b c)) (by simp [results, Tryd.results28, go_sem, e0, e1, e2, e3, e4, e5]) rfl
    ⟨rfl, (((((I4.out.far (ng 0) _).far (ng 1) _).far (ng 2) _).far (ng 3) _).far (ng 4) _).far (ng 5) _, (((((B4.out.setCell (q 0) _).setCell (q 1) _).setCell (q 2) _).setCell (q 3) _).setCell (q 4) _).setCell (q 5) _⟩
end Go.Proofs.YtmilpfccgggmkaaDoor.Knt
