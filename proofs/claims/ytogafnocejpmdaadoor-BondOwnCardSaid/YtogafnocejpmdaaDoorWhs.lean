/- The reference's layer who: Good, Read; and that both tell the same. -/
import Derived.Test.YtogafnocejpmdaaDoorWhq
namespace Go.Proofs.YtogafnocejpmdaaDoor.Who
open Go.RowKit Go.Proofs.YtogafnocejpmdaaDoorW.PrintWords Go.Proofs.YtogafnocejpmdaaDoor.Utf Go.Proofs.YtogafnocejpmdaaDoor.Arr Go.Proofs.YtogafnocejpmdaaDoor.Gly Go.Proofs.YtogafnocejpmdaaDoor.Glr
set_option linter.unusedVariables false
set_option linter.unusedSimpArgs false

/-! ### plain: both read alike -/
def refOk (s : ByteArray) : Bool := cutOk s 58 && (kindV (cutA s 58) (cutA (cutB s 58) 35) (cutB (cutB s 58) 35) != 0 && (cutOk (cutB s 58) 35 == !(cutB (cutB s 58) 35).toList.isEmpty))
theorem star_no_id (i : ByteArray) (h : (i.toList == [42]) = true) : idB i = false := by
  have h1 : i.toList = [42] := by simpa using h
  cases hd : idB i with
  | false => rfl
  | true =>
    have h2 := id_ne i hd 42 (by decide) (by decide)
    have hz : i.size = 1 := by rw [← toList_size, h1]; rfl
    have := h2 0 (by omega)
    rw [Lib.toList_data] at h1
    have h3 : i = ⟨#[42]⟩ := by
      cases i with
      | mk d =>
        congr 1
        apply Array.ext'
        exact h1
    rw [h3] at this
    exact absurd rfl this
theorem subj_kind (t i r : ByteArray) : subjB t i r = (kindV t i r != 0) := by
  unfold subjB oneB setB allB goodB kindV
  cases nameB t with
  | false => simp
  | true =>
    cases h : (i.toList == [42]) with
    | true =>
      rw [star_no_id i h]
      cases r.toList.isEmpty <;> simp
    | false =>
      cases idB i with
      | false => simp
      | true =>
        cases r.toList.isEmpty with
        | true => simp
        | false => cases nameB r <;> simp
theorem one_kind (t i r : ByteArray) : oneB t i r = (kindV t i r == 1) := by
  unfold oneB goodB kindV
  cases nameB t with
  | false => simp
  | true =>
    cases h : (i.toList == [42]) with
    | true =>
      rw [star_no_id i h]
      cases r.toList.isEmpty <;> simp
    | false =>
      cases idB i with
      | false => simp
      | true =>
        cases r.toList.isEmpty with
        | true => simp
        | false => cases nameB r <;> simp
theorem nil_list : (⟨#[]⟩ : ByteArray).toList = [] := by rw [Lib.toList_data]
theorem empty_iff (r : ByteArray) : r.toList.isEmpty = true ↔ r = ⟨#[]⟩ := by
  constructor
  · intro h
    have h1 : r.toList = [] := by simpa using h
    rw [Lib.toList_data] at h1
    cases r with
    | mk d =>
      congr 1
      apply Array.ext'
      exact h1
  · rintro rfl
    rw [nil_list]; rfl
theorem toList_inj {a b : ByteArray} (h : a.toList = b.toList) : a = b := by
  rw [Lib.toList_data, Lib.toList_data] at h
  cases a with
  | mk d => cases b with
    | mk e => congr 1; exact Array.ext' h
theorem text_size (t i r : ByteArray) : t.size + 1 + i.size ≤ (textV t i r).size := by
  unfold textV
  split
  · rw [ByteArray.size_append, ByteArray.size_append, one_size]; omega
  · rw [ByteArray.size_append, ByteArray.size_append, ByteArray.size_append, one_size]; omega
/-- What was cut has its text again just if the signs stood there. -/
theorem text_back (s : ByteArray) : ((textV (cutA s 58) (cutA (cutB s 58) 35) (cutB (cutB s 58) 35)).toList == s.toList) = (cutOk s 58 && (cutOk (cutB s 58) 35 == !(cutB (cutB s 58) 35).toList.isEmpty)) := by
  have heq : ∀ a b : ByteArray, (a.toList == b.toList) = decide (a = b) := fun a b => by
    rw [Bool.eq_iff_iff]
    simp only [beq_iff_eq, decide_eq_true_eq]
    exact ⟨toList_inj, fun h => by rw [h]⟩
  rw [heq]
  cases h1 : cutOk s 58 with
  | false =>
    obtain ⟨a, b⟩ := cut_none s 58 h1
    rw [Bool.false_and, a, b]
    apply decide_eq_false
    intro e
    have := congrArg ByteArray.size e
    have h2 := text_size s (cutA ⟨#[]⟩ 35) (cutB ⟨#[]⟩ 35)
    omega
  | true =>
    rw [Bool.true_and]
    have hs := cut_parts s 58 h1
    have e58 : (58 : UInt8).toNat = 58 := rfl
    have e35 : (35 : UInt8).toNat = 35 := rfl
    rw [e58] at hs
    generalize cutA s 58 = t at *
    generalize cutB s 58 = q at *
    cases h2 : cutOk q 35 with
    | false =>
      obtain ⟨a, b⟩ := cut_none q 35 h2
      rw [a, b]
      have : textV t q ⟨#[]⟩ = s := by
        unfold textV
        rw [if_pos nil_list]
        exact hs.symm
      rw [decide_eq_true this, nil_list]
      rfl
    | true =>
      have hq := cut_parts q 35 h2
      rw [e35] at hq
      generalize cutA q 35 = i at *
      generalize cutB q 35 = r at *
      cases h3 : r.toList.isEmpty with
      | true =>
        obtain rfl := (empty_iff r).1 h3
        apply decide_eq_false
        intro e
        have e2 := congrArg ByteArray.size e
        unfold textV at e2
        rw [if_pos nil_list, hs, hq] at e2
        simp only [ByteArray.size_append, one_size] at e2
        omega
      | false =>
        have : textV t i r = s := by
          unfold textV
          rw [if_neg (fun h => by rw [h] at h3; cases h3), hs]
          conv => rhs; rw [hq]
          simp only [ByteArray.append_assoc]
        rw [decide_eq_true this]
        rfl
theorem read_same (s : ByteArray) : readOk s = refOk s := by
  unfold readOk refOk
  rw [subj_kind, text_back]
  cases cutOk s 58 with
  | false => simp
  | true => simp
theorem kind_id (t i r : ByteArray) (h : kindV t i r ≠ 0) : nameB t = true ∧ (∀ j, j < i.size → gb i j ≠ 35) := by
  unfold kindV at h
  cases hn : nameB t with
  | false => rw [hn] at h; exact absurd rfl h
  | true =>
    refine ⟨rfl, ?_⟩
    rw [hn, if_pos rfl] at h
    cases hs : (i.toList == [42]) with
    | true =>
      have h1 : i.toList = [42] := by simpa using hs
      rw [Lib.toList_data] at h1
      have h3 : i = ⟨#[42]⟩ := by
        cases i with
        | mk d => congr 1; exact Array.ext' h1
      subst h3
      intro j hj
      have : j = 0 := by have : (⟨#[42]⟩ : ByteArray).size = 1 := rfl; omega
      subst this
      decide
    | false =>
      rw [hs, if_neg (by decide)] at h
      cases hd : idB i with
      | false => rw [hd, if_neg (by decide)] at h; exact absurd rfl h
      | true => exact id_ne i hd 35 (by decide) (by decide)
theorem text_parts (t i r : ByteArray) (h : kindV t i r ≠ 0) : cutA (textV t i r) 58 = t ∧ cutA (cutB (textV t i r) 58) 35 = i ∧ cutB (cutB (textV t i r) 58) 35 = r := by
  obtain ⟨h1, h2⟩ := kind_id t i r h
  have e58 : (58 : UInt8).toNat = 58 := rfl
  have e35 : (35 : UInt8).toNat = 35 := rfl
  have n58 : ∀ j, j < t.size → gb t j ≠ (58 : UInt8).toNat := name_ne t h1 58 (by omega)
  unfold textV
  by_cases hr : r.toList = []
  · rw [if_pos hr]
    obtain ⟨a, b, _⟩ := cut_append t i 58 n58
    rw [e58] at a b
    obtain ⟨c, d, _⟩ := cut_absent i 35 h2
    rw [a, b, c, d]
    exact ⟨rfl, rfl, ((empty_iff r).1 (by rw [hr]; rfl)).symm⟩
  · rw [if_neg hr, show ((t ++ one 58) ++ i) ++ (one 35 ++ r) = (t ++ one 58) ++ ((i ++ one 35) ++ r) by simp only [ByteArray.append_assoc]]
    obtain ⟨a, b, _⟩ := cut_append t ((i ++ one 35) ++ r) 58 n58
    rw [e58] at a b
    obtain ⟨c, d, _⟩ := cut_append i r 35 h2
    rw [e35] at c d
    rw [a, b, c, d]
    exact ⟨rfl, rfl, rfl⟩
theorem text_reads (t i r : ByteArray) (h : kindV t i r ≠ 0) : readOk (textV t i r) = true := by
  obtain ⟨a, b, c⟩ := text_parts t i r h
  unfold readOk
  rw [a, b, c, subj_kind]
  simpa using h
theorem text_le (t i r : ByteArray) : (textV t i r).size ≤ t.size + i.size + r.size + 2 := by
  unfold textV
  split <;> simp only [ByteArray.size_append, one_size] <;> omega

end Go.Proofs.YtogafnocejpmdaaDoor.Who
