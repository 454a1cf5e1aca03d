/- Puts one behind the other, plainly; entries of a sorted list. -/
import Derived.Test.YtcgfdnhocdcfjaaHaw
import Derived.Test.YtcgfdnhocdcfjaaHpf
namespace Go.Proofs.Ytcgfdnhocdcfjaa.Hed
open Go.RowKit Go.Proofs.YtcgfdnhocdcfjaaW.PrintWords Go.Proofs.Ytcgfdnhocdcfjaa.Arr Go.Proofs.Ytcgfdnhocdcfjaa.Utf Go.Proofs.Ytcgfdnhocdcfjaa.PHedgePlays T
set_option linter.unusedVariables false
set_option linter.unusedSimpArgs false

/-- The list behind the first i puts. -/
def putsE (num : Nat → Int) : List ByteArray → Nat → List Ent → List Ent
  | [], _, l => l
  | k :: ks, i, l => putsE num ks (i + 1) (putE l k (num i))
theorem putsE_snoc (num : Nat → Int) (k : ByteArray) : ∀ (ks : List ByteArray) (i : Nat) (l : List Ent), putsE num (ks ++ [k]) i l = putE (putsE num ks i l) k (num (i + ks.length))
  | [], i, l => rfl
  | a :: ks, i, l => by
    simp only [List.cons_append, putsE, List.length_cons]
    rw [putsE_snoc num k ks, show i + 1 + ks.length = i + (ks.length + 1) by omega]
theorem putsE_srt (num : Nat → Int) : ∀ (ks : List ByteArray) (i : Nat) (l : List Ent), Srt l → Srt (putsE num ks i l)
  | [], _, _, h => h
  | k :: ks, i, l, h => putsE_srt num ks (i + 1) _ (srt_put h k _)
theorem putsE_len (num : Nat → Int) : ∀ (ks : List ByteArray) (i : Nat) (l : List Ent), Srt l → (putsE num ks i l).length ≤ l.length + ks.length
  | [], _, _, _ => Nat.le_refl _
  | k :: ks, i, l, h => by
    have h1 := putsE_len num ks (i + 1) _ (srt_put h k (num i))
    have h2 := put_len l k (num i) h
    simp only [putsE, List.length_cons]
    omega
def numI (i : Nat) : Int := (i : Int)
theorem puts_take (num : Nat → Int) (ks : List ByteArray) (i : Nat) (h : i < ks.length) : putsE num (ks.take (i + 1)) 0 [] = putE (putsE num (ks.take i) 0 []) ks[i] (num i) := by
  rw [← List.take_append_getElem h, putsE_snoc, List.length_take, Nat.min_eq_left (Nat.le_of_lt h), Nat.zero_add]
theorem str_at {w : World} {A : Option Addr} {ks : List ByteArray} (h : Kd.C Kd.string w A ks.length ks) (i : Nat) (hi : i < ks.length) : ∃ ad, A = some ad ∧ w.cell? (ad.add i) = some (.string ks[i]) := by
  have h2 : ReadsOf Value.string ⟨#[]⟩ w A ks.length ks := Kd.reads_of_C h
  obtain ⟨ad, e, hc⟩ := h2.2.2 (by omega)
  refine ⟨ad, e, ?_⟩
  rw [hc i hi]
  simp [List.getD, hi]
/-- Every entry is one of the keys, with its number. -/
theorem putsE_mem (num : Nat → Int) : ∀ (ks : List ByteArray) (i : Nat) (l : List Ent) (e : Ent), e ∈ putsE num ks i l → e ∈ l ∨ ∃ j, ∃ h : j < ks.length, e = (ks[j], num (i + j))
  | [], _, _, _, h => Or.inl h
  | k :: ks, i, l, e, h => by
    rcases putsE_mem num ks (i + 1) _ e h with h | ⟨j, hj, rfl⟩
    · unfold putE at h
      rcases List.mem_append.1 h with h | h
      · exact Or.inl (List.mem_filter.1 h).1
      · rcases List.mem_cons.1 h with rfl | h
        · exact Or.inr ⟨0, by simp, by simp⟩
        · exact Or.inl (List.mem_filter.1 h).1
    · exact Or.inr ⟨j + 1, by simpa using hj, by simp only [List.getElem_cons_succ]; rw [show i + (j + 1) = i + 1 + j by omega]⟩
theorem bytes_cmp : ∀ x y : List UInt8, Op.bytesLess x y = decide (cmpL (x.map fun c => (c.toNat : Int)) (y.map fun c => (c.toNat : Int)) < 0)
  | [], [] => rfl
  | [], _ :: _ => by simp [Op.bytesLess, cmpL]
  | _ :: _, [] => by simp [Op.bytesLess, cmpL]
  | a :: x, b :: y => by
    simp only [Op.bytesLess, List.map_cons, cmpL]
    by_cases h : a = b
    · subst h
      rw [if_pos rfl, bytes_cmp x y]
      have : ¬ a < a := by rw [UInt8.lt_iff_toNat_lt]; omega
      simp [this]
    · have h2 : ¬ ((a.toNat : Int) = (b.toNat : Int)) := fun e => h (UInt8.toNat_inj.1 (by omega))
      rw [if_neg h2, Bool.eq_iff_iff]
      have h3 : (a == b) = false := by simpa using h
      rw [h3, Bool.false_and, Bool.or_false, decide_eq_true_eq, decide_eq_true_eq, intsV_neg, UInt8.lt_iff_toNat_lt]
      omega
theorem bytes_lt (a b : ByteArray) : Op.bytesLess a.toList b.toList = T.lt a b := by
  rw [bytes_cmp, Lib.toList_data, Lib.toList_data]
  unfold T.lt cmpB bl
  simp only [List.drop_zero]
theorem srt_at {L : List Ent} (h : Srt L) (i j : Nat) (hi : i < L.length) (hj : j < L.length) (hij : i < j) : T.lt L[i].1 L[j].1 = true := List.pairwise_iff_getElem.1 h i j hi hj hij
theorem srt_le {L : List Ent} (h : Srt L) (i j : Nat) (hi : i < L.length) (hj : j < L.length) (hij : i ≤ j) : T.lt L[j].1 L[i].1 = false := by
  rcases Nat.lt_or_eq_of_le hij with h1 | rfl
  · exact lt_asymm (srt_at h i j hi hj h1)
  · exact lt_irrefl _
theorem rank_at : ∀ (L : List Ent), Srt L → ∀ (i : Nat) (hi : i < L.length), (L.filter (lo L[i].1)).length = i
  | [], _, i, hi => absurd hi (Nat.not_lt_zero _)
  | a :: L, h, 0, hi => by
    rw [filter_none]
    · rfl
    · intro e he
      obtain ⟨j, hj, rfl⟩ := List.getElem_of_mem he
      exact srt_le h 0 j hi hj (Nat.zero_le _)
  | a :: L, h, i + 1, hi => by
    have h1 : lo (a :: L)[i + 1].1 a = true := srt_at h 0 (i + 1) (by simp) hi (by omega)
    rw [List.filter_cons, if_pos h1, List.length_cons]
    have := rank_at L (List.pairwise_cons.1 h).2 i (by simpa using hi)
    simpa using this
theorem find_at {L : List Ent} (h : Srt L) (i : Nat) (hi : i < L.length) : L.find? (eqK L[i].1) = some L[i] := by
  rw [List.find?_eq_some_iff_getElem]
  refine ⟨by simp [eqK], i, hi, rfl, fun j hj => ?_⟩
  have h1 := srt_at h j i (by omega) hi hj
  unfold eqK
  simp only [Bool.not_eq_true', decide_eq_false_iff_not]
  intro e
  rw [e, lt_irrefl] at h1
  cases h1
theorem hi_empty (L : List Ent) : L.filter (hi ⟨#[]⟩) = L := filter_all fun e _ => by
  show (!T.lt e.1 ⟨#[]⟩) = true
  unfold T.lt cmpB
  have : cmpL (bl e.1 0) (bl ⟨#[]⟩ 0) = intsV (bl e.1 0).length 0 := cmpL_nil_right _
  rw [this]
  have h2 : ¬ intsV ((bl e.1 0).length : Int) 0 < 0 := by rw [intsV_neg]; omega
  simp [h2]
end Go.Proofs.Ytcgfdnhocdcfjaa.Hed
