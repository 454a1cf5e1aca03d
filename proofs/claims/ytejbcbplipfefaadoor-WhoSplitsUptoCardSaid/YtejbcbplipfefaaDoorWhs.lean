/- The reference's layer who: Good, Read; and that both tell the same. -/
import Derived.Test.YtejbcbplipfefaaDoorWhq
namespace Go.Proofs.YtejbcbplipfefaaDoor.Who
open Go.RowKit Go.Proofs.YtejbcbplipfefaaDoorW.PrintWords Go.Proofs.YtejbcbplipfefaaDoor.Utf Go.Proofs.YtejbcbplipfefaaDoor.Arr Go.Proofs.YtejbcbplipfefaaDoor.Gly Go.Proofs.YtejbcbplipfefaaDoor.Glr
set_option linter.unusedVariables false
set_option linter.unusedSimpArgs false

set_option maxHeartbeats 2000000 in
set_option maxRecDepth 100000 in
theorem ref_good_calls (t i : ByteArray) (ht : t.size ≤ 9223372036854775807) (hi : i.size ≤ 100000000) (w : World) :
    Calls Tryd.prog 14 #[.agg #[.string t, .string i]] w fun e w' => e = .returned (.bool (goodB t i)) ∧ Below w.heap.size w w' := by
  have B0 := Blk.new w 31 #[.string t, .string i]
  have hb0 := box_below w #[.string t, .string i] 31
  unfold goodB
  cases hn : nameB t with
  | false =>
    have HN := Aside0.mk hn
    clear hn B0
    rw [Bool.false_and]
    go_enter Tryd.func14, Tryd.ntmps14
    go_wp2_with (go_at_call 19; refine (rname_as false t HN.out ht _).mono ?_; rintro e w1 ⟨rfl, hb1⟩)
    go_ret
    exact ⟨rfl, hb0.trans (hb1.mono hb0.size)⟩
  | true =>
    have HN := Aside0.mk hn
    clear hn
    rw [Bool.true_and]
    go_enter Tryd.func14, Tryd.ntmps14
    go_wp2_with (first
      | (go_at_call 19; refine (rname_as true t HN.out ht _).mono ?_; rintro e w1 ⟨rfl, hb1⟩; have c1 := (B0.below hb1).cell 1)
      | (go_at_call 20; refine (rid_as _ i rfl hi _).mono ?_; rintro e w2 ⟨rfl, hb2⟩))
    go_ret
    exact ⟨rfl, hb0.trans ((hb1.trans (hb2.mono hb1.size)).mono hb0.size)⟩

/-! ### plain: both read alike -/
def refOk (s : ByteArray) : Bool := cutOk s 58 && (kindV (cutA s 58) (cutA (cutB s 58) 35) (cutB (cutB s 58) 35) != 0 && (cutOk (cutB s 58) 35 == !(cutB (cutB s 58) 35).toList.isEmpty))
theorem star_no_id (i : ByteArray) (h : (i.toList == [42]) = true) : idB i = false := by
  have h1 : i.toList = [42] := by simpa using h
  cases hd : idB i with
  | false => rfl
  | true =>
    have h2 := id_ne i hd 42 (by decide) (by decide)
    have hz : i.size = 1 := by rw [← toList_size, h1]; rfl
    have := h2 0 (by omega)
    rw [Lib.toList_data] at h1
    have h3 : i = ⟨#[42]⟩ := by
      cases i with
      | mk d =>
        congr 1
        apply Array.ext'
        exact h1
    rw [h3] at this
    exact absurd rfl this
theorem subj_kind (t i r : ByteArray) : subjB t i r = (kindV t i r != 0) := by
  unfold subjB oneB setB allB goodB kindV
  cases nameB t with
  | false => simp
  | true =>
    cases h : (i.toList == [42]) with
    | true =>
      rw [star_no_id i h]
      cases r.toList.isEmpty <;> simp
    | false =>
      cases idB i with
      | false => simp
      | true =>
        cases r.toList.isEmpty with
        | true => simp
        | false => cases nameB r <;> simp
theorem one_kind (t i r : ByteArray) : oneB t i r = (kindV t i r == 1) := by
  unfold oneB goodB kindV
  cases nameB t with
  | false => simp
  | true =>
    cases h : (i.toList == [42]) with
    | true =>
      rw [star_no_id i h]
      cases r.toList.isEmpty <;> simp
    | false =>
      cases idB i with
      | false => simp
      | true =>
        cases r.toList.isEmpty with
        | true => simp
        | false => cases nameB r <;> simp
theorem nil_list : (⟨#[]⟩ : ByteArray).toList = [] := by rw [Lib.toList_data]
theorem empty_iff (r : ByteArray) : r.toList.isEmpty = true ↔ r = ⟨#[]⟩ := by
  constructor
  · intro h
    have h1 : r.toList = [] := by simpa using h
    rw [Lib.toList_data] at h1
    cases r with
    | mk d =>
      congr 1
      apply Array.ext'
      exact h1
  · rintro rfl
    rw [nil_list]; rfl
theorem toList_inj {a b : ByteArray} (h : a.toList = b.toList) : a = b := by
  rw [Lib.toList_data, Lib.toList_data] at h
  cases a with
  | mk d => cases b with
    | mk e => congr 1; exact Array.ext' h
theorem text_size (t i r : ByteArray) : t.size + 1 + i.size ≤ (textV t i r).size := by
  unfold textV
  split
  · rw [ByteArray.size_append, ByteArray.size_append, one_size]; omega
  · rw [ByteArray.size_append, ByteArray.size_append, ByteArray.size_append, one_size]; omega
/-- What was cut has its text again just if the signs stood there. -/
theorem text_back (s : ByteArray) : ((textV (cutA s 58) (cutA (cutB s 58) 35) (cutB (cutB s 58) 35)).toList == s.toList) = (cutOk s 58 && (cutOk (cutB s 58) 35 == !(cutB (cutB s 58) 35).toList.isEmpty)) := by
  have heq : ∀ a b : ByteArray, (a.toList == b.toList) = decide (a = b) := fun a b => by
    rw [Bool.eq_iff_iff]
    simp only [beq_iff_eq, decide_eq_true_eq]
    exact ⟨toList_inj, fun h => by rw [h]⟩
  rw [heq]
  cases h1 : cutOk s 58 with
  | false =>
    obtain ⟨a, b⟩ := cut_none s 58 h1
    rw [Bool.false_and, a, b]
    apply decide_eq_false
    intro e
    have := congrArg ByteArray.size e
    have h2 := text_size s (cutA ⟨#[]⟩ 35) (cutB ⟨#[]⟩ 35)
    omega
  | true =>
    rw [Bool.true_and]
    have hs := cut_parts s 58 h1
    have e58 : (58 : UInt8).toNat = 58 := rfl
    have e35 : (35 : UInt8).toNat = 35 := rfl
    rw [e58] at hs
    generalize cutA s 58 = t at *
    generalize cutB s 58 = q at *
    cases h2 : cutOk q 35 with
    | false =>
      obtain ⟨a, b⟩ := cut_none q 35 h2
      rw [a, b]
      have : textV t q ⟨#[]⟩ = s := by
        unfold textV
        rw [if_pos nil_list]
        exact hs.symm
      rw [decide_eq_true this, nil_list]
      rfl
    | true =>
      have hq := cut_parts q 35 h2
      rw [e35] at hq
      generalize cutA q 35 = i at *
      generalize cutB q 35 = r at *
      cases h3 : r.toList.isEmpty with
      | true =>
        obtain rfl := (empty_iff r).1 h3
        apply decide_eq_false
        intro e
        have e2 := congrArg ByteArray.size e
        unfold textV at e2
        rw [if_pos nil_list, hs, hq] at e2
        simp only [ByteArray.size_append, one_size] at e2
        omega
      | false =>
        have : textV t i r = s := by
          unfold textV
          rw [if_neg (fun h => by rw [h] at h3; cases h3), hs]
          conv => rhs; rw [hq]
          simp only [ByteArray.append_assoc]
        rw [decide_eq_true this]
        rfl
theorem read_same (s : ByteArray) : readOk s = refOk s := by
  unfold readOk refOk
  rw [subj_kind, text_back]
  cases cutOk s 58 with
  | false => simp
  | true => simp
end Go.Proofs.YtejbcbplipfefaaDoor.Who
