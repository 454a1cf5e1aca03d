/- The reference's Name: what the printed function comes to. -/
import Derived.Test.YtpilbomkdafdfaaUtf
import Derived.Test.YtpilbomkdafdfaaTpr
namespace Go.Proofs.Ytpilbomkdafdfaa.Glr
open Go.RowKit Go.Proofs.YtpilbomkdafdfaaW.PrintWords Go.Proofs.Ytpilbomkdafdfaa.Utf Go.Proofs.Ytpilbomkdafdfaa.PTractRefs
set_option linter.unusedVariables false
set_option linter.unusedSimpArgs false
theorem w64 (x : Int) (h0 : -9223372036854775808 ≤ x) (h1 : x ≤ 9223372036854775807) : wrap64 x = x := by unfold wrap64; omega
theorem wgb (s : ByteArray) (i : Nat) (h : i < s.size) : wrap64 (bt s (i : Int)) = (gb s i : Int) := by
  rw [bt_gb s i h]
  have := gb_lt s i
  exact w64 _ (by omega) (by omega)

theorem name_round (i c : Nat) (h : c < 256) (x y : Option Bool) (hx : x = some false) :
    (if (c : Int) < 97 then (if (i : Int) = 0 then x else (if (c : Int) < 48 then (if (c : Int) = 95 then y else x) else (if (c : Int) > 57 then (if (c : Int) = 95 then y else x) else y)))
     else (if (c : Int) > 122 then (if (i : Int) = 0 then x else (if (c : Int) < 48 then (if (c : Int) = 95 then y else x) else (if (c : Int) > 57 then (if (c : Int) = 95 then y else x) else y))) else y)) = if nmR i c = true then y else x := by
  have hn : nmR i c = true ↔ (97 ≤ c ∧ c ≤ 122) ∨ (0 < i ∧ ((48 ≤ c ∧ c ≤ 57) ∨ c = 95)) := by
    unfold nmR smallR
    simp
  by_cases h0 : nmR i c = true
  · have h1 := hn.1 h0
    rw [if_pos h0]
    by_cases a : (c : Int) < 97
    · rw [if_pos a, if_neg (by omega)]
      by_cases b : (c : Int) < 48
      · exfalso; omega
      · rw [if_neg b]
        by_cases d : (c : Int) > 57
        · rw [if_pos d, if_pos (by omega)]
        · rw [if_neg d]
    · rw [if_neg a, if_neg (by omega)]
  · have h1 : ¬ ((97 ≤ c ∧ c ≤ 122) ∨ (0 < i ∧ ((48 ≤ c ∧ c ≤ 57) ∨ c = 95))) := fun h => h0 (hn.2 h)
    rw [if_neg h0]
    by_cases a : (c : Int) < 97
    · rw [if_pos a]
      by_cases e : (i : Int) = 0
      · rw [if_pos e]
      · rw [if_neg e]
        by_cases b : (c : Int) < 48
        · rw [if_pos b, if_neg (by omega)]
        · rw [if_neg b]
          by_cases d : (c : Int) > 57
          · rw [if_pos d, if_neg (by omega)]
          · exfalso; omega
    · rw [if_neg a, if_pos (by omega)]
      by_cases e : (i : Int) = 0
      · rw [if_pos e]
      · rw [if_neg e, if_neg (by omega), if_pos (by omega), if_neg (by omega)]
theorem name_l0 (s : ByteArray) (hs : s.size ≤ 9223372036854775807) : ∀ (d k p : Nat), s.size - p ≤ d → p ≤ s.size → d + 1 ≤ k → stileref01_Name.l0 k s (p : Int) = some (nmAll s p && (decide (1 ≤ s.size) && decide (s.size ≤ 16))) := by
  intro d
  induction d with
  | zero =>
    intro k p h0 h1 hk
    obtain ⟨k, rfl⟩ : ∃ m, k = m + 1 := ⟨k - 1, by omega⟩
    simp only [stileref01_Name.l0]
    rw [if_neg (by omega), nmAll_end s p (by omega), Bool.true_and]
    by_cases h : 1 ≤ s.size
    · rw [if_pos (by omega), decide_eq_true h, Bool.true_and]
      congr 1
      rw [decide_eq_decide]
      omega
    · rw [if_neg (by omega), decide_eq_false h, Bool.false_and]
  | succ d ih =>
    intro k p h0 h1 hk
    obtain ⟨k, rfl⟩ : ∃ m, k = m + 1 := ⟨k - 1, by omega⟩
    by_cases hp : p < s.size
    · simp only [stileref01_Name.l0]
      rw [if_pos (by omega), if_pos (by omega), bt_gb s p hp, name_round p (gb s p) (gb_lt s p) _ _ rfl, nmAll_step s p hp]
      cases hn : nmR p (gb s p) with
      | false => rfl
      | true =>
        rw [if_pos rfl, w64 _ (by omega) (by omega), show ((p : Int) + 1) = ((p + 1 : Nat) : Int) by omega, ih k _ (by omega) (by omega) (by omega), Bool.true_and]
    · simp only [stileref01_Name.l0]
      rw [if_neg (by omega), nmAll_end s p (by omega), Bool.true_and]
      by_cases h : 1 ≤ s.size
      · rw [if_pos (by omega), decide_eq_true h, Bool.true_and]
        congr 1
        rw [decide_eq_decide]
        omega
      · rw [if_neg (by omega), decide_eq_false h, Bool.false_and]
theorem name_ev (s : ByteArray) (hs : s.size ≤ 9223372036854775807) : stileref01_Name.f (s.size + 1) s = some (nameB s) := by
  unfold stileref01_Name.f nameB
  exact name_l0 s hs s.size _ 0 (by omega) (by omega) (by omega)
end Go.Proofs.Ytpilbomkdafdfaa.Glr
