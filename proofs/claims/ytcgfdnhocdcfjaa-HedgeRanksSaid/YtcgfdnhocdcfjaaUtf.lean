/- UTF-8 texts: plain facts on how the model decodes. No program. -/
import Derived.Lib.DecodeN
import Derived.Lib.Strings
import Derived.Test.YtcgfdnhocdcfjaaWWords
namespace Go.Proofs.Ytcgfdnhocdcfjaa.Utf
open Go.Proofs.YtcgfdnhocdcfjaaW.PrintWords
set_option linter.unusedVariables false
set_option linter.unusedSimpArgs false

/-! ### bytes -/
def gb (s : ByteArray) (i : Nat) : Nat := (s.get! i).toNat
theorem gb_lt (s : ByteArray) (i : Nat) : gb s i < 256 := (s.get! i).toNat_lt
theorem gb_get (s : ByteArray) (i : Nat) (h : i < s.size) : (s[i]'h).toNat = gb s i := by
  cases s with
  | mk d => exact congrArg UInt8.toNat (getElem!_pos d i h).symm
theorem gb_out (s : ByteArray) (i : Nat) (h : s.size ≤ i) : gb s i = 0 := by
  cases s with
  | mk d =>
    have h1 : ¬ i < d.size := by simpa [ByteArray.size] using h
    have : d[i]! = default := getElem!_neg d i h1
    show (d[i]!).toNat = 0
    rw [this]
    rfl
theorem bt_gb (s : ByteArray) (i : Nat) (h : i < s.size) : bt s (i : Int) = (gb s i : Int) := by
  have := bt_at s (i : Int) (by simpa using h)
  rw [← this]
  simp only [Int.toNat_natCast]
  rw [gb_get]
theorem gb_extract (s : ByteArray) (a e j : Nat) (h : a + j < e) (he : e ≤ s.size) : gb (s.extract a e) j = gb s (a + j) := by
  have h1 : j < (s.extract a e).size := by rw [ByteArray.size_extract]; omega
  rw [← gb_get _ _ h1, ← gb_get _ _ (by omega)]
  exact congrArg UInt8.toNat (ByteArray.getElem_extract _)
theorem ext_gb (s t : ByteArray) (hl : s.size = t.size) (h : ∀ i, i < s.size → gb s i = gb t i) : s = t := by
  apply ByteArray.ext_getElem hl
  intro i h1 h2
  have := h i h1
  rw [← gb_get s i h1, ← gb_get t i h2] at this
  exact UInt8.toNat_inj.1 this

/-! ### one rune -/
theorem dec_at (s : ByteArray) (p : Nat) : Utf8.decode s p = Lib.decodeN (s.size - p) (gb s p) (gb s (p + 1)) (gb s (p + 2)) (gb s (p + 3)) := Lib.decode_at s p
theorem dec_extract (s : ByteArray) (p : Nat) (h : p ≤ s.size) : Utf8.decode (s.extract p s.size) 0 = Utf8.decode s p := by
  have hz : (s.extract p s.size).size = s.size - p := by rw [ByteArray.size_extract]; omega
  have hg : ∀ j, gb (s.extract p s.size) j = gb s (p + j) := by
    intro j
    by_cases hj : p + j < s.size
    · exact gb_extract s p s.size j hj (Nat.le_refl _)
    · rw [gb_out _ _ (by omega), gb_out _ _ (by omega)]
  rw [dec_at, dec_at, hz, hg, hg, hg, hg]
  simp only [Nat.sub_zero, Nat.zero_add, Nat.add_zero]
theorem decN_w (n b0 b1 b2 b3 : Nat) (hn : 1 ≤ n) : 1 ≤ (Lib.decodeN n b0 b1 b2 b3).2 ∧ (Lib.decodeN n b0 b1 b2 b3).2 ≤ n := by
  unfold Lib.decodeN
  repeat' split
  all_goals (simp only; omega)
theorem dec_w (s : ByteArray) (p : Nat) (h : p < s.size) : 1 ≤ (Utf8.decode s p).2 ∧ p + (Utf8.decode s p).2 ≤ s.size := by
  rw [dec_at]
  have := decN_w (s.size - p) (gb s p) (gb s (p + 1)) (gb s (p + 2)) (gb s (p + 3)) (by omega)
  omega
theorem dec_ascii (s : ByteArray) (p : Nat) (h : gb s p < 128) : Utf8.decode s p = (gb s p, 1) := by
  rw [dec_at]
  unfold Lib.decodeN
  rw [if_pos h]
theorem dec_high (s : ByteArray) (p : Nat) (h : 128 ≤ gb s p) : 128 ≤ (Utf8.decode s p).1 := by
  rw [dec_at]
  unfold Lib.decodeN
  repeat' split
  all_goals (simp only; omega)
theorem dec_le (s : ByteArray) (p : Nat) : (Utf8.decode s p).1 ≤ 1114111 := by
  have h0 := gb_lt s p
  rw [dec_at]
  unfold Lib.decodeN
  repeat' split
  all_goals (simp only; omega)
/-- Behind a byte above ASCII's, all of the rune's are. -/
theorem dec_bytes (s : ByteArray) (p j : Nat) (h : 128 ≤ gb s p) (h1 : p ≤ j) (h2 : j < p + (Utf8.decode s p).2) : 128 ≤ gb s j := by
  rw [dec_at] at h2
  have l1 := gb_lt s (p + 1)
  have l2 := gb_lt s (p + 2)
  have l3 := gb_lt s (p + 3)
  obtain ⟨k, rfl⟩ : ∃ k, j = p + k := ⟨j - p, by omega⟩
  have hk : k < (Lib.decodeN (s.size - p) (gb s p) (gb s (p + 1)) (gb s (p + 2)) (gb s (p + 3))).2 := by omega
  clear h2
  unfold Lib.decodeN at hk
  have key : k = 0 ∨ (k = 1 ∧ gb s (p + 1) / 64 = 2) ∨ (k = 2 ∧ gb s (p + 2) / 64 = 2) ∨ (k = 3 ∧ gb s (p + 3) / 64 = 2) := by
    repeat' split at hk
    all_goals (simp only at hk; omega)
  rcases key with rfl | ⟨rfl, h⟩ | ⟨rfl, h⟩ | ⟨rfl, h⟩
  · exact h
  all_goals omega
/-- No rune stands at p. -/
def brokenB (s : ByteArray) (p : Nat) : Bool := (Utf8.decode s p).1 == 65533 && (Utf8.decode s p).2 == 1
theorem broken_no (s : ByteArray) (p : Nat) (h : (Utf8.decode s p).1 ≠ 65533) : brokenB s p = false := by
  unfold brokenB
  rw [beq_eq_false_iff_ne.2 h]
  rfl
theorem broken_yes (s : ByteArray) (p : Nat) (h : (Utf8.decode s p).1 = 65533) : brokenB s p = ((Utf8.decode s p).2 == 1) := by
  unfold brokenB
  rw [beq_iff_eq.2 h]
  rfl

/-! ### all runes from a place on: place, rune, width -/
def decs (s : ByteArray) : Nat → Nat → List (Nat × Nat × Nat)
  | 0, _ => []
  | f + 1, p => if p < s.size then (p, (Utf8.decode s p).1, (Utf8.decode s p).2) :: decs s f (p + (Utf8.decode s p).2) else []
theorem decs_fuel (s : ByteArray) : ∀ (f g p : Nat), s.size ≤ p + f → s.size ≤ p + g → decs s f p = decs s g p
  | 0, 0, p, _, _ => rfl
  | 0, g + 1, p, h, _ => by unfold decs; rw [if_neg (by omega)]
  | f + 1, 0, p, _, h => by unfold decs; rw [if_neg (by omega)]
  | f + 1, g + 1, p, hf, hg => by
    unfold decs
    by_cases hp : p < s.size
    · rw [if_pos hp, if_pos hp]
      have := dec_w s p hp
      rw [decs_fuel s f g (p + (Utf8.decode s p).2) (by omega) (by omega)]
    · rw [if_neg hp, if_neg hp]
def tail (s : ByteArray) (p : Nat) : List (Nat × Nat × Nat) := decs s (s.size - p) p
theorem tail_end (s : ByteArray) (p : Nat) (h : ¬ p < s.size) : tail s p = [] := by
  unfold tail
  rw [show s.size - p = 0 by omega]
  rfl
theorem tail_step (s : ByteArray) (p : Nat) (h : p < s.size) : tail s p = (p, (Utf8.decode s p).1, (Utf8.decode s p).2) :: tail s (p + (Utf8.decode s p).2) := by
  unfold tail
  obtain ⟨f, hf⟩ : ∃ f, s.size - p = f + 1 := ⟨s.size - p - 1, by omega⟩
  have := dec_w s p h
  rw [hf]
  conv => lhs; unfold decs
  rw [if_pos h]
  congr 1
  exact decs_fuel s _ _ _ (by omega) (by omega)
/-- An induction along the runes. -/
theorem tail_ind (s : ByteArray) (P : Nat → Prop) (h0 : ∀ p, ¬ p < s.size → P p) (h1 : ∀ p, p < s.size → P (p + (Utf8.decode s p).2) → P p) : ∀ p, P p := by
  intro p
  obtain ⟨d, hd⟩ : ∃ d, s.size - p ≤ d := ⟨_, Nat.le_refl _⟩
  induction d generalizing p with
  | zero => exact h0 p (by omega)
  | succ d ih =>
    by_cases hp : p < s.size
    · have := dec_w s p hp
      exact h1 p hp (ih _ (by omega))
    · exact h0 p hp

/-! ### valid, count, plain -/
def validT (s : ByteArray) (p : Nat) : Bool := (tail s p).all fun x => !(x.2.1 == 65533 && x.2.2 == 1)
def validB (s : ByteArray) : Bool := validT s 0
theorem validT_end (s : ByteArray) (p : Nat) (h : ¬ p < s.size) : validT s p = true := by unfold validT; rw [tail_end s p h]; rfl
theorem validT_step (s : ByteArray) (p : Nat) (h : p < s.size) : validT s p = (!brokenB s p && validT s (p + (Utf8.decode s p).2)) := by
  unfold validT
  rw [tail_step s p h]
  rfl
def cntT (s : ByteArray) (p : Nat) : Nat := (tail s p).length
def cnt (s : ByteArray) : Nat := cntT s 0
theorem cntT_end (s : ByteArray) (p : Nat) (h : ¬ p < s.size) : cntT s p = 0 := by unfold cntT; rw [tail_end s p h]; rfl
theorem cntT_step (s : ByteArray) (p : Nat) (h : p < s.size) : cntT s p = cntT s (p + (Utf8.decode s p).2) + 1 := by
  unfold cntT
  rw [tail_step s p h]
  rfl
theorem cntT_le (s : ByteArray) : ∀ p, p + cntT s p ≤ max p s.size := by
  apply tail_ind s
  · intro p h; rw [cntT_end s p h]; omega
  · intro p h ih
    have := dec_w s p h
    rw [cntT_step s p h]
    omega
theorem cnt_le (s : ByteArray) : cnt s ≤ s.size := by have := cntT_le s 0; unfold cnt; omega
def plainR (r : Nat) : Bool := !(r == 35 || r == 64 || r == 58 || r == 42 || r == 44 || r == 40 || r == 41 || r == 34 || r == 92 || r == 59) && (decide (32 < r) && (decide (r < 127) || decide (160 < r)))
def plainT (s : ByteArray) (p : Nat) : Bool := (tail s p).all fun x => plainR x.2.1
theorem plainT_end (s : ByteArray) (p : Nat) (h : ¬ p < s.size) : plainT s p = true := by unfold plainT; rw [tail_end s p h]; rfl
theorem plainT_step (s : ByteArray) (p : Nat) (h : p < s.size) : plainT s p = (plainR (Utf8.decode s p).1 && plainT s (p + (Utf8.decode s p).2)) := by
  unfold plainT
  rw [tail_step s p h]
  rfl
def idB (s : ByteArray) : Bool := validB s && (decide (1 ≤ cnt s) && decide (cnt s ≤ 24)) && plainT s 0
def runesT (s : ByteArray) (p : Nat) : List Int := (tail s p).map fun x => (x.2.1 : Int)
theorem runesT_end (s : ByteArray) (p : Nat) (h : ¬ p < s.size) : runesT s p = [] := by unfold runesT; rw [tail_end s p h]; rfl
theorem runesT_step (s : ByteArray) (p : Nat) (h : p < s.size) : runesT s p = ((Utf8.decode s p).1 : Int) :: runesT s (p + (Utf8.decode s p).2) := by
  unfold runesT
  rw [tail_step s p h]
  rfl
theorem runesT_length (s : ByteArray) (p : Nat) : (runesT s p).length = cntT s p := by simp [runesT, cntT]

/-! ### names -/
def smallR (r : Nat) : Bool := decide (97 ≤ r) && decide (r ≤ 122)
def nmR (i r : Nat) : Bool := smallR r || (decide (0 < i) && ((decide (48 ≤ r) && decide (r ≤ 57)) || r == 95))
def nmAll (s : ByteArray) (p : Nat) : Bool := (List.range s.size).all fun i => decide (i < p) || nmR i (gb s i)
def nameB (s : ByteArray) : Bool := nmAll s 0 && (decide (1 ≤ s.size) && decide (s.size ≤ 16))
theorem nmR_low (i r : Nat) (h : nmR i r = true) : r < 128 := by
  unfold nmR smallR at h
  simp at h
  omega
theorem nm_dec (s : ByteArray) (i p : Nat) : nmR i (Utf8.decode s p).1 = nmR i (gb s p) := by
  by_cases h : gb s p < 128
  · rw [dec_ascii s p h]
  · have h1 := dec_high s p (by omega)
    cases h2 : nmR i (Utf8.decode s p).1 with
    | true => have := nmR_low _ _ h2; omega
    | false =>
      cases h3 : nmR i (gb s p) with
      | true => have := nmR_low _ _ h3; omega
      | false => rfl
theorem nm_one (s : ByteArray) (i p : Nat) (h : nmR i (Utf8.decode s p).1 = true) : (Utf8.decode s p).2 = 1 := by
  rw [nm_dec] at h
  rw [dec_ascii s p (nmR_low _ _ h)]
theorem nmAll_end (s : ByteArray) (p : Nat) (h : ¬ p < s.size) : nmAll s p = true := by
  unfold nmAll
  rw [List.all_eq_true]
  intro i hi
  simp at hi
  simp
  left
  omega
theorem nmAll_step (s : ByteArray) (p : Nat) (h : p < s.size) : nmAll s p = (nmR p (gb s p) && nmAll s (p + 1)) := by
  rw [Bool.eq_iff_iff]
  unfold nmAll
  simp only [List.all_eq_true, Bool.and_eq_true, List.mem_range, Bool.or_eq_true, decide_eq_true_eq]
  constructor
  · intro hh
    refine ⟨?_, fun i hi => ?_⟩
    · rcases hh p h with h1 | h1
      · omega
      · exact h1
    · by_cases e : i < p + 1
      · exact .inl e
      · rcases hh i hi with h1 | h1
        · omega
        · exact .inr h1
  · rintro ⟨h1, h2⟩ i hi
    by_cases e : i < p
    · exact .inl e
    · by_cases e2 : i = p
      · subst e2; exact .inr h1
      · rcases h2 i hi with h3 | h3
        · omega
        · exact .inr h3
end Go.Proofs.Ytcgfdnhocdcfjaa.Utf
