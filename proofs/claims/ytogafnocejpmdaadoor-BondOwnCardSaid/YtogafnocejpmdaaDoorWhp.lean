/- Subjects and objects: plain facts on cutting and on texts. No program. -/
import Derived.Test.YtogafnocejpmdaaDoorUtf
namespace Go.Proofs.YtogafnocejpmdaaDoor.Utf
open Go.Proofs.YtogafnocejpmdaaDoorW.PrintWords
set_option linter.unusedVariables false
set_option linter.unusedSimpArgs false

/-! ### the first such byte -/
def ix (s : ByteArray) (c : Nat) : Nat := ((List.range s.size).find? fun i => gb s i == c).getD s.size
theorem ix_spec (s : ByteArray) (c : Nat) : ix s c ≤ s.size ∧ (∀ j, j < ix s c → gb s j ≠ c) ∧ (ix s c < s.size → gb s (ix s c) = c) := by
  unfold ix
  cases h : (List.range s.size).find? fun i => gb s i == c with
  | none =>
    rw [List.find?_eq_none] at h
    refine ⟨Nat.le_refl _, fun j hj => ?_, fun hh => absurd hh (Nat.lt_irrefl _)⟩
    have := h j (by simpa using hj)
    simpa using this
  | some k =>
    rw [List.find?_range_eq_some] at h
    obtain ⟨h1, h2, h3⟩ := h
    simp only [Option.getD_some]
    have h2' : k < s.size := by simpa using h2
    refine ⟨Nat.le_of_lt h2', fun j hj => ?_, fun _ => by simpa using h1⟩
    have := h3 j hj
    simpa using this
theorem ix_hit (s : ByteArray) (c k : Nat) (hk : k < s.size) (h : gb s k = c) (hno : ∀ j, j < k → gb s j ≠ c) : ix s c = k := by
  obtain ⟨a, b, d⟩ := ix_spec s c
  by_cases h1 : ix s c < k
  · exact absurd (d (by omega)) (hno _ h1)
  · by_cases h2 : k < ix s c
    · exact absurd h (b k h2)
    · omega
theorem ix_none (s : ByteArray) (c : Nat) (hno : ∀ j, j < s.size → gb s j ≠ c) : ix s c = s.size := by
  obtain ⟨a, b, d⟩ := ix_spec s c
  by_cases h1 : ix s c < s.size
  · exact absurd (d h1) (hno _ h1)
  · omega
def cutA (s : ByteArray) (c : Nat) : ByteArray := if ix s c < s.size then s.extract 0 (ix s c) else s
def cutB (s : ByteArray) (c : Nat) : ByteArray := if ix s c < s.size then s.extract (ix s c + 1) s.size else ⟨#[]⟩
def cutOk (s : ByteArray) (c : Nat) : Bool := decide (ix s c < s.size)
theorem cutA_size (s : ByteArray) (c : Nat) : (cutA s c).size ≤ s.size := by
  unfold cutA
  split
  · rw [ByteArray.size_extract]; omega
  · exact Nat.le_refl _
theorem cutB_size (s : ByteArray) (c : Nat) : (cutB s c).size ≤ s.size := by
  unfold cutB
  split
  · rw [ByteArray.size_extract]; omega
  · exact Nat.zero_le _
/-- A rune below 128 is its byte; behind another one no byte is such. -/
theorem dec_is (s : ByteArray) (p c : Nat) (hc : c < 128) : (Utf8.decode s p).1 = c ↔ gb s p = c := by
  by_cases h : gb s p < 128
  · rw [dec_ascii s p h]
  · have := dec_high s p (by omega)
    omega
theorem dec_not (s : ByteArray) (p c : Nat) (hc : c < 128) (h : (Utf8.decode s p).1 ≠ c) : ∀ j, p ≤ j → j < p + (Utf8.decode s p).2 → gb s j ≠ c := by
  intro j h1 h2
  by_cases hg : gb s p < 128
  · rw [dec_ascii s p hg] at h2 h
    simp only at h2 h
    obtain rfl : j = p := by omega
    exact h
  · have := dec_bytes s p j (by omega) h1 h2
    omega

/-! ### bytes put behind each other -/
theorem gb_append (a b : ByteArray) (i : Nat) : gb (a ++ b) i = if i < a.size then gb a i else gb b (i - a.size) := by
  by_cases h : i < a.size
  · rw [if_pos h, ← gb_get _ _ (show i < (a ++ b).size by rw [ByteArray.size_append]; omega), ← gb_get _ _ h]
    exact congrArg UInt8.toNat (ByteArray.getElem_append_left h)
  · rw [if_neg h]
    by_cases h2 : i < (a ++ b).size
    · have h3 : i - a.size < b.size := by rw [ByteArray.size_append] at h2; omega
      rw [← gb_get _ _ h2, ← gb_get _ _ h3]
      exact congrArg UInt8.toNat (ByteArray.getElem_append_right (by omega))
    · rw [ByteArray.size_append] at h2
      rw [gb_out _ _ (by rw [ByteArray.size_append]; omega), gb_out _ _ (by omega)]
def one (c : UInt8) : ByteArray := ⟨#[c]⟩
theorem one_size (c : UInt8) : (one c).size = 1 := rfl
theorem gb_one (c : UInt8) : gb (one c) 0 = c.toNat := rfl
theorem cut_parts (s : ByteArray) (c : UInt8) (h : cutOk s c.toNat = true) : s = (cutA s c.toNat ++ one c) ++ cutB s c.toNat := by
  have hl : ix s c.toNat < s.size := of_decide_eq_true h
  obtain ⟨_, _, hd⟩ := ix_spec s c.toNat
  have hg := hd hl
  unfold cutA cutB
  rw [if_pos hl, if_pos hl]
  have hz : ((s.extract 0 (ix s c.toNat) ++ one c) ++ s.extract (ix s c.toNat + 1) s.size).size = s.size := by
    simp only [ByteArray.size_append, ByteArray.size_extract, one_size]; omega
  apply ext_gb _ _ hz.symm
  intro i hi
  have hz1 : (s.extract 0 (ix s c.toNat)).size = ix s c.toNat := by rw [ByteArray.size_extract]; omega
  rw [gb_append, gb_append]
  simp only [ByteArray.size_append, hz1, one_size]
  by_cases h1 : i < ix s c.toNat
  · rw [if_pos (by omega), if_pos h1, gb_extract s 0 _ _ (by omega) (by omega), Nat.zero_add]
  · by_cases h2 : i = ix s c.toNat
    · rw [if_pos (by omega), if_neg h1, h2, Nat.sub_self, gb_one, hg]
    · rw [if_neg (by omega), gb_extract s _ _ _ (by omega) (Nat.le_refl _)]
      congr 1
      omega
theorem cut_none (s : ByteArray) (c : Nat) (h : cutOk s c = false) : cutA s c = s ∧ cutB s c = ⟨#[]⟩ := by
  have hl : ¬ ix s c < s.size := of_decide_eq_false h
  unfold cutA cutB
  rw [if_neg hl, if_neg hl]
  exact ⟨rfl, rfl⟩
theorem cut_append (a b : ByteArray) (c : UInt8) (h : ∀ j, j < a.size → gb a j ≠ c.toNat) : cutA ((a ++ one c) ++ b) c.toNat = a ∧ cutB ((a ++ one c) ++ b) c.toNat = b ∧ cutOk ((a ++ one c) ++ b) c.toNat = true := by
  have hz : ((a ++ one c) ++ b).size = a.size + 1 + b.size := by simp only [ByteArray.size_append, one_size]
  have hi : ix ((a ++ one c) ++ b) c.toNat = a.size := by
    refine ix_hit _ _ _ (by omega) ?_ (fun j hj => ?_)
    · rw [gb_append, ByteArray.size_append, one_size, if_pos (by omega), gb_append, if_neg (by omega), Nat.sub_self, gb_one]
    · rw [gb_append, ByteArray.size_append, one_size, if_pos (by omega), gb_append, if_pos hj]
      exact h j hj
  unfold cutA cutB cutOk
  rw [hi, hz, if_pos (by omega), if_pos (by omega), decide_eq_true (by omega)]
  refine ⟨?_, ?_, rfl⟩
  · have hz1 : (((a ++ one c) ++ b).extract 0 a.size).size = a.size := by rw [ByteArray.size_extract, hz]; omega
    apply ext_gb _ _ hz1
    intro i hi
    rw [hz1] at hi
    rw [gb_extract _ 0 _ _ (by omega) (by omega), Nat.zero_add, gb_append, ByteArray.size_append, one_size, if_pos (by omega), gb_append, if_pos hi]
  · have hz1 : (((a ++ one c) ++ b).extract (a.size + 1) (a.size + 1 + b.size)).size = b.size := by rw [ByteArray.size_extract, hz]; omega
    apply ext_gb _ _ hz1
    intro i hi
    rw [hz1] at hi
    rw [gb_extract _ _ _ _ (by omega) (by omega), gb_append, ByteArray.size_append, one_size, if_neg (by omega)]
    congr 1
    omega
theorem cut_absent (a : ByteArray) (c : Nat) (h : ∀ j, j < a.size → gb a j ≠ c) : cutA a c = a ∧ cutB a c = ⟨#[]⟩ ∧ cutOk a c = false := by
  have hi := ix_none a c h
  unfold cutA cutB cutOk
  rw [hi, if_neg (Nat.lt_irrefl _), if_neg (Nat.lt_irrefl _)]
  exact ⟨rfl, rfl, decide_eq_false (Nat.lt_irrefl _)⟩

/-! ### which bytes names and ids have -/
theorem name_byte (s : ByteArray) (h : nameB s = true) (j : Nat) (hj : j < s.size) : (97 ≤ gb s j ∧ gb s j ≤ 122) ∨ (48 ≤ gb s j ∧ gb s j ≤ 57) ∨ gb s j = 95 := by
  unfold nameB nmAll at h
  simp only [Bool.and_eq_true, List.all_eq_true, List.mem_range, Bool.or_eq_true, decide_eq_true_eq] at h
  rcases h.1 j hj with h1 | h1
  · omega
  · unfold nmR smallR at h1
    simp at h1
    omega
theorem name_ne (s : ByteArray) (h : nameB s = true) (c : Nat) (hc : c < 48 ∨ (57 < c ∧ c < 95) ∨ 122 < c) : ∀ j, j < s.size → gb s j ≠ c := by
  intro j hj
  have := name_byte s h j hj
  omega
theorem name_size (s : ByteArray) (h : nameB s = true) : 1 ≤ s.size ∧ s.size ≤ 16 := by
  unfold nameB at h
  simp only [Bool.and_eq_true, decide_eq_true_eq] at h
  exact h.2
theorem plainT_ne (s : ByteArray) (c : Nat) (hc : c < 128) (hp : plainR c = false) : ∀ p, plainT s p = true → ∀ j, p ≤ j → j < s.size → gb s j ≠ c := by
  apply tail_ind s
  · intro p h _ j h1 h2; omega
  · intro p h ih hpl j h1 h2
    rw [plainT_step s p h, Bool.and_eq_true] at hpl
    have hne : (Utf8.decode s p).1 ≠ c := fun e => by rw [e, hp] at hpl; cases hpl.1
    by_cases h3 : j < p + (Utf8.decode s p).2
    · exact dec_not s p c hc hne j h1 h3
    · exact ih hpl.2 j (by omega) h2
theorem id_ne (s : ByteArray) (h : idB s = true) (c : Nat) (hc : c < 128) (hp : plainR c = false) : ∀ j, j < s.size → gb s j ≠ c := by
  intro j hj
  unfold idB at h
  simp only [Bool.and_eq_true] at h
  exact plainT_ne s c hc hp 0 h.2 j (Nat.zero_le _) hj
theorem id_size (s : ByteArray) (h : idB s = true) : 1 ≤ s.size := by
  unfold idB at h
  simp only [Bool.and_eq_true, decide_eq_true_eq] at h
  have := cnt_le s
  omega
end Go.Proofs.YtogafnocejpmdaaDoor.Utf
