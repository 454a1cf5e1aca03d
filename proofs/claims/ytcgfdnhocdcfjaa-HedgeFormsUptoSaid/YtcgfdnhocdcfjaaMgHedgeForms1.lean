/- Texts of this claim, merged: Utf, Cmp, Htp, Hor, Arr, Row, Only, Qt, Qg, Qy. -/
import Derived.Lib.DecodeN
import Derived.Lib.Strings
import Derived.Test.YtcgfdnhocdcfjaaWWords
import Derived.Lib.Bytealg
import Derived.Test.YtcgfdnhocdcfjaaWMore
import Derived.Laws.Rows
import Derived.Laws.Tables
import Derived.Deep.WholeRow
import Derived.Laws.CopyOwn
import Derived.Deep.AppendLies
import Derived.Maps.AppendAt
import Derived.StillTail
import Derived.Deep.Quiet
import Derived.Deep.QuietTactic
/- UTF-8 texts: plain facts on how the model decodes. No program. -/
namespace Go.Proofs.Ytcgfdnhocdcfjaa.Utf
open Go.Proofs.YtcgfdnhocdcfjaaW.PrintWords
set_option linter.unusedVariables false
set_option linter.unusedSimpArgs false

/-! ### bytes -/
def gb (s : ByteArray) (i : Nat) : Nat := (s.get! i).toNat
theorem gb_lt (s : ByteArray) (i : Nat) : gb s i < 256 := (s.get! i).toNat_lt
theorem gb_get (s : ByteArray) (i : Nat) (h : i < s.size) : (s[i]'h).toNat = gb s i := by
  cases s with
  | mk d => exact congrArg UInt8.toNat (getElem!_pos d i h).symm
theorem gb_out (s : ByteArray) (i : Nat) (h : s.size ≤ i) : gb s i = 0 := by
  cases s with
  | mk d =>
    have h1 : ¬ i < d.size := by simpa [ByteArray.size] using h
    have : d[i]! = default := getElem!_neg d i h1
    show (d[i]!).toNat = 0
    rw [this]
    rfl
theorem bt_gb (s : ByteArray) (i : Nat) (h : i < s.size) : bt s (i : Int) = (gb s i : Int) := by
  have := bt_at s (i : Int) (by simpa using h)
  rw [← this]
  simp only [Int.toNat_natCast]
  rw [gb_get]
theorem gb_extract (s : ByteArray) (a e j : Nat) (h : a + j < e) (he : e ≤ s.size) : gb (s.extract a e) j = gb s (a + j) := by
  have h1 : j < (s.extract a e).size := by rw [ByteArray.size_extract]; omega
  rw [← gb_get _ _ h1, ← gb_get _ _ (by omega)]
  exact congrArg UInt8.toNat (ByteArray.getElem_extract _)
theorem ext_gb (s t : ByteArray) (hl : s.size = t.size) (h : ∀ i, i < s.size → gb s i = gb t i) : s = t := by
  apply ByteArray.ext_getElem hl
  intro i h1 h2
  have := h i h1
  rw [← gb_get s i h1, ← gb_get t i h2] at this
  exact UInt8.toNat_inj.1 this

/-! ### one rune -/
theorem dec_at (s : ByteArray) (p : Nat) : Utf8.decode s p = Lib.decodeN (s.size - p) (gb s p) (gb s (p + 1)) (gb s (p + 2)) (gb s (p + 3)) := Lib.decode_at s p
theorem dec_extract (s : ByteArray) (p : Nat) (h : p ≤ s.size) : Utf8.decode (s.extract p s.size) 0 = Utf8.decode s p := by
  have hz : (s.extract p s.size).size = s.size - p := by rw [ByteArray.size_extract]; omega
  have hg : ∀ j, gb (s.extract p s.size) j = gb s (p + j) := by
    intro j
    by_cases hj : p + j < s.size
    · exact gb_extract s p s.size j hj (Nat.le_refl _)
    · rw [gb_out _ _ (by omega), gb_out _ _ (by omega)]
  rw [dec_at, dec_at, hz, hg, hg, hg, hg]
  simp only [Nat.sub_zero, Nat.zero_add, Nat.add_zero]
theorem decN_w (n b0 b1 b2 b3 : Nat) (hn : 1 ≤ n) : 1 ≤ (Lib.decodeN n b0 b1 b2 b3).2 ∧ (Lib.decodeN n b0 b1 b2 b3).2 ≤ n := by
  unfold Lib.decodeN
  repeat' split
  all_goals (simp only; omega)
theorem dec_w (s : ByteArray) (p : Nat) (h : p < s.size) : 1 ≤ (Utf8.decode s p).2 ∧ p + (Utf8.decode s p).2 ≤ s.size := by
  rw [dec_at]
  have := decN_w (s.size - p) (gb s p) (gb s (p + 1)) (gb s (p + 2)) (gb s (p + 3)) (by omega)
  omega
theorem dec_ascii (s : ByteArray) (p : Nat) (h : gb s p < 128) : Utf8.decode s p = (gb s p, 1) := by
  rw [dec_at]
  unfold Lib.decodeN
  rw [if_pos h]
theorem dec_high (s : ByteArray) (p : Nat) (h : 128 ≤ gb s p) : 128 ≤ (Utf8.decode s p).1 := by
  rw [dec_at]
  unfold Lib.decodeN
  repeat' split
  all_goals (simp only; omega)
theorem dec_le (s : ByteArray) (p : Nat) : (Utf8.decode s p).1 ≤ 1114111 := by
  have h0 := gb_lt s p
  rw [dec_at]
  unfold Lib.decodeN
  repeat' split
  all_goals (simp only; omega)
/-- Behind a byte above ASCII's, all of the rune's are. -/
theorem dec_bytes (s : ByteArray) (p j : Nat) (h : 128 ≤ gb s p) (h1 : p ≤ j) (h2 : j < p + (Utf8.decode s p).2) : 128 ≤ gb s j := by
  rw [dec_at] at h2
  have l1 := gb_lt s (p + 1)
  have l2 := gb_lt s (p + 2)
  have l3 := gb_lt s (p + 3)
  obtain ⟨k, rfl⟩ : ∃ k, j = p + k := ⟨j - p, by omega⟩
  have hk : k < (Lib.decodeN (s.size - p) (gb s p) (gb s (p + 1)) (gb s (p + 2)) (gb s (p + 3))).2 := by omega
  clear h2
  unfold Lib.decodeN at hk
  have key : k = 0 ∨ (k = 1 ∧ gb s (p + 1) / 64 = 2) ∨ (k = 2 ∧ gb s (p + 2) / 64 = 2) ∨ (k = 3 ∧ gb s (p + 3) / 64 = 2) := by
    repeat' split at hk
    all_goals (simp only at hk; omega)
  rcases key with rfl | ⟨rfl, h⟩ | ⟨rfl, h⟩ | ⟨rfl, h⟩
  · exact h
  all_goals omega
/-- No rune stands at p. -/
def brokenB (s : ByteArray) (p : Nat) : Bool := (Utf8.decode s p).1 == 65533 && (Utf8.decode s p).2 == 1
theorem broken_no (s : ByteArray) (p : Nat) (h : (Utf8.decode s p).1 ≠ 65533) : brokenB s p = false := by
  unfold brokenB
  rw [beq_eq_false_iff_ne.2 h]
  rfl
theorem broken_yes (s : ByteArray) (p : Nat) (h : (Utf8.decode s p).1 = 65533) : brokenB s p = ((Utf8.decode s p).2 == 1) := by
  unfold brokenB
  rw [beq_iff_eq.2 h]
  rfl

/-! ### all runes from a place on: place, rune, width -/
def decs (s : ByteArray) : Nat → Nat → List (Nat × Nat × Nat)
  | 0, _ => []
  | f + 1, p => if p < s.size then (p, (Utf8.decode s p).1, (Utf8.decode s p).2) :: decs s f (p + (Utf8.decode s p).2) else []
theorem decs_fuel (s : ByteArray) : ∀ (f g p : Nat), s.size ≤ p + f → s.size ≤ p + g → decs s f p = decs s g p
  | 0, 0, p, _, _ => rfl
  | 0, g + 1, p, h, _ => by unfold decs; rw [if_neg (by omega)]
  | f + 1, 0, p, _, h => by unfold decs; rw [if_neg (by omega)]
  | f + 1, g + 1, p, hf, hg => by
    unfold decs
    by_cases hp : p < s.size
    · rw [if_pos hp, if_pos hp]
      have := dec_w s p hp
      rw [decs_fuel s f g (p + (Utf8.decode s p).2) (by omega) (by omega)]
    · rw [if_neg hp, if_neg hp]
def tail (s : ByteArray) (p : Nat) : List (Nat × Nat × Nat) := decs s (s.size - p) p
theorem tail_end (s : ByteArray) (p : Nat) (h : ¬ p < s.size) : tail s p = [] := by
  unfold tail
  rw [show s.size - p = 0 by omega]
  rfl
theorem tail_step (s : ByteArray) (p : Nat) (h : p < s.size) : tail s p = (p, (Utf8.decode s p).1, (Utf8.decode s p).2) :: tail s (p + (Utf8.decode s p).2) := by
  unfold tail
  obtain ⟨f, hf⟩ : ∃ f, s.size - p = f + 1 := ⟨s.size - p - 1, by omega⟩
  have := dec_w s p h
  rw [hf]
  conv => lhs; unfold decs
  rw [if_pos h]
  congr 1
  exact decs_fuel s _ _ _ (by omega) (by omega)
/-- An induction along the runes. -/
theorem tail_ind (s : ByteArray) (P : Nat → Prop) (h0 : ∀ p, ¬ p < s.size → P p) (h1 : ∀ p, p < s.size → P (p + (Utf8.decode s p).2) → P p) : ∀ p, P p := by
  intro p
  obtain ⟨d, hd⟩ : ∃ d, s.size - p ≤ d := ⟨_, Nat.le_refl _⟩
  induction d generalizing p with
  | zero => exact h0 p (by omega)
  | succ d ih =>
    by_cases hp : p < s.size
    · have := dec_w s p hp
      exact h1 p hp (ih _ (by omega))
    · exact h0 p hp

/-! ### valid, count, plain -/
def validT (s : ByteArray) (p : Nat) : Bool := (tail s p).all fun x => !(x.2.1 == 65533 && x.2.2 == 1)
def validB (s : ByteArray) : Bool := validT s 0
theorem validT_end (s : ByteArray) (p : Nat) (h : ¬ p < s.size) : validT s p = true := by unfold validT; rw [tail_end s p h]; rfl
theorem validT_step (s : ByteArray) (p : Nat) (h : p < s.size) : validT s p = (!brokenB s p && validT s (p + (Utf8.decode s p).2)) := by
  unfold validT
  rw [tail_step s p h]
  rfl
def cntT (s : ByteArray) (p : Nat) : Nat := (tail s p).length
def cnt (s : ByteArray) : Nat := cntT s 0
theorem cntT_end (s : ByteArray) (p : Nat) (h : ¬ p < s.size) : cntT s p = 0 := by unfold cntT; rw [tail_end s p h]; rfl
theorem cntT_step (s : ByteArray) (p : Nat) (h : p < s.size) : cntT s p = cntT s (p + (Utf8.decode s p).2) + 1 := by
  unfold cntT
  rw [tail_step s p h]
  rfl
theorem cntT_le (s : ByteArray) : ∀ p, p + cntT s p ≤ max p s.size := by
  apply tail_ind s
  · intro p h; rw [cntT_end s p h]; omega
  · intro p h ih
    have := dec_w s p h
    rw [cntT_step s p h]
    omega
theorem cnt_le (s : ByteArray) : cnt s ≤ s.size := by have := cntT_le s 0; unfold cnt; omega
def plainR (r : Nat) : Bool := !(r == 35 || r == 64 || r == 58 || r == 42 || r == 44 || r == 40 || r == 41 || r == 34 || r == 92 || r == 59) && (decide (32 < r) && (decide (r < 127) || decide (160 < r)))
def plainT (s : ByteArray) (p : Nat) : Bool := (tail s p).all fun x => plainR x.2.1
theorem plainT_end (s : ByteArray) (p : Nat) (h : ¬ p < s.size) : plainT s p = true := by unfold plainT; rw [tail_end s p h]; rfl
theorem plainT_step (s : ByteArray) (p : Nat) (h : p < s.size) : plainT s p = (plainR (Utf8.decode s p).1 && plainT s (p + (Utf8.decode s p).2)) := by
  unfold plainT
  rw [tail_step s p h]
  rfl
def idB (s : ByteArray) : Bool := validB s && (decide (1 ≤ cnt s) && decide (cnt s ≤ 24)) && plainT s 0
def runesT (s : ByteArray) (p : Nat) : List Int := (tail s p).map fun x => (x.2.1 : Int)
theorem runesT_end (s : ByteArray) (p : Nat) (h : ¬ p < s.size) : runesT s p = [] := by unfold runesT; rw [tail_end s p h]; rfl
theorem runesT_step (s : ByteArray) (p : Nat) (h : p < s.size) : runesT s p = ((Utf8.decode s p).1 : Int) :: runesT s (p + (Utf8.decode s p).2) := by
  unfold runesT
  rw [tail_step s p h]
  rfl
theorem runesT_length (s : ByteArray) (p : Nat) : (runesT s p).length = cntT s p := by simp [runesT, cntT]

/-! ### names -/
def smallR (r : Nat) : Bool := decide (97 ≤ r) && decide (r ≤ 122)
def nmR (i r : Nat) : Bool := smallR r || (decide (0 < i) && ((decide (48 ≤ r) && decide (r ≤ 57)) || r == 95))
def nmAll (s : ByteArray) (p : Nat) : Bool := (List.range s.size).all fun i => decide (i < p) || nmR i (gb s i)
def nameB (s : ByteArray) : Bool := nmAll s 0 && (decide (1 ≤ s.size) && decide (s.size ≤ 16))
theorem nmR_low (i r : Nat) (h : nmR i r = true) : r < 128 := by
  unfold nmR smallR at h
  simp at h
  omega
theorem nm_dec (s : ByteArray) (i p : Nat) : nmR i (Utf8.decode s p).1 = nmR i (gb s p) := by
  by_cases h : gb s p < 128
  · rw [dec_ascii s p h]
  · have h1 := dec_high s p (by omega)
    cases h2 : nmR i (Utf8.decode s p).1 with
    | true => have := nmR_low _ _ h2; omega
    | false =>
      cases h3 : nmR i (gb s p) with
      | true => have := nmR_low _ _ h3; omega
      | false => rfl
theorem nm_one (s : ByteArray) (i p : Nat) (h : nmR i (Utf8.decode s p).1 = true) : (Utf8.decode s p).2 = 1 := by
  rw [nm_dec] at h
  rw [dec_ascii s p (nmR_low _ _ h)]
theorem nmAll_end (s : ByteArray) (p : Nat) (h : ¬ p < s.size) : nmAll s p = true := by
  unfold nmAll
  rw [List.all_eq_true]
  intro i hi
  simp at hi
  simp
  left
  omega
theorem nmAll_step (s : ByteArray) (p : Nat) (h : p < s.size) : nmAll s p = (nmR p (gb s p) && nmAll s (p + 1)) := by
  rw [Bool.eq_iff_iff]
  unfold nmAll
  simp only [List.all_eq_true, Bool.and_eq_true, List.mem_range, Bool.or_eq_true, decide_eq_true_eq]
  constructor
  · intro hh
    refine ⟨?_, fun i hi => ?_⟩
    · rcases hh p h with h1 | h1
      · omega
      · exact h1
    · by_cases e : i < p + 1
      · exact .inl e
      · rcases hh i hi with h1 | h1
        · omega
        · exact .inr h1
  · rintro ⟨h1, h2⟩ i hi
    by_cases e : i < p
    · exact .inl e
    · by_cases e2 : i = p
      · subst e2; exact .inr h1
      · rcases h2 i hi with h3 | h3
        · omega
        · exact .inr h3
end Go.Proofs.Ytcgfdnhocdcfjaa.Utf

/- Texts in order, by their bytes and by their runes: plain facts. No program. -/
namespace Go.Proofs.Ytcgfdnhocdcfjaa.Utf
set_option linter.unusedVariables false
set_option linter.unusedSimpArgs false

def intsV (a b : Int) : Int := if a < b then -1 else if b < a then 1 else 0
/-- Lists in order. -/
def cmpL : List Int → List Int → Int
  | [], [] => 0
  | [], _ :: _ => -1
  | _ :: _, [] => 1
  | a :: l, b :: m => if a = b then cmpL l m else intsV a b
theorem cmpL_nil_left (m : List Int) : cmpL [] m = intsV 0 m.length := by
  cases m with
  | nil => rfl
  | cons b m =>
    unfold intsV
    rw [if_pos (by simp)]
    rfl
theorem cmpL_nil_right (l : List Int) : cmpL l [] = intsV l.length 0 := by
  cases l with
  | nil => rfl
  | cons b m =>
    unfold intsV
    rw [if_neg (by simp only [List.length_cons]; omega), if_pos (by simp only [List.length_cons]; omega)]
    rfl
/-- The first place at which they differ decides. -/
theorem cmpL_at : ∀ (i : Nat) (l m : List Int), (∀ j, j < i → l.getD j 0 = m.getD j 0) → i < l.length → i < m.length → l.getD i 0 ≠ m.getD i 0 → cmpL l m = intsV (l.getD i 0) (m.getD i 0)
  | i, [], m, _, h, _, _ => absurd h (Nat.not_lt_zero _)
  | i, _ :: _, [], _, _, h, _ => absurd h (Nat.not_lt_zero _)
  | 0, a :: l, b :: m, _, _, _, h => by
    simp only [List.getD_cons_zero] at h ⊢
    simp only [cmpL]
    rw [if_neg h]
  | i + 1, a :: l, b :: m, he, h1, h2, h => by
    have h0 : a = b := he 0 (by omega)
    simp only [List.getD_cons_succ] at h ⊢
    simp only [cmpL]
    rw [if_pos h0]
    exact cmpL_at i l m (fun j hj => by simpa using he (j + 1) (by omega)) (by simpa using h1) (by simpa using h2) h
theorem cmpL_len : ∀ (l m : List Int), (∀ j, j < l.length → j < m.length → l.getD j 0 = m.getD j 0) → cmpL l m = intsV l.length m.length
  | [], m, _ => by simpa using cmpL_nil_left m
  | a :: l, [], _ => by simpa using cmpL_nil_right (a :: l)
  | a :: l, b :: m, h => by
    have h0 : a = b := h 0 (by simp) (by simp)
    simp only [cmpL]
    rw [if_pos h0, cmpL_len l m (fun j h1 h2 => by simpa using h (j + 1) (by simpa using h1) (by simpa using h2))]
    unfold intsV
    simp
theorem intsV_flip (a b : Int) : intsV b a = -intsV a b := by
  unfold intsV
  repeat' split
  all_goals omega
theorem cmpL_flip : ∀ l m : List Int, cmpL m l = -cmpL l m
  | [], [] => rfl
  | [], _ :: _ => rfl
  | _ :: _, [] => rfl
  | a :: l, b :: m => by
    simp only [cmpL]
    by_cases h : a = b
    · rw [if_pos h, if_pos h.symm, cmpL_flip l m]
    · rw [if_neg h, if_neg (Ne.symm h), intsV_flip]
theorem cmpL_one (l m : List Int) : -1 ≤ cmpL l m ∧ cmpL l m ≤ 1 := by
  induction l generalizing m with
  | nil => cases m <;> simp [cmpL]
  | cons a l ih =>
    cases m with
    | nil => simp [cmpL]
    | cons b m =>
      simp only [cmpL]
      by_cases h : a = b
      · rw [if_pos h]; exact ih m
      · rw [if_neg h]; unfold intsV; split <;> (try split) <;> omega

/-- The bytes from a place on. -/
def bl (s : ByteArray) (p : Nat) : List Int := (s.data.toList.drop p).map fun c => (c.toNat : Int)
theorem bl_end (s : ByteArray) (p : Nat) (h : ¬ p < s.size) : bl s p = [] := by
  unfold bl
  rw [List.drop_eq_nil_of_le (by simpa using Nat.le_of_not_lt h)]
  rfl
theorem bl_step (s : ByteArray) (p : Nat) (h : p < s.size) : bl s p = (gb s p : Int) :: bl s (p + 1) := by
  have h' : p < s.data.toList.length := by simpa using h
  unfold bl
  rw [List.drop_eq_getElem_cons h', List.map_cons]
  congr 1
  have := gb_get s p h
  rw [← this]
  rfl
theorem bl_length (s : ByteArray) (p : Nat) : (bl s p).length = s.size - p := by simp [bl]
theorem compareBytes_cmpL : ∀ l m : List UInt8, Lib.compareBytes l m = cmpL (l.map fun c => (c.toNat : Int)) (m.map fun c => (c.toNat : Int))
  | [], [] => rfl
  | [], _ :: _ => rfl
  | _ :: _, [] => rfl
  | a :: l, b :: m => by
    simp only [Lib.compareBytes, List.map_cons, cmpL]
    by_cases h : a = b
    · subst h
      rw [if_neg (by simp), if_neg (by simp), if_pos rfl, compareBytes_cmpL l m]
    · have hn : a.toNat ≠ b.toNat := fun e => h (UInt8.toNat_inj.1 e)
      rw [if_neg (show ¬ ((a.toNat : Int) = b.toNat) by omega)]
      unfold intsV
      simp only [UInt8.lt_iff_toNat_lt]
      by_cases h1 : a.toNat < b.toNat
      · rw [if_pos h1, if_pos (by omega)]
      · rw [if_neg h1, if_pos (by omega), if_neg (by omega), if_pos (by omega)]
def cmpB (a b : ByteArray) : Int := cmpL (bl a 0) (bl b 0)
theorem compareBytes_eq (a b : ByteArray) : Lib.compareBytes a.data.toList b.data.toList = cmpB a b := by
  rw [compareBytes_cmpL]
  rfl

/-! ### UTF-8: the bytes' order is the runes' -/
/-- What a rune's bytes are. -/
theorem good_cases (n b0 b1 b2 b3 : Nat) (h0 : b0 < 256) (h : ¬ Lib.decodeN n b0 b1 b2 b3 = (65533, 1)) :
    (b0 < 128 ∧ Lib.decodeN n b0 b1 b2 b3 = (b0, 1)) ∨
    (192 ≤ b0 ∧ b0 < 224 ∧ 1 < n ∧ b1 / 64 = 2 ∧ 128 ≤ b0 % 32 * 64 + b1 % 64 ∧ Lib.decodeN n b0 b1 b2 b3 = (b0 % 32 * 64 + b1 % 64, 2)) ∨
    (224 ≤ b0 ∧ b0 < 240 ∧ 2 < n ∧ b1 / 64 = 2 ∧ b2 / 64 = 2 ∧ 2048 ≤ b0 % 16 * 4096 + b1 % 64 * 64 + b2 % 64 ∧ Lib.decodeN n b0 b1 b2 b3 = (b0 % 16 * 4096 + b1 % 64 * 64 + b2 % 64, 3)) ∨
    (240 ≤ b0 ∧ b0 < 248 ∧ 3 < n ∧ b1 / 64 = 2 ∧ b2 / 64 = 2 ∧ b3 / 64 = 2 ∧ 65536 ≤ b0 % 8 * 262144 + b1 % 64 * 4096 + b2 % 64 * 64 + b3 % 64 ∧ Lib.decodeN n b0 b1 b2 b3 = (b0 % 8 * 262144 + b1 % 64 * 4096 + b2 % 64 * 64 + b3 % 64, 4)) := by
  unfold Lib.decodeN at h ⊢
  by_cases c1 : b0 < 128
  · rw [if_pos c1]; exact .inl ⟨c1, rfl⟩
  rw [if_neg c1] at h ⊢
  refine .inr ?_
  by_cases c2 : (192 ≤ b0 ∧ b0 < 224) ∧ 1 < n ∧ b1 / 64 = 2
  · have c2' := c2
    rw [if_pos (by omega)] at h ⊢
    by_cases d : b0 % 32 * 64 + b1 % 64 ≥ 128
    · rw [if_pos d]; exact .inl ⟨by omega, by omega, by omega, by omega, d, rfl⟩
    · rw [if_neg d] at h; exact absurd rfl h
  rw [if_neg (by omega)] at h ⊢
  refine .inr ?_
  by_cases c3 : (224 ≤ b0 ∧ b0 < 240) ∧ (1 < n ∧ b1 / 64 = 2) ∧ 2 < n ∧ b2 / 64 = 2
  · rw [if_pos (by omega)] at h ⊢
    split at h
    · rename_i d
      rw [if_pos d]; exact .inl ⟨by omega, by omega, by omega, by omega, by omega, by omega, rfl⟩
    · exact absurd rfl h
  rw [if_neg (by omega)] at h ⊢
  refine .inr ?_
  by_cases c4 : (240 ≤ b0 ∧ b0 < 248) ∧ (1 < n ∧ b1 / 64 = 2) ∧ (2 < n ∧ b2 / 64 = 2) ∧ 3 < n ∧ b3 / 64 = 2
  · rw [if_pos (by omega)] at h ⊢
    split at h
    · rename_i d
      rw [if_pos d]; exact ⟨by omega, by omega, by omega, by omega, by omega, by omega, by omega, rfl⟩
    · exact absurd rfl h
  rw [if_neg (by omega)] at h
  exact absurd rfl h
theorem intsV_lt {a b c d : Int} (h1 : a < b ↔ c < d) (h2 : b < a ↔ d < c) : intsV a b = intsV c d := by
  unfold intsV
  by_cases x : a < b
  · rw [if_pos x, if_pos (h1.1 x)]
  · rw [if_neg x, if_neg (fun y => x (h1.2 y))]
    by_cases z : b < a
    · rw [if_pos z, if_pos (h2.1 z)]
    · rw [if_neg z, if_neg (fun y => z (h2.2 y))]
theorem cmpL_ne {a b : Int} (l m : List Int) (h : a ≠ b) : cmpL (a :: l) (b :: m) = intsV a b := by
  simp only [cmpL]
  rw [if_neg h]
theorem cmpL_eq {a b : Int} (l m : List Int) (h : a = b) : cmpL (a :: l) (b :: m) = cmpL l m := by
  simp only [cmpL]
  rw [if_pos h]
theorem bl_cmp_ne (a b : ByteArray) (p : Nat) (ha : p < a.size) (hb : p < b.size) (h : gb a p ≠ gb b p) : cmpL (bl a p) (bl b p) = intsV (gb a p) (gb b p) := by
  rw [bl_step a p ha, bl_step b p hb, cmpL_ne _ _ (by omega)]
theorem bl_cmp_eq (a b : ByteArray) (p : Nat) (ha : p < a.size) (hb : p < b.size) (h : gb a p = gb b p) : cmpL (bl a p) (bl b p) = cmpL (bl a (p + 1)) (bl b (p + 1)) := by
  rw [bl_step a p ha, bl_step b p hb, cmpL_eq _ _ (by omega)]
theorem not_broken {s : ByteArray} {p : Nat} (h : brokenB s p = false) : ¬ Lib.decodeN (s.size - p) (gb s p) (gb s (p + 1)) (gb s (p + 2)) (gb s (p + 3)) = (65533, 1) := by
  intro e
  rw [← dec_at] at e
  unfold brokenB at h
  rw [e] at h
  exact absurd h (by decide)
set_option maxHeartbeats 4000000 in
theorem order_one (a b : ByteArray) (p : Nat) (ha : p < a.size) (hb : p < b.size) (va : brokenB a p = false) (vb : brokenB b p = false) :
    ((Utf8.decode a p).1 = (Utf8.decode b p).1 ∧ (Utf8.decode a p).2 = (Utf8.decode b p).2 ∧ cmpL (bl a p) (bl b p) = cmpL (bl a (p + (Utf8.decode a p).2)) (bl b (p + (Utf8.decode a p).2))) ∨
    ((Utf8.decode a p).1 ≠ (Utf8.decode b p).1 ∧ cmpL (bl a p) (bl b p) = intsV ((Utf8.decode a p).1) ((Utf8.decode b p).1)) := by
  have ca := good_cases _ _ _ _ _ (gb_lt a p) (not_broken va)
  have cb := good_cases _ _ _ _ _ (gb_lt b p) (not_broken vb)
  rw [← dec_at] at ca cb
  have la1 := gb_lt a (p + 1); have la2 := gb_lt a (p + 2); have la3 := gb_lt a (p + 3)
  have lb1 := gb_lt b (p + 1); have lb2 := gb_lt b (p + 2); have lb3 := gb_lt b (p + 3)
  by_cases e0 : gb a p = gb b p
  · rcases ca with ⟨a1, ea⟩ | ⟨a1, a2, a3, a4, a5, ea⟩ | ⟨a1, a2, a3, a4, a5, a6, ea⟩ | ⟨a1, a2, a3, a4, a5, a6, a7, ea⟩
    · rcases cb with ⟨b1, eb⟩ | ⟨b1, b2, b3, b4, b5, eb⟩ | ⟨b1, b2, b3, b4, b5, b6, eb⟩ | ⟨b1, b2, b3, b4, b5, b6, b7, eb⟩
      · rw [ea, eb]
        exact .inl ⟨e0, rfl, bl_cmp_eq a b p ha hb e0⟩
      all_goals (exfalso; omega)
    · rcases cb with ⟨b1, eb⟩ | ⟨b1, b2, b3, b4, b5, eb⟩ | ⟨b1, b2, b3, b4, b5, b6, eb⟩ | ⟨b1, b2, b3, b4, b5, b6, b7, eb⟩
      · exfalso; omega
      · rw [ea, eb, bl_cmp_eq a b p ha hb e0]
        by_cases e1 : gb a (p + 1) = gb b (p + 1)
        · rw [bl_cmp_eq a b (p + 1) (by omega) (by omega) e1]
          exact .inl ⟨by simp only; rw [e0, e1], rfl, rfl⟩
        · rw [bl_cmp_ne a b (p + 1) (by omega) (by omega) e1]
          exact .inr ⟨by simp only; omega, intsV_lt (by simp only; omega) (by simp only; omega)⟩
      all_goals (exfalso; omega)
    · rcases cb with ⟨b1, eb⟩ | ⟨b1, b2, b3, b4, b5, eb⟩ | ⟨b1, b2, b3, b4, b5, b6, eb⟩ | ⟨b1, b2, b3, b4, b5, b6, b7, eb⟩
      · exfalso; omega
      · exfalso; omega
      · rw [ea, eb, bl_cmp_eq a b p ha hb e0]
        by_cases e1 : gb a (p + 1) = gb b (p + 1)
        · rw [bl_cmp_eq a b (p + 1) (by omega) (by omega) e1]
          by_cases e2 : gb a (p + 2) = gb b (p + 2)
          · rw [bl_cmp_eq a b (p + 1 + 1) (by omega) (by omega) e2]
            exact .inl ⟨by simp only; rw [e0, e1, e2], rfl, rfl⟩
          · rw [bl_cmp_ne a b (p + 1 + 1) (by omega) (by omega) e2]
            exact .inr ⟨by simp only; omega, intsV_lt (by simp only; show (gb a (p + 2) : Int) < gb b (p + 2) ↔ _; omega) (by simp only; show (gb b (p + 2) : Int) < gb a (p + 2) ↔ _; omega)⟩
        · rw [bl_cmp_ne a b (p + 1) (by omega) (by omega) e1]
          exact .inr ⟨by simp only; omega, intsV_lt (by simp only; omega) (by simp only; omega)⟩
      all_goals (exfalso; omega)
    · rcases cb with ⟨b1, eb⟩ | ⟨b1, b2, b3, b4, b5, eb⟩ | ⟨b1, b2, b3, b4, b5, b6, eb⟩ | ⟨b1, b2, b3, b4, b5, b6, b7, eb⟩
      · exfalso; omega
      · exfalso; omega
      · exfalso; omega
      · rw [ea, eb, bl_cmp_eq a b p ha hb e0]
        by_cases e1 : gb a (p + 1) = gb b (p + 1)
        · rw [bl_cmp_eq a b (p + 1) (by omega) (by omega) e1]
          by_cases e2 : gb a (p + 2) = gb b (p + 2)
          · rw [bl_cmp_eq a b (p + 1 + 1) (by omega) (by omega) e2]
            by_cases e3 : gb a (p + 3) = gb b (p + 3)
            · rw [bl_cmp_eq a b (p + 1 + 1 + 1) (by omega) (by omega) e3]
              exact .inl ⟨by simp only; rw [e0, e1, e2, e3], rfl, rfl⟩
            · rw [bl_cmp_ne a b (p + 1 + 1 + 1) (by omega) (by omega) e3]
              exact .inr ⟨by simp only; omega, intsV_lt (by simp only; show (gb a (p + 3) : Int) < gb b (p + 3) ↔ _; omega) (by simp only; show (gb b (p + 3) : Int) < gb a (p + 3) ↔ _; omega)⟩
          · rw [bl_cmp_ne a b (p + 1 + 1) (by omega) (by omega) e2]
            exact .inr ⟨by simp only; omega, intsV_lt (by simp only; show (gb a (p + 2) : Int) < gb b (p + 2) ↔ _; omega) (by simp only; show (gb b (p + 2) : Int) < gb a (p + 2) ↔ _; omega)⟩
        · rw [bl_cmp_ne a b (p + 1) (by omega) (by omega) e1]
          exact .inr ⟨by simp only; omega, intsV_lt (by simp only; omega) (by simp only; omega)⟩
  · refine .inr ?_
    rw [bl_cmp_ne a b p ha hb e0]
    have lt_i : ∀ x y z u : Nat, (x < y ↔ z < u) → ((x : Int) < y ↔ (z : Int) < u) := fun x y z u h => by omega
    rcases ca with ⟨a1, ea⟩ | ⟨a1, a2, a3, a4, a5, ea⟩ | ⟨a1, a2, a3, a4, a5, a6, ea⟩ | ⟨a1, a2, a3, a4, a5, a6, a7, ea⟩ <;>
      rcases cb with ⟨b1, eb⟩ | ⟨b1, b2, b3, b4, b5, eb⟩ | ⟨b1, b2, b3, b4, b5, b6, eb⟩ | ⟨b1, b2, b3, b4, b5, b6, b7, eb⟩
    all_goals
      rw [ea, eb]
      exact ⟨by simp only; omega, intsV_lt (lt_i _ _ _ _ (by first | exact Iff.rfl | (simp only; omega))) (lt_i _ _ _ _ (by first | exact Iff.rfl | (simp only; omega)))⟩

/-- UTF-8 texts stand to each other as their runes do. -/
theorem utf_order (a b : ByteArray) : ∀ p, validT a p = true → validT b p = true → cmpL (bl a p) (bl b p) = cmpL (runesT a p) (runesT b p) := by
  refine tail_ind a _ ?_ ?_
  · intro p hp va vb
    rw [bl_end a p hp, runesT_end a p hp, cmpL_nil_left, cmpL_nil_left, bl_length]
    by_cases hb : p < b.size
    · rw [runesT_step b p hb]
      unfold intsV
      rw [if_pos (by omega), if_pos (by simp)]
    · rw [runesT_end b p hb, show b.size - p = 0 by omega]
      rfl
  · intro p hp ih va vb
    by_cases hb : p < b.size
    · rw [validT_step a p hp] at va
      rw [validT_step b p hb] at vb
      simp only [Bool.and_eq_true, Bool.not_eq_true'] at va vb
      rw [runesT_step a p hp, runesT_step b p hb]
      rcases order_one a b p hp hb va.1 vb.1 with ⟨h1, h2, h3⟩ | ⟨h1, h2⟩
      · rw [h3, cmpL_eq _ _ (by omega), ih va.2 (by rw [h2]; exact vb.2), h2]
      · rw [h2, cmpL_ne _ _ (by omega)]
    · rw [bl_end b p hb, runesT_end b p hb, cmpL_nil_right, cmpL_nil_right, bl_length, runesT_step a p hp]
      unfold intsV
      rw [if_neg (by omega), if_pos (by omega), if_neg (by simp only [List.length_cons]; omega), if_pos (by simp only [List.length_cons]; omega)]
theorem utf_order_all (a b : ByteArray) (va : validB a = true) (vb : validB b = true) : cmpB a b = cmpL (runesT a 0) (runesT b 0) := utf_order a b 0 va vb
end Go.Proofs.Ytcgfdnhocdcfjaa.Utf

/- Trees of keys, plainly: what split, join, walk come to. -/
namespace Go.Proofs.Ytcgfdnhocdcfjaa.Hed
open Go.RowKit Go.Proofs.Ytcgfdnhocdcfjaa.Utf
set_option linter.unusedVariables false
set_option linter.unusedSimpArgs false

/-- A tree: a node's block, its key, its number, its weight, what is left and right. -/
inductive T where
  | nil
  | node (g : Nat) (k : ByteArray) (v : Int) (wt : Int) (l r : T)
namespace T
def size : T → Nat
  | nil => 0
  | node _ _ _ _ l r => l.size + r.size + 1
def blocks : T → List Nat
  | nil => []
  | node g _ _ _ l r => g :: (l.blocks ++ r.blocks)
abbrev Ent := ByteArray × Int
def ents : T → List Ent
  | nil => []
  | node _ k v _ l r => l.ents ++ (k, v) :: r.ents
def lt (a b : ByteArray) : Bool := decide (cmpB a b < 0)
def splitT : T → ByteArray → T × T
  | nil, _ => (nil, nil)
  | node g k v wt l r, key =>
    if lt k key then (node g k v wt l (splitT r key).1, (splitT r key).2) else ((splitT l key).1, node g k v wt (splitT l key).2 r)
/-- Whether a node is to stand above another one: of weights and keys. -/
def heavy (wa : Int) (ka : ByteArray) (wb : Int) (kb : ByteArray) : Bool := if wa = wb then lt ka kb else decide (wb < wa)
def joinT : T → T → T
  | nil, b => b
  | node g k v wt l r, nil => node g k v wt l r
  | node g k v wt l r, node g' k' v' wt' l' r' =>
    if heavy wt k wt' k' then node g k v wt l (joinT r (node g' k' v' wt' l' r')) else node g' k' v' wt' (joinT (node g k v wt l r) l') r'
  termination_by a b => a.size + b.size
  decreasing_by all_goals simp only [size]; omega
theorem split_ents (t : T) (key : ByteArray) : (splitT t key).1.ents ++ (splitT t key).2.ents = t.ents := by
  induction t with
  | nil => rfl
  | node g k v wt l r ihl ihr =>
    simp only [splitT]
    split
    · simp only [ents]
      rw [List.append_assoc, List.cons_append, ihr]
    · simp only [ents]
      rw [← List.append_assoc, ihl]
theorem split_size (t : T) (key : ByteArray) : (splitT t key).1.size + (splitT t key).2.size = t.size := by
  induction t with
  | nil => rfl
  | node g k v wt l r ihl ihr =>
    simp only [splitT]
    split <;> simp only [size] <;> omega
theorem split_blocks (t : T) (key : ByteArray) : ((splitT t key).1.blocks ++ (splitT t key).2.blocks).Perm t.blocks := by
  induction t with
  | nil => exact List.Perm.refl _
  | node g k v wt l r ihl ihr =>
    simp only [splitT]
    split
    · simp only [blocks, List.cons_append, List.append_assoc]
      exact (ihr.append_left _).cons _
    · simp only [blocks]
      refine List.perm_middle.trans ?_
      refine List.Perm.cons _ ?_
      rw [← List.append_assoc]
      exact ihl.append_right _
theorem join_ents (a b : T) : (joinT a b).ents = a.ents ++ b.ents := by
  fun_induction joinT a b with
  | case1 b => rfl
  | case2 g k v wt l r => simp [ents]
  | case3 g k v wt l r g' k' v' wt' l' r' h ih =>
    simp only [ents] at ih ⊢
    rw [ih]; simp
  | case4 g k v wt l r g' k' v' wt' l' r' h ih =>
    simp only [ents] at ih ⊢
    rw [ih]; simp
theorem join_size (a b : T) : (joinT a b).size = a.size + b.size := by
  fun_induction joinT a b with
  | case1 b => simp [size]
  | case2 g k v wt l r => simp [size]
  | case3 g k v wt l r g' k' v' wt' l' r' h ih => simp only [size] at ih ⊢; omega
  | case4 g k v wt l r g' k' v' wt' l' r' h ih => simp only [size] at ih ⊢; omega
theorem join_blocks (a b : T) : (joinT a b).blocks.Perm (a.blocks ++ b.blocks) := by
  fun_induction joinT a b with
  | case1 b => exact List.Perm.refl _
  | case2 g k v wt l r => simp [blocks]
  | case3 g k v wt l r g' k' v' wt' l' r' h ih =>
    simp only [blocks, List.cons_append, List.append_assoc] at ih ⊢
    exact (ih.append_left _).cons _
  | case4 g k v wt l r g' k' v' wt' l' r' h ih =>
    simp only [blocks] at ih ⊢
    refine (List.Perm.cons g' (ih.append_right r'.blocks)).trans ?_
    rw [List.append_assoc]
    exact List.perm_middle.symm
theorem size_ents (t : T) : t.ents.length = t.size := by
  induction t with
  | nil => rfl
  | node g k v wt l r ihl ihr => simp only [ents, size, List.length_append, List.length_cons]; omega
/-- What walk goes through from a key on. -/
def from_ : T → ByteArray → List Ent
  | nil, _ => []
  | node _ k v _ l r, key => if lt k key then from_ r key else from_ l key ++ (k, v) :: from_ r key
def rankT : T → ByteArray → Nat
  | nil, _ => 0
  | node _ k _ _ l r, key => if lt k key then l.size + 1 + rankT r key else rankT l key
def getT : T → ByteArray → Option Int
  | nil, _ => none
  | node _ k v _ l r, key => if lt key k then getT l key else if lt k key then getT r key else some v
end T
end Go.Proofs.Ytcgfdnhocdcfjaa.Hed

/- Keys in order; sorted trees, plainly. -/
namespace Go.Proofs.Ytcgfdnhocdcfjaa.Hed
open Go.RowKit Go.Proofs.Ytcgfdnhocdcfjaa.Utf T
set_option linter.unusedVariables false
set_option linter.unusedSimpArgs false

theorem intsV_neg (a b : Int) : intsV a b < 0 ↔ a < b := by unfold intsV; split <;> (try split) <;> omega
theorem intsV_pos (a b : Int) : 0 < intsV a b ↔ b < a := by unfold intsV; split <;> (try split) <;> omega
theorem cmpL_zero : ∀ l m : List Int, cmpL l m = 0 → l = m
  | [], [], _ => rfl
  | [], _ :: _, h => by simp [cmpL] at h
  | _ :: _, [], h => by simp [cmpL] at h
  | a :: l, b :: m, h => by
    simp only [cmpL] at h
    split at h
    · rename_i e; rw [e, cmpL_zero l m h]
    · rename_i e
      unfold intsV at h
      split at h <;> (try split at h) <;> omega
theorem cmpL_self : ∀ l : List Int, cmpL l l = 0
  | [] => rfl
  | a :: l => by simp only [cmpL, if_true]; exact cmpL_self l
theorem cmpL_trans : ∀ l m n : List Int, cmpL l m < 0 → cmpL m n < 0 → cmpL l n < 0
  | [], [], _, h, _ => by simp [cmpL] at h
  | _ :: _, [], _, h, _ => by simp [cmpL] at h
  | [], _ :: _, [], _, h => by simp [cmpL] at h
  | [], _ :: _, _ :: _, _, _ => by simp [cmpL]
  | _ :: _, _ :: _, [], _, h => by simp [cmpL] at h
  | a :: l, b :: m, c :: n, h, h' => by
    simp only [cmpL] at h h' ⊢
    by_cases e1 : a = b
    · rw [if_pos e1] at h
      by_cases e2 : b = c
      · rw [if_pos e2] at h'
        rw [if_pos (e1.trans e2)]
        exact cmpL_trans l m n h h'
      · rw [if_neg e2] at h'
        rw [if_neg (by rw [e1]; exact e2), e1]
        exact h'
    · rw [if_neg e1] at h
      rw [intsV_neg] at h
      by_cases e2 : b = c
      · rw [if_neg (by rw [← e2]; exact e1), ← e2, intsV_neg]
        exact h
      · rw [if_neg e2, intsV_neg] at h'
        rw [if_neg (by omega), intsV_neg]
        omega
theorem cmpL_snoc : ∀ l m : List Int, (∀ x, x ∈ l → 0 ≤ x) → (cmpL l (m ++ [0]) < 0 ↔ cmpL l m ≤ 0)
  | [], [], _ => by simp [cmpL]
  | [], _ :: _, _ => by simp [cmpL]
  | a :: l, [], h => by
    have ha := h a (by simp)
    simp only [List.nil_append, cmpL]
    constructor
    · intro h1
      split at h1
      · cases l with
        | nil => simp [cmpL] at h1
        | cons b l => simp [cmpL] at h1
      · rw [intsV_neg] at h1; omega
    · intro h1; omega
  | a :: l, b :: m, h => by
    simp only [List.cons_append, cmpL]
    by_cases e : a = b
    · rw [if_pos e, if_pos e]
      exact cmpL_snoc l m (fun x hx => h x (by simp [hx]))
    · rw [if_neg e, if_neg e, intsV_neg]
      constructor
      · intro h1; have := (intsV_neg a b).2 h1; omega
      · intro h1
        have h2 : ¬ 0 < intsV a b := by omega
        rw [intsV_pos] at h2
        omega
theorem bl_inj (a b : ByteArray) (h : bl a 0 = bl b 0) : a = b := by
  unfold bl at h
  simp only [List.drop_zero] at h
  have h2 : a.data.toList = b.data.toList := by
    refine List.map_inj_right (f := fun c : UInt8 => (c.toNat : Int)) (fun x y hxy => ?_) |>.1 h
    exact UInt8.toNat_inj.1 (by have : (x.toNat : Int) = y.toNat := hxy; omega)
  obtain ⟨⟨x⟩⟩ := a
  obtain ⟨⟨y⟩⟩ := b
  simp at h2
  rw [h2]
theorem cmpB_zero (a b : ByteArray) : cmpB a b = 0 ↔ a = b := ⟨fun h => bl_inj a b (cmpL_zero _ _ h), fun h => by rw [h]; exact cmpL_self _⟩
theorem lt_trans {a b c : ByteArray} (h : T.lt a b = true) (h' : T.lt b c = true) : T.lt a c = true := by
  unfold T.lt at *
  simp only [decide_eq_true_eq] at *
  exact cmpL_trans _ _ _ h h'
theorem lt_irrefl (a : ByteArray) : T.lt a a = false := by
  unfold T.lt
  rw [(cmpB_zero a a).2 rfl]
  rfl
theorem lt_asymm {a b : ByteArray} (h : T.lt a b = true) : T.lt b a = false := by
  cases h2 : T.lt b a with
  | false => rfl
  | true => have := lt_trans h h2; rw [lt_irrefl] at this; cases this
theorem cmpB_flip (a b : ByteArray) : cmpB b a = -cmpB a b := cmpL_flip _ _
theorem lt_total {a b : ByteArray} (h : T.lt a b = false) (h' : T.lt b a = false) : a = b := by
  unfold T.lt at *
  simp only [decide_eq_false_iff_not] at *
  rw [cmpB_flip] at h'
  exact (cmpB_zero a b).1 (by omega)
def aboveK (key : ByteArray) : ByteArray := key ++ ⟨#[0]⟩
theorem bl_above (key : ByteArray) : bl (aboveK key) 0 = bl key 0 ++ [0] := by
  unfold aboveK bl
  simp [ByteArray.data_append]
theorem lt_above (k key : ByteArray) : T.lt k (aboveK key) = !T.lt key k := by
  unfold T.lt cmpB
  rw [bl_above]
  have h := cmpL_snoc (bl k 0) (bl key 0) (fun x hx => by unfold bl at hx; simp at hx; obtain ⟨c, -, rfl⟩ := hx; omega)
  have h2 := cmpL_flip (bl k 0) (bl key 0)
  rw [← decide_not, decide_eq_decide, h]
  omega
/-- Strictly rising keys. -/
def Srt (l : List Ent) : Prop := l.Pairwise fun a b => T.lt a.1 b.1 = true
theorem srt_append {l m : List Ent} : Srt (l ++ m) ↔ Srt l ∧ Srt m ∧ ∀ a, a ∈ l → ∀ b, b ∈ m → T.lt a.1 b.1 = true := List.pairwise_append
theorem srt_filter {l : List Ent} (h : Srt l) (p : Ent → Bool) : Srt (l.filter p) := List.Pairwise.filter p h
def lo (key : ByteArray) (e : Ent) : Bool := T.lt e.1 key
def hi (key : ByteArray) (e : Ent) : Bool := !T.lt e.1 key
theorem filter_all {l : List Ent} {p : Ent → Bool} (h : ∀ e, e ∈ l → p e = true) : l.filter p = l := List.filter_eq_self.2 h
theorem filter_none {l : List Ent} {p : Ent → Bool} (h : ∀ e, e ∈ l → p e = false) : l.filter p = [] := List.filter_eq_nil_iff.2 fun e he => by simp [h e he]
theorem node_parts {g : Nat} {k : ByteArray} {v wt : Int} {l r : T} (h : Srt (T.node g k v wt l r).ents) :
    Srt l.ents ∧ Srt r.ents ∧ (∀ e, e ∈ l.ents → T.lt e.1 k = true) ∧ (∀ e, e ∈ r.ents → T.lt k e.1 = true) := by
  simp only [T.ents] at h
  obtain ⟨h1, h2, h3⟩ := srt_append.1 h
  obtain ⟨h4, h5⟩ := List.pairwise_cons.1 h2
  exact ⟨h1, h5, fun e he => h3 e he (k, v) (by simp), fun e he => h4 e he⟩
theorem split_lo (t : T) (key : ByteArray) (h : Srt t.ents) : (splitT t key).1.ents = t.ents.filter (lo key) ∧ (splitT t key).2.ents = t.ents.filter (hi key) := by
  induction t with
  | nil => exact ⟨rfl, rfl⟩
  | node g k v wt l r ihl ihr =>
    obtain ⟨hl, hr, h1, h2⟩ := node_parts h
    simp only [splitT]
    cases hk : T.lt k key with
    | true =>
      simp only [if_true, T.ents, List.filter_append, List.filter_cons]
      have e1 : lo key (k, v) = true := hk
      have e2 : hi key (k, v) = false := by unfold hi; rw [hk]; rfl
      have a1 : l.ents.filter (lo key) = l.ents := filter_all fun e he => lt_trans (h1 e he) hk
      have a2 : l.ents.filter (hi key) = [] := filter_none fun e he => by unfold hi; rw [lt_trans (h1 e he) hk]; rfl
      rw [e1, e2, a1, a2, (ihr hr).1, (ihr hr).2]
      exact ⟨rfl, rfl⟩
    | false =>
      simp only [Bool.false_eq_true, if_false, T.ents, List.filter_append, List.filter_cons]
      have e1 : lo key (k, v) = false := hk
      have e2 : hi key (k, v) = true := by unfold hi; rw [hk]; rfl
      have hge : ∀ e, e ∈ r.ents → T.lt e.1 key = false := fun e he => by
        cases h3 : T.lt e.1 key with
        | false => rfl
        | true => have := lt_trans (h2 e he) h3; rw [hk] at this; cases this
      have a1 : r.ents.filter (lo key) = [] := filter_none fun e he => hge e he
      have a2 : r.ents.filter (hi key) = r.ents := filter_all fun e he => by unfold hi; rw [hge e he]; rfl
      rw [e1, e2, a1, a2, (ihl hl).1, (ihl hl).2]
      simp
theorem from_hi (t : T) (key : ByteArray) (h : Srt t.ents) : from_ t key = t.ents.filter (hi key) := by
  induction t with
  | nil => rfl
  | node g k v wt l r ihl ihr =>
    obtain ⟨hl, hr, h1, h2⟩ := node_parts h
    simp only [from_]
    cases hk : T.lt k key with
    | true =>
      simp only [if_true, T.ents, List.filter_append, List.filter_cons]
      have e2 : hi key (k, v) = false := by unfold hi; rw [hk]; rfl
      have a2 : l.ents.filter (hi key) = [] := filter_none fun e he => by unfold hi; rw [lt_trans (h1 e he) hk]; rfl
      rw [e2, a2, ihr hr]
      rfl
    | false =>
      simp only [Bool.false_eq_true, if_false, T.ents, List.filter_append, List.filter_cons]
      have e2 : hi key (k, v) = true := by unfold hi; rw [hk]; rfl
      rw [e2, ihl hl, ihr hr]
      rfl
theorem rank_lo (t : T) (key : ByteArray) (h : Srt t.ents) : rankT t key = (t.ents.filter (lo key)).length := by
  induction t with
  | nil => rfl
  | node g k v wt l r ihl ihr =>
    obtain ⟨hl, hr, h1, h2⟩ := node_parts h
    simp only [rankT]
    cases hk : T.lt k key with
    | true =>
      simp only [if_true, T.ents, List.filter_append, List.filter_cons]
      have e1 : lo key (k, v) = true := hk
      have a1 : l.ents.filter (lo key) = l.ents := filter_all fun e he => lt_trans (h1 e he) hk
      rw [e1, a1, ihr hr]
      simp only [if_true, List.length_append, List.length_cons, size_ents]
      omega
    | false =>
      simp only [Bool.false_eq_true, if_false, T.ents, List.filter_append, List.filter_cons]
      have e1 : lo key (k, v) = false := hk
      have hge : ∀ e, e ∈ r.ents → T.lt e.1 key = false := fun e he => by
        cases h3 : T.lt e.1 key with
        | false => rfl
        | true => have := lt_trans (h2 e he) h3; rw [hk] at this; cases this
      have a1 : r.ents.filter (lo key) = [] := filter_none fun e he => hge e he
      rw [e1, a1, ihl hl]
      simp
end Go.Proofs.Ytcgfdnhocdcfjaa.Hed

/- Blocks that are known whole, arrays by value: laws for the walk. Any program. -/
namespace Go.Proofs.Ytcgfdnhocdcfjaa.Arr
open Go.RowKit Go.Proofs.YtcgfdnhocdcfjaaW.PrintWords
set_option linter.unusedVariables false
set_option linter.unusedSimpArgs false

/-- A block that is known whole. -/
structure Blk (w : World) (g : Nat) (T : TypeId) (cs : Array Value) : Prop where mk ::
  out : w.heap[g]? = some (.cells cs T (0, 0))
namespace Blk
variable {w w1 : World} {g : Nat} {T : TypeId} {cs : Array Value}
theorem lt (h : Blk w g T cs) : g < w.heap.size := blk_lt h.out
theorem cell (h : Blk w g T cs) (i : Nat) : w.cell? ⟨g, i, none⟩ = cs[i]? := blk_cell h.out i
theorem frozen (h : Blk w g T cs) (i : Nat) : w.frozen? ⟨g, i, none⟩ = false := blk_frozen h.out i
theorem new (w : World) (T : TypeId) (cs : Array Value) : Blk (w.alloc (.cells cs T)) w.heap.size T cs := ⟨heap_alloc_new w _⟩
theorem newAt (h : g = w.heap.size) : Blk (w.alloc (.cells cs T)) g T cs := by subst h; exact new w T cs
theorem alloc (h : Blk w g T cs) (o : Obj) : Blk (w.alloc o) g T cs := ⟨blk_alloc h.out o⟩
theorem drew (h : Blk w g T cs) : Blk w.drew g T cs := ⟨h.out⟩
theorem drewN (h : Blk w g T cs) (n : Nat) : Blk (w.drewN n) g T cs := ⟨blk_drewN h.out n⟩
theorem below (h : Blk w g T cs) (hb : Below w.heap.size w w1) : Blk w1 g T cs := ⟨blk_below h.out hb⟩
theorem below' {B : Nat} (h : Blk w g T cs) (hb : Below B w w1) (hg : g < B) : Blk w1 g T cs := ⟨(hb.block g hg).trans h.out⟩
theorem set (h : Blk w g T cs) (i : Nat) (u : Value) : Blk (w.setCell ⟨g, i, none⟩ u) g T (cs.setIfInBounds i u) := ⟨blk_set h.out i u⟩
theorem far (h : Blk w g T cs) {p : Addr} (hp : g ≠ p.block) (u : Value) : Blk (w.setCell p u) g T cs := ⟨blk_far h.out hp u⟩
theorem row (h : Blk w g T cs) (cs' : Array Value) : Blk (w.setRow g cs') g T cs' := ⟨setRow_heap w g cs cs' T (0, 0) h.out⟩
theorem rowFar (h : Blk w g T cs) {k : Nat} (hk : g ≠ k) (cs' : Array Value) : Blk (w.setRow k cs') g T cs := ⟨(setRow_other w k g cs' hk).trans h.out⟩
end Blk

section
variable {P : Program} {ops : Array Oper} {rest : List Oper} {o : Oper} {a : Act} {w : World} {Q : Exit → Act → World → Prop}

/-- A new variable of an array's or a struct's type: its zero under one name. -/
theorem wpList_alloc_agg (hgd : o.guard = none) (T : TypeId) (Z : Array Value) (ho : o.op = .alloc T) (hz : ∀ w, (zeroValue T).run P w = .ok (.agg Z) w)
    (h : wpList P ops Q rest (a.put o.dst (.pointer (some ⟨w.heap.size, 0, none⟩))) (w.alloc (.cells Z T))) : wpList P ops Q (o :: rest) a w := by
  refine wpList_plain hgd fun K hK => ?_
  have hr : (Instr.alloc T true (.tuple #[])).run P w = .ok (.pointer (some ⟨w.heap.size, 0, none⟩)) (w.alloc (.cells Z T)) := by
    unfold Instr.alloc
    rw [Sem.run_bind, hz]
    rfl
  unfold Oper.wp execOp
  simp only [ho, Sem.run_bind, hr, Result.andThen_ok, Sem.run_pure]
  exact hK _ _ h

/-- An array or a struct is built of its parts: the value under one name. -/
theorem wpList_build_agg (hgd : o.guard = none) (T : TypeId) (parts : Array (Nat × Operand)) (ho : o.op = .build T parts) (Z : Array Value)
    (hz : ∀ w, (Instr.build T (parts.map fun (i, x) => (i, a.eval x))).run P w = .ok (.agg Z) w)
    (h : wpList P ops Q rest (a.put o.dst (.agg Z)) w) : wpList P ops Q (o :: rest) a w := by
  refine wpList_plain hgd fun K hK => ?_
  unfold Oper.wp execOp
  simp only [ho, Sem.run_bind, hz, Result.andThen_ok, Sem.run_pure]
  exact hK _ _ h

/-- An array's or a struct's zero, built of no parts. -/
theorem wpList_build_none (hgd : o.guard = none) (T : TypeId) (ho : o.op = .build T #[]) (Z : Array Value)
    (hz : ∀ w, (Instr.build T #[]).run P w = .ok (.agg Z) w)
    (h : wpList P ops Q rest (a.put o.dst (.agg Z)) w) : wpList P ops Q (o :: rest) a w := by
  refine wpList_plain hgd fun K hK => ?_
  unfold Oper.wp execOp
  simp only [ho, Array.map_empty, Sem.run_bind, hz, Result.andThen_ok, Sem.run_pure]
  exact hK _ _ h

theorem wpList_load_blk (hgd : o.guard = none) (T : TypeId) (x : Operand) (ho : o.op = .load T x) (g : Nat) (cs : Array Value) (d : TypeDesc) (hx : a.eval x = .pointer (some ⟨g, 0, none⟩))
    (hu : P.underlying T = some d) (hd : (match d with | .struct _ | .array _ _ => true | _ => false) = true) {n : Nat} (hi : (P.info? T).map (·.size) = some n) {U : TypeId} (hb : Blk w g U cs) (hc : cs.size = n)
    (h : wpList P ops Q rest (a.put o.dst (.agg cs)) w) : wpList P ops Q (o :: rest) a w :=
  wpList_load_row hgd T x ho g hx U cs (0, 0) d hb.out hu hd (by rw [hi, hc]) h

theorem wpList_store_blk (hgd : o.guard = none) (T : TypeId) (x y : Operand) (ho : o.op = .store T x y) (g : Nat) (cells : Array Value) (hx : a.eval x = .pointer (some ⟨g, 0, none⟩)) (hy : a.eval y = .agg cells)
    {n : Nat} (hi : (P.info? T).map (·.size) = some n) (hc : cells.size = n) (h1 : cells.all (·.oneCell') = true) {U : TypeId} {old : Array Value} (hb : Blk w g U old) (hold : old.size = n)
    (h : wpList P ops Q rest (a.put o.dst undef) (w.setRow g cells)) : wpList P ops Q (o :: rest) a w :=
  wpList_store_row hgd T x y ho g cells hx hy U old hb.out (by rw [hi, hc]) (by omega) h1 h
theorem results_blk {fn : Func} {p : Tmp} {ty : TypeId} (h : fn.results = #[.cell p ty]) (tmps : Array Value) (w : World) (g : Nat) (cs : Array Value) (d : TypeDesc)
    (hp : tmps.getD p undef = .pointer (some ⟨g, 0, none⟩)) {n : Nat} (hi : (P.info? ty).map (·.size) = some n) (hu : P.underlying ty = some d) (hd : (match d with | .struct _ | .array _ _ => true | _ => false) = true)
    {U : TypeId} (hb : Blk w g U cs) (hc : cs.size = n) : (results fn tmps).run P w = .ok (.agg cs) w :=
  results_cell_row h tmps w g U cs (0, 0) d hp hb.out hu hd (by rw [hi, hc])
theorem setRow_top {w : World} {g : Nat} {c c' : Array Value} {t : TypeId} (h : g = w.heap.size) : (w.alloc (.cells c t)).setRow g c' = w.alloc (.cells c' t) := by
  subst h; exact World.setRow_alloc_new w c c' t
end

/-- The cells of a list of numbers, of bools. -/
def numsA (k : IntKind) (l : List Int) : Array Value := (l.map (Value.int k)).toArray
def boolsA (l : List Bool) : Array Value := (l.map Value.bool).toArray
theorem numsA_size (k : IntKind) (l : List Int) : (numsA k l).size = l.length := by simp [numsA]
theorem boolsA_size (l : List Bool) : (boolsA l).size = l.length := by simp [boolsA]
theorem numsA_get (k : IntKind) (l : List Int) (i : Nat) (h : i < l.length) : (numsA k l)[i]? = some (.int k (l.getD i 0)) := by
  simp [numsA, h]
theorem boolsA_get (l : List Bool) (i : Nat) (h : i < l.length) : (boolsA l)[i]? = some (.bool (l.getD i false)) := by
  simp [boolsA, h]
theorem numsA_set (k : IntKind) (l : List Int) (i : Nat) (x : Int) : (numsA k l).setIfInBounds i (.int k x) = numsA k (l.set i x) := by
  apply Array.ext'
  simp [numsA, List.map_set]
theorem boolsA_set (l : List Bool) (i : Nat) (x : Bool) : (boolsA l).setIfInBounds i (.bool x) = boolsA (l.set i x) := by
  apply Array.ext'
  simp [boolsA, List.map_set]
theorem numsA_one (k : IntKind) (l : List Int) : (numsA k l).all (·.oneCell') = true := by
  simp [numsA, Value.oneCell']
theorem boolsA_one (l : List Bool) : (boolsA l).all (·.oneCell') = true := by
  simp [boolsA, Value.oneCell']

/-- An element of an array by value. -/
theorem run_index_nums {P : Program} {t e : TypeId} {n : Nat} {k ki : IntKind} (ht : P.underlying t = some (.array n e)) (he : P.underlying e = some (.int k)) (hsz : (P.info? e).map (·.size) = some 1)
    (l : List Int) (hl : l.length = n) (i : Nat) (hi : i < n) (w : World) : (Instr.index t (.agg (numsA k l)) (.int ki (i : Int))).run P w = .ok (.int k (l.getD i 0)) w := by
  obtain ⟨d, hd, h1⟩ := Option.map_eq_some_iff.1 hsz
  have hg := numsA_get k l i (by omega)
  have hc : (0 : Int) ≤ i ∧ (i : Int) < n := by omega
  have h0 : (0 : Int) ≤ (i : Int) := by omega
  have hn : (i : Int) < (n : Int) := by omega
  have ha : (isAgg e).run P w = .ok false w := by
    unfold isAgg
    rw [Sem.run_bind, run_underlying he w]
    rfl
  have hsi : (sizeOf e).run P w = .ok 1 w := by
    simp [sizeOf, typeInfo, Sem.run_bind, hd, h1]
  unfold Instr.index
  simp [Sem.run_bind, asIntOf, run_underlying ht w, hn, hsi, part, ha, hg]
  intro h
  exact absurd hi (by omega)
section
variable {P : Program} {ops : Array Oper} {rest : List Oper} {o : Oper} {a : Act} {w : World} {Q : Exit → Act → World → Prop}
theorem wpList_index_nums (hgd : o.guard = none) (t : TypeId) (x y : Operand) (ho : o.op = .index t x y) {e : TypeId} {n : Nat} {k ki : IntKind} (l : List Int) (i : Nat) (hx : a.eval x = .agg (numsA k l)) (hy : a.eval y = .int ki (i : Int))
    (ht : P.underlying t = some (.array n e)) (he : P.underlying e = some (.int k)) (hsz : (P.info? e).map (·.size) = some 1) (hl : l.length = n) (hi : i < n)
    (h : wpList P ops Q rest (a.put o.dst (.int k (l.getD i 0))) w) : wpList P ops Q (o :: rest) a w := by
  refine wpList_plain hgd fun K hK => ?_
  unfold Oper.wp execOp
  simp only [ho, hx, hy, Sem.run_bind, run_index_nums ht he hsz l hl i hi w, Result.andThen_ok, Sem.run_pure]
  exact hK _ _ h
/-- Cells at the head of a block. -/
structure Cells (w : World) (g : Nat) (cs : Array Value) : Prop where mk ::
  out : ∀ j v, cs[j]? = some v → w.cell? ⟨g, j, none⟩ = some v
theorem Cells.below {w w1 : World} {g : Nat} {cs : Array Value} (h : Cells w g cs) (hb : Below w.heap.size w w1) : Cells w1 g cs := ⟨fun j v hj => pw_cell_below hb (h.out j v hj)⟩
theorem wpList_load_cells (hgd : o.guard = none) (T : TypeId) (x : Operand) (ho : o.op = .load T x) (g : Nat) (cs : Array Value) (d : TypeDesc) (hx : a.eval x = .pointer (some ⟨g, 0, none⟩))
    (hu : P.underlying T = some d) (hd : (match d with | .struct _ | .array _ _ => true | _ => false) = true) {n : Nat} (hi : (P.info? T).map (·.size) = some n) (hb : Cells w g cs) (hc : cs.size = n)
    (h : wpList P ops Q rest (a.put o.dst (.agg cs)) w) : wpList P ops Q (o :: rest) a w := by
  refine wpList_plain hgd fun K hK => ?_
  obtain ⟨i, hq, hs⟩ := Option.map_eq_some_iff.1 hi
  have hl : (loadCells ⟨g, 0, none⟩ cs.toList.length).run P w = .ok cs.toList.toArray w :=
    run_loadCells_list (P := P) w ⟨g, 0, none⟩ cs.toList (fun j v hv => by
      rw [add_plain]
      exact hb.out j v (by simpa using hv))
  have hagg : (isAgg T).run P w = .ok true w := by
    unfold isAgg
    rw [Sem.run_bind, run_underlying hu w]
    cases d <;> simp_all
  simp only [Array.length_toList, Array.toArray_toList] at hl
  have hv : (loadVar T ⟨g, 0, none⟩).run P w = .ok (.agg cs) w := by simp [loadVar, Sem.run_bind, hagg, sizeOf, typeInfo, hq, hs, ← hc, hl]
  unfold Oper.wp execOp
  simp only [ho, hx, Instr.loadAt, Instr.sureAddr, Sem.run_bind, Sem.run_pure, Result.andThen_ok, hv]
  exact hK _ _ h
end

/-! ### lists that are filled from the front -/
def fillK {α : Type} (f z : Nat → α) (m k : Nat) : List α := (List.range m).map fun i => if i < k then f i else z i
theorem fillK_length {α : Type} (f z : Nat → α) (m k : Nat) : (fillK f z m k).length = m := by simp [fillK]
theorem fillK_zero {α : Type} (f z : Nat → α) (m : Nat) : fillK f z m 0 = (List.range m).map z := by simp [fillK]
theorem fillK_full {α : Type} (f z : Nat → α) (m : Nat) : fillK f z m m = (List.range m).map f := by
  unfold fillK
  refine List.map_congr_left fun i hi => ?_
  rw [if_pos (by simpa using hi)]
theorem fillK_set {α : Type} (f z : Nat → α) (m k : Nat) (hk : k < m) (x : α) (hx : x = f k) : (fillK f z m k).set k x = fillK f z m (k + 1) := by
  subst hx
  apply List.ext_getElem
  · simp [fillK]
  · intro i h1 h2
    simp only [fillK_length, List.length_set] at h1
    rw [List.getElem_set]
    by_cases h : k = i
    · subst h
      simp [fillK]
    · rw [if_neg h]
      simp only [fillK, List.getElem_map, List.getElem_range]
      by_cases h3 : i < k
      · rw [if_pos h3, if_pos (by omega)]
      · rw [if_neg h3, if_neg (by omega)]
theorem fillK_same {α : Type} (f z : Nat → α) (m k : Nat) (hk : k < m) (h : z k = f k) : fillK f z m k = fillK f z m (k + 1) := by
  unfold fillK
  refine List.map_congr_left fun i _ => ?_
  by_cases h1 : i < k
  · rw [if_pos h1, if_pos (by omega)]
  · rw [if_neg h1]
    by_cases h2 : i < k + 1
    · rw [if_pos h2, show i = k by omega, h]
    · rw [if_neg h2]
theorem fillK_done {α : Type} (f z : Nat → α) (m k i : Nat) (d : α) (hi : i < m) (h : i < k) : (fillK f z m k).getD i d = f i := by
  simp [fillK, List.getD, hi, h]
theorem fillK_todo {α : Type} (f z : Nat → α) (m k i : Nat) (d : α) (hi : i < m) (h : k ≤ i) : (fillK f z m k).getD i d = z i := by
  simp [fillK, List.getD, hi, Nat.not_lt.2 h]
end Go.Proofs.Ytcgfdnhocdcfjaa.Arr

/- Slices of numbers that the call itself makes. Any program. -/
namespace Go.Proofs.Ytcgfdnhocdcfjaa.Arr
open Go.RowKit Go.Proofs.YtcgfdnhocdcfjaaW.PrintWords
set_option linter.unusedVariables false
set_option linter.unusedSimpArgs false

/-- v is a slice of the call's own (blocks from B on) that holds xs. -/
structure Row (w : World) (B : Nat) (e : TypeId) (k : IntKind) (v : Value) (xs : List Int) : Prop where mk ::
  own : w.ownsRow B e 1 v xs.length (nums k xs)
namespace Row
variable {w w1 : World} {B : Nat} {e : TypeId} {k : IntKind} {v : Value} {xs : List Int}
theorem nil (w : World) (B : Nat) (e : TypeId) (k : IntKind) : Row w B e k (.slice none 0 0) [] := ⟨own_nil _ _ _ _⟩
theorem lit {g : Nat} {cs : Array Value} (hg : g = w.heap.size) (hB : B ≤ w.heap.size) (hcs : cs = (nums k xs).toArray) {n : Nat} (hn : n = xs.length) (hm : xs.length ≤ 9223372036854775807) :
    Row (w.alloc (.cells cs e)) B e k (.slice (some ⟨g, 0, none⟩) n n) xs := by
  subst hg hcs hn
  exact ⟨own_lit w B e k xs hB hm⟩
theorem move (h : Row w B e k v xs) (hm : ∀ g, v.ownBlock = some g → w1.heap[g]? = w.heap[g]?) : Row w1 B e k v xs := ⟨own_move h.own hm⟩
theorem below (h : Row w B e k v xs) (hb : Below w.heap.size w w1) : Row w1 B e k v xs := h.move fun g hg => hb.block g (own_lt h.own g hg)
theorem alloc (h : Row w B e k v xs) (o : Obj) : Row (w.alloc o) B e k v xs := h.below ((Below.refl _ _).alloc (Nat.le_refl _) o)
theorem drewN (h : Row w B e k v xs) (n : Nat) : Row (w.drewN n) B e k v xs := h.move fun _ _ => rfl
theorem drew (h : Row w B e k v xs) : Row w.drew B e k v xs := h.move fun _ _ => rfl
theorem ne (h : Row w B e k v xs) {g : Nat} {T : TypeId} {cs : Array Value} (hb : Blk w g T cs) (hT : e ≠ T) : some g ≠ v.ownBlock := own_ne h.own hb.out hT
theorem set (h : Row w B e k v xs) {g : Nat} {T : TypeId} {cs : Array Value} (hb : Blk w g T cs) (hT : e ≠ T) (i : Nat) (u : Value) : Row (w.setCell ⟨g, i, none⟩ u) B e k v xs :=
  h.move fun j hj => Below.heap_setCell w _ u j (fun hh => h.ne hb hT (by rw [hj]; exact congrArg some hh.symm))
theorem setRow (h : Row w B e k v xs) {g : Nat} {T : TypeId} {cs : Array Value} (hb : Blk w g T cs) (hT : e ≠ T) (cs' : Array Value) : Row (w.setRow g cs') B e k v xs :=
  h.move fun j hj => setRow_other w g j cs' (fun hh => h.ne hb hT (by rw [hj]; exact congrArg some hh.symm))
theorem reads (h : Row w B e k v xs) : ∃ A c, v = .slice A xs.length c ∧ ReadsInt w k A xs.length xs := own_reads h.own
theorem form (h : Row w B e k v xs) : (v = .slice none 0 0 ∧ xs = []) ∨ ∃ g c, v = .slice (some ⟨g, 0, none⟩) xs.length c ∧ B ≤ g ∧ g < w.heap.size ∧ xs.length ≤ c ∧ c ≤ maxLen := by
  rcases h.own.2 with ⟨h1, h2⟩ | ⟨g, cap, cur, h1, h2, h3, h4, h5, _⟩
  · exact .inl ⟨h1, List.length_eq_zero_iff.1 h2⟩
  · exact .inr ⟨g, cap, h1, h2, blk_lt h3, h4, h5⟩
theorem lower (h : Row w B e k v xs) {B' : Nat} (hB : B' ≤ B) : Row w B' e k v xs := ⟨own_weaken h.own hB⟩
theorem at_ {g n c : Nat} (h : Row w B e k (.slice (some ⟨g, 0, none⟩) n c) xs) (i : Nat) (hi : i < xs.length) : w.cell? ⟨g, i, none⟩ = some (.int k (xs.getD i 0)) := by
  obtain ⟨A, c', e1, h1⟩ := h.reads
  simp only [Value.slice.injEq] at e1
  obtain ⟨e1, _, _⟩ := e1
  obtain ⟨ad, e2, h2⟩ := h1.2.2 (by omega)
  rw [← e1] at e2
  simp only [Option.some.injEq] at e2
  subst e2
  have := h2 i hi
  rwa [add_plain] at this
theorem cap_le {A : Option Addr} {n c : Nat} (h : Row w B e k (.slice A n c) xs) : n ≤ c := own_le h.own
/-- What is new is another block. -/
theorem apart_new (h : Row w B e k v xs) {g : Nat} (hg : w.heap.size ≤ g) : v.ownBlock = none ∨ v.ownBlock ≠ some g := by
  cases hv : v.ownBlock with
  | none => exact .inl rfl
  | some j =>
    refine .inr fun hh => ?_
    have := own_lt h.own j hv
    simp only [Option.some.injEq] at hh
    omega
theorem le (h : Row w B e k v xs) {g : Nat} (hg : v.ownBlock = some g) : B ≤ g ∧ g < w.heap.size := ⟨own_base h.own g hg, own_lt h.own g hg⟩
end Row
theorem Blk.grown {w w1 : World} {g : Nat} {T : TypeId} {cs : Array Value} (h : Blk w g T cs) {row : Option Nat} (hg : w.grownBy w1 row) (hne : some g ≠ row) : Blk w1 g T cs := ⟨blk_grown h.out hg hne⟩
theorem Row.grown {w w1 : World} {B : Nat} {e : TypeId} {k : IntKind} {v : Value} {xs : List Int} (h : Row w B e k v xs) {row : Option Nat} (hg : w.grownBy w1 row) (hne : v.ownBlock = none ∨ v.ownBlock ≠ row) : Row w1 B e k v xs := ⟨own_other h.own hg hne⟩

section
variable {P : Program} {ops : Array Oper} {rest : List Oper} {o : Oper} {a : Act} {Q : Exit → Act → World → Prop}
/-- append(v, x...): v of the call's own. -/
theorem wpList_append_nums {w0 W : World} (B : Nat) (e : TypeId) (k : IntKind) (bytes : Nat) (hgd : o.guard = none) (s x : Operand) (t : TypeId)
    (ho : o.op = .call { callee := .builtin .append, args := #[s, x], argTypes := #[t, t] })
    (ht : P.underlying t = some (.slice e)) (hinfo : (P.info? e).map (fun i => (i.zero, i.size, i.bytes)) = some (some (.int k 0), 1, bytes)) (hb0 : 0 < bytes)
    (v : Value) (xs ys : List Int) (A : Option Addr) (m c : Nat) (hs : a.eval s = v) (hx : a.eval x = .slice A m c)
    (HO : Row W B e k v xs) (HR : ReadsInt W k A m ys) (HB : Below B w0 W) (hbase : B ≤ W.heap.size) (hl : (xs.length + m) * bytes ≤ 140737488355328)
    (h : ∀ v1 w1, Row w1 B e k v1 (xs ++ ys) → Below B w0 w1 → W.grownBy w1 v.ownBlock → (v1.ownBlock = v.ownBlock ∨ ∃ b, v1.ownBlock = some b ∧ W.heap.size ≤ b) → wpList P ops Q rest (a.put o.dst v1) w1) :
    wpList P ops Q (o :: rest) a W :=
  print_append_row (w0 := w0) B hgd s x t e k bytes ho ht hinfo hb0 v xs ys A m c hs hx HO.own HR HB hbase hl fun v1 w1 h1 h2 h3 h4 => h v1 w1 ⟨h1⟩ h2 h3 h4
end
/-- A cell that was made just now, read as a slice of one. -/
theorem reads_one {w : World} {e : TypeId} {k : IntKind} {x : Int} {g : Nat} (hg : g = w.heap.size) : ReadsInt (w.alloc (.cells #[.int k x] e)) k (some ⟨g, 0, none⟩) 1 [x] := by
  subst hg
  refine ⟨rfl, by omega, fun _ => ⟨_, rfl, fun j hj => ?_⟩⟩
  obtain rfl : j = 0 := by omega
  rw [add_plain]
  exact ((Blk.new w e #[.int k x]).cell 0)
/-- An array in a block, read as a slice. -/
theorem Blk.readsNums {w : World} {g : Nat} {T : TypeId} {k : IntKind} {xs : List Int} (h : Blk w g T (numsA k xs)) (hm : xs.length ≤ 9223372036854775807) : ReadsInt w k (some ⟨g, 0, none⟩) xs.length xs := by
  refine ⟨rfl, hm, fun _ => ⟨_, rfl, fun j hj => ?_⟩⟩
  rw [add_plain]
  exact (h.cell j).trans (numsA_get _ _ j hj)
end Go.Proofs.Ytcgfdnhocdcfjaa.Arr

/- What a call has turned: the named blocks alone, and what is new. Any program. -/
namespace Go.Proofs.Ytcgfdnhocdcfjaa.Arr
open Go.RowKit Go.Proofs.YtcgfdnhocdcfjaaW.PrintWords
set_option linter.unusedVariables false
set_option linter.unusedSimpArgs false

/-- Of the elder blocks those of S alone may have turned. -/
structure Only (S : List Nat) (w w' : World) : Prop where mk ::
  os : w'.os = w.os
  tape : w'.tape = w.tape
  output : w'.output = w.output
  size : w.heap.size ≤ w'.heap.size
  block : ∀ k, k < w.heap.size → k ∉ S → w'.heap[k]? = w.heap[k]?
namespace Only
variable {S S' : List Nat} {w w1 w2 : World}
theorem refl (S : List Nat) (w : World) : Only S w w := ⟨rfl, rfl, rfl, Nat.le_refl _, fun _ _ _ => rfl⟩
theorem of_below (h : Below w.heap.size w w1) (S : List Nat) : Only S w w1 := ⟨h.os, h.tape, h.output, h.size, fun k hk _ => h.block k hk⟩
theorem below {B : Nat} (h : Only S w w1) (hB : B ≤ w.heap.size) (hS : ∀ k, k ∈ S → B ≤ k) : Below B w w1 :=
  ⟨h.os, h.tape, h.output, h.size, fun k hk => h.block k (by omega) (fun hm => by have := hS k hm; omega)⟩
theorem nil (h : Only [] w w1) : Below w.heap.size w w1 := h.below (Nat.le_refl _) (fun k hk => by cases hk)
theorem trans (h : Only S w w1) (h' : Only S' w1 w2) (hS : ∀ k, k ∈ S' → k ∈ S ∨ w.heap.size ≤ k) : Only S w w2 :=
  ⟨h'.os.trans h.os, h'.tape.trans h.tape, h'.output.trans h.output, Nat.le_trans h.size h'.size, fun k hk hn =>
    (h'.block k (Nat.lt_of_lt_of_le hk h.size) (fun hm => by rcases hS k hm with h1 | h1; exact hn h1; omega)).trans (h.block k hk hn)⟩
theorem mono (h : Only S w w1) (hS : ∀ k, k ∈ S → k ∈ S' ∨ w.heap.size ≤ k) : Only S' w w1 :=
  ⟨h.os, h.tape, h.output, h.size, fun k hk hn => h.block k hk (fun hm => by rcases hS k hm with h1 | h1; exact hn h1; omega)⟩
theorem alloc (h : Only S w w1) (o : Obj) : Only S w (w1.alloc o) :=
  h.trans (of_below ((Below.refl _ _).alloc (Nat.le_refl _) o) []) (fun k hk => by cases hk)
theorem drew (h : Only S w w1) : Only S w w1.drew := ⟨h.os, h.tape, h.output, h.size, h.block⟩
theorem drewN (h : Only S w w1) (n : Nat) : Only S w (w1.drewN n) := ⟨h.os, h.tape, h.output, h.size, h.block⟩
theorem setCell (h : Only S w w1) {p : Addr} (hp : p.block ∈ S ∨ w.heap.size ≤ p.block) (u : Value) : Only S w (w1.setCell p u) :=
  ⟨h.os, h.tape, h.output, by simpa [World.setCell] using h.size, fun k hk hn => (Below.heap_setCell w1 p u k (fun e => by subst e; rcases hp with hp | hp; exact hn hp; omega)).trans (h.block k hk hn)⟩
theorem grown {row : Option Nat} (h : Only S w w1) (hg : w1.grownBy w2 row) (hr : ∀ k, row = some k → k ∈ S ∨ w.heap.size ≤ k) : Only S w w2 :=
  ⟨hg.os.trans h.os, hg.tape.trans h.tape, hg.output.trans h.output, Nat.le_trans h.size hg.size, fun k hk hn =>
    (hg.block k (Nat.lt_of_lt_of_le hk h.size) (fun e => by rcases hr k e.symm with h1 | h1; exact hn h1; omega)).trans (h.block k hk hn)⟩
theorem step (h : Only S w w1) (hb : Below w1.heap.size w1 w2) : Only S w w2 := h.trans (of_below hb []) (fun k hk => by cases hk)
theorem at_ {k : Nat} {o : Obj} (h : Only S w w1) (hk : w.heap[k]? = some o) (hn : k ∉ S) : w1.heap[k]? = some o := (h.block k (blk_lt hk) hn).trans hk
end Only
theorem Blk.only {w w1 : World} {g : Nat} {T : TypeId} {cs : Array Value} {S : List Nat} (h : Blk w g T cs) (ho : Only S w w1) (hn : g ∉ S) : Blk w1 g T cs := ⟨ho.at_ h.out hn⟩
theorem Blk.ne {w : World} {g g' : Nat} {t t' : TypeId} {cs cs' : Array Value} (h : Blk w g t cs) (h' : Blk w g' t' cs') (hne : t ≠ t') : g ≠ g' := blk_ne h.out h'.out hne
/-- The block of a slice's row, as a list. -/
def rowB (v : Value) : List Nat := v.ownBlock.toList
theorem own_only {w w1 : World} {base : Nat} {e : TypeId} {size n : Nat} {v : Value} {xs : List Value} {S : List Nat} (h : w.ownsRow base e size v n xs) (ho : Only S w w1) (hn : ∀ k, k ∈ rowB v → k ∉ S) : w1.ownsRow base e size v n xs :=
  own_move h fun k hk => ho.block k (own_lt h k hk) (hn k (by simp [rowB, hk]))
theorem rowB_lt {w : World} {base : Nat} {e : TypeId} {size n : Nat} {v : Value} {xs : List Value} (h : w.ownsRow base e size v n xs) : ∀ k, k ∈ rowB v → k < w.heap.size := fun k hk => own_lt h k (by simpa [rowB] using hk)
end Go.Proofs.Ytcgfdnhocdcfjaa.Arr

/- Regions that draw their order, whose head only reads and calls, the worlds staying in a class; and whose tail comes in one order. Any program. -/
namespace Go.Proofs.Ytcgfdnhocdcfjaa.Qt
open Go.RowKit Go.Proofs.Ytcgfdnhocdcfjaa.Arr
set_option linter.unusedVariables false
set_option linter.unusedSimpArgs false
section
variable {P : Program} {ops : Array Oper} {md : Region.Mode} {C : World → Prop}

/-- The head in any order; then L. -/
def anyHead (P : Program) (md : Region.Mode) (ops : Array Oper) (C : World → Prop) (n : Nat) (L : Array Bool → Act → Prop) : Nat → Array Bool → Act → Prop
  | 0, listed, a => L listed a
  | f + 1, listed, a => Region.ready md ops listed ≠ [] ∧ ∀ i ∈ Region.ready md ops listed, i < n ∧ qOp P ops C i (anyHead P md ops C n L f (listed.setIfInBounds i true)) a

theorem any_of_head {n g : Nat} {L : Array Bool → Act → Prop} {Q' : Exit → Act → World → Prop} (hL : ∀ listed a w, C w → L listed a → wpAny P md ops Q' g listed a w) :
    ∀ (f : Nat) (listed : Array Bool) (a : Act) (w : World), C w → anyHead P md ops C n L f listed a → wpAny P md ops Q' (f + g) listed a w
  | 0, listed, a, w, hw, h => by rw [Nat.zero_add]; exact hL _ _ _ hw h
  | f + 1, listed, a, w, hw, h => by
    rw [show f + 1 + g = (f + g) + 1 by omega]
    exact ⟨fun h0 => absurd h0 h.1, fun i hi => wpOp_of_qOp hw (fun a' w' hw' h' => any_of_head hL f _ a' w' hw' h') (h.2 i hi).2⟩

theorem head_first {n i : Nat} {oi : Oper} {v : Value} {L : Array Bool → Act → Prop} (hi : ops[i]? = some oi) (hsel : ∀ (j : Nat) (o : Oper) cs b, ops[j]? = some o → o.op ≠ .select cs b)
    (hs : Region.sinkB md ops n = true) (hc : Region.chainB md ops n = true) (hn : n < ops.size) (hin : i < n)
    (hdone : ∀ listed a, L listed a → ∀ j ∈ Region.ready md ops listed, n ≤ j) :
    ∀ (f : Nat) (listed : Array Bool) (a : Act), HeadInv md ops n listed →
      (∀ j oj, ops[j]? = some oj → j ≠ i → listed.getD j true = false → (∀ e ∈ oj.after, Region.binds md e = true → e.on ≠ i) → oi.apart ops oj = true) →
      i ∈ Region.ready md ops listed → YieldsIn P ops C oi v a →
      anyHead P md ops C n L f (listed.setIfInBounds i true) (a.put oi.dst v) → anyHead P md ops C n L (f + 1) listed a := by
  intro f
  induction f with
  | zero =>
    intro listed a inv _ hr hy H
    have hun := (mem_ready.1 hr).1
    refine ⟨fun h => (by rw [h] at hr; cases hr), fun j hj => ?_⟩
    have hjn : j < n := (Nat.lt_or_ge j n).resolve_right fun h => absurd hj (tail_waits hs hc hn inv _ i rfl hin hun j h)
    refine ⟨hjn, ?_⟩
    by_cases hji : j = i
    · subst hji; exact hy.qOp hi H
    · have := hdone _ _ H j (ready_mono hj hji)
      omega
  | succ f ih =>
    intro listed a inv hfree hr hy H
    have hun := (mem_ready.1 hr).1
    refine ⟨fun h => (by rw [h] at hr; cases hr), fun j hj => ?_⟩
    have hjn : j < n := (Nat.lt_or_ge j n).resolve_right fun h => absurd hj (tail_waits hs hc hn inv _ i rfl hin hun j h)
    refine ⟨hjn, ?_⟩
    by_cases hji : j = i
    · subst hji; exact hy.qOp hi H
    · have h1 := (H.2 j (ready_mono hj hji)).2
      obtain ⟨hjun, oj, hoj, hall⟩ := mem_ready.1 hj
      have hnot : ∀ e ∈ oj.after, Region.binds md e = true → e.on ≠ i := fun e he hb heq => by
        have h1 := hall e he hb
        rw [heq, getD_both hun] at h1
        cases h1
      have h2 := qOp_put hoj (hfree j oj hoj hji hjun hnot) (fun cs b => hsel i oi cs b hi) (fun cs b => hsel j oj cs b hoj) hy h1
      have hfree' : ∀ k ok, ops[k]? = some ok → k ≠ i → (listed.setIfInBounds j true).getD k true = false →
          (∀ e ∈ ok.after, Region.binds md e = true → e.on ≠ i) → oi.apart ops ok = true := fun k ok hk hki hun' hno => by
        refine hfree k ok hk hki ?_ hno
        by_cases hjk : j = k
        · subst hjk; exact hjun
        · rw [getD_set_ne true hjk] at hun'; exact hun'
      refine qOp_mono (fun a' h3 => ih (listed.setIfInBounds j true) a' (inv.set hj hjn) hfree' (ready_mono hr (Ne.symm hji)) h3.1 ?_) h2
      rw [Array.setIfInBounds_comm _ _ hji]
      exact h3.2

theorem head_lex {n g : Nat} {Lq : Act → Prop} (hsel : Region.noSelect ops = true) (hs : Region.sinkB md ops n = true) (hc : Region.chainB md ops n = true) (hn : n < ops.size) :
    ∀ (l : List Oper) (k : Nat) (listed : Array Bool) (a : Act), (∀ j, j < l.length → l[j]? = ops[k + j]?) → k + l.length = n → HeadInv md ops n listed →
    Region.lexHead md ops g l.length k listed = true → wpQuiet P ops C Lq l a →
    anyHead P md ops C n (fun listed' a' => Region.seqB md ops g n listed' = true ∧ Lq a') l.length listed a
  | [], k, listed, a, _, hk, _, hB, h => by
    have : k = n := by simpa using hk
    subst this
    exact ⟨by simpa [Region.lexHead] using hB, h⟩
  | o :: l, k, listed, a, hl, hk, inv, hB, h => by
    have h0 : ops[k]? = some o := by simpa using (hl 0 (by simp)).symm
    simp only [List.length_cons, Region.lexHead, Bool.and_eq_true] at hB
    obtain ⟨⟨hr, hf⟩, hB'⟩ := hB
    have hkn : k < n := by simp only [List.length_cons] at hk; omega
    have hr' : k ∈ Region.ready md ops listed := by simpa using hr
    have hst : qOp P ops C k (wpQuiet P ops C Lq l) a := by unfold qOp; simp only [h0]; exact h
    obtain ⟨v, hy, hK⟩ := yieldsIn_of_qOp h0 hst
    exact head_first h0 (Region.noSelect_spec hsel) hs hc hn hkn (fun listed' a' hL => seqB_ready hL.1) l.length listed a inv (Region.free_spec h0 hf) hr' hy
      (head_lex hsel hs hc hn l (k + 1) _ _ (fun j hj => by have := hl (j + 1) (by simp; omega); simpa [Nat.add_assoc, Nat.add_comm 1 j] using this) (by simp only [List.length_cons] at hk; omega) (inv.set hr' hkn) hB' hK)

/-- **The head in the text's order, in a class of worlds; then the tail.** -/
theorem wp_region_tail {id : Nat} {Q : Exit → Act → World → Prop} {a : Act} {w : World} {l : List Oper} (C : World → Prop) (n : Nat) (hm : P.follows .mixedOrders = true) (hB : Region.lexTailB .any l.toArray n = true)
    (hC : C w.drew) (h : wpQuiet P l.toArray C (fun a' => ∀ w', C w' → wpList P l.toArray Q (l.drop n) a' w') (l.take n) a) : (Code.region id l.toArray true).wp P Q a w := by
  simp only [Region.lexTailB, Bool.and_eq_true, decide_eq_true_eq] at hB
  obtain ⟨⟨⟨⟨hsel, hn⟩, hs⟩, hc⟩, hlex⟩ := hB
  have hn' : n < l.length := by simpa using hn
  have htl : (l.take n).length = n := by simp; omega
  have hdl : (l.drop n).length = l.toArray.size - n := by simp
  have inv0 : HeadInv .any l.toArray n (Array.replicate l.toArray.size false) :=
    ⟨by simp, fun j oj _ hl => (by rw [getD_replicate_false] at hl; cases hl), fun t _ ht => getD_in (by simpa using ht) (getD_replicate_false _ _)⟩
  have H := head_lex (md := .any) (g := l.toArray.size - n) hsel hs hc hn (l.take n) 0 _ a (fun j hj => by
    have hj' : j < n := by rw [htl] at hj; exact hj
    simp [hj']) (by simpa using htl) inv0 (by rw [htl]; exact hlex) h
  refine wp_region_any hm ?_
  have := any_of_head (Q' := Q) (g := l.toArray.size - n) (fun listed a' w' hw' hL => by
    have := wpAny_of_seq (md := .any) (Q' := Q) (l.drop n) n listed a' w' (fun j => by simp [List.getElem?_drop]) (by rw [hdl]; exact hL.1) (hL.2 w' hw')
    rwa [hdl] at this) _ _ _ _ hC H
  rw [htl, show n + (l.toArray.size - n) = l.toArray.size by omega] at this
  exact this

/-- A region that has no tail. -/
theorem wp_region_all {id : Nat} {Q : Exit → Act → World → Prop} {a : Act} {w : World} {l : List Oper} (C : World → Prop) (hm : P.follows .mixedOrders = true) (hB : Region.lexB .any l.toArray = true)
    (hC : C w.drew) (h : wpQuiet P l.toArray C (fun a' => ∀ w', C w' → Q .normal a' w') l a) : (Code.region id l.toArray true).wp P Q a w :=
  wp_region_quiet (C := C) hm hB hC (by simpa using h)

/-! ### one operation of the head -/
variable {Q : Act → Prop} {a : Act} {o : Oper} {rest : List Oper}
theorem q_call (f : FuncId) (args : Array Value) (v : Value) (hgd : o.guard = none) (hr : ∀ w, (execOp a.eval o).run P w = .ok (.enter f args) w)
    (hc : ∀ w, C w → Calls P f args w fun e w' => e = .returned v ∧ C w')
    (h : ∀ K : Act → Prop, (∀ a, wpQuiet P ops C Q rest a → K a) → K (a.put o.dst v)) : wpQuiet P ops C Q (o :: rest) a := by
  refine wpQuiet_step fun K hK => ?_
  rw [if_pos (by simp [Region.wanted, hgd])]
  refine ⟨v, fun w hw => ?_, h K hK⟩
  unfold Oper.quietAt
  rw [hr w]
  exact ⟨rfl, hc w hw⟩
theorem q_val (v : Value) (hgd : o.guard = none) (hr : ∀ w, C w → (execOp a.eval o).run P w = .ok (.value v) w)
    (h : ∀ K : Act → Prop, (∀ a, wpQuiet P ops C Q rest a → K a) → K (a.put o.dst v)) : wpQuiet P ops C Q (o :: rest) a := by
  refine wpQuiet_step fun K hK => ?_
  rw [if_pos (by simp [Region.wanted, hgd])]
  refine ⟨v, fun w hw => ?_, h K hK⟩
  unfold Oper.quietAt
  rw [hr w hw]
  exact ⟨rfl, rfl⟩
theorem q_load_blk (hgd : o.guard = none) (T : TypeId) (x : Operand) (ho : o.op = .load T x) (g : Nat) (cs : Array Value) (d : TypeDesc) (hx : a.eval x = .pointer (some ⟨g, 0, none⟩))
    (hu : P.underlying T = some d) (hd : (match d with | .struct _ | .array _ _ => true | _ => false) = true) {n : Nat} (hi : (P.info? T).map (·.size) = some n) {U : TypeId} (hb : ∀ w, C w → Blk w g U cs) (hc : cs.size = n)
    (h : ∀ K : Act → Prop, (∀ a, wpQuiet P ops C Q rest a → K a) → K (a.put o.dst (.agg cs))) : wpQuiet P ops C Q (o :: rest) a := by
  refine q_val (.agg cs) hgd (fun w hw => ?_) h
  unfold execOp
  simp only [ho, hx, Instr.loadAt, Instr.sureAddr, Sem.run_bind, Sem.run_pure, Result.andThen_ok, run_loadVar_row w g U T cs (0, 0) d (hb w hw).out hu hd (by rw [hi, hc])]

/-- The value is found by running it. -/
theorem q_val' (hgd : o.guard = none)
    (h : ∃ v, (∀ w, C w → (execOp a.eval o).run P w = .ok (.value v) w) ∧ ∀ K : Act → Prop, (∀ a, wpQuiet P ops C Q rest a → K a) → K (a.put o.dst v)) : wpQuiet P ops C Q (o :: rest) a := by
  obtain ⟨v, hr, h⟩ := h
  exact q_val v hgd hr h
theorem q_call' (hgd : o.guard = none)
    (h : ∃ f args, (∀ w, (execOp a.eval o).run P w = .ok (.enter f args) w) ∧ ∃ v, (∀ w, C w → Calls P f args w fun e w' => e = .returned v ∧ C w') ∧
      ∀ K : Act → Prop, (∀ a, wpQuiet P ops C Q rest a → K a) → K (a.put o.dst v)) : wpQuiet P ops C Q (o :: rest) a := by
  obtain ⟨f, args, hr, v, hc, h⟩ := h
  exact q_call f args v hgd hr hc h
/-- A callee that makes memory alone, in a world that is the elder one but for what is new. -/
theorem under {f : FuncId} {args : Array Value} {v : Value} {B w : World} (hb : Below B.heap.size B w) (h : Calls P f args w fun e w' => e = .returned v ∧ Below w.heap.size w w') :
    Calls P f args w fun e w' => e = .returned v ∧ Below B.heap.size B w' :=
  h.mono fun _ _ ⟨he, hw⟩ => ⟨he, hb.trans (hw.mono hb.size)⟩
end
end Go.Proofs.Ytcgfdnhocdcfjaa.Qt

/- The head's operations, a guard ahead of them or none. Any program. -/
namespace Go.Proofs.Ytcgfdnhocdcfjaa.Qg
open Go.RowKit
set_option linter.unusedVariables false
section
variable {P : Program} {ops : Array Oper} {C : World → Prop} {Q : Act → Prop} {a : Act} {o : Oper} {rest : List Oper}
theorem q_val (hw : Region.wanted o (yielded ops a.tmps) = true)
    (h : ∃ v, (∀ w, C w → (execOp a.eval o).run P w = .ok (.value v) w) ∧ ∀ K : Act → Prop, (∀ a, wpQuiet P ops C Q rest a → K a) → K (a.put o.dst v)) : wpQuiet P ops C Q (o :: rest) a := by
  obtain ⟨v, hr, h⟩ := h
  refine wpQuiet_step fun K hK => ?_
  rw [if_pos hw]
  refine ⟨v, fun w hw => ?_, h K hK⟩
  unfold Oper.quietAt
  rw [hr w hw]
  exact ⟨rfl, rfl⟩
theorem q_call (hw : Region.wanted o (yielded ops a.tmps) = true)
    (h : ∃ f args, (∀ w, (execOp a.eval o).run P w = .ok (.enter f args) w) ∧ ∃ v, (∀ w, C w → Calls P f args w fun e w' => e = .returned v ∧ C w') ∧
      ∀ K : Act → Prop, (∀ a, wpQuiet P ops C Q rest a → K a) → K (a.put o.dst v)) : wpQuiet P ops C Q (o :: rest) a := by
  obtain ⟨f, args, hr, v, hc, h⟩ := h
  refine wpQuiet_step fun K hK => ?_
  rw [if_pos hw]
  refine ⟨v, fun w hw => ?_, h K hK⟩
  unfold Oper.quietAt
  rw [hr w]
  exact ⟨rfl, hc w hw⟩
theorem q_skip (hw : Region.wanted o (yielded ops a.tmps) = false) (h : ∀ K : Act → Prop, (∀ a, wpQuiet P ops C Q rest a → K a) → K (a.put o.dst undef)) : wpQuiet P ops C Q (o :: rest) a := by
  refine wpQuiet_step fun K hK => ?_
  rw [if_neg (by rw [hw]; decide)]
  exact h K hK
theorem wanted_on {j d : Nat} {b : Bool} (hg : o.guard = some (j, b)) (hd : (ops[j]?).bind (·.dst) = some d) (hv : a.tmps[d]? = some (.bool b)) : Region.wanted o (yielded ops a.tmps) = true := by
  simp [Region.wanted, yielded, hg, hd, hv]
theorem wanted_off {j d : Nat} {b : Bool} (hg : o.guard = some (j, b)) (hd : (ops[j]?).bind (·.dst) = some d) (hv : a.tmps[d]? = some (.bool (!b))) : Region.wanted o (yielded ops a.tmps) = false := by
  simp [Region.wanted, yielded, hg, hd, hv]
theorem wanted_never {j d : Nat} {b : Bool} (hg : o.guard = some (j, b)) (hd : (ops[j]?).bind (·.dst) = some d) (hv : a.tmps[d]? = some undef) : Region.wanted o (yielded ops a.tmps) = false := by
  simp [Region.wanted, yielded, hg, hd, hv, undef]
/-- A guard that lets by. -/
theorem on_val {j d : Nat} {b : Bool} (hg : o.guard = some (j, b)) (hd : (ops[j]?).bind (·.dst) = some d) (hv : a.tmps[d]? = some (.bool b))
    (h : ∃ v, (∀ w, C w → (execOp a.eval o).run P w = .ok (.value v) w) ∧ ∀ K : Act → Prop, (∀ a, wpQuiet P ops C Q rest a → K a) → K (a.put o.dst v)) : wpQuiet P ops C Q (o :: rest) a :=
  q_val (wanted_on hg hd hv) h
theorem on_call {j d : Nat} {b : Bool} (hg : o.guard = some (j, b)) (hd : (ops[j]?).bind (·.dst) = some d) (hv : a.tmps[d]? = some (.bool b))
    (h : ∃ f args, (∀ w, (execOp a.eval o).run P w = .ok (.enter f args) w) ∧ ∃ v, (∀ w, C w → Calls P f args w fun e w' => e = .returned v ∧ C w') ∧
      ∀ K : Act → Prop, (∀ a, wpQuiet P ops C Q rest a → K a) → K (a.put o.dst v)) : wpQuiet P ops C Q (o :: rest) a :=
  q_call (wanted_on hg hd hv) h
theorem off {j d : Nat} {b : Bool} (hg : o.guard = some (j, b)) (hd : (ops[j]?).bind (·.dst) = some d) (hv : a.tmps[d]? = some (.bool (!b)))
    (h : ∀ K : Act → Prop, (∀ a, wpQuiet P ops C Q rest a → K a) → K (a.put o.dst undef)) : wpQuiet P ops C Q (o :: rest) a :=
  q_skip (wanted_off hg hd hv) h
/-- A guard that was not reckoned itself. -/
theorem never {j d : Nat} {b : Bool} (hg : o.guard = some (j, b)) (hd : (ops[j]?).bind (·.dst) = some d) (hv : a.tmps[d]? = some undef)
    (h : ∀ K : Act → Prop, (∀ a, wpQuiet P ops C Q rest a → K a) → K (a.put o.dst undef)) : wpQuiet P ops C Q (o :: rest) a :=
  q_skip (wanted_never hg hd hv) h
theorem on_val' (h : ∃ j b d, o.guard = some (j, b) ∧ (ops[j]?).bind (·.dst) = some d ∧ a.tmps[d]? = some (.bool b) ∧
      ∃ v, (∀ w, C w → (execOp a.eval o).run P w = .ok (.value v) w) ∧ ∀ K : Act → Prop, (∀ a, wpQuiet P ops C Q rest a → K a) → K (a.put o.dst v)) : wpQuiet P ops C Q (o :: rest) a := by
  obtain ⟨j, b, d, hg, hd, hv, h⟩ := h
  exact on_val hg hd hv h
theorem on_call' (h : ∃ j b d, o.guard = some (j, b) ∧ (ops[j]?).bind (·.dst) = some d ∧ a.tmps[d]? = some (.bool b) ∧
      ∃ f args, (∀ w, (execOp a.eval o).run P w = .ok (.enter f args) w) ∧ ∃ v, (∀ w, C w → Calls P f args w fun e w' => e = .returned v ∧ C w') ∧
      ∀ K : Act → Prop, (∀ a, wpQuiet P ops C Q rest a → K a) → K (a.put o.dst v)) : wpQuiet P ops C Q (o :: rest) a := by
  obtain ⟨j, b, d, hg, hd, hv, h⟩ := h
  exact on_call hg hd hv h
theorem off' (h : ∃ j b d, o.guard = some (j, b) ∧ (ops[j]?).bind (·.dst) = some d ∧ a.tmps[d]? = some (.bool (!b)) ∧
      ∀ K : Act → Prop, (∀ a, wpQuiet P ops C Q rest a → K a) → K (a.put o.dst undef)) : wpQuiet P ops C Q (o :: rest) a := by
  obtain ⟨j, b, d, hg, hd, hv, h⟩ := h
  exact off hg hd hv h
theorem never' (h : ∃ j b d, o.guard = some (j, b) ∧ (ops[j]?).bind (·.dst) = some d ∧ a.tmps[d]? = some undef ∧
      ∀ K : Act → Prop, (∀ a, wpQuiet P ops C Q rest a → K a) → K (a.put o.dst undef)) : wpQuiet P ops C Q (o :: rest) a := by
  obtain ⟨j, b, d, hg, hd, hv, h⟩ := h
  exact never hg hd hv h
end
end Go.Proofs.Ytcgfdnhocdcfjaa.Qg

/- Regions that draw their order: each operation tells what it yields (a set of values, and a relation that stands under Le); those of the list cs, one behind the other, turn the class of worlds. Any program. -/
namespace Go.Proofs.Ytcgfdnhocdcfjaa.Qy
open Go.RowKit Go.Proofs.Ytcgfdnhocdcfjaa.Arr
set_option linter.unusedVariables false
set_option linter.unusedSimpArgs false
section
variable {P : Program} {ops : Array Oper} {md : Region.Mode} {Le : World → World → Prop} {S : FuncId → Array Value → Value → World → Prop} {SV : FuncId → Array Value → Value → Prop} {C : Nat → World → Prop} {cs : List Nat}

def Stb (Le : World → World → Prop) (F : World → Prop) : Prop := ∀ w w', F w → Le w w' → F w'
def up (F : Nat → World → Prop) (i : Nat) (R : World → Prop) : Nat → World → Prop := fun k => if k = i then R else F k
theorem up_same (F : Nat → World → Prop) (i : Nat) (R : World → Prop) : up F i R i = R := by simp [up]
theorem up_ne (F : Nat → World → Prop) {i k : Nat} (R : World → Prop) (h : k ≠ i) : up F i R k = F k := by simp [up, h]

/-! ### the phase -/
def ph (cs : List Nat) (listed : Array Bool) : Nat := (cs.takeWhile fun c => listed.getD c false).length
def chainedB (md : Region.Mode) (ops : Array Oper) : List Nat → Bool
  | [] => true
  | [_] => true
  | c :: d :: l => decide (c < d) && Region.waitsFor md ops d c && chainedB md ops (d :: l)
def tr (cs : List Nat) (i p p' : Nat) : Prop := (i ∉ cs ∧ p' = p) ∨ (cs[p]? = some i ∧ p' = p + 1)
theorem chained_tail {c : Nat} {l : List Nat} (h : chainedB md ops (c :: l) = true) : chainedB md ops l = true := by
  cases l with
  | nil => rfl
  | cons d l => simp only [chainedB, Bool.and_eq_true] at h; exact h.2
theorem chained_off {n : Nat} {listed : Array Bool} (inv : HeadInv md ops n listed) : ∀ {l : List Nat} {c : Nat}, chainedB md ops (c :: l) = true → listed.getD c false = false → ∀ x ∈ c :: l, listed.getD x false = false
  | [], c, _, hc, x, hx => by simp at hx; subst hx; exact hc
  | d :: l, c, h, hc, x, hx => by
    simp only [chainedB, Bool.and_eq_true, decide_eq_true_eq] at h
    rcases List.mem_cons.1 hx with rfl | hx
    · exact hc
    · refine chained_off inv h.2 ?_ x hx
      obtain ⟨oj, hoj, e, he, hb, hon⟩ := Region.waitsFor_spec h.1.2
      cases hd : listed.getD d false with
      | false => rfl
      | true =>
        have := inv.closed d oj hoj hd e he hb
        rw [hon, hc] at this
        cases this
theorem chained_pred : ∀ {l : List Nat} {c i : Nat}, chainedB md ops (c :: l) = true → i ∈ l → ∃ d, d ∈ c :: l ∧ Region.waitsFor md ops i d = true
  | [], _, _, _, h => by cases h
  | d :: l, c, i, h, hi => by
    simp only [chainedB, Bool.and_eq_true, decide_eq_true_eq] at h
    rcases List.mem_cons.1 hi with rfl | hi
    · exact ⟨c, by simp, h.1.2⟩
    · obtain ⟨x, hx, hw⟩ := chained_pred h.2 hi
      exact ⟨x, List.mem_cons_of_mem _ hx, hw⟩
theorem getD_set_at {listed : Array Bool} {i : Nat} (h : i < listed.size) : (listed.setIfInBounds i true).getD i false = true := by simp [h]
theorem ph_at {n i : Nat} {listed : Array Bool} (inv : HeadInv md ops n listed) (hr : i ∈ Region.ready md ops listed) : ∀ {cs : List Nat}, chainedB md ops cs = true → tr cs i (ph cs listed) (ph cs (listed.setIfInBounds i true))
  | [], _ => .inl ⟨by simp, rfl⟩
  | c :: l, h => by
    obtain ⟨hun, oi, hoi, hall⟩ := mem_ready.1 hr
    have hun' := getD_both hun
    have hil : i < listed.size := by rw [inv.size]; exact (Array.getElem?_eq_some_iff.1 hoi).1
    cases hc : listed.getD c false with
    | true =>
      have hci : i ≠ c := fun e => by subst e; rw [hun'] at hc; cases hc
      have ih := ph_at inv hr (chained_tail h)
      have e1 : ph (c :: l) listed = ph l listed + 1 := by unfold ph; rw [List.takeWhile_cons_of_pos (p := fun c => listed.getD c false) hc]; rfl
      have e2 : ph (c :: l) (listed.setIfInBounds i true) = ph l (listed.setIfInBounds i true) + 1 := by
        unfold ph; rw [List.takeWhile_cons_of_pos (p := fun c => (listed.setIfInBounds i true).getD c false) (by rw [getD_set_ne false hci]; exact hc)]; rfl
      rw [e1, e2]
      rcases ih with ⟨h1, h2⟩ | ⟨h1, h2⟩
      · exact .inl ⟨by simp [hci, h1], by omega⟩
      · exact .inr ⟨by simpa using h1, by omega⟩
    | false =>
      have hoff := chained_off inv h hc
      have e1 : ph (c :: l) listed = 0 := by unfold ph; rw [List.takeWhile_cons_of_neg (p := fun c => listed.getD c false) (by simp only [hc]; decide)]; rfl
      rw [e1]
      by_cases hic : i = c
      · subst hic
        refine .inr ⟨rfl, ?_⟩
        unfold ph
        rw [List.takeWhile_cons_of_pos (p := fun c => (listed.setIfInBounds i true).getD c false) (getD_set_at hil)]
        cases l with
        | nil => rfl
        | cons d l =>
          have hd : i < d := by simp only [chainedB, Bool.and_eq_true, decide_eq_true_eq] at h; exact h.1.1
          rw [List.takeWhile_cons_of_neg (p := fun c => (listed.setIfInBounds i true).getD c false) (by rw [getD_set_ne false (show i ≠ d by omega), hoff d (by simp)]; decide)]
          rfl
      · have e2 : ph (c :: l) (listed.setIfInBounds i true) = 0 := by unfold ph; rw [List.takeWhile_cons_of_neg (p := fun c => (listed.setIfInBounds i true).getD c false) (by rw [getD_set_ne false hic, hc]; decide)]; rfl
        rw [e2]
        refine .inl ⟨fun hm => ?_, rfl⟩
        rcases List.mem_cons.1 hm with rfl | hm
        · exact hic rfl
        · obtain ⟨d, hd, hw⟩ := chained_pred h hm
          obtain ⟨oj, hoj, e, he, hb, hon⟩ := Region.waitsFor_spec hw
          have : oj = oi := Option.some.inj (hoj.symm.trans hoi)
          subst this
          have h2 := hall e he hb
          rw [hon, hoff d hd] at h2
          cases h2
theorem ph_all {listed : Array Bool} : ∀ {cs : List Nat}, (∀ c ∈ cs, listed.getD c false = true) → ph cs listed = cs.length
  | [], _ => rfl
  | c :: l, h => by
    have := ph_all (listed := listed) (cs := l) fun x hx => h x (List.mem_cons_of_mem _ hx)
    unfold ph at this ⊢
    rw [List.takeWhile_cons_of_pos (p := fun c => listed.getD c false) (h c (by simp))]
    rw [List.length_cons, this, List.length_cons]
theorem ph_none {listed : Array Bool} (h : ∀ c, listed.getD c false = false) : ph cs listed = 0 := by
  cases cs with
  | nil => rfl
  | cons c l => unfold ph; rw [List.takeWhile_cons_of_neg (p := fun c => listed.getD c false) (by rw [h c]; decide)]; rfl

/-! ### what an operation yields -/
def yUpon (P : Program) (Le : World → World → Prop) (S : FuncId → Array Value → Value → World → Prop) (SV : FuncId → Array Value → Value → Prop) (C' : World → Prop) (w : World) (V : Value → Prop) (R : Value → World → Prop) : Result Next → Prop
  | .ok (.value u) w' => Le w w' ∧ C' w' ∧ V u ∧ R u w'
  | .ok (.enter f args) w' => w' = w ∧ V = SV f args ∧ R = S f args ∧ Calls P f args w (fun e w'' => ∃ u, e = .returned u ∧ Le w w'' ∧ C' w'' ∧ SV f args u ∧ S f args u w'')
  | _ => False
def Gives (P : Program) (md : Region.Mode) (ops : Array Oper) (Le : World → World → Prop) (S : FuncId → Array Value → Value → World → Prop) (SV : FuncId → Array Value → Value → Prop) (C : Nat → World → Prop) (cs : List Nat) (F : Nat → World → Prop) (i : Nat) (o : Oper) (a : Act) (V : Value → Prop) (R : Value → World → Prop) : Prop :=
  (Region.wanted o (yielded ops a.tmps) = true ∧ (∀ u, Stb Le (R u)) ∧ ∀ p p', tr cs i p p' → ∀ w, C p w → (∀ e ∈ o.after, Region.binds md e = true → F e.on w) → yUpon P Le S SV (C p') w V R ((execOp a.eval o).run P w)) ∨
  (Region.wanted o (yielded ops a.tmps) = false ∧ (∀ p p', tr cs i p p' → ∀ w, C p w → C p' w) ∧ V = (fun u => u = undef) ∧ R = fun _ _ => True)
theorem Gives.stb {F : Nat → World → Prop} {i : Nat} {o : Oper} {a : Act} {V : Value → Prop} {R : Value → World → Prop} (h : Gives P md ops Le S SV C cs F i o a V R) (u : Value) : Stb Le (R u) := by
  rcases h with h | h
  · exact h.2.1 u
  · rw [h.2.2.2]; exact fun _ _ _ _ => trivial
theorem Gives.mono {F F' : Nat → World → Prop} {i : Nat} {o : Oper} {a : Act} {V : Value → Prop} {R : Value → World → Prop} (h : Gives P md ops Le S SV C cs F i o a V R) (hF : ∀ k w, F' k w → F k w) : Gives P md ops Le S SV C cs F' i o a V R := by
  rcases h with h | h
  · exact .inl ⟨h.1, h.2.1, fun p p' ht w hw hp => h.2.2 p p' ht w hw fun e he hb => hF _ _ (hp e he hb)⟩
  · exact .inr h
theorem Gives.put {F : Nat → World → Prop} {i : Nat} {oi oj : Oper} {u : Value} {a : Act} {V : Value → Prop} {R : Value → World → Prop} (h : Gives P md ops Le S SV C cs F i oi a V R) (hap : oi.apart ops oj = true) (hsi : ∀ cs b, oi.op ≠ .select cs b) : Gives P md ops Le S SV C cs F i oi (a.put oj.dst u) V R := by
  obtain ⟨h1, h2, h3⟩ := Oper.apart_spec hap
  unfold Gives at *
  rw [execOp_put oi hsi a oj.dst u h3, wanted_put oi a oj.dst u h3]
  exact h
theorem Gives.unput {F : Nat → World → Prop} {j : Nat} {oi oj : Oper} {v : Value} {a : Act} {V : Value → Prop} {R : Value → World → Prop} (h : Gives P md ops Le S SV C cs F j oj (a.put oi.dst v) V R) (hap : oi.apart ops oj = true) (hsj : ∀ cs b, oj.op ≠ .select cs b) : Gives P md ops Le S SV C cs F j oj a V R := by
  obtain ⟨h1, h2, h3⟩ := Oper.apart_spec hap
  unfold Gives at *
  rw [execOp_put oj hsj a oi.dst v h1, wanted_put oj a oi.dst v h1] at h
  exact h
theorem Gives.facts {F F' : Nat → World → Prop} {i : Nat} {o : Oper} {a : Act} {V : Value → Prop} {R : Value → World → Prop} (h : Gives P md ops Le S SV C cs F i o a V R) (hF : ∀ e ∈ o.after, Region.binds md e = true → F' e.on = F e.on) : Gives P md ops Le S SV C cs F' i o a V R := by
  rcases h with h | h
  · exact .inl ⟨h.1, h.2.1, fun p p' ht w hw hp => h.2.2 p p' ht w hw fun e he hb => by rw [← hF e he hb]; exact hp e he hb⟩
  · exact .inr h
/-- What holds of an operation whatever another one has yielded. -/
theorem Gives.all {F : Nat → World → Prop} {i : Nat} {o : Oper} {a : Act} {V0 : Value → Prop} {Vc : Value → Value → Prop} {Rc : Value → Value → World → Prop} (u0 : Value) (h0 : V0 u0) (h : ∀ u, V0 u → Gives P md ops Le S SV C cs F i o a (Vc u) (Rc u)) :
    Gives P md ops Le S SV C cs F i o a (fun v => ∀ u, V0 u → Vc u v) (fun v w => ∀ u, V0 u → Rc u v w) := by
  cases hwt : Region.wanted o (yielded ops a.tmps) with
  | true =>
    have hl : ∀ u, V0 u → (∀ v, Stb Le (Rc u v)) ∧ ∀ p p', tr cs i p p' → ∀ w, C p w → (∀ e ∈ o.after, Region.binds md e = true → F e.on w) → yUpon P Le S SV (C p') w (Vc u) (Rc u) ((execOp a.eval o).run P w) := fun u hu => by
      rcases h u hu with h1 | h1
      · exact h1.2
      · rw [hwt] at h1; exact absurd h1.1 (by decide)
    refine .inl ⟨hwt, fun v w w' hr hb u hu => (hl u hu).1 v w w' (hr u hu) hb, fun p p' ht w hw hp => ?_⟩
    have hx := fun u hu => (hl u hu).2 p p' ht w hw hp
    generalize (execOp a.eval o).run P w = r at hx
    cases r with
    | ok nx w' =>
      have h1 := hx u0 h0
      cases nx <;> simp only [yUpon] at h1 hx ⊢
      case value x => exact ⟨h1.1, h1.2.1, fun u hu => (hx u hu).2.2.1, fun u hu => (hx u hu).2.2.2⟩
      case enter f args =>
        refine ⟨h1.1, ?_, ?_, h1.2.2.2⟩
        · funext v
          refine propext ⟨fun hh => ?_, fun hh u hu => ?_⟩
          · have := hh u0 h0; rw [h1.2.1] at this; exact this
          · rw [(hx u hu).2.1]; exact hh
        · funext v w
          refine propext ⟨fun hh => ?_, fun hh u hu => ?_⟩
          · have := hh u0 h0; rw [h1.2.2.1] at this; exact this
          · rw [(hx u hu).2.2.1]; exact hh
    | halt x w' => exact absurd (hx u0 h0) (by simp only [yUpon]; exact id)
  | false =>
    have hl : ∀ u, V0 u → (∀ p p', tr cs i p p' → ∀ w, C p w → C p' w) ∧ Vc u = (fun v => v = undef) ∧ Rc u = fun _ _ => True := fun u hu => by
      rcases h u hu with h1 | h1
      · rw [hwt] at h1; exact absurd h1.1 (by decide)
      · exact h1.2
    refine .inr ⟨hwt, (hl u0 h0).1, ?_, ?_⟩
    · funext v
      refine propext ⟨fun hh => ?_, fun hh u hu => ?_⟩
      · have := hh u0 h0; rw [(hl u0 h0).2.1] at this; exact this
      · rw [(hl u hu).2.1]; exact hh
    · funext v w
      refine propext ⟨fun _ => trivial, fun _ u hu => ?_⟩
      rw [(hl u hu).2.2]; trivial

def opY (P : Program) (md : Region.Mode) (ops : Array Oper) (Le : World → World → Prop) (S : FuncId → Array Value → Value → World → Prop) (SV : FuncId → Array Value → Value → Prop) (C : Nat → World → Prop) (cs : List Nat) (i : Nat) (K : Act → (Nat → World → Prop) → Prop) (a : Act) (F : Nat → World → Prop) : Prop :=
  ∃ o, ops[i]? = some o ∧ ∃ V R, Gives P md ops Le S SV C cs F i o a V R ∧ ∀ u, V u → K (a.put o.dst u) (up F i (R u))
def anyY (P : Program) (md : Region.Mode) (ops : Array Oper) (Le : World → World → Prop) (S : FuncId → Array Value → Value → World → Prop) (SV : FuncId → Array Value → Value → Prop) (C : Nat → World → Prop) (cs : List Nat) (n : Nat) (L : Array Bool → Act → (Nat → World → Prop) → Prop) : Nat → Array Bool → Act → (Nat → World → Prop) → Prop
  | 0, listed, a, F => L listed a F
  | f + 1, listed, a, F => Region.ready md ops listed ≠ [] ∧ ∀ i ∈ Region.ready md ops listed, i < n ∧ opY P md ops Le S SV C cs i (fun a' F' => anyY P md ops Le S SV C cs n L f (listed.setIfInBounds i true) a' F') a F
theorem up_mono {F F' : Nat → World → Prop} (hF : ∀ k w, F' k w → F k w) (i : Nat) (R : World → Prop) : ∀ k w, up F' i R k w → up F i R k w := by
  intro k w h
  by_cases hk : k = i
  · subst hk; rw [up_same] at h ⊢; exact h
  · rw [up_ne _ _ hk] at h ⊢; exact hF k w h
theorem anyY_mono {n : Nat} {L : Array Bool → Act → (Nat → World → Prop) → Prop} (hL : ∀ listed a F F', (∀ k w, F' k w → F k w) → L listed a F → L listed a F') :
    ∀ (f : Nat) (listed : Array Bool) (a : Act) (F F' : Nat → World → Prop), (∀ k w, F' k w → F k w) → anyY P md ops Le S SV C cs n L f listed a F → anyY P md ops Le S SV C cs n L f listed a F'
  | 0, listed, a, F, F', hF, h => hL _ _ _ _ hF h
  | f + 1, listed, a, F, F', hF, h => ⟨h.1, fun i hi => ⟨(h.2 i hi).1, by
    obtain ⟨o, ho, V, R, hg, hk⟩ := (h.2 i hi).2
    exact ⟨o, ho, V, R, hg.mono hF, fun u hu => anyY_mono hL f _ _ _ _ (up_mono hF i (R u)) (hk u hu)⟩⟩⟩
theorem up_stb {F : Nat → World → Prop} (hF : ∀ k, Stb Le (F k)) {i : Nat} {R : World → Prop} (hR : Stb Le R) : ∀ k, Stb Le (up F i R k) := by
  intro k
  by_cases hk : k = i
  · subst hk; rw [up_same]; exact hR
  · rw [up_ne _ _ hk]; exact hF k
theorem up_all {F : Nat → World → Prop} {i : Nat} {R : World → Prop} {w : World} (hF : ∀ k, F k w) (hR : R w) : ∀ k, up F i R k w := by
  intro k
  by_cases hk : k = i
  · subst hk; rw [up_same]; exact hR
  · rw [up_ne _ _ hk]; exact hF k
theorem any_of_Y (hcs : chainedB md ops cs = true) {n g : Nat} {L : Array Bool → Act → (Nat → World → Prop) → Prop} {Q' : Exit → Act → World → Prop}
    (hL : ∀ listed a F w, C (ph cs listed) w → (∀ k, F k w) → L listed a F → wpAny P md ops Q' g listed a w) :
    ∀ (f : Nat) (listed : Array Bool) (a : Act) (F : Nat → World → Prop) (w : World), HeadInv md ops n listed → (∀ k, Stb Le (F k)) → C (ph cs listed) w → (∀ k, F k w) → anyY P md ops Le S SV C cs n L f listed a F → wpAny P md ops Q' (f + g) listed a w
  | 0, listed, a, F, w, _, hF, hw, hk, h => by rw [Nat.zero_add]; exact hL _ _ _ _ hw hk h
  | f + 1, listed, a, F, w, inv, hF, hw, hk, h => by
    rw [show f + 1 + g = (f + g) + 1 by omega]
    refine ⟨fun h0 => absurd h0 h.1, fun i hi => ?_⟩
    obtain ⟨hin, o, ho, V, R, hg, hK⟩ := h.2 i hi
    have ht := ph_at inv hi hcs
    unfold wpOp
    simp only [ho]
    have next : ∀ u w', (∀ k, F k w') → C (ph cs (listed.setIfInBounds i true)) w' → V u → R u w' → wpAny P md ops Q' (f + g) (listed.setIfInBounds i true) (a.put o.dst u) w' := fun u w' hk' hc hv hr =>
      any_of_Y hcs hL f _ _ _ w' (inv.set hi hin) (up_stb hF (hg.stb u)) hc (up_all hk' hr) (hK u hv)
    rcases hg with ⟨hwt, _, hx⟩ | ⟨hwt, hx, hV, hR⟩
    · simp only [hwt, if_true]
      refine .inl ?_
      have h3 := hx _ _ ht w hw fun e _ _ => hk _
      unfold Oper.wp
      generalize (execOp a.eval o).run P w = r at h3
      cases r with
      | ok nx w' =>
        cases nx <;> simp only [yUpon] at h3 <;> simp only [Oper.upon]
        case value u => exact next u w' (fun k => hF k _ _ (hk k) h3.1) h3.2.1 h3.2.2.1 h3.2.2.2
        case enter fn args =>
          obtain ⟨e1, e2, e3, hc⟩ := h3
          rw [e1]
          exact hc.mono fun e w'' ⟨u, he, hb, hc', hv, hs⟩ => by subst he; exact next u w'' (fun k => hF k _ _ (hk k) hb) hc' (by rw [e2]; exact hv) (by rw [e3]; exact hs)
      | halt x w' => simp only [yUpon] at h3
    · simp only [hwt, Bool.false_eq_true, if_false]
      exact next undef w hk (hx _ _ ht w hw) (by rw [hV]) (by rw [hR]; trivial)

/-- An operation that may come up may be taken first. -/
theorem anyY_first {n i : Nat} {oi : Oper} {L : Array Bool → Act → (Nat → World → Prop) → Prop} (hi : ops[i]? = some oi) (hsel : ∀ (j : Nat) (o : Oper) cs b, ops[j]? = some o → o.op ≠ .select cs b)
    (hlt : ∀ listed, HeadInv md ops n listed → listed.getD i true = false → ∀ j ∈ Region.ready md ops listed, j < n) (hin : i < n)
    (hL : ∀ listed a F F', (∀ k w, F' k w → F k w) → L listed a F → L listed a F')
    (hdone : ∀ listed a F, L listed a F → ∀ j ∈ Region.ready md ops listed, n ≤ j) :
    ∀ (f : Nat) (listed : Array Bool) (a : Act) (F : Nat → World → Prop) (V : Value → Prop) (R : Value → World → Prop) (u0 : Value), V u0 → HeadInv md ops n listed →
      (∀ j oj, ops[j]? = some oj → j ≠ i → listed.getD j true = false → (∀ e ∈ oj.after, Region.binds md e = true → e.on ≠ i) → oi.apart ops oj = true) →
      i ∈ Region.ready md ops listed → Gives P md ops Le S SV C cs F i oi a V R →
      (∀ u, V u → anyY P md ops Le S SV C cs n L f (listed.setIfInBounds i true) (a.put oi.dst u) (up F i (R u))) → anyY P md ops Le S SV C cs n L (f + 1) listed a F := by
  classical
  intro f
  induction f with
  | zero =>
    intro listed a F V R u0 h0 inv _ hr hy H
    have hun := (mem_ready.1 hr).1
    refine ⟨fun h => (by rw [h] at hr; cases hr), fun j hj => ?_⟩
    have hjn := hlt listed inv hun j hj
    refine ⟨hjn, ?_⟩
    by_cases hji : j = i
    · subst hji; exact ⟨oi, hi, V, R, hy, H⟩
    · have := hdone _ _ _ (H u0 h0) j (ready_mono hj hji)
      omega
  | succ f ih =>
    intro listed a F V R u0 h0 inv hfree hr hy H
    have hun := (mem_ready.1 hr).1
    refine ⟨fun h => (by rw [h] at hr; cases hr), fun j hj => ?_⟩
    have hjn := hlt listed inv hun j hj
    refine ⟨hjn, ?_⟩
    by_cases hji : j = i
    · subst hji; exact ⟨oi, hi, V, R, hy, H⟩
    · obtain ⟨hjun, oj, hoj, hall⟩ := mem_ready.1 hj
      obtain ⟨_, oi', hoi', halli⟩ := mem_ready.1 hr
      obtain rfl : oi' = oi := Option.some.inj (hoi'.symm.trans hi)
      have hnot : ∀ e ∈ oj.after, Region.binds md e = true → e.on ≠ i := fun e he hb heq => by
        have h1 := hall e he hb
        rw [heq, getD_both hun] at h1
        cases h1
      have hnoti : ∀ e ∈ oi'.after, Region.binds md e = true → e.on ≠ j := fun e he hb heq => by
        have h1 := halli e he hb
        rw [heq, getD_both hjun] at h1
        cases h1
      have hap := hfree j oj hoj hji hjun hnot
      have hsi : ∀ cs b, oi'.op ≠ .select cs b := fun cs b => hsel i oi' cs b hi
      have hsj : ∀ cs b, oj.op ≠ .select cs b := fun cs b => hsel j oj cs b hoj
      have hfree' : ∀ k ok, ops[k]? = some ok → k ≠ i → (listed.setIfInBounds j true).getD k true = false →
          (∀ e ∈ ok.after, Region.binds md e = true → e.on ≠ i) → oi'.apart ops ok = true := fun k ok hk hki hun' hno => by
        refine hfree k ok hk hki ?_ hno
        by_cases hjk : j = k
        · subst hjk; exact hjun
        · rw [getD_set_ne true hjk] at hun'; exact hun'
      have hd := (Oper.apart_spec hap).2.1
      have hc : ∀ u, V u → ∃ (Vj : Value → Prop) (Rj : Value → World → Prop), Gives P md ops Le S SV C cs F j oj a Vj Rj ∧ ∀ v, Vj v → anyY P md ops Le S SV C cs n L f ((listed.setIfInBounds i true).setIfInBounds j true) ((a.put oi'.dst u).put oj.dst v) (up (up F i (R u)) j (Rj v)) := by
        intro u hu
        obtain ⟨oj', hoj', Vj, Rj, hg, hk⟩ := ((H u hu).2 j (ready_mono hj hji)).2
        obtain rfl : oj' = oj := Option.some.inj (hoj'.symm.trans hoj)
        exact ⟨Vj, Rj, (hg.unput hap hsj).facts fun e he hb => (up_ne _ _ (hnot e he hb)).symm, hk⟩
      let Vc : Value → Value → Prop := fun u => if hu : V u then Classical.choose (hc u hu) else fun _ => True
      let Rc : Value → Value → World → Prop := fun u => if hu : V u then Classical.choose (Classical.choose_spec (hc u hu)) else fun _ _ => True
      have hRc : ∀ u (hu : V u), Gives P md ops Le S SV C cs F j oj a (Vc u) (Rc u) ∧ ∀ v, Vc u v → anyY P md ops Le S SV C cs n L f ((listed.setIfInBounds i true).setIfInBounds j true) ((a.put oi'.dst u).put oj.dst v) (up (up F i (R u)) j (Rc u v)) := by
        intro u hu
        have := Classical.choose_spec (Classical.choose_spec (hc u hu))
        simp only [Vc, Rc, dif_pos hu]
        exact this
      have hG := Gives.all (V0 := V) u0 h0 fun u hu => (hRc u hu).1
      refine ⟨oj, hoj, _, _, hG, fun v hv => ?_⟩
      refine ih (listed.setIfInBounds j true) (a.put oj.dst v) _ V R u0 h0 (inv.set hj hjn) hfree' (ready_mono hr (Ne.symm hji)) ((hy.put hap hsi).facts fun e he hb => up_ne _ _ (hnoti e he hb)) ?_
      intro u hu
      have hk := (hRc u hu).2 v (hv u hu)
      rw [Array.setIfInBounds_comm _ _ hji, ← Act.put_comm a u v hd]
      refine anyY_mono hL f _ _ _ _ ?_ hk
      intro k w' hh
      by_cases hki : k = i
      · subst hki
        rw [up_same] at hh
        rw [up_ne _ _ (Ne.symm hji), up_same]
        exact hh
      · rw [up_ne _ _ hki] at hh
        by_cases hkj : k = j
        · subst hkj
          rw [up_same] at hh ⊢
          exact hh u hu
        · rw [up_ne _ _ hkj] at hh
          rw [up_ne _ _ hkj, up_ne _ _ hki]
          exact hh

/-! ### the walk in the text's order -/
def wpY (P : Program) (md : Region.Mode) (ops : Array Oper) (Le : World → World → Prop) (S : FuncId → Array Value → Value → World → Prop) (SV : FuncId → Array Value → Value → Prop) (C : Nat → World → Prop) (cs : List Nat) (Q : Act → (Nat → World → Prop) → Prop) : Nat → List Oper → Act → (Nat → World → Prop) → Prop
  | _, [], a, F => Q a F
  | k, o :: rest, a, F => ∃ V R, (∃ u, V u) ∧ Gives P md ops Le S SV C cs F k o a V R ∧ ∀ u, V u → wpY P md ops Le S SV C cs Q (k + 1) rest (a.put o.dst u) (up F k (R u))
theorem anyY_lex {n g : Nat} {Lq : Act → (Nat → World → Prop) → Prop} (hLq : ∀ a F F', (∀ k w, F' k w → F k w) → Lq a F → Lq a F') (hsel : Region.noSelect ops = true)
    (hlt : ∀ i, i < n → ∀ listed, HeadInv md ops n listed → listed.getD i true = false → ∀ j ∈ Region.ready md ops listed, j < n) :
    ∀ (l : List Oper) (k : Nat) (listed : Array Bool) (a : Act) (F : Nat → World → Prop), (∀ j, j < l.length → l[j]? = ops[k + j]?) → k + l.length = n → HeadInv md ops n listed → (∀ j, j < k → listed.getD j false = true) →
    Region.lexHead md ops g l.length k listed = true → wpY P md ops Le S SV C cs Lq k l a F →
    anyY P md ops Le S SV C cs n (fun listed' a' F' => Region.seqB md ops g n listed' = true ∧ (∀ j, j < n → listed'.getD j false = true) ∧ Lq a' F') l.length listed a F
  | [], k, listed, a, F, _, hk, _, hd, hB, h => by
    have : k = n := by simpa using hk
    subst this
    exact ⟨by simpa [Region.lexHead] using hB, hd, h⟩
  | o :: l, k, listed, a, F, hl, hk, inv, hd, hB, h => by
    have h0 : ops[k]? = some o := by simpa using (hl 0 (by simp)).symm
    simp only [List.length_cons, Region.lexHead, Bool.and_eq_true] at hB
    obtain ⟨⟨hr, hf⟩, hB'⟩ := hB
    have hkn : k < n := by simp only [List.length_cons] at hk; omega
    have hr' : k ∈ Region.ready md ops listed := by simpa using hr
    obtain ⟨V, R, ⟨u0, hu0⟩, hg, hK⟩ := h
    have hks : k < listed.size := by rw [inv.size]; exact (Array.getElem?_eq_some_iff.1 h0).1
    refine anyY_first h0 (Region.noSelect_spec hsel) (hlt k hkn) hkn (fun listed a F F' hF h => ⟨h.1, h.2.1, hLq _ _ _ hF h.2.2⟩) (fun listed' a' F' hL => seqB_ready hL.1) l.length listed a F V R u0 hu0 inv (Region.free_spec h0 hf) hr' hg ?_
    intro u hu
    refine anyY_lex hLq hsel hlt l (k + 1) _ _ _ (fun j hj => by have := hl (j + 1) (by simp; omega); simpa [Nat.add_assoc, Nat.add_comm 1 j] using this) (by simp only [List.length_cons] at hk; omega) (inv.set hr' hkn) (fun j hj => ?_) hB' (hK u hu)
    by_cases hjk : k = j
    · subst hjk; exact getD_set_at hks
    · rw [getD_set_ne false hjk]; exact hd j (by omega)
def headB (ops : Array Oper) (n : Nat) (cs : List Nat) : Bool := Region.lexTailB .any ops n && chainedB .any ops cs && cs.all (fun c => decide (c < n))
/-- **The head in the text's order; then the tail.** -/
theorem wp_region_tail {id : Nat} {Q : Exit → Act → World → Prop} {a : Act} {w : World} {l : List Oper} (Le : World → World → Prop) (S : FuncId → Array Value → Value → World → Prop) (SV : FuncId → Array Value → Value → Prop) (C : Nat → World → Prop) (cs : List Nat) (n : Nat) (hm : P.follows .mixedOrders = true) (hB : headB l.toArray n cs = true)
    (hw : C 0 w.drew) (h : wpY P .any l.toArray Le S SV C cs (fun a' F => ∀ w', C cs.length w' → (∀ k, F k w') → wpList P l.toArray Q (l.drop n) a' w') 0 (l.take n) a (fun _ _ => True)) : (Code.region id l.toArray true).wp P Q a w := by
  simp only [headB, Bool.and_eq_true] at hB
  obtain ⟨⟨hB, hch⟩, hlc⟩ := hB
  have hlc' : ∀ c ∈ cs, c < n := fun c hc => by have := List.all_eq_true.1 hlc c hc; simpa using this
  simp only [Region.lexTailB, Bool.and_eq_true, decide_eq_true_eq] at hB
  obtain ⟨⟨⟨⟨hsel, hn⟩, hs⟩, hc⟩, hlex⟩ := hB
  have hn' : n < l.length := by simpa using hn
  have htl : (l.take n).length = n := by simp; omega
  have hdl : (l.drop n).length = l.toArray.size - n := by simp
  have inv0 : HeadInv .any l.toArray n (Array.replicate l.toArray.size false) :=
    ⟨by simp, fun j oj _ hl => (by rw [getD_replicate_false] at hl; cases hl), fun t _ ht => getD_in (by simpa using ht) (getD_replicate_false _ _)⟩
  have H := anyY_lex (md := .any) (g := l.toArray.size - n) (Lq := fun a' F => ∀ w', C cs.length w' → (∀ k, F k w') → wpList P l.toArray Q (l.drop n) a' w') (fun a F F' hF h w' h1 h2 => h w' h1 fun k => hF k _ (h2 k)) hsel
    (fun i hin listed inv hun j hj => (Nat.lt_or_ge j n).resolve_right fun h => absurd hj (tail_waits hs hc hn inv _ i rfl hin hun j h)) (l.take n) 0 _ a (fun _ _ => True) (fun j hj => by
      have hj' : j < n := by rw [htl] at hj; exact hj
      simp [hj']) (by simpa using htl) inv0 (fun j hj => by omega) (by rw [htl]; exact hlex) h
  refine wp_region_any hm ?_
  have := any_of_Y (Q' := Q) (g := l.toArray.size - n) hch (fun listed a' F w' hw' hk hL => by
    have hw2 : C cs.length w' := by rwa [ph_all fun c hc => hL.2.1 c (hlc' c hc)] at hw'
    have := wpAny_of_seq (md := .any) (Q' := Q) (l.drop n) n listed a' w' (fun j => by simp [List.getElem?_drop]) (by rw [hdl]; exact hL.1) (hL.2.2 w' hw2 hk)
    rwa [hdl] at this) _ _ _ _ _ inv0 (fun _ _ _ _ _ => trivial) (by rw [ph_none fun c => getD_replicate_false _ _]; exact hw) (fun _ => trivial) H
  rw [htl, show n + (l.toArray.size - n) = l.toArray.size by omega] at this
  exact this
def allB (ops : Array Oper) (cs : List Nat) : Bool := Region.noSelect ops && Region.lexHead .any ops 0 ops.size 0 (Array.replicate ops.size false) && chainedB .any ops cs && cs.all (fun c => decide (c < ops.size))
/-- A region that has no tail. -/
theorem wp_region_all {id : Nat} {Q : Exit → Act → World → Prop} {a : Act} {w : World} {l : List Oper} (Le : World → World → Prop) (S : FuncId → Array Value → Value → World → Prop) (SV : FuncId → Array Value → Value → Prop) (C : Nat → World → Prop) (cs : List Nat) (hm : P.follows .mixedOrders = true) (hB : allB l.toArray cs = true)
    (hw : C 0 w.drew) (h : wpY P .any l.toArray Le S SV C cs (fun a' F => ∀ w', C cs.length w' → (∀ k, F k w') → Q .normal a' w') 0 l a (fun _ _ => True)) : (Code.region id l.toArray true).wp P Q a w := by
  simp only [allB, Bool.and_eq_true] at hB
  obtain ⟨⟨⟨hsel, hlex⟩, hch⟩, hlc⟩ := hB
  have hlc' : ∀ c ∈ cs, c < l.toArray.size := fun c hc => by have := List.all_eq_true.1 hlc c hc; simpa using this
  have inv0 : HeadInv .any l.toArray l.toArray.size (Array.replicate l.toArray.size false) :=
    ⟨by simp, fun j oj _ hl => (by rw [getD_replicate_false] at hl; cases hl), fun t h1 h2 => by omega⟩
  have H := anyY_lex (md := .any) (g := 0) (Lq := fun a' F => ∀ w', C cs.length w' → (∀ k, F k w') → Q .normal a' w') (fun a F F' hF h w' h1 h2 => h w' h1 fun k => hF k _ (h2 k)) hsel
    (fun i hin listed inv hun j hj => by
      obtain ⟨_, oj, hoj, _⟩ := mem_ready.1 hj
      exact (Array.getElem?_eq_some_iff.1 hoj).1) l 0 _ a (fun _ _ => True) (fun j hj => by simp) (by simp) inv0 (fun j hj => by omega) (by simpa using hlex) h
  refine wp_region_any hm ?_
  have := any_of_Y (Q' := Q) (g := 0) hch (fun listed a' F w' hw' hk hL => by
    have hw2 : C cs.length w' := by rwa [ph_all fun c hc => hL.2.1 c (hlc' c hc)] at hw'
    refine ⟨?_, hL.2.2 w' hw2 hk⟩
    simpa [Region.seqB] using hL.1) _ _ _ _ _ inv0 (fun _ _ _ _ _ => trivial) (by rw [ph_none fun c => getD_replicate_false _ _]; exact hw) (fun _ => trivial) H
  rw [Nat.add_zero] at this
  simpa using this

/-! ### one operation -/
variable {Q : Act → (Nat → World → Prop) → Prop} {F : Nat → World → Prop} {a : Act} {o : Oper} {rest : List Oper} {k : Nat}
theorem wpY_mono (hQ : ∀ a F F', (∀ k w, F' k w → F k w) → Q a F → Q a F') : ∀ (l : List Oper) (k : Nat) (a : Act) (F F' : Nat → World → Prop), (∀ k w, F' k w → F k w) → wpY P md ops Le S SV C cs Q k l a F → wpY P md ops Le S SV C cs Q k l a F'
  | [], _, _, _, _, hF, h => hQ _ _ _ hF h
  | o :: l, k, a, F, F', hF, h => by
    obtain ⟨V, R, hi, hg, hk⟩ := h
    exact ⟨V, R, hi, hg.mono hF, fun u hu => wpY_mono hQ l (k + 1) _ _ _ (up_mono hF k (R u)) (hk u hu)⟩
/-- The walk's post, as the two theorems have it. -/
structure Mon (Q : Act → (Nat → World → Prop) → Prop) : Prop where mk ::
  out : ∀ a F F', (∀ k w, F' k w → F k w) → Q a F → Q a F'
theorem y_nil (h : Q a F) : wpY P md ops Le S SV C cs Q k [] a F := h
theorem wanted_none (h : o.guard = none) : Region.wanted o (yielded ops a.tmps) = true := by simp [Region.wanted, h]
/-- What operation i has told, to one that waits for it. -/
theorem fact {w : World} (hp : ∀ e ∈ o.after, Region.binds md e = true → F e.on w) (i : Nat) (h : (o.after.toList.any fun e => e.on == i && Region.binds md e) = true) : F i w := by
  obtain ⟨e, he, h2⟩ := List.any_eq_true.1 h
  simp only [Bool.and_eq_true, beq_iff_eq] at h2
  have := hp e (by simpa using he) h2.2
  rwa [h2.1] at this
def offB (cs : List Nat) (k : Nat) : Bool := !(cs.contains k)
theorem tr_off {i p p' : Nat} (h : offB cs i = true) (ht : tr cs i p p') : p' = p := by
  rcases ht with ⟨_, h2⟩ | ⟨h1, _⟩
  · exact h2
  · have : i ∈ cs := List.mem_of_getElem? h1
    simp [offB] at h
    exact absurd this h
def onB (cs : List Nat) (k q : Nat) : Bool := cs.contains k && (List.range cs.length).all fun p => p == q || cs[p]? != some k
theorem tr_on {i p p' q : Nat} (h : onB cs i q = true) (ht : tr cs i p p') : p = q ∧ p' = q + 1 := by
  simp only [onB, Bool.and_eq_true] at h
  rcases ht with ⟨h1, _⟩ | ⟨h1, h2⟩
  · have := h.1; simp at this; exact absurd this h1
  · have hp : p < cs.length := (List.getElem?_eq_some_iff.1 h1).1
    have := List.all_eq_true.1 h.2 p (List.mem_range.2 hp)
    simp [h1] at this
    subst this
    exact ⟨rfl, h2⟩
/-- One value, found by running it. -/
theorem y_val (hQ : Mon Q) (hrefl : ∀ w, Le w w) (hFk : ∀ w, F k w) (hoff : offB cs k = true) (hw : Region.wanted o (yielded ops a.tmps) = true)
    (h : ∃ v, (∀ p w, C p w → (∀ e ∈ o.after, Region.binds md e = true → F e.on w) → (execOp a.eval o).run P w = .ok (.value v) w) ∧ ∀ K : Act → Prop, (∀ a, wpY P md ops Le S SV C cs Q (k + 1) rest a F → K a) → K (a.put o.dst v)) : wpY P md ops Le S SV C cs Q k (o :: rest) a F := by
  obtain ⟨v, hr, h⟩ := h
  refine ⟨fun u => u = v, fun _ _ => True, ⟨v, rfl⟩, .inl ⟨hw, fun _ _ _ _ _ => trivial, fun p p' ht w hc hp => ?_⟩, ?_⟩
  · rw [hr p w hc hp, tr_off hoff ht]
    exact ⟨hrefl w, hc, rfl, trivial⟩
  · rintro u rfl
    exact h _ fun a hh => wpY_mono hQ.out rest (k + 1) a F _ (fun j w' hj => by
      by_cases hjk : j = k
      · subst hjk; exact hFk w'
      · rwa [up_ne _ _ hjk] at hj) hh
/-- One value at an operation of cs: the class q is turned as it is. -/
theorem y_pass (q : Nat) (hQ : Mon Q) (hrefl : ∀ w, Le w w) (hFk : ∀ w, F k w) (hon : onB cs k q = true) (hw : Region.wanted o (yielded ops a.tmps) = true) (hC : ∀ w, C q w → C (q + 1) w)
    (h : ∃ v, (∀ w, C q w → (∀ e ∈ o.after, Region.binds md e = true → F e.on w) → (execOp a.eval o).run P w = .ok (.value v) w) ∧ ∀ K : Act → Prop, (∀ a, wpY P md ops Le S SV C cs Q (k + 1) rest a F → K a) → K (a.put o.dst v)) : wpY P md ops Le S SV C cs Q k (o :: rest) a F := by
  obtain ⟨v, hr, h⟩ := h
  refine ⟨fun u => u = v, fun _ _ => True, ⟨v, rfl⟩, .inl ⟨hw, fun _ _ _ _ _ => trivial, fun p p' ht w hc hp => ?_⟩, ?_⟩
  · obtain ⟨rfl, rfl⟩ := tr_on hon ht
    rw [hr w hc hp]
    exact ⟨hrefl w, hC w hc, rfl, trivial⟩
  · rintro u rfl
    exact h _ fun a hh => wpY_mono hQ.out rest (k + 1) a F _ (fun j w' hj => by
      by_cases hjk : j = k
      · subst hjk; exact hFk w'
      · rwa [up_ne _ _ hjk] at hj) hh
theorem y_skip (hQ : Mon Q) (hFk : ∀ w, F k w) (hoff : offB cs k = true) (hw : Region.wanted o (yielded ops a.tmps) = false)
    (h : ∀ K : Act → Prop, (∀ a, wpY P md ops Le S SV C cs Q (k + 1) rest a F → K a) → K (a.put o.dst undef)) : wpY P md ops Le S SV C cs Q k (o :: rest) a F := by
  refine ⟨fun u => u = undef, fun _ _ => True, ⟨undef, rfl⟩, .inr ⟨hw, fun p p' ht w hc => by rw [tr_off hoff ht]; exact hc, rfl, rfl⟩, ?_⟩
  rintro u rfl
  exact h _ fun a hh => wpY_mono hQ.out rest (k + 1) a F _ (fun j w' hj => by
    by_cases hjk : j = k
    · subst hjk; exact hFk w'
    · rwa [up_ne _ _ hjk] at hj) hh
/-- A call whose result S tells. -/
theorem y_call (hoff : offB cs k = true) (hw : Region.wanted o (yielded ops a.tmps) = true)
    (h : ∃ f args, (∀ w, (execOp a.eval o).run P w = .ok (.enter f args) w) ∧ (∃ u, SV f args u) ∧ (∀ u, Stb Le (S f args u)) ∧
      (∀ p w, C p w → (∀ e ∈ o.after, Region.binds md e = true → F e.on w) → Calls P f args w (fun e w'' => ∃ u, e = .returned u ∧ Le w w'' ∧ C p w'' ∧ SV f args u ∧ S f args u w'')) ∧
      ∀ u, SV f args u → ∀ K : Act → Prop, (∀ a, wpY P md ops Le S SV C cs Q (k + 1) rest a (up F k (S f args u)) → K a) → K (a.put o.dst u)) : wpY P md ops Le S SV C cs Q k (o :: rest) a F := by
  obtain ⟨f, args, hr, hi, hs, hc, h⟩ := h
  exact ⟨SV f args, S f args, hi, .inl ⟨hw, hs, fun p p' ht w hw hp => by rw [hr w, tr_off hoff ht]; exact ⟨rfl, rfl, rfl, hc p w hw hp⟩⟩, fun u hu => h u hu _ fun a hh => hh⟩
/-- The call that turns the class q. -/
theorem y_turn (q : Nat) (hon : onB cs k q = true) (hw : Region.wanted o (yielded ops a.tmps) = true)
    (h : ∃ f args, (∀ w, (execOp a.eval o).run P w = .ok (.enter f args) w) ∧ (∃ u, SV f args u) ∧ (∀ u, Stb Le (S f args u)) ∧
      (∀ w, C q w → (∀ e ∈ o.after, Region.binds md e = true → F e.on w) → Calls P f args w (fun e w'' => ∃ u, e = .returned u ∧ Le w w'' ∧ C (q + 1) w'' ∧ SV f args u ∧ S f args u w'')) ∧
      ∀ u, SV f args u → ∀ K : Act → Prop, (∀ a, wpY P md ops Le S SV C cs Q (k + 1) rest a (up F k (S f args u)) → K a) → K (a.put o.dst u)) : wpY P md ops Le S SV C cs Q k (o :: rest) a F := by
  obtain ⟨f, args, hr, hi, hs, hc, h⟩ := h
  exact ⟨SV f args, S f args, hi, .inl ⟨hw, hs, fun p p' ht w hw hp => by obtain ⟨rfl, rfl⟩ := tr_on hon ht; rw [hr w]; exact ⟨rfl, rfl, rfl, hc w hw hp⟩⟩, fun u hu => h u hu _ fun a hh => hh⟩
/-- The call that turns the class q is not made: the class is turned as it is. -/
theorem y_idle (q : Nat) (hQ : Mon Q) (hFk : ∀ w, F k w) (hon : onB cs k q = true) (hw : Region.wanted o (yielded ops a.tmps) = false) (hC : ∀ w, C q w → C (q + 1) w)
    (h : ∀ K : Act → Prop, (∀ a, wpY P md ops Le S SV C cs Q (k + 1) rest a F → K a) → K (a.put o.dst undef)) : wpY P md ops Le S SV C cs Q k (o :: rest) a F := by
  refine ⟨fun u => u = undef, fun _ _ => True, ⟨undef, rfl⟩, .inr ⟨hw, fun p p' ht w hc => by obtain ⟨rfl, rfl⟩ := tr_on hon ht; exact hC w hc, rfl, rfl⟩, ?_⟩
  rintro u rfl
  exact h _ fun a hh => wpY_mono hQ.out rest (k + 1) a F _ (fun j w' hj => by
    by_cases hjk : j = k
    · subst hjk; exact hFk w'
    · rwa [up_ne _ _ hjk] at hj) hh
/-- A new variable, or another operation that makes memory. -/
theorem y_new (V : Value → Prop) (R : Value → World → Prop) (hV : ∃ u, V u) (hs : ∀ u, Stb Le (R u)) (hoff : offB cs k = true) (hw : Region.wanted o (yielded ops a.tmps) = true)
    (h : (∀ p w, C p w → (∀ e ∈ o.after, Region.binds md e = true → F e.on w) → ∃ u w', (execOp a.eval o).run P w = .ok (.value u) w' ∧ Le w w' ∧ C p w' ∧ V u ∧ R u w') ∧
      ∀ u, V u → ∀ K : Act → Prop, (∀ a, wpY P md ops Le S SV C cs Q (k + 1) rest a (up F k (R u)) → K a) → K (a.put o.dst u)) : wpY P md ops Le S SV C cs Q k (o :: rest) a F :=
  ⟨V, R, hV, .inl ⟨hw, hs, fun p p' ht w hw hp => by obtain ⟨u, w', e, hb, hc, hv, hr⟩ := h.1 p w hw hp; rw [e, tr_off hoff ht]; exact ⟨hb, hc, hv, hr⟩⟩, fun u hu => h.2 u hu _ fun a hh => hh⟩
/-- A store that turns the class q. -/
theorem y_put (q : Nat) (v : Value) (hQ : Mon Q) (hFk : ∀ w, F k w) (hon : onB cs k q = true) (hw : Region.wanted o (yielded ops a.tmps) = true)
    (h : (∀ w, C q w → (∀ e ∈ o.after, Region.binds md e = true → F e.on w) → ∃ w', (execOp a.eval o).run P w = .ok (.value v) w' ∧ Le w w' ∧ C (q + 1) w') ∧
      ∀ K : Act → Prop, (∀ a, wpY P md ops Le S SV C cs Q (k + 1) rest a F → K a) → K (a.put o.dst v)) : wpY P md ops Le S SV C cs Q k (o :: rest) a F := by
  refine ⟨fun u => u = v, fun _ _ => True, ⟨v, rfl⟩, .inl ⟨hw, fun _ _ _ _ _ => trivial, fun p p' ht w hw hp => by obtain ⟨rfl, rfl⟩ := tr_on hon ht; obtain ⟨w', e, hb, hc⟩ := h.1 w hw hp; rw [e]; exact ⟨hb, hc, rfl, trivial⟩⟩, ?_⟩
  rintro u rfl
  exact h.2 _ fun a hh => wpY_mono hQ.out rest (k + 1) a F _ (fun j w' hj => by
    by_cases hjk : j = k
    · subst hjk; exact hFk w'
    · rwa [up_ne _ _ hjk] at hj) hh
end
end Go.Proofs.Ytcgfdnhocdcfjaa.Qy
