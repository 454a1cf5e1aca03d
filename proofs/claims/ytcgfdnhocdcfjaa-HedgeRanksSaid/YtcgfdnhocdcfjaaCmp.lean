/- Texts in order, by their bytes and by their runes: plain facts. No program. -/
import Derived.Test.YtcgfdnhocdcfjaaUtf
import Derived.Lib.Bytealg
namespace Go.Proofs.Ytcgfdnhocdcfjaa.Utf
set_option linter.unusedVariables false
set_option linter.unusedSimpArgs false

def intsV (a b : Int) : Int := if a < b then -1 else if b < a then 1 else 0
/-- Lists in order. -/
def cmpL : List Int → List Int → Int
  | [], [] => 0
  | [], _ :: _ => -1
  | _ :: _, [] => 1
  | a :: l, b :: m => if a = b then cmpL l m else intsV a b
theorem cmpL_nil_left (m : List Int) : cmpL [] m = intsV 0 m.length := by
  cases m with
  | nil => rfl
  | cons b m =>
    unfold intsV
    rw [if_pos (by simp)]
    rfl
theorem cmpL_nil_right (l : List Int) : cmpL l [] = intsV l.length 0 := by
  cases l with
  | nil => rfl
  | cons b m =>
    unfold intsV
    rw [if_neg (by simp only [List.length_cons]; omega), if_pos (by simp only [List.length_cons]; omega)]
    rfl
/-- The first place at which they differ decides. -/
theorem cmpL_at : ∀ (i : Nat) (l m : List Int), (∀ j, j < i → l.getD j 0 = m.getD j 0) → i < l.length → i < m.length → l.getD i 0 ≠ m.getD i 0 → cmpL l m = intsV (l.getD i 0) (m.getD i 0)
  | i, [], m, _, h, _, _ => absurd h (Nat.not_lt_zero _)
  | i, _ :: _, [], _, _, h, _ => absurd h (Nat.not_lt_zero _)
  | 0, a :: l, b :: m, _, _, _, h => by
    simp only [List.getD_cons_zero] at h ⊢
    simp only [cmpL]
    rw [if_neg h]
  | i + 1, a :: l, b :: m, he, h1, h2, h => by
    have h0 : a = b := he 0 (by omega)
    simp only [List.getD_cons_succ] at h ⊢
    simp only [cmpL]
    rw [if_pos h0]
    exact cmpL_at i l m (fun j hj => by simpa using he (j + 1) (by omega)) (by simpa using h1) (by simpa using h2) h
theorem cmpL_len : ∀ (l m : List Int), (∀ j, j < l.length → j < m.length → l.getD j 0 = m.getD j 0) → cmpL l m = intsV l.length m.length
  | [], m, _ => by simpa using cmpL_nil_left m
  | a :: l, [], _ => by simpa using cmpL_nil_right (a :: l)
  | a :: l, b :: m, h => by
    have h0 : a = b := h 0 (by simp) (by simp)
    simp only [cmpL]
    rw [if_pos h0, cmpL_len l m (fun j h1 h2 => by simpa using h (j + 1) (by simpa using h1) (by simpa using h2))]
    unfold intsV
    simp
theorem intsV_flip (a b : Int) : intsV b a = -intsV a b := by
  unfold intsV
  repeat' split
  all_goals omega
theorem cmpL_flip : ∀ l m : List Int, cmpL m l = -cmpL l m
  | [], [] => rfl
  | [], _ :: _ => rfl
  | _ :: _, [] => rfl
  | a :: l, b :: m => by
    simp only [cmpL]
    by_cases h : a = b
    · rw [if_pos h, if_pos h.symm, cmpL_flip l m]
    · rw [if_neg h, if_neg (Ne.symm h), intsV_flip]
theorem cmpL_one (l m : List Int) : -1 ≤ cmpL l m ∧ cmpL l m ≤ 1 := by
  induction l generalizing m with
  | nil => cases m <;> simp [cmpL]
  | cons a l ih =>
    cases m with
    | nil => simp [cmpL]
    | cons b m =>
      simp only [cmpL]
      by_cases h : a = b
      · rw [if_pos h]; exact ih m
      · rw [if_neg h]; unfold intsV; split <;> (try split) <;> omega

/-- The bytes from a place on. -/
def bl (s : ByteArray) (p : Nat) : List Int := (s.data.toList.drop p).map fun c => (c.toNat : Int)
theorem bl_end (s : ByteArray) (p : Nat) (h : ¬ p < s.size) : bl s p = [] := by
  unfold bl
  rw [List.drop_eq_nil_of_le (by simpa using Nat.le_of_not_lt h)]
  rfl
theorem bl_step (s : ByteArray) (p : Nat) (h : p < s.size) : bl s p = (gb s p : Int) :: bl s (p + 1) := by
  have h' : p < s.data.toList.length := by simpa using h
  unfold bl
  rw [List.drop_eq_getElem_cons h', List.map_cons]
  congr 1
  have := gb_get s p h
  rw [← this]
  rfl
theorem bl_length (s : ByteArray) (p : Nat) : (bl s p).length = s.size - p := by simp [bl]
theorem compareBytes_cmpL : ∀ l m : List UInt8, Lib.compareBytes l m = cmpL (l.map fun c => (c.toNat : Int)) (m.map fun c => (c.toNat : Int))
  | [], [] => rfl
  | [], _ :: _ => rfl
  | _ :: _, [] => rfl
  | a :: l, b :: m => by
    simp only [Lib.compareBytes, List.map_cons, cmpL]
    by_cases h : a = b
    · subst h
      rw [if_neg (by simp), if_neg (by simp), if_pos rfl, compareBytes_cmpL l m]
    · have hn : a.toNat ≠ b.toNat := fun e => h (UInt8.toNat_inj.1 e)
      rw [if_neg (show ¬ ((a.toNat : Int) = b.toNat) by omega)]
      unfold intsV
      simp only [UInt8.lt_iff_toNat_lt]
      by_cases h1 : a.toNat < b.toNat
      · rw [if_pos h1, if_pos (by omega)]
      · rw [if_neg h1, if_pos (by omega), if_neg (by omega), if_pos (by omega)]
def cmpB (a b : ByteArray) : Int := cmpL (bl a 0) (bl b 0)
theorem compareBytes_eq (a b : ByteArray) : Lib.compareBytes a.data.toList b.data.toList = cmpB a b := by
  rw [compareBytes_cmpL]
  rfl

/-! ### UTF-8: the bytes' order is the runes' -/
/-- What a rune's bytes are. -/
theorem good_cases (n b0 b1 b2 b3 : Nat) (h0 : b0 < 256) (h : ¬ Lib.decodeN n b0 b1 b2 b3 = (65533, 1)) :
    (b0 < 128 ∧ Lib.decodeN n b0 b1 b2 b3 = (b0, 1)) ∨
    (192 ≤ b0 ∧ b0 < 224 ∧ 1 < n ∧ b1 / 64 = 2 ∧ 128 ≤ b0 % 32 * 64 + b1 % 64 ∧ Lib.decodeN n b0 b1 b2 b3 = (b0 % 32 * 64 + b1 % 64, 2)) ∨
    (224 ≤ b0 ∧ b0 < 240 ∧ 2 < n ∧ b1 / 64 = 2 ∧ b2 / 64 = 2 ∧ 2048 ≤ b0 % 16 * 4096 + b1 % 64 * 64 + b2 % 64 ∧ Lib.decodeN n b0 b1 b2 b3 = (b0 % 16 * 4096 + b1 % 64 * 64 + b2 % 64, 3)) ∨
    (240 ≤ b0 ∧ b0 < 248 ∧ 3 < n ∧ b1 / 64 = 2 ∧ b2 / 64 = 2 ∧ b3 / 64 = 2 ∧ 65536 ≤ b0 % 8 * 262144 + b1 % 64 * 4096 + b2 % 64 * 64 + b3 % 64 ∧ Lib.decodeN n b0 b1 b2 b3 = (b0 % 8 * 262144 + b1 % 64 * 4096 + b2 % 64 * 64 + b3 % 64, 4)) := by
  unfold Lib.decodeN at h ⊢
  by_cases c1 : b0 < 128
  · rw [if_pos c1]; exact .inl ⟨c1, rfl⟩
  rw [if_neg c1] at h ⊢
  refine .inr ?_
  by_cases c2 : (192 ≤ b0 ∧ b0 < 224) ∧ 1 < n ∧ b1 / 64 = 2
  · have c2' := c2
    rw [if_pos (by omega)] at h ⊢
    by_cases d : b0 % 32 * 64 + b1 % 64 ≥ 128
    · rw [if_pos d]; exact .inl ⟨by omega, by omega, by omega, by omega, d, rfl⟩
    · rw [if_neg d] at h; exact absurd rfl h
  rw [if_neg (by omega)] at h ⊢
  refine .inr ?_
  by_cases c3 : (224 ≤ b0 ∧ b0 < 240) ∧ (1 < n ∧ b1 / 64 = 2) ∧ 2 < n ∧ b2 / 64 = 2
  · rw [if_pos (by omega)] at h ⊢
    split at h
    · rename_i d
      rw [if_pos d]; exact .inl ⟨by omega, by omega, by omega, by omega, by omega, by omega, rfl⟩
    · exact absurd rfl h
  rw [if_neg (by omega)] at h ⊢
  refine .inr ?_
  by_cases c4 : (240 ≤ b0 ∧ b0 < 248) ∧ (1 < n ∧ b1 / 64 = 2) ∧ (2 < n ∧ b2 / 64 = 2) ∧ 3 < n ∧ b3 / 64 = 2
  · rw [if_pos (by omega)] at h ⊢
    split at h
    · rename_i d
      rw [if_pos d]; exact ⟨by omega, by omega, by omega, by omega, by omega, by omega, by omega, rfl⟩
    · exact absurd rfl h
  rw [if_neg (by omega)] at h
  exact absurd rfl h
theorem intsV_lt {a b c d : Int} (h1 : a < b ↔ c < d) (h2 : b < a ↔ d < c) : intsV a b = intsV c d := by
  unfold intsV
  by_cases x : a < b
  · rw [if_pos x, if_pos (h1.1 x)]
  · rw [if_neg x, if_neg (fun y => x (h1.2 y))]
    by_cases z : b < a
    · rw [if_pos z, if_pos (h2.1 z)]
    · rw [if_neg z, if_neg (fun y => z (h2.2 y))]
theorem cmpL_ne {a b : Int} (l m : List Int) (h : a ≠ b) : cmpL (a :: l) (b :: m) = intsV a b := by
  simp only [cmpL]
  rw [if_neg h]
theorem cmpL_eq {a b : Int} (l m : List Int) (h : a = b) : cmpL (a :: l) (b :: m) = cmpL l m := by
  simp only [cmpL]
  rw [if_pos h]
theorem bl_cmp_ne (a b : ByteArray) (p : Nat) (ha : p < a.size) (hb : p < b.size) (h : gb a p ≠ gb b p) : cmpL (bl a p) (bl b p) = intsV (gb a p) (gb b p) := by
  rw [bl_step a p ha, bl_step b p hb, cmpL_ne _ _ (by omega)]
theorem bl_cmp_eq (a b : ByteArray) (p : Nat) (ha : p < a.size) (hb : p < b.size) (h : gb a p = gb b p) : cmpL (bl a p) (bl b p) = cmpL (bl a (p + 1)) (bl b (p + 1)) := by
  rw [bl_step a p ha, bl_step b p hb, cmpL_eq _ _ (by omega)]
theorem not_broken {s : ByteArray} {p : Nat} (h : brokenB s p = false) : ¬ Lib.decodeN (s.size - p) (gb s p) (gb s (p + 1)) (gb s (p + 2)) (gb s (p + 3)) = (65533, 1) := by
  intro e
  rw [← dec_at] at e
  unfold brokenB at h
  rw [e] at h
  exact absurd h (by decide)
set_option maxHeartbeats 4000000 in
theorem order_one (a b : ByteArray) (p : Nat) (ha : p < a.size) (hb : p < b.size) (va : brokenB a p = false) (vb : brokenB b p = false) :
    ((Utf8.decode a p).1 = (Utf8.decode b p).1 ∧ (Utf8.decode a p).2 = (Utf8.decode b p).2 ∧ cmpL (bl a p) (bl b p) = cmpL (bl a (p + (Utf8.decode a p).2)) (bl b (p + (Utf8.decode a p).2))) ∨
    ((Utf8.decode a p).1 ≠ (Utf8.decode b p).1 ∧ cmpL (bl a p) (bl b p) = intsV ((Utf8.decode a p).1) ((Utf8.decode b p).1)) := by
  have ca := good_cases _ _ _ _ _ (gb_lt a p) (not_broken va)
  have cb := good_cases _ _ _ _ _ (gb_lt b p) (not_broken vb)
  rw [← dec_at] at ca cb
  have la1 := gb_lt a (p + 1); have la2 := gb_lt a (p + 2); have la3 := gb_lt a (p + 3)
  have lb1 := gb_lt b (p + 1); have lb2 := gb_lt b (p + 2); have lb3 := gb_lt b (p + 3)
  by_cases e0 : gb a p = gb b p
  · rcases ca with ⟨a1, ea⟩ | ⟨a1, a2, a3, a4, a5, ea⟩ | ⟨a1, a2, a3, a4, a5, a6, ea⟩ | ⟨a1, a2, a3, a4, a5, a6, a7, ea⟩
    · rcases cb with ⟨b1, eb⟩ | ⟨b1, b2, b3, b4, b5, eb⟩ | ⟨b1, b2, b3, b4, b5, b6, eb⟩ | ⟨b1, b2, b3, b4, b5, b6, b7, eb⟩
      · rw [ea, eb]
        exact .inl ⟨e0, rfl, bl_cmp_eq a b p ha hb e0⟩
      all_goals (exfalso; omega)
    · rcases cb with ⟨b1, eb⟩ | ⟨b1, b2, b3, b4, b5, eb⟩ | ⟨b1, b2, b3, b4, b5, b6, eb⟩ | ⟨b1, b2, b3, b4, b5, b6, b7, eb⟩
      · exfalso; omega
      · rw [ea, eb, bl_cmp_eq a b p ha hb e0]
        by_cases e1 : gb a (p + 1) = gb b (p + 1)
        · rw [bl_cmp_eq a b (p + 1) (by omega) (by omega) e1]
          exact .inl ⟨by simp only; rw [e0, e1], rfl, rfl⟩
        · rw [bl_cmp_ne a b (p + 1) (by omega) (by omega) e1]
          exact .inr ⟨by simp only; omega, intsV_lt (by simp only; omega) (by simp only; omega)⟩
      all_goals (exfalso; omega)
    · rcases cb with ⟨b1, eb⟩ | ⟨b1, b2, b3, b4, b5, eb⟩ | ⟨b1, b2, b3, b4, b5, b6, eb⟩ | ⟨b1, b2, b3, b4, b5, b6, b7, eb⟩
      · exfalso; omega
      · exfalso; omega
      · rw [ea, eb, bl_cmp_eq a b p ha hb e0]
        by_cases e1 : gb a (p + 1) = gb b (p + 1)
        · rw [bl_cmp_eq a b (p + 1) (by omega) (by omega) e1]
          by_cases e2 : gb a (p + 2) = gb b (p + 2)
          · rw [bl_cmp_eq a b (p + 1 + 1) (by omega) (by omega) e2]
            exact .inl ⟨by simp only; rw [e0, e1, e2], rfl, rfl⟩
          · rw [bl_cmp_ne a b (p + 1 + 1) (by omega) (by omega) e2]
            exact .inr ⟨by simp only; omega, intsV_lt (by simp only; show (gb a (p + 2) : Int) < gb b (p + 2) ↔ _; omega) (by simp only; show (gb b (p + 2) : Int) < gb a (p + 2) ↔ _; omega)⟩
        · rw [bl_cmp_ne a b (p + 1) (by omega) (by omega) e1]
          exact .inr ⟨by simp only; omega, intsV_lt (by simp only; omega) (by simp only; omega)⟩
      all_goals (exfalso; omega)
    · rcases cb with ⟨b1, eb⟩ | ⟨b1, b2, b3, b4, b5, eb⟩ | ⟨b1, b2, b3, b4, b5, b6, eb⟩ | ⟨b1, b2, b3, b4, b5, b6, b7, eb⟩
      · exfalso; omega
      · exfalso; omega
      · exfalso; omega
      · rw [ea, eb, bl_cmp_eq a b p ha hb e0]
        by_cases e1 : gb a (p + 1) = gb b (p + 1)
        · rw [bl_cmp_eq a b (p + 1) (by omega) (by omega) e1]
          by_cases e2 : gb a (p + 2) = gb b (p + 2)
          · rw [bl_cmp_eq a b (p + 1 + 1) (by omega) (by omega) e2]
            by_cases e3 : gb a (p + 3) = gb b (p + 3)
            · rw [bl_cmp_eq a b (p + 1 + 1 + 1) (by omega) (by omega) e3]
              exact .inl ⟨by simp only; rw [e0, e1, e2, e3], rfl, rfl⟩
            · rw [bl_cmp_ne a b (p + 1 + 1 + 1) (by omega) (by omega) e3]
              exact .inr ⟨by simp only; omega, intsV_lt (by simp only; show (gb a (p + 3) : Int) < gb b (p + 3) ↔ _; omega) (by simp only; show (gb b (p + 3) : Int) < gb a (p + 3) ↔ _; omega)⟩
          · rw [bl_cmp_ne a b (p + 1 + 1) (by omega) (by omega) e2]
            exact .inr ⟨by simp only; omega, intsV_lt (by simp only; show (gb a (p + 2) : Int) < gb b (p + 2) ↔ _; omega) (by simp only; show (gb b (p + 2) : Int) < gb a (p + 2) ↔ _; omega)⟩
        · rw [bl_cmp_ne a b (p + 1) (by omega) (by omega) e1]
          exact .inr ⟨by simp only; omega, intsV_lt (by simp only; omega) (by simp only; omega)⟩
  · refine .inr ?_
    rw [bl_cmp_ne a b p ha hb e0]
    have lt_i : ∀ x y z u : Nat, (x < y ↔ z < u) → ((x : Int) < y ↔ (z : Int) < u) := fun x y z u h => by omega
    rcases ca with ⟨a1, ea⟩ | ⟨a1, a2, a3, a4, a5, ea⟩ | ⟨a1, a2, a3, a4, a5, a6, ea⟩ | ⟨a1, a2, a3, a4, a5, a6, a7, ea⟩ <;>
      rcases cb with ⟨b1, eb⟩ | ⟨b1, b2, b3, b4, b5, eb⟩ | ⟨b1, b2, b3, b4, b5, b6, eb⟩ | ⟨b1, b2, b3, b4, b5, b6, b7, eb⟩
    all_goals
      rw [ea, eb]
      exact ⟨by simp only; omega, intsV_lt (lt_i _ _ _ _ (by first | exact Iff.rfl | (simp only; omega))) (lt_i _ _ _ _ (by first | exact Iff.rfl | (simp only; omega)))⟩

/-- UTF-8 texts stand to each other as their runes do. -/
theorem utf_order (a b : ByteArray) : ∀ p, validT a p = true → validT b p = true → cmpL (bl a p) (bl b p) = cmpL (runesT a p) (runesT b p) := by
  refine tail_ind a _ ?_ ?_
  · intro p hp va vb
    rw [bl_end a p hp, runesT_end a p hp, cmpL_nil_left, cmpL_nil_left, bl_length]
    by_cases hb : p < b.size
    · rw [runesT_step b p hb]
      unfold intsV
      rw [if_pos (by omega), if_pos (by simp)]
    · rw [runesT_end b p hb, show b.size - p = 0 by omega]
      rfl
  · intro p hp ih va vb
    by_cases hb : p < b.size
    · rw [validT_step a p hp] at va
      rw [validT_step b p hb] at vb
      simp only [Bool.and_eq_true, Bool.not_eq_true'] at va vb
      rw [runesT_step a p hp, runesT_step b p hb]
      rcases order_one a b p hp hb va.1 vb.1 with ⟨h1, h2, h3⟩ | ⟨h1, h2⟩
      · rw [h3, cmpL_eq _ _ (by omega), ih va.2 (by rw [h2]; exact vb.2), h2]
      · rw [h2, cmpL_ne _ _ (by omega)]
    · rw [bl_end b p hb, runesT_end b p hb, cmpL_nil_right, cmpL_nil_right, bl_length, runesT_step a p hp]
      unfold intsV
      rw [if_neg (by omega), if_pos (by omega), if_neg (by simp only [List.length_cons]; omega), if_pos (by simp only [List.length_cons]; omega)]
theorem utf_order_all (a b : ByteArray) (va : validB a = true) (vb : validB b = true) : cmpB a b = cmpL (runesT a 0) (runesT b 0) := utf_order a b 0 va vb
end Go.Proofs.Ytcgfdnhocdcfjaa.Utf
