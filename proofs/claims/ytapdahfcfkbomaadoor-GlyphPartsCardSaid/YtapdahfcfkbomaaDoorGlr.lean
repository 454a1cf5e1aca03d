/- The reference's runes: what the printed functions come to. -/
import Derived.Test.YtapdahfcfkbomaaDoorUtf
import Derived.Test.YtapdahfcfkbomaaDoorPrn
namespace Go.Proofs.YtapdahfcfkbomaaDoor.Glr
open Go.RowKit Go.Proofs.YtapdahfcfkbomaaDoorW.PrintWords Go.Proofs.YtapdahfcfkbomaaDoor.Utf Go.Proofs.YtapdahfcfkbomaaDoor.Prn
set_option linter.unusedVariables false
set_option linter.unusedSimpArgs false

theorem w64 (x : Int) (h0 : -9223372036854775808 ≤ x) (h1 : x ≤ 9223372036854775807) : wrap64 x = x := by unfold wrap64; omega
theorem wgb (s : ByteArray) (i : Nat) (h : i < s.size) : wrap64 (bt s (i : Int)) = (gb s i : Int) := by
  rw [bt_gb s i h]
  have := gb_lt s i
  exact w64 _ (by omega) (by omega)

def refV (d : Nat × Nat) : Int × Int := if (d.1 == 65533 && d.2 == 1) = true then (0, 0) else ((d.1 : Int), (d.2 : Int))
theorem refV_bad : refV (65533, 1) = (0, 0) := rfl
theorem refV_of (c m : Nat) (h : m ≠ 1) : refV (c, m) = ((c : Int), (m : Int)) := by
  unfold refV
  rw [beq_eq_false_iff_ne.2 h, Bool.and_false]
  rfl
/-- What the reference's Rune tells. -/
def runeV (s : ByteArray) (p : Nat) : Int × Int := refV (Utf8.decode s p)
theorem runeV_eq (s : ByteArray) (p : Nat) : runeV s p = if brokenB s p = true then (0, 0) else (((Utf8.decode s p).1 : Int), ((Utf8.decode s p).2 : Int)) := rfl
theorem dN_one (n b0 b1 b2 b3 : Nat) (h : b0 < 128) : Lib.decodeN n b0 b1 b2 b3 = (b0, 1) := by unfold Lib.decodeN; rw [if_pos h]
theorem dN_bad (n b0 b1 b2 b3 : Nat) (h : (128 ≤ b0 ∧ b0 < 192) ∨ (248 ≤ b0 ∧ b0 < 256)) : Lib.decodeN n b0 b1 b2 b3 = (65533, 1) := by
  unfold Lib.decodeN; rw [if_neg (by omega), if_neg (by omega), if_neg (by omega), if_neg (by omega)]
theorem dN_two (n b0 b1 b2 b3 : Nat) (h0 : 192 ≤ b0) (h1 : b0 < 224) : Lib.decodeN n b0 b1 b2 b3 = if (1 < n ∧ b1 / 64 = 2) ∧ b0 % 32 * 64 + b1 % 64 ≥ 128 then (b0 % 32 * 64 + b1 % 64, 2) else (65533, 1) := by
  unfold Lib.decodeN
  rw [if_neg (by omega)]
  by_cases c : 1 < n ∧ b1 / 64 = 2
  · rw [if_pos ⟨by omega, c⟩]
    by_cases d : b0 % 32 * 64 + b1 % 64 ≥ 128
    · rw [if_pos d, if_pos ⟨c, d⟩]
    · rw [if_neg d, if_neg (fun h => d h.2)]
  · rw [if_neg (fun h => c h.2), if_neg (by omega), if_neg (by omega), if_neg (fun h => c h.1)]
theorem dN_three (n b0 b1 b2 b3 : Nat) (h0 : 224 ≤ b0) (h1 : b0 < 240) : Lib.decodeN n b0 b1 b2 b3 = if ((1 < n ∧ b1 / 64 = 2) ∧ (2 < n ∧ b2 / 64 = 2)) ∧ (b0 % 16 * 4096 + b1 % 64 * 64 + b2 % 64 ≥ 2048 ∧ (b0 % 16 * 4096 + b1 % 64 * 64 + b2 % 64 < 55296 ∨ 57344 ≤ b0 % 16 * 4096 + b1 % 64 * 64 + b2 % 64)) then (b0 % 16 * 4096 + b1 % 64 * 64 + b2 % 64, 3) else (65533, 1) := by
  unfold Lib.decodeN
  rw [if_neg (by omega), if_neg (by omega)]
  by_cases c : (1 < n ∧ b1 / 64 = 2) ∧ (2 < n ∧ b2 / 64 = 2)
  · rw [if_pos ⟨by omega, c⟩]
    by_cases d : b0 % 16 * 4096 + b1 % 64 * 64 + b2 % 64 ≥ 2048 ∧ (b0 % 16 * 4096 + b1 % 64 * 64 + b2 % 64 < 55296 ∨ 57344 ≤ b0 % 16 * 4096 + b1 % 64 * 64 + b2 % 64)
    · rw [if_pos (by omega), if_pos ⟨c, d⟩]
    · rw [if_neg (by omega), if_neg (fun h => d h.2)]
  · rw [if_neg (fun h => c h.2), if_neg (by omega), if_neg (fun h => c h.1)]
theorem dN_four (n b0 b1 b2 b3 : Nat) (h0 : 240 ≤ b0) (h1 : b0 < 248) : Lib.decodeN n b0 b1 b2 b3 = if ((1 < n ∧ b1 / 64 = 2) ∧ (2 < n ∧ b2 / 64 = 2) ∧ (3 < n ∧ b3 / 64 = 2)) ∧ (b0 % 8 * 262144 + b1 % 64 * 4096 + b2 % 64 * 64 + b3 % 64 ≥ 65536 ∧ b0 % 8 * 262144 + b1 % 64 * 4096 + b2 % 64 * 64 + b3 % 64 ≤ 1114111) then (b0 % 8 * 262144 + b1 % 64 * 4096 + b2 % 64 * 64 + b3 % 64, 4) else (65533, 1) := by
  unfold Lib.decodeN
  rw [if_neg (by omega), if_neg (by omega), if_neg (by omega)]
  by_cases c : (1 < n ∧ b1 / 64 = 2) ∧ (2 < n ∧ b2 / 64 = 2) ∧ (3 < n ∧ b3 / 64 = 2)
  · rw [if_pos ⟨by omega, c⟩]
    by_cases d : b0 % 8 * 262144 + b1 % 64 * 4096 + b2 % 64 * 64 + b3 % 64 ≥ 65536 ∧ b0 % 8 * 262144 + b1 % 64 * 4096 + b2 % 64 * 64 + b3 % 64 ≤ 1114111
    · rw [if_pos (by omega), if_pos ⟨c, d⟩]
    · rw [if_neg (by omega), if_neg (fun h => d h.2)]
  · rw [if_neg (fun h => c h.2), if_neg (fun h => c h.1)]

theorem l0_step (s : ByteArray) (p m i : Nat) (x : Int) (least : Int) (k : Nat) (hm : i < m) (hi : p + i < s.size) (hs : s.size ≤ 9223372036854775807) (hx0 : 0 ≤ x) (hx1 : x ≤ 1000000000) (hi4 : i ≤ 4) :
    stileref01_Rune.l0 (k + 1) s (p : Int) (m : Int) x least (i : Int) = if gb s (p + i) < 128 then some (0, 0) else if 191 < gb s (p + i) then some (0, 0) else stileref01_Rune.l0 k s (p : Int) (m : Int) (x * 64 + gb s (p + i) - 128) least ((i + 1 : Nat) : Int) := by
  have hg := gb_lt s (p + i)
  simp only [stileref01_Rune.l0]
  rw [if_pos (by omega : (i : Int) < (m : Int)), w64 ((p : Int) + (i : Int)) (by omega) (by omega), if_pos (by omega), if_pos (by omega), show ((p : Int) + (i : Int)) = ((p + i : Nat) : Int) by omega, wgb s _ hi]
  by_cases h1 : gb s (p + i) < 128
  · rw [if_pos h1, if_pos (by omega)]
  · rw [if_neg h1, if_neg (by omega)]
    by_cases h2 : 191 < gb s (p + i)
    · rw [if_pos h2, if_pos (by omega)]
    · rw [if_neg h2, if_neg (by omega), w64 (x * 64) (by omega) (by omega), w64 (x * 64 + gb s (p + i)) (by omega) (by omega), w64 (x * 64 + gb s (p + i) - 128) (by omega) (by omega), w64 ((i : Int) + 1) (by omega) (by omega)]
      rfl
theorem l0_end (s : ByteArray) (p m : Nat) (x : Int) (least : Int) (k : Nat) :
    stileref01_Rune.l0 (k + 1) s (p : Int) (m : Int) x least (m : Int) = if x < least ∨ 1114111 < x ∨ (55296 ≤ x ∧ x ≤ 57343) then some (0, 0) else some (x, (m : Int)) := by
  simp only [stileref01_Rune.l0]
  rw [if_neg (by omega)]
  by_cases h1 : x < least
  · rw [if_pos h1, if_pos (.inl h1)]
  · rw [if_neg h1]
    by_cases h2 : 1114111 < x
    · rw [if_pos h2, if_pos (.inr (.inl h2))]
    · rw [if_neg (by omega)]
      by_cases h3 : 55296 ≤ x
      · rw [if_pos h3]
        by_cases h4 : x ≤ 57343
        · rw [if_pos h4, if_pos (.inr (.inr ⟨h3, h4⟩))]
        · rw [if_neg h4, if_neg (by omega)]
      · rw [if_neg h3, if_neg (by omega)]
theorem j2_eq (s : ByteArray) (p m : Nat) (x : Int) (least : Int) (k : Nat) (hp : p < s.size) (hs : s.size ≤ 9223372036854775807) :
    stileref01_Rune.j2 (k + 1) s (p : Int) (m : Int) x least = if s.size - p < m then some (0, 0) else stileref01_Rune.l0 k s (p : Int) (m : Int) x least ((1 : Nat) : Int) := by
  simp only [stileref01_Rune.j2]
  rw [w64 ((s.size : Int) - (p : Int)) (by omega) (by omega)]
  by_cases h : s.size - p < m
  · rw [if_pos h, if_pos (by omega)]
  · rw [if_neg h, if_neg (by omega)]
    rfl

/-- A road on which no rune is found. -/
theorem no_rune {d : Nat × Nat} (h : d = (65533, 1)) : (some ((0 : Int), (0 : Int)) : Option (Int × Int)) = some (refV d) := by rw [h]; rfl
theorem ret_rune {d : Nat × Nat} {c m : Nat} {x y : Int} (h : d = (c, m)) (hm : m ≠ 1) (hx : x = c) (hy : y = m) : some (x, y) = some (refV d) := by
  rw [h, refV_of _ _ hm, hx, hy]

set_option maxHeartbeats 1000000 in
theorem rune_ev (s : ByteArray) (p : Nat) (hp : p < s.size) (hs : s.size ≤ 9223372036854775807) : stileref01_Rune.f 12 s (p : Int) = some (runeV s p) := by
  have b0 := gb_lt s p
  unfold stileref01_Rune.f runeV
  rw [if_pos (by omega), if_pos (by omega), wgb s p hp, dec_at]
  by_cases c1 : gb s p < 128
  · rw [if_pos (by omega), dN_one _ _ _ _ _ c1]
    unfold refV
    rw [beq_eq_false_iff_ne.2 (show gb s p ≠ 65533 by omega)]
    rfl
  · rw [if_neg (by omega)]
    by_cases c2 : gb s p < 192
    · rw [if_neg (by omega), dN_bad _ _ _ _ _ (by omega)]
      simp only [stileref01_Rune.j0]
      rw [if_neg (by decide), if_neg (by omega)]
      simp only [stileref01_Rune.j1]
      rw [if_neg (by decide), if_neg (by omega)]
      rfl
    · rw [if_pos (by omega)]
      by_cases c3 : gb s p < 224
      · rw [decide_eq_true (show (gb s p : Int) < 224 by omega)]
        simp only [stileref01_Rune.j0, if_true]
        rw [w64 ((gb s p : Int) - 192) (by omega) (by omega), show (2 : Int) = ((2 : Nat) : Int) from rfl, j2_eq s p 2 _ _ _ hp hs]
        by_cases c4 : s.size - p < 2
        · rw [if_pos c4]
          exact no_rune (by rw [dN_two _ _ _ _ _ (by omega) c3, if_neg (by omega)])
        · have b1 := gb_lt s (p + 1)
          rw [if_neg c4, l0_step s p 2 1 _ _ _ (by omega) (by omega) hs (by omega) (by omega) (by omega)]
          by_cases d1 : gb s (p + 1) < 128
          · rw [if_pos d1]
            exact no_rune (by rw [dN_two _ _ _ _ _ (by omega) c3, if_neg (by omega)])
          rw [if_neg d1]
          by_cases d2 : 191 < gb s (p + 1)
          · rw [if_pos d2]
            exact no_rune (by rw [dN_two _ _ _ _ _ (by omega) c3, if_neg (by omega)])
          rw [if_neg d2, l0_end]
          by_cases e : (gb s p % 32 * 64 + gb s (p + 1) % 64) ≥ 128
          · rw [if_neg (by omega)]
            exact ret_rune (by rw [dN_two _ _ _ _ _ (by omega) c3, if_pos (by omega)]) (by decide) (by omega) rfl
          · rw [if_pos (by omega)]
            exact no_rune (by rw [dN_two _ _ _ _ _ (by omega) c3, if_neg (by omega)])
      · rw [decide_eq_false (show ¬ (gb s p : Int) < 224 by omega)]
        simp only [stileref01_Rune.j0]
        rw [if_neg (by decide), if_pos (by omega)]
        by_cases c5 : gb s p < 240
        · rw [decide_eq_true (show (gb s p : Int) < 240 by omega)]
          simp only [stileref01_Rune.j1, if_true]
          rw [w64 ((gb s p : Int) - 224) (by omega) (by omega), show (3 : Int) = ((3 : Nat) : Int) from rfl, j2_eq s p 3 _ _ _ hp hs]
          by_cases c4 : s.size - p < 3
          · rw [if_pos c4]
            exact no_rune (by rw [dN_three _ _ _ _ _ (by omega) c5, if_neg (by omega)])
          have b1 := gb_lt s (p + 1)
          have b2 := gb_lt s (p + 2)
          rw [if_neg c4, l0_step s p 3 1 _ _ _ (by omega) (by omega) hs (by omega) (by omega) (by omega)]
          by_cases d1 : gb s (p + 1) < 128
          · rw [if_pos d1]
            exact no_rune (by rw [dN_three _ _ _ _ _ (by omega) c5, if_neg (by omega)])
          rw [if_neg d1]
          by_cases d2 : 191 < gb s (p + 1)
          · rw [if_pos d2]
            exact no_rune (by rw [dN_three _ _ _ _ _ (by omega) c5, if_neg (by omega)])
          rw [if_neg d2, l0_step s p 3 2 _ _ _ (by omega) (by omega) hs (by omega) (by omega) (by omega)]
          by_cases d3 : gb s (p + 2) < 128
          · rw [if_pos d3]
            exact no_rune (by rw [dN_three _ _ _ _ _ (by omega) c5, if_neg (by omega)])
          rw [if_neg d3]
          by_cases d4 : 191 < gb s (p + 2)
          · rw [if_pos d4]
            exact no_rune (by rw [dN_three _ _ _ _ _ (by omega) c5, if_neg (by omega)])
          rw [if_neg d4, l0_end]
          obtain ⟨c, hc⟩ : ∃ c, gb s p % 16 * 4096 + gb s (p + 1) % 64 * 64 + gb s (p + 2) % 64 = c := ⟨_, rfl⟩
          have hD := dN_three (s.size - p) (gb s p) (gb s (p + 1)) (gb s (p + 2)) (gb s (p + 3)) (by omega) c5
          rw [hc] at hD
          have hx : ((((gb s p : Int) - 224) * 64 + gb s (p + 1) - 128) * 64 + gb s (p + 2) - 128) = (c : Int) := by omega
          rw [hx]
          by_cases e : c ≥ 2048 ∧ (c < 55296 ∨ 57344 ≤ c)
          · rw [if_neg (by omega)]
            exact ret_rune (by rw [hD, if_pos (by omega)]) (by decide) (by omega) rfl
          · rw [if_pos (by omega)]
            exact no_rune (by rw [hD, if_neg (by omega)])
        · rw [decide_eq_false (show ¬ (gb s p : Int) < 240 by omega)]
          simp only [stileref01_Rune.j1]
          rw [if_neg (by decide), if_pos (by omega)]
          by_cases c6 : gb s p < 248
          · rw [if_pos (by omega), w64 ((gb s p : Int) - 240) (by omega) (by omega), show (4 : Int) = ((4 : Nat) : Int) from rfl, j2_eq s p 4 _ _ _ hp hs]
            by_cases c4 : s.size - p < 4
            · rw [if_pos c4]
              exact no_rune (by rw [dN_four _ _ _ _ _ (by omega) c6, if_neg (by omega)])
            have b1 := gb_lt s (p + 1)
            have b2 := gb_lt s (p + 2)
            have b3 := gb_lt s (p + 3)
            rw [if_neg c4, l0_step s p 4 1 _ _ _ (by omega) (by omega) hs (by omega) (by omega) (by omega)]
            by_cases d1 : gb s (p + 1) < 128
            · rw [if_pos d1]
              exact no_rune (by rw [dN_four _ _ _ _ _ (by omega) c6, if_neg (by omega)])
            rw [if_neg d1]
            by_cases d2 : 191 < gb s (p + 1)
            · rw [if_pos d2]
              exact no_rune (by rw [dN_four _ _ _ _ _ (by omega) c6, if_neg (by omega)])
            rw [if_neg d2, l0_step s p 4 2 _ _ _ (by omega) (by omega) hs (by omega) (by omega) (by omega)]
            by_cases d3 : gb s (p + 2) < 128
            · rw [if_pos d3]
              exact no_rune (by rw [dN_four _ _ _ _ _ (by omega) c6, if_neg (by omega)])
            rw [if_neg d3]
            by_cases d4 : 191 < gb s (p + 2)
            · rw [if_pos d4]
              exact no_rune (by rw [dN_four _ _ _ _ _ (by omega) c6, if_neg (by omega)])
            rw [if_neg d4, l0_step s p 4 3 _ _ _ (by omega) (by omega) hs (by omega) (by omega) (by omega)]
            by_cases d5 : gb s (p + 3) < 128
            · rw [if_pos d5]
              exact no_rune (by rw [dN_four _ _ _ _ _ (by omega) c6, if_neg (by omega)])
            rw [if_neg d5]
            by_cases d6 : 191 < gb s (p + 3)
            · rw [if_pos d6]
              exact no_rune (by rw [dN_four _ _ _ _ _ (by omega) c6, if_neg (by omega)])
            rw [if_neg d6, l0_end]
            obtain ⟨c, hc⟩ : ∃ c, gb s p % 8 * 262144 + gb s (p + 1) % 64 * 4096 + gb s (p + 2) % 64 * 64 + gb s (p + 3) % 64 = c := ⟨_, rfl⟩
            have hD := dN_four (s.size - p) (gb s p) (gb s (p + 1)) (gb s (p + 2)) (gb s (p + 3)) (by omega) c6
            rw [hc] at hD
            have hx : (((((gb s p : Int) - 240) * 64 + gb s (p + 1) - 128) * 64 + gb s (p + 2) - 128) * 64 + gb s (p + 3) - 128) = (c : Int) := by omega
            rw [hx]
            by_cases e : c ≥ 65536 ∧ c ≤ 1114111
            · rw [if_neg (by omega)]
              exact ret_rune (by rw [hD, if_pos (by omega)]) (by decide) (by omega) rfl
            · rw [if_pos (by omega)]
              exact no_rune (by rw [hD, if_neg (by omega)])
          · rw [if_neg (by omega), dN_bad _ _ _ _ _ (by omega)]
            rfl

theorem rune_at (s : ByteArray) (p : Nat) (hp : p < s.size) (hs : s.size ≤ 9223372036854775807) (k : Nat) (hk : 12 ≤ k) : stileref01_Rune.f k s (p : Int) = some (runeV s p) :=
  at_rounds (stileref01_Rune.mono s (p : Int)) hk (rune_ev s p hp hs)
def runesV (s : ByteArray) (acc : List Int) (p : Nat) : List Int × Bool := if validT s p = true then (acc ++ runesT s p, true) else ([], false)
theorem runes_l0 (s : ByteArray) (hs : s.size ≤ 100000000) : ∀ (d k p : Nat) (acc : List Int), s.size - p ≤ d → p ≤ s.size → d + 13 ≤ k → acc.length ≤ p → stileref01_Runes.l0 k s acc (p : Int) = some (runesV s acc p) := by
  intro d
  induction d with
  | zero =>
    intro k p acc h0 h1 hk ha
    obtain ⟨k, rfl⟩ : ∃ m, k = m + 1 := ⟨k - 1, by omega⟩
    simp only [stileref01_Runes.l0]
    rw [if_neg (by omega)]
    unfold runesV
    rw [validT_end s p (by omega), if_pos rfl, runesT_end s p (by omega), List.append_nil]
  | succ d ih =>
    intro k p acc h0 h1 hk ha
    obtain ⟨k, rfl⟩ : ∃ m, k = m + 1 := ⟨k - 1, by omega⟩
    simp only [stileref01_Runes.l0]
    by_cases hp : p < s.size
    · rw [if_pos (by omega), rune_at s p hp (by omega) k (by omega)]
      simp only [Option.bind_some]
      have hw := dec_w s p hp
      unfold runesV
      rw [validT_step s p hp, runeV_eq]
      cases hb : brokenB s p with
      | true => rfl
      | false =>
        simp only [Bool.false_eq_true, if_false]
        rw [if_neg (by omega), if_pos (by omega), w64 _ (by omega) (by omega), show ((p : Int) + ((Utf8.decode s p).2 : Int)) = ((p + (Utf8.decode s p).2 : Nat) : Int) by omega, ih k _ _ (by omega) (by omega) (by omega) (by simp; omega)]
        unfold runesV
        rw [runesT_step s p hp, List.append_assoc]
        rfl
    · rw [if_neg (by omega)]
      unfold runesV
      rw [validT_end s p hp, if_pos rfl, runesT_end s p hp, List.append_nil]
theorem runes_ev (s : ByteArray) (hs : s.size ≤ 100000000) : stileref01_Runes.f (s.size + 13) s = some (runesV s [] 0) := by
  unfold stileref01_Runes.f
  exact runes_l0 s hs s.size _ 0 [] (by omega) (by omega) (by omega) (Nat.zero_le _)

/-! ### names -/
theorem name_round (i c : Nat) (h : c < 256) (x y : Option Bool) (hx : x = some false) :
    (if (c : Int) < 97 then (if (i : Int) = 0 then x else (if (c : Int) < 48 then (if (c : Int) = 95 then y else x) else (if (c : Int) > 57 then (if (c : Int) = 95 then y else x) else y)))
     else (if (c : Int) > 122 then (if (i : Int) = 0 then x else (if (c : Int) < 48 then (if (c : Int) = 95 then y else x) else (if (c : Int) > 57 then (if (c : Int) = 95 then y else x) else y))) else y)) = if nmR i c = true then y else x := by
  have hn : nmR i c = true ↔ (97 ≤ c ∧ c ≤ 122) ∨ (0 < i ∧ ((48 ≤ c ∧ c ≤ 57) ∨ c = 95)) := by
    unfold nmR smallR
    simp
  by_cases h0 : nmR i c = true
  · have h1 := hn.1 h0
    rw [if_pos h0]
    by_cases a : (c : Int) < 97
    · rw [if_pos a, if_neg (by omega)]
      by_cases b : (c : Int) < 48
      · exfalso; omega
      · rw [if_neg b]
        by_cases d : (c : Int) > 57
        · rw [if_pos d, if_pos (by omega)]
        · rw [if_neg d]
    · rw [if_neg a, if_neg (by omega)]
  · have h1 : ¬ ((97 ≤ c ∧ c ≤ 122) ∨ (0 < i ∧ ((48 ≤ c ∧ c ≤ 57) ∨ c = 95))) := fun h => h0 (hn.2 h)
    rw [if_neg h0]
    by_cases a : (c : Int) < 97
    · rw [if_pos a]
      by_cases e : (i : Int) = 0
      · rw [if_pos e]
      · rw [if_neg e]
        by_cases b : (c : Int) < 48
        · rw [if_pos b, if_neg (by omega)]
        · rw [if_neg b]
          by_cases d : (c : Int) > 57
          · rw [if_pos d, if_neg (by omega)]
          · exfalso; omega
    · rw [if_neg a, if_pos (by omega)]
      by_cases e : (i : Int) = 0
      · rw [if_pos e]
      · rw [if_neg e, if_neg (by omega), if_pos (by omega), if_neg (by omega)]
theorem name_l0 (s : ByteArray) (hs : s.size ≤ 9223372036854775807) : ∀ (d k p : Nat), s.size - p ≤ d → p ≤ s.size → d + 1 ≤ k → stileref01_Name.l0 k s (p : Int) = some (nmAll s p && (decide (1 ≤ s.size) && decide (s.size ≤ 16))) := by
  intro d
  induction d with
  | zero =>
    intro k p h0 h1 hk
    obtain ⟨k, rfl⟩ : ∃ m, k = m + 1 := ⟨k - 1, by omega⟩
    simp only [stileref01_Name.l0]
    rw [if_neg (by omega), nmAll_end s p (by omega), Bool.true_and]
    by_cases h : 1 ≤ s.size
    · rw [if_pos (by omega), decide_eq_true h, Bool.true_and]
      congr 1
      rw [decide_eq_decide]
      omega
    · rw [if_neg (by omega), decide_eq_false h, Bool.false_and]
  | succ d ih =>
    intro k p h0 h1 hk
    obtain ⟨k, rfl⟩ : ∃ m, k = m + 1 := ⟨k - 1, by omega⟩
    by_cases hp : p < s.size
    · simp only [stileref01_Name.l0]
      rw [if_pos (by omega), if_pos (by omega), bt_gb s p hp, name_round p (gb s p) (gb_lt s p) _ _ rfl, nmAll_step s p hp]
      cases hn : nmR p (gb s p) with
      | false => rfl
      | true =>
        rw [if_pos rfl, w64 _ (by omega) (by omega), show ((p : Int) + 1) = ((p + 1 : Nat) : Int) by omega, ih k _ (by omega) (by omega) (by omega), Bool.true_and]
    · simp only [stileref01_Name.l0]
      rw [if_neg (by omega), nmAll_end s p (by omega), Bool.true_and]
      by_cases h : 1 ≤ s.size
      · rw [if_pos (by omega), decide_eq_true h, Bool.true_and]
        congr 1
        rw [decide_eq_decide]
        omega
      · rw [if_neg (by omega), decide_eq_false h, Bool.false_and]
theorem name_ev (s : ByteArray) (hs : s.size ≤ 9223372036854775807) : stileref01_Name.f (s.size + 1) s = some (nameB s) := by
  unfold stileref01_Name.f nameB
  exact name_l0 s hs s.size _ 0 (by omega) (by omega) (by omega)
theorem ref_name_calls (s : ByteArray) (hs : s.size ≤ 9223372036854775807) (w : World) :
    Calls Tryd.prog 17 #[.string s] w fun e w' => e = .returned (.bool (nameB s)) ∧ Below w.heap.size w w' :=
  (stileref01_Name.calls _ s _ w (name_ev s hs)).mono fun e w' ⟨h1, h2⟩ => ⟨h1, h2.below⟩
theorem ref_runes_calls (s : ByteArray) (hs : s.size ≤ 100000000) (b : Bool) (hb : validB s = b) (xs : List Int) (hx : xs = if b = true then runesT s 0 else []) (w : World) :
    Calls Tryd.prog 11 #[.string s] w fun e w' => ∃ A c, e = .returned (.tuple #[.slice A xs.length c, .bool b]) ∧ ReadsInt w' .i64 A xs.length xs ∧ Below w.heap.size w w' := by
  have hr : runesV s [] 0 = (xs, b) := by
    unfold runesV
    rw [show validT s 0 = b from hb, hx]
    cases b <;> rfl
  refine (stileref01_Runes.calls _ s xs b w (by rw [runes_ev s hs, hr])).mono ?_
  rintro e w' ⟨v, rfl, hR, hB⟩
  obtain ⟨A, c, rfl, hl, hC⟩ := Kd.R_reads hR
  exact ⟨A, c, rfl, Kd.reads_of_C (enc := Value.int .i64) (d := (0 : Int)) (h1 := fun _ => rfl) hC, hB⟩
end Go.Proofs.YtapdahfcfkbomaaDoor.Glr
