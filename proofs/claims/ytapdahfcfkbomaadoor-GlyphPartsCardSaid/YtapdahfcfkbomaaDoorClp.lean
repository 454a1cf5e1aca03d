/- A text that is cut between two runes: plain facts. -/
import Derived.Test.YtapdahfcfkbomaaDoorQuo
import Derived.Test.YtapdahfcfkbomaaDoorCmp
import Derived.Test.YtapdahfcfkbomaaDoorGlr
namespace Go.Proofs.YtapdahfcfkbomaaDoor.Quo
open Go.RowKit Go.Proofs.YtapdahfcfkbomaaDoorW.PrintWords Go.Proofs.YtapdahfcfkbomaaDoor.Arr Go.Proofs.YtapdahfcfkbomaaDoor.Utf Go.Proofs.YtapdahfcfkbomaaDoor.Gly Go.Proofs.YtapdahfcfkbomaaDoor.Hex
set_option linter.unusedVariables false
set_option linter.unusedSimpArgs false

/-- The place behind so many runes. -/
def clipT (s : ByteArray) : Nat → Nat → Nat
  | 0, p => p
  | n + 1, p => if p < s.size then clipT s n (p + (Utf8.decode s p).2) else p
theorem clipT_end (s : ByteArray) (n p : Nat) (h : ¬ p < s.size) : clipT s n p = p := by
  cases n with
  | zero => rfl
  | succ n => simp only [clipT]; rw [if_neg h]
theorem clipT_step (s : ByteArray) (n p : Nat) (h : p < s.size) (hn : 0 < n) : clipT s (n - 1) (p + (Utf8.decode s p).2) = clipT s n p := by
  obtain ⟨m, rfl⟩ : ∃ m, n = m + 1 := ⟨n - 1, by omega⟩
  conv => rhs; simp only [clipT]
  rw [if_pos h]
  rfl
theorem clipT_le (s : ByteArray) : ∀ n p, p ≤ s.size → p ≤ clipT s n p ∧ clipT s n p ≤ s.size := by
  intro n
  induction n with
  | zero => intro p hp; exact ⟨Nat.le_refl _, hp⟩
  | succ n ih =>
    intro p hp
    simp only [clipT]
    by_cases h : p < s.size
    · rw [if_pos h]
      have hw := dec_w s p h
      have := ih (p + (Utf8.decode s p).2) (by omega)
      omega
    · rw [if_neg h]; omega
theorem clipT_all (s : ByteArray) : ∀ n p, p ≤ s.size → cntT s p ≤ n → clipT s n p = s.size := by
  intro n
  induction n with
  | zero =>
    intro p hp hc
    by_cases h : p < s.size
    · rw [cntT_step s p h] at hc; omega
    · show p = s.size; omega
  | succ n ih =>
    intro p hp hc
    simp only [clipT]
    by_cases h : p < s.size
    · rw [if_pos h]
      have hw := dec_w s p h
      rw [cntT_step s p h] at hc
      exact ih _ (by omega) (by omega)
    · rw [if_neg h]; omega
theorem gb_prefix (s : ByteArray) (q j : Nat) (h : j < q) (hq : q ≤ s.size) : gb (s.extract 0 q) j = gb s j := by
  have := gb_extract s 0 q j (by omega) hq
  rwa [Nat.zero_add] at this
theorem dN_same (n m b0 b1 b2 b3 c1 c2 c3 : Nat) (h0 : b0 < 256) (hg : ¬ Lib.decodeN n b0 b1 b2 b3 = (65533, 1)) (hm : (Lib.decodeN n b0 b1 b2 b3).2 ≤ m)
    (h1 : 1 < (Lib.decodeN n b0 b1 b2 b3).2 → c1 = b1) (h2 : 2 < (Lib.decodeN n b0 b1 b2 b3).2 → c2 = b2) (h3 : 3 < (Lib.decodeN n b0 b1 b2 b3).2 → c3 = b3) :
    Lib.decodeN m b0 c1 c2 c3 = Lib.decodeN n b0 b1 b2 b3 := by
  rcases good_cases n b0 b1 b2 b3 h0 hg with ⟨a1, ea⟩ | ⟨a1, a2, a3, a4, a5, ea⟩ | ⟨a1, a2, a3, a4, a5, a6, ea⟩ | ⟨a1, a2, a3, a4, a5, a6, a7, ea⟩
  · rw [ea]
    unfold Lib.decodeN
    rw [if_pos a1]
  · rw [ea] at hm h1 hg ⊢
    simp only at hm h1
    have := h1 (by omega)
    subst this
    unfold Lib.decodeN
    rw [if_neg (by omega), if_pos (by omega), if_pos (by omega)]
  · have hg' := hg
    have ea' := ea
    rw [ea] at hm h1 h2
    simp only at hm h1 h2
    have e1 := h1 (by omega)
    have e2 := h2 (by omega)
    subst e1 e2
    rw [Glr.dN_three _ _ _ _ _ a1 a2, Glr.dN_three _ _ _ _ _ a1 a2]
    rw [Glr.dN_three _ _ _ _ _ a1 a2] at hg
    split at hg
    · rename_i C
      rw [if_pos C, if_pos (by omega)]
    · exact absurd rfl hg
  · rw [ea] at hm h1 h2 h3
    simp only at hm h1 h2 h3
    have e1 := h1 (by omega)
    have e2 := h2 (by omega)
    have e3 := h3 (by omega)
    subst e1 e2 e3
    rw [Glr.dN_four _ _ _ _ _ a1 a2, Glr.dN_four _ _ _ _ _ a1 a2]
    rw [Glr.dN_four _ _ _ _ _ a1 a2] at hg
    split at hg
    · rename_i C
      rw [if_pos C, if_pos (by omega)]
    · exact absurd rfl hg
theorem dec_prefix (s : ByteArray) (q p : Nat) (hb : brokenB s p = false) (hw1 : 1 ≤ (Utf8.decode s p).2) (hw : p + (Utf8.decode s p).2 ≤ q) (hq : q ≤ s.size) : Utf8.decode (s.extract 0 q) p = Utf8.decode s p := by
  have hz : (s.extract 0 q).size = q := by rw [ByteArray.size_extract]; omega
  have ht : ∀ j, p + j < q → gb (s.extract 0 q) (p + j) = gb s (p + j) := fun j hj => gb_prefix s q _ hj hq
  have nb := not_broken hb
  rw [dec_at s p] at hw hw1
  rw [dec_at (s.extract 0 q) p, dec_at s p, hz, gb_prefix s q p (by omega) hq]
  exact dN_same _ _ _ _ _ _ _ _ _ (gb_lt s p) nb (by omega) (fun h => ht 1 (by omega)) (fun h => ht 2 (by omega)) (fun h => ht 3 (by omega))
theorem broken_of (s t : ByteArray) (p q : Nat) (h : Utf8.decode t q = Utf8.decode s p) : brokenB t q = brokenB s p := by
  unfold brokenB
  rw [h]
theorem piece_of (s t : ByteArray) (p q : Nat) (h : Utf8.decode t q = Utf8.decode s p) (hg : gb t q = gb s p) : piece t q = piece s p := by
  unfold piece
  rw [broken_of s t p q h, h, hg]

/-- What is known of the first runes. -/
theorem clip_facts (s : ByteArray) : ∀ n p q, validT s p = true → p ≤ s.size → q = clipT s n p →
    validT (s.extract 0 q) p = true ∧ cntT (s.extract 0 q) p = min n (cntT s p) ∧ quoteT (s.extract 0 q) p ++ quoteT s q = quoteT s p ∧ cntT (s.extract 0 q) p + cntT s q = cntT s p ∧ validT s q = true := by
  intro n
  induction n with
  | zero =>
    intro p q hv hp hq
    have hq : q = p := hq
    subst hq
    have hz : ¬ q < (s.extract 0 q).size := by rw [ByteArray.size_extract]; omega
    rw [validT_end _ _ hz, cntT_end _ _ hz, quoteT_end _ _ hz]
    exact ⟨rfl, by omega, rfl, by omega, hv⟩
  | succ n ih =>
    intro p q hv hp hq
    by_cases h : p < s.size
    · have hw := dec_w s p h
      have hv' := hv
      rw [validT_step s p h] at hv'
      simp only [Bool.and_eq_true, Bool.not_eq_true'] at hv'
      have hq2 : q = clipT s n (p + (Utf8.decode s p).2) := by rw [hq]; simp only [clipT]; rw [if_pos h]
      have hle := clipT_le s n (p + (Utf8.decode s p).2) (by omega)
      rw [← hq2] at hle
      obtain ⟨i1, i2, i3, i4, i5⟩ := ih _ q hv'.2 (by omega) hq2
      have hd := dec_prefix s q p hv'.1 hw.1 hle.1 hle.2
      have hps : p < (s.extract 0 q).size := by rw [ByteArray.size_extract]; omega
      rw [validT_step _ p hps, cntT_step _ p hps, quoteT_step _ p hps, broken_of s _ p p hd, hd, piece_of s _ p p hd (gb_prefix s q p (by omega) hle.2), cntT_step s p h, quoteT_step s p h, hv'.1]
      refine ⟨i1, by omega, by rw [List.append_assoc, i3], by omega, i5⟩
    · have hq2 : q = p := by rw [hq, clipT_end s _ p h]
      subst hq2
      have hz : ¬ q < (s.extract 0 q).size := by rw [ByteArray.size_extract]; omega
      rw [validT_end _ _ hz, cntT_end _ _ hz, quoteT_end _ _ hz, cntT_end s q h]
      exact ⟨rfl, by omega, rfl, rfl, hv⟩

/-! ### behind a place -/
theorem dec_behind (s : ByteArray) (q j : Nat) (hq : q ≤ s.size) : Utf8.decode (s.extract q s.size) j = Utf8.decode s (q + j) := by
  have hz : (s.extract q s.size).size = s.size - q := by rw [ByteArray.size_extract]; omega
  have hg : ∀ i, gb (s.extract q s.size) i = gb s (q + i) := by
    intro i
    by_cases hi : q + i < s.size
    · exact gb_extract s q s.size i hi (Nat.le_refl _)
    · rw [gb_out _ _ (by omega), gb_out _ _ (by omega)]
  rw [dec_at, dec_at, hz, hg, hg, hg, hg, show s.size - q - j = s.size - (q + j) by omega]
  rfl
theorem gb_behind (s : ByteArray) (q j : Nat) (hq : q ≤ s.size) : gb (s.extract q s.size) j = gb s (q + j) := by
  have hz : (s.extract q s.size).size = s.size - q := by rw [ByteArray.size_extract]; omega
  by_cases hi : q + j < s.size
  · exact gb_extract s q s.size j hi (Nat.le_refl _)
  · rw [gb_out _ _ (by omega), gb_out _ _ (by omega)]
theorem behind (s : ByteArray) (q : Nat) (hq : q ≤ s.size) : ∀ j, validT (s.extract q s.size) j = validT s (q + j) ∧ cntT (s.extract q s.size) j = cntT s (q + j) ∧ quoteT (s.extract q s.size) j = quoteT s (q + j) := by
  have hz : (s.extract q s.size).size = s.size - q := by rw [ByteArray.size_extract]; omega
  refine tail_ind (s.extract q s.size) _ ?_ ?_
  · intro j h
    have h' : ¬ q + j < s.size := by omega
    rw [validT_end _ _ h, cntT_end _ _ h, quoteT_end _ _ h, validT_end _ _ h', cntT_end _ _ h', quoteT_end _ _ h']
    exact ⟨rfl, rfl, rfl⟩
  · intro j h ih
    have h' : q + j < s.size := by omega
    have hd := dec_behind s q j hq
    rw [hd, show q + (j + (Utf8.decode s (q + j)).2) = q + j + (Utf8.decode s (q + j)).2 by omega] at ih
    rw [validT_step _ _ h, cntT_step _ _ h, quoteT_step _ _ h, validT_step s _ h', cntT_step s _ h', quoteT_step s _ h', broken_of s _ (q + j) j hd, hd, piece_of s _ (q + j) j hd (gb_behind s q j hq), ih.1, ih.2.1, ih.2.2]
    exact ⟨rfl, rfl, rfl⟩
theorem extract_all (s : ByteArray) : s.extract 0 s.size = s := by
  apply ext_gb
  · rw [ByteArray.size_extract]; omega
  · intro i hi
    rw [ByteArray.size_extract] at hi
    exact gb_prefix s s.size i (by omega) (Nat.le_refl _)
theorem size_pre (s : ByteArray) (q : Nat) (h : q ≤ s.size) : (s.extract 0 q).size = q := by rw [ByteArray.size_extract]; omega
end Go.Proofs.YtapdahfcfkbomaaDoor.Quo
