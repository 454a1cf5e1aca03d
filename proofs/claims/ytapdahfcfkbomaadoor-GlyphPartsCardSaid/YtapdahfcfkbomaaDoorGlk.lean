/- The program's Clip, the reference's, and the law GlyphClips: their walks. -/
import Derived.Test.YtapdahfcfkbomaaDoorGaw
import Derived.Test.YtapdahfcfkbomaaDoorGlq
import Derived.Test.YtapdahfcfkbomaaDoorClp
import Derived.Test.YtapdahfcfkbomaaDoorPrc
namespace Go.Proofs.YtapdahfcfkbomaaDoor.Quo
open Go.RowKit Go.Proofs.YtapdahfcfkbomaaDoorW.PrintWords Go.Proofs.YtapdahfcfkbomaaDoor.Arr Go.Proofs.YtapdahfcfkbomaaDoor.Utf Go.Proofs.YtapdahfcfkbomaaDoor.Gly Go.Proofs.YtapdahfcfkbomaaDoor.Glr Go.Proofs.YtapdahfcfkbomaaDoor.Hex Go.Proofs.YtapdahfcfkbomaaDoor.Prn
set_option linter.unusedVariables false
set_option linter.unusedSimpArgs false

theorem clip_neg (s : ByteArray) (n : Int) (hn : n < 0) (w : World) :
    Calls Tryd.prog 20 #[.string s, .int .i64 n] w fun e w' => e = .returned (.tuple #[.string ⟨#[]⟩, .int .i64 1]) ∧ Below w.heap.size w w' := by
  have t1 : decide (n < 0) = true := decide_eq_true hn
  clear hn
  go_enter Tryd.func20, Tryd.ntmps20
  go_wp2
  go_ret2
  exact ⟨rfl, Below.refl _ _⟩
theorem clip_bad (s : ByteArray) (hs : s.size ≤ 9223372036854775807) (n : Int) (hn : 0 ≤ n) (hv : validB s = false) (w : World) (hT : Tabs w) :
    Calls Tryd.prog 20 #[.string s, .int .i64 n] w fun e w' => e = .returned (.tuple #[.string ⟨#[]⟩, .int .i64 4]) ∧ Below w.heap.size w w' := by
  have t1 : decide (n < 0) = false := decide_eq_false (by omega)
  have C := valid_calls s hs w hT
  rw [hv] at C
  have K := Aside0.mk C
  clear hn C hv hT
  go_enter Tryd.func20, Tryd.ntmps20
  go_wp2_with fail
  refine K.out.mono ?_
  rintro e w1 ⟨rfl, hb⟩
  go_wp2
  go_ret2
  exact ⟨rfl, hb⟩
set_option maxHeartbeats 2000000 in
set_option maxRecDepth 100000 in
theorem clip_good (s : ByteArray) (hs : s.size ≤ 9223372036854775807) (n : Nat) (hn : n ≤ 9223372036854775807) (hv : validB s = true) (q : Nat) (hq : q = clipT s n 0) (w : World) (hT : Tabs w) :
    Calls Tryd.prog 20 #[.string s, .int .i64 (n : Int)] w fun e w' => e = .returned (.tuple #[.string (s.extract 0 q), .int .i64 0]) ∧ Below w.heap.size w w' := by
  have t1 : decide ((n : Int) < 0) = false := decide_eq_false (by omega)
  have C := valid_calls s hs w hT
  rw [hv] at C
  have K := Aside0.mk C
  have HQ := Aside0.mk hq
  clear C hv hT hq
  go_enter Tryd.func20, Tryd.ntmps20
  go_wp2_with fail
  refine K.out.mono ?_
  rintro e w1 ⟨rfl, hb0⟩
  go_wp2
  go_loopw [1] (fun v1 wr => ∃ (pos m : Nat), v1 = .int .i64 (m : Int) ∧ m ≤ 9223372036854775807 ∧ wr.heap[w1.heap.size]? = some (.stringIter s pos) ∧ Aside0 (clipT s m pos = q) ∧ Aside0 (pos ≤ s.size) ∧ Below w1.heap.size w1 wr) (fun _ wr => s.size - wr.iterPos w1.heap.size)
  case atStart => exact ⟨0, n, rfl, hn, World.iter_heap w1 s 0, ⟨HQ.out.symm⟩, ⟨Nat.zero_le _⟩, (Below.refl _ _).alloc (Nat.le_refl _) _⟩
  case round =>
    obtain ⟨pos, m, rfl, hm, hit, hc, hle, hb⟩ := hrel
    have hpos := iterPos_of hit
    by_cases hp : pos < s.size
    · have hnx : ∀ ty, (Instr.next (.pointer (some ⟨w1.heap.size, 0, none⟩)) true ty).run Tryd.prog wr = _ := fun ty => Lib.run_next_any_at wr w1.heap.size s pos ty hit hp
      have hw := dec_w s pos hp
      have hit2 := Lib.iterAt_heap wr w1.heap.size s pos (pos + (Utf8.decode s pos).2) hit
      have hb2 := Lib.below_iterAt hb (Nat.le_refl _) s (pos + (Utf8.decode s pos).2)
      have HP := Aside0.mk hpos
      have HI := Aside0.mk hit2
      clear hpos hit hit2
      by_cases h0 : m = 0
      · subst h0
        have HZ := Aside0.mk (show pos = q from hc.out)
        clear hc
        have p1 : (0 : Int) ≤ (pos : Int) := by omega
        have p2 : (pos : Int) ≤ (s.size : Int) := by omega
        go_wp2
        go_ret2
        exact ⟨by rw [← HZ.out]; rfl, hb0.trans (hb2.mono hb0.size)⟩
      · have t2 : ((m : Int) == 0) = false := beq_eq_false_iff_ne.2 (by omega)
        have hst := clipT_step s m pos hp (by omega)
        have HZ := Aside0.mk (hst.trans hc.out)
        clear hst hc
        go_wp2
        go_roundw
        case rel => exact ⟨_, m - 1, by rw [show ((m - 1 : Nat) : Int) = (m : Int) - 1 by omega], by omega, HI.out, HZ, ⟨hw.2⟩, hb2⟩
        case measure =>
          rw [iterPos_of HI.out, HP.out]
          omega
    · have hnx : ∀ ty, (Instr.next (.pointer (some ⟨w1.heap.size, 0, none⟩)) true ty).run Tryd.prog wr = _ := fun ty => Lib.run_next_end_at wr w1.heap.size s pos ty hit hp
      have hz : q = s.size := by
        have h1 := hc.out
        rw [clipT_end s m pos hp] at h1
        have := hle.out
        omega
      have HZ := Aside0.mk hz
      clear hz hc hit hpos
      go_wp2
      go_ret2
      exact ⟨by rw [HZ.out, extract_all]; rfl, hb0.trans (hb.mono hb0.size)⟩

/-! ### the reference's -/
theorem clip_l0 (s : ByteArray) (hs : s.size ≤ 100000000) : ∀ (n k p : Nat), validT s p = true → p ≤ s.size → n ≤ cntT s p → n + 13 ≤ k → n ≤ 9223372036854775807 → stileref01_Clip.l0 k s (n : Int) (p : Int) = some (s.extract 0 (clipT s n p), 0) := by
  intro n
  induction n with
  | zero =>
    intro k p hv hp hc hk hn
    obtain ⟨k, rfl⟩ : ∃ m, k = m + 1 := ⟨k - 1, by omega⟩
    simp only [stileref01_Clip.l0]
    rw [if_neg (by omega), if_pos (by omega), if_pos (by omega)]
    rfl
  | succ n ih =>
    intro k p hv hp hc hk hn
    obtain ⟨k, rfl⟩ : ∃ m, k = m + 1 := ⟨k - 1, by omega⟩
    have h : p < s.size := by
      rcases Nat.lt_or_ge p s.size with h | h
      · exact h
      · rw [cntT_end s p (by omega)] at hc; omega
    have hw := dec_w s p h
    rw [cntT_step s p h] at hc
    rw [validT_step s p h] at hv
    simp only [Bool.and_eq_true, Bool.not_eq_true'] at hv
    simp only [stileref01_Clip.l0]
    rw [if_pos (by omega), rune_at s p h (by omega) k (by omega)]
    simp only [Option.bind_some]
    rw [runeV_eq, hv.1, if_neg (by decide), w64 _ (by omega) (by omega), w64 _ (by omega) (by omega), show (((n + 1 : Nat) : Int) - 1) = (n : Int) by omega, show ((p : Int) + ((Utf8.decode s p).2 : Int)) = ((p + (Utf8.decode s p).2 : Nat) : Int) by omega,
      ih k _ hv.2 (by omega) (by omega) (by omega) (by omega)]
    simp only [clipT]
    rw [if_pos h]
theorem runes_at (s : ByteArray) (hs : s.size ≤ 100000000) (k : Nat) (hk : s.size + 13 ≤ k) : stileref01_Runes.f k s = some (runesV s [] 0) :=
  at_rounds (stileref01_Runes.mono s) hk (runes_ev s hs)
theorem ref_clip_neg (s : ByteArray) (hs : s.size ≤ 100000000) (n : Int) (hn : n < 0) (w : World) :
    Calls Tryd.prog 21 #[.string s, .int .i64 n] w fun e w' => e = .returned (.tuple #[.string ⟨#[]⟩, .int .i64 1]) ∧ Below w.heap.size w w' := by
  refine stileref01_Clip.calls (s.size + 13) s n _ _ w ?_
  unfold stileref01_Clip.f
  rw [runes_at s hs _ (Nat.le_refl _), Option.bind_some, if_pos hn]
theorem ref_clip_bad (s : ByteArray) (hs : s.size ≤ 100000000) (n : Int) (hn : 0 ≤ n) (hv : validB s = false) (w : World) :
    Calls Tryd.prog 21 #[.string s, .int .i64 n] w fun e w' => e = .returned (.tuple #[.string ⟨#[]⟩, .int .i64 4]) ∧ Below w.heap.size w w' := by
  refine stileref01_Clip.calls (s.size + 13) s n _ _ w ?_
  unfold stileref01_Clip.f
  rw [runes_at s hs _ (Nat.le_refl _), Option.bind_some, if_neg (by omega)]
  unfold runesV
  rw [show validT s 0 = false from hv]
  rfl
theorem ref_clip_good (s : ByteArray) (hs : s.size ≤ 100000000) (n : Nat) (hn : n ≤ 9223372036854775807) (hv : validB s = true) (q : Nat) (hq : q = clipT s n 0) (w : World) :
    Calls Tryd.prog 21 #[.string s, .int .i64 (n : Int)] w fun e w' => e = .returned (.tuple #[.string (s.extract 0 q), .int .i64 0]) ∧ Below w.heap.size w w' := by
  refine stileref01_Clip.calls (s.size + 13) s n _ _ w ?_
  have hcl := cnt_le s
  unfold stileref01_Clip.f
  rw [runes_at s hs _ (Nat.le_refl _), Option.bind_some, if_neg (by omega)]
  unfold runesV
  rw [show validT s 0 = true from hv, if_pos rfl, if_pos rfl, List.nil_append, runesT_length]
  show (if (n : Int) ≥ (cnt s : Nat) then _ else _) = _
  by_cases h : cnt s ≤ n
  · rw [if_pos (by omega), hq, clipT_all s n 0 (by omega) h, extract_all]
  · rw [if_neg (by omega), hq]
    exact clip_l0 s hs n _ 0 hv (by omega) (by unfold cnt at h; omega) (by omega) hn

set_option maxHeartbeats 4000000 in
set_option maxRecDepth 100000 in
theorem lawClips_calls (s : ByteArray) (hs : s.size ≤ 9223372036854775807) (n : Int) (hn : n ≤ 9223372036854775807) (w : World) (hT : Tabs w) (hD : Deb w) :
    Calls Tryd.prog 6 #[.string s, .int .i64 n] w fun e w' => e = .returned (.bool true) ∧ Below w.heap.size w w' := by
  have HT := Aside0.mk hT
  have HD := Aside0.mk hD
  clear hT hD
  have HB0 := Aside0.mk (Below.refl w.heap.size w)
  by_cases hbig : 3000 < s.size
  · have t1 : decide ((s.size : Int) > 3000) = true := decide_eq_true (by omega)
    go_enter Tryd.func6, Tryd.ntmps6
    (go_wp2_with fail; refine (awake_calls _ HT.out HD.out).mono ?_; rintro e w1 ⟨rfl, hb1⟩; have HB1 := Aside0.mk (HB0.out.trans (hb1.mono HB0.out.size)); clear hb1)
    (go_wp2_with fail; refine (awake_calls _ (HT.out.below HB1.out) (HD.out.below HB1.out)).mono ?_; rintro e w2 ⟨rfl, hb2⟩; have HB2 := Aside0.mk (HB1.out.trans (hb2.mono HB1.out.size)); clear hb2)
    go_wp2
    go_ret
    exact ⟨rfl, HB2.out⟩
  have t1 : decide ((s.size : Int) > 3000) = false := decide_eq_false (by omega)
  by_cases hneg : n < 0
  · have K1 := Aside0.mk (clip_neg s n hneg)
    have K2 := Aside0.mk (ref_clip_neg s (by omega) n hneg)
    clear hneg
    go_enter Tryd.func6, Tryd.ntmps6
    (go_wp2_with fail; refine (awake_calls _ HT.out HD.out).mono ?_; rintro e w1 ⟨rfl, hb1⟩; have HB1 := Aside0.mk (HB0.out.trans (hb1.mono HB0.out.size)); clear hb1)
    (go_wp2_with fail; refine (K1.out _).mono ?_; rintro e w2 ⟨rfl, hb2⟩; have HB2 := Aside0.mk (HB1.out.trans (hb2.mono HB1.out.size)); clear hb2)
    (go_wp2_with fail; refine (K2.out _).mono ?_; rintro e w3 ⟨rfl, hb3⟩; have HB3 := Aside0.mk (HB2.out.trans (hb3.mono HB2.out.size)); clear hb3)
    go_wp2
    go_ret
    exact ⟨rfl, HB3.out⟩
  rcases (Bool.eq_false_or_eq_true (validB s)).symm with hv | hv
  · have K1 := Aside0.mk (clip_bad s (by omega) n (by omega) hv)
    have K2 := Aside0.mk (ref_clip_bad s (by omega) n (by omega) hv)
    clear hneg hv
    go_enter Tryd.func6, Tryd.ntmps6
    (go_wp2_with fail; refine (awake_calls _ HT.out HD.out).mono ?_; rintro e w1 ⟨rfl, hb1⟩; have HB1 := Aside0.mk (HB0.out.trans (hb1.mono HB0.out.size)); clear hb1)
    (go_wp2_with fail; refine (K1.out _ (HT.out.below HB1.out)).mono ?_; rintro e w2 ⟨rfl, hb2⟩; have HB2 := Aside0.mk (HB1.out.trans (hb2.mono HB1.out.size)); clear hb2)
    (go_wp2_with fail; refine (K2.out _).mono ?_; rintro e w3 ⟨rfl, hb3⟩; have HB3 := Aside0.mk (HB2.out.trans (hb3.mono HB2.out.size)); clear hb3)
    go_wp2
    go_ret
    exact ⟨rfl, HB3.out⟩
  obtain ⟨m, rfl⟩ : ∃ m : Nat, n = (m : Int) := ⟨n.toNat, by omega⟩
  obtain ⟨q, hq⟩ : ∃ q, q = clipT s m 0 := ⟨_, rfl⟩
  have hle := clipT_le s m 0 (by omega)
  rw [← hq] at hle
  have hcf := clip_facts s m 0 q hv (by omega) hq
  have hcl := cnt_le s
  have K1 := Aside0.mk (clip_good s (by omega) m (by omega) hv q hq)
  have K2 := Aside0.mk (ref_clip_good s (by omega) m (by omega) hv q hq)
  have K3 := Aside0.mk (count_good s (by omega) hv)
  have hsz := size_pre s q hle.2
  obtain ⟨t, ht⟩ : ∃ t, s.extract 0 q = t := ⟨_, rfl⟩
  have C4 := count_good t (by rw [← ht, hsz]; omega) (by rw [← ht]; exact hcf.1)
  have hct : cnt t = min m (cnt s) := by rw [← ht]; exact hcf.2.1
  rw [hct] at C4
  have K4 := Aside0.mk C4
  have hte : s.extract 0 t.size = t := by rw [← ht, hsz]
  have htl : t.size ≤ s.size := by rw [← ht, hsz]; exact hle.2
  rw [ht] at K1 K2
  have hmin : ((min m (cnt s) : Nat) : Int) = min (m : Int) (cnt s : Int) := by omega
  have p1 : (0 : Int) ≤ (t.size : Int) := by omega
  have p2 : (t.size : Int) ≤ (s.size : Int) := by omega
  have HTE := Aside0.mk hte
  have HMIN := Aside0.mk hmin
  generalize cnt s = c at *
  clear hneg hv hle hcf hsz ht C4 hct hte hq htl hmin hcl
  go_enter Tryd.func6, Tryd.ntmps6
  (go_wp2_with fail; refine (awake_calls _ HT.out HD.out).mono ?_; rintro e w1 ⟨rfl, hb1⟩; have HB1 := Aside0.mk (HB0.out.trans (hb1.mono HB0.out.size)); clear hb1)
  (go_wp2_with fail; refine (K1.out _ (HT.out.below HB1.out)).mono ?_; rintro e w2 ⟨rfl, hb2⟩; have HB2 := Aside0.mk (HB1.out.trans (hb2.mono HB1.out.size)); clear hb2)
  (go_wp2_with fail; refine (K2.out _).mono ?_; rintro e w3 ⟨rfl, hb3⟩; have HB3 := Aside0.mk (HB2.out.trans (hb3.mono HB2.out.size)); clear hb3)
  (go_wp2_with fail; refine (K3.out _ (HT.out.below HB3.out)).mono ?_; rintro e w4 ⟨rfl, hb4⟩; have HB4 := Aside0.mk (HB3.out.trans (hb4.mono HB3.out.size)); clear hb4)
  (go_wp2_with fail; refine (K4.out _ (HT.out.below HB4.out)).mono ?_; rintro e w5 ⟨rfl, hb5⟩; have HB5 := Aside0.mk (HB4.out.trans (hb5.mono HB4.out.size)); clear hb5)
  have hmin := HMIN.out
  have hte := HTE.out
  clear HMIN HTE
  go_wp2
  go_ret
  exact ⟨rfl, HB5.out⟩
end Go.Proofs.YtapdahfcfkbomaaDoor.Quo
