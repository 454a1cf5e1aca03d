/- The law GlyphOrder: its walk. -/
import Derived.Test.YtapdahfcfkbomaaDoorGaw
import Derived.Test.YtapdahfcfkbomaaDoorGlq
import Derived.Test.YtapdahfcfkbomaaDoorCmp
import Derived.Test.YtapdahfcfkbomaaDoorPro
import Derived.Test.YtapdahfcfkbomaaDoorQa
namespace Go.Proofs.YtapdahfcfkbomaaDoor.Quo
open Go.RowKit Go.Proofs.YtapdahfcfkbomaaDoorW.PrintWords Go.Proofs.YtapdahfcfkbomaaDoor.Arr Go.Proofs.YtapdahfcfkbomaaDoor.Utf Go.Proofs.YtapdahfcfkbomaaDoor.Gly Go.Proofs.YtapdahfcfkbomaaDoor.Glr Go.Proofs.YtapdahfcfkbomaaDoor.Hex Go.Proofs.YtapdahfcfkbomaaDoor.Prn
set_option linter.unusedVariables false
set_option linter.unusedSimpArgs false

theorem compare_calls (a b : ByteArray) (w : World) :
    Calls Tryd.prog 13 #[.string a, .string b] w fun e w' => e = .returned (.int .i64 (cmpB a b)) ∧ Below w.heap.size w w' := by
  have C := fun w => Tryd.strings_Compare a b w
  rw [compareBytes_eq] at C
  have K := Aside0.mk C
  clear C
  go_enter Tryd.func13, Tryd.ntmps13
  go_wp2_with fail
  refine (K.out _).mono ?_
  rintro e w1 ⟨rfl, rfl⟩
  go_wp2
  go_ret
  exact ⟨rfl, Below.refl _ _⟩
theorem ints_same (a b : Int) (w : World) :
    Calls Tryd.prog 15 #[.int .i64 a, .int .i64 b] w fun e w' => e = .returned (.int .i64 (intsV a b)) ∧ w' = w := by
  by_cases h1 : a < b
  · have hz : intsV a b = -1 := by unfold intsV; rw [if_pos h1]
    rw [hz]
    have t1 : decide (a < b) = true := decide_eq_true h1
    clear hz h1
    go_enter Tryd.func15, Tryd.ntmps15
    go_wp2
    go_ret
    exact ⟨rfl, rfl⟩
  · have t1 : decide (a < b) = false := decide_eq_false h1
    by_cases h2 : b < a
    · have hz : intsV a b = 1 := by unfold intsV; rw [if_neg h1, if_pos h2]
      rw [hz]
      have t2 : decide (a > b) = true := decide_eq_true h2
      clear hz h1 h2
      go_enter Tryd.func15, Tryd.ntmps15
      go_wp2
      go_ret
      exact ⟨rfl, rfl⟩
    · have hz : intsV a b = 0 := by unfold intsV; rw [if_neg h1, if_neg h2]
      rw [hz]
      have t2 : decide (a > b) = false := decide_eq_false h2
      clear hz h1 h2
      go_enter Tryd.func15, Tryd.ntmps15
      go_wp2
      go_ret
      exact ⟨rfl, rfl⟩
theorem ints_ev (a b : Int) : stileref01_Ints.f a b = some (intsV a b) := by
  unfold stileref01_Ints.f intsV
  by_cases h1 : a < b
  · rw [if_pos h1, if_pos h1]
  · rw [if_neg h1, if_neg h1]
    by_cases h2 : b < a
    · rw [if_pos h2, if_pos h2]
    · rw [if_neg h2, if_neg h2]
theorem compare_l0 (a b : ByteArray) (ha : a.size ≤ 100000000) (hb : b.size ≤ 100000000) : ∀ (d k i : Nat), a.size - i ≤ d → i ≤ a.size → i ≤ b.size → 2 * d + 2 ≤ k → stileref01_Compare.l0 k a b (i : Int) = some (cmpL (bl a i) (bl b i)) := by
  intro d
  have fin : ∀ (k i : Nat), i ≤ a.size → i ≤ b.size → (¬ i < a.size ∨ ¬ i < b.size) → stileref01_Compare.l0 (k + 2) a b (i : Int) = some (cmpL (bl a i) (bl b i)) := by
    intro k i h1 h2 h3
    have e : stileref01_Compare.l0 (k + 2) a b (i : Int) = stileref01_Compare.j1 (k + 1) a b (i : Int) false := by
      simp only [stileref01_Compare.l0]
      by_cases h : i < a.size
      · rw [if_pos (by omega), decide_eq_false (by omega)]
      · rw [if_neg (by omega)]
    rw [e]
    simp only [stileref01_Compare.j1]
    rw [if_neg (by decide), ints_ev, Option.bind_some]
    congr 1
    by_cases h : i < a.size
    · rw [bl_end b i (by omega), cmpL_nil_right, bl_length]
      exact intsV_lt (by omega) (by omega)
    · rw [bl_end a i h, cmpL_nil_left, bl_length]
      exact intsV_lt (by omega) (by omega)
  induction d with
  | zero =>
    intro k i h0 h1 h2 hk
    obtain ⟨k, rfl⟩ : ∃ m, k = m + 2 := ⟨k - 2, by omega⟩
    exact fin k i h1 h2 (by omega)
  | succ d ih =>
    intro k i h0 h1 h2 hk
    obtain ⟨k, rfl⟩ : ∃ m, k = m + 2 := ⟨k - 2, by omega⟩
    by_cases h3 : i < a.size ∧ i < b.size
    · obtain ⟨h3, h4⟩ := h3
      simp only [stileref01_Compare.l0]
      rw [if_pos (by omega), decide_eq_true (by omega)]
      simp only [stileref01_Compare.j1]
      rw [if_pos trivial, if_pos (by omega), if_pos (by omega), if_pos (by omega), wgb a i h3, wgb b i h4, bt_gb a i h3, bt_gb b i h4]
      by_cases e : gb a i = gb b i
      · rw [if_pos (by omega), w64 _ (by omega) (by omega), show ((i : Int) + 1) = ((i + 1 : Nat) : Int) by omega, ih k _ (by omega) (by omega) (by omega) (by omega), bl_cmp_eq a b i h3 h4 e]
      · rw [if_neg (by omega), ints_ev, Option.bind_some, bl_cmp_ne a b i h3 h4 e]
    · exact fin k i h1 h2 (by omega)
theorem ref_compare_calls (a b : ByteArray) (ha : a.size ≤ 100000000) (hb : b.size ≤ 100000000) (w : World) :
    Calls Tryd.prog 14 #[.string a, .string b] w fun e w' => e = .returned (.int .i64 (cmpB a b)) ∧ Below w.heap.size w w' :=
  (stileref01_Compare.calls (2 * a.size + 2) a b _ w (compare_l0 a b ha hb a.size _ 0 (by omega) (by omega) (by omega) (by omega))).mono fun e w' ⟨h1, h2⟩ => ⟨h1, h2.below⟩

set_option maxHeartbeats 4000000 in
set_option maxRecDepth 100000 in
theorem lawOrder_calls (a b : ByteArray) (hs : a.size ≤ 9223372036854775807) (hs' : b.size ≤ 9223372036854775807) (w : World) (hT : Tabs w) (hD : Deb w) :
    Calls Tryd.prog 4 #[.string a, .string b] w fun e w' => e = .returned (.bool true) ∧ Below w.heap.size w w' := by
  have HT := Aside0.mk hT
  have HD := Aside0.mk hD
  clear hT hD
  have HB0 := Aside0.mk (Below.refl w.heap.size w)
  have big : 1000 < a.size ∨ (a.size ≤ 1000 ∧ 1000 < b.size) ∨ (a.size ≤ 1000 ∧ b.size ≤ 1000) := by omega
  rcases big with h | ⟨h, h'⟩ | ⟨h, h'⟩
  · have t1 : decide ((a.size : Int) > 1000) = true := decide_eq_true (by omega)
    go_enter Tryd.func4, Tryd.ntmps4
    (go_wp2_with fail; refine (awake_calls _ HT.out HD.out).mono ?_; rintro e w1 ⟨rfl, hb1⟩; have HB1 := Aside0.mk (HB0.out.trans (hb1.mono HB0.out.size)); clear hb1)
    (go_wp2_with fail; refine (awake_calls _ (HT.out.below HB1.out) (HD.out.below HB1.out)).mono ?_; rintro e w2 ⟨rfl, hb2⟩; have HB2 := Aside0.mk (HB1.out.trans (hb2.mono HB1.out.size)); clear hb2)
    go_wp2
    go_ret
    exact ⟨rfl, HB2.out⟩
  · have t1 : decide ((a.size : Int) > 1000) = false := decide_eq_false (by omega)
    have t2 : decide ((b.size : Int) > 1000) = true := decide_eq_true (by omega)
    go_enter Tryd.func4, Tryd.ntmps4
    (go_wp2_with fail; refine (awake_calls _ HT.out HD.out).mono ?_; rintro e w1 ⟨rfl, hb1⟩; have HB1 := Aside0.mk (HB0.out.trans (hb1.mono HB0.out.size)); clear hb1)
    (go_wp2_with fail; refine (awake_calls _ (HT.out.below HB1.out) (HD.out.below HB1.out)).mono ?_; rintro e w2 ⟨rfl, hb2⟩; have HB2 := Aside0.mk (HB1.out.trans (hb2.mono HB1.out.size)); clear hb2)
    go_wp2
    go_ret
    exact ⟨rfl, HB2.out⟩
  have t1 : decide ((a.size : Int) > 1000) = false := decide_eq_false (by omega)
  have t2 : decide ((b.size : Int) > 1000) = false := decide_eq_false (by omega)
  have hfl : cmpB b a = -cmpB a b := cmpL_flip _ _
  have hone := cmpL_one (bl a 0) (bl b 0)
  have C1 := compare_calls a b
  have C2 := ref_compare_calls a b (by omega) (by omega)
  have C3 := compare_calls b a
  rw [hfl] at C3
  have hc1 : -1 ≤ cmpB a b := hone.1
  have hc2 : cmpB a b ≤ 1 := hone.2
  have hord := Aside0.mk (utf_order_all a b)
  clear hfl hone
  obtain ⟨c, hc⟩ : ∃ c, cmpB a b = c := ⟨_, rfl⟩
  rw [hc] at C1 C2 C3 hc1 hc2 hord
  clear hc
  have K1 := Aside0.mk C1
  have K2 := Aside0.mk C2
  have K3 := Aside0.mk C3
  clear C1 C2 C3
  rcases (Bool.eq_false_or_eq_true (validB a)).symm with hv | hv
  · have K4 := Aside0.mk (ref_runes_calls a (by omega) false hv [] rfl)
    obtain ⟨vb, hvb⟩ : ∃ vb, validB b = vb := ⟨_, rfl⟩
    obtain ⟨ys, hys⟩ : ∃ ys, ys = (if vb = true then runesT b 0 else []) := ⟨_, rfl⟩
    have K5 := Aside0.mk (ref_runes_calls b (by omega) vb hvb ys hys)
    clear hv hvb hys
    go_enter Tryd.func4, Tryd.ntmps4
    (go_wp2_with fail; refine (awake_calls _ HT.out HD.out).mono ?_; rintro e w1 ⟨rfl, hb1⟩; have HB1 := Aside0.mk (HB0.out.trans (hb1.mono HB0.out.size)); clear hb1)
    (go_wp2_with fail; refine (K1.out _).mono ?_; rintro e w2 ⟨rfl, hb2⟩; have HB2 := Aside0.mk (HB1.out.trans (hb2.mono HB1.out.size)); clear hb2)
    (go_wp2_with fail; refine (K2.out _).mono ?_; rintro e w3 ⟨rfl, hb3⟩; have HB3 := Aside0.mk (HB2.out.trans (hb3.mono HB2.out.size)); clear hb3)
    (go_wp2_with fail; refine (K3.out _).mono ?_; rintro e w4 ⟨rfl, hb4⟩; have HB4 := Aside0.mk (HB3.out.trans (hb4.mono HB3.out.size)); clear hb4)
    go_wp2_with fail
    refine (K4.out _).mono ?_
    rintro e w5 ⟨A, cp, rfl, hr, hb5⟩
    have HB5 := Aside0.mk (HB4.out.trans (hb5.mono HB4.out.size))
    clear hr hb5
    go_wp2_with fail
    refine (K5.out _).mono ?_
    rintro e w6 ⟨A, cp, rfl, hr, hb6⟩
    have HB6 := Aside0.mk (HB5.out.trans (hb6.mono HB5.out.size))
    clear hr hb6
    cases vb <;> (go_wp2; go_ret; exact ⟨rfl, HB6.out⟩)
  rcases (Bool.eq_false_or_eq_true (validB b)).symm with hvb | hvb
  · have K4 := Aside0.mk (ref_runes_calls a (by omega) true hv _ rfl)
    have K5 := Aside0.mk (ref_runes_calls b (by omega) false hvb [] rfl)
    clear hv hvb
    go_enter Tryd.func4, Tryd.ntmps4
    (go_wp2_with fail; refine (awake_calls _ HT.out HD.out).mono ?_; rintro e w1 ⟨rfl, hb1⟩; have HB1 := Aside0.mk (HB0.out.trans (hb1.mono HB0.out.size)); clear hb1)
    (go_wp2_with fail; refine (K1.out _).mono ?_; rintro e w2 ⟨rfl, hb2⟩; have HB2 := Aside0.mk (HB1.out.trans (hb2.mono HB1.out.size)); clear hb2)
    (go_wp2_with fail; refine (K2.out _).mono ?_; rintro e w3 ⟨rfl, hb3⟩; have HB3 := Aside0.mk (HB2.out.trans (hb3.mono HB2.out.size)); clear hb3)
    (go_wp2_with fail; refine (K3.out _).mono ?_; rintro e w4 ⟨rfl, hb4⟩; have HB4 := Aside0.mk (HB3.out.trans (hb4.mono HB3.out.size)); clear hb4)
    go_wp2_with fail
    refine (K4.out _).mono ?_
    rintro e w5 ⟨A, cp, rfl, hr, hb5⟩
    have HB5 := Aside0.mk (HB4.out.trans (hb5.mono HB4.out.size))
    clear hr hb5
    go_wp2_with fail
    refine (K5.out _).mono ?_
    rintro e w6 ⟨A, cp, rfl, hr, hb6⟩
    have HB6 := Aside0.mk (HB5.out.trans (hb6.mono HB5.out.size))
    clear hr hb6
    go_wp2
    go_ret
    exact ⟨rfl, HB6.out⟩
  have hcx := hord.out hv hvb
  obtain ⟨xs, hxs⟩ : ∃ xs, xs = runesT a 0 := ⟨_, rfl⟩
  obtain ⟨ys, hys⟩ : ∃ ys, ys = runesT b 0 := ⟨_, rfl⟩
  have hxl : xs.length ≤ 1000 := by have := cnt_le a; rw [hxs, runesT_length]; unfold cnt at this; omega
  have hyl : ys.length ≤ 1000 := by have := cnt_le b; rw [hys, runesT_length]; unfold cnt at this; omega
  rw [← hxs, ← hys] at hcx
  have K4 := Aside0.mk (ref_runes_calls a (by omega) true hv xs (by rw [hxs]; rfl))
  have K5 := Aside0.mk (ref_runes_calls b (by omega) true hvb ys (by rw [hys]; rfl))
  have HCX := Aside0.mk hcx
  clear hord hv hvb hcx hxs hys
  go_enter Tryd.func4, Tryd.ntmps4
  (go_wp2_with fail; refine (awake_calls _ HT.out HD.out).mono ?_; rintro e w1 ⟨rfl, hb1⟩; have HB1 := Aside0.mk (HB0.out.trans (hb1.mono HB0.out.size)); clear hb1)
  (go_wp2_with fail; refine (K1.out _).mono ?_; rintro e w2 ⟨rfl, hb2⟩; have HB2 := Aside0.mk (HB1.out.trans (hb2.mono HB1.out.size)); clear hb2)
  (go_wp2_with fail; refine (K2.out _).mono ?_; rintro e w3 ⟨rfl, hb3⟩; have HB3 := Aside0.mk (HB2.out.trans (hb3.mono HB2.out.size)); clear hb3)
  (go_wp2_with fail; refine (K3.out _).mono ?_; rintro e w4 ⟨rfl, hb4⟩; have HB4 := Aside0.mk (HB3.out.trans (hb4.mono HB3.out.size)); clear hb4)
  go_wp2_with fail
  refine (K4.out _).mono ?_
  rintro e w5 ⟨A, cp, rfl, hr, hb5⟩
  have HB5 := Aside0.mk (HB4.out.trans (hb5.mono HB4.out.size))
  have HR5 := Aside0.mk hr
  clear hr
  go_wp2_with fail
  refine (K5.out _).mono ?_
  rintro e w6 ⟨A', cp', rfl, hr, hb6⟩
  have HB6 := Aside0.mk (HB5.out.trans (hb6.mono HB5.out.size))
  have HX := Aside0.mk (HR5.out.below hb6)
  have HY := Aside0.mk hr
  clear hr hb6 HR5 hb5 K1 K2 K3 K4 K5 HB5 HB4 HB3 HB2 HB1 HB0 HT HD
  go_wp2_with fail
  go_loopw [10] (fun v10 wr => ∃ k : Nat, k ≤ xs.length ∧ k ≤ ys.length ∧ v10 = .int .i64 (k : Int) ∧ Aside0 (∀ j, j < k → xs.getD j 0 = ys.getD j 0) ∧ Below w6.heap.size w6 wr) (fun v10 _ => xs.length - (intOf v10).toNat)
  case atStart => exact ⟨0, by omega, by omega, rfl, ⟨fun j h => absurd h (Nat.not_lt_zero _)⟩, Below.refl _ _⟩
  case round =>
    obtain ⟨k, hkx, hky, rfl, hall, hb⟩ := hrel
    have hb0 := HB6.out.trans (hb.mono HB6.out.size)
    by_cases h1 : k < xs.length
    · have s1 : decide ((k : Int) < (xs.length : Int)) = true := decide_eq_true (by omega)
      by_cases h2 : k < ys.length
      · have s2 : decide ((k : Int) < (ys.length : Int)) = true := decide_eq_true (by omega)
        obtain ⟨ad, hA, hcx⟩ := (HX.out.below hb).2.2 (by omega)
        obtain ⟨ad', hA', hcy⟩ := (HY.out.below hb).2.2 (by omega)
        have c1 := hcx k h1
        have c2 := hcy k h2
        subst hA hA'
        clear hcx hcy
        have p1 : (0 : Int) ≤ (k : Int) := by omega
        have p2 : (k : Int) < (xs.length : Int) := by omega
        have p3 : (k : Int) < (ys.length : Int) := by omega
        by_cases he : xs.getD k 0 = ys.getD k 0
        · have hall' := Aside0.mk (show ∀ j, j < k + 1 → xs.getD j 0 = ys.getD j 0 from fun j hj => by
            by_cases e : j = k
            · subst e; exact he
            · exact hall.out j (by omega))
          rw [he] at c1
          generalize ys.getD k 0 = y at *
          clear hall he
          go_wp2
          go_quiet (fail)
          go_wp2
          go_roundw
          case rel => exact ⟨k + 1, by omega, by omega, by go_num, hall', pw_below_drewN hb _⟩
          case measure => simp [intOf]; omega
        · have hz := cmpL_at k xs ys hall.out h1 h2 he
          have KI := ints_same (xs.getD k 0) (ys.getD k 0)
          rw [← hz, ← HCX.out] at KI
          have KK := Aside0.mk KI
          have t3 : (xs.getD k 0 != ys.getD k 0) = true := bne_iff_ne.2 he
          clear hz KI he hall
          generalize ys.getD k 0 = y at *
          generalize xs.getD k 0 = x at *
          go_wp2
          go_quiet (fail)
          go_wp2
          go_quiet ((go_at_call 15; exact Qa.quiet_add_same (KK.out _)))
          go_wp2
          go_ret
          exact ⟨rfl, pw_below_drewN (pw_below_drewN hb0 _) _⟩
      · have s2 : decide ((k : Int) < (ys.length : Int)) = false := decide_eq_false (by omega)
        have hz := cmpL_len xs ys (fun j h3 h4 => hall.out j (by omega))
        have KI := ints_same xs.length ys.length
        rw [← hz, ← HCX.out] at KI
        have KK := Aside0.mk KI
        clear hz KI hall
        go_wp2_with (go_at_call 15; refine (KK.out _).mono ?_; rintro e w7 ⟨rfl, rfl⟩)
        go_ret
        exact ⟨rfl, hb0⟩
    · have s1 : decide ((k : Int) < (xs.length : Int)) = false := decide_eq_false (by omega)
      have hz := cmpL_len xs ys (fun j h3 h4 => hall.out j (by omega))
      have KI := ints_same xs.length ys.length
      rw [← hz, ← HCX.out] at KI
      have KK := Aside0.mk KI
      clear hz KI hall
      go_wp2_with (go_at_call 15; refine (KK.out _).mono ?_; rintro e w7 ⟨rfl, rfl⟩)
      go_ret
      exact ⟨rfl, hb0⟩
end Go.Proofs.YtapdahfcfkbomaaDoor.Quo
