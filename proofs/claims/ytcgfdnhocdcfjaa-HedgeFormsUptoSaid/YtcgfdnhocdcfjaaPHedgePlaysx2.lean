-- PRINTED BY print.sh 35421559b90ae4d0a3588c463048766b98c2df88dd9212a6774a882060cdf62d: not written by this session
import Derived.Test.YtcgfdnhocdcfjaaPHedgePlaysx0
namespace Go.Proofs.Ytcgfdnhocdcfjaa.PHedgePlays
open Go.RowKit Go.Proofs.YtcgfdnhocdcfjaaW.PrintWords Go.Proofs.YtcgfdnhocdcfjaaW.PrintLast Go.Proofs.YtcgfdnhocdcfjaaW.PrintMore
attribute [local go_sem] max2_int min2_int max_two min_two max_three min_three max_four min_four   -- for this text's walks alone
set_option linter.unusedVariables false
set_option linter.unusedSimpArgs false

-- NOT PRINTED: function 7 (hedge_New)

-- NOT PRINTED: function 34 (hedge_node_count)

-- NOT PRINTED: function 27 (hedge_node_fix)

-- NOT PRINTED: function 44 (bytealg_abigen_runtime_cmpstring)

-- NOT PRINTED: function 43 (bytealg_CompareString)

-- NOT PRINTED: function 41 (strings_Compare)

-- NOT PRINTED: function 33 (glyph_Compare)

-- NOT PRINTED: function 36 (hedge_split)

-- NOT PRINTED: function 25 (hedge_Hedge_cut)

-- NOT PRINTED: function 26 (hedge_weigh)

-- NOT PRINTED: function 37 (hedge_heavier)

-- NOT PRINTED: function 28 (hedge_join)

-- NOT PRINTED: function 9 (hedge_Hedge_Put)

-- NOT PRINTED: function 38 (hedge_walk)

-- NOT PRINTED: function 29 (hedge_Hedge_gather)

-- NOT PRINTED: function 10 (hedge_Hedge_Under)

-- NOT PRINTED: function 12 (hedge_Hedge_Rank)

-- NOT PRINTED: function 8 (stilelaw15_awake)

-- NOT PRINTED: function 11 (hedge_Hedge_From)

-- NOT PRINTED: function 13 (hedge_Hedge_Len)

-- NOT PRINTED: function 14 (hedge_Hedge_Get)

/-! ### stileref15_Get: function 15 -/
def stileref15_Get.l0 : Nat → List (S71) → ByteArray → Int → Int → Option (Int × Bool)
  | 0, _, _, _, _ => none
  | k + 1, x0, x1, x8, x9 => if x9 < x8 then (if 0 ≤ x9 then (if x9 < (x0.length : Int) then (if ((rd_T71 x0 x9).f0).toList = x1.toList then (some ((rd_T71 x0 x9).f1, true)) else (stileref15_Get.l0 k x0 x1 x8 (wrap64 (x9 + 1)))) else (none)) else (none)) else (some (0, false))
def stileref15_Get.f (k : Nat) (l0 : List (S71)) (a1 : ByteArray) : Option (Int × Bool) := stileref15_Get.l0 k l0 a1 (l0.length : Int) 0
theorem stileref15_Get.mono_l : ∀ k, (∀ y0 y1 y2 y3, LeO (stileref15_Get.l0 k y0 y1 y2 y3) (stileref15_Get.l0 (k + 1) y0 y1 y2 y3))
  | 0 => fun _ _ _ _ r h => by simp [stileref15_Get.l0] at h
  | k + 1 => by
    have ih0 := stileref15_Get.mono_l k
    · intro y0 y1 y2 y3
      unfold stileref15_Get.l0
      repeat' first
      | (with_reducible exact ih0 _ _ _ _)
      | (with_reducible exact LeO.refl _)
      | (with_reducible exact LeO.none _)
      | (with_reducible refine LeO.ite ?_ ?_)
      | (with_reducible refine LeO.bind ?_ (fun _ => ?_))
      | exact ih0 _ _ _ _
      | exact LeO.none _
      | refine LeO.ite ?_ ?_
      | refine LeO.bind ?_ (fun _ => ?_)
theorem stileref15_Get.mono : ∀ a0 a1 k, LeO (stileref15_Get.f k a0 a1) (stileref15_Get.f (k + 1) a0 a1) := by
  intro a0 a1 k
  have ih0 := stileref15_Get.mono_l k
  unfold stileref15_Get.f
  repeat' first
      | (with_reducible exact ih0 _ _ _ _)
      | (with_reducible exact LeO.refl _)
      | (with_reducible exact LeO.none _)
      | (with_reducible refine LeO.ite ?_ ?_)
      | (with_reducible refine LeO.bind ?_ (fun _ => ?_))
      | exact ih0 _ _ _ _
      | exact LeO.none _
      | refine LeO.ite ?_ ?_
      | refine LeO.bind ?_ (fun _ => ?_)
set_option maxHeartbeats 8000000 in
set_option maxRecDepth 100000 in
theorem stileref15_Get.calls (k : Nat) (A0 : Option Addr) (c0 : Nat) (l0 : List (S71)) (a1 : ByteArray) (r1 : Int) (r2 : Bool) (w : World) (hr0 : Kd.C k71 w A0 l0.length l0) (hc0 : l0.length ≤ c0) (h : stileref15_Get.f k l0 a1 = some (r1, r2)) :
    Calls Try.prog 15 #[.slice A0 l0.length c0, .string a1] w fun e w' => e = .returned (.tuple #[.int .i64 r1, .bool r2]) ∧ Drawn0 w w' := by
  have HR0 := Aside0.mk hr0
  have HC0 := Aside0.mk hc0
  clear hr0 hc0
  have H : (stileref15_Get.l0 k l0 a1 (l0.length : Int) 0) = some (r1, r2) := h
  clear h
  have H' := Aside0.mk H
  clear H
  go_enter Try.func15, Try.ntmps15
  go_wp2
  go_loopg [9] k (fun kq v9 w' => ∃ (x9_1 : Int), v9 = .int .i64 x9_1 ∧ Aside0 (stileref15_Get.l0 kq l0 a1 (l0.length : Int) x9_1 = some (r1, r2)) ∧ Aside0 (kq ≤ k) ∧ Drawn0 w w')
  case atStart => exact ⟨(0), (by first | rfl | (simp; done) | (simp [*]; done)), H', ⟨Nat.le_refl _⟩, by repeat (first | exact Drawn0.refl _ | apply Drawn0.step)⟩
  case round =>
    clear H'
    try clear c1
    try clear p2
    obtain ⟨x9_1, rfl, HA, HK1, ⟨m1, rfl⟩⟩ := hrel
    cases gk with
    | zero => exact absurd HA.out (by simp [stileref15_Get.l0])
    | succ k1 =>
      have H := HA.out
      clear HA
      simp only [stileref15_Get.l0] at H
      by_cases c3 : x9_1 < (l0.length : Int)
      · rw [if_pos c3] at H
        have c3b0 : decide (x9_1 < (l0.length : Int)) = true := decide_eq_true c3
        clear c3
        by_cases c4 : 0 ≤ x9_1
        · rw [if_pos c4] at H
          have c4b0 : decide (0 ≤ x9_1) = true := decide_eq_true c4
          clear c4
          by_cases c5 : x9_1 < (l0.length : Int)
          · rw [if_pos c5] at H
            have c5b0 : decide (x9_1 < (l0.length : Int)) = true := decide_eq_true c5
            clear c5
            by_cases c6 : ((rd_T71 l0 x9_1).f0).toList = a1.toList
            · rw [if_pos c6] at H
              have c6b0 : (((rd_T71 l0 x9_1).f0).toList == a1.toList) = true := beq_iff_eq.mpr c6
              have c6b1 : (((rd_T71 l0 x9_1).f0).toList != a1.toList) = false := bne_eq_false_iff_eq.mpr c6
              clear c6
              simp only [Option.some.injEq, Prod.mk.injEq] at H
              obtain ⟨rfl, rfl⟩ := H
              have p101 : 0 ≤ (x9_1 : Int) := of_decide_eq_true (by first | (with_reducible assumption) | assumption)
              have q101 : x9_1 < (l0.length : Int) := of_decide_eq_true (by first | (with_reducible assumption) | assumption)
              obtain ⟨ad101, e101, hx101_0, hx101_1⟩ := at_T71 HR0.out x9_1 p101 q101
              cases e101
              replace p101 := eq_true p101
              replace q101 := eq_true q101
              have p102 : 0 ≤ (x9_1 : Int) := of_decide_eq_true (by first | (with_reducible assumption) | assumption)
              have q102 : x9_1 < (l0.length : Int) := of_decide_eq_true (by first | (with_reducible assumption) | assumption)
              obtain ⟨ad102, e102, hx102_0, hx102_1⟩ := at_T71 HR0.out x9_1 p102 q102
              obtain rfl : ad101 = ad102 := (by injection e102)
              replace p102 := eq_true p102
              replace q102 := eq_true q102
              go_wp2
              go_ret2
              exact ⟨by first | rfl | (simp; done) | (simp [*]; done), by repeat (first | exact Drawn0.refl _ | apply Drawn0.step)⟩
            · rw [if_neg c6] at H
              have c6b0 : (((rd_T71 l0 x9_1).f0).toList == a1.toList) = false := beq_eq_false_iff_ne.mpr c6
              have c6b1 : (((rd_T71 l0 x9_1).f0).toList != a1.toList) = true := bne_iff_ne.mpr c6
              have H' := Aside0.mk H
              clear H
              have p101 : 0 ≤ (x9_1 : Int) := of_decide_eq_true (by first | (with_reducible assumption) | assumption)
              have q101 : x9_1 < (l0.length : Int) := of_decide_eq_true (by first | (with_reducible assumption) | assumption)
              obtain ⟨ad101, e101, hx101_0, hx101_1⟩ := at_T71 HR0.out x9_1 p101 q101
              cases e101
              replace p101 := eq_true p101
              replace q101 := eq_true q101
              go_wp2
              go_roundg k1
              case measure => have := HK1.out; omega
              case rel => exact ⟨(wrap64 (x9_1 + 1)), (by first | rfl | (simp; done) | (simp [*]; done)), H', ⟨by have := HK1.out; omega⟩, by repeat (first | exact Drawn0.refl _ | apply Drawn0.step)⟩
          · rw [if_neg c5] at H
            exact absurd H (by simp)
        · rw [if_neg c4] at H
          exact absurd H (by simp)
      · rw [if_neg c3] at H
        have c3b0 : decide (x9_1 < (l0.length : Int)) = false := decide_eq_false c3
        clear c3
        simp only [Option.some.injEq, Prod.mk.injEq] at H
        obtain ⟨rfl, rfl⟩ := H
        go_wp2
        go_ret2
        exact ⟨by first | rfl | (simp; done) | (simp [*]; done), by repeat (first | exact Drawn0.refl _ | apply Drawn0.step)⟩

/-! ### stileref01_Ints: function 42 -/
def stileref01_Ints.f (a0 : Int) (a1 : Int) : Option (Int) := if a0 < a1 then (some (-1)) else (if a0 > a1 then (some 1) else (some 0))
set_option maxHeartbeats 8000000 in
set_option maxRecDepth 100000 in
theorem stileref01_Ints.calls (a0 : Int) (a1 : Int) (r : Int) (w : World) (h : stileref01_Ints.f a0 a1 = some r) :
    Calls Try.prog 42 #[.int .i64 a0, .int .i64 a1] w fun e w' => e = .returned (.int .i64 r) ∧ Drawn0 w w' := by
  have H : (if a0 < a1 then (some (-1)) else (if a0 > a1 then (some 1) else (some 0))) = some r := h
  clear h
  by_cases c3 : a0 < a1
  · rw [if_pos c3] at H
    have c3b0 : decide (a0 < a1) = true := decide_eq_true c3
    clear c3
    obtain rfl := Option.some.inj H
    go_enter Try.func42, Try.ntmps42
    go_wp2
    go_ret
    exact ⟨by first | rfl | (simp; done) | (simp [*]; done), by repeat (first | exact Drawn0.refl _ | apply Drawn0.step)⟩
  · rw [if_neg c3] at H
    have c3b0 : decide (a0 < a1) = false := decide_eq_false c3
    clear c3
    by_cases c4 : a0 > a1
    · rw [if_pos c4] at H
      have c4b0 : decide (a1 < a0) = true := decide_eq_true c4
      clear c4
      obtain rfl := Option.some.inj H
      go_enter Try.func42, Try.ntmps42
      go_wp2
      go_ret
      exact ⟨by first | rfl | (simp; done) | (simp [*]; done), by repeat (first | exact Drawn0.refl _ | apply Drawn0.step)⟩
    · rw [if_neg c4] at H
      have c4b0 : decide (a1 < a0) = false := decide_eq_false c4
      clear c4
      obtain rfl := Option.some.inj H
      go_enter Try.func42, Try.ntmps42
      go_wp2
      go_ret
      exact ⟨by first | rfl | (simp; done) | (simp [*]; done), by repeat (first | exact Drawn0.refl _ | apply Drawn0.step)⟩

/-! ### stileref01_Compare: function 35 -/
mutual
def stileref01_Compare.l0 : Nat → ByteArray → ByteArray → Int → Option (Int)
  | 0, _, _, _ => none
  | k + 1, x0, x1, x5 => if x5 < (x0.size : Int) then (stileref01_Compare.j1 k x0 x1 x5 (decide (x5 < (x1.size : Int)))) else (stileref01_Compare.j1 k x0 x1 x5 false)
def stileref01_Compare.j1 : Nat → ByteArray → ByteArray → Int → Bool → Option (Int)
  | 0, _, _, _, _ => none
  | k + 1, x0, x1, x5, x15 => if x15 = true then (if 0 ≤ x5 then (if x5 < (x0.size : Int) then (if x5 < (x1.size : Int) then (if (bt x0 x5) = (bt x1 x5) then (stileref01_Compare.l0 k x0 x1 (wrap64 (x5 + 1))) else ((stileref01_Ints.f (wrap64 (bt x0 x5)) (wrap64 (bt x1 x5))).bind fun t103 => (some t103))) else (none)) else (none)) else (none)) else ((stileref01_Ints.f (x0.size : Int) (x1.size : Int)).bind fun t104 => (some t104))
end
def stileref01_Compare.f (k : Nat) (a0 : ByteArray) (a1 : ByteArray) : Option (Int) := stileref01_Compare.l0 k a0 a1 0
theorem stileref01_Compare.mono_l : ∀ k, (∀ y0 y1 y2, LeO (stileref01_Compare.l0 k y0 y1 y2) (stileref01_Compare.l0 (k + 1) y0 y1 y2)) ∧ (∀ y0 y1 y2 y3, LeO (stileref01_Compare.j1 k y0 y1 y2 y3) (stileref01_Compare.j1 (k + 1) y0 y1 y2 y3))
  | 0 => ⟨fun _ _ _ r h => by simp [stileref01_Compare.l0] at h, fun _ _ _ _ r h => by simp [stileref01_Compare.j1] at h⟩
  | k + 1 => by
    obtain ⟨ih0, ih1⟩ := stileref01_Compare.mono_l k
    refine ⟨?_, ?_⟩
    · intro y0 y1 y2
      unfold stileref01_Compare.l0
      repeat' first
      | (with_reducible exact ih0 _ _ _)
      | (with_reducible exact ih1 _ _ _ _)
      | (with_reducible exact LeO.refl _)
      | (with_reducible exact LeO.none _)
      | (with_reducible refine LeO.ite ?_ ?_)
      | (with_reducible refine LeO.bind ?_ (fun _ => ?_))
      | exact ih0 _ _ _
      | exact ih1 _ _ _ _
      | exact LeO.none _
      | refine LeO.ite ?_ ?_
      | refine LeO.bind ?_ (fun _ => ?_)
    · intro y0 y1 y2 y3
      unfold stileref01_Compare.j1
      repeat' first
      | (with_reducible exact ih0 _ _ _)
      | (with_reducible exact ih1 _ _ _ _)
      | (with_reducible exact LeO.refl _)
      | (with_reducible exact LeO.none _)
      | (with_reducible refine LeO.ite ?_ ?_)
      | (with_reducible refine LeO.bind ?_ (fun _ => ?_))
      | exact ih0 _ _ _
      | exact ih1 _ _ _ _
      | exact LeO.none _
      | refine LeO.ite ?_ ?_
      | refine LeO.bind ?_ (fun _ => ?_)
theorem stileref01_Compare.mono : ∀ a0 a1 k, LeO (stileref01_Compare.f k a0 a1) (stileref01_Compare.f (k + 1) a0 a1) := by
  intro a0 a1 k
  obtain ⟨ih0, ih1⟩ := stileref01_Compare.mono_l k
  unfold stileref01_Compare.f
  repeat' first
      | (with_reducible exact ih0 _ _ _)
      | (with_reducible exact ih1 _ _ _ _)
      | (with_reducible exact LeO.refl _)
      | (with_reducible exact LeO.none _)
      | (with_reducible refine LeO.ite ?_ ?_)
      | (with_reducible refine LeO.bind ?_ (fun _ => ?_))
      | exact ih0 _ _ _
      | exact ih1 _ _ _ _
      | exact LeO.none _
      | refine LeO.ite ?_ ?_
      | refine LeO.bind ?_ (fun _ => ?_)
set_option maxHeartbeats 8000000 in
set_option maxRecDepth 100000 in
theorem stileref01_Compare.calls (k : Nat) (a0 : ByteArray) (a1 : ByteArray) (r : Int) (w : World) (h : stileref01_Compare.f k a0 a1 = some r) :
    Calls Try.prog 35 #[.string a0, .string a1] w fun e w' => e = .returned (.int .i64 r) ∧ Drawn0 w w' := by
  have H : (stileref01_Compare.l0 k a0 a1 0) = some r := h
  clear h
  have H' := Aside0.mk H
  clear H
  go_enter Try.func35, Try.ntmps35
  go_wp2
  repeat (go_quiet (fail); try go_wp2)
  go_loopg [5] k (fun kq v5 w' => ∃ (x5_1 : Int), v5 = .int .i64 x5_1 ∧ Aside0 (stileref01_Compare.l0 kq a0 a1 x5_1 = some r) ∧ Aside0 (kq ≤ k) ∧ Drawn0 w w')
  case atStart => exact ⟨(0), (by first | rfl | (simp; done) | (simp [*]; done)), H', ⟨Nat.le_refl _⟩, by repeat (first | exact Drawn0.refl _ | apply Drawn0.step)⟩
  case round =>
    clear H'
    try clear p2
    obtain ⟨x5_1, rfl, HA, HK1, ⟨m1, rfl⟩⟩ := hrel
    cases gk with
    | zero => exact absurd HA.out (by simp [stileref01_Compare.l0])
    | succ k1 =>
      have H := HA.out
      clear HA
      simp only [stileref01_Compare.l0] at H
      have HC3 := Aside0.mk H
      clear H
      go_upto_region 2 with (fail)
      repeat (go_quiet (fail); go_upto_region 2 with (fail))
      go_cut [15] (fun v15 wc => ∃ (kq : Nat) (x15_2 : Bool), v15 = .bool x15_2 ∧ Aside0 (stileref01_Compare.j1 kq a0 a1 x5_1 x15_2 = some r) ∧ Aside0 (kq ≤ k1) ∧ Drawn0 w wc)
      case first =>
        have H := HC3.out
        clear HC3
        by_cases c4 : x5_1 < (a0.size : Int)
        · rw [if_pos c4] at H
          have c4b0 : decide (x5_1 < (a0.size : Int)) = true := decide_eq_true c4
          clear c4
          (first | rw [c4b0] | (simp only [i64_w, i32_w]; rw [c4b0]) | skip)
          have H' := Aside0.mk H
          clear H
          go_wp2
          repeat (go_quiet (fail); try go_wp2)
          go_meet
          case rel => exact ⟨_, (decide (x5_1 < (a1.size : Int))), (by first | rfl | (simp; done) | (simp [*]; done)), H', ⟨by have := HK1.out; first | omega | exact Nat.le_refl _⟩, by repeat (first | exact Drawn0.refl _ | apply Drawn0.step)⟩
        · rw [if_neg c4] at H
          have c4b0 : decide (x5_1 < (a0.size : Int)) = false := decide_eq_false c4
          clear c4
          (first | rw [c4b0] | (simp only [i64_w, i32_w]; rw [c4b0]) | skip)
          have H' := Aside0.mk H
          clear H
          go_wp2
          repeat (go_quiet (fail); try go_wp2)
          go_meet
          case rel => exact ⟨_, (false), (by first | rfl | (simp; done) | (simp [*]; done)), H', ⟨by have := HK1.out; first | omega | exact Nat.le_refl _⟩, by repeat (first | exact Drawn0.refl _ | apply Drawn0.step)⟩
      case rest =>
        clear HC3
        try clear p2
        try clear c3
        try clear c4
        try clear c4b0
        try clear p2
        obtain ⟨kq, x15_2, rfl, HA, HJ2, ⟨mc2, rfl⟩⟩ := hcut
        cases kq with
        | zero => exact absurd HA.out (by simp [stileref01_Compare.j1])
        | succ kj2 =>
          have H := HA.out
          clear HA
          simp only [stileref01_Compare.j1] at H
          by_cases c5 : x15_2 = true
          · subst c5
            have H1 : (if 0 ≤ x5_1 then (if x5_1 < (a0.size : Int) then (if x5_1 < (a1.size : Int) then (if (bt a0 x5_1) = (bt a1 x5_1) then (stileref01_Compare.l0 kj2 a0 a1 (wrap64 (x5_1 + 1))) else ((stileref01_Ints.f (wrap64 (bt a0 x5_1)) (wrap64 (bt a1 x5_1))).bind fun t103 => (some t103))) else (none)) else (none)) else (none)) = some r := by rw [if_pos rfl] at H; exact H
            clear H
            have H := H1
            clear H1
            by_cases c6 : 0 ≤ x5_1
            · rw [if_pos c6] at H
              have c6b0 : decide (0 ≤ x5_1) = true := decide_eq_true c6
              clear c6
              by_cases c7 : x5_1 < (a0.size : Int)
              · rw [if_pos c7] at H
                have c7b0 : decide (x5_1 < (a0.size : Int)) = true := decide_eq_true c7
                clear c7
                by_cases c9 : x5_1 < (a1.size : Int)
                · rw [if_pos c9] at H
                  have c9b0 : decide (x5_1 < (a1.size : Int)) = true := decide_eq_true c9
                  clear c9
                  by_cases c11 : (bt a0 x5_1) = (bt a1 x5_1)
                  · rw [if_pos c11] at H
                    have c11b0 : ((bt a0 x5_1) == (bt a1 x5_1)) = true := beq_iff_eq.mpr c11
                    have c11b1 : ((bt a0 x5_1) != (bt a1 x5_1)) = false := bne_eq_false_iff_eq.mpr c11
                    clear c11
                    have H' := Aside0.mk H
                    clear H
                    have p8 : 0 ≤ (x5_1 : Int) := of_decide_eq_true (by first | (with_reducible assumption) | assumption)
                    have q8 : x5_1 < (a0.size : Int) := of_decide_eq_true (by first | (with_reducible assumption) | assumption)
                    have hx8 := bt_at a0 x5_1
                    replace p8 := eq_true p8
                    replace q8 := eq_true q8
                    have p10 : 0 ≤ (x5_1 : Int) := of_decide_eq_true (by first | (with_reducible assumption) | assumption)
                    have q10 : x5_1 < (a1.size : Int) := of_decide_eq_true (by first | (with_reducible assumption) | assumption)
                    have hx10 := bt_at a1 x5_1
                    replace p10 := eq_true p10
                    replace q10 := eq_true q10
                    go_wp2
                    repeat (go_quiet (fail); try go_wp2)
                    go_roundg kj2
                    case measure => have := HK1.out; have := HJ2.out; omega
                    case rel => exact ⟨(wrap64 (x5_1 + 1)), (by first | rfl | (simp; done) | (simp [*]; done)), H', ⟨by have := HK1.out; have := HJ2.out; omega⟩, by repeat (first | exact Drawn0.refl _ | apply Drawn0.step)⟩
                  · rw [if_neg c11] at H
                    have c11b0 : ((bt a0 x5_1) == (bt a1 x5_1)) = false := beq_eq_false_iff_ne.mpr c11
                    have c11b1 : ((bt a0 x5_1) != (bt a1 x5_1)) = true := bne_iff_ne.mpr c11
                    replace H := Option.bind_eq_some_iff.mp H
                    obtain ⟨t103, A140, H⟩ := H
                    replace H : (some t103) = some r := H
                    have A14 := Aside0.mk A140
                    clear A140
                    obtain rfl := Option.some.inj H
                    have p8 : 0 ≤ (x5_1 : Int) := of_decide_eq_true (by first | (with_reducible assumption) | assumption)
                    have q8 : x5_1 < (a0.size : Int) := of_decide_eq_true (by first | (with_reducible assumption) | assumption)
                    have hx8 := bt_at a0 x5_1
                    replace p8 := eq_true p8
                    replace q8 := eq_true q8
                    have p10 : 0 ≤ (x5_1 : Int) := of_decide_eq_true (by first | (with_reducible assumption) | assumption)
                    have q10 : x5_1 < (a1.size : Int) := of_decide_eq_true (by first | (with_reducible assumption) | assumption)
                    have hx10 := bt_at a1 x5_1
                    replace p10 := eq_true p10
                    replace q10 := eq_true q10
                    have p12 : 0 ≤ (x5_1 : Int) := of_decide_eq_true (by first | (with_reducible assumption) | assumption)
                    have q12 : x5_1 < (a0.size : Int) := of_decide_eq_true (by first | (with_reducible assumption) | assumption)
                    have hx12 := bt_at a0 x5_1
                    replace p12 := eq_true p12
                    replace q12 := eq_true q12
                    have p13 : 0 ≤ (x5_1 : Int) := of_decide_eq_true (by first | (with_reducible assumption) | assumption)
                    have q13 : x5_1 < (a1.size : Int) := of_decide_eq_true (by first | (with_reducible assumption) | assumption)
                    have hx13 := bt_at a1 x5_1
                    replace p13 := eq_true p13
                    replace q13 := eq_true q13
                    go_wp2_with (first | (go_at_call 42; (with_reducible refine (stileref01_Ints.calls (wrap64 (bt a0 x5_1)) (wrap64 (bt a1 x5_1)) t103 _ A14.out).mono ?_); rintro e w' ⟨rfl, ⟨nd, rfl⟩⟩; (try first | exact ⟨rfl, _, World.drewN_drewN _ _ _⟩ | exact ⟨rfl, _, Eq.trans (World.drewN_drewN _ _ _) (congrArg (World.drewN _) (Nat.add_assoc _ _ _))⟩)))
                    repeat (go_quiet (first | (go_at_call 42; (with_reducible refine (stileref01_Ints.calls (wrap64 (bt a0 x5_1)) (wrap64 (bt a1 x5_1)) t103 _ A14.out).mono ?_); rintro e w' ⟨rfl, ⟨nd, rfl⟩⟩; (try first | exact ⟨rfl, _, World.drewN_drewN _ _ _⟩ | exact ⟨rfl, _, Eq.trans (World.drewN_drewN _ _ _) (congrArg (World.drewN _) (Nat.add_assoc _ _ _))⟩))); try go_wp2_with (first | (go_at_call 42; (with_reducible refine (stileref01_Ints.calls (wrap64 (bt a0 x5_1)) (wrap64 (bt a1 x5_1)) t103 _ A14.out).mono ?_); rintro e w' ⟨rfl, ⟨nd, rfl⟩⟩; (try first | exact ⟨rfl, _, World.drewN_drewN _ _ _⟩ | exact ⟨rfl, _, Eq.trans (World.drewN_drewN _ _ _) (congrArg (World.drewN _) (Nat.add_assoc _ _ _))⟩))))
                    go_ret
                    exact ⟨by first | rfl | (simp; done) | (simp [*]; done), by repeat (first | exact Drawn0.refl _ | apply Drawn0.step)⟩
                · rw [if_neg c9] at H
                  exact absurd H (by simp)
              · rw [if_neg c7] at H
                exact absurd H (by simp)
            · rw [if_neg c6] at H
              exact absurd H (by simp)
          · replace c5 := Bool.eq_false_iff.mpr c5
            subst c5
            have H1 : ((stileref01_Ints.f (a0.size : Int) (a1.size : Int)).bind fun t104 => (some t104)) = some r := by rw [if_neg (show ¬ (false = true) by decide)] at H; exact H
            clear H
            have H := H1
            clear H1
            replace H := Option.bind_eq_some_iff.mp H
            obtain ⟨t104, A150, H⟩ := H
            replace H : (some t104) = some r := H
            have A15 := Aside0.mk A150
            clear A150
            obtain rfl := Option.some.inj H
            go_wp2_with (first | (go_at_call 42; (with_reducible refine (stileref01_Ints.calls (a0.size : Int) (a1.size : Int) t104 _ A15.out).mono ?_); rintro e w' ⟨rfl, ⟨nd, rfl⟩⟩; (try first | exact ⟨rfl, _, World.drewN_drewN _ _ _⟩ | exact ⟨rfl, _, Eq.trans (World.drewN_drewN _ _ _) (congrArg (World.drewN _) (Nat.add_assoc _ _ _))⟩)))
            repeat (go_quiet (first | (go_at_call 42; (with_reducible refine (stileref01_Ints.calls (a0.size : Int) (a1.size : Int) t104 _ A15.out).mono ?_); rintro e w' ⟨rfl, ⟨nd, rfl⟩⟩; (try first | exact ⟨rfl, _, World.drewN_drewN _ _ _⟩ | exact ⟨rfl, _, Eq.trans (World.drewN_drewN _ _ _) (congrArg (World.drewN _) (Nat.add_assoc _ _ _))⟩))); try go_wp2_with (first | (go_at_call 42; (with_reducible refine (stileref01_Ints.calls (a0.size : Int) (a1.size : Int) t104 _ A15.out).mono ?_); rintro e w' ⟨rfl, ⟨nd, rfl⟩⟩; (try first | exact ⟨rfl, _, World.drewN_drewN _ _ _⟩ | exact ⟨rfl, _, Eq.trans (World.drewN_drewN _ _ _) (congrArg (World.drewN _) (Nat.add_assoc _ _ _))⟩))))
            go_ret
            exact ⟨by first | rfl | (simp; done) | (simp [*]; done), by repeat (first | exact Drawn0.refl _ | apply Drawn0.step)⟩

/-! ### stileref15_Rank: function 19 -/
def stileref15_Rank.l0 : Nat → List (S71) → ByteArray → Int → Int → Int → Option (Int)
  | 0, _, _, _, _, _ => none
  | k + 1, x0, x1, x5, x8, x9 => if x9 < x8 then (if 0 ≤ x9 then (if x9 < (x0.length : Int) then ((stileref01_Compare.f k ((rd_T71 x0 x9).f0) x1).bind fun t106 => (if t106 < 0 then (stileref15_Rank.l0 k x0 x1 (wrap64 (x5 + 1)) x8 (wrap64 (x9 + 1))) else (stileref15_Rank.l0 k x0 x1 x5 x8 (wrap64 (x9 + 1))))) else (none)) else (none)) else (some x5)
def stileref15_Rank.f (k : Nat) (l0 : List (S71)) (a1 : ByteArray) : Option (Int) := stileref15_Rank.l0 k l0 a1 0 (l0.length : Int) 0
theorem stileref15_Rank.mono_l : ∀ k, (∀ y0 y1 y2 y3 y4, LeO (stileref15_Rank.l0 k y0 y1 y2 y3 y4) (stileref15_Rank.l0 (k + 1) y0 y1 y2 y3 y4))
  | 0 => fun _ _ _ _ _ r h => by simp [stileref15_Rank.l0] at h
  | k + 1 => by
    have ih0 := stileref15_Rank.mono_l k
    · intro y0 y1 y2 y3 y4
      unfold stileref15_Rank.l0
      repeat' first
      | (with_reducible exact ih0 _ _ _ _ _)
      | (with_reducible exact stileref01_Compare.mono _ _ _)
      | (with_reducible exact LeO.refl _)
      | (with_reducible exact LeO.none _)
      | (with_reducible refine LeO.ite ?_ ?_)
      | (with_reducible refine LeO.bind ?_ (fun _ => ?_))
      | exact ih0 _ _ _ _ _
      | exact stileref01_Compare.mono _ _ _
      | exact LeO.none _
      | refine LeO.ite ?_ ?_
      | refine LeO.bind ?_ (fun _ => ?_)
theorem stileref15_Rank.mono : ∀ a0 a1 k, LeO (stileref15_Rank.f k a0 a1) (stileref15_Rank.f (k + 1) a0 a1) := by
  intro a0 a1 k
  have ih0 := stileref15_Rank.mono_l k
  unfold stileref15_Rank.f
  repeat' first
      | (with_reducible exact ih0 _ _ _ _ _)
      | (with_reducible exact stileref01_Compare.mono _ _ _)
      | (with_reducible exact LeO.refl _)
      | (with_reducible exact LeO.none _)
      | (with_reducible refine LeO.ite ?_ ?_)
      | (with_reducible refine LeO.bind ?_ (fun _ => ?_))
      | exact ih0 _ _ _ _ _
      | exact stileref01_Compare.mono _ _ _
      | exact LeO.none _
      | refine LeO.ite ?_ ?_
      | refine LeO.bind ?_ (fun _ => ?_)
set_option maxHeartbeats 8000000 in
set_option maxRecDepth 100000 in
theorem stileref15_Rank.calls (k : Nat) (A0 : Option Addr) (c0 : Nat) (l0 : List (S71)) (a1 : ByteArray) (r : Int) (w : World) (hr0 : Kd.C k71 w A0 l0.length l0) (hc0 : l0.length ≤ c0) (h : stileref15_Rank.f k l0 a1 = some r) :
    Calls Try.prog 19 #[.slice A0 l0.length c0, .string a1] w fun e w' => e = .returned (.int .i64 r) ∧ Drawn0 w w' := by
  have HR0 := Aside0.mk hr0
  have HC0 := Aside0.mk hc0
  clear hr0 hc0
  have H : (stileref15_Rank.l0 k l0 a1 0 (l0.length : Int) 0) = some r := h
  clear h
  have H' := Aside0.mk H
  clear H
  go_enter Try.func19, Try.ntmps19
  go_wp2
  go_loopg [5, 9] k (fun kq v5 v9 w' => ∃ (x5_1 : Int) (x9_1 : Int), v5 = .int .i64 x5_1 ∧ v9 = .int .i64 x9_1 ∧ Aside0 (stileref15_Rank.l0 kq l0 a1 x5_1 (l0.length : Int) x9_1 = some r) ∧ Aside0 (kq ≤ k) ∧ Drawn0 w w')
  case atStart => exact ⟨(0), (0), (by first | rfl | (simp; done) | (simp [*]; done)), (by first | rfl | (simp; done) | (simp [*]; done)), H', ⟨Nat.le_refl _⟩, by repeat (first | exact Drawn0.refl _ | apply Drawn0.step)⟩
  case round =>
    clear H'
    try clear c1
    try clear p2
    obtain ⟨x5_1, x9_1, rfl, rfl, HA, HK1, ⟨m1, rfl⟩⟩ := hrel
    cases gk with
    | zero => exact absurd HA.out (by simp [stileref15_Rank.l0])
    | succ k1 =>
      have H := HA.out
      clear HA
      simp only [stileref15_Rank.l0] at H
      by_cases c3 : x9_1 < (l0.length : Int)
      · rw [if_pos c3] at H
        have c3b0 : decide (x9_1 < (l0.length : Int)) = true := decide_eq_true c3
        clear c3
        by_cases c4 : 0 ≤ x9_1
        · rw [if_pos c4] at H
          have c4b0 : decide (0 ≤ x9_1) = true := decide_eq_true c4
          clear c4
          by_cases c5 : x9_1 < (l0.length : Int)
          · rw [if_pos c5] at H
            have c5b0 : decide (x9_1 < (l0.length : Int)) = true := decide_eq_true c5
            clear c5
            replace H := Option.bind_eq_some_iff.mp H
            obtain ⟨t106, A60, H⟩ := H
            replace H : (if t106 < 0 then (stileref15_Rank.l0 k1 l0 a1 (wrap64 (x5_1 + 1)) (l0.length : Int) (wrap64 (x9_1 + 1))) else (stileref15_Rank.l0 k1 l0 a1 x5_1 (l0.length : Int) (wrap64 (x9_1 + 1)))) = some r := H
            have A6 := Aside0.mk A60
            clear A60
            by_cases c7 : t106 < 0
            · rw [if_pos c7] at H
              have c7b0 : decide (t106 < 0) = true := decide_eq_true c7
              clear c7
              have H' := Aside0.mk H
              clear H
              have p105 : 0 ≤ (x9_1 : Int) := of_decide_eq_true (by first | (with_reducible assumption) | assumption)
              have q105 : x9_1 < (l0.length : Int) := of_decide_eq_true (by first | (with_reducible assumption) | assumption)
              obtain ⟨ad105, e105, hx105_0, hx105_1⟩ := at_T71 HR0.out x9_1 p105 q105
              cases e105
              replace p105 := eq_true p105
              replace q105 := eq_true q105
              go_wp2_with (first | ((with_reducible refine gate_callee (f := 35) rfl ?_); refine goesL_ (some 18) rfl rfl Try.func35 (by kernel_rfl) rfl #[.string ((rd_T71 l0 x9_1).f0), .string a1] rfl (by (try simp only [List.map_toArray, List.map_cons, List.map_nil]); first | done | rfl | (simp only [List.length_drop, List.length_take]; rfl)) ?_; (with_reducible refine (stileref01_Compare.calls k1 ((rd_T71 l0 x9_1).f0) a1 t106 _ A6.out).mono ?_); rintro e w' ⟨rfl, ⟨nd, rfl⟩⟩; refine ⟨_, rfl, ?_⟩))
              go_roundg k1
              case measure => have := HK1.out; omega
              case rel => exact ⟨(wrap64 (x5_1 + 1)), (wrap64 (x9_1 + 1)), (by first | rfl | (simp; done) | (simp [*]; done)), (by first | rfl | (simp; done) | (simp [*]; done)), H', ⟨by have := HK1.out; omega⟩, by repeat (first | exact Drawn0.refl _ | apply Drawn0.step)⟩
            · rw [if_neg c7] at H
              have c7b0 : decide (t106 < 0) = false := decide_eq_false c7
              clear c7
              have H' := Aside0.mk H
              clear H
              have p105 : 0 ≤ (x9_1 : Int) := of_decide_eq_true (by first | (with_reducible assumption) | assumption)
              have q105 : x9_1 < (l0.length : Int) := of_decide_eq_true (by first | (with_reducible assumption) | assumption)
              obtain ⟨ad105, e105, hx105_0, hx105_1⟩ := at_T71 HR0.out x9_1 p105 q105
              cases e105
              replace p105 := eq_true p105
              replace q105 := eq_true q105
              go_wp2_with (first | ((with_reducible refine gate_callee (f := 35) rfl ?_); refine goesL_ (some 18) rfl rfl Try.func35 (by kernel_rfl) rfl #[.string ((rd_T71 l0 x9_1).f0), .string a1] rfl (by (try simp only [List.map_toArray, List.map_cons, List.map_nil]); first | done | rfl | (simp only [List.length_drop, List.length_take]; rfl)) ?_; (with_reducible refine (stileref01_Compare.calls k1 ((rd_T71 l0 x9_1).f0) a1 t106 _ A6.out).mono ?_); rintro e w' ⟨rfl, ⟨nd, rfl⟩⟩; refine ⟨_, rfl, ?_⟩))
              go_roundg k1
              case measure => have := HK1.out; omega
              case rel => exact ⟨(x5_1), (wrap64 (x9_1 + 1)), (by first | rfl | (simp; done) | (simp [*]; done)), (by first | rfl | (simp; done) | (simp [*]; done)), H', ⟨by have := HK1.out; omega⟩, by repeat (first | exact Drawn0.refl _ | apply Drawn0.step)⟩
          · rw [if_neg c5] at H
            exact absurd H (by simp)
        · rw [if_neg c4] at H
          exact absurd H (by simp)
      · rw [if_neg c3] at H
        have c3b0 : decide (x9_1 < (l0.length : Int)) = false := decide_eq_false c3
        clear c3
        obtain rfl := Option.some.inj H
        go_wp2
        go_ret
        exact ⟨by first | rfl | (simp; done) | (simp [*]; done), by repeat (first | exact Drawn0.refl _ | apply Drawn0.step)⟩

/-! ### stileref15_Put: function 16 -/
def stileref15_Put.f (k : Nat) (l0 : List (S71)) (a1 : ByteArray) (a2 : Int) : Option ((List (S71))) := (stileref15_Rank.f k l0 a1).bind fun t107 => (if 0 ≤ t107 then (if t107 ≤ (l0.length : Int) then ((some (l0.drop (t107 : Int).toNat : List (S71))).bind fun y108 => ((stileref15_Get.f k l0 a1).bind fun bt112 => (if bt112.2 = true then (if 0 ≤ (wrap64 (t107 + 1)) then (if (wrap64 (t107 + 1)) ≤ (l0.length : Int) then ((some (l0.drop ((wrap64 (t107 + 1)) : Int).toNat : List (S71))).bind fun y114 => ((some (([] : List (S71)) : List (S71))).bind fun y118 => ((some (l0.take (t107 : Int).toNat : List (S71))).bind fun y121 => (if y118.length + y121.length < 5864062014805 then ((some (y118 ++ y121 : List (S71))).bind fun y125 => (if y125.length < 5864062014805 then ((some (y125 ++ [(⟨a1, a2⟩ : S71)] : List (S71))).bind fun y128 => (if y128.length + y114.length < 5864062014805 then (some (y128 ++ y114)) else (none))) else (none))) else (none))))) else (none)) else (none)) else ((some (([] : List (S71)) : List (S71))).bind fun y134 => ((some (l0.take (t107 : Int).toNat : List (S71))).bind fun y137 => (if y134.length + y137.length < 5864062014805 then ((some (y134 ++ y137 : List (S71))).bind fun y141 => (if y141.length < 5864062014805 then ((some (y141 ++ [(⟨a1, a2⟩ : S71)] : List (S71))).bind fun y144 => (if y144.length + y108.length < 5864062014805 then (some (y144 ++ y108)) else (none))) else (none))) else (none))))))) else (none)) else (none))
theorem stileref15_Put.mono : ∀ a0 a1 a2 k, LeO (stileref15_Put.f k a0 a1 a2) (stileref15_Put.f (k + 1) a0 a1 a2) := by
  intro a0 a1 a2 k
  unfold stileref15_Put.f
  repeat' first
      | (with_reducible exact stileref15_Get.mono _ _ _)
      | (with_reducible exact stileref15_Rank.mono _ _ _)
      | (with_reducible exact LeO.refl _)
      | (with_reducible exact LeO.none _)
      | (with_reducible refine LeO.ite ?_ ?_)
      | (with_reducible refine LeO.bind ?_ (fun _ => ?_))
      | exact stileref15_Get.mono _ _ _
      | exact stileref15_Rank.mono _ _ _
      | exact LeO.none _
      | refine LeO.ite ?_ ?_
      | refine LeO.bind ?_ (fun _ => ?_)
set_option maxHeartbeats 8000000 in
set_option maxRecDepth 100000 in
theorem stileref15_Put.calls (k : Nat) (A0 : Option Addr) (c0 : Nat) (l0 : List (S71)) (a1 : ByteArray) (a2 : Int) (r : List (S71)) (w : World) (hr0 : Kd.C k71 w A0 l0.length l0) (hc0 : l0.length ≤ c0) (h : stileref15_Put.f k l0 a1 a2 = some r) :
    Calls Try.prog 16 #[.slice A0 l0.length c0, .string a1, .int .i64 a2] w fun e w' => ∃ v0_ : Value, e = .returned (v0_) ∧ Kd.R k71 71 w' w.heap.size (fun _ => True) v0_ r ∧ Below w.heap.size w w' := by
  have hu71 := Try.underlying71
  have HR0 := Aside0.mk hr0
  have HC0 := Aside0.mk hc0
  clear hr0 hc0
  have HB := Aside0.mk (Below.refl w.heap.size w)
  have H : ((stileref15_Rank.f k l0 a1).bind fun t107 => (if 0 ≤ t107 then (if t107 ≤ (l0.length : Int) then ((some (l0.drop (t107 : Int).toNat : List (S71))).bind fun y108 => ((stileref15_Get.f k l0 a1).bind fun bt112 => (if bt112.2 = true then (if 0 ≤ (wrap64 (t107 + 1)) then (if (wrap64 (t107 + 1)) ≤ (l0.length : Int) then ((some (l0.drop ((wrap64 (t107 + 1)) : Int).toNat : List (S71))).bind fun y114 => ((some (([] : List (S71)) : List (S71))).bind fun y118 => ((some (l0.take (t107 : Int).toNat : List (S71))).bind fun y121 => (if y118.length + y121.length < 5864062014805 then ((some (y118 ++ y121 : List (S71))).bind fun y125 => (if y125.length < 5864062014805 then ((some (y125 ++ [(⟨a1, a2⟩ : S71)] : List (S71))).bind fun y128 => (if y128.length + y114.length < 5864062014805 then (some (y128 ++ y114)) else (none))) else (none))) else (none))))) else (none)) else (none)) else ((some (([] : List (S71)) : List (S71))).bind fun y134 => ((some (l0.take (t107 : Int).toNat : List (S71))).bind fun y137 => (if y134.length + y137.length < 5864062014805 then ((some (y134 ++ y137 : List (S71))).bind fun y141 => (if y141.length < 5864062014805 then ((some (y141 ++ [(⟨a1, a2⟩ : S71)] : List (S71))).bind fun y144 => (if y144.length + y108.length < 5864062014805 then (some (y144 ++ y108)) else (none))) else (none))) else (none))))))) else (none)) else (none))) = some r := h
  clear h
  replace H := Option.bind_eq_some_iff.mp H
  obtain ⟨t107, A40, H⟩ := H
  replace H : (if 0 ≤ t107 then (if t107 ≤ (l0.length : Int) then ((some (l0.drop (t107 : Int).toNat : List (S71))).bind fun y108 => ((stileref15_Get.f k l0 a1).bind fun bt112 => (if bt112.2 = true then (if 0 ≤ (wrap64 (t107 + 1)) then (if (wrap64 (t107 + 1)) ≤ (l0.length : Int) then ((some (l0.drop ((wrap64 (t107 + 1)) : Int).toNat : List (S71))).bind fun y114 => ((some (([] : List (S71)) : List (S71))).bind fun y118 => ((some (l0.take (t107 : Int).toNat : List (S71))).bind fun y121 => (if y118.length + y121.length < 5864062014805 then ((some (y118 ++ y121 : List (S71))).bind fun y125 => (if y125.length < 5864062014805 then ((some (y125 ++ [(⟨a1, a2⟩ : S71)] : List (S71))).bind fun y128 => (if y128.length + y114.length < 5864062014805 then (some (y128 ++ y114)) else (none))) else (none))) else (none))))) else (none)) else (none)) else ((some (([] : List (S71)) : List (S71))).bind fun y134 => ((some (l0.take (t107 : Int).toNat : List (S71))).bind fun y137 => (if y134.length + y137.length < 5864062014805 then ((some (y134 ++ y137 : List (S71))).bind fun y141 => (if y141.length < 5864062014805 then ((some (y141 ++ [(⟨a1, a2⟩ : S71)] : List (S71))).bind fun y144 => (if y144.length + y108.length < 5864062014805 then (some (y144 ++ y108)) else (none))) else (none))) else (none))))))) else (none)) else (none)) = some r := H
  have A4 := Aside0.mk A40
  clear A40
  by_cases c5 : 0 ≤ t107
  · rw [if_pos c5] at H
    have c5b0 := eq_true c5
    have c5b1 : decide (0 ≤ t107) = true := decide_eq_true c5
    clear c5
    by_cases c6 : t107 ≤ (l0.length : Int)
    · rw [if_pos c6] at H
      have c6b0 := eq_true c6
      have c6b1 : decide (t107 ≤ (l0.length : Int)) = true := decide_eq_true c6
      clear c6
      obtain ⟨y108, hy108⟩ : ∃ y_ : List (S71), y_ = (l0.drop (t107 : Int).toNat) := ⟨_, rfl⟩
      replace H : ((stileref15_Get.f k l0 a1).bind fun bt112 => (if bt112.2 = true then (if 0 ≤ (wrap64 (t107 + 1)) then (if (wrap64 (t107 + 1)) ≤ (l0.length : Int) then ((some (l0.drop ((wrap64 (t107 + 1)) : Int).toNat : List (S71))).bind fun y114 => ((some (([] : List (S71)) : List (S71))).bind fun y118 => ((some (l0.take (t107 : Int).toNat : List (S71))).bind fun y121 => (if y118.length + y121.length < 5864062014805 then ((some (y118 ++ y121 : List (S71))).bind fun y125 => (if y125.length < 5864062014805 then ((some (y125 ++ [(⟨a1, a2⟩ : S71)] : List (S71))).bind fun y128 => (if y128.length + y114.length < 5864062014805 then (some (y128 ++ y114)) else (none))) else (none))) else (none))))) else (none)) else (none)) else ((some (([] : List (S71)) : List (S71))).bind fun y134 => ((some (l0.take (t107 : Int).toNat : List (S71))).bind fun y137 => (if y134.length + y137.length < 5864062014805 then ((some (y134 ++ y137 : List (S71))).bind fun y141 => (if y141.length < 5864062014805 then ((some (y141 ++ [(⟨a1, a2⟩ : S71)] : List (S71))).bind fun y144 => (if y144.length + y108.length < 5864062014805 then (some (y144 ++ y108)) else (none))) else (none))) else (none)))))) = some r := by first | (rw [hy108]; with_reducible exact H) | (have H2_ := (Option.bind_some _ _).symm.trans H; rw [hy108]; with_reducible exact H2_) | (have H2_ := (Option.bind_some _ _).symm.trans H; with_reducible exact H2_) | with_reducible exact H | (rw [hy108]; exact H) | exact H
      have Ny108 := Aside0.mk hy108
      clear hy108
      replace H := Option.bind_eq_some_iff.mp H
      obtain ⟨⟨t112, t113⟩, A70, H⟩ := H
      replace H : (if t113 = true then (if 0 ≤ (wrap64 (t107 + 1)) then (if (wrap64 (t107 + 1)) ≤ (l0.length : Int) then ((some (l0.drop ((wrap64 (t107 + 1)) : Int).toNat : List (S71))).bind fun y114 => ((some (([] : List (S71)) : List (S71))).bind fun y118 => ((some (l0.take (t107 : Int).toNat : List (S71))).bind fun y121 => (if y118.length + y121.length < 5864062014805 then ((some (y118 ++ y121 : List (S71))).bind fun y125 => (if y125.length < 5864062014805 then ((some (y125 ++ [(⟨a1, a2⟩ : S71)] : List (S71))).bind fun y128 => (if y128.length + y114.length < 5864062014805 then (some (y128 ++ y114)) else (none))) else (none))) else (none))))) else (none)) else (none)) else ((some (([] : List (S71)) : List (S71))).bind fun y134 => ((some (l0.take (t107 : Int).toNat : List (S71))).bind fun y137 => (if y134.length + y137.length < 5864062014805 then ((some (y134 ++ y137 : List (S71))).bind fun y141 => (if y141.length < 5864062014805 then ((some (y141 ++ [(⟨a1, a2⟩ : S71)] : List (S71))).bind fun y144 => (if y144.length + y108.length < 5864062014805 then (some (y144 ++ y108)) else (none))) else (none))) else (none))))) = some r := H
      have A7 := Aside0.mk A70
      clear A70
      by_cases c8 : t113 = true
      · subst c8
        have H1 : (if 0 ≤ (wrap64 (t107 + 1)) then (if (wrap64 (t107 + 1)) ≤ (l0.length : Int) then ((some (l0.drop ((wrap64 (t107 + 1)) : Int).toNat : List (S71))).bind fun y114 => ((some (([] : List (S71)) : List (S71))).bind fun y118 => ((some (l0.take (t107 : Int).toNat : List (S71))).bind fun y121 => (if y118.length + y121.length < 5864062014805 then ((some (y118 ++ y121 : List (S71))).bind fun y125 => (if y125.length < 5864062014805 then ((some (y125 ++ [(⟨a1, a2⟩ : S71)] : List (S71))).bind fun y128 => (if y128.length + y114.length < 5864062014805 then (some (y128 ++ y114)) else (none))) else (none))) else (none))))) else (none)) else (none)) = some r := by rw [if_pos rfl] at H; exact H
        clear H
        have H := H1
        clear H1
        obtain ⟨ji9, hji9⟩ : ∃ j_ : Int, (wrap64 (t107 + 1)) = j_ := ⟨_, rfl⟩
        replace H : (if 0 ≤ (ji9) then (if (ji9) ≤ (l0.length : Int) then ((some (l0.drop ((ji9) : Int).toNat : List (S71))).bind fun y114 => ((some (([] : List (S71)) : List (S71))).bind fun y118 => ((some (l0.take (t107 : Int).toNat : List (S71))).bind fun y121 => (if y118.length + y121.length < 5864062014805 then ((some (y118 ++ y121 : List (S71))).bind fun y125 => (if y125.length < 5864062014805 then ((some (y125 ++ [(⟨a1, a2⟩ : S71)] : List (S71))).bind fun y128 => (if y128.length + y114.length < 5864062014805 then (some (y128 ++ y114)) else (none))) else (none))) else (none))))) else (none)) else (none)) = some r := by first | (rw [hji9] at H; exact H) | (simp only [hji9] at H ⊢; exact H)
        (try rw [hji9] at A4)
        (try rw [hji9] at A7)
        have hji9w : (IntKind.i64.wrap (t107 + 1)) = ji9 := (i64_w _).trans hji9
        by_cases c10 : 0 ≤ (ji9)
        · rw [if_pos c10] at H
          have c10b0 := eq_true c10
          have c10b1 : decide (0 ≤ (ji9)) = true := decide_eq_true c10
          clear c10
          by_cases c11 : (ji9) ≤ (l0.length : Int)
          · rw [if_pos c11] at H
            have c11b0 := eq_true c11
            have c11b1 : decide ((ji9) ≤ (l0.length : Int)) = true := decide_eq_true c11
            clear c11
            obtain ⟨y114, hy114⟩ : ∃ y_ : List (S71), y_ = (l0.drop ((ji9) : Int).toNat) := ⟨_, rfl⟩
            replace H : ((some (([] : List (S71)) : List (S71))).bind fun y118 => ((some (l0.take (t107 : Int).toNat : List (S71))).bind fun y121 => (if y118.length + y121.length < 5864062014805 then ((some (y118 ++ y121 : List (S71))).bind fun y125 => (if y125.length < 5864062014805 then ((some (y125 ++ [(⟨a1, a2⟩ : S71)] : List (S71))).bind fun y128 => (if y128.length + y114.length < 5864062014805 then (some (y128 ++ y114)) else (none))) else (none))) else (none)))) = some r := by first | (rw [hy114]; with_reducible exact H) | (have H2_ := (Option.bind_some _ _).symm.trans H; rw [hy114]; with_reducible exact H2_) | (have H2_ := (Option.bind_some _ _).symm.trans H; with_reducible exact H2_) | with_reducible exact H | (rw [hy114]; exact H) | exact H
            have Ny114 := Aside0.mk hy114
            clear hy114
            obtain ⟨y118, hy118⟩ : ∃ y_ : List (S71), y_ = (([] : List (S71))) := ⟨_, rfl⟩
            replace H : ((some (l0.take (t107 : Int).toNat : List (S71))).bind fun y121 => (if y118.length + y121.length < 5864062014805 then ((some (y118 ++ y121 : List (S71))).bind fun y125 => (if y125.length < 5864062014805 then ((some (y125 ++ [(⟨a1, a2⟩ : S71)] : List (S71))).bind fun y128 => (if y128.length + y114.length < 5864062014805 then (some (y128 ++ y114)) else (none))) else (none))) else (none))) = some r := by first | (rw [hy118]; with_reducible exact H) | (have H2_ := (Option.bind_some _ _).symm.trans H; rw [hy118]; with_reducible exact H2_) | (have H2_ := (Option.bind_some _ _).symm.trans H; with_reducible exact H2_) | with_reducible exact H | (rw [hy118]; exact H) | exact H
            have Ny118 := Aside0.mk hy118
            clear hy118
            have c12b0 := eq_true (of_decide_eq_true (by first | (with_reducible assumption) | assumption) : 0 ≤ t107)
            have c13b0 := eq_true (of_decide_eq_true (by first | (with_reducible assumption) | assumption) : t107 ≤ (l0.length : Int))
            obtain ⟨y121, hy121⟩ : ∃ y_ : List (S71), y_ = (l0.take (t107 : Int).toNat) := ⟨_, rfl⟩
            replace H : (if y118.length + y121.length < 5864062014805 then ((some (y118 ++ y121 : List (S71))).bind fun y125 => (if y125.length < 5864062014805 then ((some (y125 ++ [(⟨a1, a2⟩ : S71)] : List (S71))).bind fun y128 => (if y128.length + y114.length < 5864062014805 then (some (y128 ++ y114)) else (none))) else (none))) else (none)) = some r := by first | (rw [hy121]; with_reducible exact H) | (have H2_ := (Option.bind_some _ _).symm.trans H; rw [hy121]; with_reducible exact H2_) | (have H2_ := (Option.bind_some _ _).symm.trans H; with_reducible exact H2_) | with_reducible exact H | (rw [hy121]; exact H) | exact H
            have Ny121 := Aside0.mk hy121
            clear hy121
            by_cases c14 : y118.length + y121.length < 5864062014805
            · rw [if_pos c14] at H
              have LMc14 := Aside0.mk c14
              clear c14
              obtain ⟨y125, hy125⟩ : ∃ y_ : List (S71), y_ = (y118 ++ y121) := ⟨_, rfl⟩
              replace H : (if y125.length < 5864062014805 then ((some (y125 ++ [(⟨a1, a2⟩ : S71)] : List (S71))).bind fun y128 => (if y128.length + y114.length < 5864062014805 then (some (y128 ++ y114)) else (none))) else (none)) = some r := by first | (rw [hy125]; with_reducible exact H) | (have H2_ := (Option.bind_some _ _).symm.trans H; rw [hy125]; with_reducible exact H2_) | (have H2_ := (Option.bind_some _ _).symm.trans H; with_reducible exact H2_) | with_reducible exact H | (rw [hy125]; exact H) | exact H
              have Ny125 := Aside0.mk hy125
              clear hy125
              by_cases c15 : y125.length < 5864062014805
              · rw [if_pos c15] at H
                have LMc15 := Aside0.mk c15
                clear c15
                obtain ⟨y128, hy128⟩ : ∃ y_ : List (S71), y_ = (y125 ++ [(⟨a1, a2⟩ : S71)]) := ⟨_, rfl⟩
                replace H : (if y128.length + y114.length < 5864062014805 then (some (y128 ++ y114)) else (none)) = some r := by first | (rw [hy128]; with_reducible exact H) | (have H2_ := (Option.bind_some _ _).symm.trans H; rw [hy128]; with_reducible exact H2_) | (have H2_ := (Option.bind_some _ _).symm.trans H; with_reducible exact H2_) | with_reducible exact H | (rw [hy128]; exact H) | exact H
                have Ny128 := Aside0.mk hy128
                clear hy128
                by_cases c16 : y128.length + y114.length < 5864062014805
                · rw [if_pos c16] at H
                  have LMc16 := Aside0.mk c16
                  clear c16
                  obtain ⟨y131, hy131⟩ : ∃ y_ : List (S71), y_ = (y128 ++ y114) := ⟨_, rfl⟩
                  replace H : (some y131) = some r := by first | (rw [hy131]; with_reducible exact H) | (have H2_ := (Option.bind_some _ _).symm.trans H; rw [hy131]; with_reducible exact H2_) | (have H2_ := (Option.bind_some _ _).symm.trans H; with_reducible exact H2_) | with_reducible exact H | (rw [hy131]; exact H) | exact H
                  have Ny131 := Aside0.mk hy131
                  clear hy131
                  obtain rfl := Option.some.inj H
                  go_enter Try.func16, Try.ntmps16
                  go_wp2_with (first | ((with_reducible refine gate_callee (f := 19) rfl ?_); refine goesL_ (some 13) rfl rfl Try.func19 (by kernel_rfl) rfl #[.slice A0 l0.length c0, .string a1] rfl (by (try simp only [List.map_toArray, List.map_cons, List.map_nil]); first | done | rfl | (simp only [List.length_drop, List.length_take]; rfl)) ?_; (with_reducible refine (stileref15_Rank.calls k _ _ l0 a1 t107 _ ?side1 ?side2 A4.out).mono ?_); (case side1 => repeat (first | exact HR0.out | (with_reducible refine Kd.C_alloc ?_ _) | (with_reducible refine Kd.C_drewN ?_ _) | (with_reducible refine Kd.C_drew ?_))); (case side2 => exact HC0.out); rintro e w' ⟨rfl, ⟨nd, rfl⟩⟩; refine ⟨_, rfl, ?_⟩; have q17 : (t107 : Int) ≤ ((l0.length : Int) : Int) := of_decide_eq_true (by first | (with_reducible assumption) | assumption); obtain ⟨i017, hi017, _, hsz17, _⟩ := info_parts info71; have hroom17 : l0.length ≤ c0 := HC0.out; have hC17 : Kd.C k71 _ A0 l0.length l0 := HR0.out; have q017 : (0 : Int) ≤ (t107 : Int) := of_decide_eq_true (by first | (with_reducible assumption) | assumption); have hcut17 := cut_from (P := Try.prog) 39 71 .i64 Try.underlying39 hi017 2 hsz17 A0 l0.length c0 t107 q017 q17; have hr17 := Kd.C_drop (m := (t107 : Int).toNat) (c := c0) hC17 (by omega) hroom17; obtain ⟨A17, hA17⟩ : ∃ A1, A1 = (if c0 = (t107 : Int).toNat then A0 else (A0 : Option Addr).map (·.add ((t107 : Int).toNat * 2))) := ⟨_, rfl⟩; obtain ⟨c17, hc17⟩ : ∃ c1, c1 = c0 - (t107 : Int).toNat := ⟨_, rfl⟩; have hy17 : y108.length = l0.length - (t107 : Int).toNat := (by rw [Ny108.out, List.length_drop] <;> omega); rw [show (l0).drop (t107 : Int).toNat = y108 from Ny108.out.symm] at hr17; replace hr17 : Kd.C k71 _ A17 y108.length y108 := (by rw [hA17]; exact hr17); rw [← hy17, ← hA17, ← hc17] at hcut17; have HR111 := Aside0.mk hr17; have HC111 := Aside0.mk (show y108.length ≤ c17 from by rw [hy17, hc17]; exact Nat.sub_le_sub_right hroom17 _); clear hr17 hC17 hroom17 hi017 hsz17 hc17; have KY17 := Aside0.mk hy17; have KA17 := Aside0.mk hA17; clear hy17 hA17; replace q17 := eq_true q17) | ((with_reducible refine gate_callee (f := 15) rfl ?_); refine goesL_ (some 20) rfl rfl Try.func15 (by kernel_rfl) rfl #[.slice A0 l0.length c0, .string a1] rfl (by (try simp only [List.map_toArray, List.map_cons, List.map_nil]); first | done | rfl | (simp only [List.length_drop, List.length_take]; rfl)) ?_; (with_reducible refine (stileref15_Get.calls k _ _ l0 a1 t112 true _ ?side1 ?side2 A7.out).mono ?_); (case side1 => repeat (first | exact HR0.out | (with_reducible refine Kd.C_alloc ?_ _) | (with_reducible refine Kd.C_drewN ?_ _) | (with_reducible refine Kd.C_drew ?_))); (case side2 => exact HC0.out); rintro e w' ⟨rfl, ⟨nd, rfl⟩⟩; refine ⟨_, rfl, ?_⟩; have q18 : ((ji9) : Int) ≤ ((l0.length : Int) : Int) := of_decide_eq_true (by first | (with_reducible assumption) | assumption); obtain ⟨i018, hi018, _, hsz18, _⟩ := info_parts info71; have hroom18 : l0.length ≤ c0 := HC0.out; have hC18 : Kd.C k71 _ A0 l0.length l0 := HR0.out; have q018 : (0 : Int) ≤ ((ji9) : Int) := of_decide_eq_true (by first | (with_reducible assumption) | assumption); have hcut18 := cut_from (P := Try.prog) 39 71 .i64 Try.underlying39 hi018 2 hsz18 A0 l0.length c0 (ji9) q018 q18; have hr18 := Kd.C_drop (m := ((ji9) : Int).toNat) (c := c0) hC18 (by omega) hroom18; obtain ⟨A18, hA18⟩ : ∃ A1, A1 = (if c0 = ((ji9) : Int).toNat then A0 else (A0 : Option Addr).map (·.add (((ji9) : Int).toNat * 2))) := ⟨_, rfl⟩; obtain ⟨c18, hc18⟩ : ∃ c1, c1 = c0 - ((ji9) : Int).toNat := ⟨_, rfl⟩; have hy18 : y114.length = l0.length - ((ji9) : Int).toNat := (by rw [Ny114.out, List.length_drop] <;> omega); rw [show (l0).drop ((ji9) : Int).toNat = y114 from Ny114.out.symm] at hr18; replace hr18 : Kd.C k71 _ A18 y114.length y114 := (by rw [hA18]; exact hr18); rw [← hy18, ← hA18, ← hc18] at hcut18; have HR117 := Aside0.mk hr18; have HC117 := Aside0.mk (show y114.length ≤ c18 from by rw [hy18, hc18]; exact Nat.sub_le_sub_right hroom18 _); clear hr18 hC18 hroom18 hi018 hsz18 hc18; have KY18 := Aside0.mk hy18; have KA18 := Aside0.mk hA18; clear hy18 hA18; replace q18 := eq_true q18) | ((with_reducible refine gate_dst (N := 28) rfl ?_); refine Kd.R_lit k71 _ 71 ?hg (N := 28) ?hd (xs := ([] : List (S71))) (inner := []) (ok := fun _ => True) (okp := fun _ => True) ?hr ?hp (fun _ hk => hk) trivial (Below.refl _ _) (Nat.le_refl _) (by simp) ?_; (case hd => rfl); (case hg => rfl); (case hr => first | (go_simp; done) | (go_simp; rfl)); (case hp => exact (Reps.none _ _)); intro v119 w19 ho20 hb hg_ hnew_; clear hg_ hnew_; (first | rw [← Ny118.out] at ho20 | (simp only [Int.reduceToNat] at ho20; rw [← Ny118.out] at ho20)); have n0_ := Aside0.mk (Kd.R_lower ho20 (below_size (by repeat (first | (with_reducible first | exact HB.out | apply below_alloc | apply pw_below_drewN | apply below_drew1) | exact HB.out)))); have n1_ := Aside0.mk (below_step (by repeat (first | (with_reducible first | exact HB.out | apply below_alloc | apply pw_below_drewN | apply below_drew1) | exact HB.out)) hb); clear HB; have HO120 := n0_; have HB := n1_; clear n0_ n1_; clear hb ho20; have q21 : (t107 : Int) ≤ ((l0.length : Int) : Int) := of_decide_eq_true (by first | (with_reducible assumption) | assumption); obtain ⟨i021, hi021, _, hsz21, _⟩ := info_parts info71; have hroom21 : l0.length ≤ c0 := HC0.out; have hC21 : Kd.C k71 _ A0 l0.length l0 := HR0.out; have hcut21 := cut_to (P := Try.prog) 39 71 .i64 Try.underlying39 hi021 A0 l0.length c0 t107 (of_decide_eq_true (by first | (with_reducible assumption) | assumption)) q21 hroom21; have hr21 := Kd.C_take (m := (t107 : Int).toNat) hC21 (by omega); have hy21 : y121.length = (t107 : Int).toNat := (by rw [Ny121.out, List.length_take]; omega); rw [← Ny121.out] at hr21; rw [← hy21] at hcut21; have HR124 := Aside0.mk hr21; have HC124 := Aside0.mk (show y121.length ≤ c0 from by omega); clear hr21 hC21 hroom21 hi021 hsz21; have KY21 := Aside0.mk hy21; clear hy21; replace q21 := eq_true q21) | ((with_reducible refine gate_builtin (b := .append) (xs := #[.tmp 28, .tmp 31]) rfl ?_); at_builtin; refine Kd.R_append_rows k71 (w0 := w) w.heap.size rfl (.tmp 28) (.tmp 31) 39 71 (.agg #[(.string ⟨#[]⟩), (.int .i64 0)]) 24 rfl Try.underlying39 info71 rfl (by decide) (by omega) v119 y118 y121 _ _ _ (fun _ => True) (fun _ => False) rfl rfl ?aO ?aR (fun _ _ h => h) (fun _ h => h.elim) ?aF ?aB ?aS ?aL ?_; (case aR => repeat (first | exact (Kd.C_below HR124.out HB.out) | (with_reducible refine Kd.C_alloc ?_ _) | (with_reducible refine Kd.C_drewN ?_ _) | (with_reducible refine Kd.C_drew ?_))); (case aB => exact (by repeat (first | (with_reducible first | exact HB.out | apply below_alloc | apply pw_below_drewN | apply below_drew1) | exact HB.out))); (case aF => exact (fun _ _ => trivial)); (case aO => exact (by (with_reducible repeat (first | apply Kd.R_alloc | apply Kd.R_drewN | apply Kd.R_drew)); exact HO120.out)); (case aS => exact (below_size (by repeat (first | (with_reducible first | exact HB.out | apply below_alloc | apply pw_below_drewN | apply below_drew1) | exact HB.out)))); (case aL => have := LMc14.out; omega); intro v126 w22 ho hb hg hat; rw [← Ny125.out] at ho; have n0_ := Aside0.mk (hb); have n1_ := Aside0.mk (ho); clear HB; clear HO120; have HB := n0_; have HO127 := n1_; clear n0_ n1_; clear ho hb hg hat) | ((with_reducible refine gate_builtin (b := .append) (xs := #[.tmp 32, .tmp 36]) rfl ?_); at_builtin; refine Kd.R_append k71 (w0 := w) w.heap.size rfl (.tmp 32) (.tmp 36) 39 71 (.agg #[(.string ⟨#[]⟩), (.int .i64 0)]) 24 rfl Try.underlying39 info71 rfl (by decide) (by omega) v126 y125 (⟨a1, a2⟩ : S71) [.string a1, .int .i64 a2] (fun _ => True) (fun _ => False) rfl rfl ?aP (fun _ hk => hk.elim) ?aF ?aO ?aB ?aS ?aL ?_; (case aP => exact k71_mkM _ _ _ (⟨a1, a2⟩ : S71)); (case aB => exact (by repeat (first | (with_reducible first | exact HB.out | apply below_alloc | apply pw_below_drewN | apply below_drew1) | exact HB.out))); (case aF => exact (fun _ _ => trivial)); (case aO => exact (by (with_reducible repeat (first | apply Kd.R_alloc | apply Kd.R_drewN | apply Kd.R_drew)); exact HO127.out)); (case aS => exact (below_size (by repeat (first | (with_reducible first | exact HB.out | apply below_alloc | apply pw_below_drewN | apply below_drew1) | exact HB.out)))); (case aL => have := LMc15.out; omega); intro v129 w23 ho hb hg hat; rw [← Ny128.out] at ho; have n0_ := Aside0.mk (hb); have n1_ := Aside0.mk (ho); clear HB; clear HO127; have HB := n0_; have HO130 := n1_; clear n0_ n1_; clear ho hb hg hat) | ((with_reducible refine gate_builtin (b := .append) (xs := #[.tmp 37, .tmp 38]) rfl ?_); at_builtin; refine Kd.R_append_rows k71 (w0 := w) w.heap.size rfl (.tmp 37) (.tmp 38) 39 71 (.agg #[(.string ⟨#[]⟩), (.int .i64 0)]) 24 rfl Try.underlying39 info71 rfl (by decide) (by omega) v129 y128 y114 _ _ _ (fun _ => True) (fun _ => False) rfl rfl ?aO ?aR (fun _ _ h => h) (fun _ h => h.elim) ?aF ?aB ?aS ?aL ?_; (case aR => repeat (first | exact (Kd.C_below HR117.out HB.out) | (with_reducible refine Kd.C_alloc ?_ _) | (with_reducible refine Kd.C_drewN ?_ _) | (with_reducible refine Kd.C_drew ?_))); (case aB => exact (by repeat (first | (with_reducible first | exact HB.out | apply below_alloc | apply pw_below_drewN | apply below_drew1) | exact HB.out))); (case aF => exact (fun _ _ => trivial)); (case aO => exact (by (with_reducible repeat (first | apply Kd.R_alloc | apply Kd.R_drewN | apply Kd.R_drew)); exact HO130.out)); (case aS => exact (below_size (by repeat (first | (with_reducible first | exact HB.out | apply below_alloc | apply pw_below_drewN | apply below_drew1) | exact HB.out)))); (case aL => have := LMc16.out; omega); intro v132 w24 ho hb hg hat; rw [← Ny131.out] at ho; have n0_ := Aside0.mk (hb); have n1_ := Aside0.mk (ho); clear HB; clear HO130; have HB := n0_; have HO133 := n1_; clear n0_ n1_; clear ho hb hg hat))
                  go_ret
                  exact ⟨_, by first | rfl | (simp [errW_none, errW_some] <;> rfl) | (simp only [← hji9]; first | rfl | (simp [errW_none, errW_some] <;> rfl)) | (simp [*, errW_none, errW_some] <;> rfl), by (with_reducible repeat (first | apply Kd.R_alloc | apply Kd.R_drewN | apply Kd.R_drew)); exact HO133.out, by repeat (first | (with_reducible first | exact HB.out | apply below_alloc | apply pw_below_drewN | apply below_drew1) | exact HB.out)⟩
                · rw [if_neg c16] at H
                  exact absurd H (by simp)
              · rw [if_neg c15] at H
                exact absurd H (by simp)
            · rw [if_neg c14] at H
              exact absurd H (by simp)
          · rw [if_neg c11] at H
            exact absurd H (by simp)
        · rw [if_neg c10] at H
          exact absurd H (by simp)
      · replace c8 := Bool.eq_false_iff.mpr c8
        subst c8
        have H1 : ((some (([] : List (S71)) : List (S71))).bind fun y134 => ((some (l0.take (t107 : Int).toNat : List (S71))).bind fun y137 => (if y134.length + y137.length < 5864062014805 then ((some (y134 ++ y137 : List (S71))).bind fun y141 => (if y141.length < 5864062014805 then ((some (y141 ++ [(⟨a1, a2⟩ : S71)] : List (S71))).bind fun y144 => (if y144.length + y108.length < 5864062014805 then (some (y144 ++ y108)) else (none))) else (none))) else (none)))) = some r := by rw [if_neg (show ¬ (false = true) by decide)] at H; exact H
        clear H
        have H := H1
        clear H1
        obtain ⟨y134, hy134⟩ : ∃ y_ : List (S71), y_ = (([] : List (S71))) := ⟨_, rfl⟩
        replace H : ((some (l0.take (t107 : Int).toNat : List (S71))).bind fun y137 => (if y134.length + y137.length < 5864062014805 then ((some (y134 ++ y137 : List (S71))).bind fun y141 => (if y141.length < 5864062014805 then ((some (y141 ++ [(⟨a1, a2⟩ : S71)] : List (S71))).bind fun y144 => (if y144.length + y108.length < 5864062014805 then (some (y144 ++ y108)) else (none))) else (none))) else (none))) = some r := by first | (rw [hy134]; with_reducible exact H) | (have H2_ := (Option.bind_some _ _).symm.trans H; rw [hy134]; with_reducible exact H2_) | (have H2_ := (Option.bind_some _ _).symm.trans H; with_reducible exact H2_) | with_reducible exact H | (rw [hy134]; exact H) | exact H
        have Ny134 := Aside0.mk hy134
        clear hy134
        have c25b0 := eq_true (of_decide_eq_true (by first | (with_reducible assumption) | assumption) : 0 ≤ t107)
        have c26b0 := eq_true (of_decide_eq_true (by first | (with_reducible assumption) | assumption) : t107 ≤ (l0.length : Int))
        obtain ⟨y137, hy137⟩ : ∃ y_ : List (S71), y_ = (l0.take (t107 : Int).toNat) := ⟨_, rfl⟩
        replace H : (if y134.length + y137.length < 5864062014805 then ((some (y134 ++ y137 : List (S71))).bind fun y141 => (if y141.length < 5864062014805 then ((some (y141 ++ [(⟨a1, a2⟩ : S71)] : List (S71))).bind fun y144 => (if y144.length + y108.length < 5864062014805 then (some (y144 ++ y108)) else (none))) else (none))) else (none)) = some r := by first | (rw [hy137]; with_reducible exact H) | (have H2_ := (Option.bind_some _ _).symm.trans H; rw [hy137]; with_reducible exact H2_) | (have H2_ := (Option.bind_some _ _).symm.trans H; with_reducible exact H2_) | with_reducible exact H | (rw [hy137]; exact H) | exact H
        have Ny137 := Aside0.mk hy137
        clear hy137
        by_cases c27 : y134.length + y137.length < 5864062014805
        · rw [if_pos c27] at H
          have LMc27 := Aside0.mk c27
          clear c27
          obtain ⟨y141, hy141⟩ : ∃ y_ : List (S71), y_ = (y134 ++ y137) := ⟨_, rfl⟩
          replace H : (if y141.length < 5864062014805 then ((some (y141 ++ [(⟨a1, a2⟩ : S71)] : List (S71))).bind fun y144 => (if y144.length + y108.length < 5864062014805 then (some (y144 ++ y108)) else (none))) else (none)) = some r := by first | (rw [hy141]; with_reducible exact H) | (have H2_ := (Option.bind_some _ _).symm.trans H; rw [hy141]; with_reducible exact H2_) | (have H2_ := (Option.bind_some _ _).symm.trans H; with_reducible exact H2_) | with_reducible exact H | (rw [hy141]; exact H) | exact H
          have Ny141 := Aside0.mk hy141
          clear hy141
          by_cases c28 : y141.length < 5864062014805
          · rw [if_pos c28] at H
            have LMc28 := Aside0.mk c28
            clear c28
            obtain ⟨y144, hy144⟩ : ∃ y_ : List (S71), y_ = (y141 ++ [(⟨a1, a2⟩ : S71)]) := ⟨_, rfl⟩
            replace H : (if y144.length + y108.length < 5864062014805 then (some (y144 ++ y108)) else (none)) = some r := by first | (rw [hy144]; with_reducible exact H) | (have H2_ := (Option.bind_some _ _).symm.trans H; rw [hy144]; with_reducible exact H2_) | (have H2_ := (Option.bind_some _ _).symm.trans H; with_reducible exact H2_) | with_reducible exact H | (rw [hy144]; exact H) | exact H
            have Ny144 := Aside0.mk hy144
            clear hy144
            by_cases c29 : y144.length + y108.length < 5864062014805
            · rw [if_pos c29] at H
              have LMc29 := Aside0.mk c29
              clear c29
              obtain ⟨y147, hy147⟩ : ∃ y_ : List (S71), y_ = (y144 ++ y108) := ⟨_, rfl⟩
              replace H : (some y147) = some r := by first | (rw [hy147]; with_reducible exact H) | (have H2_ := (Option.bind_some _ _).symm.trans H; rw [hy147]; with_reducible exact H2_) | (have H2_ := (Option.bind_some _ _).symm.trans H; with_reducible exact H2_) | with_reducible exact H | (rw [hy147]; exact H) | exact H
              have Ny147 := Aside0.mk hy147
              clear hy147
              obtain rfl := Option.some.inj H
              go_enter Try.func16, Try.ntmps16
              go_wp2_with (first | ((with_reducible refine gate_callee (f := 19) rfl ?_); refine goesL_ (some 13) rfl rfl Try.func19 (by kernel_rfl) rfl #[.slice A0 l0.length c0, .string a1] rfl (by (try simp only [List.map_toArray, List.map_cons, List.map_nil]); first | done | rfl | (simp only [List.length_drop, List.length_take]; rfl)) ?_; (with_reducible refine (stileref15_Rank.calls k _ _ l0 a1 t107 _ ?side1 ?side2 A4.out).mono ?_); (case side1 => repeat (first | exact HR0.out | (with_reducible refine Kd.C_alloc ?_ _) | (with_reducible refine Kd.C_drewN ?_ _) | (with_reducible refine Kd.C_drew ?_))); (case side2 => exact HC0.out); rintro e w' ⟨rfl, ⟨nd, rfl⟩⟩; refine ⟨_, rfl, ?_⟩; have q30 : (t107 : Int) ≤ ((l0.length : Int) : Int) := of_decide_eq_true (by first | (with_reducible assumption) | assumption); obtain ⟨i030, hi030, _, hsz30, _⟩ := info_parts info71; have hroom30 : l0.length ≤ c0 := HC0.out; have hC30 : Kd.C k71 _ A0 l0.length l0 := HR0.out; have q030 : (0 : Int) ≤ (t107 : Int) := of_decide_eq_true (by first | (with_reducible assumption) | assumption); have hcut30 := cut_from (P := Try.prog) 39 71 .i64 Try.underlying39 hi030 2 hsz30 A0 l0.length c0 t107 q030 q30; have hr30 := Kd.C_drop (m := (t107 : Int).toNat) (c := c0) hC30 (by omega) hroom30; obtain ⟨A30, hA30⟩ : ∃ A1, A1 = (if c0 = (t107 : Int).toNat then A0 else (A0 : Option Addr).map (·.add ((t107 : Int).toNat * 2))) := ⟨_, rfl⟩; obtain ⟨c30, hc30⟩ : ∃ c1, c1 = c0 - (t107 : Int).toNat := ⟨_, rfl⟩; have hy30 : y108.length = l0.length - (t107 : Int).toNat := (by rw [Ny108.out, List.length_drop] <;> omega); rw [show (l0).drop (t107 : Int).toNat = y108 from Ny108.out.symm] at hr30; replace hr30 : Kd.C k71 _ A30 y108.length y108 := (by rw [hA30]; exact hr30); rw [← hy30, ← hA30, ← hc30] at hcut30; have HR111 := Aside0.mk hr30; have HC111 := Aside0.mk (show y108.length ≤ c30 from by rw [hy30, hc30]; exact Nat.sub_le_sub_right hroom30 _); clear hr30 hC30 hroom30 hi030 hsz30 hc30; have KY30 := Aside0.mk hy30; have KA30 := Aside0.mk hA30; clear hy30 hA30; replace q30 := eq_true q30) | ((with_reducible refine gate_callee (f := 15) rfl ?_); refine goesL_ (some 20) rfl rfl Try.func15 (by kernel_rfl) rfl #[.slice A0 l0.length c0, .string a1] rfl (by (try simp only [List.map_toArray, List.map_cons, List.map_nil]); first | done | rfl | (simp only [List.length_drop, List.length_take]; rfl)) ?_; (with_reducible refine (stileref15_Get.calls k _ _ l0 a1 t112 false _ ?side1 ?side2 A7.out).mono ?_); (case side1 => repeat (first | exact HR0.out | (with_reducible refine Kd.C_alloc ?_ _) | (with_reducible refine Kd.C_drewN ?_ _) | (with_reducible refine Kd.C_drew ?_))); (case side2 => exact HC0.out); rintro e w' ⟨rfl, ⟨nd, rfl⟩⟩; refine ⟨_, rfl, ?_⟩) | ((with_reducible refine gate_dst (N := 28) rfl ?_); refine Kd.R_lit k71 _ 71 ?hg (N := 28) ?hd (xs := ([] : List (S71))) (inner := []) (ok := fun _ => True) (okp := fun _ => True) ?hr ?hp (fun _ hk => hk) trivial (Below.refl _ _) (Nat.le_refl _) (by simp) ?_; (case hd => rfl); (case hg => rfl); (case hr => first | (go_simp; done) | (go_simp; rfl)); (case hp => exact (Reps.none _ _)); intro v135 w31 ho32 hb hg_ hnew_; clear hg_ hnew_; (first | rw [← Ny134.out] at ho32 | (simp only [Int.reduceToNat] at ho32; rw [← Ny134.out] at ho32)); have n0_ := Aside0.mk (Kd.R_lower ho32 (below_size (by repeat (first | (with_reducible first | exact HB.out | apply below_alloc | apply pw_below_drewN | apply below_drew1) | exact HB.out)))); have n1_ := Aside0.mk (below_step (by repeat (first | (with_reducible first | exact HB.out | apply below_alloc | apply pw_below_drewN | apply below_drew1) | exact HB.out)) hb); clear HB; have HO136 := n0_; have HB := n1_; clear n0_ n1_; clear hb ho32; have q33 : (t107 : Int) ≤ ((l0.length : Int) : Int) := of_decide_eq_true (by first | (with_reducible assumption) | assumption); obtain ⟨i033, hi033, _, hsz33, _⟩ := info_parts info71; have hroom33 : l0.length ≤ c0 := HC0.out; have hC33 : Kd.C k71 _ A0 l0.length l0 := HR0.out; have hcut33 := cut_to (P := Try.prog) 39 71 .i64 Try.underlying39 hi033 A0 l0.length c0 t107 (of_decide_eq_true (by first | (with_reducible assumption) | assumption)) q33 hroom33; have hr33 := Kd.C_take (m := (t107 : Int).toNat) hC33 (by omega); have hy33 : y137.length = (t107 : Int).toNat := (by rw [Ny137.out, List.length_take]; omega); rw [← Ny137.out] at hr33; rw [← hy33] at hcut33; have HR140 := Aside0.mk hr33; have HC140 := Aside0.mk (show y137.length ≤ c0 from by omega); clear hr33 hC33 hroom33 hi033 hsz33; have KY33 := Aside0.mk hy33; clear hy33; replace q33 := eq_true q33) | ((with_reducible refine gate_builtin (b := .append) (xs := #[.tmp 28, .tmp 31]) rfl ?_); at_builtin; refine Kd.R_append_rows k71 (w0 := w) w.heap.size rfl (.tmp 28) (.tmp 31) 39 71 (.agg #[(.string ⟨#[]⟩), (.int .i64 0)]) 24 rfl Try.underlying39 info71 rfl (by decide) (by omega) v135 y134 y137 _ _ _ (fun _ => True) (fun _ => False) rfl rfl ?aO ?aR (fun _ _ h => h) (fun _ h => h.elim) ?aF ?aB ?aS ?aL ?_; (case aR => repeat (first | exact (Kd.C_below HR140.out HB.out) | (with_reducible refine Kd.C_alloc ?_ _) | (with_reducible refine Kd.C_drewN ?_ _) | (with_reducible refine Kd.C_drew ?_))); (case aB => exact (by repeat (first | (with_reducible first | exact HB.out | apply below_alloc | apply pw_below_drewN | apply below_drew1) | exact HB.out))); (case aF => exact (fun _ _ => trivial)); (case aO => exact (by (with_reducible repeat (first | apply Kd.R_alloc | apply Kd.R_drewN | apply Kd.R_drew)); exact HO136.out)); (case aS => exact (below_size (by repeat (first | (with_reducible first | exact HB.out | apply below_alloc | apply pw_below_drewN | apply below_drew1) | exact HB.out)))); (case aL => have := LMc27.out; omega); intro v142 w34 ho hb hg hat; rw [← Ny141.out] at ho; have n0_ := Aside0.mk (hb); have n1_ := Aside0.mk (ho); clear HB; clear HO136; have HB := n0_; have HO143 := n1_; clear n0_ n1_; clear ho hb hg hat) | ((with_reducible refine gate_builtin (b := .append) (xs := #[.tmp 32, .tmp 36]) rfl ?_); at_builtin; refine Kd.R_append k71 (w0 := w) w.heap.size rfl (.tmp 32) (.tmp 36) 39 71 (.agg #[(.string ⟨#[]⟩), (.int .i64 0)]) 24 rfl Try.underlying39 info71 rfl (by decide) (by omega) v142 y141 (⟨a1, a2⟩ : S71) [.string a1, .int .i64 a2] (fun _ => True) (fun _ => False) rfl rfl ?aP (fun _ hk => hk.elim) ?aF ?aO ?aB ?aS ?aL ?_; (case aP => exact k71_mkM _ _ _ (⟨a1, a2⟩ : S71)); (case aB => exact (by repeat (first | (with_reducible first | exact HB.out | apply below_alloc | apply pw_below_drewN | apply below_drew1) | exact HB.out))); (case aF => exact (fun _ _ => trivial)); (case aO => exact (by (with_reducible repeat (first | apply Kd.R_alloc | apply Kd.R_drewN | apply Kd.R_drew)); exact HO143.out)); (case aS => exact (below_size (by repeat (first | (with_reducible first | exact HB.out | apply below_alloc | apply pw_below_drewN | apply below_drew1) | exact HB.out)))); (case aL => have := LMc28.out; omega); intro v145 w35 ho hb hg hat; rw [← Ny144.out] at ho; have n0_ := Aside0.mk (hb); have n1_ := Aside0.mk (ho); clear HB; clear HO143; have HB := n0_; have HO146 := n1_; clear n0_ n1_; clear ho hb hg hat) | ((with_reducible refine gate_builtin (b := .append) (xs := #[.tmp 37, .tmp 38]) rfl ?_); at_builtin; refine Kd.R_append_rows k71 (w0 := w) w.heap.size rfl (.tmp 37) (.tmp 38) 39 71 (.agg #[(.string ⟨#[]⟩), (.int .i64 0)]) 24 rfl Try.underlying39 info71 rfl (by decide) (by omega) v145 y144 y108 _ _ _ (fun _ => True) (fun _ => False) rfl rfl ?aO ?aR (fun _ _ h => h) (fun _ h => h.elim) ?aF ?aB ?aS ?aL ?_; (case aR => repeat (first | exact (Kd.C_below HR111.out HB.out) | (with_reducible refine Kd.C_alloc ?_ _) | (with_reducible refine Kd.C_drewN ?_ _) | (with_reducible refine Kd.C_drew ?_))); (case aB => exact (by repeat (first | (with_reducible first | exact HB.out | apply below_alloc | apply pw_below_drewN | apply below_drew1) | exact HB.out))); (case aF => exact (fun _ _ => trivial)); (case aO => exact (by (with_reducible repeat (first | apply Kd.R_alloc | apply Kd.R_drewN | apply Kd.R_drew)); exact HO146.out)); (case aS => exact (below_size (by repeat (first | (with_reducible first | exact HB.out | apply below_alloc | apply pw_below_drewN | apply below_drew1) | exact HB.out)))); (case aL => have := LMc29.out; omega); intro v148 w36 ho hb hg hat; rw [← Ny147.out] at ho; have n0_ := Aside0.mk (hb); have n1_ := Aside0.mk (ho); clear HB; clear HO146; have HB := n0_; have HO149 := n1_; clear n0_ n1_; clear ho hb hg hat))
              go_ret
              exact ⟨_, by first | rfl | (simp [errW_none, errW_some] <;> rfl) | (simp [*, errW_none, errW_some] <;> rfl), by (with_reducible repeat (first | apply Kd.R_alloc | apply Kd.R_drewN | apply Kd.R_drew)); exact HO149.out, by repeat (first | (with_reducible first | exact HB.out | apply below_alloc | apply pw_below_drewN | apply below_drew1) | exact HB.out)⟩
            · rw [if_neg c29] at H
              exact absurd H (by simp)
          · rw [if_neg c28] at H
            exact absurd H (by simp)
        · rw [if_neg c27] at H
          exact absurd H (by simp)
    · rw [if_neg c6] at H
      exact absurd H (by simp)
  · rw [if_neg c5] at H
    exact absurd H (by simp)

-- NOT PRINTED: function 17 (hedge_Hedge_Drop)

/-! ### stileref15_Drop: function 18 -/
def stileref15_Drop.l0 : Nat → List (S71) → ByteArray → List (S71) → Int → Int → Option ((List (S71)))
  | 0, _, _, _, _, _ => none
  | k + 1, x0, x1, x5, x8, x9 => if x9 < x8 then (if 0 ≤ x9 then (if x9 < (x0.length : Int) then (if ((rd_T71 x0 x9).f0).toList = x1.toList then (stileref15_Drop.l0 k x0 x1 x5 x8 (wrap64 (x9 + 1))) else (if x5.length < 5864062014805 then (stileref15_Drop.l0 k x0 x1 (x5 ++ [(⟨(rd_T71 x0 x9).f0, (rd_T71 x0 x9).f1⟩ : S71)]) x8 (wrap64 (x9 + 1))) else (none))) else (none)) else (none)) else (some x5)
def stileref15_Drop.f (k : Nat) (l0 : List (S71)) (a1 : ByteArray) : Option ((List (S71))) := stileref15_Drop.l0 k l0 a1 ([] : List (S71)) (l0.length : Int) 0
theorem stileref15_Drop.mono_l : ∀ k, (∀ y0 y1 y2 y3 y4, LeO (stileref15_Drop.l0 k y0 y1 y2 y3 y4) (stileref15_Drop.l0 (k + 1) y0 y1 y2 y3 y4))
  | 0 => fun _ _ _ _ _ r h => by simp [stileref15_Drop.l0] at h
  | k + 1 => by
    have ih0 := stileref15_Drop.mono_l k
    · intro y0 y1 y2 y3 y4
      unfold stileref15_Drop.l0
      repeat' first
      | (with_reducible exact ih0 _ _ _ _ _)
      | (with_reducible exact LeO.refl _)
      | (with_reducible exact LeO.none _)
      | (with_reducible refine LeO.ite ?_ ?_)
      | (with_reducible refine LeO.bind ?_ (fun _ => ?_))
      | exact ih0 _ _ _ _ _
      | exact LeO.none _
      | refine LeO.ite ?_ ?_
      | refine LeO.bind ?_ (fun _ => ?_)
theorem stileref15_Drop.mono : ∀ a0 a1 k, LeO (stileref15_Drop.f k a0 a1) (stileref15_Drop.f (k + 1) a0 a1) := by
  intro a0 a1 k
  have ih0 := stileref15_Drop.mono_l k
  unfold stileref15_Drop.f
  repeat' first
      | (with_reducible exact ih0 _ _ _ _ _)
      | (with_reducible exact LeO.refl _)
      | (with_reducible exact LeO.none _)
      | (with_reducible refine LeO.ite ?_ ?_)
      | (with_reducible refine LeO.bind ?_ (fun _ => ?_))
      | exact ih0 _ _ _ _ _
      | exact LeO.none _
      | refine LeO.ite ?_ ?_
      | refine LeO.bind ?_ (fun _ => ?_)
set_option maxHeartbeats 8000000 in
set_option maxRecDepth 100000 in
theorem stileref15_Drop.calls (k : Nat) (A0 : Option Addr) (c0 : Nat) (l0 : List (S71)) (a1 : ByteArray) (r : List (S71)) (w : World) (hr0 : Kd.C k71 w A0 l0.length l0) (hc0 : l0.length ≤ c0) (h : stileref15_Drop.f k l0 a1 = some r) :
    Calls Try.prog 18 #[.slice A0 l0.length c0, .string a1] w fun e w' => ∃ v0_ : Value, e = .returned (v0_) ∧ Kd.R k71 71 w' w.heap.size (fun _ => True) v0_ r ∧ Below w.heap.size w w' := by
  have hu71 := Try.underlying71
  have HR0 := Aside0.mk hr0
  have HC0 := Aside0.mk hc0
  clear hr0 hc0
  have HB := Aside0.mk (Below.refl w.heap.size w)
  have H : (stileref15_Drop.l0 k l0 a1 ([] : List (S71)) (l0.length : Int) 0) = some r := h
  clear h
  have H' := Aside0.mk H
  clear H
  go_enter Try.func18, Try.ntmps18
  go_wp2
  go_loopg [5, 9] k (fun kq v5 v9 w' => ∃ (x5_1 : List (S71)) (x9_1 : Int), v9 = .int .i64 x9_1 ∧ Aside0 (stileref15_Drop.l0 kq l0 a1 x5_1 (l0.length : Int) x9_1 = some r) ∧ Aside0 (kq ≤ k) ∧ Aside0 (Kd.R k71 71 w' w.heap.size (fun _ => True) v5 x5_1) ∧ Aside0 (Below w.heap.size w w'))
  case atStart => exact ⟨(([] : List (S71))), (0), (by first | rfl | (simp; done) | (simp [*]; done)), H', ⟨Nat.le_refl _⟩, ⟨by first | exact Kd.R_nil _ _ _ _ _ | exact Kd.N_nil _ _ _ _ _ | exact Kd.V_nil _ _ _ _ _ | exact Kd.Q_nil _ _ _ _ _ | exact Kd.S_nil _ _ _ _ _⟩, ⟨by repeat (first | (with_reducible first | exact HB.out | apply below_alloc | apply pw_below_drewN | apply below_drew1) | exact HB.out)⟩⟩
  case round =>
    clear H'
    try clear c1
    try clear p2
    obtain ⟨x5_1, x9_1, rfl, HA, HK1, HO_5, HB⟩ := hrel
    cases gk with
    | zero => exact absurd HA.out (by simp [stileref15_Drop.l0])
    | succ k1 =>
      have H := HA.out
      clear HA
      simp only [stileref15_Drop.l0] at H
      by_cases c3 : x9_1 < (l0.length : Int)
      · rw [if_pos c3] at H
        have c3b0 : decide (x9_1 < (l0.length : Int)) = true := decide_eq_true c3
        clear c3
        by_cases c4 : 0 ≤ x9_1
        · rw [if_pos c4] at H
          have c4b0 : decide (0 ≤ x9_1) = true := decide_eq_true c4
          clear c4
          by_cases c5 : x9_1 < (l0.length : Int)
          · rw [if_pos c5] at H
            have c5b0 : decide (x9_1 < (l0.length : Int)) = true := decide_eq_true c5
            clear c5
            by_cases c6 : ((rd_T71 l0 x9_1).f0).toList = a1.toList
            · rw [if_pos c6] at H
              have c6b0 : (((rd_T71 l0 x9_1).f0).toList == a1.toList) = true := beq_iff_eq.mpr c6
              have c6b1 : (((rd_T71 l0 x9_1).f0).toList != a1.toList) = false := bne_eq_false_iff_eq.mpr c6
              clear c6
              have H' := Aside0.mk H
              clear H
              have p150 : 0 ≤ (x9_1 : Int) := of_decide_eq_true (by first | (with_reducible assumption) | assumption)
              have q150 : x9_1 < (l0.length : Int) := of_decide_eq_true (by first | (with_reducible assumption) | assumption)
              obtain ⟨ad150, e150, hx150_0, hx150_1⟩ := at_T71 HR0.out x9_1 p150 q150
              cases e150
              replace hx150_0 := (HB.out.cell (World.block_lt_of_cell? w _ hx150_0)).trans hx150_0
              replace hx150_1 := (HB.out.cell (World.block_lt_of_cell? w _ hx150_1)).trans hx150_1
              replace p150 := eq_true p150
              replace q150 := eq_true q150
              go_wp2
              go_roundg k1
              case measure => have := HK1.out; omega
              case rel => exact ⟨(x5_1), (wrap64 (x9_1 + 1)), (by first | rfl | (simp; done) | (simp [*]; done)), H', ⟨by have := HK1.out; omega⟩, ⟨by (with_reducible repeat (first | apply Kd.R_alloc | apply Kd.R_drewN | apply Kd.R_drew)); exact HO_5.out⟩, ⟨by repeat (first | (with_reducible first | exact HB.out | apply below_alloc | apply pw_below_drewN | apply below_drew1) | exact HB.out)⟩⟩
            · rw [if_neg c6] at H
              have c6b0 : (((rd_T71 l0 x9_1).f0).toList == a1.toList) = false := beq_eq_false_iff_ne.mpr c6
              have c6b1 : (((rd_T71 l0 x9_1).f0).toList != a1.toList) = true := bne_iff_ne.mpr c6
              by_cases c7 : x5_1.length < 5864062014805
              · rw [if_pos c7] at H
                have LMc7 := Aside0.mk c7
                clear c7
                obtain ⟨y152, hy152⟩ : ∃ y_ : List (S71), y_ = (x5_1 ++ [(⟨(rd_T71 l0 x9_1).f0, (rd_T71 l0 x9_1).f1⟩ : S71)]) := ⟨_, rfl⟩
                replace H : (stileref15_Drop.l0 k1 l0 a1 y152 (l0.length : Int) (wrap64 (x9_1 + 1))) = some r := by first | (rw [hy152]; with_reducible exact H) | (have H2_ := (Option.bind_some _ _).symm.trans H; rw [hy152]; with_reducible exact H2_) | (have H2_ := (Option.bind_some _ _).symm.trans H; with_reducible exact H2_) | with_reducible exact H | (rw [hy152]; exact H) | exact H
                have Ny152 := Aside0.mk hy152
                clear hy152
                have H' := Aside0.mk H
                clear H
                have p150 : 0 ≤ (x9_1 : Int) := of_decide_eq_true (by first | (with_reducible assumption) | assumption)
                have q150 : x9_1 < (l0.length : Int) := of_decide_eq_true (by first | (with_reducible assumption) | assumption)
                obtain ⟨ad150, e150, hx150_0, hx150_1⟩ := at_T71 HR0.out x9_1 p150 q150
                cases e150
                replace hx150_0 := (HB.out.cell (World.block_lt_of_cell? w _ hx150_0)).trans hx150_0
                replace hx150_1 := (HB.out.cell (World.block_lt_of_cell? w _ hx150_1)).trans hx150_1
                replace p150 := eq_true p150
                replace q150 := eq_true q150
                have p151 : 0 ≤ (x9_1 : Int) := of_decide_eq_true (by first | (with_reducible assumption) | assumption)
                have q151 : x9_1 < (l0.length : Int) := of_decide_eq_true (by first | (with_reducible assumption) | assumption)
                obtain ⟨ad151, e151, hx151_0, hx151_1⟩ := at_T71 HR0.out x9_1 p151 q151
                obtain rfl : ad150 = ad151 := (by injection e151)
                replace hx151_0 := (HB.out.cell (World.block_lt_of_cell? w _ hx151_0)).trans hx151_0
                replace hx151_1 := (HB.out.cell (World.block_lt_of_cell? w _ hx151_1)).trans hx151_1
                replace p151 := eq_true p151
                replace q151 := eq_true q151
                go_wp2_with (first | ((with_reducible refine gate_builtin (b := .append) (xs := #[.tmp 19, .tmp 24]) rfl ?_); at_builtin; refine Kd.R_append k71 (w0 := w) w.heap.size rfl (.tmp 19) (.tmp 24) 39 71 (.agg #[(.string ⟨#[]⟩), (.int .i64 0)]) 24 rfl Try.underlying39 info71 rfl (by decide) (by omega) u5 x5_1 (⟨(rd_T71 l0 x9_1).f0, (rd_T71 l0 x9_1).f1⟩ : S71) [.string ((rd_T71 l0 x9_1).f0), .int .i64 ((rd_T71 l0 x9_1).f1)] (fun _ => True) (fun _ => False) rfl rfl ?aP (fun _ hk => hk.elim) ?aF ?aO ?aB ?aS ?aL ?_; (case aP => exact k71_mkM _ _ _ (⟨(rd_T71 l0 x9_1).f0, (rd_T71 l0 x9_1).f1⟩ : S71)); (case aB => exact (by repeat (first | (with_reducible first | exact HB.out | apply below_alloc | apply pw_below_drewN | apply below_drew1) | exact HB.out))); (case aF => exact (fun _ _ => trivial)); (case aO => exact (by (with_reducible repeat (first | apply Kd.R_alloc | apply Kd.R_drewN | apply Kd.R_drew)); exact HO_5.out)); (case aS => exact (below_size (by repeat (first | (with_reducible first | exact HB.out | apply below_alloc | apply pw_below_drewN | apply below_drew1) | exact HB.out)))); (case aL => have := LMc7.out; omega); intro v153 w8 ho hb hg hat; rw [← Ny152.out] at ho; have n0_ := Aside0.mk (hb); have n1_ := Aside0.mk (ho); clear HB; clear HO_5; have HB := n0_; have HO154 := n1_; clear n0_ n1_; clear ho hb hg hat))
                go_roundg k1
                case measure => have := HK1.out; omega
                case rel => exact ⟨(y152), (wrap64 (x9_1 + 1)), (by first | rfl | (simp; done) | (simp [*]; done)), H', ⟨by have := HK1.out; omega⟩, ⟨by (with_reducible repeat (first | apply Kd.R_alloc | apply Kd.R_drewN | apply Kd.R_drew)); exact HO154.out⟩, ⟨by repeat (first | (with_reducible first | exact HB.out | apply below_alloc | apply pw_below_drewN | apply below_drew1) | exact HB.out)⟩⟩
              · rw [if_neg c7] at H
                exact absurd H (by simp)
          · rw [if_neg c5] at H
            exact absurd H (by simp)
        · rw [if_neg c4] at H
          exact absurd H (by simp)
      · rw [if_neg c3] at H
        have c3b0 : decide (x9_1 < (l0.length : Int)) = false := decide_eq_false c3
        clear c3
        obtain rfl := Option.some.inj H
        go_wp2
        go_ret
        exact ⟨_, by first | rfl | (simp [errW_none, errW_some] <;> rfl) | (simp [*, errW_none, errW_some] <;> rfl), by (with_reducible repeat (first | apply Kd.R_alloc | apply Kd.R_drewN | apply Kd.R_drew)); exact HO_5.out, by repeat (first | (with_reducible first | exact HB.out | apply below_alloc | apply pw_below_drewN | apply below_drew1) | exact HB.out)⟩

end Go.Proofs.Ytcgfdnhocdcfjaa.PHedgePlays
