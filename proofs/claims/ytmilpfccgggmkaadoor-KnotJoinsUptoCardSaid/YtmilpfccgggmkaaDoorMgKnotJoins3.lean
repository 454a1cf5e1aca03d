/- Texts of this claim, merged: Prn, Who, Whr, Glr, Glq, Whq. -/
import Derived.Test.YtmilpfccgggmkaaDoorProg
import Derived.Below
import Derived.Deep.Draws
import Derived.Deep.AppendLies
import Derived.Maps.AppendAt
import Derived.OwnWalk
import Derived.Laws.BytesArg
import Derived.Laws.MakeOwn
import Derived.Laws.OwnMore
import Derived.Deep.OwnRows
import Derived.Tactics
import Derived.Lib.ConvBytes
import Derived.Laws.Slices
import Derived.WalkKit
import Derived.KernelRfl
import Derived.RowKit3
import Derived.Deep.LoopGhost
import Derived.Deep.QuietTactic
import Derived.BigQuiet
import Derived.WideLaws
import Derived.Deep.DeepCutAuto
import Derived.Deep.CutBlock
import Derived.Deep.RegionHeld3
import Derived.Laws.Rows
import Derived.Lib.AppendStr
import Derived.ArgAppend
import Derived.Laws.IdiomCopy
import Derived.OrdersHeld
import Derived.Laws.BitsLemmas
import Derived.RowKit
import Derived.Test.YtmilpfccgggmkaaDoorWWords
import Derived.Test.YtmilpfccgggmkaaDoorWLast
import Derived.Test.YtmilpfccgggmkaaDoorWTab
import Derived.Test.YtmilpfccgggmkaaDoorWFour
import Derived.Test.YtmilpfccgggmkaaDoorWQPut
import Derived.Test.YtmilpfccgggmkaaDoorWApart
import Derived.Test.YtmilpfccgggmkaaDoorWArr
import Derived.Test.YtmilpfccgggmkaaDoorWZeros
import Derived.Test.YtmilpfccgggmkaaDoorWFoot
import Derived.Test.YtmilpfccgggmkaaDoorWKept
import Derived.Test.YtmilpfccgggmkaaDoorWShare
import Derived.Test.YtmilpfccgggmkaaDoorWN
import Derived.Test.YtmilpfccgggmkaaDoorWFootNe
import Derived.Test.YtmilpfccgggmkaaDoorWAt
import Derived.Test.YtmilpfccgggmkaaDoorWEqStruct
import Derived.Test.YtmilpfccgggmkaaDoorWRepsOne
import Derived.Test.YtmilpfccgggmkaaDoorWInv
import Derived.Test.YtmilpfccgggmkaaDoorWInvWords
import Derived.Test.YtmilpfccgggmkaaDoorWGuard
import Derived.Test.YtmilpfccgggmkaaDoorWNEv
import Derived.Test.YtmilpfccgggmkaaDoorWMore
import Derived.Test.YtmilpfccgggmkaaDoorMgKnotJoins2
import Derived.Test.YtmilpfccgggmkaaDoorMgKnotJoins1
/- What the kit's print tells of functions of chapter 1 and 2's references: each comes to a Lean function. -/
namespace Go.Proofs.YtmilpfccgggmkaaDoor.Prn
open Go.RowKit Go.Proofs.YtmilpfccgggmkaaDoorW.PrintWords Go.Proofs.YtmilpfccgggmkaaDoorW.PrintLast Go.Proofs.YtmilpfccgggmkaaDoorW.PrintMore
attribute [local go_sem] max2_int min2_int max_two min_two max_three min_three max_four min_four
set_option linter.unusedVariables false
set_option linter.unusedSimpArgs false
def errW : Option Int → Value
  | none => .nilIface
  | some c => .iface 0 (.int .i64 c)
theorem errW_none : errW none = .nilIface := rfl
theorem errW_some (c : Int) : errW (some c) = .iface 0 (.int .i64 c) := rfl
theorem info3 : (Tryd.prog.info? 3).map (fun i => (i.zero, i.size, i.bytes)) = some (some (.int .i64 0), 1, 8) := by kernel_rfl

/-! ### stileref01_Name -/
def stileref01_Name.l0 : Nat → ByteArray → Int → Option (Bool)
  | 0, _, _ => none
  | k + 1, x0, x3 => if x3 < (x0.size : Int) then (if 0 ≤ x3 then (if (bt x0 x3) < 97 then (if x3 = 0 then (some false) else (if (bt x0 x3) < 48 then (if (bt x0 x3) = 95 then (stileref01_Name.l0 k x0 (wrap64 (x3 + 1))) else (some false)) else (if (bt x0 x3) > 57 then (if (bt x0 x3) = 95 then (stileref01_Name.l0 k x0 (wrap64 (x3 + 1))) else (some false)) else (stileref01_Name.l0 k x0 (wrap64 (x3 + 1)))))) else (if (bt x0 x3) > 122 then (if x3 = 0 then (some false) else (if (bt x0 x3) < 48 then (if (bt x0 x3) = 95 then (stileref01_Name.l0 k x0 (wrap64 (x3 + 1))) else (some false)) else (if (bt x0 x3) > 57 then (if (bt x0 x3) = 95 then (stileref01_Name.l0 k x0 (wrap64 (x3 + 1))) else (some false)) else (stileref01_Name.l0 k x0 (wrap64 (x3 + 1)))))) else (stileref01_Name.l0 k x0 (wrap64 (x3 + 1))))) else (none)) else (if (x0.size : Int) ≥ 1 then (some (decide ((x0.size : Int) ≤ 16))) else (some false))
def stileref01_Name.f (k : Nat) (a0 : ByteArray) : Option (Bool) := stileref01_Name.l0 k a0 0
theorem stileref01_Name.mono_l : ∀ k, (∀ y0 y1, LeO (stileref01_Name.l0 k y0 y1) (stileref01_Name.l0 (k + 1) y0 y1))
  | 0 => fun _ _ r h => by simp [stileref01_Name.l0] at h
  | k + 1 => by
    have ih0 := stileref01_Name.mono_l k
    · intro y0 y1
      unfold stileref01_Name.l0
      repeat' first
      | (with_reducible exact ih0 _ _)
      | (with_reducible exact LeO.refl _)
      | (with_reducible exact LeO.none _)
      | (with_reducible refine LeO.ite ?_ ?_)
      | (with_reducible refine LeO.bind ?_ (fun _ => ?_))
      | exact ih0 _ _
      | exact LeO.none _
      | refine LeO.ite ?_ ?_
      | refine LeO.bind ?_ (fun _ => ?_)
theorem stileref01_Name.mono : ∀ a0 k, LeO (stileref01_Name.f k a0) (stileref01_Name.f (k + 1) a0) := by
  intro a0 k
  have ih0 := stileref01_Name.mono_l k
  unfold stileref01_Name.f
  repeat' first
      | (with_reducible exact ih0 _ _)
      | (with_reducible exact LeO.refl _)
      | (with_reducible exact LeO.none _)
      | (with_reducible refine LeO.ite ?_ ?_)
      | (with_reducible refine LeO.bind ?_ (fun _ => ?_))
      | exact ih0 _ _
      | exact LeO.none _
      | refine LeO.ite ?_ ?_
      | refine LeO.bind ?_ (fun _ => ?_)
set_option maxHeartbeats 8000000 in
set_option maxRecDepth 100000 in
theorem stileref01_Name.calls (k : Nat) (a0 : ByteArray) (r : Bool) (w : World) (h : stileref01_Name.f k a0 = some r) :
    Calls Tryd.prog 41 #[.string a0] w fun e w' => e = .returned (.bool r) ∧ Drawn0 w w' := by
  have H : (stileref01_Name.l0 k a0 0) = some r := h
  clear h
  have H' := Aside0.mk H
  clear H
  go_enter Tryd.func41, Tryd.ntmps41
  go_wp2
  go_loopg [3] k (fun kq v3 w' => ∃ (x3_1 : Int), v3 = .int .i64 x3_1 ∧ Aside0 (stileref01_Name.l0 kq a0 x3_1 = some r) ∧ Aside0 (kq ≤ k) ∧ Drawn0 w w')
  case atStart => exact ⟨(0), (by first | rfl | (simp; done) | (simp [*]; done)), H', ⟨Nat.le_refl _⟩, by repeat (first | exact Drawn0.refl _ | apply Drawn0.step)⟩
  case round =>
    clear H'
    try clear c1
    obtain ⟨x3_1, rfl, HA, HK1, ⟨m1, rfl⟩⟩ := hrel
    cases gk with
    | zero => exact absurd HA.out (by simp [stileref01_Name.l0])
    | succ k1 =>
      have H := HA.out
      clear HA
      simp only [stileref01_Name.l0] at H
      by_cases c2 : x3_1 < (a0.size : Int)
      · rw [if_pos c2] at H
        have c2b0 : decide (x3_1 < (a0.size : Int)) = true := decide_eq_true c2
        clear c2
        by_cases c3 : 0 ≤ x3_1
        · rw [if_pos c3] at H
          have c3b0 : decide (0 ≤ x3_1) = true := decide_eq_true c3
          clear c3
          by_cases c5 : (bt a0 x3_1) < 97
          · rw [if_pos c5] at H
            have c5b0 : decide ((bt a0 x3_1) < 97) = true := decide_eq_true c5
            clear c5
            by_cases c6 : x3_1 = 0
            · rw [if_pos c6] at H
              have c6b0 : (x3_1 == 0) = true := beq_iff_eq.mpr c6
              have c6b1 : (x3_1 != 0) = false := bne_eq_false_iff_eq.mpr c6
              clear c6
              obtain rfl := Option.some.inj H
              have p4 : 0 ≤ (x3_1 : Int) := of_decide_eq_true (by first | (with_reducible assumption) | assumption)
              have q4 : x3_1 < (a0.size : Int) := of_decide_eq_true (by first | (with_reducible assumption) | assumption)
              have hx4 := bt_at a0 x3_1
              replace p4 := eq_true p4
              replace q4 := eq_true q4
              go_wp2
              go_ret
              exact ⟨by first | rfl | (simp; done) | (simp [*]; done), by repeat (first | exact Drawn0.refl _ | apply Drawn0.step)⟩
            · rw [if_neg c6] at H
              have c6b0 : (x3_1 == 0) = false := beq_eq_false_iff_ne.mpr c6
              have c6b1 : (x3_1 != 0) = true := bne_iff_ne.mpr c6
              by_cases c7 : (bt a0 x3_1) < 48
              · rw [if_pos c7] at H
                have c7b0 : decide ((bt a0 x3_1) < 48) = true := decide_eq_true c7
                clear c7
                by_cases c8 : (bt a0 x3_1) = 95
                · rw [if_pos c8] at H
                  have c8b0 : ((bt a0 x3_1) == 95) = true := beq_iff_eq.mpr c8
                  have c8b1 : ((bt a0 x3_1) != 95) = false := bne_eq_false_iff_eq.mpr c8
                  clear c8
                  have H' := Aside0.mk H
                  clear H
                  have p4 : 0 ≤ (x3_1 : Int) := of_decide_eq_true (by first | (with_reducible assumption) | assumption)
                  have q4 : x3_1 < (a0.size : Int) := of_decide_eq_true (by first | (with_reducible assumption) | assumption)
                  have hx4 := bt_at a0 x3_1
                  replace p4 := eq_true p4
                  replace q4 := eq_true q4
                  go_wp2
                  go_roundg k1
                  case measure => have := HK1.out; omega
                  case rel => exact ⟨(wrap64 (x3_1 + 1)), (by first | rfl | (simp; done) | (simp [*]; done)), H', ⟨by have := HK1.out; omega⟩, by repeat (first | exact Drawn0.refl _ | apply Drawn0.step)⟩
                · rw [if_neg c8] at H
                  have c8b0 : ((bt a0 x3_1) == 95) = false := beq_eq_false_iff_ne.mpr c8
                  have c8b1 : ((bt a0 x3_1) != 95) = true := bne_iff_ne.mpr c8
                  obtain rfl := Option.some.inj H
                  have p4 : 0 ≤ (x3_1 : Int) := of_decide_eq_true (by first | (with_reducible assumption) | assumption)
                  have q4 : x3_1 < (a0.size : Int) := of_decide_eq_true (by first | (with_reducible assumption) | assumption)
                  have hx4 := bt_at a0 x3_1
                  replace p4 := eq_true p4
                  replace q4 := eq_true q4
                  go_wp2
                  go_ret
                  exact ⟨by first | rfl | (simp; done) | (simp [*]; done), by repeat (first | exact Drawn0.refl _ | apply Drawn0.step)⟩
              · rw [if_neg c7] at H
                have c7b0 : decide ((bt a0 x3_1) < 48) = false := decide_eq_false c7
                clear c7
                by_cases c9 : (bt a0 x3_1) > 57
                · rw [if_pos c9] at H
                  have c9b0 : decide (57 < (bt a0 x3_1)) = true := decide_eq_true c9
                  clear c9
                  by_cases c10 : (bt a0 x3_1) = 95
                  · rw [if_pos c10] at H
                    have c10b0 : ((bt a0 x3_1) == 95) = true := beq_iff_eq.mpr c10
                    have c10b1 : ((bt a0 x3_1) != 95) = false := bne_eq_false_iff_eq.mpr c10
                    clear c10
                    have H' := Aside0.mk H
                    clear H
                    have p4 : 0 ≤ (x3_1 : Int) := of_decide_eq_true (by first | (with_reducible assumption) | assumption)
                    have q4 : x3_1 < (a0.size : Int) := of_decide_eq_true (by first | (with_reducible assumption) | assumption)
                    have hx4 := bt_at a0 x3_1
                    replace p4 := eq_true p4
                    replace q4 := eq_true q4
                    go_wp2
                    go_roundg k1
                    case measure => have := HK1.out; omega
                    case rel => exact ⟨(wrap64 (x3_1 + 1)), (by first | rfl | (simp; done) | (simp [*]; done)), H', ⟨by have := HK1.out; omega⟩, by repeat (first | exact Drawn0.refl _ | apply Drawn0.step)⟩
                  · rw [if_neg c10] at H
                    have c10b0 : ((bt a0 x3_1) == 95) = false := beq_eq_false_iff_ne.mpr c10
                    have c10b1 : ((bt a0 x3_1) != 95) = true := bne_iff_ne.mpr c10
                    obtain rfl := Option.some.inj H
                    have p4 : 0 ≤ (x3_1 : Int) := of_decide_eq_true (by first | (with_reducible assumption) | assumption)
                    have q4 : x3_1 < (a0.size : Int) := of_decide_eq_true (by first | (with_reducible assumption) | assumption)
                    have hx4 := bt_at a0 x3_1
                    replace p4 := eq_true p4
                    replace q4 := eq_true q4
                    go_wp2
                    go_ret
                    exact ⟨by first | rfl | (simp; done) | (simp [*]; done), by repeat (first | exact Drawn0.refl _ | apply Drawn0.step)⟩
                · rw [if_neg c9] at H
                  have c9b0 : decide (57 < (bt a0 x3_1)) = false := decide_eq_false c9
                  clear c9
                  have H' := Aside0.mk H
                  clear H
                  have p4 : 0 ≤ (x3_1 : Int) := of_decide_eq_true (by first | (with_reducible assumption) | assumption)
                  have q4 : x3_1 < (a0.size : Int) := of_decide_eq_true (by first | (with_reducible assumption) | assumption)
                  have hx4 := bt_at a0 x3_1
                  replace p4 := eq_true p4
                  replace q4 := eq_true q4
                  go_wp2
                  go_roundg k1
                  case measure => have := HK1.out; omega
                  case rel => exact ⟨(wrap64 (x3_1 + 1)), (by first | rfl | (simp; done) | (simp [*]; done)), H', ⟨by have := HK1.out; omega⟩, by repeat (first | exact Drawn0.refl _ | apply Drawn0.step)⟩
          · rw [if_neg c5] at H
            have c5b0 : decide ((bt a0 x3_1) < 97) = false := decide_eq_false c5
            clear c5
            by_cases c11 : (bt a0 x3_1) > 122
            · rw [if_pos c11] at H
              have c11b0 : decide (122 < (bt a0 x3_1)) = true := decide_eq_true c11
              clear c11
              by_cases c12 : x3_1 = 0
              · rw [if_pos c12] at H
                have c12b0 : (x3_1 == 0) = true := beq_iff_eq.mpr c12
                have c12b1 : (x3_1 != 0) = false := bne_eq_false_iff_eq.mpr c12
                clear c12
                obtain rfl := Option.some.inj H
                have p4 : 0 ≤ (x3_1 : Int) := of_decide_eq_true (by first | (with_reducible assumption) | assumption)
                have q4 : x3_1 < (a0.size : Int) := of_decide_eq_true (by first | (with_reducible assumption) | assumption)
                have hx4 := bt_at a0 x3_1
                replace p4 := eq_true p4
                replace q4 := eq_true q4
                go_wp2
                go_ret
                exact ⟨by first | rfl | (simp; done) | (simp [*]; done), by repeat (first | exact Drawn0.refl _ | apply Drawn0.step)⟩
              · rw [if_neg c12] at H
                have c12b0 : (x3_1 == 0) = false := beq_eq_false_iff_ne.mpr c12
                have c12b1 : (x3_1 != 0) = true := bne_iff_ne.mpr c12
                by_cases c13 : (bt a0 x3_1) < 48
                · rw [if_pos c13] at H
                  have c13b0 : decide ((bt a0 x3_1) < 48) = true := decide_eq_true c13
                  clear c13
                  by_cases c14 : (bt a0 x3_1) = 95
                  · rw [if_pos c14] at H
                    have c14b0 : ((bt a0 x3_1) == 95) = true := beq_iff_eq.mpr c14
                    have c14b1 : ((bt a0 x3_1) != 95) = false := bne_eq_false_iff_eq.mpr c14
                    clear c14
                    have H' := Aside0.mk H
                    clear H
                    have p4 : 0 ≤ (x3_1 : Int) := of_decide_eq_true (by first | (with_reducible assumption) | assumption)
                    have q4 : x3_1 < (a0.size : Int) := of_decide_eq_true (by first | (with_reducible assumption) | assumption)
                    have hx4 := bt_at a0 x3_1
                    replace p4 := eq_true p4
                    replace q4 := eq_true q4
                    go_wp2
                    go_roundg k1
                    case measure => have := HK1.out; omega
                    case rel => exact ⟨(wrap64 (x3_1 + 1)), (by first | rfl | (simp; done) | (simp [*]; done)), H', ⟨by have := HK1.out; omega⟩, by repeat (first | exact Drawn0.refl _ | apply Drawn0.step)⟩
                  · rw [if_neg c14] at H
                    have c14b0 : ((bt a0 x3_1) == 95) = false := beq_eq_false_iff_ne.mpr c14
                    have c14b1 : ((bt a0 x3_1) != 95) = true := bne_iff_ne.mpr c14
                    obtain rfl := Option.some.inj H
                    have p4 : 0 ≤ (x3_1 : Int) := of_decide_eq_true (by first | (with_reducible assumption) | assumption)
                    have q4 : x3_1 < (a0.size : Int) := of_decide_eq_true (by first | (with_reducible assumption) | assumption)
                    have hx4 := bt_at a0 x3_1
                    replace p4 := eq_true p4
                    replace q4 := eq_true q4
                    go_wp2
                    go_ret
                    exact ⟨by first | rfl | (simp; done) | (simp [*]; done), by repeat (first | exact Drawn0.refl _ | apply Drawn0.step)⟩
                · rw [if_neg c13] at H
                  have c13b0 : decide ((bt a0 x3_1) < 48) = false := decide_eq_false c13
                  clear c13
                  by_cases c15 : (bt a0 x3_1) > 57
                  · rw [if_pos c15] at H
                    have c15b0 : decide (57 < (bt a0 x3_1)) = true := decide_eq_true c15
                    clear c15
                    by_cases c16 : (bt a0 x3_1) = 95
                    · rw [if_pos c16] at H
                      have c16b0 : ((bt a0 x3_1) == 95) = true := beq_iff_eq.mpr c16
                      have c16b1 : ((bt a0 x3_1) != 95) = false := bne_eq_false_iff_eq.mpr c16
                      clear c16
                      have H' := Aside0.mk H
                      clear H
                      have p4 : 0 ≤ (x3_1 : Int) := of_decide_eq_true (by first | (with_reducible assumption) | assumption)
                      have q4 : x3_1 < (a0.size : Int) := of_decide_eq_true (by first | (with_reducible assumption) | assumption)
                      have hx4 := bt_at a0 x3_1
                      replace p4 := eq_true p4
                      replace q4 := eq_true q4
                      go_wp2
                      go_roundg k1
                      case measure => have := HK1.out; omega
                      case rel => exact ⟨(wrap64 (x3_1 + 1)), (by first | rfl | (simp; done) | (simp [*]; done)), H', ⟨by have := HK1.out; omega⟩, by repeat (first | exact Drawn0.refl _ | apply Drawn0.step)⟩
                    · rw [if_neg c16] at H
                      have c16b0 : ((bt a0 x3_1) == 95) = false := beq_eq_false_iff_ne.mpr c16
                      have c16b1 : ((bt a0 x3_1) != 95) = true := bne_iff_ne.mpr c16
                      obtain rfl := Option.some.inj H
                      have p4 : 0 ≤ (x3_1 : Int) := of_decide_eq_true (by first | (with_reducible assumption) | assumption)
                      have q4 : x3_1 < (a0.size : Int) := of_decide_eq_true (by first | (with_reducible assumption) | assumption)
                      have hx4 := bt_at a0 x3_1
                      replace p4 := eq_true p4
                      replace q4 := eq_true q4
                      go_wp2
                      go_ret
                      exact ⟨by first | rfl | (simp; done) | (simp [*]; done), by repeat (first | exact Drawn0.refl _ | apply Drawn0.step)⟩
                  · rw [if_neg c15] at H
                    have c15b0 : decide (57 < (bt a0 x3_1)) = false := decide_eq_false c15
                    clear c15
                    have H' := Aside0.mk H
                    clear H
                    have p4 : 0 ≤ (x3_1 : Int) := of_decide_eq_true (by first | (with_reducible assumption) | assumption)
                    have q4 : x3_1 < (a0.size : Int) := of_decide_eq_true (by first | (with_reducible assumption) | assumption)
                    have hx4 := bt_at a0 x3_1
                    replace p4 := eq_true p4
                    replace q4 := eq_true q4
                    go_wp2
                    go_roundg k1
                    case measure => have := HK1.out; omega
                    case rel => exact ⟨(wrap64 (x3_1 + 1)), (by first | rfl | (simp; done) | (simp [*]; done)), H', ⟨by have := HK1.out; omega⟩, by repeat (first | exact Drawn0.refl _ | apply Drawn0.step)⟩
            · rw [if_neg c11] at H
              have c11b0 : decide (122 < (bt a0 x3_1)) = false := decide_eq_false c11
              clear c11
              have H' := Aside0.mk H
              clear H
              have p4 : 0 ≤ (x3_1 : Int) := of_decide_eq_true (by first | (with_reducible assumption) | assumption)
              have q4 : x3_1 < (a0.size : Int) := of_decide_eq_true (by first | (with_reducible assumption) | assumption)
              have hx4 := bt_at a0 x3_1
              replace p4 := eq_true p4
              replace q4 := eq_true q4
              go_wp2
              go_roundg k1
              case measure => have := HK1.out; omega
              case rel => exact ⟨(wrap64 (x3_1 + 1)), (by first | rfl | (simp; done) | (simp [*]; done)), H', ⟨by have := HK1.out; omega⟩, by repeat (first | exact Drawn0.refl _ | apply Drawn0.step)⟩
        · rw [if_neg c3] at H
          exact absurd H (by simp)
      · rw [if_neg c2] at H
        have c2b0 : decide (x3_1 < (a0.size : Int)) = false := decide_eq_false c2
        clear c2
        by_cases c17 : (a0.size : Int) ≥ 1
        · rw [if_pos c17] at H
          have c17b0 : decide (1 ≤ (a0.size : Int)) = true := decide_eq_true c17
          have c17b1 : decide (1 ≤ a0.size) = true := decide_eq_true (by omega)
          clear c17
          obtain rfl := Option.some.inj H
          go_wp2
          go_ret
          exact ⟨by first | rfl | (simp; done) | (simp [*]; done), by repeat (first | exact Drawn0.refl _ | apply Drawn0.step)⟩
        · rw [if_neg c17] at H
          have c17b0 : decide (1 ≤ (a0.size : Int)) = false := decide_eq_false c17
          have c17b1 : decide (1 ≤ a0.size) = false := decide_eq_false (by omega)
          clear c17
          obtain rfl := Option.some.inj H
          go_wp2
          go_ret
          exact ⟨by first | rfl | (simp; done) | (simp [*]; done), by repeat (first | exact Drawn0.refl _ | apply Drawn0.step)⟩

/-! ### stileref01_Rune -/
mutual
def stileref01_Rune.j2 : Nat → ByteArray → Int → Int → Int → Int → Option (Int × Int)
  | 0, _, _, _, _, _ => none
  | k + 1, x0, x1, x7, x8, x9 => if x7 > (wrap64 ((x0.size : Int) - x1)) then (some (0, 0)) else (stileref01_Rune.l0 k x0 x1 x7 x8 x9 1)
def stileref01_Rune.l0 : Nat → ByteArray → Int → Int → Int → Int → Int → Option (Int × Int)
  | 0, _, _, _, _, _, _ => none
  | k + 1, x0, x1, x7, x8, x9, x10 => if x10 < x7 then (if 0 ≤ (wrap64 (x1 + x10)) then (if (wrap64 (x1 + x10)) < (x0.size : Int) then (if (wrap64 (bt x0 (wrap64 (x1 + x10)))) < 128 then (some (0, 0)) else (if (wrap64 (bt x0 (wrap64 (x1 + x10)))) > 191 then (some (0, 0)) else (stileref01_Rune.l0 k x0 x1 x7 (wrap64 ((wrap64 ((wrap64 (x8 * 64)) + (wrap64 (bt x0 (wrap64 (x1 + x10)))))) - 128)) x9 (wrap64 (x10 + 1))))) else (none)) else (none)) else (if x8 < x9 then (some (0, 0)) else (if x8 > 1114111 then (some (0, 0)) else (if x8 ≥ 55296 then (if x8 ≤ 57343 then (some (0, 0)) else (some (x8, x7))) else (some (x8, x7)))))
def stileref01_Rune.j0 : Nat → ByteArray → Int → Int → Bool → Option (Int × Int)
  | 0, _, _, _, _ => none
  | k + 1, x0, x1, x6, x21 => if x21 = true then (stileref01_Rune.j2 k x0 x1 2 (wrap64 (x6 - 192)) 128) else (if x6 ≥ 224 then (stileref01_Rune.j1 k x0 x1 x6 (decide (x6 < 240))) else (stileref01_Rune.j1 k x0 x1 x6 false))
def stileref01_Rune.j1 : Nat → ByteArray → Int → Int → Bool → Option (Int × Int)
  | 0, _, _, _, _ => none
  | k + 1, x0, x1, x6, x30 => if x30 = true then (stileref01_Rune.j2 k x0 x1 3 (wrap64 (x6 - 224)) 2048) else (if x6 ≥ 240 then (if x6 < 248 then (stileref01_Rune.j2 k x0 x1 4 (wrap64 (x6 - 240)) 65536) else (some (0, 0))) else (some (0, 0)))
end
def stileref01_Rune.f (k : Nat) (a0 : ByteArray) (a1 : Int) : Option (Int × Int) := if 0 ≤ a1 then (if a1 < (a0.size : Int) then (if (wrap64 (bt a0 a1)) < 128 then (some (wrap64 (bt a0 a1), 1)) else (if (wrap64 (bt a0 a1)) ≥ 192 then (stileref01_Rune.j0 k a0 a1 (wrap64 (bt a0 a1)) (decide ((wrap64 (bt a0 a1)) < 224))) else (stileref01_Rune.j0 k a0 a1 (wrap64 (bt a0 a1)) false))) else (none)) else (none)
theorem stileref01_Rune.mono_l : ∀ k, (∀ y0 y1 y2 y3 y4, LeO (stileref01_Rune.j2 k y0 y1 y2 y3 y4) (stileref01_Rune.j2 (k + 1) y0 y1 y2 y3 y4)) ∧ (∀ y0 y1 y2 y3 y4 y5, LeO (stileref01_Rune.l0 k y0 y1 y2 y3 y4 y5) (stileref01_Rune.l0 (k + 1) y0 y1 y2 y3 y4 y5)) ∧ (∀ y0 y1 y2 y3, LeO (stileref01_Rune.j0 k y0 y1 y2 y3) (stileref01_Rune.j0 (k + 1) y0 y1 y2 y3)) ∧ (∀ y0 y1 y2 y3, LeO (stileref01_Rune.j1 k y0 y1 y2 y3) (stileref01_Rune.j1 (k + 1) y0 y1 y2 y3))
  | 0 => ⟨fun _ _ _ _ _ r h => by simp [stileref01_Rune.j2] at h, fun _ _ _ _ _ _ r h => by simp [stileref01_Rune.l0] at h, fun _ _ _ _ r h => by simp [stileref01_Rune.j0] at h, fun _ _ _ _ r h => by simp [stileref01_Rune.j1] at h⟩
  | k + 1 => by
    obtain ⟨ih0, ih1, ih2, ih3⟩ := stileref01_Rune.mono_l k
    refine ⟨?_, ?_, ?_, ?_⟩
    · intro y0 y1 y2 y3 y4
      unfold stileref01_Rune.j2
      repeat' first
      | (with_reducible exact ih0 _ _ _ _ _)
      | (with_reducible exact ih1 _ _ _ _ _ _)
      | (with_reducible exact ih2 _ _ _ _)
      | (with_reducible exact ih3 _ _ _ _)
      | (with_reducible exact LeO.refl _)
      | (with_reducible exact LeO.none _)
      | (with_reducible refine LeO.ite ?_ ?_)
      | (with_reducible refine LeO.bind ?_ (fun _ => ?_))
      | exact ih0 _ _ _ _ _
      | exact ih1 _ _ _ _ _ _
      | exact ih2 _ _ _ _
      | exact ih3 _ _ _ _
      | exact LeO.none _
      | refine LeO.ite ?_ ?_
      | refine LeO.bind ?_ (fun _ => ?_)
    · intro y0 y1 y2 y3 y4 y5
      unfold stileref01_Rune.l0
      repeat' first
      | (with_reducible exact ih0 _ _ _ _ _)
      | (with_reducible exact ih1 _ _ _ _ _ _)
      | (with_reducible exact ih2 _ _ _ _)
      | (with_reducible exact ih3 _ _ _ _)
      | (with_reducible exact LeO.refl _)
      | (with_reducible exact LeO.none _)
      | (with_reducible refine LeO.ite ?_ ?_)
      | (with_reducible refine LeO.bind ?_ (fun _ => ?_))
      | exact ih0 _ _ _ _ _
      | exact ih1 _ _ _ _ _ _
      | exact ih2 _ _ _ _
      | exact ih3 _ _ _ _
      | exact LeO.none _
      | refine LeO.ite ?_ ?_
      | refine LeO.bind ?_ (fun _ => ?_)
    · intro y0 y1 y2 y3
      unfold stileref01_Rune.j0
      repeat' first
      | (with_reducible exact ih0 _ _ _ _ _)
      | (with_reducible exact ih1 _ _ _ _ _ _)
      | (with_reducible exact ih2 _ _ _ _)
      | (with_reducible exact ih3 _ _ _ _)
      | (with_reducible exact LeO.refl _)
      | (with_reducible exact LeO.none _)
      | (with_reducible refine LeO.ite ?_ ?_)
      | (with_reducible refine LeO.bind ?_ (fun _ => ?_))
      | exact ih0 _ _ _ _ _
      | exact ih1 _ _ _ _ _ _
      | exact ih2 _ _ _ _
      | exact ih3 _ _ _ _
      | exact LeO.none _
      | refine LeO.ite ?_ ?_
      | refine LeO.bind ?_ (fun _ => ?_)
    · intro y0 y1 y2 y3
      unfold stileref01_Rune.j1
      repeat' first
      | (with_reducible exact ih0 _ _ _ _ _)
      | (with_reducible exact ih1 _ _ _ _ _ _)
      | (with_reducible exact ih2 _ _ _ _)
      | (with_reducible exact ih3 _ _ _ _)
      | (with_reducible exact LeO.refl _)
      | (with_reducible exact LeO.none _)
      | (with_reducible refine LeO.ite ?_ ?_)
      | (with_reducible refine LeO.bind ?_ (fun _ => ?_))
      | exact ih0 _ _ _ _ _
      | exact ih1 _ _ _ _ _ _
      | exact ih2 _ _ _ _
      | exact ih3 _ _ _ _
      | exact LeO.none _
      | refine LeO.ite ?_ ?_
      | refine LeO.bind ?_ (fun _ => ?_)
theorem stileref01_Rune.mono : ∀ a0 a1 k, LeO (stileref01_Rune.f k a0 a1) (stileref01_Rune.f (k + 1) a0 a1) := by
  intro a0 a1 k
  obtain ⟨ih0, ih1, ih2, ih3⟩ := stileref01_Rune.mono_l k
  unfold stileref01_Rune.f
  repeat' first
      | (with_reducible exact ih0 _ _ _ _ _)
      | (with_reducible exact ih1 _ _ _ _ _ _)
      | (with_reducible exact ih2 _ _ _ _)
      | (with_reducible exact ih3 _ _ _ _)
      | (with_reducible exact LeO.refl _)
      | (with_reducible exact LeO.none _)
      | (with_reducible refine LeO.ite ?_ ?_)
      | (with_reducible refine LeO.bind ?_ (fun _ => ?_))
      | exact ih0 _ _ _ _ _
      | exact ih1 _ _ _ _ _ _
      | exact ih2 _ _ _ _
      | exact ih3 _ _ _ _
      | exact LeO.none _
      | refine LeO.ite ?_ ?_
      | refine LeO.bind ?_ (fun _ => ?_)
set_option maxHeartbeats 8000000 in
set_option maxRecDepth 100000 in
theorem stileref01_Rune.calls (k : Nat) (a0 : ByteArray) (a1 : Int) (r1 : Int) (r2 : Int) (w : World) (h : stileref01_Rune.f k a0 a1 = some (r1, r2)) :
    Calls Tryd.prog 56 #[.string a0, .int .i64 a1] w fun e w' => e = .returned (.tuple #[.int .i64 r1, .int .i64 r2]) ∧ Drawn0 w w' := by
  have H : (if 0 ≤ a1 then (if a1 < (a0.size : Int) then (if (wrap64 (bt a0 a1)) < 128 then (some (wrap64 (bt a0 a1), 1)) else (if (wrap64 (bt a0 a1)) ≥ 192 then (stileref01_Rune.j0 k a0 a1 (wrap64 (bt a0 a1)) (decide ((wrap64 (bt a0 a1)) < 224))) else (stileref01_Rune.j0 k a0 a1 (wrap64 (bt a0 a1)) false))) else (none)) else (none)) = some (r1, r2) := h
  clear h
  by_cases c3 : 0 ≤ a1
  · rw [if_pos c3] at H
    have c3b0 : decide (0 ≤ a1) = true := decide_eq_true c3
    clear c3
    by_cases c4 : a1 < (a0.size : Int)
    · rw [if_pos c4] at H
      have c4b0 : decide (a1 < (a0.size : Int)) = true := decide_eq_true c4
      clear c4
      have HC6 := Aside0.mk H
      clear H
      have p5 : 0 ≤ (a1 : Int) := of_decide_eq_true (by first | (with_reducible assumption) | assumption)
      have q5 : a1 < (a0.size : Int) := of_decide_eq_true (by first | (with_reducible assumption) | assumption)
      have hx5 := bt_at a0 a1
      replace p5 := eq_true p5
      replace q5 := eq_true q5
      go_enter Tryd.func56, Tryd.ntmps56
      go_upto_block 0 with (fail)
      go_cut [7, 8, 9] (fun v7 v8 v9 wc => ∃ (kq : Nat) (x7_5 : Int) (x8_5 : Int) (x9_5 : Int), v7 = .int .i64 x7_5 ∧ v8 = .int .i64 x8_5 ∧ v9 = .int .i64 x9_5 ∧ Aside0 (stileref01_Rune.j2 kq a0 a1 x7_5 x8_5 x9_5 = some (r1, r2)) ∧ Aside0 (kq ≤ k) ∧ Drawn0 w wc)
      case first =>
        have H := HC6.out
        clear HC6
        by_cases c7 : (wrap64 (bt a0 a1)) < 128
        · rw [if_pos c7] at H
          have c7b0 : decide ((wrap64 (bt a0 a1)) < 128) = true := decide_eq_true c7
          clear c7
          (first | rw [c7b0] | (simp only [i64_w, i32_w]; rw [c7b0]) | skip)
          simp only [Option.some.injEq, Prod.mk.injEq] at H
          obtain ⟨rfl, rfl⟩ := H
          go_wp2
          go_ret2
          exact ⟨by first | rfl | (simp; done) | (simp [*]; done), by repeat (first | exact Drawn0.refl _ | apply Drawn0.step)⟩
        · rw [if_neg c7] at H
          have c7b0 : decide ((wrap64 (bt a0 a1)) < 128) = false := decide_eq_false c7
          clear c7
          (first | rw [c7b0] | (simp only [i64_w, i32_w]; rw [c7b0]) | skip)
          have HC8 := Aside0.mk H
          clear H
          go_upto_region 6 with (fail)
          go_cut [21] (fun v21 wc => ∃ (kq : Nat) (x21_7 : Bool), v21 = .bool x21_7 ∧ Aside0 (stileref01_Rune.j0 kq a0 a1 (wrap64 (bt a0 a1)) x21_7 = some (r1, r2)) ∧ Aside0 (kq ≤ k) ∧ Drawn0 w wc)
          case first =>
            have H := HC8.out
            clear HC8
            by_cases c9 : (wrap64 (bt a0 a1)) ≥ 192
            · rw [if_pos c9] at H
              have c9b0 : decide (192 ≤ (wrap64 (bt a0 a1))) = true := decide_eq_true c9
              clear c9
              (first | rw [c9b0] | (simp only [i64_w, i32_w]; rw [c9b0]) | skip)
              have H' := Aside0.mk H
              clear H
              go_wp2
              go_meet
              case rel => exact ⟨_, (decide ((wrap64 (bt a0 a1)) < 224)), (by first | rfl | (simp; done) | (simp [*]; done)), H', ⟨by first | omega | exact Nat.le_refl _⟩, by repeat (first | exact Drawn0.refl _ | apply Drawn0.step)⟩
            · rw [if_neg c9] at H
              have c9b0 : decide (192 ≤ (wrap64 (bt a0 a1))) = false := decide_eq_false c9
              clear c9
              (first | rw [c9b0] | (simp only [i64_w, i32_w]; rw [c9b0]) | skip)
              have H' := Aside0.mk H
              clear H
              go_wp2
              go_meet
              case rel => exact ⟨_, (false), (by first | rfl | (simp; done) | (simp [*]; done)), H', ⟨by first | omega | exact Nat.le_refl _⟩, by repeat (first | exact Drawn0.refl _ | apply Drawn0.step)⟩
          case rest =>
            clear HC8
            try clear p2
            try clear c3
            try clear c3b0
            try clear c4
            try clear c4b0
            try clear p5
            try clear q5
            try clear hx5
            try clear p6
            try clear c7
            try clear c7b0
            try clear c9
            try clear c9b0
            try clear p5
            try clear q5
            obtain ⟨kq, x21_7, rfl, HA, HJ7, ⟨mc7, rfl⟩⟩ := hcut
            cases kq with
            | zero => exact absurd HA.out (by simp [stileref01_Rune.j0])
            | succ kj7 =>
              have H := HA.out
              clear HA
              simp only [stileref01_Rune.j0] at H
              by_cases c10 : x21_7 = true
              · subst c10
                have H1 : (stileref01_Rune.j2 kj7 a0 a1 2 (wrap64 ((wrap64 (bt a0 a1)) - 192)) 128) = some (r1, r2) := by rw [if_pos rfl] at H; exact H
                clear H
                have H := H1
                clear H1
                have H' := Aside0.mk H
                clear H
                go_wp2
                go_meet
                case rel => exact ⟨_, (2), (wrap64 ((wrap64 (bt a0 a1)) - 192)), (128), (by first | rfl | (simp; done) | (simp [*]; done)), (by first | rfl | (simp; done) | (simp [*]; done)), (by first | rfl | (simp; done) | (simp [*]; done)), H', ⟨by have := HJ7.out; first | omega | exact Nat.le_refl _⟩, by repeat (first | exact Drawn0.refl _ | apply Drawn0.step)⟩
              · replace c10 := Bool.eq_false_iff.mpr c10
                subst c10
                have H1 : (if (wrap64 (bt a0 a1)) ≥ 224 then (stileref01_Rune.j1 kj7 a0 a1 (wrap64 (bt a0 a1)) (decide ((wrap64 (bt a0 a1)) < 240))) else (stileref01_Rune.j1 kj7 a0 a1 (wrap64 (bt a0 a1)) false)) = some (r1, r2) := by rw [if_neg (show ¬ (false = true) by decide)] at H; exact H
                clear H
                have H := H1
                clear H1
                have HC11 := Aside0.mk H
                clear H
                go_upto_region 8 with (fail)
                go_cut [30] (fun v30 wc => ∃ (kq : Nat) (x30_10 : Bool), v30 = .bool x30_10 ∧ Aside0 (stileref01_Rune.j1 kq a0 a1 (wrap64 (bt a0 a1)) x30_10 = some (r1, r2)) ∧ Aside0 (kq ≤ kj7) ∧ Drawn0 w wc)
                case first =>
                  have H := HC11.out
                  clear HC11
                  by_cases c12 : (wrap64 (bt a0 a1)) ≥ 224
                  · rw [if_pos c12] at H
                    have c12b0 : decide (224 ≤ (wrap64 (bt a0 a1))) = true := decide_eq_true c12
                    clear c12
                    (first | rw [c12b0] | (simp only [i64_w, i32_w]; rw [c12b0]) | skip)
                    have H' := Aside0.mk H
                    clear H
                    go_wp2
                    go_meet
                    case rel => exact ⟨_, (decide ((wrap64 (bt a0 a1)) < 240)), (by first | rfl | (simp; done) | (simp [*]; done)), H', ⟨by have := HJ7.out; first | omega | exact Nat.le_refl _⟩, by repeat (first | exact Drawn0.refl _ | apply Drawn0.step)⟩
                  · rw [if_neg c12] at H
                    have c12b0 : decide (224 ≤ (wrap64 (bt a0 a1))) = false := decide_eq_false c12
                    clear c12
                    (first | rw [c12b0] | (simp only [i64_w, i32_w]; rw [c12b0]) | skip)
                    have H' := Aside0.mk H
                    clear H
                    go_wp2
                    go_meet
                    case rel => exact ⟨_, (false), (by first | rfl | (simp; done) | (simp [*]; done)), H', ⟨by have := HJ7.out; first | omega | exact Nat.le_refl _⟩, by repeat (first | exact Drawn0.refl _ | apply Drawn0.step)⟩
                case rest =>
                  clear HC11
                  try clear c1
                  try clear p2
                  try clear c3
                  try clear c3b0
                  try clear c4
                  try clear c4b0
                  try clear p5
                  try clear q5
                  try clear hx5
                  try clear p6
                  try clear c7
                  try clear c7b0
                  try clear c9
                  try clear c9b0
                  try clear c10
                  try clear c12
                  try clear c12b0
                  try clear p2
                  try clear p5
                  try clear p6
                  try clear q5
                  obtain ⟨kq, x30_10, rfl, HA, HJ10, ⟨mc10, rfl⟩⟩ := hcut
                  cases kq with
                  | zero => exact absurd HA.out (by simp [stileref01_Rune.j1])
                  | succ kj10 =>
                    have H := HA.out
                    clear HA
                    simp only [stileref01_Rune.j1] at H
                    by_cases c13 : x30_10 = true
                    · subst c13
                      have H1 : (stileref01_Rune.j2 kj10 a0 a1 3 (wrap64 ((wrap64 (bt a0 a1)) - 224)) 2048) = some (r1, r2) := by rw [if_pos rfl] at H; exact H
                      clear H
                      have H := H1
                      clear H1
                      have H' := Aside0.mk H
                      clear H
                      go_wp2
                      go_meet
                      case rel => exact ⟨_, (3), (wrap64 ((wrap64 (bt a0 a1)) - 224)), (2048), (by first | rfl | (simp; done) | (simp [*]; done)), (by first | rfl | (simp; done) | (simp [*]; done)), (by first | rfl | (simp; done) | (simp [*]; done)), H', ⟨by have := HJ7.out; have := HJ10.out; first | omega | exact Nat.le_refl _⟩, by repeat (first | exact Drawn0.refl _ | apply Drawn0.step)⟩
                    · replace c13 := Bool.eq_false_iff.mpr c13
                      subst c13
                      have H1 : (if (wrap64 (bt a0 a1)) ≥ 240 then (if (wrap64 (bt a0 a1)) < 248 then (stileref01_Rune.j2 kj10 a0 a1 4 (wrap64 ((wrap64 (bt a0 a1)) - 240)) 65536) else (some (0, 0))) else (some (0, 0))) = some (r1, r2) := by rw [if_neg (show ¬ (false = true) by decide)] at H; exact H
                      clear H
                      have H := H1
                      clear H1
                      by_cases c14 : (wrap64 (bt a0 a1)) ≥ 240
                      · rw [if_pos c14] at H
                        have c14b0 : decide (240 ≤ (wrap64 (bt a0 a1))) = true := decide_eq_true c14
                        clear c14
                        by_cases c15 : (wrap64 (bt a0 a1)) < 248
                        · rw [if_pos c15] at H
                          have c15b0 : decide ((wrap64 (bt a0 a1)) < 248) = true := decide_eq_true c15
                          clear c15
                          have H' := Aside0.mk H
                          clear H
                          go_wp2
                          go_meet
                          case rel => exact ⟨_, (4), (wrap64 ((wrap64 (bt a0 a1)) - 240)), (65536), (by first | rfl | (simp; done) | (simp [*]; done)), (by first | rfl | (simp; done) | (simp [*]; done)), (by first | rfl | (simp; done) | (simp [*]; done)), H', ⟨by have := HJ7.out; have := HJ10.out; first | omega | exact Nat.le_refl _⟩, by repeat (first | exact Drawn0.refl _ | apply Drawn0.step)⟩
                        · rw [if_neg c15] at H
                          have c15b0 : decide ((wrap64 (bt a0 a1)) < 248) = false := decide_eq_false c15
                          clear c15
                          simp only [Option.some.injEq, Prod.mk.injEq] at H
                          obtain ⟨rfl, rfl⟩ := H
                          go_wp2
                          go_ret2
                          exact ⟨by first | rfl | (simp; done) | (simp [*]; done), by repeat (first | exact Drawn0.refl _ | apply Drawn0.step)⟩
                      · rw [if_neg c14] at H
                        have c14b0 : decide (240 ≤ (wrap64 (bt a0 a1))) = false := decide_eq_false c14
                        clear c14
                        simp only [Option.some.injEq, Prod.mk.injEq] at H
                        obtain ⟨rfl, rfl⟩ := H
                        go_wp2
                        go_ret2
                        exact ⟨by first | rfl | (simp; done) | (simp [*]; done), by repeat (first | exact Drawn0.refl _ | apply Drawn0.step)⟩
      case rest =>
        clear HC6
        try clear c1
        try clear p2
        try clear c3
        try clear c3b0
        try clear c4
        try clear c4b0
        try clear p5
        try clear q5
        try clear hx5
        try clear p6
        try clear c7
        try clear c7b0
        try clear c9
        try clear c9b0
        try clear c10
        try clear c12
        try clear c12b0
        try clear c13
        try clear c14
        try clear c14b0
        try clear c15
        try clear c15b0
        try clear p2
        try clear p5
        try clear p6
        try clear q5
        obtain ⟨kq, x7_5, x8_5, x9_5, rfl, rfl, rfl, HA, HJ5, ⟨mc5, rfl⟩⟩ := hcut
        cases kq with
        | zero => exact absurd HA.out (by simp [stileref01_Rune.j2])
        | succ kj5 =>
          have H := HA.out
          clear HA
          simp only [stileref01_Rune.j2] at H
          by_cases c16 : x7_5 > (wrap64 ((a0.size : Int) - a1))
          · rw [if_pos c16] at H
            have c16b0 : decide ((wrap64 ((a0.size : Int) - a1)) < x7_5) = true := decide_eq_true c16
            clear c16
            simp only [Option.some.injEq, Prod.mk.injEq] at H
            obtain ⟨rfl, rfl⟩ := H
            go_wp2
            go_ret2
            exact ⟨by first | rfl | (simp; done) | (simp [*]; done), by repeat (first | exact Drawn0.refl _ | apply Drawn0.step)⟩
          · rw [if_neg c16] at H
            have c16b0 : decide ((wrap64 ((a0.size : Int) - a1)) < x7_5) = false := decide_eq_false c16
            clear c16
            have H' := Aside0.mk H
            clear H
            go_wp2
            go_loopg [8, 10] kj5 (fun kq v8 v10 w' => ∃ (x8_2 : Int) (x10_2 : Int), v8 = .int .i64 x8_2 ∧ v10 = .int .i64 x10_2 ∧ Aside0 (stileref01_Rune.l0 kq a0 a1 x7_5 x8_2 x9_5 x10_2 = some (r1, r2)) ∧ Aside0 (kq ≤ kj5) ∧ Drawn0 w w')
            case atStart => exact ⟨(x8_5), (1), (by first | rfl | (simp; done) | (simp [*]; done)), (by first | rfl | (simp; done) | (simp [*]; done)), H', ⟨Nat.le_refl _⟩, by repeat (first | exact Drawn0.refl _ | apply Drawn0.step)⟩
            case round =>
              clear H'
              try clear c1
              try clear p2
              try clear c3
              try clear c3b0
              try clear c4
              try clear c4b0
              try clear c5
              try clear p5
              try clear q5
              try clear hx5
              try clear p6
              try clear c7
              try clear c7b0
              try clear c9
              try clear c9b0
              try clear c10
              try clear c12
              try clear c12b0
              try clear c13
              try clear c14
              try clear c14b0
              try clear c15
              try clear c15b0
              try clear c16
              try clear c16b0
              try clear p2
              try clear p5
              try clear p6
              try clear q5
              obtain ⟨x8_2, x10_2, rfl, rfl, HA, HK2, ⟨m2, rfl⟩⟩ := hrel
              cases gk with
              | zero => exact absurd HA.out (by simp [stileref01_Rune.l0])
              | succ k2 =>
                have H := HA.out
                clear HA
                simp only [stileref01_Rune.l0] at H
                by_cases c17 : x10_2 < x7_5
                · rw [if_pos c17] at H
                  have c17b0 : decide (x10_2 < x7_5) = true := decide_eq_true c17
                  clear c17
                  obtain ⟨ji18, hji18⟩ : ∃ j_ : Int, (wrap64 (a1 + x10_2)) = j_ := ⟨_, rfl⟩
                  replace H : (if 0 ≤ (ji18) then (if (ji18) < (a0.size : Int) then (if (wrap64 (bt a0 (ji18))) < 128 then (some (0, 0)) else (if (wrap64 (bt a0 (ji18))) > 191 then (some (0, 0)) else (stileref01_Rune.l0 k2 a0 a1 x7_5 (wrap64 ((wrap64 ((wrap64 (x8_2 * 64)) + (wrap64 (bt a0 (ji18))))) - 128)) x9_5 (wrap64 (x10_2 + 1))))) else (none)) else (none)) = some (r1, r2) := by first | (rw [hji18] at H; exact H) | (simp only [hji18] at H ⊢; exact H)
                  have hji18w : (IntKind.i64.wrap (a1 + x10_2)) = ji18 := (i64_w _).trans hji18
                  by_cases c19 : 0 ≤ (ji18)
                  · rw [if_pos c19] at H
                    have c19b0 : decide (0 ≤ (ji18)) = true := decide_eq_true c19
                    clear c19
                    by_cases c20 : (ji18) < (a0.size : Int)
                    · rw [if_pos c20] at H
                      have c20b0 : decide ((ji18) < (a0.size : Int)) = true := decide_eq_true c20
                      clear c20
                      by_cases c22 : (wrap64 (bt a0 (ji18))) < 128
                      · rw [if_pos c22] at H
                        have c22b0 : decide ((wrap64 (bt a0 (ji18))) < 128) = true := decide_eq_true c22
                        clear c22
                        simp only [Option.some.injEq, Prod.mk.injEq] at H
                        obtain ⟨rfl, rfl⟩ := H
                        have p21 : 0 ≤ ((ji18) : Int) := of_decide_eq_true (by first | (with_reducible assumption) | assumption)
                        have q21 : (ji18) < (a0.size : Int) := of_decide_eq_true (by first | (with_reducible assumption) | assumption)
                        have hx21 := bt_at a0 (ji18)
                        replace p21 := eq_true p21
                        replace q21 := eq_true q21
                        go_wp2
                        go_ret2
                        exact ⟨by first | rfl | (simp; done) | (simp only [← hji18] <;> (first | rfl | simp)) | (simp [*]; done), by repeat (first | exact Drawn0.refl _ | apply Drawn0.step)⟩
                      · rw [if_neg c22] at H
                        have c22b0 : decide ((wrap64 (bt a0 (ji18))) < 128) = false := decide_eq_false c22
                        clear c22
                        by_cases c23 : (wrap64 (bt a0 (ji18))) > 191
                        · rw [if_pos c23] at H
                          have c23b0 : decide (191 < (wrap64 (bt a0 (ji18)))) = true := decide_eq_true c23
                          clear c23
                          simp only [Option.some.injEq, Prod.mk.injEq] at H
                          obtain ⟨rfl, rfl⟩ := H
                          have p21 : 0 ≤ ((ji18) : Int) := of_decide_eq_true (by first | (with_reducible assumption) | assumption)
                          have q21 : (ji18) < (a0.size : Int) := of_decide_eq_true (by first | (with_reducible assumption) | assumption)
                          have hx21 := bt_at a0 (ji18)
                          replace p21 := eq_true p21
                          replace q21 := eq_true q21
                          go_wp2
                          go_ret2
                          exact ⟨by first | rfl | (simp; done) | (simp only [← hji18] <;> (first | rfl | simp)) | (simp [*]; done), by repeat (first | exact Drawn0.refl _ | apply Drawn0.step)⟩
                        · rw [if_neg c23] at H
                          have c23b0 : decide (191 < (wrap64 (bt a0 (ji18)))) = false := decide_eq_false c23
                          clear c23
                          have H' := Aside0.mk H
                          clear H
                          have p21 : 0 ≤ ((ji18) : Int) := of_decide_eq_true (by first | (with_reducible assumption) | assumption)
                          have q21 : (ji18) < (a0.size : Int) := of_decide_eq_true (by first | (with_reducible assumption) | assumption)
                          have hx21 := bt_at a0 (ji18)
                          replace p21 := eq_true p21
                          replace q21 := eq_true q21
                          go_wp2
                          go_roundg k2
                          case measure => have := HJ5.out; have := HK2.out; omega
                          case rel => exact ⟨(wrap64 ((wrap64 ((wrap64 (x8_2 * 64)) + (wrap64 (bt a0 (ji18))))) - 128)), (wrap64 (x10_2 + 1)), (by first | rfl | (simp; done) | (simp only [← hji18] <;> (first | rfl | simp)) | (simp [*]; done)), (by first | rfl | (simp; done) | (simp [*]; done)), H', ⟨by have := HJ5.out; have := HK2.out; omega⟩, by repeat (first | exact Drawn0.refl _ | apply Drawn0.step)⟩
                    · rw [if_neg c20] at H
                      exact absurd H (by simp)
                  · rw [if_neg c19] at H
                    exact absurd H (by simp)
                · rw [if_neg c17] at H
                  have c17b0 : decide (x10_2 < x7_5) = false := decide_eq_false c17
                  clear c17
                  by_cases c24 : x8_2 < x9_5
                  · rw [if_pos c24] at H
                    have c24b0 : decide (x8_2 < x9_5) = true := decide_eq_true c24
                    clear c24
                    simp only [Option.some.injEq, Prod.mk.injEq] at H
                    obtain ⟨rfl, rfl⟩ := H
                    go_wp2
                    go_ret2
                    exact ⟨by first | rfl | (simp; done) | (simp [*]; done), by repeat (first | exact Drawn0.refl _ | apply Drawn0.step)⟩
                  · rw [if_neg c24] at H
                    have c24b0 : decide (x8_2 < x9_5) = false := decide_eq_false c24
                    clear c24
                    by_cases c25 : x8_2 > 1114111
                    · rw [if_pos c25] at H
                      have c25b0 : decide (1114111 < x8_2) = true := decide_eq_true c25
                      clear c25
                      simp only [Option.some.injEq, Prod.mk.injEq] at H
                      obtain ⟨rfl, rfl⟩ := H
                      go_wp2
                      go_ret2
                      exact ⟨by first | rfl | (simp; done) | (simp [*]; done), by repeat (first | exact Drawn0.refl _ | apply Drawn0.step)⟩
                    · rw [if_neg c25] at H
                      have c25b0 : decide (1114111 < x8_2) = false := decide_eq_false c25
                      clear c25
                      by_cases c26 : x8_2 ≥ 55296
                      · rw [if_pos c26] at H
                        have c26b0 : decide (55296 ≤ x8_2) = true := decide_eq_true c26
                        clear c26
                        by_cases c27 : x8_2 ≤ 57343
                        · rw [if_pos c27] at H
                          have c27b0 : decide (x8_2 ≤ 57343) = true := decide_eq_true c27
                          clear c27
                          simp only [Option.some.injEq, Prod.mk.injEq] at H
                          obtain ⟨rfl, rfl⟩ := H
                          go_wp2
                          go_ret2
                          exact ⟨by first | rfl | (simp; done) | (simp [*]; done), by repeat (first | exact Drawn0.refl _ | apply Drawn0.step)⟩
                        · rw [if_neg c27] at H
                          have c27b0 : decide (x8_2 ≤ 57343) = false := decide_eq_false c27
                          clear c27
                          simp only [Option.some.injEq, Prod.mk.injEq] at H
                          obtain ⟨rfl, rfl⟩ := H
                          go_wp2
                          go_ret2
                          exact ⟨by first | rfl | (simp; done) | (simp [*]; done), by repeat (first | exact Drawn0.refl _ | apply Drawn0.step)⟩
                      · rw [if_neg c26] at H
                        have c26b0 : decide (55296 ≤ x8_2) = false := decide_eq_false c26
                        clear c26
                        simp only [Option.some.injEq, Prod.mk.injEq] at H
                        obtain ⟨rfl, rfl⟩ := H
                        go_wp2
                        go_ret2
                        exact ⟨by first | rfl | (simp; done) | (simp [*]; done), by repeat (first | exact Drawn0.refl _ | apply Drawn0.step)⟩
    · rw [if_neg c4] at H
      exact absurd H (by simp)
  · rw [if_neg c3] at H
    exact absurd H (by simp)

/-! ### stileref01_Runes -/
def stileref01_Runes.l0 : Nat → ByteArray → List Int → Int → Option (List Int × Bool)
  | 0, _, _, _ => none
  | k + 1, x0, x4, x5 => if x5 < (x0.size : Int) then ((stileref01_Rune.f k x0 x5).bind fun bt116 => (if bt116.2 = 0 then (some (([] : List Int), false)) else (if x4.length < 17592186044416 then (stileref01_Runes.l0 k x0 (x4 ++ [bt116.1]) (wrap64 (x5 + bt116.2))) else (none)))) else (some (x4, true))
def stileref01_Runes.f (k : Nat) (a0 : ByteArray) : Option (List Int × Bool) := stileref01_Runes.l0 k a0 ([] : List Int) 0
theorem stileref01_Runes.mono_l : ∀ k, (∀ y0 y1 y2, LeO (stileref01_Runes.l0 k y0 y1 y2) (stileref01_Runes.l0 (k + 1) y0 y1 y2))
  | 0 => fun _ _ _ r h => by simp [stileref01_Runes.l0] at h
  | k + 1 => by
    have ih0 := stileref01_Runes.mono_l k
    · intro y0 y1 y2
      unfold stileref01_Runes.l0
      repeat' first
      | (with_reducible exact ih0 _ _ _)
      | (with_reducible exact stileref01_Rune.mono _ _ _)
      | (with_reducible exact LeO.refl _)
      | (with_reducible exact LeO.none _)
      | (with_reducible refine LeO.ite ?_ ?_)
      | (with_reducible refine LeO.bind ?_ (fun _ => ?_))
      | exact ih0 _ _ _
      | exact stileref01_Rune.mono _ _ _
      | exact LeO.none _
      | refine LeO.ite ?_ ?_
      | refine LeO.bind ?_ (fun _ => ?_)
theorem stileref01_Runes.mono : ∀ a0 k, LeO (stileref01_Runes.f k a0) (stileref01_Runes.f (k + 1) a0) := by
  intro a0 k
  have ih0 := stileref01_Runes.mono_l k
  unfold stileref01_Runes.f
  repeat' first
      | (with_reducible exact ih0 _ _ _)
      | (with_reducible exact stileref01_Rune.mono _ _ _)
      | (with_reducible exact LeO.refl _)
      | (with_reducible exact LeO.none _)
      | (with_reducible refine LeO.ite ?_ ?_)
      | (with_reducible refine LeO.bind ?_ (fun _ => ?_))
      | exact ih0 _ _ _
      | exact stileref01_Rune.mono _ _ _
      | exact LeO.none _
      | refine LeO.ite ?_ ?_
      | refine LeO.bind ?_ (fun _ => ?_)
set_option maxHeartbeats 8000000 in
set_option maxRecDepth 100000 in
theorem stileref01_Runes.calls (k : Nat) (a0 : ByteArray) (r1 : List Int) (r2 : Bool) (w : World) (h : stileref01_Runes.f k a0 = some (r1, r2)) :
    Calls Tryd.prog 50 #[.string a0] w fun e w' => ∃ v0_ : Value, e = .returned (.tuple #[v0_, .bool r2]) ∧ Kd.R (Kd.int .i64) 3 w' w.heap.size (fun _ => True) v0_ r1 ∧ Below w.heap.size w w' := by
  have HB := Aside0.mk (Below.refl w.heap.size w)
  have H : (stileref01_Runes.l0 k a0 ([] : List Int) 0) = some (r1, r2) := h
  clear h
  have H' := Aside0.mk H
  clear H
  go_enter Tryd.func50, Tryd.ntmps50
  go_wp2
  go_loopg [4, 5] k (fun kq v4 v5 w' => ∃ (x4_1 : List Int) (x5_1 : Int), v5 = .int .i64 x5_1 ∧ Aside0 (stileref01_Runes.l0 kq a0 x4_1 x5_1 = some (r1, r2)) ∧ Aside0 (kq ≤ k) ∧ Aside0 (Kd.R (Kd.int .i64) 3 w' w.heap.size (fun _ => True) v4 x4_1) ∧ Aside0 (Below w.heap.size w w'))
  case atStart => exact ⟨(([] : List Int)), (0), (by first | rfl | (simp; done) | (simp [*]; done)), H', ⟨Nat.le_refl _⟩, ⟨by first | exact Kd.R_nil _ _ _ _ _ | exact Kd.N_nil _ _ _ _ _ | exact Kd.V_nil _ _ _ _ _ | exact Kd.Q_nil _ _ _ _ _ | exact Kd.S_nil _ _ _ _ _⟩, ⟨by repeat (first | (with_reducible first | exact HB.out | apply below_alloc | apply pw_below_drewN | apply below_drew1) | exact HB.out)⟩⟩
  case round =>
    clear H'
    obtain ⟨x4_1, x5_1, rfl, HA, HK1, HO_4, HB⟩ := hrel
    cases gk with
    | zero => exact absurd HA.out (by simp [stileref01_Runes.l0])
    | succ k1 =>
      have H := HA.out
      clear HA
      simp only [stileref01_Runes.l0] at H
      by_cases c2 : x5_1 < (a0.size : Int)
      · rw [if_pos c2] at H
        have c2b0 : decide (x5_1 < (a0.size : Int)) = true := decide_eq_true c2
        clear c2
        replace H := Option.bind_eq_some_iff.mp H
        obtain ⟨⟨t116, t117⟩, A30, H⟩ := H
        replace H : (if t117 = 0 then (some (([] : List Int), false)) else (if x4_1.length < 17592186044416 then (stileref01_Runes.l0 k1 a0 (x4_1 ++ [t116]) (wrap64 (x5_1 + t117))) else (none))) = some (r1, r2) := H
        have A3 := Aside0.mk A30
        clear A30
        by_cases c4 : t117 = 0
        · rw [if_pos c4] at H
          have c4b0 : (t117 == 0) = true := beq_iff_eq.mpr c4
          have c4b1 : (t117 != 0) = false := bne_eq_false_iff_eq.mpr c4
          clear c4
          simp only [Option.some.injEq, Prod.mk.injEq] at H
          obtain ⟨rfl, rfl⟩ := H
          go_wp2_with (first | ((with_reducible refine gate_callee (f := 56) rfl ?_); refine goesL_ (some 15) rfl rfl Tryd.func56 (by kernel_rfl) rfl #[.string a0, .int .i64 x5_1] rfl (by (try simp only [List.map_toArray, List.map_cons, List.map_nil]); first | done | rfl | (simp only [List.length_drop, List.length_take]; rfl)) ?_; (with_reducible refine (stileref01_Rune.calls k1 a0 x5_1 t116 t117 _ A3.out).mono ?_); rintro e w' ⟨rfl, ⟨nd, rfl⟩⟩; refine ⟨_, rfl, ?_⟩))
          go_ret2
          exact ⟨_, by first | rfl | (simp [errW_none, errW_some] <;> rfl) | (simp [*, errW_none, errW_some] <;> rfl), by first | exact Kd.R_nil _ _ _ _ _ | exact Kd.N_nil _ _ _ _ _ | exact Kd.V_nil _ _ _ _ _ | exact Kd.Q_nil _ _ _ _ _ | exact Kd.S_nil _ _ _ _ _, by repeat (first | (with_reducible first | exact HB.out | apply below_alloc | apply pw_below_drewN | apply below_drew1) | exact HB.out)⟩
        · rw [if_neg c4] at H
          have c4b0 : (t117 == 0) = false := beq_eq_false_iff_ne.mpr c4
          have c4b1 : (t117 != 0) = true := bne_iff_ne.mpr c4
          by_cases c5 : x4_1.length < 17592186044416
          · rw [if_pos c5] at H
            have LMc5 := Aside0.mk c5
            clear c5
            obtain ⟨y118, hy118⟩ : ∃ y_ : List Int, y_ = (x4_1 ++ [t116]) := ⟨_, rfl⟩
            replace H : (stileref01_Runes.l0 k1 a0 y118 (wrap64 (x5_1 + t117))) = some (r1, r2) := by first | (rw [hy118]; with_reducible exact H) | (have H2_ := (Option.bind_some _ _).symm.trans H; rw [hy118]; with_reducible exact H2_) | (have H2_ := (Option.bind_some _ _).symm.trans H; with_reducible exact H2_) | with_reducible exact H | (rw [hy118]; exact H) | exact H
            have Ny118 := Aside0.mk hy118
            clear hy118
            have H' := Aside0.mk H
            clear H
            go_wp2_with (first | ((with_reducible refine gate_callee (f := 56) rfl ?_); refine goesL_ (some 15) rfl rfl Tryd.func56 (by kernel_rfl) rfl #[.string a0, .int .i64 x5_1] rfl (by (try simp only [List.map_toArray, List.map_cons, List.map_nil]); first | done | rfl | (simp only [List.length_drop, List.length_take]; rfl)) ?_; (with_reducible refine (stileref01_Rune.calls k1 a0 x5_1 t116 t117 _ A3.out).mono ?_); rintro e w' ⟨rfl, ⟨nd, rfl⟩⟩; refine ⟨_, rfl, ?_⟩) | ((with_reducible refine gate_builtin (b := .append) (xs := #[.tmp 20, .tmp 22]) rfl ?_); at_builtin; refine Kd.R_append (Kd.int .i64) (w0 := w) w.heap.size rfl (.tmp 20) (.tmp 22) 73 3 (.int .i64 0) 8 rfl Tryd.underlying73 info3 rfl (by decide) (by omega) u4 x4_1 t116 [.int .i64 t116] (fun _ => True) (fun _ => False) rfl rfl ?aP (fun _ hk => hk.elim) ?aF ?aO ?aB ?aS ?aL ?_; (case aP => exact rfl); (case aB => exact (by repeat (first | (with_reducible first | exact HB.out | apply below_alloc | apply pw_below_drewN | apply below_drew1) | exact HB.out))); (case aF => exact (fun _ _ => trivial)); (case aO => exact (by (with_reducible repeat (first | apply Kd.R_alloc | apply Kd.R_drewN | apply Kd.R_drew)); exact HO_4.out)); (case aS => exact (below_size (by repeat (first | (with_reducible first | exact HB.out | apply below_alloc | apply pw_below_drewN | apply below_drew1) | exact HB.out)))); (case aL => have := LMc5.out; omega); intro v119 w6 ho hb hg hat; rw [← Ny118.out] at ho; have n0_ := Aside0.mk (hb); have n1_ := Aside0.mk (ho); clear HB; clear HO_4; have HB := n0_; have HO120 := n1_; clear n0_ n1_; clear ho hb hg hat))
            go_roundg k1
            case measure => have := HK1.out; omega
            case rel => exact ⟨(y118), (wrap64 (x5_1 + t117)), (by first | rfl | (simp; done) | (simp [*]; done)), H', ⟨by have := HK1.out; omega⟩, ⟨by (with_reducible repeat (first | apply Kd.R_alloc | apply Kd.R_drewN | apply Kd.R_drew)); exact HO120.out⟩, ⟨by repeat (first | (with_reducible first | exact HB.out | apply below_alloc | apply pw_below_drewN | apply below_drew1) | exact HB.out)⟩⟩
          · rw [if_neg c5] at H
            exact absurd H (by simp)
      · rw [if_neg c2] at H
        have c2b0 : decide (x5_1 < (a0.size : Int)) = false := decide_eq_false c2
        clear c2
        simp only [Option.some.injEq, Prod.mk.injEq] at H
        obtain ⟨rfl, rfl⟩ := H
        go_wp2
        go_ret2
        exact ⟨_, by first | rfl | (simp [errW_none, errW_some] <;> rfl) | (simp [*, errW_none, errW_some] <;> rfl), by (with_reducible repeat (first | apply Kd.R_alloc | apply Kd.R_drewN | apply Kd.R_drew)); exact HO_4.out, by repeat (first | (with_reducible first | exact HB.out | apply below_alloc | apply pw_below_drewN | apply below_drew1) | exact HB.out)⟩

/-! ### stileref02_Cut -/
def stileref02_Cut.l0 : Nat → ByteArray → Int → Int → Option (ByteArray × ByteArray × Bool)
  | 0, _, _, _ => none
  | k + 1, x0, x1, x7 => if x7 < (x0.size : Int) then (if 0 ≤ x7 then (if (bt x0 x7) = x1 then (if x7 ≤ (x0.size : Int) then (if 0 ≤ (wrap64 (x7 + 1)) then (if (wrap64 (x7 + 1)) ≤ (x0.size : Int) then (some (x0.extract 0 (x7 : Int).toNat, x0.extract ((wrap64 (x7 + 1)) : Int).toNat x0.size, true)) else (none)) else (none)) else (none)) else (stileref02_Cut.l0 k x0 x1 (wrap64 (x7 + 1)))) else (none)) else (some (x0, (⟨#[]⟩ : ByteArray), false))
def stileref02_Cut.f (k : Nat) (a0 : ByteArray) (a1 : Int) : Option (ByteArray × ByteArray × Bool) := stileref02_Cut.l0 k a0 a1 0
theorem stileref02_Cut.mono_l : ∀ k, (∀ y0 y1 y2, LeO (stileref02_Cut.l0 k y0 y1 y2) (stileref02_Cut.l0 (k + 1) y0 y1 y2))
  | 0 => fun _ _ _ r h => by simp [stileref02_Cut.l0] at h
  | k + 1 => by
    have ih0 := stileref02_Cut.mono_l k
    · intro y0 y1 y2
      unfold stileref02_Cut.l0
      repeat' first
      | (with_reducible exact ih0 _ _ _)
      | (with_reducible exact LeO.refl _)
      | (with_reducible exact LeO.none _)
      | (with_reducible refine LeO.ite ?_ ?_)
      | (with_reducible refine LeO.bind ?_ (fun _ => ?_))
      | exact ih0 _ _ _
      | exact LeO.none _
      | refine LeO.ite ?_ ?_
      | refine LeO.bind ?_ (fun _ => ?_)
theorem stileref02_Cut.mono : ∀ a0 a1 k, LeO (stileref02_Cut.f k a0 a1) (stileref02_Cut.f (k + 1) a0 a1) := by
  intro a0 a1 k
  have ih0 := stileref02_Cut.mono_l k
  unfold stileref02_Cut.f
  repeat' first
      | (with_reducible exact ih0 _ _ _)
      | (with_reducible exact LeO.refl _)
      | (with_reducible exact LeO.none _)
      | (with_reducible refine LeO.ite ?_ ?_)
      | (with_reducible refine LeO.bind ?_ (fun _ => ?_))
      | exact ih0 _ _ _
      | exact LeO.none _
      | refine LeO.ite ?_ ?_
      | refine LeO.bind ?_ (fun _ => ?_)
end Go.Proofs.YtmilpfccgggmkaaDoor.Prn

/- The program's layer who: split, Good, One, Set, All, Subject, Of, Object, Text. -/
namespace Go.Proofs.YtmilpfccgggmkaaDoor.Who
open Go.RowKit Go.Proofs.YtmilpfccgggmkaaDoorW.PrintWords Go.Proofs.YtmilpfccgggmkaaDoor.Utf Go.Proofs.YtmilpfccgggmkaaDoor.Arr Go.Proofs.YtmilpfccgggmkaaDoor.Gly
set_option linter.unusedVariables false
set_option linter.unusedSimpArgs false

abbrev big (n : Nat) : Prop := n ≤ 1000000000

/-! ### objects -/
theorem name_as (b : Bool) (s : ByteArray) (hb : nameB s = b) (hs : s.size ≤ 9223372036854775807) (w : World) :
    Calls Tryd.prog 49 #[.string s] w fun e w' => e = .returned (.bool b) ∧ Below w.heap.size w w' := by
  subst hb
  exact name_calls s hs w
theorem id_as (b : Bool) (s : ByteArray) (hb : idB s = b) (hs : s.size ≤ 9223372036854775807) (w : World) (hT : Tabs w) :
    Calls Tryd.prog 54 #[.string s] w fun e w' => e = .returned (.bool b) ∧ Below w.heap.size w w' := by
  subst hb
  exact id_calls s hs w hT
def goodB (t i : ByteArray) : Bool := nameB t && idB i
set_option maxHeartbeats 2000000 in
set_option maxRecDepth 100000 in
theorem good_calls (t i : ByteArray) (ht : t.size ≤ 9223372036854775807) (hi : i.size ≤ 9223372036854775807) (w : World) (hT : Tabs w) :
    Calls Tryd.prog 47 #[.agg #[.string t, .string i]] w fun e w' => e = .returned (.bool (goodB t i)) ∧ Below w.heap.size w w' := by
  have B0 := Blk.new w 71 #[.string t, .string i]
  have hb0 : Below w.heap.size w (w.alloc (.cells #[.string t, .string i] 71)) := (Below.refl _ _).alloc (Nat.le_refl _) _
  have HT := Aside0.mk (Tabs.below hT hb0)
  clear hT
  obtain ⟨W0, hW0⟩ : ∃ W0, W0 = w.alloc (.cells #[.string t, .string i] 71) := ⟨_, rfl⟩
  unfold goodB
  cases hn : nameB t with
  | false =>
    have HN := Aside0.mk hn
    clear hn B0
    rw [Bool.false_and]
    go_enter Tryd.func47, Tryd.ntmps47
    go_wp2_with (go_at_call 49; refine (name_as false t HN.out ht _).mono ?_; rintro e w1 ⟨rfl, hb1⟩)
    go_ret
    exact ⟨rfl, hb0.trans (hb1.mono hb0.size)⟩
  | true =>
    have HN := Aside0.mk hn
    clear hn
    rw [Bool.true_and]
    cases hd : idB i with
    | _ =>
      have HD := Aside0.mk hd
      clear hd
      go_enter Tryd.func47, Tryd.ntmps47
      go_wp2_with (first
        | (go_at_call 49; refine (name_as true t HN.out ht _).mono ?_; rintro e w1 ⟨rfl, hb1⟩; have c1 := (B0.below hb1).cell 1)
        | (go_at_call 54; refine (id_as _ i HD.out hi _ (Tabs.below HT.out hb1)).mono ?_; rintro e w2 ⟨rfl, hb2⟩))
      go_ret
      exact ⟨rfl, hb0.trans ((hb1.trans (hb2.mono hb1.size)).mono hb0.size)⟩

/-! ### subjects -/
theorem good_as (b : Bool) (t i : ByteArray) (hb : goodB t i = b) (ht : t.size ≤ 9223372036854775807) (hi : i.size ≤ 9223372036854775807) (w : World) (hT : Tabs w) :
    Calls Tryd.prog 47 #[.agg #[.string t, .string i]] w fun e w' => e = .returned (.bool b) ∧ Below w.heap.size w w' := by
  subst hb
  exact good_calls t i ht hi w hT
set_option maxHeartbeats 1000000 in
theorem object_calls (t i r : ByteArray) (w : World) :
    Calls Tryd.prog 53 #[.agg #[.string t, .string i, .string r]] w fun e w' => e = .returned (.agg #[.string t, .string i]) ∧ Below w.heap.size w w' := by
  go_enter Tryd.func53, Tryd.ntmps53
  go_wp2
  exact bodyPost_ret (v := .agg #[.string t, .string i]) (by simp [results, Tryd.results53, go_sem]) rfl ⟨rfl, ((Below.refl _ _).alloc (Nat.le_refl _) _).alloc (by simp) _⟩
def oneB (t i r : ByteArray) : Bool := goodB t i && r.toList.isEmpty
def setB (t i r : ByteArray) : Bool := goodB t i && nameB r
def allB (t i r : ByteArray) : Bool := nameB t && (i.toList == [42]) && r.toList.isEmpty
def subjB (t i r : ByteArray) : Bool := oneB t i r || setB t i r || allB t i r
theorem box_below (w : World) (cs : Array Value) (T : TypeId) : Below w.heap.size w (w.alloc (.cells cs T)) := (Below.refl _ _).alloc (Nat.le_refl _) _
set_option maxHeartbeats 2000000 in
set_option maxRecDepth 100000 in
theorem one_calls (t i r : ByteArray) (ht : t.size ≤ 9223372036854775807) (hi : i.size ≤ 9223372036854775807) (w : World) (hT : Tabs w) :
    Calls Tryd.prog 44 #[.agg #[.string t, .string i, .string r]] w fun e w' => e = .returned (.bool (oneB t i r)) ∧ Below w.heap.size w w' := by
  have B0 := Blk.new w 40 #[.string t, .string i, .string r]
  have hb0 := box_below w #[.string t, .string i, .string r] 40
  have HT := Aside0.mk (Tabs.below hT hb0)
  clear hT
  unfold oneB
  cases hg : goodB t i with
  | false =>
    have HG := Aside0.mk hg
    clear hg B0
    rw [Bool.false_and]
    go_enter Tryd.func44, Tryd.ntmps44
    go_wp2_with (first
      | (go_at_call 53; refine (object_calls t i r _).mono ?_; rintro e w1 ⟨rfl, hb1⟩)
      | (go_at_call 47; refine (good_as false t i HG.out ht hi _ (Tabs.below HT.out hb1)).mono ?_; rintro e w2 ⟨rfl, hb2⟩))
    go_ret
    exact ⟨rfl, hb0.trans ((hb1.trans (hb2.mono hb1.size)).mono hb0.size)⟩
  | true =>
    have HG := Aside0.mk hg
    clear hg
    rw [Bool.true_and]
    go_enter Tryd.func44, Tryd.ntmps44
    go_wp2_with (first
      | (go_at_call 53; refine (object_calls t i r _).mono ?_; rintro e w1 ⟨rfl, hb1⟩)
      | (go_at_call 47; refine (good_as true t i HG.out ht hi _ (Tabs.below HT.out hb1)).mono ?_; rintro e w2 ⟨rfl, hb2⟩; have c2 := ((B0.below hb1).below hb2).cell 2))
    go_ret
    exact ⟨rfl, hb0.trans ((hb1.trans (hb2.mono hb1.size)).mono hb0.size)⟩
set_option maxHeartbeats 2000000 in
set_option maxRecDepth 100000 in
theorem set_calls (t i r : ByteArray) (ht : t.size ≤ 9223372036854775807) (hi : i.size ≤ 9223372036854775807) (hr : r.size ≤ 9223372036854775807) (w : World) (hT : Tabs w) :
    Calls Tryd.prog 45 #[.agg #[.string t, .string i, .string r]] w fun e w' => e = .returned (.bool (setB t i r)) ∧ Below w.heap.size w w' := by
  have B0 := Blk.new w 40 #[.string t, .string i, .string r]
  have hb0 := box_below w #[.string t, .string i, .string r] 40
  have HT := Aside0.mk (Tabs.below hT hb0)
  clear hT
  unfold setB
  cases hg : goodB t i with
  | false =>
    have HG := Aside0.mk hg
    clear hg B0
    rw [Bool.false_and]
    go_enter Tryd.func45, Tryd.ntmps45
    go_wp2_with (first
      | (go_at_call 53; refine (object_calls t i r _).mono ?_; rintro e w1 ⟨rfl, hb1⟩)
      | (go_at_call 47; refine (good_as false t i HG.out ht hi _ (Tabs.below HT.out hb1)).mono ?_; rintro e w2 ⟨rfl, hb2⟩))
    go_ret
    exact ⟨rfl, hb0.trans ((hb1.trans (hb2.mono hb1.size)).mono hb0.size)⟩
  | true =>
    have HG := Aside0.mk hg
    clear hg
    rw [Bool.true_and]
    go_enter Tryd.func45, Tryd.ntmps45
    go_wp2_with (first
      | (go_at_call 53; refine (object_calls t i r _).mono ?_; rintro e w1 ⟨rfl, hb1⟩)
      | (go_at_call 47; refine (good_as true t i HG.out ht hi _ (Tabs.below HT.out hb1)).mono ?_; rintro e w2 ⟨rfl, hb2⟩; have c2 := ((B0.below hb1).below hb2).cell 2)
      | (go_at_call 49; refine (name_as _ r rfl hr _).mono ?_; rintro e w3 ⟨rfl, hb3⟩))
    go_ret
    exact ⟨rfl, hb0.trans (((hb1.trans (hb2.mono hb1.size)).trans (hb3.mono (Nat.le_trans hb1.size hb2.size))).mono hb0.size)⟩
set_option maxHeartbeats 2000000 in
set_option maxRecDepth 100000 in
theorem all_calls (t i r : ByteArray) (ht : t.size ≤ 9223372036854775807) (w : World) :
    Calls Tryd.prog 46 #[.agg #[.string t, .string i, .string r]] w fun e w' => e = .returned (.bool (allB t i r)) ∧ Below w.heap.size w w' := by
  have B0 := Blk.new w 40 #[.string t, .string i, .string r]
  have hb0 := box_below w #[.string t, .string i, .string r] 40
  unfold allB
  cases hn : nameB t with
  | false =>
    have HN := Aside0.mk hn
    clear hn B0
    rw [Bool.false_and, Bool.false_and]
    go_enter Tryd.func46, Tryd.ntmps46
    go_wp2_with (go_at_call 49; refine (name_as false t HN.out ht _).mono ?_; rintro e w1 ⟨rfl, hb1⟩)
    go_ret
    exact ⟨rfl, hb0.trans (hb1.mono hb0.size)⟩
  | true =>
    have HN := Aside0.mk hn
    clear hn
    rw [Bool.true_and]
    cases hs : (i.toList == [42]) with
    | false =>
      rw [Bool.false_and]
      go_enter Tryd.func46, Tryd.ntmps46
      go_wp2_with (go_at_call 49; refine (name_as true t HN.out ht _).mono ?_; rintro e w1 ⟨rfl, hb1⟩; have c1 := (B0.below hb1).cell 1)
      go_ret
      exact ⟨rfl, hb0.trans (hb1.mono hb0.size)⟩
    | true =>
      rw [Bool.true_and]
      go_enter Tryd.func46, Tryd.ntmps46
      go_wp2_with (go_at_call 49; refine (name_as true t HN.out ht _).mono ?_; rintro e w1 ⟨rfl, hb1⟩; have c1 := (B0.below hb1).cell 1; have c2 := (B0.below hb1).cell 2)
      go_ret
      exact ⟨rfl, hb0.trans (hb1.mono hb0.size)⟩
theorem one_as (b : Bool) (t i r : ByteArray) (hb : oneB t i r = b) (ht : t.size ≤ 9223372036854775807) (hi : i.size ≤ 9223372036854775807) (w : World) (hT : Tabs w) :
    Calls Tryd.prog 44 #[.agg #[.string t, .string i, .string r]] w fun e w' => e = .returned (.bool b) ∧ Below w.heap.size w w' := by
  subst hb
  exact one_calls t i r ht hi w hT
theorem set_as (b : Bool) (t i r : ByteArray) (hb : setB t i r = b) (ht : t.size ≤ 9223372036854775807) (hi : i.size ≤ 9223372036854775807) (hr : r.size ≤ 9223372036854775807) (w : World) (hT : Tabs w) :
    Calls Tryd.prog 45 #[.agg #[.string t, .string i, .string r]] w fun e w' => e = .returned (.bool b) ∧ Below w.heap.size w w' := by
  subst hb
  exact set_calls t i r ht hi hr w hT
theorem all_as (b : Bool) (t i r : ByteArray) (hb : allB t i r = b) (ht : t.size ≤ 9223372036854775807) (w : World) :
    Calls Tryd.prog 46 #[.agg #[.string t, .string i, .string r]] w fun e w' => e = .returned (.bool b) ∧ Below w.heap.size w w' := by
  subst hb
  exact all_calls t i r ht w
set_option maxHeartbeats 2000000 in
set_option maxRecDepth 100000 in
theorem subject_calls (t i r : ByteArray) (ht : t.size ≤ 9223372036854775807) (hi : i.size ≤ 9223372036854775807) (hr : r.size ≤ 9223372036854775807) (w : World) (hT : Tabs w) :
    Calls Tryd.prog 39 #[.agg #[.string t, .string i, .string r]] w fun e w' => e = .returned (.bool (subjB t i r)) ∧ Below w.heap.size w w' := by
  have B0 := Blk.new w 40 #[.string t, .string i, .string r]
  have hb0 := box_below w #[.string t, .string i, .string r] 40
  have HT := Aside0.mk (Tabs.below hT hb0)
  clear hT
  unfold subjB
  cases h1 : oneB t i r with
  | true =>
    have H1 := Aside0.mk h1
    clear h1 B0
    rw [Bool.true_or, Bool.true_or]
    go_enter Tryd.func39, Tryd.ntmps39
    go_wp2_with (go_at_call 44; refine (one_as true t i r H1.out ht hi _ HT.out).mono ?_; rintro e w1 ⟨rfl, hb1⟩)
    go_ret
    exact ⟨rfl, hb0.trans (hb1.mono hb0.size)⟩
  | false =>
    have H1 := Aside0.mk h1
    clear h1
    rw [Bool.false_or]
    cases h2 : setB t i r with
    | true =>
      have H2 := Aside0.mk h2
      clear h2
      rw [Bool.true_or]
      go_enter Tryd.func39, Tryd.ntmps39
      go_wp2_with (first
        | (go_at_call 44; refine (one_as false t i r H1.out ht hi _ HT.out).mono ?_; rintro e w1 ⟨rfl, hb1⟩; have c0 := (B0.below hb1).cell 0; have c1 := (B0.below hb1).cell 1; have c2 := (B0.below hb1).cell 2)
        | (go_at_call 45; refine (set_as true t i r H2.out ht hi hr _ (Tabs.below HT.out hb1)).mono ?_; rintro e w2 ⟨rfl, hb2⟩))
      go_ret
      exact ⟨rfl, hb0.trans ((hb1.trans (hb2.mono hb1.size)).mono hb0.size)⟩
    | false =>
      have H2 := Aside0.mk h2
      clear h2
      rw [Bool.false_or]
      go_enter Tryd.func39, Tryd.ntmps39
      go_wp2_with (first
        | (go_at_call 44; refine (one_as false t i r H1.out ht hi _ HT.out).mono ?_; rintro e w1 ⟨rfl, hb1⟩; have c0 := (B0.below hb1).cell 0; have c1 := (B0.below hb1).cell 1; have c2 := (B0.below hb1).cell 2)
        | (go_at_call 45; refine (set_as false t i r H2.out ht hi hr _ (Tabs.below HT.out hb1)).mono ?_; rintro e w2 ⟨rfl, hb2⟩; have d0 := ((B0.below hb1).below hb2).cell 0; have d1 := ((B0.below hb1).below hb2).cell 1; have d2 := ((B0.below hb1).below hb2).cell 2)
        | (go_at_call 46; refine (all_as _ t i r rfl ht _).mono ?_; rintro e w3 ⟨rfl, hb3⟩))
      go_ret
      exact ⟨rfl, hb0.trans (((hb1.trans (hb2.mono hb1.size)).trans (hb3.mono (Nat.le_trans hb1.size hb2.size))).mono hb0.size)⟩
theorem subject_as (b : Bool) (t i r : ByteArray) (hb : subjB t i r = b) (ht : t.size ≤ 9223372036854775807) (hi : i.size ≤ 9223372036854775807) (hr : r.size ≤ 9223372036854775807) (w : World) (hT : Tabs w) :
    Calls Tryd.prog 39 #[.agg #[.string t, .string i, .string r]] w fun e w' => e = .returned (.bool b) ∧ Below w.heap.size w w' := by
  subst hb
  exact subject_calls t i r ht hi hr w hT
end Go.Proofs.YtmilpfccgggmkaaDoor.Who

/- The program's layer who: Text, Of, Read, ReadObject. -/
namespace Go.Proofs.YtmilpfccgggmkaaDoor.Who
open Go.RowKit Go.Proofs.YtmilpfccgggmkaaDoorW.PrintWords Go.Proofs.YtmilpfccgggmkaaDoor.Utf Go.Proofs.YtmilpfccgggmkaaDoor.Arr Go.Proofs.YtmilpfccgggmkaaDoor.Gly
set_option linter.unusedVariables false
set_option linter.unusedSimpArgs false

def textV (t i r : ByteArray) : ByteArray := if r.toList = [] then (t ++ one 58) ++ i else ((t ++ one 58) ++ i) ++ (one 35 ++ r)
theorem ret_str {a b : ByteArray} (h : a = b) : Ending.returned (.string a) = .returned (.string b) := by rw [h]
theorem isEmpty_of {l : List UInt8} (h : l ≠ []) : l.isEmpty = false := by
  cases l with
  | nil => exact absurd rfl h
  | cons _ _ => rfl
def readOk (s : ByteArray) : Bool := subjB (cutA s 58) (cutA (cutB s 58) 35) (cutB (cutB s 58) 35) && ((textV (cutA s 58) (cutA (cutB s 58) 35) (cutB (cutB s 58) 35)).toList == s.toList)
theorem list_ne {a b : List UInt8} (h : (a == b) = false) : (a != b) = true := by simp [bne, h]
theorem list_eq {a b : List UInt8} (h : (a == b) = true) : (a != b) = false := by simp [bne, h]
/-- The empty subject, as a block's cells. -/
abbrev noCells : Array Value := #[.string ⟨#[]⟩, .string ⟨#[]⟩, .string ⟨#[]⟩]

end Go.Proofs.YtmilpfccgggmkaaDoor.Who

/- The reference's runes: what the printed functions come to. -/
namespace Go.Proofs.YtmilpfccgggmkaaDoor.Glr
open Go.RowKit Go.Proofs.YtmilpfccgggmkaaDoorW.PrintWords Go.Proofs.YtmilpfccgggmkaaDoor.Utf Go.Proofs.YtmilpfccgggmkaaDoor.Prn
set_option linter.unusedVariables false
set_option linter.unusedSimpArgs false

theorem w64 (x : Int) (h0 : -9223372036854775808 ≤ x) (h1 : x ≤ 9223372036854775807) : wrap64 x = x := by unfold wrap64; omega
theorem wgb (s : ByteArray) (i : Nat) (h : i < s.size) : wrap64 (bt s (i : Int)) = (gb s i : Int) := by
  rw [bt_gb s i h]
  have := gb_lt s i
  exact w64 _ (by omega) (by omega)

def refV (d : Nat × Nat) : Int × Int := if (d.1 == 65533 && d.2 == 1) = true then (0, 0) else ((d.1 : Int), (d.2 : Int))
theorem refV_bad : refV (65533, 1) = (0, 0) := rfl
theorem refV_of (c m : Nat) (h : m ≠ 1) : refV (c, m) = ((c : Int), (m : Int)) := by
  unfold refV
  rw [beq_eq_false_iff_ne.2 h, Bool.and_false]
  rfl
/-- What the reference's Rune tells. -/
def runeV (s : ByteArray) (p : Nat) : Int × Int := refV (Utf8.decode s p)
theorem runeV_eq (s : ByteArray) (p : Nat) : runeV s p = if brokenB s p = true then (0, 0) else (((Utf8.decode s p).1 : Int), ((Utf8.decode s p).2 : Int)) := rfl
theorem dN_one (n b0 b1 b2 b3 : Nat) (h : b0 < 128) : Lib.decodeN n b0 b1 b2 b3 = (b0, 1) := by unfold Lib.decodeN; rw [if_pos h]
theorem dN_bad (n b0 b1 b2 b3 : Nat) (h : (128 ≤ b0 ∧ b0 < 192) ∨ (248 ≤ b0 ∧ b0 < 256)) : Lib.decodeN n b0 b1 b2 b3 = (65533, 1) := by
  unfold Lib.decodeN; rw [if_neg (by omega), if_neg (by omega), if_neg (by omega), if_neg (by omega)]
theorem dN_two (n b0 b1 b2 b3 : Nat) (h0 : 192 ≤ b0) (h1 : b0 < 224) : Lib.decodeN n b0 b1 b2 b3 = if (1 < n ∧ b1 / 64 = 2) ∧ b0 % 32 * 64 + b1 % 64 ≥ 128 then (b0 % 32 * 64 + b1 % 64, 2) else (65533, 1) := by
  unfold Lib.decodeN
  rw [if_neg (by omega)]
  by_cases c : 1 < n ∧ b1 / 64 = 2
  · rw [if_pos ⟨by omega, c⟩]
    by_cases d : b0 % 32 * 64 + b1 % 64 ≥ 128
    · rw [if_pos d, if_pos ⟨c, d⟩]
    · rw [if_neg d, if_neg (fun h => d h.2)]
  · rw [if_neg (fun h => c h.2), if_neg (by omega), if_neg (by omega), if_neg (fun h => c h.1)]
theorem dN_three (n b0 b1 b2 b3 : Nat) (h0 : 224 ≤ b0) (h1 : b0 < 240) : Lib.decodeN n b0 b1 b2 b3 = if ((1 < n ∧ b1 / 64 = 2) ∧ (2 < n ∧ b2 / 64 = 2)) ∧ (b0 % 16 * 4096 + b1 % 64 * 64 + b2 % 64 ≥ 2048 ∧ (b0 % 16 * 4096 + b1 % 64 * 64 + b2 % 64 < 55296 ∨ 57344 ≤ b0 % 16 * 4096 + b1 % 64 * 64 + b2 % 64)) then (b0 % 16 * 4096 + b1 % 64 * 64 + b2 % 64, 3) else (65533, 1) := by
  unfold Lib.decodeN
  rw [if_neg (by omega), if_neg (by omega)]
  by_cases c : (1 < n ∧ b1 / 64 = 2) ∧ (2 < n ∧ b2 / 64 = 2)
  · rw [if_pos ⟨by omega, c⟩]
    by_cases d : b0 % 16 * 4096 + b1 % 64 * 64 + b2 % 64 ≥ 2048 ∧ (b0 % 16 * 4096 + b1 % 64 * 64 + b2 % 64 < 55296 ∨ 57344 ≤ b0 % 16 * 4096 + b1 % 64 * 64 + b2 % 64)
    · rw [if_pos (by omega), if_pos ⟨c, d⟩]
    · rw [if_neg (by omega), if_neg (fun h => d h.2)]
  · rw [if_neg (fun h => c h.2), if_neg (by omega), if_neg (fun h => c h.1)]
theorem dN_four (n b0 b1 b2 b3 : Nat) (h0 : 240 ≤ b0) (h1 : b0 < 248) : Lib.decodeN n b0 b1 b2 b3 = if ((1 < n ∧ b1 / 64 = 2) ∧ (2 < n ∧ b2 / 64 = 2) ∧ (3 < n ∧ b3 / 64 = 2)) ∧ (b0 % 8 * 262144 + b1 % 64 * 4096 + b2 % 64 * 64 + b3 % 64 ≥ 65536 ∧ b0 % 8 * 262144 + b1 % 64 * 4096 + b2 % 64 * 64 + b3 % 64 ≤ 1114111) then (b0 % 8 * 262144 + b1 % 64 * 4096 + b2 % 64 * 64 + b3 % 64, 4) else (65533, 1) := by
  unfold Lib.decodeN
  rw [if_neg (by omega), if_neg (by omega), if_neg (by omega)]
  by_cases c : (1 < n ∧ b1 / 64 = 2) ∧ (2 < n ∧ b2 / 64 = 2) ∧ (3 < n ∧ b3 / 64 = 2)
  · rw [if_pos ⟨by omega, c⟩]
    by_cases d : b0 % 8 * 262144 + b1 % 64 * 4096 + b2 % 64 * 64 + b3 % 64 ≥ 65536 ∧ b0 % 8 * 262144 + b1 % 64 * 4096 + b2 % 64 * 64 + b3 % 64 ≤ 1114111
    · rw [if_pos (by omega), if_pos ⟨c, d⟩]
    · rw [if_neg (by omega), if_neg (fun h => d h.2)]
  · rw [if_neg (fun h => c h.2), if_neg (fun h => c h.1)]

theorem l0_step (s : ByteArray) (p m i : Nat) (x : Int) (least : Int) (k : Nat) (hm : i < m) (hi : p + i < s.size) (hs : s.size ≤ 9223372036854775807) (hx0 : 0 ≤ x) (hx1 : x ≤ 1000000000) (hi4 : i ≤ 4) :
    stileref01_Rune.l0 (k + 1) s (p : Int) (m : Int) x least (i : Int) = if gb s (p + i) < 128 then some (0, 0) else if 191 < gb s (p + i) then some (0, 0) else stileref01_Rune.l0 k s (p : Int) (m : Int) (x * 64 + gb s (p + i) - 128) least ((i + 1 : Nat) : Int) := by
  have hg := gb_lt s (p + i)
  simp only [stileref01_Rune.l0]
  rw [if_pos (by omega : (i : Int) < (m : Int)), w64 ((p : Int) + (i : Int)) (by omega) (by omega), if_pos (by omega), if_pos (by omega), show ((p : Int) + (i : Int)) = ((p + i : Nat) : Int) by omega, wgb s _ hi]
  by_cases h1 : gb s (p + i) < 128
  · rw [if_pos h1, if_pos (by omega)]
  · rw [if_neg h1, if_neg (by omega)]
    by_cases h2 : 191 < gb s (p + i)
    · rw [if_pos h2, if_pos (by omega)]
    · rw [if_neg h2, if_neg (by omega), w64 (x * 64) (by omega) (by omega), w64 (x * 64 + gb s (p + i)) (by omega) (by omega), w64 (x * 64 + gb s (p + i) - 128) (by omega) (by omega), w64 ((i : Int) + 1) (by omega) (by omega)]
      rfl
theorem l0_end (s : ByteArray) (p m : Nat) (x : Int) (least : Int) (k : Nat) :
    stileref01_Rune.l0 (k + 1) s (p : Int) (m : Int) x least (m : Int) = if x < least ∨ 1114111 < x ∨ (55296 ≤ x ∧ x ≤ 57343) then some (0, 0) else some (x, (m : Int)) := by
  simp only [stileref01_Rune.l0]
  rw [if_neg (by omega)]
  by_cases h1 : x < least
  · rw [if_pos h1, if_pos (.inl h1)]
  · rw [if_neg h1]
    by_cases h2 : 1114111 < x
    · rw [if_pos h2, if_pos (.inr (.inl h2))]
    · rw [if_neg (by omega)]
      by_cases h3 : 55296 ≤ x
      · rw [if_pos h3]
        by_cases h4 : x ≤ 57343
        · rw [if_pos h4, if_pos (.inr (.inr ⟨h3, h4⟩))]
        · rw [if_neg h4, if_neg (by omega)]
      · rw [if_neg h3, if_neg (by omega)]
theorem j2_eq (s : ByteArray) (p m : Nat) (x : Int) (least : Int) (k : Nat) (hp : p < s.size) (hs : s.size ≤ 9223372036854775807) :
    stileref01_Rune.j2 (k + 1) s (p : Int) (m : Int) x least = if s.size - p < m then some (0, 0) else stileref01_Rune.l0 k s (p : Int) (m : Int) x least ((1 : Nat) : Int) := by
  simp only [stileref01_Rune.j2]
  rw [w64 ((s.size : Int) - (p : Int)) (by omega) (by omega)]
  by_cases h : s.size - p < m
  · rw [if_pos h, if_pos (by omega)]
  · rw [if_neg h, if_neg (by omega)]
    rfl

/-- A road on which no rune is found. -/
theorem no_rune {d : Nat × Nat} (h : d = (65533, 1)) : (some ((0 : Int), (0 : Int)) : Option (Int × Int)) = some (refV d) := by rw [h]; rfl
theorem ret_rune {d : Nat × Nat} {c m : Nat} {x y : Int} (h : d = (c, m)) (hm : m ≠ 1) (hx : x = c) (hy : y = m) : some (x, y) = some (refV d) := by
  rw [h, refV_of _ _ hm, hx, hy]

set_option maxHeartbeats 1000000 in
theorem rune_ev (s : ByteArray) (p : Nat) (hp : p < s.size) (hs : s.size ≤ 9223372036854775807) : stileref01_Rune.f 12 s (p : Int) = some (runeV s p) := by
  have b0 := gb_lt s p
  unfold stileref01_Rune.f runeV
  rw [if_pos (by omega), if_pos (by omega), wgb s p hp, dec_at]
  by_cases c1 : gb s p < 128
  · rw [if_pos (by omega), dN_one _ _ _ _ _ c1]
    unfold refV
    rw [beq_eq_false_iff_ne.2 (show gb s p ≠ 65533 by omega)]
    rfl
  · rw [if_neg (by omega)]
    by_cases c2 : gb s p < 192
    · rw [if_neg (by omega), dN_bad _ _ _ _ _ (by omega)]
      simp only [stileref01_Rune.j0]
      rw [if_neg (by decide), if_neg (by omega)]
      simp only [stileref01_Rune.j1]
      rw [if_neg (by decide), if_neg (by omega)]
      rfl
    · rw [if_pos (by omega)]
      by_cases c3 : gb s p < 224
      · rw [decide_eq_true (show (gb s p : Int) < 224 by omega)]
        simp only [stileref01_Rune.j0, if_true]
        rw [w64 ((gb s p : Int) - 192) (by omega) (by omega), show (2 : Int) = ((2 : Nat) : Int) from rfl, j2_eq s p 2 _ _ _ hp hs]
        by_cases c4 : s.size - p < 2
        · rw [if_pos c4]
          exact no_rune (by rw [dN_two _ _ _ _ _ (by omega) c3, if_neg (by omega)])
        · have b1 := gb_lt s (p + 1)
          rw [if_neg c4, l0_step s p 2 1 _ _ _ (by omega) (by omega) hs (by omega) (by omega) (by omega)]
          by_cases d1 : gb s (p + 1) < 128
          · rw [if_pos d1]
            exact no_rune (by rw [dN_two _ _ _ _ _ (by omega) c3, if_neg (by omega)])
          rw [if_neg d1]
          by_cases d2 : 191 < gb s (p + 1)
          · rw [if_pos d2]
            exact no_rune (by rw [dN_two _ _ _ _ _ (by omega) c3, if_neg (by omega)])
          rw [if_neg d2, l0_end]
          by_cases e : (gb s p % 32 * 64 + gb s (p + 1) % 64) ≥ 128
          · rw [if_neg (by omega)]
            exact ret_rune (by rw [dN_two _ _ _ _ _ (by omega) c3, if_pos (by omega)]) (by decide) (by omega) rfl
          · rw [if_pos (by omega)]
            exact no_rune (by rw [dN_two _ _ _ _ _ (by omega) c3, if_neg (by omega)])
      · rw [decide_eq_false (show ¬ (gb s p : Int) < 224 by omega)]
        simp only [stileref01_Rune.j0]
        rw [if_neg (by decide), if_pos (by omega)]
        by_cases c5 : gb s p < 240
        · rw [decide_eq_true (show (gb s p : Int) < 240 by omega)]
          simp only [stileref01_Rune.j1, if_true]
          rw [w64 ((gb s p : Int) - 224) (by omega) (by omega), show (3 : Int) = ((3 : Nat) : Int) from rfl, j2_eq s p 3 _ _ _ hp hs]
          by_cases c4 : s.size - p < 3
          · rw [if_pos c4]
            exact no_rune (by rw [dN_three _ _ _ _ _ (by omega) c5, if_neg (by omega)])
          have b1 := gb_lt s (p + 1)
          have b2 := gb_lt s (p + 2)
          rw [if_neg c4, l0_step s p 3 1 _ _ _ (by omega) (by omega) hs (by omega) (by omega) (by omega)]
          by_cases d1 : gb s (p + 1) < 128
          · rw [if_pos d1]
            exact no_rune (by rw [dN_three _ _ _ _ _ (by omega) c5, if_neg (by omega)])
          rw [if_neg d1]
          by_cases d2 : 191 < gb s (p + 1)
          · rw [if_pos d2]
            exact no_rune (by rw [dN_three _ _ _ _ _ (by omega) c5, if_neg (by omega)])
          rw [if_neg d2, l0_step s p 3 2 _ _ _ (by omega) (by omega) hs (by omega) (by omega) (by omega)]
          by_cases d3 : gb s (p + 2) < 128
          · rw [if_pos d3]
            exact no_rune (by rw [dN_three _ _ _ _ _ (by omega) c5, if_neg (by omega)])
          rw [if_neg d3]
          by_cases d4 : 191 < gb s (p + 2)
          · rw [if_pos d4]
            exact no_rune (by rw [dN_three _ _ _ _ _ (by omega) c5, if_neg (by omega)])
          rw [if_neg d4, l0_end]
          obtain ⟨c, hc⟩ : ∃ c, gb s p % 16 * 4096 + gb s (p + 1) % 64 * 64 + gb s (p + 2) % 64 = c := ⟨_, rfl⟩
          have hD := dN_three (s.size - p) (gb s p) (gb s (p + 1)) (gb s (p + 2)) (gb s (p + 3)) (by omega) c5
          rw [hc] at hD
          have hx : ((((gb s p : Int) - 224) * 64 + gb s (p + 1) - 128) * 64 + gb s (p + 2) - 128) = (c : Int) := by omega
          rw [hx]
          by_cases e : c ≥ 2048 ∧ (c < 55296 ∨ 57344 ≤ c)
          · rw [if_neg (by omega)]
            exact ret_rune (by rw [hD, if_pos (by omega)]) (by decide) (by omega) rfl
          · rw [if_pos (by omega)]
            exact no_rune (by rw [hD, if_neg (by omega)])
        · rw [decide_eq_false (show ¬ (gb s p : Int) < 240 by omega)]
          simp only [stileref01_Rune.j1]
          rw [if_neg (by decide), if_pos (by omega)]
          by_cases c6 : gb s p < 248
          · rw [if_pos (by omega), w64 ((gb s p : Int) - 240) (by omega) (by omega), show (4 : Int) = ((4 : Nat) : Int) from rfl, j2_eq s p 4 _ _ _ hp hs]
            by_cases c4 : s.size - p < 4
            · rw [if_pos c4]
              exact no_rune (by rw [dN_four _ _ _ _ _ (by omega) c6, if_neg (by omega)])
            have b1 := gb_lt s (p + 1)
            have b2 := gb_lt s (p + 2)
            have b3 := gb_lt s (p + 3)
            rw [if_neg c4, l0_step s p 4 1 _ _ _ (by omega) (by omega) hs (by omega) (by omega) (by omega)]
            by_cases d1 : gb s (p + 1) < 128
            · rw [if_pos d1]
              exact no_rune (by rw [dN_four _ _ _ _ _ (by omega) c6, if_neg (by omega)])
            rw [if_neg d1]
            by_cases d2 : 191 < gb s (p + 1)
            · rw [if_pos d2]
              exact no_rune (by rw [dN_four _ _ _ _ _ (by omega) c6, if_neg (by omega)])
            rw [if_neg d2, l0_step s p 4 2 _ _ _ (by omega) (by omega) hs (by omega) (by omega) (by omega)]
            by_cases d3 : gb s (p + 2) < 128
            · rw [if_pos d3]
              exact no_rune (by rw [dN_four _ _ _ _ _ (by omega) c6, if_neg (by omega)])
            rw [if_neg d3]
            by_cases d4 : 191 < gb s (p + 2)
            · rw [if_pos d4]
              exact no_rune (by rw [dN_four _ _ _ _ _ (by omega) c6, if_neg (by omega)])
            rw [if_neg d4, l0_step s p 4 3 _ _ _ (by omega) (by omega) hs (by omega) (by omega) (by omega)]
            by_cases d5 : gb s (p + 3) < 128
            · rw [if_pos d5]
              exact no_rune (by rw [dN_four _ _ _ _ _ (by omega) c6, if_neg (by omega)])
            rw [if_neg d5]
            by_cases d6 : 191 < gb s (p + 3)
            · rw [if_pos d6]
              exact no_rune (by rw [dN_four _ _ _ _ _ (by omega) c6, if_neg (by omega)])
            rw [if_neg d6, l0_end]
            obtain ⟨c, hc⟩ : ∃ c, gb s p % 8 * 262144 + gb s (p + 1) % 64 * 4096 + gb s (p + 2) % 64 * 64 + gb s (p + 3) % 64 = c := ⟨_, rfl⟩
            have hD := dN_four (s.size - p) (gb s p) (gb s (p + 1)) (gb s (p + 2)) (gb s (p + 3)) (by omega) c6
            rw [hc] at hD
            have hx : (((((gb s p : Int) - 240) * 64 + gb s (p + 1) - 128) * 64 + gb s (p + 2) - 128) * 64 + gb s (p + 3) - 128) = (c : Int) := by omega
            rw [hx]
            by_cases e : c ≥ 65536 ∧ c ≤ 1114111
            · rw [if_neg (by omega)]
              exact ret_rune (by rw [hD, if_pos (by omega)]) (by decide) (by omega) rfl
            · rw [if_pos (by omega)]
              exact no_rune (by rw [hD, if_neg (by omega)])
          · rw [if_neg (by omega), dN_bad _ _ _ _ _ (by omega)]
            rfl

theorem rune_at (s : ByteArray) (p : Nat) (hp : p < s.size) (hs : s.size ≤ 9223372036854775807) (k : Nat) (hk : 12 ≤ k) : stileref01_Rune.f k s (p : Int) = some (runeV s p) :=
  at_rounds (stileref01_Rune.mono s (p : Int)) hk (rune_ev s p hp hs)
def runesV (s : ByteArray) (acc : List Int) (p : Nat) : List Int × Bool := if validT s p = true then (acc ++ runesT s p, true) else ([], false)
theorem runes_l0 (s : ByteArray) (hs : s.size ≤ 100000000) : ∀ (d k p : Nat) (acc : List Int), s.size - p ≤ d → p ≤ s.size → d + 13 ≤ k → acc.length ≤ p → stileref01_Runes.l0 k s acc (p : Int) = some (runesV s acc p) := by
  intro d
  induction d with
  | zero =>
    intro k p acc h0 h1 hk ha
    obtain ⟨k, rfl⟩ : ∃ m, k = m + 1 := ⟨k - 1, by omega⟩
    simp only [stileref01_Runes.l0]
    rw [if_neg (by omega)]
    unfold runesV
    rw [validT_end s p (by omega), if_pos rfl, runesT_end s p (by omega), List.append_nil]
  | succ d ih =>
    intro k p acc h0 h1 hk ha
    obtain ⟨k, rfl⟩ : ∃ m, k = m + 1 := ⟨k - 1, by omega⟩
    simp only [stileref01_Runes.l0]
    by_cases hp : p < s.size
    · rw [if_pos (by omega), rune_at s p hp (by omega) k (by omega)]
      simp only [Option.bind_some]
      have hw := dec_w s p hp
      unfold runesV
      rw [validT_step s p hp, runeV_eq]
      cases hb : brokenB s p with
      | true => rfl
      | false =>
        simp only [Bool.false_eq_true, if_false]
        rw [if_neg (by omega), if_pos (by omega), w64 _ (by omega) (by omega), show ((p : Int) + ((Utf8.decode s p).2 : Int)) = ((p + (Utf8.decode s p).2 : Nat) : Int) by omega, ih k _ _ (by omega) (by omega) (by omega) (by simp; omega)]
        unfold runesV
        rw [runesT_step s p hp, List.append_assoc]
        rfl
    · rw [if_neg (by omega)]
      unfold runesV
      rw [validT_end s p hp, if_pos rfl, runesT_end s p hp, List.append_nil]
theorem runes_ev (s : ByteArray) (hs : s.size ≤ 100000000) : stileref01_Runes.f (s.size + 13) s = some (runesV s [] 0) := by
  unfold stileref01_Runes.f
  exact runes_l0 s hs s.size _ 0 [] (by omega) (by omega) (by omega) (Nat.zero_le _)

/-! ### names -/
theorem name_round (i c : Nat) (h : c < 256) (x y : Option Bool) (hx : x = some false) :
    (if (c : Int) < 97 then (if (i : Int) = 0 then x else (if (c : Int) < 48 then (if (c : Int) = 95 then y else x) else (if (c : Int) > 57 then (if (c : Int) = 95 then y else x) else y)))
     else (if (c : Int) > 122 then (if (i : Int) = 0 then x else (if (c : Int) < 48 then (if (c : Int) = 95 then y else x) else (if (c : Int) > 57 then (if (c : Int) = 95 then y else x) else y))) else y)) = if nmR i c = true then y else x := by
  have hn : nmR i c = true ↔ (97 ≤ c ∧ c ≤ 122) ∨ (0 < i ∧ ((48 ≤ c ∧ c ≤ 57) ∨ c = 95)) := by
    unfold nmR smallR
    simp
  by_cases h0 : nmR i c = true
  · have h1 := hn.1 h0
    rw [if_pos h0]
    by_cases a : (c : Int) < 97
    · rw [if_pos a, if_neg (by omega)]
      by_cases b : (c : Int) < 48
      · exfalso; omega
      · rw [if_neg b]
        by_cases d : (c : Int) > 57
        · rw [if_pos d, if_pos (by omega)]
        · rw [if_neg d]
    · rw [if_neg a, if_neg (by omega)]
  · have h1 : ¬ ((97 ≤ c ∧ c ≤ 122) ∨ (0 < i ∧ ((48 ≤ c ∧ c ≤ 57) ∨ c = 95))) := fun h => h0 (hn.2 h)
    rw [if_neg h0]
    by_cases a : (c : Int) < 97
    · rw [if_pos a]
      by_cases e : (i : Int) = 0
      · rw [if_pos e]
      · rw [if_neg e]
        by_cases b : (c : Int) < 48
        · rw [if_pos b, if_neg (by omega)]
        · rw [if_neg b]
          by_cases d : (c : Int) > 57
          · rw [if_pos d, if_neg (by omega)]
          · exfalso; omega
    · rw [if_neg a, if_pos (by omega)]
      by_cases e : (i : Int) = 0
      · rw [if_pos e]
      · rw [if_neg e, if_neg (by omega), if_pos (by omega), if_neg (by omega)]
theorem name_l0 (s : ByteArray) (hs : s.size ≤ 9223372036854775807) : ∀ (d k p : Nat), s.size - p ≤ d → p ≤ s.size → d + 1 ≤ k → stileref01_Name.l0 k s (p : Int) = some (nmAll s p && (decide (1 ≤ s.size) && decide (s.size ≤ 16))) := by
  intro d
  induction d with
  | zero =>
    intro k p h0 h1 hk
    obtain ⟨k, rfl⟩ : ∃ m, k = m + 1 := ⟨k - 1, by omega⟩
    simp only [stileref01_Name.l0]
    rw [if_neg (by omega), nmAll_end s p (by omega), Bool.true_and]
    by_cases h : 1 ≤ s.size
    · rw [if_pos (by omega), decide_eq_true h, Bool.true_and]
      congr 1
      rw [decide_eq_decide]
      omega
    · rw [if_neg (by omega), decide_eq_false h, Bool.false_and]
  | succ d ih =>
    intro k p h0 h1 hk
    obtain ⟨k, rfl⟩ : ∃ m, k = m + 1 := ⟨k - 1, by omega⟩
    by_cases hp : p < s.size
    · simp only [stileref01_Name.l0]
      rw [if_pos (by omega), if_pos (by omega), bt_gb s p hp, name_round p (gb s p) (gb_lt s p) _ _ rfl, nmAll_step s p hp]
      cases hn : nmR p (gb s p) with
      | false => rfl
      | true =>
        rw [if_pos rfl, w64 _ (by omega) (by omega), show ((p : Int) + 1) = ((p + 1 : Nat) : Int) by omega, ih k _ (by omega) (by omega) (by omega), Bool.true_and]
    · simp only [stileref01_Name.l0]
      rw [if_neg (by omega), nmAll_end s p (by omega), Bool.true_and]
      by_cases h : 1 ≤ s.size
      · rw [if_pos (by omega), decide_eq_true h, Bool.true_and]
        congr 1
        rw [decide_eq_decide]
        omega
      · rw [if_neg (by omega), decide_eq_false h, Bool.false_and]
theorem name_ev (s : ByteArray) (hs : s.size ≤ 9223372036854775807) : stileref01_Name.f (s.size + 1) s = some (nameB s) := by
  unfold stileref01_Name.f nameB
  exact name_l0 s hs s.size _ 0 (by omega) (by omega) (by omega)
theorem ref_name_calls (s : ByteArray) (hs : s.size ≤ 9223372036854775807) (w : World) :
    Calls Tryd.prog 41 #[.string s] w fun e w' => e = .returned (.bool (nameB s)) ∧ Below w.heap.size w w' :=
  (stileref01_Name.calls _ s _ w (name_ev s hs)).mono fun e w' ⟨h1, h2⟩ => ⟨h1, h2.below⟩
theorem ref_runes_calls (s : ByteArray) (hs : s.size ≤ 100000000) (b : Bool) (hb : validB s = b) (xs : List Int) (hx : xs = if b = true then runesT s 0 else []) (w : World) :
    Calls Tryd.prog 50 #[.string s] w fun e w' => ∃ A c, e = .returned (.tuple #[.slice A xs.length c, .bool b]) ∧ ReadsInt w' .i64 A xs.length xs ∧ Below w.heap.size w w' := by
  have hr : runesV s [] 0 = (xs, b) := by
    unfold runesV
    rw [show validT s 0 = b from hb, hx]
    cases b <;> rfl
  refine (stileref01_Runes.calls _ s xs b w (by rw [runes_ev s hs, hr])).mono ?_
  rintro e w' ⟨v, rfl, hR, hB⟩
  obtain ⟨A, c, rfl, hl, hC⟩ := Kd.R_reads hR
  exact ⟨A, c, rfl, Kd.reads_of_C (enc := Value.int .i64) (d := (0 : Int)) (h1 := fun _ => rfl) hC, hB⟩
end Go.Proofs.YtmilpfccgggmkaaDoor.Glr

/- The reference's Plain and Id. -/
namespace Go.Proofs.YtmilpfccgggmkaaDoor.Glr
open Go.RowKit Go.Proofs.YtmilpfccgggmkaaDoorW.PrintWords Go.Proofs.YtmilpfccgggmkaaDoor.Utf Go.Proofs.YtmilpfccgggmkaaDoor.Arr Go.Proofs.YtmilpfccgggmkaaDoor.Gly
set_option linter.unusedVariables false
set_option linter.unusedSimpArgs false

def sg : List Int := [35, 64, 58, 42, 44, 40, 41, 34, 92, 59]
theorem sg_build : ∀ w : World, (Instr.build 83 #[(0, .int .i64 35), (1, .int .i64 64), (2, .int .i64 58), (3, .int .i64 42), (4, .int .i64 44), (5, .int .i64 40), (6, .int .i64 41), (7, .int .i64 34), (8, .int .i64 92), (9, .int .i64 59)]).run Tryd.prog w = .ok (.agg (numsA .i64 sg)) w := fun w => by kernel_rfl
theorem infoI : (Tryd.prog.info? 3).map (·.size) = some 1 := by kernel_rfl
theorem plain_sg (r k : Nat) (hk : k < 10) (h : (r : Int) = sg.getD k 0) : plainR r = false := by
  have : r = (sg.getD k 0).toNat := by omega
  rw [this]
  have h10 : ∀ k : Fin 10, plainR (sg.getD k.val 0).toNat = false := by decide
  exact h10 ⟨k, hk⟩
theorem plain_rest (r : Nat) (h : ∀ j, j < 10 → (r : Int) ≠ sg.getD j 0) : plainR r = (decide ((r : Int) ≥ 33) && (decide ((r : Int) < 127) || decide ((r : Int) > 160))) := by
  have h0 := h 0 (by decide); have h1 := h 1 (by decide); have h2 := h 2 (by decide); have h3 := h 3 (by decide); have h4 := h 4 (by decide)
  have h5 := h 5 (by decide); have h6 := h 6 (by decide); have h7 := h 7 (by decide); have h8 := h 8 (by decide); have h9 := h 9 (by decide)
  simp [sg] at h0 h1 h2 h3 h4 h5 h6 h7 h8 h9
  unfold plainR
  rw [beq_eq_false_iff_ne.2 (show r ≠ 35 by omega), beq_eq_false_iff_ne.2 (show r ≠ 64 by omega), beq_eq_false_iff_ne.2 (show r ≠ 58 by omega), beq_eq_false_iff_ne.2 (show r ≠ 42 by omega), beq_eq_false_iff_ne.2 (show r ≠ 44 by omega), beq_eq_false_iff_ne.2 (show r ≠ 40 by omega), beq_eq_false_iff_ne.2 (show r ≠ 41 by omega), beq_eq_false_iff_ne.2 (show r ≠ 34 by omega), beq_eq_false_iff_ne.2 (show r ≠ 92 by omega), beq_eq_false_iff_ne.2 (show r ≠ 59 by omega)]
  have e1 : decide ((r : Int) ≥ 33) = decide (32 < r) := by rw [decide_eq_decide]; omega
  have e2 : decide ((r : Int) < 127) = decide (r < 127) := by rw [decide_eq_decide]; omega
  have e3 : decide ((r : Int) > 160) = decide (160 < r) := by rw [decide_eq_decide]; omega
  rw [e1, e2, e3]
  rfl

set_option maxHeartbeats 2000000 in
set_option maxRecDepth 100000 in
theorem ref_plain_calls (r : Nat) (w : World) :
    Calls Tryd.prog 51 #[.int .i64 (r : Int)] w fun e w' => e = .returned (.bool (plainR r)) ∧ Below w.heap.size w w' := by
  go_enter Tryd.func51, Tryd.ntmps51
  go_wp2_with (with_reducible refine wpList_build_agg rfl 83 _ rfl _ sg_build ?_)
  go_loop [6] (fun v6 => ∃ k : Nat, k ≤ 10 ∧ v6 = .int .i64 (k : Int) ∧ Aside0 (∀ j, j < k → (r : Int) ≠ sg.getD j 0)) (fun v6 => 10 - (intOf v6).toNat)
  case atStart => exact ⟨0, by omega, rfl, ⟨fun j h => absurd h (Nat.not_lt_zero _)⟩⟩
  case round =>
    obtain ⟨k, hk, rfl, hno⟩ := hrel
    by_cases hlt : k < 10
    · have t0 : decide ((k : Int) < 10) = true := decide_eq_true (by omega)
      by_cases he : (r : Int) = sg.getD k 0
      · have hz := Aside0.mk (plain_sg r k hlt he)
        have t1 : ((r : Int) == sg.getD k 0) = true := beq_iff_eq.2 he
        have H1 := Aside0.mk t1
        clear he t1
        obtain ⟨c, hc⟩ : ∃ c, sg.getD k 0 = c := ⟨_, rfl⟩
        have t1 := H1.out
        rw [hc] at t1
        have HC := Aside0.mk hc
        clear hc H1
        go_wp2_with (with_reducible refine wpList_index_nums rfl 83 _ _ rfl sg k rfl rfl Tryd.underlying83 Tryd.underlying3 infoI rfl hlt ?_; rw [HC.out])
        go_ret
        exact ⟨ret_bool hz.out.symm, Below.refl _ _⟩
      · have hz := Aside0.mk (show ∀ j, j < k + 1 → (r : Int) ≠ sg.getD j 0 from fun j hj => by
          by_cases e : j = k
          · subst e; exact he
          · exact hno.out j (by omega))
        have t1 : ((r : Int) == sg.getD k 0) = false := beq_eq_false_iff_ne.2 he
        have H1 := Aside0.mk t1
        clear he t1 hno
        obtain ⟨c, hc⟩ : ∃ c, sg.getD k 0 = c := ⟨_, rfl⟩
        have t1 := H1.out
        rw [hc] at t1
        have HC := Aside0.mk hc
        clear hc H1
        go_wp2_with (with_reducible refine wpList_index_nums rfl 83 _ _ rfl sg k rfl rfl Tryd.underlying83 Tryd.underlying3 infoI rfl hlt ?_; rw [HC.out])
        go_round
        case rel => exact ⟨k + 1, by omega, by go_num, hz⟩
        case measure => simp [intOf]; omega
    · have t0 : decide ((k : Int) < 10) = false := decide_eq_false (by omega)
      obtain rfl : k = 10 := by omega
      have hz := plain_rest r hno.out
      clear hno
      by_cases a : (r : Int) ≥ 33
      · have b1 : decide ((r : Int) ≥ 33) = true := decide_eq_true a
        rw [b1, Bool.true_and] at hz
        by_cases c : (r : Int) < 127
        · have b2 : decide ((r : Int) < 127) = true := decide_eq_true c
          rw [b2, Bool.true_or] at hz
          have HZ := Aside0.mk hz
          clear hz
          go_wp2
          go_ret
          exact ⟨ret_bool HZ.out.symm, Below.refl _ _⟩
        · have b2 : decide ((r : Int) < 127) = false := decide_eq_false c
          rw [b2, Bool.false_or] at hz
          have HZ := Aside0.mk hz
          clear hz
          go_wp2
          go_ret
          exact ⟨ret_bool HZ.out.symm, Below.refl _ _⟩
      · have b1 : decide ((r : Int) ≥ 33) = false := decide_eq_false a
        rw [b1, Bool.false_and] at hz
        have HZ := Aside0.mk hz
        clear hz
        go_wp2
        go_ret
        exact ⟨ret_bool HZ.out.symm, Below.refl _ _⟩

def runesN (s : ByteArray) : List Nat := (tail s 0).map fun x => x.2.1
theorem runesN_length (s : ByteArray) : (runesN s).length = cnt s := by simp [runesN, cnt, cntT]
theorem runesT_get (s : ByteArray) (k : Nat) : (runesT s 0).getD k 0 = (((runesN s).getD k 0 : Nat) : Int) := by
  unfold runesT runesN
  simp only [List.getD_eq_getElem?_getD, List.getElem?_map]
  cases (tail s 0)[k]? <;> rfl
theorem plainT_N (s : ByteArray) : plainT s 0 = (runesN s).all plainR := by
  unfold plainT runesN
  rw [List.all_map]
  rfl
theorem idB_at (s : ByteArray) (k : Nat) (hk : k < cnt s) (h : plainR ((runesN s).getD k 0) = false) : idB s = false := by
  unfold idB
  rw [plainT_N]
  have : (runesN s).all plainR = false := by
    rw [List.all_eq_false]
    refine ⟨(runesN s).getD k 0, ?_, by rw [h]; decide⟩
    have hl : k < (runesN s).length := by rw [runesN_length]; exact hk
    simp [List.getD_eq_getElem?_getD, hl]
  rw [this, Bool.and_false]
theorem idB_all (s : ByteArray) (hv : validB s = true) (h1 : 1 ≤ cnt s) (h2 : cnt s ≤ 24) (h : ∀ j, j < cnt s → plainR ((runesN s).getD j 0) = true) : idB s = true := by
  unfold idB
  rw [plainT_N, hv, decide_eq_true h1, decide_eq_true h2, Bool.true_and, Bool.true_and, Bool.true_and, List.all_eq_true]
  intro x hx
  obtain ⟨i, hi, rfl⟩ := List.getElem_of_mem hx
  have := h i (by rw [← runesN_length]; exact hi)
  simpa [List.getD_eq_getElem?_getD, hi] using this
theorem ref_plain_as (b : Bool) (r : Nat) (hb : plainR r = b) (w : World) :
    Calls Tryd.prog 51 #[.int .i64 (r : Int)] w fun e w' => e = .returned (.bool b) ∧ Below w.heap.size w w' := by
  subst hb
  exact ref_plain_calls r w

set_option maxHeartbeats 4000000 in
set_option maxRecDepth 100000 in
theorem ref_id_calls (s : ByteArray) (hs : s.size ≤ 100000000) (w : World) :
    Calls Tryd.prog 42 #[.string s] w fun e w' => e = .returned (.bool (idB s)) ∧ Below w.heap.size w w' := by
  cases hv : validB s with
  | false =>
    have hz : idB s = false := by unfold idB; rw [hv]; rfl
    have HC := Aside0.mk (ref_runes_calls s hs false hv [] rfl w)
    rw [hz]
    clear hz hv
    go_enter Tryd.func42, Tryd.ntmps42
    go_wp2_with (go_at_call 50; refine HC.out.mono ?_; rintro e w1 ⟨A, c, rfl, hr, hb⟩)
    go_ret
    exact ⟨rfl, hb⟩
  | true =>
    obtain ⟨xs, hxs⟩ : ∃ xs, xs = runesT s 0 := ⟨_, rfl⟩
    have hxl : xs.length = cnt s := by rw [hxs, runesT_length]; rfl
    have hxg : ∀ k, xs.getD k 0 = (((runesN s).getD k 0 : Nat) : Int) := fun k => by rw [hxs, runesT_get]
    have HC := Aside0.mk (ref_runes_calls s hs true hv xs (by rw [hxs]; rfl) w)
    rw [hxl] at HC
    have hid : idB s = ((decide (1 ≤ cnt s) && decide (cnt s ≤ 24)) && plainT s 0) := by unfold idB; rw [hv, Bool.true_and]
    have hcl := cnt_le s
    have HXG := Aside0.mk hxg
    have HXL := Aside0.mk hxl
    have HV := Aside0.mk hv
    clear hxg hxl hxs hv
    by_cases h1 : 1 ≤ cnt s
    · have t1 : decide ((cnt s : Int) < 1) = false := decide_eq_false (by omega)
      by_cases h2 : cnt s ≤ 24
      · have t2 : decide ((cnt s : Int) > 24) = false := decide_eq_false (by omega)
        clear hid
        have END' := Aside0.mk (idB_all s HV.out h1 h2)
        have NO' := Aside0.mk (idB_at s)
        obtain ⟨n, hn⟩ : ∃ n, n = cnt s := ⟨_, rfl⟩
        rw [← hn] at t1 t2 h1 h2 hcl HC HXL END' NO'
        clear hn
        go_enter Tryd.func42, Tryd.ntmps42
        go_wp2_with (go_at_call 50; refine HC.out.mono ?_; rintro e w1 ⟨A, c, rfl, hr, hb0⟩; have HR := Aside0.mk hr; clear hr)
        go_loopw [25] (fun v25 wr => ∃ k : Nat, k ≤ n ∧ v25 = .int .i64 (k : Int) ∧ Aside0 (∀ j, j < k → plainR ((runesN s).getD j 0) = true) ∧ Below w1.heap.size w1 wr) (fun v25 _ => n - (intOf v25).toNat)
        case atStart => exact ⟨0, by omega, rfl, ⟨fun j h => absurd h (Nat.not_lt_zero _)⟩, Below.refl _ _⟩
        case round =>
          obtain ⟨k, hk, rfl, hall, hb⟩ := hrel
          by_cases hlt : k < n
          · have t0 : decide ((k : Int) < (n : Int)) = true := decide_eq_true (by omega)
            obtain ⟨ad, rfl, hc0⟩ := (HR.out.below hb).2.2 (by omega)
            have hc := hc0 k hlt
            rw [HXG.out] at hc
            clear hc0
            have hno := NO'.out k hlt
            have hyes : plainR ((runesN s).getD k 0) = true → ∀ j, j < k + 1 → plainR ((runesN s).getD j 0) = true := fun h j hj => by
              by_cases e : j = k
              · subst e; exact h
              · exact hall.out j (by omega)
            obtain ⟨r, hr⟩ : ∃ r, (runesN s).getD k 0 = r := ⟨_, rfl⟩
            rw [hr] at hc
            cases hpl : plainR r with
            | true =>
              have HZ := Aside0.mk (hyes (by rw [hr]; exact hpl))
              have HPL := Aside0.mk hpl
              clear hyes hno hall hpl hr
              go_wp2_with (go_at_call 51; refine (ref_plain_as true _ HPL.out _).mono ?_; rintro e w2 ⟨rfl, hb3⟩)
              go_roundw
              case rel => exact ⟨k + 1, by omega, by go_num, HZ, hb.trans (hb3.mono hb.size)⟩
              case measure => simp [intOf]; omega
            | false =>
              have HZ := Aside0.mk (hno (by rw [hr]; exact hpl))
              have HPL := Aside0.mk hpl
              clear hyes hno hall hpl hr
              go_wp2_with (go_at_call 51; refine (ref_plain_as false _ HPL.out _).mono ?_; rintro e w2 ⟨rfl, hb3⟩)
              go_ret
              exact ⟨ret_bool HZ.out.symm, hb0.trans ((hb.trans (hb3.mono hb.size)).mono hb0.size)⟩
          · have t0 : decide ((k : Int) < (n : Int)) = false := decide_eq_false (by omega)
            obtain rfl : k = n := by omega
            have HZ := Aside0.mk (END'.out hall.out)
            clear hall
            go_wp2
            go_ret
            exact ⟨ret_bool HZ.out.symm, hb0.trans (hb.mono hb0.size)⟩
      · have t2 : decide ((cnt s : Int) > 24) = true := decide_eq_true (by omega)
        rw [decide_eq_false h2, Bool.and_false, Bool.false_and] at hid
        rw [hid]
        clear hid
        go_enter Tryd.func42, Tryd.ntmps42
        go_wp2_with (go_at_call 50; refine HC.out.mono ?_; rintro e w1 ⟨A, c, rfl, hr, hb⟩)
        go_ret
        exact ⟨rfl, hb⟩
    · have t1 : decide ((cnt s : Int) < 1) = true := decide_eq_true (by omega)
      rw [decide_eq_false h1, Bool.false_and, Bool.false_and] at hid
      rw [hid]
      clear hid
      obtain ⟨c, hc⟩ : ∃ c, c = cnt s := ⟨_, rfl⟩
      rw [← hc] at t1 h1 hcl HC
      clear hc
      go_enter Tryd.func42, Tryd.ntmps42
      go_wp2_with (go_at_call 50; refine HC.out.mono ?_; rintro e w1 ⟨A, c', rfl, hr, hb⟩)
      go_ret
      exact ⟨rfl, hb⟩
end Go.Proofs.YtmilpfccgggmkaaDoor.Glr

/- The reference's layer who: Cut, Text, Kind, Good, Read. -/
namespace Go.Proofs.YtmilpfccgggmkaaDoor.Who
open Go.RowKit Go.Proofs.YtmilpfccgggmkaaDoorW.PrintWords Go.Proofs.YtmilpfccgggmkaaDoor.Utf Go.Proofs.YtmilpfccgggmkaaDoor.Arr Go.Proofs.YtmilpfccgggmkaaDoor.Gly Go.Proofs.YtmilpfccgggmkaaDoor.Glr
set_option linter.unusedVariables false
set_option linter.unusedSimpArgs false

theorem cut_l0 (s : ByteArray) (c : Nat) (hs : s.size ≤ 9223372036854775806) : ∀ (d k p : Nat), s.size - p ≤ d → p ≤ s.size → d + 1 ≤ k → (∀ j, j < p → gb s j ≠ c) → Prn.stileref02_Cut.l0 k s (c : Int) (p : Int) = some (cutA s c, cutB s c, cutOk s c) := by
  intro d
  induction d with
  | zero =>
    intro k p h0 h1 hk hno
    obtain ⟨k, rfl⟩ : ∃ m, k = m + 1 := ⟨k - 1, by omega⟩
    obtain ⟨a, b, e⟩ := cut_absent s c (fun j hj => hno j (by omega))
    simp only [Prn.stileref02_Cut.l0]
    rw [if_neg (by omega), a, b, e]
  | succ d ih =>
    intro k p h0 h1 hk hno
    obtain ⟨k, rfl⟩ : ∃ m, k = m + 1 := ⟨k - 1, by omega⟩
    by_cases hp : p < s.size
    · simp only [Prn.stileref02_Cut.l0]
      rw [if_pos (by omega), if_pos (by omega), bt_gb s p hp, w64 ((p : Int) + 1) (by omega) (by omega)]
      by_cases hc : gb s p = c
      · have hix := ix_hit s c p hp hc hno
        rw [if_pos (by omega), if_pos (by omega), if_pos (by omega), if_pos (by omega)]
        unfold cutA cutB cutOk
        rw [hix, if_pos hp, if_pos hp, decide_eq_true hp, Int.toNat_natCast, show ((p : Int) + 1).toNat = p + 1 by omega]
      · rw [if_neg (by omega), show ((p : Int) + 1) = ((p + 1 : Nat) : Int) by omega]
        refine ih k _ (by omega) (by omega) (by omega) (fun j hj => ?_)
        by_cases h : j = p
        · subst h; exact hc
        · exact hno j (by omega)
    · obtain ⟨a, b, e⟩ := cut_absent s c (fun j hj => hno j (by omega))
      simp only [Prn.stileref02_Cut.l0]
      rw [if_neg (by omega), a, b, e]
def kindV (t i r : ByteArray) : Nat :=
  if nameB t = true then
    (if (i.toList == [42]) = true then (if r.toList.isEmpty = true then 3 else 0)
     else if idB i = true then (if r.toList.isEmpty = true then 1 else if nameB r = true then 2 else 0) else 0)
  else 0
theorem rname_as (b : Bool) (s : ByteArray) (hb : nameB s = b) (hs : s.size ≤ 9223372036854775807) (w : World) :
    Calls Tryd.prog 41 #[.string s] w fun e w' => e = .returned (.bool b) ∧ Below w.heap.size w w' := by
  subst hb
  exact ref_name_calls s hs w
theorem rid_as (b : Bool) (s : ByteArray) (hb : idB s = b) (hs : s.size ≤ 100000000) (w : World) :
    Calls Tryd.prog 42 #[.string s] w fun e w' => e = .returned (.bool b) ∧ Below w.heap.size w w' := by
  subst hb
  exact ref_id_calls s hs w
set_option maxHeartbeats 4000000 in
set_option maxRecDepth 100000 in
theorem ref_kind_calls (t i r : ByteArray) (ht : t.size ≤ 9223372036854775807) (hi : i.size ≤ 100000000) (hr : r.size ≤ 9223372036854775807) (w : World) :
    Calls Tryd.prog 34 #[.agg #[.string t, .string i, .string r]] w fun e w' => e = .returned (.int .i64 (kindV t i r : Int)) ∧ Below w.heap.size w w' := by
  have B0 := Blk.new w 40 #[.string t, .string i, .string r]
  have hb0 := box_below w #[.string t, .string i, .string r] 40
  unfold kindV
  cases hn : nameB t with
  | false =>
    have HN := Aside0.mk hn
    clear hn B0
    rw [if_neg (by decide)]
    go_enter Tryd.func34, Tryd.ntmps34
    go_wp2_with (go_at_call 41; refine (rname_as false t HN.out ht _).mono ?_; rintro e w1 ⟨rfl, hb1⟩)
    go_ret
    exact ⟨rfl, hb0.trans (hb1.mono hb0.size)⟩
  | true =>
    have HN := Aside0.mk hn
    clear hn
    rw [if_pos rfl]
    cases hs : (i.toList == [42]) with
    | true =>
      rw [if_pos rfl]
      cases hre : r.toList.isEmpty with
      | true =>
        rw [if_pos rfl]
        go_enter Tryd.func34, Tryd.ntmps34
        go_wp2_with (go_at_call 41; refine (rname_as true t HN.out ht _).mono ?_; rintro e w1 ⟨rfl, hb1⟩; have c1 := (B0.below hb1).cell 1; have c2 := (B0.below hb1).cell 2)
        go_ret
        exact ⟨rfl, hb0.trans (hb1.mono hb0.size)⟩
      | false =>
        rw [if_neg (by decide)]
        go_enter Tryd.func34, Tryd.ntmps34
        go_wp2_with (go_at_call 41; refine (rname_as true t HN.out ht _).mono ?_; rintro e w1 ⟨rfl, hb1⟩; have c1 := (B0.below hb1).cell 1; have c2 := (B0.below hb1).cell 2)
        go_ret
        exact ⟨rfl, hb0.trans (hb1.mono hb0.size)⟩
    | false =>
      rw [if_neg (by decide)]
      cases hd : idB i with
      | false =>
        have HD := Aside0.mk hd
        clear hd
        rw [if_neg (by decide)]
        go_enter Tryd.func34, Tryd.ntmps34
        go_wp2_with (first
          | (go_at_call 41; refine (rname_as true t HN.out ht _).mono ?_; rintro e w1 ⟨rfl, hb1⟩; have c1 := (B0.below hb1).cell 1; have c2 := (B0.below hb1).cell 2)
          | (go_at_call 42; refine (rid_as false i HD.out hi _).mono ?_; rintro e w2 ⟨rfl, hb2⟩))
        go_ret
        exact ⟨rfl, hb0.trans ((hb1.trans (hb2.mono hb1.size)).mono hb0.size)⟩
      | true =>
        have HD := Aside0.mk hd
        clear hd
        rw [if_pos rfl]
        cases hre : r.toList.isEmpty with
        | true =>
          rw [if_pos rfl]
          go_enter Tryd.func34, Tryd.ntmps34
          go_wp2_with (first
            | (go_at_call 41; refine (rname_as true t HN.out ht _).mono ?_; rintro e w1 ⟨rfl, hb1⟩; have c1 := (B0.below hb1).cell 1; have c2 := (B0.below hb1).cell 2)
            | (go_at_call 42; refine (rid_as true i HD.out hi _).mono ?_; rintro e w2 ⟨rfl, hb2⟩; have d2 := ((B0.below hb1).below hb2).cell 2))
          go_ret
          exact ⟨rfl, hb0.trans ((hb1.trans (hb2.mono hb1.size)).mono hb0.size)⟩
        | false =>
          rw [if_neg (by decide)]
          cases hnr : nameB r with
          | _ =>
            have HNR := Aside0.mk hnr
            clear hnr
            have tok : True := trivial
            go_enter Tryd.func34, Tryd.ntmps34
            go_wp2_with (first
              | (go_at_call 41; have _t := tok; refine (rname_as true t HN.out ht _).mono ?_; rintro e w1 ⟨rfl, hb1⟩; have c1 := (B0.below hb1).cell 1; have c2 := (B0.below hb1).cell 2; clear _t tok)
              | (go_at_call 42; refine (rid_as true i HD.out hi _).mono ?_; rintro e w2 ⟨rfl, hb2⟩; have d2 := ((B0.below hb1).below hb2).cell 2)
              | (go_at_call 41; refine (rname_as _ r HNR.out hr _).mono ?_; rintro e w3 ⟨rfl, hb3⟩))
            go_ret
            exact ⟨rfl, hb0.trans (((hb1.trans (hb2.mono hb1.size)).trans (hb3.mono (Nat.le_trans hb1.size hb2.size))).mono hb0.size)⟩
end Go.Proofs.YtmilpfccgggmkaaDoor.Who
