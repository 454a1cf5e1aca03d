/- Texts of this claim, merged: Pkt, Ktu, Kts, Krf, Klt, Ksm. -/
import Derived.Test.YtmilpfccgggmkaaDoorPKnotTiesx0
import Derived.Test.YtmilpfccgggmkaaDoorMgKnotJoins2
import Derived.Test.YtmilpfccgggmkaaDoorMgKnotJoins4
import Derived.IntWalk
import Derived.Test.YtmilpfccgggmkaaDoorMgKnotJoins1
/- What the kit's print tells of some functions: each comes to a Lean function. -/
namespace Go.Proofs.YtmilpfccgggmkaaDoor.PKnotTies
open Go.RowKit Go.Proofs.YtmilpfccgggmkaaDoorW.PrintWords Go.Proofs.YtmilpfccgggmkaaDoorW.PrintLast Go.Proofs.YtmilpfccgggmkaaDoorW.PrintMore
attribute [local go_sem] max2_int min2_int max_two min_two max_three min_three max_four min_four
set_option linter.unusedVariables false
set_option linter.unusedSimpArgs false
theorem litSize (a : Array UInt8) : (ByteArray.mk a).size = a.size := rfl
/-! ### stileref01_Decimal: function 36 -/
def stileref01_Decimal.l0 : Nat → Int → ByteArray → Option (ByteArray)
  | 0, _, _ => none
  | k + 1, x0, x3 => if x0 ≥ 10 then ((some (([(wrap64 (48 + (Int.tmod (wrap64 (Int.tdiv x0 10)) 10))) % 256] : List Int) : List Int)).bind fun y142 => (if (strOfNums y142).size + x3.size ≤ 9223372036854775807 then (stileref01_Decimal.l0 k (wrap64 (Int.tdiv x0 10)) ((strOfNums y142) ++ x3)) else (none))) else (some x3)
def stileref01_Decimal.f (k : Nat) (a0 : Int) : Option (ByteArray) := stileref01_Decimal.l0 k a0 (strOfNums (([(wrap64 (48 + (Int.tmod a0 10))) % 256] : List Int)))
theorem stileref01_Decimal.mono_l : ∀ k, (∀ y0 y1, LeO (stileref01_Decimal.l0 k y0 y1) (stileref01_Decimal.l0 (k + 1) y0 y1))
  | 0 => fun _ _ r h => by simp [stileref01_Decimal.l0] at h
  | k + 1 => by
    have ih0 := stileref01_Decimal.mono_l k
    · intro y0 y1
      unfold stileref01_Decimal.l0
      repeat' first
      | (with_reducible exact ih0 _ _)
      | (with_reducible exact LeO.refl _)
      | (with_reducible exact LeO.none _)
      | (with_reducible refine LeO.ite ?_ ?_)
      | (with_reducible refine LeO.bind ?_ (fun _ => ?_))
      | exact ih0 _ _
      | exact LeO.none _
      | refine LeO.ite ?_ ?_
      | refine LeO.bind ?_ (fun _ => ?_)
theorem stileref01_Decimal.mono : ∀ a0 k, LeO (stileref01_Decimal.f k a0) (stileref01_Decimal.f (k + 1) a0) := by
  intro a0 k
  have ih0 := stileref01_Decimal.mono_l k
  unfold stileref01_Decimal.f
  repeat' first
      | (with_reducible exact ih0 _ _)
      | (with_reducible exact LeO.refl _)
      | (with_reducible exact LeO.none _)
      | (with_reducible refine LeO.ite ?_ ?_)
      | (with_reducible refine LeO.bind ?_ (fun _ => ?_))
      | exact ih0 _ _
      | exact LeO.none _
      | refine LeO.ite ?_ ?_
      | refine LeO.bind ?_ (fun _ => ?_)
set_option maxHeartbeats 8000000 in
set_option maxRecDepth 100000 in
theorem stileref01_Decimal.calls (k : Nat) (a0 : Int) (r : ByteArray) (w : World) (h : stileref01_Decimal.f k a0 = some r) :
    Calls Tryd.prog 36 #[.int .i64 a0] w fun e w' => e = .returned (.string r) ∧ Below w.heap.size w w' := by
  have HB := Aside0.mk (Below.refl w.heap.size w)
  have H : (stileref01_Decimal.l0 k a0 (strOfNums (([(wrap64 (48 + (Int.tmod a0 10))) % 256] : List Int)))) = some r := h
  clear h
  obtain ⟨y139, hy139⟩ : ∃ y_ : List Int, y_ = (([(wrap64 (48 + (Int.tmod a0 10))) % 256] : List Int)) := ⟨_, rfl⟩
  replace H : (stileref01_Decimal.l0 k a0 (strOfNums y139)) = some r := by first | (rw [hy139]; with_reducible exact H) | (have H2_ := (Option.bind_some _ _).symm.trans H; rw [hy139]; with_reducible exact H2_) | (have H2_ := (Option.bind_some _ _).symm.trans H; with_reducible exact H2_) | with_reducible exact H | (rw [hy139]; exact H) | exact H
  have Ny139 := Aside0.mk hy139
  clear hy139
  have H' := Aside0.mk H
  clear H
  go_enter Tryd.func36, Tryd.ntmps36
  go_wp2_with (first | ((with_reducible refine gate_dst (N := 8) rfl ?_); refine Kd.R_lit (Kd.int .u8) _ 5 ?hg (N := 8) ?hd (xs := ([(wrap64 (48 + (Int.tmod a0 10))) % 256] : List Int)) (inner := [.int .u8 ((wrap64 (48 + (Int.tmod a0 10))) % 256)]) (ok := fun _ => True) (okp := fun _ => True) ?hr ?hp (fun _ hk => hk) trivial (Below.refl _ _) (Nat.le_refl _) (by simp) ?_; (case hd => rfl); (case hg => rfl); (case hr => first | (go_simp; done) | (go_simp; rfl)); (case hp => exact (Reps.one (show Kd.M (Kd.int .u8) _ _ _ ((wrap64 (48 + (Int.tmod a0 10))) % 256) [.int .u8 ((wrap64 (48 + (Int.tmod a0 10))) % 256)] from rfl) (Reps.none _ _))); intro v140 w2 ho3 hb hg_ hnew_; clear hg_ hnew_; (first | rw [← Ny139.out] at ho3 | (simp only [Int.reduceToNat] at ho3; rw [← Ny139.out] at ho3)); have n0_ := Aside0.mk (Kd.R_lower ho3 (below_size (by repeat (first | (with_reducible first | exact HB.out | apply below_alloc | apply pw_below_drewN | apply below_drew1) | exact HB.out)))); have n1_ := Aside0.mk (below_step (by repeat (first | (with_reducible first | exact HB.out | apply below_alloc | apply pw_below_drewN | apply below_drew1) | exact HB.out)) hb); clear HB; have HO141 := n0_; have HB := n1_; clear n0_ n1_; clear hb ho3; have hcv4 := own_string (P := Tryd.prog) Tryd.underlying27 Tryd.underlying5 Tryd.underlying9 (Kd.own_of_R HO141.out)))
  go_loopg [0, 3] k (fun kq v0 v3 w' => ∃ (x0_1 : Int) (x3_1 : ByteArray), v0 = .int .i64 x0_1 ∧ v3 = .string x3_1 ∧ Aside0 (stileref01_Decimal.l0 kq x0_1 x3_1 = some r) ∧ Aside0 (kq ≤ k) ∧ Aside0 (Below w.heap.size w w'))
  case atStart => exact ⟨(a0), (strOfNums y139), (by first | rfl | (simp; done) | (simp [*]; done)), (by first | rfl | (simp; done) | (simp [*]; done)), H', ⟨Nat.le_refl _⟩, ⟨by repeat (first | (with_reducible first | exact HB.out | apply below_alloc | apply pw_below_drewN | apply below_drew1) | exact HB.out)⟩⟩
  case round =>
    clear H'
    try clear p2
    try clear c3
    try clear hcv4
    obtain ⟨x0_1, x3_1, rfl, rfl, HA, HK1, HB⟩ := hrel
    cases gk with
    | zero => exact absurd HA.out (by simp [stileref01_Decimal.l0])
    | succ k1 =>
      have H := HA.out
      clear HA
      simp only [stileref01_Decimal.l0] at H
      by_cases c5 : x0_1 ≥ 10
      · rw [if_pos c5] at H
        have c5b0 : decide (10 ≤ x0_1) = true := decide_eq_true c5
        clear c5
        obtain ⟨y142, hy142⟩ : ∃ y_ : List Int, y_ = (([(wrap64 (48 + (Int.tmod (wrap64 (Int.tdiv x0_1 10)) 10))) % 256] : List Int)) := ⟨_, rfl⟩
        replace H : (if (strOfNums y142).size + x3_1.size ≤ 9223372036854775807 then (stileref01_Decimal.l0 k1 (wrap64 (Int.tdiv x0_1 10)) ((strOfNums y142) ++ x3_1)) else (none)) = some r := by first | (rw [hy142]; with_reducible exact H) | (have H2_ := (Option.bind_some _ _).symm.trans H; rw [hy142]; with_reducible exact H2_) | (have H2_ := (Option.bind_some _ _).symm.trans H; with_reducible exact H2_) | with_reducible exact H | (rw [hy142]; exact H) | exact H
        have Ny142 := Aside0.mk hy142
        clear hy142
        by_cases c6 : (strOfNums y142).size + x3_1.size ≤ 9223372036854775807
        · rw [if_pos c6] at H
          have c6b0 := eq_true c6
          have c6b1 : decide ((strOfNums y142).size + x3_1.size ≤ 9223372036854775807) = true := decide_eq_true c6
          try have c6b2 : (9223372036854775807 < (strOfNums y142).size + x3_1.size) = False := eq_false (Nat.not_lt.2 c6)
          try simp only [ByteArray.size_append, litSize, List.size_toArray, List.length_cons, List.length_nil] at c6b2
          have H' := Aside0.mk H
          clear H
          go_wp2_with (first | ((with_reducible refine gate_dst (N := 18) rfl ?_); refine Kd.R_lit (Kd.int .u8) _ 5 ?hg (N := 18) ?hd (xs := ([(wrap64 (48 + (Int.tmod (wrap64 (Int.tdiv x0_1 10)) 10))) % 256] : List Int)) (inner := [.int .u8 ((wrap64 (48 + (Int.tmod (wrap64 (Int.tdiv x0_1 10)) 10))) % 256)]) (ok := fun _ => True) (okp := fun _ => True) ?hr ?hp (fun _ hk => hk) trivial (Below.refl _ _) (Nat.le_refl _) (by simp) ?_; (case hd => rfl); (case hg => rfl); (case hr => first | (go_simp; done) | (go_simp; rfl)); (case hp => exact (Reps.one (show Kd.M (Kd.int .u8) _ _ _ ((wrap64 (48 + (Int.tmod (wrap64 (Int.tdiv x0_1 10)) 10))) % 256) [.int .u8 ((wrap64 (48 + (Int.tmod (wrap64 (Int.tdiv x0_1 10)) 10))) % 256)] from rfl) (Reps.none _ _))); intro v143 w7 ho8 hb hg_ hnew_; clear hg_ hnew_; (first | rw [← Ny142.out] at ho8 | (simp only [Int.reduceToNat] at ho8; rw [← Ny142.out] at ho8)); have n0_ := Aside0.mk (Kd.R_lower ho8 (below_size (by repeat (first | (with_reducible first | exact HB.out | apply below_alloc | apply pw_below_drewN | apply below_drew1) | exact HB.out)))); have n1_ := Aside0.mk (below_step (by repeat (first | (with_reducible first | exact HB.out | apply below_alloc | apply pw_below_drewN | apply below_drew1) | exact HB.out)) hb); clear HB; have HO144 := n0_; have HB := n1_; clear n0_ n1_; clear hb ho8; have hcv9 := own_string (P := Tryd.prog) Tryd.underlying27 Tryd.underlying5 Tryd.underlying9 (Kd.own_of_R HO144.out)))
          go_roundg k1
          case measure => have := HK1.out; omega
          case rel => exact ⟨(wrap64 (Int.tdiv x0_1 10)), ((strOfNums y142) ++ x3_1), (by first | rfl | (simp; done) | (simp [*]; done)), (by first | rfl | (simp; done) | (simp [*]; done)), H', ⟨by have := HK1.out; omega⟩, ⟨by repeat (first | (with_reducible first | exact HB.out | apply below_alloc | apply pw_below_drewN | apply below_drew1) | exact HB.out)⟩⟩
        · rw [if_neg c6] at H
          exact absurd H (by simp)
      · rw [if_neg c5] at H
        have c5b0 : decide (10 ≤ x0_1) = false := decide_eq_false c5
        clear c5
        obtain rfl := Option.some.inj H
        go_wp2
        go_ret
        exact ⟨by first | rfl | (simp [errW_none, errW_some] <;> rfl) | (simp [*, errW_none, errW_some] <;> rfl), by repeat (first | (with_reducible first | exact HB.out | apply below_alloc | apply pw_below_drewN | apply below_drew1) | exact HB.out)⟩

/-! ### stileref04_Number: function 13 -/
def stileref04_Number.f (k : Nat) (a0 : Int) : Option (ByteArray) := (stileref01_Decimal.f k a0).bind fun t145 => (if t145.size + 1 ≤ 9223372036854775807 then (some (t145 ++ (⟨#[59]⟩ : ByteArray))) else (none))
theorem stileref04_Number.mono : ∀ a0 k, LeO (stileref04_Number.f k a0) (stileref04_Number.f (k + 1) a0) := by
  intro a0 k
  unfold stileref04_Number.f
  repeat' first
      | (with_reducible exact stileref01_Decimal.mono _ _)
      | (with_reducible exact LeO.refl _)
      | (with_reducible exact LeO.none _)
      | (with_reducible refine LeO.ite ?_ ?_)
      | (with_reducible refine LeO.bind ?_ (fun _ => ?_))
      | exact stileref01_Decimal.mono _ _
      | exact LeO.none _
      | refine LeO.ite ?_ ?_
      | refine LeO.bind ?_ (fun _ => ?_)
set_option maxHeartbeats 8000000 in
set_option maxRecDepth 100000 in
theorem stileref04_Number.calls (k : Nat) (a0 : Int) (r : ByteArray) (w : World) (h : stileref04_Number.f k a0 = some r) :
    Calls Tryd.prog 13 #[.int .i64 a0] w fun e w' => e = .returned (.string r) ∧ Below w.heap.size w w' := by
  have HB := Aside0.mk (Below.refl w.heap.size w)
  have H : ((stileref01_Decimal.f k a0).bind fun t145 => (if t145.size + 1 ≤ 9223372036854775807 then (some (t145 ++ (⟨#[59]⟩ : ByteArray))) else (none))) = some r := h
  clear h
  replace H := Option.bind_eq_some_iff.mp H
  obtain ⟨t145, A20, H⟩ := H
  replace H : (if t145.size + 1 ≤ 9223372036854775807 then (some (t145 ++ (⟨#[59]⟩ : ByteArray))) else (none)) = some r := H
  have A2 := Aside0.mk A20
  clear A20
  by_cases c3 : t145.size + 1 ≤ 9223372036854775807
  · rw [if_pos c3] at H
    have c3b0 := eq_true c3
    have c3b1 : decide (t145.size + 1 ≤ 9223372036854775807) = true := decide_eq_true c3
    try have c3b2 : (9223372036854775807 < t145.size + 1) = False := eq_false (Nat.not_lt.2 c3)
    try simp only [ByteArray.size_append, litSize, List.size_toArray, List.length_cons, List.length_nil] at c3b2
    obtain rfl := Option.some.inj H
    go_enter Tryd.func13, Tryd.ntmps13
    go_wp2_with (first | ((with_reducible refine gate_callee (f := 36) rfl ?_); refine goesL_ (some 4) rfl rfl Tryd.func36 (by kernel_rfl) rfl #[.int .i64 a0] rfl (by (try simp only [List.map_toArray, List.map_cons, List.map_nil]); first | done | rfl | (simp only [List.length_drop, List.length_take]; rfl)) ?_; (with_reducible refine (stileref01_Decimal.calls k a0 t145 _ A2.out).mono ?_); rintro e w4 ⟨rfl, hb⟩; refine ⟨_, rfl, ?_⟩; have n0_ := Aside0.mk (below_step (by repeat (first | (with_reducible first | exact HB.out | apply below_alloc | apply pw_below_drewN | apply below_drew1) | exact HB.out)) hb); clear HB; have HB := n0_; clear n0_; (try clear hb); (try clear hb2); (try clear hk); (try clear hi)))
    go_ret
    exact ⟨by first | rfl | (simp [errW_none, errW_some] <;> rfl) | (simp [*, errW_none, errW_some] <;> rfl), by repeat (first | (with_reducible first | exact HB.out | apply below_alloc | apply pw_below_drewN | apply below_drew1) | exact HB.out)⟩
  · rw [if_neg c3] at H
    exact absurd H (by simp)

/-! ### stileref04_Text: function 16 -/
def stileref04_Text.f (k : Nat) (a0 : ByteArray) : Option (ByteArray) := (stileref04_Number.f k (a0.size : Int)).bind fun t148 => (if t148.size + a0.size ≤ 9223372036854775807 then (if (t148 ++ a0).size + 1 ≤ 9223372036854775807 then (some ((t148 ++ a0) ++ (⟨#[44]⟩ : ByteArray))) else (none)) else (none))
theorem stileref04_Text.mono : ∀ a0 k, LeO (stileref04_Text.f k a0) (stileref04_Text.f (k + 1) a0) := by
  intro a0 k
  unfold stileref04_Text.f
  repeat' first
      | (with_reducible exact stileref04_Number.mono _ _)
      | (with_reducible exact LeO.refl _)
      | (with_reducible exact LeO.none _)
      | (with_reducible refine LeO.ite ?_ ?_)
      | (with_reducible refine LeO.bind ?_ (fun _ => ?_))
      | exact stileref04_Number.mono _ _
      | exact LeO.none _
      | refine LeO.ite ?_ ?_
      | refine LeO.bind ?_ (fun _ => ?_)
set_option maxHeartbeats 8000000 in
set_option maxRecDepth 100000 in
theorem stileref04_Text.calls (k : Nat) (a0 : ByteArray) (r : ByteArray) (w : World) (h : stileref04_Text.f k a0 = some r) :
    Calls Tryd.prog 16 #[.string a0] w fun e w' => e = .returned (.string r) ∧ Below w.heap.size w w' := by
  have HB := Aside0.mk (Below.refl w.heap.size w)
  have H : ((stileref04_Number.f k (a0.size : Int)).bind fun t148 => (if t148.size + a0.size ≤ 9223372036854775807 then (if (t148 ++ a0).size + 1 ≤ 9223372036854775807 then (some ((t148 ++ a0) ++ (⟨#[44]⟩ : ByteArray))) else (none)) else (none))) = some r := h
  clear h
  replace H := Option.bind_eq_some_iff.mp H
  obtain ⟨t148, A20, H⟩ := H
  replace H : (if t148.size + a0.size ≤ 9223372036854775807 then (if (t148 ++ a0).size + 1 ≤ 9223372036854775807 then (some ((t148 ++ a0) ++ (⟨#[44]⟩ : ByteArray))) else (none)) else (none)) = some r := H
  have A2 := Aside0.mk A20
  clear A20
  by_cases c3 : t148.size + a0.size ≤ 9223372036854775807
  · rw [if_pos c3] at H
    have c3b0 := eq_true c3
    have c3b1 : decide (t148.size + a0.size ≤ 9223372036854775807) = true := decide_eq_true c3
    try have c3b2 : (9223372036854775807 < t148.size + a0.size) = False := eq_false (Nat.not_lt.2 c3)
    try simp only [ByteArray.size_append, litSize, List.size_toArray, List.length_cons, List.length_nil] at c3b2
    by_cases c4 : (t148 ++ a0).size + 1 ≤ 9223372036854775807
    · rw [if_pos c4] at H
      have c4b0 := eq_true c4
      have c4b1 : decide ((t148 ++ a0).size + 1 ≤ 9223372036854775807) = true := decide_eq_true c4
      try have c4b2 : (9223372036854775807 < (t148 ++ a0).size + 1) = False := eq_false (Nat.not_lt.2 c4)
      try simp only [ByteArray.size_append, litSize, List.size_toArray, List.length_cons, List.length_nil] at c4b2
      obtain rfl := Option.some.inj H
      go_enter Tryd.func16, Tryd.ntmps16
      go_wp2_with (first | ((with_reducible refine gate_callee (f := 13) rfl ?_); refine goesL_ (some 5) rfl rfl Tryd.func13 (by kernel_rfl) rfl #[.int .i64 (a0.size : Int)] rfl (by (try simp only [List.map_toArray, List.map_cons, List.map_nil]); first | done | rfl | (simp only [List.length_drop, List.length_take]; rfl)) ?_; (with_reducible refine (stileref04_Number.calls k (a0.size : Int) t148 _ A2.out).mono ?_); rintro e w5 ⟨rfl, hb⟩; refine ⟨_, rfl, ?_⟩; have n0_ := Aside0.mk (below_step (by repeat (first | (with_reducible first | exact HB.out | apply below_alloc | apply pw_below_drewN | apply below_drew1) | exact HB.out)) hb); clear HB; have HB := n0_; clear n0_; (try clear hb); (try clear hb2); (try clear hk); (try clear hi)))
      go_ret
      exact ⟨by first | rfl | (simp [errW_none, errW_some] <;> rfl) | (simp [*, errW_none, errW_some] <;> rfl), by repeat (first | (with_reducible first | exact HB.out | apply below_alloc | apply pw_below_drewN | apply below_drew1) | exact HB.out)⟩
    · rw [if_neg c4] at H
      exact absurd H (by simp)
  · rw [if_neg c3] at H
    exact absurd H (by simp)

/-! ### stileref04_Mark: function 17 -/
def stileref04_Mark.f (a0 : Bool) : Option (ByteArray) := if a0 = true then (some (⟨#[43]⟩ : ByteArray)) else (some (⟨#[45]⟩ : ByteArray))
set_option maxHeartbeats 8000000 in
set_option maxRecDepth 100000 in
theorem stileref04_Mark.calls (a0 : Bool) (r : ByteArray) (w : World) (h : stileref04_Mark.f a0 = some r) :
    Calls Tryd.prog 17 #[.bool a0] w fun e w' => e = .returned (.string r) ∧ Drawn0 w w' := by
  have H : (if a0 = true then (some (⟨#[43]⟩ : ByteArray)) else (some (⟨#[45]⟩ : ByteArray))) = some r := h
  clear h
  by_cases c2 : a0 = true
  · subst c2
    have H1 : (some (⟨#[43]⟩ : ByteArray)) = some r := by rw [if_pos rfl] at H; exact H
    clear H
    have H := H1
    clear H1
    obtain rfl := Option.some.inj H
    go_enter Tryd.func17, Tryd.ntmps17
    go_wp2
    go_ret
    exact ⟨by first | rfl | (simp; done) | (simp [*]; done), by repeat (first | exact Drawn0.refl _ | apply Drawn0.step)⟩
  · replace c2 := Bool.eq_false_iff.mpr c2
    subst c2
    have H1 : (some (⟨#[45]⟩ : ByteArray)) = some r := by rw [if_neg (show ¬ (false = true) by decide)] at H; exact H
    clear H
    have H := H1
    clear H1
    obtain rfl := Option.some.inj H
    go_enter Tryd.func17, Tryd.ntmps17
    go_wp2
    go_ret
    exact ⟨by first | rfl | (simp; done) | (simp [*]; done), by repeat (first | exact Drawn0.refl _ | apply Drawn0.step)⟩

/-! ### stileref04_Subject: function 21 -/
def stileref04_Subject.f (k : Nat) (a0_0 : ByteArray) (a0_1 : ByteArray) (a0_2 : ByteArray) : Option (ByteArray) := (stileref04_Text.f k a0_0).bind fun t150 => ((stileref04_Text.f k a0_1).bind fun t151 => (if t150.size + t151.size ≤ 9223372036854775807 then ((stileref04_Text.f k a0_2).bind fun t152 => (if (t150 ++ t151).size + t152.size ≤ 9223372036854775807 then (some ((t150 ++ t151) ++ t152)) else (none))) else (none)))
theorem stileref04_Subject.mono : ∀ a0 a1 a2 k, LeO (stileref04_Subject.f k a0 a1 a2) (stileref04_Subject.f (k + 1) a0 a1 a2) := by
  intro a0 a1 a2 k
  unfold stileref04_Subject.f
  repeat' first
      | (with_reducible exact stileref04_Text.mono _ _)
      | (with_reducible exact LeO.refl _)
      | (with_reducible exact LeO.none _)
      | (with_reducible refine LeO.ite ?_ ?_)
      | (with_reducible refine LeO.bind ?_ (fun _ => ?_))
      | exact stileref04_Text.mono _ _
      | exact LeO.none _
      | refine LeO.ite ?_ ?_
      | refine LeO.bind ?_ (fun _ => ?_)
def stileref04_Subject.T1 : Bool × List (List Nat × List Nat) := (true, [([], []), ([0], [0]), ([1], [1]), ([], []), ([3], [3]), ([4, 2], [4]), ([2, 5], [2, 5]), ([], []), ([7], [7]), ([8, 5], [8]), ([6, 9], [6, 9]), ([10, 9, 0, 1, 2, 3, 4, 5, 6, 7, 8, 9, 10], [10])])
def stileref04_Subject.B1 : List Nat := [0, 1, 3, 0, 8, 31, 63, 0, 128, 447, 1023, 2047]
theorem stileref04_Subject.tab1 : rtab .any (opsOf Tryd.f21 1) = stileref04_Subject.T1 := by kernel_rfl
theorem stileref04_Subject.bits1 : waitsOk stileref04_Subject.T1.2 stileref04_Subject.B1 = true := by kernel_rfl
set_option maxHeartbeats 8000000 in
set_option maxRecDepth 100000 in
theorem stileref04_Subject.calls (k : Nat) (a0_0 : ByteArray) (a0_1 : ByteArray) (a0_2 : ByteArray) (r : ByteArray) (w : World) (h : stileref04_Subject.f k a0_0 a0_1 a0_2 = some r) :
    Calls Tryd.prog 21 #[.agg #[.string a0_0, .string a0_1, .string a0_2]] w fun e w' => e = .returned (.string r) ∧ Below w.heap.size w w' := by
  have hu40 := Tryd.underlying40
  have HB := Aside0.mk (Below.refl w.heap.size w)
  have H : ((stileref04_Text.f k a0_0).bind fun t150 => ((stileref04_Text.f k a0_1).bind fun t151 => (if t150.size + t151.size ≤ 9223372036854775807 then ((stileref04_Text.f k a0_2).bind fun t152 => (if (t150 ++ t151).size + t152.size ≤ 9223372036854775807 then (some ((t150 ++ t151) ++ t152)) else (none))) else (none)))) = some r := h
  clear h
  replace H := Option.bind_eq_some_iff.mp H
  obtain ⟨t150, A20, H⟩ := H
  replace H : ((stileref04_Text.f k a0_1).bind fun t151 => (if t150.size + t151.size ≤ 9223372036854775807 then ((stileref04_Text.f k a0_2).bind fun t152 => (if (t150 ++ t151).size + t152.size ≤ 9223372036854775807 then (some ((t150 ++ t151) ++ t152)) else (none))) else (none))) = some r := H
  have A2 := Aside0.mk A20
  clear A20
  replace H := Option.bind_eq_some_iff.mp H
  obtain ⟨t151, A30, H⟩ := H
  replace H : (if t150.size + t151.size ≤ 9223372036854775807 then ((stileref04_Text.f k a0_2).bind fun t152 => (if (t150 ++ t151).size + t152.size ≤ 9223372036854775807 then (some ((t150 ++ t151) ++ t152)) else (none))) else (none)) = some r := H
  have A3 := Aside0.mk A30
  clear A30
  by_cases c4 : t150.size + t151.size ≤ 9223372036854775807
  · rw [if_pos c4] at H
    have c4b0 := eq_true c4
    have c4b1 : decide (t150.size + t151.size ≤ 9223372036854775807) = true := decide_eq_true c4
    try have c4b2 : (9223372036854775807 < t150.size + t151.size) = False := eq_false (Nat.not_lt.2 c4)
    try simp only [ByteArray.size_append, litSize, List.size_toArray, List.length_cons, List.length_nil] at c4b2
    replace H := Option.bind_eq_some_iff.mp H
    obtain ⟨t152, A50, H⟩ := H
    replace H : (if (t150 ++ t151).size + t152.size ≤ 9223372036854775807 then (some ((t150 ++ t151) ++ t152)) else (none)) = some r := H
    have A5 := Aside0.mk A50
    clear A50
    by_cases c6 : (t150 ++ t151).size + t152.size ≤ 9223372036854775807
    · rw [if_pos c6] at H
      have c6b0 := eq_true c6
      have c6b1 : decide ((t150 ++ t151).size + t152.size ≤ 9223372036854775807) = true := decide_eq_true c6
      try have c6b2 : (9223372036854775807 < (t150 ++ t151).size + t152.size) = False := eq_false (Nat.not_lt.2 c6)
      try simp only [ByteArray.size_append, litSize, List.size_toArray, List.length_cons, List.length_nil] at c6b2
      obtain rfl := Option.some.inj H
      go_enter Tryd.func21, Tryd.ntmps21
      try go_wp2_with (first | ((with_reducible refine gate_dst (N := 1) rfl ?_); refine box_event ?hg (N := 1) ?hd (cs := #[.string a0_0, .string a0_1, .string a0_2]) (t := 40) ?hr ?_; (case hd => rfl); (case hg => rfl); (case hr => first | (go_simp; done) | (go_simp; rfl)); intro gb149 hg w7 hbox hb; have n0_ := Aside0.mk (below_step (by repeat (first | (with_reducible first | exact HB.out | apply below_alloc | apply pw_below_drewN | apply below_drew1) | exact HB.out)) hb); have n1_ := Aside0.mk (hbox); have n2_ := Aside0.mk ((by rw [hg]; exact (below_size (by repeat (first | (with_reducible first | exact HB.out | apply below_alloc | apply pw_below_drewN | apply below_drew1) | exact HB.out))) : w.heap.size ≤ gb149)); have n3_ := Aside0.mk ((by rw [hg]; exact (below_size (by repeat (first | (with_reducible first | exact HB.out | apply below_alloc | apply pw_below_drewN | apply below_drew1) | exact HB.out))) : w.heap.size ≤ gb149)); clear HB; have HB := n0_; have BK149 := n1_; have GW149 := n2_; have GE149 := n3_; clear n0_ n1_ n2_ n3_; clear hb hbox hg))
      have n0_ := Aside0.mk (blk_drew BK149.out)
      have n1_ := Aside0.mk (below_drew1 HB.out)
      clear BK149
      clear HB
      have BK149 := n0_
      have HB := n1_
      clear n0_ n1_
      refine start_ (n := 12) (S := fun w' => w'.cell? ⟨gb149, 0, none⟩ = some (.string a0_0) ∧ w'.cell? ⟨gb149, 1, none⟩ = some (.string a0_1) ∧ w'.cell? ⟨gb149, 2, none⟩ = some (.string a0_2)) (ds := []) #[false, false, false, false, false, false, false, false, false, false, false, false] (by kernel_rfl) rfl rfl ⟨(blk_cell BK149.out 0).trans rfl, (blk_cell BK149.out 1).trans rfl, (blk_cell BK149.out 2).trans rfl⟩ (fun hHeld => ?_); refine with_tabW stileref04_Subject.tab1 stileref04_Subject.bits1 (fun HT_ HW_ => ?_)
      generalize w7.drew = w8 at BK149 HB hHeld ⊢
      refine pure_ (i := 0) (N := some 3) (v := ?_) (a' := ?_) #[true, false, false, false, false, false, false, false, false, false, false, false] rfl rfl (any_of HT_.out (by kernel_rfl)) (fun _ _ _ h => h) (Or.inl ⟨by rfl, ?_⟩) ?_ ?_
      rotate_left
      · intro w'
        go_simp
        with_reducible rfl
      rotate_left
      · simp only [Act.put, List.setIfInBounds_toArray, List.set_cons_zero, List.set_cons_succ, i64_w, i32_w]
        rfl
      refine pure_ (i := 3) (N := some 6) (v := ?_) (a' := ?_) #[true, false, false, true, false, false, false, false, false, false, false, false] rfl rfl (any_of HT_.out (by kernel_rfl)) (fun _ _ _ h => h) (Or.inl ⟨by rfl, ?_⟩) ?_ ?_
      rotate_left
      · intro w'
        go_simp
        with_reducible rfl
      rotate_left
      · simp only [Act.put, List.setIfInBounds_toArray, List.set_cons_zero, List.set_cons_succ, i64_w, i32_w]
        rfl
      refine pure_ (i := 7) (N := some 10) (v := ?_) (a' := ?_) #[true, false, false, true, false, false, false, true, false, false, false, false] rfl rfl (any_of HT_.out (by kernel_rfl)) (fun _ _ _ h => h) (Or.inl ⟨by rfl, ?_⟩) ?_ ?_
      rotate_left
      · intro w'
        go_simp
        with_reducible rfl
      rotate_left
      · simp only [Act.put, List.setIfInBounds_toArray, List.set_cons_zero, List.set_cons_succ, i64_w, i32_w]
        rfl
      refine take_ (i := 1) (N := some 4) (v := ?_) (a' := ?_) #[true, true, false, true, false, false, false, true, false, false, false, false] rfl rfl (take_ofW HT_.out HW_.out (by kernel_rfl)) (fun _ _ _ h => h) (Or.inl ⟨by rfl, ?_⟩) hHeld ?_ ?_
      rotate_left
      · rintro w' ⟨s0, s1, s2⟩
        go_simp
        with_reducible rfl
      rotate_left
      · simp only [Act.put, List.setIfInBounds_toArray, List.set_cons_zero, List.set_cons_succ, i64_w, i32_w]
        rfl
      refine take_ (i := 4) (N := some 7) (v := ?_) (a' := ?_) #[true, true, false, true, true, false, false, true, false, false, false, false] rfl rfl (take_ofW HT_.out HW_.out (by kernel_rfl)) (fun _ _ _ h => h) (Or.inl ⟨by rfl, ?_⟩) hHeld ?_ ?_
      rotate_left
      · rintro w' ⟨s0, s1, s2⟩
        go_simp
        with_reducible rfl
      rotate_left
      · simp only [Act.put, List.setIfInBounds_toArray, List.set_cons_zero, List.set_cons_succ, i64_w, i32_w]
        rfl
      refine take_ (i := 8) (N := some 11) (v := ?_) (a' := ?_) #[true, true, false, true, true, false, false, true, true, false, false, false] rfl rfl (take_ofW HT_.out HW_.out (by kernel_rfl)) (fun _ _ _ h => h) (Or.inl ⟨by rfl, ?_⟩) hHeld ?_ ?_
      rotate_left
      · rintro w' ⟨s0, s1, s2⟩
        go_simp
        with_reducible rfl
      rotate_left
      · simp only [Act.put, List.setIfInBounds_toArray, List.set_cons_zero, List.set_cons_succ, i64_w, i32_w]
        rfl
      refine one_ (i := 2) (N := some 5) #[true, true, true, true, true, false, false, true, true, false, false, false] rfl rfl (one_of HT_.out (by kernel_rfl)) (by decide) (fun K hK => ?_)
      refine goes_ Tryd.func16 (by kernel_rfl) rfl #[.string a0_0] (by rfl) rfl rfl (by (try simp only [List.map_toArray, List.map_cons, List.map_nil]); first | done | rfl | (simp only [List.length_drop, List.length_take]; rfl)) ?_
      with_reducible refine (stileref04_Text.calls k a0_0 t150 _ A2.out).mono ?_
      rintro e w9 ⟨rfl, hb⟩
      refine ⟨_, rfl, ?_⟩
      have n0_ := Aside0.mk (blk_below (g := gb149) (o := .cells #[.string a0_0, .string a0_1, .string a0_2] 40 (0, 0)) (by (with_reducible repeat (first | refine blk_drewN ?_ _ | refine blk_drew ?_ | refine blk_alloc ?_ _)); exact BK149.out) hb)
      have n1_ := Aside0.mk (below_step (by repeat (first | (with_reducible first | exact HB.out | apply below_alloc | apply pw_below_drewN | apply below_drew1 | refine below_set ?_ GE149.out) | exact HB.out)) hb)
      clear BK149
      clear HB
      have BK149 := n0_
      have HB := n1_
      clear n0_ n1_
      (try clear hb)
      (try clear hb2)
      (try clear hk)
      (try clear hi)
      refine hK.out _ _ ⟨(blk_cell BK149.out 0).trans rfl, (blk_cell BK149.out 1).trans rfl, (blk_cell BK149.out 2).trans rfl⟩ (fun hHeld => ?_)
      clear hK K
      refine norm_ (a' := ?_) ?_ ?_
      rotate_left
      · show Act.put _ (some 5) _ = _
        simp only [Act.put, List.setIfInBounds_toArray, List.set_cons_zero, List.set_cons_succ, i64_w, i32_w]
        rfl
      refine one_ (i := 5) (N := some 8) #[true, true, true, true, true, true, false, true, true, false, false, false] rfl rfl (one_of HT_.out (by kernel_rfl)) (by decide) (fun K hK => ?_)
      refine goes_ Tryd.func16 (by kernel_rfl) rfl #[.string a0_1] (by rfl) rfl rfl (by (try simp only [List.map_toArray, List.map_cons, List.map_nil]); first | done | rfl | (simp only [List.length_drop, List.length_take]; rfl)) ?_
      with_reducible refine (stileref04_Text.calls k a0_1 t151 _ A3.out).mono ?_
      rintro e w10 ⟨rfl, hb⟩
      refine ⟨_, rfl, ?_⟩
      have n0_ := Aside0.mk (blk_below (g := gb149) (o := .cells #[.string a0_0, .string a0_1, .string a0_2] 40 (0, 0)) (by (with_reducible repeat (first | refine blk_drewN ?_ _ | refine blk_drew ?_ | refine blk_alloc ?_ _)); exact BK149.out) hb)
      have n1_ := Aside0.mk (below_step (by repeat (first | (with_reducible first | exact HB.out | apply below_alloc | apply pw_below_drewN | apply below_drew1 | refine below_set ?_ GE149.out) | exact HB.out)) hb)
      clear BK149
      clear HB
      have BK149 := n0_
      have HB := n1_
      clear n0_ n1_
      (try clear hb)
      (try clear hb2)
      (try clear hk)
      (try clear hi)
      refine hK.out _ _ ⟨(blk_cell BK149.out 0).trans rfl, (blk_cell BK149.out 1).trans rfl, (blk_cell BK149.out 2).trans rfl⟩ (fun hHeld => ?_)
      clear hK K
      refine norm_ (a' := ?_) ?_ ?_
      rotate_left
      · show Act.put _ (some 8) _ = _
        simp only [Act.put, List.setIfInBounds_toArray, List.set_cons_zero, List.set_cons_succ, i64_w, i32_w]
        rfl
      refine pure_ (i := 6) (N := some 9) (v := ?_) (a' := ?_) #[true, true, true, true, true, true, true, true, true, false, false, false] rfl rfl (any_of HT_.out (by kernel_rfl)) (fun _ _ _ h => h) (Or.inl ⟨by rfl, ?_⟩) ?_ ?_
      rotate_left
      · intro w'
        go_simp
        with_reducible rfl
      rotate_left
      · simp only [Act.put, List.setIfInBounds_toArray, List.set_cons_zero, List.set_cons_succ, i64_w, i32_w]
        rfl
      refine one_ (i := 9) (N := some 12) #[true, true, true, true, true, true, true, true, true, true, false, false] rfl rfl (one_of HT_.out (by kernel_rfl)) (by decide) (fun K hK => ?_)
      refine goes_ Tryd.func16 (by kernel_rfl) rfl #[.string a0_2] (by rfl) rfl rfl (by (try simp only [List.map_toArray, List.map_cons, List.map_nil]); first | done | rfl | (simp only [List.length_drop, List.length_take]; rfl)) ?_
      with_reducible refine (stileref04_Text.calls k a0_2 t152 _ A5.out).mono ?_
      rintro e w11 ⟨rfl, hb⟩
      refine ⟨_, rfl, ?_⟩
      have n0_ := Aside0.mk (blk_below (g := gb149) (o := .cells #[.string a0_0, .string a0_1, .string a0_2] 40 (0, 0)) (by (with_reducible repeat (first | refine blk_drewN ?_ _ | refine blk_drew ?_ | refine blk_alloc ?_ _)); exact BK149.out) hb)
      have n1_ := Aside0.mk (below_step (by repeat (first | (with_reducible first | exact HB.out | apply below_alloc | apply pw_below_drewN | apply below_drew1 | refine below_set ?_ GE149.out) | exact HB.out)) hb)
      clear BK149
      clear HB
      have BK149 := n0_
      have HB := n1_
      clear n0_ n1_
      (try clear hb)
      (try clear hb2)
      (try clear hk)
      (try clear hi)
      refine hK.out _ _ ⟨(blk_cell BK149.out 0).trans rfl, (blk_cell BK149.out 1).trans rfl, (blk_cell BK149.out 2).trans rfl⟩ (fun hHeld => ?_)
      clear hK K
      refine norm_ (a' := ?_) ?_ ?_
      rotate_left
      · show Act.put _ (some 12) _ = _
        simp only [Act.put, List.setIfInBounds_toArray, List.set_cons_zero, List.set_cons_succ, i64_w, i32_w]
        rfl
      refine pure_ (i := 10) (N := some 13) (v := ?_) (a' := ?_) #[true, true, true, true, true, true, true, true, true, true, true, false] rfl rfl (any_of HT_.out (by kernel_rfl)) (fun _ _ _ h => h) (Or.inl ⟨by rfl, ?_⟩) ?_ ?_
      rotate_left
      · intro w'
        go_simp
        with_reducible rfl
      rotate_left
      · simp only [Act.put, List.setIfInBounds_toArray, List.set_cons_zero, List.set_cons_succ, i64_w, i32_w]
        rfl
      refine pure_ (i := 11) (N := some 2) (v := ?_) (a' := ?_) #[true, true, true, true, true, true, true, true, true, true, true, true] rfl rfl (any_of HT_.out (by kernel_rfl)) (fun _ _ _ h => h) (Or.inl ⟨by rfl, ?_⟩) ?_ ?_
      rotate_left
      · intro w'
        go_simp
        with_reducible rfl
      rotate_left
      · simp only [Act.put, List.setIfInBounds_toArray, List.set_cons_zero, List.set_cons_succ, i64_w, i32_w]
        rfl
      refine done_ (done_of HT_.out (by kernel_rfl)) ?_
      try go_wp2
      go_ret
      exact ⟨by first | rfl | (simp [errW_none, errW_some] <;> rfl) | (simp [*, errW_none, errW_some] <;> rfl), by repeat (first | (with_reducible first | exact HB.out | apply below_alloc | apply pw_below_drewN | apply below_drew1 | refine below_set ?_ GE149.out) | exact HB.out)⟩
    · rw [if_neg c6] at H
      exact absurd H (by simp)
  · rw [if_neg c4] at H
    exact absurd H (by simp)

/-! ### stileref04_Tuple: function 22 -/
def stileref04_Tuple.f (k : Nat) (a0_0 : ByteArray) (a0_1 : ByteArray) (a0_2 : ByteArray) (a0_3 : ByteArray) (a0_4 : ByteArray) (a0_5 : ByteArray) : Option (ByteArray) := (stileref04_Text.f k a0_0).bind fun t154 => ((stileref04_Text.f k a0_1).bind fun t155 => (if t154.size + t155.size ≤ 9223372036854775807 then ((stileref04_Text.f k a0_2).bind fun t156 => (if (t154 ++ t155).size + t156.size ≤ 9223372036854775807 then ((stileref04_Subject.f k a0_3 a0_4 a0_5).bind fun t157 => (if ((t154 ++ t155) ++ t156).size + t157.size ≤ 9223372036854775807 then (some (((t154 ++ t155) ++ t156) ++ t157)) else (none))) else (none))) else (none)))
theorem stileref04_Tuple.mono : ∀ a0 a1 a2 a3 a4 a5 k, LeO (stileref04_Tuple.f k a0 a1 a2 a3 a4 a5) (stileref04_Tuple.f (k + 1) a0 a1 a2 a3 a4 a5) := by
  intro a0 a1 a2 a3 a4 a5 k
  unfold stileref04_Tuple.f
  repeat' first
      | (with_reducible exact stileref04_Subject.mono _ _ _ _)
      | (with_reducible exact stileref04_Text.mono _ _)
      | (with_reducible exact LeO.refl _)
      | (with_reducible exact LeO.none _)
      | (with_reducible refine LeO.ite ?_ ?_)
      | (with_reducible refine LeO.bind ?_ (fun _ => ?_))
      | exact stileref04_Subject.mono _ _ _ _
      | exact stileref04_Text.mono _ _
      | exact LeO.none _
      | refine LeO.ite ?_ ?_
      | refine LeO.bind ?_ (fun _ => ?_)
def stileref04_Tuple.T1 : Bool × List (List Nat × List Nat) := (true, [([], []), ([0], [0]), ([1], [1]), ([], []), ([3], [3]), ([4, 2], [4]), ([2, 5], [2, 5]), ([], []), ([7], [7]), ([8, 5], [8]), ([6, 9], [6, 9]), ([], []), ([11], [11]), ([12, 9], [12]), ([10, 13], [10, 13]), ([14, 13, 0, 1, 2, 3, 4, 5, 6, 7, 8, 9, 10, 11, 12, 13, 14], [14])])
def stileref04_Tuple.B1 : List Nat := [0, 1, 3, 0, 8, 31, 63, 0, 128, 447, 1023, 0, 2048, 7103, 16383, 32767]
theorem stileref04_Tuple.tab1 : rtab .any (opsOf Tryd.f22 1) = stileref04_Tuple.T1 := by kernel_rfl
theorem stileref04_Tuple.bits1 : waitsOk stileref04_Tuple.T1.2 stileref04_Tuple.B1 = true := by kernel_rfl
set_option maxHeartbeats 8000000 in
set_option maxRecDepth 100000 in
theorem stileref04_Tuple.calls (k : Nat) (a0_0 : ByteArray) (a0_1 : ByteArray) (a0_2 : ByteArray) (a0_3 : ByteArray) (a0_4 : ByteArray) (a0_5 : ByteArray) (r : ByteArray) (w : World) (h : stileref04_Tuple.f k a0_0 a0_1 a0_2 a0_3 a0_4 a0_5 = some r) :
    Calls Tryd.prog 22 #[.agg #[.string a0_0, .string a0_1, .string a0_2, .string a0_3, .string a0_4, .string a0_5]] w fun e w' => e = .returned (.string r) ∧ Below w.heap.size w w' := by
  have hu42 := Tryd.underlying42
  have hu40 := Tryd.underlying40
  have HB := Aside0.mk (Below.refl w.heap.size w)
  have H : ((stileref04_Text.f k a0_0).bind fun t154 => ((stileref04_Text.f k a0_1).bind fun t155 => (if t154.size + t155.size ≤ 9223372036854775807 then ((stileref04_Text.f k a0_2).bind fun t156 => (if (t154 ++ t155).size + t156.size ≤ 9223372036854775807 then ((stileref04_Subject.f k a0_3 a0_4 a0_5).bind fun t157 => (if ((t154 ++ t155) ++ t156).size + t157.size ≤ 9223372036854775807 then (some (((t154 ++ t155) ++ t156) ++ t157)) else (none))) else (none))) else (none)))) = some r := h
  clear h
  replace H := Option.bind_eq_some_iff.mp H
  obtain ⟨t154, A20, H⟩ := H
  replace H : ((stileref04_Text.f k a0_1).bind fun t155 => (if t154.size + t155.size ≤ 9223372036854775807 then ((stileref04_Text.f k a0_2).bind fun t156 => (if (t154 ++ t155).size + t156.size ≤ 9223372036854775807 then ((stileref04_Subject.f k a0_3 a0_4 a0_5).bind fun t157 => (if ((t154 ++ t155) ++ t156).size + t157.size ≤ 9223372036854775807 then (some (((t154 ++ t155) ++ t156) ++ t157)) else (none))) else (none))) else (none))) = some r := H
  have A2 := Aside0.mk A20
  clear A20
  replace H := Option.bind_eq_some_iff.mp H
  obtain ⟨t155, A30, H⟩ := H
  replace H : (if t154.size + t155.size ≤ 9223372036854775807 then ((stileref04_Text.f k a0_2).bind fun t156 => (if (t154 ++ t155).size + t156.size ≤ 9223372036854775807 then ((stileref04_Subject.f k a0_3 a0_4 a0_5).bind fun t157 => (if ((t154 ++ t155) ++ t156).size + t157.size ≤ 9223372036854775807 then (some (((t154 ++ t155) ++ t156) ++ t157)) else (none))) else (none))) else (none)) = some r := H
  have A3 := Aside0.mk A30
  clear A30
  by_cases c4 : t154.size + t155.size ≤ 9223372036854775807
  · rw [if_pos c4] at H
    have c4b0 := eq_true c4
    have c4b1 : decide (t154.size + t155.size ≤ 9223372036854775807) = true := decide_eq_true c4
    try have c4b2 : (9223372036854775807 < t154.size + t155.size) = False := eq_false (Nat.not_lt.2 c4)
    try simp only [ByteArray.size_append, litSize, List.size_toArray, List.length_cons, List.length_nil] at c4b2
    replace H := Option.bind_eq_some_iff.mp H
    obtain ⟨t156, A50, H⟩ := H
    replace H : (if (t154 ++ t155).size + t156.size ≤ 9223372036854775807 then ((stileref04_Subject.f k a0_3 a0_4 a0_5).bind fun t157 => (if ((t154 ++ t155) ++ t156).size + t157.size ≤ 9223372036854775807 then (some (((t154 ++ t155) ++ t156) ++ t157)) else (none))) else (none)) = some r := H
    have A5 := Aside0.mk A50
    clear A50
    by_cases c6 : (t154 ++ t155).size + t156.size ≤ 9223372036854775807
    · rw [if_pos c6] at H
      have c6b0 := eq_true c6
      have c6b1 : decide ((t154 ++ t155).size + t156.size ≤ 9223372036854775807) = true := decide_eq_true c6
      try have c6b2 : (9223372036854775807 < (t154 ++ t155).size + t156.size) = False := eq_false (Nat.not_lt.2 c6)
      try simp only [ByteArray.size_append, litSize, List.size_toArray, List.length_cons, List.length_nil] at c6b2
      replace H := Option.bind_eq_some_iff.mp H
      obtain ⟨t157, A70, H⟩ := H
      replace H : (if ((t154 ++ t155) ++ t156).size + t157.size ≤ 9223372036854775807 then (some (((t154 ++ t155) ++ t156) ++ t157)) else (none)) = some r := H
      have A7 := Aside0.mk A70
      clear A70
      by_cases c8 : ((t154 ++ t155) ++ t156).size + t157.size ≤ 9223372036854775807
      · rw [if_pos c8] at H
        have c8b0 := eq_true c8
        have c8b1 : decide (((t154 ++ t155) ++ t156).size + t157.size ≤ 9223372036854775807) = true := decide_eq_true c8
        try have c8b2 : (9223372036854775807 < ((t154 ++ t155) ++ t156).size + t157.size) = False := eq_false (Nat.not_lt.2 c8)
        try simp only [ByteArray.size_append, litSize, List.size_toArray, List.length_cons, List.length_nil] at c8b2
        obtain rfl := Option.some.inj H
        go_enter Tryd.func22, Tryd.ntmps22
        try go_wp2_with (first | ((with_reducible refine gate_dst (N := 1) rfl ?_); refine box_event ?hg (N := 1) ?hd (cs := #[.string a0_0, .string a0_1, .string a0_2, .string a0_3, .string a0_4, .string a0_5]) (t := 42) ?hr ?_; (case hd => rfl); (case hg => rfl); (case hr => first | (go_simp; done) | (go_simp; rfl)); intro gb153 hg w9 hbox hb; have n0_ := Aside0.mk (below_step (by repeat (first | (with_reducible first | exact HB.out | apply below_alloc | apply pw_below_drewN | apply below_drew1) | exact HB.out)) hb); have n1_ := Aside0.mk (hbox); have n2_ := Aside0.mk ((by rw [hg]; exact (below_size (by repeat (first | (with_reducible first | exact HB.out | apply below_alloc | apply pw_below_drewN | apply below_drew1) | exact HB.out))) : w.heap.size ≤ gb153)); have n3_ := Aside0.mk ((by rw [hg]; exact (below_size (by repeat (first | (with_reducible first | exact HB.out | apply below_alloc | apply pw_below_drewN | apply below_drew1) | exact HB.out))) : w.heap.size ≤ gb153)); clear HB; have HB := n0_; have BK153 := n1_; have GW153 := n2_; have GE153 := n3_; clear n0_ n1_ n2_ n3_; clear hb hbox hg))
        have n0_ := Aside0.mk (blk_drew BK153.out)
        have n1_ := Aside0.mk (below_drew1 HB.out)
        clear BK153
        clear HB
        have BK153 := n0_
        have HB := n1_
        clear n0_ n1_
        refine start_ (n := 16) (S := fun w' => w'.cell? ⟨gb153, 0, none⟩ = some (.string a0_0) ∧ w'.cell? ⟨gb153, 1, none⟩ = some (.string a0_1) ∧ w'.cell? ⟨gb153, 2, none⟩ = some (.string a0_2) ∧ w'.cell? ⟨gb153, 3, none⟩ = some (.string a0_3) ∧ w'.cell? ⟨gb153, 4, none⟩ = some (.string a0_4) ∧ w'.cell? ⟨gb153, 5, none⟩ = some (.string a0_5)) (ds := []) #[false, false, false, false, false, false, false, false, false, false, false, false, false, false, false, false] (by kernel_rfl) rfl rfl ⟨(blk_cell BK153.out 0).trans rfl, (blk_cell BK153.out 1).trans rfl, (blk_cell BK153.out 2).trans rfl, (blk_cell BK153.out 3).trans rfl, (blk_cell BK153.out 4).trans rfl, (blk_cell BK153.out 5).trans rfl⟩ (fun hHeld => ?_); refine with_tabW stileref04_Tuple.tab1 stileref04_Tuple.bits1 (fun HT_ HW_ => ?_)
        generalize w9.drew = w10 at BK153 HB hHeld ⊢
        refine pure_ (i := 0) (N := some 3) (v := ?_) (a' := ?_) #[true, false, false, false, false, false, false, false, false, false, false, false, false, false, false, false] rfl rfl (any_of HT_.out (by kernel_rfl)) (fun _ _ _ h => h) (Or.inl ⟨by rfl, ?_⟩) ?_ ?_
        rotate_left
        · intro w'
          go_simp
          with_reducible rfl
        rotate_left
        · simp only [Act.put, List.setIfInBounds_toArray, List.set_cons_zero, List.set_cons_succ, i64_w, i32_w]
          rfl
        refine pure_ (i := 3) (N := some 6) (v := ?_) (a' := ?_) #[true, false, false, true, false, false, false, false, false, false, false, false, false, false, false, false] rfl rfl (any_of HT_.out (by kernel_rfl)) (fun _ _ _ h => h) (Or.inl ⟨by rfl, ?_⟩) ?_ ?_
        rotate_left
        · intro w'
          go_simp
          with_reducible rfl
        rotate_left
        · simp only [Act.put, List.setIfInBounds_toArray, List.set_cons_zero, List.set_cons_succ, i64_w, i32_w]
          rfl
        refine pure_ (i := 7) (N := some 10) (v := ?_) (a' := ?_) #[true, false, false, true, false, false, false, true, false, false, false, false, false, false, false, false] rfl rfl (any_of HT_.out (by kernel_rfl)) (fun _ _ _ h => h) (Or.inl ⟨by rfl, ?_⟩) ?_ ?_
        rotate_left
        · intro w'
          go_simp
          with_reducible rfl
        rotate_left
        · simp only [Act.put, List.setIfInBounds_toArray, List.set_cons_zero, List.set_cons_succ, i64_w, i32_w]
          rfl
        refine pure_ (i := 11) (N := some 14) (v := ?_) (a' := ?_) #[true, false, false, true, false, false, false, true, false, false, false, true, false, false, false, false] rfl rfl (any_of HT_.out (by kernel_rfl)) (fun _ _ _ h => h) (Or.inl ⟨by rfl, ?_⟩) ?_ ?_
        rotate_left
        · intro w'
          go_simp
          with_reducible rfl
        rotate_left
        · simp only [Act.put, List.setIfInBounds_toArray, List.set_cons_zero, List.set_cons_succ, i64_w, i32_w]
          rfl
        refine take_ (i := 1) (N := some 4) (v := ?_) (a' := ?_) #[true, true, false, true, false, false, false, true, false, false, false, true, false, false, false, false] rfl rfl (take_ofW HT_.out HW_.out (by kernel_rfl)) (fun _ _ _ h => h) (Or.inl ⟨by rfl, ?_⟩) hHeld ?_ ?_
        rotate_left
        · rintro w' ⟨s0, s1, s2, s3, s4, s5⟩
          go_simp
          with_reducible rfl
        rotate_left
        · simp only [Act.put, List.setIfInBounds_toArray, List.set_cons_zero, List.set_cons_succ, i64_w, i32_w]
          rfl
        refine take_ (i := 4) (N := some 7) (v := ?_) (a' := ?_) #[true, true, false, true, true, false, false, true, false, false, false, true, false, false, false, false] rfl rfl (take_ofW HT_.out HW_.out (by kernel_rfl)) (fun _ _ _ h => h) (Or.inl ⟨by rfl, ?_⟩) hHeld ?_ ?_
        rotate_left
        · rintro w' ⟨s0, s1, s2, s3, s4, s5⟩
          go_simp
          with_reducible rfl
        rotate_left
        · simp only [Act.put, List.setIfInBounds_toArray, List.set_cons_zero, List.set_cons_succ, i64_w, i32_w]
          rfl
        refine take_ (i := 8) (N := some 11) (v := ?_) (a' := ?_) #[true, true, false, true, true, false, false, true, true, false, false, true, false, false, false, false] rfl rfl (take_ofW HT_.out HW_.out (by kernel_rfl)) (fun _ _ _ h => h) (Or.inl ⟨by rfl, ?_⟩) hHeld ?_ ?_
        rotate_left
        · rintro w' ⟨s0, s1, s2, s3, s4, s5⟩
          go_simp
          with_reducible rfl
        rotate_left
        · simp only [Act.put, List.setIfInBounds_toArray, List.set_cons_zero, List.set_cons_succ, i64_w, i32_w]
          rfl
        refine take_ (i := 12) (N := some 15) (v := ?_) (a' := ?_) #[true, true, false, true, true, false, false, true, true, false, false, true, true, false, false, false] rfl rfl (take_ofW HT_.out HW_.out (by kernel_rfl)) (fun _ _ _ h => h) (Or.inl ⟨by rfl, ?_⟩) hHeld ?_ ?_
        rotate_left
        · rintro w' ⟨s0, s1, s2, s3, s4, s5⟩
          go_simp
          with_reducible rfl
        rotate_left
        · simp only [Act.put, List.setIfInBounds_toArray, List.set_cons_zero, List.set_cons_succ, i64_w, i32_w]
          rfl
        refine one_ (i := 2) (N := some 5) #[true, true, true, true, true, false, false, true, true, false, false, true, true, false, false, false] rfl rfl (one_of HT_.out (by kernel_rfl)) (by decide) (fun K hK => ?_)
        refine goes_ Tryd.func16 (by kernel_rfl) rfl #[.string a0_0] (by rfl) rfl rfl (by (try simp only [List.map_toArray, List.map_cons, List.map_nil]); first | done | rfl | (simp only [List.length_drop, List.length_take]; rfl)) ?_
        with_reducible refine (stileref04_Text.calls k a0_0 t154 _ A2.out).mono ?_
        rintro e w11 ⟨rfl, hb⟩
        refine ⟨_, rfl, ?_⟩
        have n0_ := Aside0.mk (blk_below (g := gb153) (o := .cells #[.string a0_0, .string a0_1, .string a0_2, .string a0_3, .string a0_4, .string a0_5] 42 (0, 0)) (by (with_reducible repeat (first | refine blk_drewN ?_ _ | refine blk_drew ?_ | refine blk_alloc ?_ _)); exact BK153.out) hb)
        have n1_ := Aside0.mk (below_step (by repeat (first | (with_reducible first | exact HB.out | apply below_alloc | apply pw_below_drewN | apply below_drew1 | refine below_set ?_ GE153.out) | exact HB.out)) hb)
        clear BK153
        clear HB
        have BK153 := n0_
        have HB := n1_
        clear n0_ n1_
        (try clear hb)
        (try clear hb2)
        (try clear hk)
        (try clear hi)
        refine hK.out _ _ ⟨(blk_cell BK153.out 0).trans rfl, (blk_cell BK153.out 1).trans rfl, (blk_cell BK153.out 2).trans rfl, (blk_cell BK153.out 3).trans rfl, (blk_cell BK153.out 4).trans rfl, (blk_cell BK153.out 5).trans rfl⟩ (fun hHeld => ?_)
        clear hK K
        refine norm_ (a' := ?_) ?_ ?_
        rotate_left
        · show Act.put _ (some 5) _ = _
          simp only [Act.put, List.setIfInBounds_toArray, List.set_cons_zero, List.set_cons_succ, i64_w, i32_w]
          rfl
        refine one_ (i := 5) (N := some 8) #[true, true, true, true, true, true, false, true, true, false, false, true, true, false, false, false] rfl rfl (one_of HT_.out (by kernel_rfl)) (by decide) (fun K hK => ?_)
        refine goes_ Tryd.func16 (by kernel_rfl) rfl #[.string a0_1] (by rfl) rfl rfl (by (try simp only [List.map_toArray, List.map_cons, List.map_nil]); first | done | rfl | (simp only [List.length_drop, List.length_take]; rfl)) ?_
        with_reducible refine (stileref04_Text.calls k a0_1 t155 _ A3.out).mono ?_
        rintro e w12 ⟨rfl, hb⟩
        refine ⟨_, rfl, ?_⟩
        have n0_ := Aside0.mk (blk_below (g := gb153) (o := .cells #[.string a0_0, .string a0_1, .string a0_2, .string a0_3, .string a0_4, .string a0_5] 42 (0, 0)) (by (with_reducible repeat (first | refine blk_drewN ?_ _ | refine blk_drew ?_ | refine blk_alloc ?_ _)); exact BK153.out) hb)
        have n1_ := Aside0.mk (below_step (by repeat (first | (with_reducible first | exact HB.out | apply below_alloc | apply pw_below_drewN | apply below_drew1 | refine below_set ?_ GE153.out) | exact HB.out)) hb)
        clear BK153
        clear HB
        have BK153 := n0_
        have HB := n1_
        clear n0_ n1_
        (try clear hb)
        (try clear hb2)
        (try clear hk)
        (try clear hi)
        refine hK.out _ _ ⟨(blk_cell BK153.out 0).trans rfl, (blk_cell BK153.out 1).trans rfl, (blk_cell BK153.out 2).trans rfl, (blk_cell BK153.out 3).trans rfl, (blk_cell BK153.out 4).trans rfl, (blk_cell BK153.out 5).trans rfl⟩ (fun hHeld => ?_)
        clear hK K
        refine norm_ (a' := ?_) ?_ ?_
        rotate_left
        · show Act.put _ (some 8) _ = _
          simp only [Act.put, List.setIfInBounds_toArray, List.set_cons_zero, List.set_cons_succ, i64_w, i32_w]
          rfl
        refine pure_ (i := 6) (N := some 9) (v := ?_) (a' := ?_) #[true, true, true, true, true, true, true, true, true, false, false, true, true, false, false, false] rfl rfl (any_of HT_.out (by kernel_rfl)) (fun _ _ _ h => h) (Or.inl ⟨by rfl, ?_⟩) ?_ ?_
        rotate_left
        · intro w'
          go_simp
          with_reducible rfl
        rotate_left
        · simp only [Act.put, List.setIfInBounds_toArray, List.set_cons_zero, List.set_cons_succ, i64_w, i32_w]
          rfl
        refine one_ (i := 9) (N := some 12) #[true, true, true, true, true, true, true, true, true, true, false, true, true, false, false, false] rfl rfl (one_of HT_.out (by kernel_rfl)) (by decide) (fun K hK => ?_)
        refine goes_ Tryd.func16 (by kernel_rfl) rfl #[.string a0_2] (by rfl) rfl rfl (by (try simp only [List.map_toArray, List.map_cons, List.map_nil]); first | done | rfl | (simp only [List.length_drop, List.length_take]; rfl)) ?_
        with_reducible refine (stileref04_Text.calls k a0_2 t156 _ A5.out).mono ?_
        rintro e w13 ⟨rfl, hb⟩
        refine ⟨_, rfl, ?_⟩
        have n0_ := Aside0.mk (blk_below (g := gb153) (o := .cells #[.string a0_0, .string a0_1, .string a0_2, .string a0_3, .string a0_4, .string a0_5] 42 (0, 0)) (by (with_reducible repeat (first | refine blk_drewN ?_ _ | refine blk_drew ?_ | refine blk_alloc ?_ _)); exact BK153.out) hb)
        have n1_ := Aside0.mk (below_step (by repeat (first | (with_reducible first | exact HB.out | apply below_alloc | apply pw_below_drewN | apply below_drew1 | refine below_set ?_ GE153.out) | exact HB.out)) hb)
        clear BK153
        clear HB
        have BK153 := n0_
        have HB := n1_
        clear n0_ n1_
        (try clear hb)
        (try clear hb2)
        (try clear hk)
        (try clear hi)
        refine hK.out _ _ ⟨(blk_cell BK153.out 0).trans rfl, (blk_cell BK153.out 1).trans rfl, (blk_cell BK153.out 2).trans rfl, (blk_cell BK153.out 3).trans rfl, (blk_cell BK153.out 4).trans rfl, (blk_cell BK153.out 5).trans rfl⟩ (fun hHeld => ?_)
        clear hK K
        refine norm_ (a' := ?_) ?_ ?_
        rotate_left
        · show Act.put _ (some 12) _ = _
          simp only [Act.put, List.setIfInBounds_toArray, List.set_cons_zero, List.set_cons_succ, i64_w, i32_w]
          rfl
        refine pure_ (i := 10) (N := some 13) (v := ?_) (a' := ?_) #[true, true, true, true, true, true, true, true, true, true, true, true, true, false, false, false] rfl rfl (any_of HT_.out (by kernel_rfl)) (fun _ _ _ h => h) (Or.inl ⟨by rfl, ?_⟩) ?_ ?_
        rotate_left
        · intro w'
          go_simp
          with_reducible rfl
        rotate_left
        · simp only [Act.put, List.setIfInBounds_toArray, List.set_cons_zero, List.set_cons_succ, i64_w, i32_w]
          rfl
        refine one_ (i := 13) (N := some 16) #[true, true, true, true, true, true, true, true, true, true, true, true, true, true, false, false] rfl rfl (one_of HT_.out (by kernel_rfl)) (by decide) (fun K hK => ?_)
        refine goes_ Tryd.func21 (by kernel_rfl) rfl #[.agg #[.string a0_3, .string a0_4, .string a0_5]] (by rfl) rfl rfl (by (try simp only [List.map_toArray, List.map_cons, List.map_nil]); first | done | rfl | (simp only [List.length_drop, List.length_take]; rfl)) ?_
        with_reducible refine (stileref04_Subject.calls k a0_3 a0_4 a0_5 t157 _ A7.out).mono ?_
        rintro e w14 ⟨rfl, hb⟩
        refine ⟨_, rfl, ?_⟩
        have n0_ := Aside0.mk (blk_below (g := gb153) (o := .cells #[.string a0_0, .string a0_1, .string a0_2, .string a0_3, .string a0_4, .string a0_5] 42 (0, 0)) (by (with_reducible repeat (first | refine blk_drewN ?_ _ | refine blk_drew ?_ | refine blk_alloc ?_ _)); exact BK153.out) hb)
        have n1_ := Aside0.mk (below_step (by repeat (first | (with_reducible first | exact HB.out | apply below_alloc | apply pw_below_drewN | apply below_drew1 | refine below_set ?_ GE153.out) | exact HB.out)) hb)
        clear BK153
        clear HB
        have BK153 := n0_
        have HB := n1_
        clear n0_ n1_
        (try clear hb)
        (try clear hb2)
        (try clear hk)
        (try clear hi)
        refine hK.out _ _ ⟨(blk_cell BK153.out 0).trans rfl, (blk_cell BK153.out 1).trans rfl, (blk_cell BK153.out 2).trans rfl, (blk_cell BK153.out 3).trans rfl, (blk_cell BK153.out 4).trans rfl, (blk_cell BK153.out 5).trans rfl⟩ (fun hHeld => ?_)
        clear hK K
        refine norm_ (a' := ?_) ?_ ?_
        rotate_left
        · show Act.put _ (some 16) _ = _
          simp only [Act.put, List.setIfInBounds_toArray, List.set_cons_zero, List.set_cons_succ, i64_w, i32_w]
          rfl
        refine pure_ (i := 14) (N := some 17) (v := ?_) (a' := ?_) #[true, true, true, true, true, true, true, true, true, true, true, true, true, true, true, false] rfl rfl (any_of HT_.out (by kernel_rfl)) (fun _ _ _ h => h) (Or.inl ⟨by rfl, ?_⟩) ?_ ?_
        rotate_left
        · intro w'
          go_simp
          with_reducible rfl
        rotate_left
        · simp only [Act.put, List.setIfInBounds_toArray, List.set_cons_zero, List.set_cons_succ, i64_w, i32_w]
          rfl
        refine pure_ (i := 15) (N := some 2) (v := ?_) (a' := ?_) #[true, true, true, true, true, true, true, true, true, true, true, true, true, true, true, true] rfl rfl (any_of HT_.out (by kernel_rfl)) (fun _ _ _ h => h) (Or.inl ⟨by rfl, ?_⟩) ?_ ?_
        rotate_left
        · intro w'
          go_simp
          with_reducible rfl
        rotate_left
        · simp only [Act.put, List.setIfInBounds_toArray, List.set_cons_zero, List.set_cons_succ, i64_w, i32_w]
          rfl
        refine done_ (done_of HT_.out (by kernel_rfl)) ?_
        try go_wp2
        go_ret
        exact ⟨by first | rfl | (simp [errW_none, errW_some] <;> rfl) | (simp [*, errW_none, errW_some] <;> rfl), by repeat (first | (with_reducible first | exact HB.out | apply below_alloc | apply pw_below_drewN | apply below_drew1 | refine below_set ?_ GE153.out) | exact HB.out)⟩
      · rw [if_neg c8] at H
        exact absurd H (by simp)
    · rw [if_neg c6] at H
      exact absurd H (by simp)
  · rw [if_neg c4] at H
    exact absurd H (by simp)

/-! ### stileref04_Tuples: function 18 -/
def stileref04_Tuples.l0 : Nat → List (S42) → ByteArray → Int → Int → Option (ByteArray)
  | 0, _, _, _, _ => none
  | k + 1, x0, x3, x9, x10 => if x10 < x9 then (if 0 ≤ x10 then (if x10 < (x0.length : Int) then ((stileref04_Tuple.f k ((rd_T42 x0 x10).f0) ((rd_T42 x0 x10).f1) ((rd_T42 x0 x10).f2) ((rd_T42 x0 x10).f3.f0) ((rd_T42 x0 x10).f3.f1) ((rd_T42 x0 x10).f3.f2)).bind fun t160 => (if x3.size + t160.size ≤ 9223372036854775807 then (stileref04_Tuples.l0 k x0 (x3 ++ t160) x9 (wrap64 (x10 + 1))) else (none))) else (none)) else (none)) else (some x3)
def stileref04_Tuples.f (k : Nat) (l0 : List (S42)) : Option (ByteArray) := (stileref04_Number.f k (l0.length : Int)).bind fun t158 => (stileref04_Tuples.l0 k l0 t158 (l0.length : Int) 0)
theorem stileref04_Tuples.mono_l : ∀ k, (∀ y0 y1 y2 y3, LeO (stileref04_Tuples.l0 k y0 y1 y2 y3) (stileref04_Tuples.l0 (k + 1) y0 y1 y2 y3))
  | 0 => fun _ _ _ _ r h => by simp [stileref04_Tuples.l0] at h
  | k + 1 => by
    have ih0 := stileref04_Tuples.mono_l k
    · intro y0 y1 y2 y3
      unfold stileref04_Tuples.l0
      repeat' first
      | (with_reducible exact ih0 _ _ _ _)
      | (with_reducible exact stileref04_Number.mono _ _)
      | (with_reducible exact stileref04_Tuple.mono _ _ _ _ _ _ _)
      | (with_reducible exact LeO.refl _)
      | (with_reducible exact LeO.none _)
      | (with_reducible refine LeO.ite ?_ ?_)
      | (with_reducible refine LeO.bind ?_ (fun _ => ?_))
      | exact ih0 _ _ _ _
      | exact stileref04_Number.mono _ _
      | exact stileref04_Tuple.mono _ _ _ _ _ _ _
      | exact LeO.none _
      | refine LeO.ite ?_ ?_
      | refine LeO.bind ?_ (fun _ => ?_)
theorem stileref04_Tuples.mono : ∀ a0 k, LeO (stileref04_Tuples.f k a0) (stileref04_Tuples.f (k + 1) a0) := by
  intro a0 k
  have ih0 := stileref04_Tuples.mono_l k
  unfold stileref04_Tuples.f
  repeat' first
      | (with_reducible exact ih0 _ _ _ _)
      | (with_reducible exact stileref04_Number.mono _ _)
      | (with_reducible exact stileref04_Tuple.mono _ _ _ _ _ _ _)
      | (with_reducible exact LeO.refl _)
      | (with_reducible exact LeO.none _)
      | (with_reducible refine LeO.ite ?_ ?_)
      | (with_reducible refine LeO.bind ?_ (fun _ => ?_))
      | exact ih0 _ _ _ _
      | exact stileref04_Number.mono _ _
      | exact stileref04_Tuple.mono _ _ _ _ _ _ _
      | exact LeO.none _
      | refine LeO.ite ?_ ?_
      | refine LeO.bind ?_ (fun _ => ?_)
set_option maxHeartbeats 8000000 in
set_option maxRecDepth 100000 in
theorem stileref04_Tuples.calls (k : Nat) (A0 : Option Addr) (c0 : Nat) (l0 : List (S42)) (r : ByteArray) (w : World) (hr0 : Kd.C k42 w A0 l0.length l0) (hc0 : l0.length ≤ c0) (h : stileref04_Tuples.f k l0 = some r) :
    Calls Tryd.prog 18 #[.slice A0 l0.length c0] w fun e w' => e = .returned (.string r) ∧ Below w.heap.size w w' := by
  have hu42 := Tryd.underlying42
  have HR0 := Aside0.mk hr0
  have HC0 := Aside0.mk hc0
  clear hr0 hc0
  have HB := Aside0.mk (Below.refl w.heap.size w)
  have H : ((stileref04_Number.f k (l0.length : Int)).bind fun t158 => (stileref04_Tuples.l0 k l0 t158 (l0.length : Int) 0)) = some r := h
  clear h
  replace H := Option.bind_eq_some_iff.mp H
  obtain ⟨t158, A20, H⟩ := H
  replace H : (stileref04_Tuples.l0 k l0 t158 (l0.length : Int) 0) = some r := H
  have A2 := Aside0.mk A20
  clear A20
  have H' := Aside0.mk H
  clear H
  go_enter Tryd.func18, Tryd.ntmps18
  go_wp2_with (first | ((with_reducible refine gate_callee (f := 13) rfl ?_); refine goesL_ (some 7) rfl rfl Tryd.func13 (by kernel_rfl) rfl #[.int .i64 (l0.length : Int)] rfl (by (try simp only [List.map_toArray, List.map_cons, List.map_nil]); first | done | rfl | (simp only [List.length_drop, List.length_take]; rfl)) ?_; (with_reducible refine (stileref04_Number.calls k (l0.length : Int) t158 _ A2.out).mono ?_); rintro e w3 ⟨rfl, hb⟩; refine ⟨_, rfl, ?_⟩; have n0_ := Aside0.mk (below_step (by repeat (first | (with_reducible first | exact HB.out | apply below_alloc | apply pw_below_drewN | apply below_drew1) | exact HB.out)) hb); clear HB; have HB := n0_; clear n0_; (try clear hb); (try clear hb2); (try clear hk); (try clear hi)))
  go_loopg [3, 10] k (fun kq v3 v10 w' => ∃ (x3_1 : ByteArray) (x10_1 : Int), v3 = .string x3_1 ∧ v10 = .int .i64 x10_1 ∧ Aside0 (stileref04_Tuples.l0 kq l0 x3_1 (l0.length : Int) x10_1 = some r) ∧ Aside0 (kq ≤ k) ∧ Aside0 (Below w.heap.size w w'))
  case atStart => exact ⟨(t158), (0), (by first | rfl | (simp; done) | (simp [*]; done)), (by first | rfl | (simp; done) | (simp [*]; done)), H', ⟨Nat.le_refl _⟩, ⟨by repeat (first | (with_reducible first | exact HB.out | apply below_alloc | apply pw_below_drewN | apply below_drew1) | exact HB.out)⟩⟩
  case round =>
    clear H'
    try clear c1
    try clear p2
    obtain ⟨x3_1, x10_1, rfl, rfl, HA, HK1, HB⟩ := hrel
    cases gk with
    | zero => exact absurd HA.out (by simp [stileref04_Tuples.l0])
    | succ k1 =>
      have H := HA.out
      clear HA
      simp only [stileref04_Tuples.l0] at H
      by_cases c4 : x10_1 < (l0.length : Int)
      · rw [if_pos c4] at H
        have c4b0 : decide (x10_1 < (l0.length : Int)) = true := decide_eq_true c4
        clear c4
        by_cases c5 : 0 ≤ x10_1
        · rw [if_pos c5] at H
          have c5b0 : decide (0 ≤ x10_1) = true := decide_eq_true c5
          clear c5
          by_cases c6 : x10_1 < (l0.length : Int)
          · rw [if_pos c6] at H
            have c6b0 : decide (x10_1 < (l0.length : Int)) = true := decide_eq_true c6
            clear c6
            replace H := Option.bind_eq_some_iff.mp H
            obtain ⟨t160, A70, H⟩ := H
            replace H : (if x3_1.size + t160.size ≤ 9223372036854775807 then (stileref04_Tuples.l0 k1 l0 (x3_1 ++ t160) (l0.length : Int) (wrap64 (x10_1 + 1))) else (none)) = some r := H
            have A7 := Aside0.mk A70
            clear A70
            by_cases c8 : x3_1.size + t160.size ≤ 9223372036854775807
            · rw [if_pos c8] at H
              have c8b0 := eq_true c8
              have c8b1 : decide (x3_1.size + t160.size ≤ 9223372036854775807) = true := decide_eq_true c8
              try have c8b2 : (9223372036854775807 < x3_1.size + t160.size) = False := eq_false (Nat.not_lt.2 c8)
              try simp only [ByteArray.size_append, litSize, List.size_toArray, List.length_cons, List.length_nil] at c8b2
              have H' := Aside0.mk H
              clear H
              have p159 : 0 ≤ (x10_1 : Int) := of_decide_eq_true (by first | (with_reducible assumption) | assumption)
              have q159 : x10_1 < (l0.length : Int) := of_decide_eq_true (by first | (with_reducible assumption) | assumption)
              obtain ⟨ad159, e159, hx159_0, hx159_1, hx159_2, hx159_3, hx159_4, hx159_5⟩ := at_T42 HR0.out x10_1 p159 q159
              cases e159
              replace hx159_0 := (HB.out.cell (World.block_lt_of_cell? w _ hx159_0)).trans hx159_0
              replace hx159_1 := (HB.out.cell (World.block_lt_of_cell? w _ hx159_1)).trans hx159_1
              replace hx159_2 := (HB.out.cell (World.block_lt_of_cell? w _ hx159_2)).trans hx159_2
              replace hx159_3 := (HB.out.cell (World.block_lt_of_cell? w _ hx159_3)).trans hx159_3
              replace hx159_4 := (HB.out.cell (World.block_lt_of_cell? w _ hx159_4)).trans hx159_4
              replace hx159_5 := (HB.out.cell (World.block_lt_of_cell? w _ hx159_5)).trans hx159_5
              replace p159 := eq_true p159
              replace q159 := eq_true q159
              go_wp2_with (first | ((with_reducible refine gate_callee (f := 22) rfl ?_); refine goesL_ (some 18) rfl rfl Tryd.func22 (by kernel_rfl) rfl #[.agg #[.string ((rd_T42 l0 x10_1).f0), .string ((rd_T42 l0 x10_1).f1), .string ((rd_T42 l0 x10_1).f2), .string ((rd_T42 l0 x10_1).f3.f0), .string ((rd_T42 l0 x10_1).f3.f1), .string ((rd_T42 l0 x10_1).f3.f2)]] rfl (by (try simp only [List.map_toArray, List.map_cons, List.map_nil]); first | done | rfl | (simp only [List.length_drop, List.length_take]; rfl)) ?_; (with_reducible refine (stileref04_Tuple.calls k1 ((rd_T42 l0 x10_1).f0) ((rd_T42 l0 x10_1).f1) ((rd_T42 l0 x10_1).f2) ((rd_T42 l0 x10_1).f3.f0) ((rd_T42 l0 x10_1).f3.f1) ((rd_T42 l0 x10_1).f3.f2) t160 _ A7.out).mono ?_); rintro e w9 ⟨rfl, hb⟩; refine ⟨_, rfl, ?_⟩; have n0_ := Aside0.mk (below_step (by repeat (first | (with_reducible first | exact HB.out | apply below_alloc | apply pw_below_drewN | apply below_drew1) | exact HB.out)) hb); clear HB; have HB := n0_; clear n0_; (try clear hb); (try clear hb2); (try clear hk); (try clear hi)))
              go_roundg k1
              case measure => have := HK1.out; omega
              case rel => exact ⟨(x3_1 ++ t160), (wrap64 (x10_1 + 1)), (by first | rfl | (simp; done) | (simp [*]; done)), (by first | rfl | (simp; done) | (simp [*]; done)), H', ⟨by have := HK1.out; omega⟩, ⟨by repeat (first | (with_reducible first | exact HB.out | apply below_alloc | apply pw_below_drewN | apply below_drew1) | exact HB.out)⟩⟩
            · rw [if_neg c8] at H
              exact absurd H (by simp)
          · rw [if_neg c6] at H
            exact absurd H (by simp)
        · rw [if_neg c5] at H
          exact absurd H (by simp)
      · rw [if_neg c4] at H
        have c4b0 : decide (x10_1 < (l0.length : Int)) = false := decide_eq_false c4
        clear c4
        obtain rfl := Option.some.inj H
        go_wp2
        go_ret
        exact ⟨by first | rfl | (simp [errW_none, errW_some] <;> rfl) | (simp [*, errW_none, errW_some] <;> rfl), by repeat (first | (with_reducible first | exact HB.out | apply below_alloc | apply pw_below_drewN | apply below_drew1) | exact HB.out)⟩


end Go.Proofs.YtmilpfccgggmkaaDoor.PKnotTies

/- Tying a list of tuples. -/
namespace Go.Proofs.YtmilpfccgggmkaaDoor.Knt
open Go.RowKit Go.Proofs.YtmilpfccgggmkaaDoorW.PrintWords Go.Proofs.YtmilpfccgggmkaaDoorW.PrintLast Go.Proofs.YtmilpfccgggmkaaDoorW.PrintMore Go.Proofs.YtmilpfccgggmkaaDoor.Arr Go.Proofs.YtmilpfccgggmkaaDoor.PKnotTies
set_option linter.unusedVariables false
set_option linter.unusedSimpArgs false

def tupS (x : S42) : List UInt8 := tupT x.f0 x.f1 x.f2 x.f3.f0 x.f3.f1 x.f3.f2
def sizeS (x : S42) : Nat := sum6 x.f0 x.f1 x.f2 x.f3.f0 x.f3.f1 x.f3.f2
def total : List S42 → Nat
  | [] => 0
  | x :: xs => sizeS x + total xs
def flatS : List S42 → List UInt8
  | [] => []
  | x :: xs => tupS x ++ flatS xs
def tuplesT (xs : List S42) : List UInt8 := numT xs.length ++ flatS xs
theorem tupS_ge (x : S42) : sizeS x ≤ (tupS x).length := by
  have h0 := textT_ge x.f0
  have h1 := textT_ge x.f1
  have h2 := textT_ge x.f2
  have h3 := textT_ge x.f3.f0
  have h4 := textT_ge x.f3.f1
  have h5 := textT_ge x.f3.f2
  unfold sizeS sum6 tupS tupT subT
  simp only [List.length_append]
  omega
theorem tupS_len (x : S42) (h : sizeS x < 9007199254740993) : (tupS x).length ≤ sizeS x + 180 := by
  unfold sizeS sum6 at h
  have h0 := subT_len x.f0 x.f1 x.f2 (by omega) (by omega) (by omega)
  have h1 := subT_len x.f3.f0 x.f3.f1 x.f3.f2 (by omega) (by omega) (by omega)
  unfold sizeS sum6 tupS tupT
  simp only [List.length_append]
  omega
theorem flatS_append (xs ys : List S42) : flatS (xs ++ ys) = flatS xs ++ flatS ys := by
  induction xs with
  | nil => rfl
  | cons x xs ih => simp [flatS, ih]
theorem flatS_len (xs : List S42) (h : total xs < 9007199254740993) : (flatS xs).length ≤ total xs + 180 * xs.length := by
  induction xs with
  | nil => simp [flatS]
  | cons x xs ih =>
    simp only [total] at h
    have h1 := tupS_len x (by omega)
    have h2 := ih (by omega)
    simp only [flatS, total, List.length_append, List.length_cons]
    omega
theorem flatS_take (xs : List S42) (i : Nat) (hi : i < xs.length) : flatS (xs.take (i + 1)) = flatS (xs.take i) ++ tupS xs[i] := by
  rw [← List.take_append_getElem hi, flatS_append]
  simp [flatS]
theorem flatS_take_len (xs : List S42) (i : Nat) : (flatS (xs.take i)).length ≤ (flatS xs).length := by
  have h : flatS xs = flatS (xs.take i) ++ flatS (xs.drop i) := by rw [← flatS_append, List.take_append_drop]
  rw [h, List.length_append]
  omega
theorem rd_at (xs : List S42) (i : Int) (h0 : 0 ≤ i) (h1 : i < (xs.length : Int)) : ∃ h : i.toNat < xs.length, rd_T42 xs i = xs[i.toNat] := by
  have h : i.toNat < xs.length := by omega
  exact ⟨h, by unfold rd_T42; simp [List.getD, List.getElem?_eq_getElem h]⟩
set_option maxHeartbeats 8000000 in
set_option maxRecDepth 100000 in
theorem tuples_calls (w0 : World) (A : Option Addr) (c : Nat) (xs : List S42) (hC : Kd.C k42 w0 A xs.length xs) (hc : xs.length ≤ c) (g : Nat) (l : List UInt8) (S : List Nat)
    (hn : xs.length ≤ 9007199254740992) (hl : l.length + (flatS xs).length + 900 ≤ 140737488355328) (w : World) (hb0 : Below w0.heap.size w0 w) (hk : KAt w0.heap.size w g l S) (hP : PowB w0.heap.size w) :
    Calls Tryd.prog 15 #[.pointer (some ⟨g, 0, none⟩), .slice A xs.length c] w fun e w' => e = .returned (.tuple #[]) ∧ KPut w0.heap.size S w w' g (l ++ tuplesT xs) := by
  have HC := Aside0.mk hC
  have HCC := Aside0.mk hc
  have PB := Aside0.mk hP
  have HK := Aside0.mk hk
  have HB := Aside0.mk hb0
  have hnl := numT_len xs.length (by omega)
  have KN := Aside0.mk (number_calls w0.heap.size g l S xs.length hn (by omega) w hk hP)
  have hu42 := Tryd.underlying42
  clear hC hc hP hk hb0
  go_enter Tryd.func15, Tryd.ntmps15
  go_wp2_with fail
  refine KN.out.mono ?_
  rintro e w1 ⟨rfl, hp1⟩
  have HP1 := Aside0.mk hp1
  clear hp1 KN
  go_wp2
  go_loopw [12] (fun v12 wr => ∃ i : Int, v12 = .int .i64 i ∧ 0 ≤ i ∧ i ≤ (xs.length : Int) ∧ Aside0 (KPut w0.heap.size S w wr g (l ++ (numT xs.length ++ flatS (xs.take i.toNat))))) (fun v12 _ => xs.length - (intOf v12).toNat)
  case atStart => exact ⟨0, rfl, by omega, by omega, ⟨by simpa [flatS] using HP1.out⟩⟩
  case round =>
    obtain ⟨i, rfl, hi0, hin, hkp⟩ := hrel
    by_cases hi : i < (xs.length : Int)
    · have t1 : decide (i < (xs.length : Int)) = true := decide_eq_true hi
      obtain ⟨hit, hrd⟩ := rd_at xs i hi0 hi
      obtain ⟨ad, eA, hx0, hx1, hx2, hx3, hx4, hx5⟩ := at_T42 HC.out i hi0 hi
      cases eA
      obtain ⟨S1, k1, o1, s1⟩ := hkp.out
      have hbr := HB.out.trans (HK.out.belowB o1)
      replace hx0 := (hbr.cell (World.block_lt_of_cell? w0 _ hx0)).trans hx0
      replace hx1 := (hbr.cell (World.block_lt_of_cell? w0 _ hx1)).trans hx1
      replace hx2 := (hbr.cell (World.block_lt_of_cell? w0 _ hx2)).trans hx2
      replace hx3 := (hbr.cell (World.block_lt_of_cell? w0 _ hx3)).trans hx3
      replace hx4 := (hbr.cell (World.block_lt_of_cell? w0 _ hx4)).trans hx4
      replace hx5 := (hbr.cell (World.block_lt_of_cell? w0 _ hx5)).trans hx5
      generalize hxx : rd_T42 xs i = x at *
      have hft := flatS_take xs i.toNat hit
      rw [← hrd] at hft
      have hfl := flatS_take_len xs (i.toNat + 1)
      rw [hft, List.length_append] at hfl
      have hge := tupS_ge x
      obtain ⟨W, hW⟩ : ∃ W, wr.alloc (.cells #[.string x.f0, .string x.f1, .string x.f2, .string x.f3.f0, .string x.f3.f1, .string x.f3.f2] 42) = W := ⟨_, rfl⟩
      have b0 : Below wr.heap.size wr W := by rw [← hW]; exact (Below.refl _ _).alloc (Nat.le_refl _) _
      have RW : Blk W wr.heap.size 42 #[.string x.f0, .string x.f1, .string x.f2, .string x.f3.f0, .string x.f3.f1, .string x.f3.f2] := by rw [← hW]; exact Blk.new _ _ _
      have y0 := RW.cell 0
      have y1 := RW.cell 1
      have y2 := RW.cell 2
      have y3 := RW.cell 3
      have y4 := RW.cell 4
      have y5 := RW.cell 5
      have ylt := RW.lt
      clear RW
      have KT := Aside0.mk (tuple_calls w0.heap.size g (l ++ (numT xs.length ++ flatS (xs.take i.toNat))) S1 x.f0 x.f1 x.f2 x.f3.f0 x.f3.f1 x.f3.f2 (by unfold sizeS at hge; simp only [List.length_append]; omega) W (k1.below b0) ((PB.out.on (HK.out.belowB o1)).on (b0.mono (KAt.size k1))))
      have OW := Aside0.mk (o1.step b0)
      have SS := Aside0.mk s1
      have HF := Aside0.mk hft
      have p0 := eq_true hi0
      have p1 := eq_true hi
      clear hkp k1 o1 s1 hbr b0 hft hfl hge hrd hxx
      go_wp2_with fail
      refine KT.out.mono ?_
      rintro e w2 ⟨rfl, hp⟩
      have HP := Aside0.mk (KPut.next OW.out SS.out hp)
      clear hp KT hW hx0 hx1 hx2 hx3 hx4 hx5 y0 y1 y2 y3 y4 y5 ylt
      have hi1 : (i + 1).toNat = i.toNat + 1 := by omega
      have hw : IntKind.i64.wrap (i + 1) = i + 1 := IntWalk.i64_in _ (by omega)
      go_wp2
      go_roundw
      case rel => exact ⟨i + 1, by first | rfl | (rw [hw]) | simp [hw], by omega, by omega, ⟨by rw [hi1, HF.out, ← List.append_assoc, ← List.append_assoc]; have := HP.out; rw [← List.append_assoc] at this; exact this⟩⟩
      case measure => simp [intOf, hw]; omega
    · have t1 : decide (i < (xs.length : Int)) = false := decide_eq_false hi
      have e1 : i.toNat = xs.length := by omega
      rw [e1, List.take_length] at hkp
      go_wp2
      go_end0
      exact ⟨rfl, hkp.out⟩
end Go.Proofs.YtmilpfccgggmkaaDoor.Knt

/- Good tuples are small; untying lists of good tuples that stand there. -/
namespace Go.Proofs.YtmilpfccgggmkaaDoor.Knt
open Go.RowKit Go.Proofs.YtmilpfccgggmkaaDoorW.PrintWords Go.Proofs.YtmilpfccgggmkaaDoorW.PrintLast Go.Proofs.YtmilpfccgggmkaaDoorW.PrintMore Go.Proofs.YtmilpfccgggmkaaDoor.Arr Go.Proofs.YtmilpfccgggmkaaDoor.PKnotTies Go.Proofs.YtmilpfccgggmkaaDoor.Utf
set_option linter.unusedVariables false
set_option linter.unusedSimpArgs false

theorem dec_four (s : ByteArray) (p : Nat) : (Utf8.decode s p).2 ≤ 4 := by
  rw [dec_at]
  unfold Lib.decodeN
  repeat' split
  all_goals (simp only; omega)
theorem cnt_four (s : ByteArray) : ∀ p, s.size ≤ p + 4 * cntT s p := by
  apply tail_ind s
  · intro p h; omega
  · intro p h ih
    have := dec_four s p
    rw [cntT_step s p h]
    omega
theorem id_four (s : ByteArray) (h : idB s = true) : s.size ≤ 96 := by
  unfold idB cnt at h
  simp only [Bool.and_eq_true, decide_eq_true_eq] at h
  have := cnt_four s 0
  omega
theorem name_le (s : ByteArray) (h : nameB s = true) : s.size ≤ 16 := (name_size s h).2
theorem empty_size (s : ByteArray) (h : s.toList.isEmpty = true) : s.size = 0 := by
  obtain rfl := (Who.empty_iff s).1 h
  rfl
theorem star_size (s : ByteArray) (h : (s.toList == [42]) = true) : s.size = 1 := by
  have h1 : s.toList = [42] := by simpa using h
  rw [Lib.toList_data] at h1
  have h2 : s.data.toList.length = 1 := by rw [h1]; rfl
  rw [Array.length_toList] at h2
  exact h2
theorem subj_small (a b c : ByteArray) (h : Who.subjB a b c = true) : a.size ≤ 16 ∧ b.size ≤ 96 ∧ c.size ≤ 16 := by
  unfold Who.subjB Who.oneB Who.setB Who.allB Who.goodB at h
  simp only [Bool.and_eq_true, Bool.or_eq_true] at h
  rcases h with (h | h) | h
  · have := name_le _ h.1.1
    have := id_four _ h.1.2
    have := empty_size _ h.2
    omega
  · have := name_le _ h.1.1
    have := id_four _ h.1.2
    have := name_le _ h.2
    omega
  · have := name_le _ h.1.1
    have := star_size _ h.1.2
    have := empty_size _ h.2
    omega
def goodS (x : S42) : Bool := Bnd.tupGood x.f0 x.f1 x.f2 x.f3.f0 x.f3.f1 x.f3.f2
theorem good_small (x : S42) (h : goodS x = true) : x.f0.size ≤ 16 ∧ x.f1.size ≤ 96 ∧ x.f2.size ≤ 16 ∧ x.f3.f0.size ≤ 16 ∧ x.f3.f1.size ≤ 96 ∧ x.f3.f2.size ≤ 16 := by
  unfold goodS Bnd.tupGood Who.goodB at h
  simp only [Bool.and_eq_true] at h
  have h1 := name_le _ h.1.1.1
  have h2 := id_four _ h.1.1.2
  have h3 := name_le _ h.1.2
  have h4 := subj_small _ _ _ h.2
  omega
theorem good_subj (x : S42) (h : goodS x = true) : Who.subjB x.f3.f0 x.f3.f1 x.f3.f2 = true := by
  unfold goodS Bnd.tupGood at h
  simp only [Bool.and_eq_true] at h
  exact h.2
theorem good_front (x : S42) (h : goodS x = true) (r : List UInt8) : Front (tupS x ++ r) x.f0 x.f1 x.f2 (subT x.f3.f0 x.f3.f1 x.f3.f2 ++ r) ∧ Front (subT x.f3.f0 x.f3.f1 x.f3.f2 ++ r) x.f3.f0 x.f3.f1 x.f3.f2 r := by
  obtain ⟨h0, h1, h2, h3, h4, h5⟩ := good_small x h
  refine ⟨?_, front_sub _ _ _ h3 h4 h5 r⟩
  have e : tupS x ++ r = subT x.f0 x.f1 x.f2 ++ (subT x.f3.f0 x.f3.f1 x.f3.f2 ++ r) := by unfold tupS tupT; rw [List.append_assoc]
  rw [e]
  exact front_sub _ _ _ h0 h1 h2 _
theorem good_size (x : S42) (h : goodS x = true) : sizeS x ≤ 256 := by
  have := good_small x h
  unfold sizeS sum6
  omega
theorem itup_ok (g : Nat) (x : S42) (hG : goodS x = true) (r : List UInt8) (hl : (tupS x ++ r).length ≤ 140737488355328) (w : World) (h : IBlk w g (tupS x ++ r) false) (hT : ∀ w1, Only [g] w w1 → Gly.Tabs w1) :
    Calls Tryd.prog 28 #[.pointer (some ⟨g, 0, none⟩)] w fun e w' => e = .returned (.agg (Bnd.tup x.f0 x.f1 x.f2 x.f3.f0 x.f3.f1 x.f3.f2)) ∧ IBlk w' g r false ∧ Only [g] w w' := by
  obtain ⟨h0, h1, h2, h3, h4, h5⟩ := good_small x hG
  obtain ⟨hF, hF2⟩ := good_front x hG r
  exact ituple_ok g _ hl x.f0 x.f1 x.f2 x.f3.f0 x.f3.f1 x.f3.f2 ⟨by omega, by omega, by omega, by omega, by omega, by omega⟩ _ r hF hF2 hG w h hT
theorem infoT3 : (Tryd.prog.info? TT).map (fun i => (i.zero, i.size, i.bytes)) = some (some (.agg e6), 6, 96) := by kernel_rfl
def TupsR (w : World) (g : Nat) (xs : List S42) (r : List UInt8) (e : Ending) (w' : World) : Prop :=
  ∃ v, e = .returned v ∧ Kd.R k42 TT w' w.heap.size (fun k => k ≠ g) v xs ∧ IBlk w' g r false ∧ Only [g] w w'
def TupsPost (w : World) (g : Nat) (xs : List S42) (r : List UInt8) (e : Ending) (w' : World) : Prop :=
  ∃ A c, e = .returned (.slice A xs.length c) ∧ xs.length ≤ c ∧ Kd.C k42 w' A xs.length xs ∧ IBlk w' g r false ∧ Only [g] w w'
set_option maxHeartbeats 8000000 in
set_option maxRecDepth 100000 in
theorem ituples_R (g : Nat) (xs : List S42) (hG : ∀ x, x ∈ xs → goodS x = true) (hn : xs.length ≤ 1000000) (most : Int) (hm : (xs.length : Int) ≤ most) (r : List UInt8) (hl : (tuplesT xs ++ r).length ≤ 140737488355328)
    (w : World) (h : IBlk w g (tuplesT xs ++ r) false) (hT : ∀ w1, Only [g] w w1 → Gly.Tabs w1) :
    Calls Tryd.prog 29 #[.pointer (some ⟨g, 0, none⟩), .int .i64 most] w (TupsR w g xs r) := by
  have hN : numP most (tuplesT xs ++ r) = some (xs.length, flatS xs ++ r) := by
    unfold tuplesT
    rw [List.append_assoc]
    exact numP_num xs.length (by omega) most hm _
  have KN := inum_calls g (tuplesT xs ++ r) hl false most w h
  rw [hN] at KN
  have hfl : (flatS xs ++ r).length ≤ 140737488355328 := by
    unfold tuplesT at hl
    simp only [List.length_append] at hl ⊢
    omega
  have hgw := h.lt
  have HT := Aside0.mk hT
  have HG := Aside0.mk hG
  have KN := Aside0.mk KN
  have hu42 := Tryd.underlying42
  clear h hT hG hN hl
  go_enter Tryd.func29, Tryd.ntmps29
  go_wp2_with fail
  refine KN.out.mono ?_
  rintro e w1 ⟨rfl, i1, o1⟩
  have I1 := Aside0.mk i1
  have O1 := Aside0.mk o1
  clear i1 o1 KN
  go_wp2
  go_loopw [5, 6] (fun v5 v6 wr => ∃ j d : Nat, v6 = .int .i64 (d : Int) ∧ j + d = xs.length ∧ Aside0 (IBlk wr g (flatS (xs.drop j) ++ r) false) ∧ Aside0 (Only [g] w wr) ∧ Aside0 (Kd.R k42 TT wr w.heap.size (fun k => k ≠ g) v5 (xs.take j))) (fun _ v6 _ => (intOf v6).toNat)
  case atStart => exact ⟨0, xs.length, rfl, by omega, ⟨by simpa using I1.out⟩, O1, ⟨by rw [List.take_zero]; exact Kd.R_nil _ _ _ _ _⟩⟩
  case round =>
    obtain ⟨j, d, rfl, hjd, hI, hO, hR⟩ := hrel
    have c1 := hI.out.cell 1
    have clt := hI.out.lt
    cases d with
    | zero =>
      have t1 : decide (((0 : Nat) : Int) > 0) = false := by decide
      have e1 : j = xs.length := by omega
      subst e1
      have hI' := hI.out
      rw [List.drop_length] at hI'
      have hR' := hR.out
      rw [List.take_length] at hR'
      have HI := Aside0.mk hI'
      have HR := Aside0.mk hR'
      clear hI' hR' hR hI
      go_wp2
      go_ret
      exact ⟨_, rfl, HR.out, HI.out, hO.out⟩
    | succ d =>
      have t1 : decide (((d + 1 : Nat) : Int) > 0) = true := decide_eq_true (by omega)
      have t1' : 0 < d + 1 := by omega
      have hj : j < xs.length := by omega
      obtain ⟨x, hx⟩ : ∃ x, xs[j] = x := ⟨_, rfl⟩
      have hG1 := HG.out x (by rw [← hx]; exact List.getElem_mem hj)
      have e1 : flatS (xs.drop j) ++ r = tupS x ++ (flatS (xs.drop (j + 1)) ++ r) := by
        rw [List.drop_eq_getElem_cons hj, hx]
        show (tupS x ++ flatS (xs.drop (j + 1))) ++ r = _
        rw [List.append_assoc]
      have e2 : xs.take (j + 1) = xs.take j ++ [x] := by rw [← hx, List.take_append_getElem hj]
      have hI' := hI.out
      rw [e1] at hI'
      have hlz : (tupS x ++ (flatS (xs.drop (j + 1)) ++ r)).length ≤ 140737488355328 := by
        have h1 : flatS xs = flatS (xs.take j) ++ flatS (xs.drop j) := by rw [← flatS_append, List.take_append_drop]
        rw [← e1]
        rw [h1] at hfl
        simp only [List.length_append] at hfl ⊢
        omega
      have KT := Aside0.mk (itup_ok g x hG1 (flatS (xs.drop (j + 1)) ++ r) hlz wr hI' (fun w1 ho => HT.out w1 (hO.out.trans ho (fun k hk => .inl hk))))
      have E2 := Aside0.mk e2
      clear hI hI' e1 e2 hlz hx hG1
      go_wp2_with fail
      refine KT.out.mono ?_
      rintro e w2 ⟨rfl, i2, o2⟩
      have hR2 := Kd.R_step hR.out (fun k hk hlt => o2.block k hlt (by simpa using hk))
      have hO2 := hO.out.trans o2 (fun k hk => .inl hk)
      have I2 := Aside0.mk i2
      have O2 := Aside0.mk hO2
      have R2 := Aside0.mk hR2
      have hsz : w.heap.size ≤ w2.heap.size := hO2.size
      clear i2 o2 hR2 hO2 hR KT hO c1 clt
      have hlt : ((xs.take j).length + 1) * 96 ≤ 140737488355328 := by
        have := List.length_take_le j xs
        omega
      have hfr : ∀ k, w2.heap.size ≤ k → k ≠ g := fun k hk => by omega
      have HLT := Aside0.mk hlt
      have HFR := Aside0.mk hfr
      have HSZ := Aside0.mk hsz
      clear hlt hfr hsz
      go_wp2_with (at_builtin; refine Kd.R_append k42 (w0 := w2) w.heap.size rfl (.tmp 21) (.tmp 24) 30 TT (.agg e6) 96 rfl Tryd.underlying30 infoT3 rfl (by decide) (by decide) _ (xs.take j) x [.string x.f0, .string x.f1, .string x.f2, .string x.f3.f0, .string x.f3.f1, .string x.f3.f2] (fun k => k ≠ g) (fun _ => False) rfl rfl (k42_mkM w2 w.heap.size _ x) (fun _ hk => hk.elim) HFR.out R2.out (Below.refl _ _) HSZ.out HLT.out ?_)
      intro v1 w3 hR3 hb3 hg3 hat3
      rw [← E2.out] at hR3
      have R3 := Aside0.mk hR3
      have I3 := Aside0.mk (I2.out.below' hb3 hgw)
      have O3 := Aside0.mk (only_upper O2.out hb3 (Nat.le_refl _))
      have e3 : (((d + 1 : Nat) : Int) - 1) = (d : Int) := by omega
      clear hR3 hb3 hg3 hat3 R2 I2 O2
      go_wp2
      go_roundw
      case rel => exact ⟨j + 1, d, by first | rfl | (rw [e3]) | simp [e3], by omega, I3, O3, R3⟩
      case measure => simp [intOf]
theorem ituples_ok (g : Nat) (xs : List S42) (hG : ∀ x, x ∈ xs → goodS x = true) (hn : xs.length ≤ 1000000) (most : Int) (hm : (xs.length : Int) ≤ most) (r : List UInt8) (hl : (tuplesT xs ++ r).length ≤ 140737488355328)
    (w : World) (h : IBlk w g (tuplesT xs ++ r) false) (hT : ∀ w1, Only [g] w w1 → Gly.Tabs w1) :
    Calls Tryd.prog 29 #[.pointer (some ⟨g, 0, none⟩), .int .i64 most] w (TupsPost w g xs r) := by
  refine (ituples_R g xs hG hn most hm r hl w h hT).mono ?_
  rintro e w' ⟨v, rfl, hR, hI, hO⟩
  obtain ⟨A, c, rfl, hc, hC⟩ := Kd.R_reads hR
  exact ⟨A, c, rfl, hc, hC, hI, hO⟩
end Go.Proofs.YtmilpfccgggmkaaDoor.Knt

/- The reference of chapter 4 (printed) comes to the program's lists. -/
namespace Go.Proofs.YtmilpfccgggmkaaDoor.Knt
open Go.RowKit Go.Proofs.YtmilpfccgggmkaaDoorW.PrintWords Go.Proofs.YtmilpfccgggmkaaDoorW.PrintLast Go.Proofs.YtmilpfccgggmkaaDoorW.PrintMore Go.Proofs.YtmilpfccgggmkaaDoor.Arr Go.Proofs.YtmilpfccgggmkaaDoor.PKnotTies
set_option linter.unusedVariables false
set_option linter.unusedSimpArgs false

theorem str_append (l m : List UInt8) : str l ++ str m = str (l ++ m) := by
  apply ByteArray.ext
  rw [ByteArray.data_append]
  simp [str]
theorem str_data (s : ByteArray) : str s.data.toList = s := str_list s
def lead (m : Nat) : List UInt8 := if m < 10 then [] else Lib.decDigits (m / 10)
theorem dec_lead (m : Nat) : Lib.decDigits m = lead m ++ [UInt8.ofNat (48 + m % 10)] := by
  unfold lead
  by_cases h : m < 10
  · rw [if_pos h, Lib.decDigits_one h, Nat.mod_eq_of_lt h]
    rfl
  · rw [if_neg h, Lib.decDigits, dif_neg h]
theorem digit_str (m : Nat) (hm : m < 9223372036854775808) : strOfNums [(wrap64 (48 + (Int.tmod (m : Int) 10))) % 256] = str [UInt8.ofNat (48 + m % 10)] := by
  rw [← strOfNums_str]
  congr 1
  have e : Int.tmod (m : Int) 10 = ((m % 10 : Nat) : Int) := by rw [Int.tmod_eq_emod_of_nonneg (by omega)]; omega
  rw [e, IntWalk.wrap64_in _ (by omega)]
  simp only [List.map_cons, List.map_nil, List.cons.injEq, and_true]
  rw [UInt8.toNat_ofNat']
  omega
theorem tdiv_ten (m : Nat) (hm : m < 9223372036854775808) : wrap64 (Int.tdiv (m : Int) 10) = ((m / 10 : Nat) : Int) := by
  rw [Int.tdiv_eq_ediv_of_nonneg (by omega), IntWalk.wrap64_in _ (by omega)]
  omega
theorem lead_len (m : Nat) (hm : m < 18446744073709551616) : (lead m).length ≤ 20 := by
  unfold lead
  split
  · simp
  · exact dig_len _ (by omega)
theorem dec_l0 : ∀ (k m : Nat) (t : List UInt8), m < 10 ^ k → m < 9223372036854775808 → t.length + (lead m).length + 1 ≤ 9223372036854775807 → stileref01_Decimal.l0 (k + 1) (m : Int) (str t) = some (str (lead m ++ t))
  | k, m, t, h1, h2, h4 => by
    rw [stileref01_Decimal.l0]
    by_cases h : m < 10
    · rw [if_neg (by omega)]
      unfold lead
      rw [if_pos h]
      rfl
    · rw [if_pos (by omega)]
      cases k with
      | zero => simp at h1; omega
      | succ k =>
        have hp : m / 10 < 10 ^ k := by rw [Nat.pow_succ] at h1; omega
        have el : lead m = lead (m / 10) ++ [UInt8.ofNat (48 + (m / 10) % 10)] := by
          conv => lhs; unfold lead
          rw [if_neg h, dec_lead]
        rw [el, List.length_append] at h4
        have ll := lead_len (m / 10) (by omega)
        simp only [Option.bind_some]
        rw [tdiv_ten m h2, digit_str (m / 10) (by omega), if_pos (by rw [str_size, str_size]; simp; omega), str_append]
        rw [dec_l0 k (m / 10) ([UInt8.ofNat (48 + m / 10 % 10)] ++ t) hp (by omega) (by simp at h4 ⊢; omega), el]
        simp
theorem dec_f (n : Nat) (hn : n < 9223372036854775808) : stileref01_Decimal.f 20 (n : Int) = some (str (Lib.decDigits n)) := by
  unfold stileref01_Decimal.f
  have ll := lead_len n (by omega)
  rw [digit_str n hn, dec_l0 19 n _ (by omega) hn (by simp; omega), ← dec_lead]
theorem le_mono {α : Type} {f : Nat → Option α} (hm : ∀ k, LeO (f k) (f (k + 1))) {r : α} {k : Nat} (h : f k = some r) : ∀ d, f (k + d) = some r
  | 0 => h
  | d + 1 => hm (k + d) r (le_mono hm h d)
theorem num_f (n : Nat) (hn : n < 9223372036854775808) : stileref04_Number.f 20 (n : Int) = some (str (numT n)) := by
  unfold stileref04_Number.f
  rw [dec_f n hn]
  have := dig_len n (by omega)
  simp only [Option.bind_some]
  rw [if_pos (by rw [str_size]; omega)]
  exact congrArg some (str_append _ [59])
theorem text_f (s : ByteArray) (hs : s.size < 9007199254740993) : stileref04_Text.f 20 s = some (str (textT s)) := by
  unfold stileref04_Text.f
  rw [num_f s.size (by omega)]
  have h1 := numT_len s.size (by omega)
  simp only [Option.bind_some]
  rw [if_pos (by rw [str_size]; omega), if_pos (by rw [ByteArray.size_append, str_size]; omega)]
  congr 1
theorem mark_f (b : Bool) : stileref04_Mark.f b = some (str (markT b)) := by
  cases b <;> rfl
theorem sub_f (a b c : ByteArray) (ha : a.size < 9007199254740993) (hb : b.size < 9007199254740993) (hc : c.size < 9007199254740993) : stileref04_Subject.f 20 a b c = some (str (subT a b c)) := by
  unfold stileref04_Subject.f
  have h1 := textT_len a (by omega)
  have h2 := textT_len b (by omega)
  have h3 := textT_len c (by omega)
  simp only [text_f a ha, text_f b hb, text_f c hc, Option.bind_some]
  rw [if_pos (by rw [str_size, str_size]; omega), if_pos (by rw [ByteArray.size_append, str_size, str_size, str_size]; omega), str_append, str_append]
  unfold subT
  rw [List.append_assoc]
theorem tup_f (x : S42) (h : sizeS x < 9007199254740993) : stileref04_Tuple.f 20 x.f0 x.f1 x.f2 x.f3.f0 x.f3.f1 x.f3.f2 = some (str (tupS x)) := by
  unfold sizeS sum6 at h
  unfold stileref04_Tuple.f
  have h1 := textT_len x.f0 (by omega)
  have h2 := textT_len x.f1 (by omega)
  have h3 := textT_len x.f2 (by omega)
  have h4 := subT_len x.f3.f0 x.f3.f1 x.f3.f2 (by omega) (by omega) (by omega)
  simp only [text_f x.f0 (by omega), text_f x.f1 (by omega), text_f x.f2 (by omega), sub_f x.f3.f0 x.f3.f1 x.f3.f2 (by omega) (by omega) (by omega), Option.bind_some]
  rw [if_pos (by rw [str_size, str_size]; omega), if_pos (by rw [ByteArray.size_append, str_size, str_size, str_size]; omega), if_pos (by rw [ByteArray.size_append, ByteArray.size_append, str_size, str_size, str_size, str_size]; omega), str_append, str_append, str_append]
  unfold tupS tupT
  rw [show textT x.f0 ++ textT x.f1 ++ textT x.f2 = subT x.f0 x.f1 x.f2 by unfold subT; rw [List.append_assoc]]
theorem tup_f_up (x : S42) (h : sizeS x < 9007199254740993) (d : Nat) : stileref04_Tuple.f (20 + d) x.f0 x.f1 x.f2 x.f3.f0 x.f3.f1 x.f3.f2 = some (str (tupS x)) :=
  le_mono (fun k => stileref04_Tuple.mono x.f0 x.f1 x.f2 x.f3.f0 x.f3.f1 x.f3.f2 k) (tup_f x h) d
theorem size_at (xs : List S42) (i : Nat) (hi : i < xs.length) : sizeS xs[i] ≤ total xs := by
  induction xs generalizing i with
  | nil => simp at hi
  | cons x xs ih =>
    cases i with
    | zero => simp [total]
    | succ i =>
      have := ih i (by simpa using hi)
      simp only [total, List.getElem_cons_succ]
      omega
theorem tups_l0 (xs : List S42) (ht : total xs < 9007199254740993) (hn : xs.length ≤ 1000000) (p : List UInt8) (hp : p.length + (flatS xs).length ≤ 9223372036854775807) : ∀ (d i : Nat), i + d = xs.length →
    stileref04_Tuples.l0 (21 + d) xs (str (p ++ flatS (xs.take i))) (xs.length : Int) (i : Int) = some (str (p ++ flatS xs))
  | 0, i, h => by
    show stileref04_Tuples.l0 (20 + 1) _ _ _ _ = _
    rw [stileref04_Tuples.l0, if_neg (by omega), show i = xs.length by omega, List.take_length]
  | d + 1, i, h => by
    have hi : i < xs.length := by omega
    obtain ⟨h', hrd⟩ := rd_at xs (i : Int) (by omega) (by omega)
    have hs := size_at xs i hi
    have hx : rd_T42 xs (i : Int) = xs[i] := by rw [hrd]; rfl
    have hft := flatS_take xs i hi
    have hfl := flatS_take_len xs (i + 1)
    rw [hft, List.length_append] at hfl
    show stileref04_Tuples.l0 (21 + d + 1) _ _ _ _ = _
    rw [stileref04_Tuples.l0, if_pos (by omega), if_pos (by omega), if_pos (by omega), hx, show 21 + d = 20 + (1 + d) by omega, tup_f_up xs[i] (by omega) (1 + d)]
    simp only [Option.bind_some]
    rw [if_pos (by rw [str_size, str_size, List.length_append]; omega), str_append, List.append_assoc, ← hft, IntWalk.wrap64_in _ (by omega), show 20 + (1 + d) = 21 + d by omega]
    exact tups_l0 xs ht hn p hp d (i + 1) (by omega)
theorem num_f_up (n : Nat) (hn : n < 9223372036854775808) (d : Nat) : stileref04_Number.f (20 + d) (n : Int) = some (str (numT n)) :=
  le_mono (fun k => stileref04_Number.mono (n : Int) k) (num_f n hn) d
theorem tups_f (xs : List S42) (ht : total xs < 9007199254740993) (hn : xs.length ≤ 1000000) : stileref04_Tuples.f (21 + xs.length) xs = some (str (tuplesT xs)) := by
  unfold stileref04_Tuples.f
  have h1 := flatS_len xs ht
  have h2 := numT_len xs.length (by omega)
  rw [show 21 + xs.length = 20 + (1 + xs.length) by omega, num_f_up xs.length (by omega)]
  simp only [Option.bind_some]
  have h3 := tups_l0 xs ht hn (numT xs.length) (by omega) xs.length 0 (by omega)
  simp only [List.take_zero, flatS, List.append_nil] at h3
  rw [show 20 + (1 + xs.length) = 21 + xs.length by omega]
  exact h3
end Go.Proofs.YtmilpfccgggmkaaDoor.Knt

/- The law KnotTies: its walk. -/
namespace Go.Proofs.YtmilpfccgggmkaaDoor.Knt
open Go.RowKit Go.Proofs.YtmilpfccgggmkaaDoorW.PrintWords Go.Proofs.YtmilpfccgggmkaaDoorW.PrintLast Go.Proofs.YtmilpfccgggmkaaDoorW.PrintMore Go.Proofs.YtmilpfccgggmkaaDoor.Arr Go.Proofs.YtmilpfccgggmkaaDoor.PKnotTies
set_option linter.unusedVariables false
set_option linter.unusedSimpArgs false

def loopT : List S42 → List UInt8
  | [] => []
  | x :: xs => subT x.f3.f0 x.f3.f1 x.f3.f2 ++ (tupS x ++ loopT xs)
theorem loopT_append (xs ys : List S42) : loopT (xs ++ ys) = loopT xs ++ loopT ys := by
  induction xs with
  | nil => rfl
  | cons x xs ih => simp [loopT, ih]
theorem loopT_take (xs : List S42) (i : Nat) (hi : i < xs.length) : loopT (xs.take (i + 1)) = loopT (xs.take i) ++ (subT xs[i].f3.f0 xs[i].f3.f1 xs[i].f3.f2 ++ tupS xs[i]) := by
  rw [← List.take_append_getElem hi, loopT_append]
  simp [loopT]
theorem sub3_len (x : S42) (h : sizeS x < 9007199254740993) : (subT x.f3.f0 x.f3.f1 x.f3.f2).length ≤ sizeS x + 90 := by
  unfold sizeS sum6 at h
  have h1 := subT_len x.f3.f0 x.f3.f1 x.f3.f2 (by omega) (by omega) (by omega)
  unfold sizeS sum6
  omega
theorem loopT_len (xs : List S42) (h : total xs < 9007199254740993) : (loopT xs).length ≤ 2 * total xs + 270 * xs.length := by
  induction xs with
  | nil => simp [loopT]
  | cons x xs ih =>
    simp only [total] at h
    have h1 := tupS_len x (by omega)
    have h3 := sub3_len x (by omega)
    have h2 := ih (by omega)
    simp only [loopT, total, List.length_append, List.length_cons]
    omega
theorem loopT_take_len (xs : List S42) (i : Nat) : (loopT (xs.take i)).length ≤ (loopT xs).length := by
  have h : loopT xs = loopT (xs.take i) ++ loopT (xs.drop i) := by rw [← loopT_append, List.take_append_drop]
  rw [h, List.length_append]
  omega
set_option maxHeartbeats 16000000 in
set_option maxRecDepth 100000 in
theorem ties_good (m : Nat) (hm : m ≤ 9007199254740992) (s : ByteArray) (hs : s.size ≤ 2000) (A : Option Addr) (c : Nat) (xs : List S42) (hx : xs.length ≤ 60) (hc : xs.length ≤ c) (ht : total xs ≤ 2000000000000) (w : World) (hC : Kd.C k42 w A xs.length xs) (hP : Pow w) :
    Calls Tryd.prog 4 #[.int .i64 (m : Int), .string s, .slice A xs.length c] w fun e w' => e = .returned (.bool true) ∧ Below w.heap.size w w' := by
  have hu42 := Tryd.underlying42
  have t1 : decide ((s.size : Int) > 2000) = false := decide_eq_false (by omega)
  have t2 : decide ((xs.length : Int) > 60) = false := decide_eq_false (by omega)
  have t3 : decide ((m : Int) ≥ 0) = true := decide_eq_true (by omega)
  have t4 : decide ((m : Int) ≤ 9007199254740992) = true := decide_eq_true (by omega)
  have PB := Aside0.mk (Lib.tabBelow_of_tabIs hP : PowB w.heap.size w)
  have HC := Aside0.mk hC
  obtain ⟨q, hq⟩ : ∃ q : Bool, ((m : Int) % 2 == 0) = q := ⟨_, rfl⟩
  clear hC hP
  go_enter Tryd.func4, Tryd.ntmps4
  go_wp2_with fail
  refine (awake_calls w PB.out.here).mono ?_
  rintro e w1 ⟨rfl, b1⟩
  have k0 := (kat_new w.heap.size w1 b1.size)
  have hz1 := b1.size
  have B2 := Aside0.mk (b1.alloc b1.size (.cells #[.slice none 0 0] TK))
  have K2 := Aside0.mk k0
  clear b1 k0
  go_wp2_with fail
  refine (new_calls w1).mono ?_
  rintro e w2 ⟨rfl, rfl⟩
  obtain ⟨g, hg⟩ : ∃ g, w1.heap.size = g := ⟨_, rfl⟩
  rw [hg] at K2
  have gz : w.heap.size ≤ g := by rw [← hg]; exact hz1
  go_wp2_with fail
  clear hg
  generalize w1.alloc (.cells #[.slice none 0 0] TK) = W2 at *
  refine (number_calls w.heap.size g [] [g] m hm (by simp) W2 K2.out (PB.out.on B2.out)).mono ?_
  rintro e w3 ⟨rfl, hp⟩
  have bb := KPut.belowB K2.out hp
  obtain ⟨S3, k3, o3, s3⟩ := hp
  have B3 := Aside0.mk (B2.out.trans bb)
  have K3 := Aside0.mk k3
  clear bb k3 o3 s3 B2 K2
  go_wp2_with fail
  refine (stileref04_Number.calls 20 (m : Int) _ w3 (num_f m (by omega))).mono ?_
  rintro e w4 ⟨rfl, b4⟩
  have B4 := Aside0.mk (B3.out.trans (b4.mono B3.out.size))
  have K4 := Aside0.mk (K3.out.below b4)
  clear b4 B3 K3
  go_wp2_with fail
  refine (text_calls w.heap.size g _ S3 s (by omega) (by simp; have := numT_len m (by omega); omega) w4 K4.out (PB.out.on B4.out)).mono ?_
  rintro e w5 ⟨rfl, hp⟩
  have bb := KPut.belowB K4.out hp
  obtain ⟨S5, k5, -, -⟩ := hp
  have B5 := Aside0.mk (B4.out.trans bb)
  have K5 := Aside0.mk k5
  clear bb k5 B4 K4
  have hP1 : (numT m).length ≤ 21 := numT_len m (by omega)
  have K5' : Aside0 (KAt w.heap.size w5 g (numT m ++ textT s) S5) := K5
  clear K5
  obtain ⟨p, hp0⟩ : ∃ p, str (numT m) = p := ⟨_, rfl⟩
  rw [hp0]
  generalize numT m = P at *
  have HPP := Aside0.mk hp0
  have hpz : p.size ≤ 21 := by rw [← hp0, str_size]; exact hP1
  have K5 := K5'
  clear K5' hp0 t3 t4 hm
  -- TAIL
  have hts : (textT s).length ≤ 2030 := by have := textT_len s (by omega); omega
  go_wp2_with fail
  refine (mark_calls w.heap.size g (P ++ textT s) S5 q (by rw [List.length_append]; omega) w5 K5.out).mono ?_
  rintro e w6 ⟨rfl, hp⟩
  have bb := KPut.belowB K5.out hp
  obtain ⟨S6, k6, -, -⟩ := hp
  have B6 := Aside0.mk (B5.out.trans bb)
  have K6 := Aside0.mk k6
  clear bb k6 B5 K5
  have hfl := flatS_len xs (by omega)
  have hnl := numT_len xs.length (by omega)
  have hml : (markT q).length = 1 := by cases q <;> rfl
  go_wp2_with fail
  refine (tuples_calls w A c xs HC.out hc g (P ++ textT s ++ markT q) S6 (by omega) (by rw [List.length_append, List.length_append]; omega) w6 B6.out K6.out (PB.out.on B6.out)).mono ?_
  rintro e w7 ⟨rfl, hp⟩
  have bb := KPut.belowB K6.out hp
  obtain ⟨S7, k7, -, -⟩ := hp
  have B7 := Aside0.mk (B6.out.trans bb)
  have K7 := Aside0.mk k7
  clear bb k7 B6 K6
  obtain ⟨u1, hu1⟩ : ∃ u, u = str (textT s) := ⟨_, rfl⟩
  obtain ⟨u2, hu2⟩ : ∃ u, u = str (markT q) := ⟨_, rfl⟩
  obtain ⟨u3, hu3⟩ : ∃ u, u = str (tuplesT xs) := ⟨_, rfl⟩
  have hz1 : u1.size ≤ 2030 := by rw [hu1, str_size]; exact hts
  have hz2 : u2.size = 1 := by rw [hu2, str_size]; exact hml
  have hz3 : u3.size ≤ 3000000000000 := by rw [hu3, str_size]; unfold tuplesT; rw [List.length_append]; omega
  have F1 := Aside0.mk (show stileref04_Text.f 20 s = some u1 by rw [hu1]; exact text_f s (by omega))
  have F2 := Aside0.mk (show stileref04_Mark.f q = some u2 by rw [hu2]; exact mark_f q)
  have F3 := Aside0.mk (show stileref04_Tuples.f (21 + xs.length) xs = some u3 by rw [hu3]; exact tups_f xs (by omega) (by omega))
  obtain ⟨L0, hL0⟩ : ∃ L0, P ++ textT s ++ markT q ++ tuplesT xs = L0 := ⟨_, rfl⟩
  have hLz : L0.length ≤ 3000000003000 := by
    rw [← hL0, List.length_append, List.length_append, List.length_append]
    rw [hu3, str_size] at hz3
    omega
  have hLpos : 1 ≤ L0.length := by
    rw [← hL0, List.length_append, List.length_append, hml]
    omega
  have HW := Aside0.mk (show p ++ ((u1 ++ u2) ++ u3) = str L0 by rw [← HPP.out, hu1, hu2, hu3, str_append, str_append, str_append, ← hL0]; simp only [List.append_assoc])
  have K7' : Aside0 (KAt w.heap.size w7 g L0 S7) := ⟨by rw [← hL0]; exact K7.out⟩
  have j1 : (9223372036854775807 < u1.size + u2.size) = False := eq_false (by omega)
  have j2 : (9223372036854775807 < u1.size + u2.size + u3.size) = False := eq_false (by omega)
  have j3 : (9223372036854775807 < p.size + (u1.size + u2.size + u3.size)) = False := eq_false (by omega)
  clear K7 hu1 hu2 hu3 hL0 HPP hfl hnl hml hts
  go_wp2_with fail
  refine (stileref04_Text.calls 20 s u1 w7 F1.out).mono ?_
  rintro e w8 ⟨rfl, b8⟩
  have B8 := Aside0.mk (B7.out.trans (b8.mono B7.out.size))
  have K8 := Aside0.mk (K7'.out.below b8)
  clear b8 B7 K7' F1
  go_wp2_with fail
  refine (stileref04_Mark.calls q u2 w8 F2.out).mono ?_
  rintro e w9 ⟨rfl, b9⟩
  have b9 : Below w8.heap.size w8 w9 := b9.below
  have B9 := Aside0.mk (B8.out.trans (b9.mono B8.out.size))
  have K9 := Aside0.mk (K8.out.below b9)
  clear b9 B8 K8 F2
  go_wp2_with fail
  refine (stileref04_Tuples.calls (21 + xs.length) A c xs u3 w9 (Kd.C_below HC.out B9.out) hc F3.out).mono ?_
  rintro e w10 ⟨rfl, b10⟩
  have B10 := Aside0.mk (B9.out.trans (b10.mono B9.out.size))
  have K10 := Aside0.mk (K9.out.below b10)
  clear b10 B9 K9 F3
  go_wp2_with fail
  obtain ⟨z0, hz0⟩ : ∃ z0, p ++ ((u1 ++ u2) ++ u3) = z0 := ⟨_, rfl⟩
  rw [hz0]
  have HW0 := HW.out
  rw [hz0] at HW0
  have HZ0 := Aside0.mk HW0
  have hll := loopT_len xs (by omega)
  clear HW HW0 hz0 j1 j2 j3 hz1 hz2 hz3 hpz hP1 hq
  go_loopw [8, 78] (fun v8 v78 wr => ∃ (i : Int) (z : ByteArray), v78 = .int .i64 i ∧ v8 = .string z ∧ 0 ≤ i ∧ i ≤ (xs.length : Int) ∧ Aside0 (z = str (L0 ++ loopT (xs.take i.toNat))) ∧ Aside0 (∃ S1, KAt w.heap.size wr g (L0 ++ loopT (xs.take i.toNat)) S1) ∧ Aside0 (Below w.heap.size w wr)) (fun _ v78 _ => xs.length - (intOf v78).toNat)
  case atStart => exact ⟨0, z0, rfl, rfl, by omega, by omega, ⟨by simpa [loopT] using HZ0.out⟩, ⟨S7, by simpa [loopT] using K10.out⟩, B10⟩
  case round =>
    clear HZ0 K10 B10
    obtain ⟨i, z, rfl, rfl, hi0, hin, hz, hk, hb⟩ := hrel
    have hlt := loopT_take_len xs i.toNat
    by_cases hi : i < (xs.length : Int)
    · have c1 : decide (i < (xs.length : Int)) = true := decide_eq_true hi
      obtain ⟨hit, hrd⟩ := rd_at xs i hi0 hi
      obtain ⟨ad, eA, hx0, hx1, hx2, hx3, hx4, hx5⟩ := at_T42 HC.out i hi0 hi
      cases eA
      obtain ⟨S1, k1⟩ := hk.out
      have hbr := hb.out
      replace hx0 := (hbr.cell (World.block_lt_of_cell? w _ hx0)).trans hx0
      replace hx1 := (hbr.cell (World.block_lt_of_cell? w _ hx1)).trans hx1
      replace hx2 := (hbr.cell (World.block_lt_of_cell? w _ hx2)).trans hx2
      replace hx3 := (hbr.cell (World.block_lt_of_cell? w _ hx3)).trans hx3
      replace hx4 := (hbr.cell (World.block_lt_of_cell? w _ hx4)).trans hx4
      replace hx5 := (hbr.cell (World.block_lt_of_cell? w _ hx5)).trans hx5
      have hsx := size_at xs i.toNat hit
      have hft := loopT_take xs i.toNat hit
      rw [← hrd] at hft hsx
      generalize hxx : rd_T42 xs i = x at *
      have hls := sub3_len x (by omega)
      have hlu := tupS_len x (by omega)
      have hsum := hsx
      unfold sizeS sum6 at hsum
      obtain ⟨W, hW⟩ : ∃ W, wr.alloc (.cells #[.string x.f0, .string x.f1, .string x.f2, .string x.f3.f0, .string x.f3.f1, .string x.f3.f2] 42) = W := ⟨_, rfl⟩
      have b0 : Below wr.heap.size wr W := by rw [← hW]; exact (Below.refl _ _).alloc (Nat.le_refl _) _
      have RW : Blk W wr.heap.size 42 #[.string x.f0, .string x.f1, .string x.f2, .string x.f3.f0, .string x.f3.f1, .string x.f3.f2] := by rw [← hW]; exact Blk.new _ _ _
      have hbs := k1.base
      have T0 : ∀ j, j ∈ [wr.heap.size] → j < W.heap.size ∧ j ∉ S1 := fun j hj => by
        obtain rfl := List.mem_singleton.1 hj
        exact ⟨RW.lt, fun hm => Nat.lt_irrefl _ (hbs _ hm).2⟩
      have HT0 := Aside0.mk T0
      have RW0 := Aside0.mk RW
      have y3 := RW.cell 3
      have y4 := RW.cell 4
      have y5 := RW.cell 5
      have ylt := RW.lt
      have KW := Aside0.mk (k1.below b0)
      have BW := Aside0.mk (hb.out.trans (b0.mono hb.out.size))
      have HF := Aside0.mk hft
      have p0 := eq_true hi0
      have p1 := eq_true hi
      obtain ⟨Li, hLi⟩ : ∃ Li, L0 ++ loopT (xs.take i.toNat) = Li := ⟨_, rfl⟩
      rw [hLi] at KW hz
      have hLiz : Li.length ≤ 7000000100000 := by rw [← hLi, List.length_append]; omega
      have HLi := Aside0.mk hLi
      clear hk k1 hb hbr b0 RW T0 hbs hft hrd hxx hlt hLi
      go_wp2_with fail
      refine (subject_calls w.heap.size g Li S1 x.f3.f0 x.f3.f1 x.f3.f2 (by omega) W KW.out (PB.out.on BW.out)).mono ?_
      rintro e wa ⟨rfl, hp⟩
      have bb := KPut.belowB KW.out hp
      obtain ⟨S2, k2, o2, -, tt⟩ := hp.take [wr.heap.size] HT0.out
      have RA := RW0.out.only o2 (HT0.out _ (by simp)).2
      have RA0 := Aside0.mk RA
      have BA := Aside0.mk (BW.out.trans bb)
      have KA := Aside0.mk k2
      have HTA := Aside0.mk tt
      clear y3 y4 y5 ylt hW hx0 hx1 hx2 hx3 hx4 hx5 k2 o2 tt bb hp KW BW HT0 RW0
      have y0 := RA.cell 0
      have y1 := RA.cell 1
      have y2 := RA.cell 2
      have y3 := RA.cell 3
      have y4 := RA.cell 4
      have y5 := RA.cell 5
      have ylt := RA.lt
      clear RA
      go_wp2_with fail
      refine (tuple_calls w.heap.size g (Li ++ subT x.f3.f0 x.f3.f1 x.f3.f2) S2 x.f0 x.f1 x.f2 x.f3.f0 x.f3.f1 x.f3.f2 (by unfold sum6; rw [List.length_append]; omega) wa KA.out (PB.out.on BA.out)).mono ?_
      rintro e wb ⟨rfl, hp⟩
      have bb := KPut.belowB KA.out hp
      obtain ⟨S3, k3, o3, -, tt⟩ := hp.take [wr.heap.size] HTA.out
      have RB0 := Aside0.mk (RA0.out.only o3 (HTA.out _ (by simp)).2)
      have BB := Aside0.mk (BA.out.trans bb)
      have KB := Aside0.mk k3
      clear y0 y1 y2 y3 y4 y5 ylt k3 o3 tt bb hp KA BA HTA RA0
      go_wp2_with fail
      obtain ⟨v1, hv1⟩ : ∃ v, v = str (subT x.f3.f0 x.f3.f1 x.f3.f2) := ⟨_, rfl⟩
      obtain ⟨v2, hv2⟩ : ∃ v, v = str (tupS x) := ⟨_, rfl⟩
      have F4 := Aside0.mk (show stileref04_Subject.f 20 x.f3.f0 x.f3.f1 x.f3.f2 = some v1 by rw [hv1]; exact sub_f _ _ _ (by omega) (by omega) (by omega))
      have F5 := Aside0.mk (show stileref04_Tuple.f 20 x.f0 x.f1 x.f2 x.f3.f0 x.f3.f1 x.f3.f2 = some v2 by rw [hv2]; exact tup_f x (by omega))
      have z1 : v1.size ≤ 3000000000000 := by rw [hv1, str_size]; omega
      have z2 : v2.size ≤ 3000000000000 := by rw [hv2, str_size]; omega
      have z3 : z.size ≤ 7000000100000 := by rw [hz.out, str_size]; exact hLiz
      have HZZ := Aside0.mk (show z ++ (v1 ++ v2) = str (Li ++ (subT x.f3.f0 x.f3.f1 x.f3.f2 ++ tupS x)) by rw [hz.out, hv1, hv2, str_append, str_append])
      have j4 : (9223372036854775807 < v1.size + v2.size) = False := eq_false (by omega)
      have j5 : (9223372036854775807 < z.size + (v1.size + v2.size)) = False := eq_false (by omega)
      clear hv1 hv2 z1 z2 z3 hz hls hlu hsum hsx
      refine Qt.wp_region_all (fun w' => Below wb.heap.size wb w') (by kernel_rfl) (by kernel_rfl) (Below.refl _ _).drew ?_
      ((first | (with_reducible refine Qt.q_val' rfl ?_) | ((with_reducible refine Qg.on_val' ?_); apply Exists.intro; apply Exists.intro; apply Exists.intro; refine ⟨?_, ?_, ?_, ?_⟩; (focus rfl); (focus rfl); (focus rfl))); apply Exists.intro; refine ⟨?_, ?_⟩; (focus (intro w' hw'; skip; go_simp; (first | done | (with_reducible rfl)))); intro K hK; go_simp; refine hK _ ?_; clear hK K)
      ((first | (with_reducible refine Qt.q_val' rfl ?_) | ((with_reducible refine Qg.on_val' ?_); apply Exists.intro; apply Exists.intro; apply Exists.intro; refine ⟨?_, ?_, ?_, ?_⟩; (focus rfl); (focus rfl); (focus rfl))); apply Exists.intro; refine ⟨?_, ?_⟩; (focus (intro w' hw'; have l0 := (RB0.out.below hw').lt; go_simp; (first | done | (with_reducible rfl)))); intro K hK; go_simp; refine hK _ ?_; clear hK K)
      ((first | (with_reducible refine Qt.q_val' rfl ?_) | ((with_reducible refine Qg.on_val' ?_); apply Exists.intro; apply Exists.intro; apply Exists.intro; refine ⟨?_, ?_, ?_, ?_⟩; (focus rfl); (focus rfl); (focus rfl))); apply Exists.intro; refine ⟨?_, ?_⟩; (focus (intro w' hw'; have y3 := (RB0.out.below hw').cell 3; have y4 := (RB0.out.below hw').cell 4; have y5 := (RB0.out.below hw').cell 5; go_simp; (first | done | (with_reducible rfl)))); intro K hK; go_simp; refine hK _ ?_; clear hK K)
      ((first | (with_reducible refine Qt.q_call' rfl ?_) | ((with_reducible refine Qg.on_call' ?_); apply Exists.intro; apply Exists.intro; apply Exists.intro; refine ⟨?_, ?_, ?_, ?_⟩; (focus rfl); (focus rfl); (focus rfl))); apply Exists.intro; apply Exists.intro; refine ⟨?_, ?_⟩; (focus (intro w'; go_simp; (first | rfl | exact ⟨rfl, rfl⟩))); apply Exists.intro; refine ⟨?_, ?_⟩; (focus (intro w' hw'; first | with_reducible exact Qt.under hw' (stileref04_Subject.calls 20 x.f3.f0 x.f3.f1 x.f3.f2 v1 _ F4.out))); intro K hK; go_simp; refine hK _ ?_; clear hK K)
      ((first | (with_reducible refine Qt.q_val' rfl ?_) | ((with_reducible refine Qg.on_val' ?_); apply Exists.intro; apply Exists.intro; apply Exists.intro; refine ⟨?_, ?_, ?_, ?_⟩; (focus rfl); (focus rfl); (focus rfl))); apply Exists.intro; refine ⟨?_, ?_⟩; (focus (intro w' hw'; have y0 := (RB0.out.below hw').cell 0; have y1 := (RB0.out.below hw').cell 1; have y2 := (RB0.out.below hw').cell 2; have y3 := (RB0.out.below hw').cell 3; have y4 := (RB0.out.below hw').cell 4; have y5 := (RB0.out.below hw').cell 5; go_simp; (first | done | (with_reducible rfl)))); intro K hK; go_simp; refine hK _ ?_; clear hK K)
      ((first | (with_reducible refine Qt.q_call' rfl ?_) | ((with_reducible refine Qg.on_call' ?_); apply Exists.intro; apply Exists.intro; apply Exists.intro; refine ⟨?_, ?_, ?_, ?_⟩; (focus rfl); (focus rfl); (focus rfl))); apply Exists.intro; apply Exists.intro; refine ⟨?_, ?_⟩; (focus (intro w'; go_simp; (first | rfl | exact ⟨rfl, rfl⟩))); apply Exists.intro; refine ⟨?_, ?_⟩; (focus (intro w' hw'; first | with_reducible exact Qt.under hw' (stileref04_Tuple.calls 20 x.f0 x.f1 x.f2 x.f3.f0 x.f3.f1 x.f3.f2 v2 _ F5.out))); intro K hK; go_simp; refine hK _ ?_; clear hK K)
      iterate 3 ((first | (with_reducible refine Qt.q_val' rfl ?_) | ((with_reducible refine Qg.on_val' ?_); apply Exists.intro; apply Exists.intro; apply Exists.intro; refine ⟨?_, ?_, ?_, ?_⟩; (focus rfl); (focus rfl); (focus rfl))); apply Exists.intro; refine ⟨?_, ?_⟩; (focus (intro w' hw'; skip; go_simp; (first | done | (with_reducible rfl)))); intro K hK; go_simp; refine hK _ ?_; clear hK K)
      (refine wpQuiet_nil ?_; intro w' hw')
      have HBE := Aside0.mk (BB.out.trans (hw'.mono BB.out.size))
      have HKE := Aside0.mk (KB.out.below hw')
      have hi1 : (i + 1).toNat = i.toNat + 1 := by omega
      have hw : IntKind.i64.wrap (i + 1) = i + 1 := IntWalk.i64_in _ (by omega)
      have HL2 : Aside0 (L0 ++ loopT (xs.take (i.toNat + 1)) = Li ++ (subT x.f3.f0 x.f3.f1 x.f3.f2 ++ tupS x)) := ⟨by rw [HF.out, ← List.append_assoc, HLi.out]⟩
      have HK2 : Aside0 (KAt w.heap.size w' g (Li ++ (subT x.f3.f0 x.f3.f1 x.f3.f2 ++ tupS x)) S3) := ⟨by rw [← List.append_assoc]; exact HKE.out⟩
      clear hw' BB KB RB0 HF HLi HKE F4 F5
      go_wp2
      go_roundw
      case rel => exact ⟨i + 1, z ++ (v1 ++ v2), by first | rfl | (rw [hw]) | simp [hw], rfl, by omega, by omega, ⟨by rw [hi1, HL2.out]; exact HZZ.out⟩, ⟨S3, by rw [hi1, HL2.out]; exact HK2.out⟩, HBE⟩
      case measure => simp [intOf, hw]; omega
    · have c1 : decide (i < (xs.length : Int)) = false := decide_eq_false hi
      obtain ⟨we, rfl⟩ : ∃ we : World, we = wr := ⟨_, rfl⟩
      have e1 : i.toNat = xs.length := by omega
      rw [e1, List.take_length] at hz hk
      obtain ⟨S1, k1⟩ := hk.out
      obtain ⟨L, hL⟩ : ∃ L, L0 ++ loopT xs = L := ⟨_, rfl⟩
      rw [hL] at hz k1
      have hLn : L.length ≤ 8000000000000 := by rw [← hL, List.length_append]; omega
      have hLp : 1 ≤ L.length := by rw [← hL, List.length_append]; omega
      have KE := Aside0.mk k1
      have BE := Aside0.mk hb.out
      have HKB := Aside0.mk k1.base
      have HZ := Aside0.mk hz.out
      clear hk hz k1 hb hlt hL
      go_wp2_with fail
      refine (bytes_calls w.heap.size g L S1 (by omega) we KE.out).mono ?_
      rintro e wc ⟨vc, rfl, oc, bc⟩
      have hcv := oc.string
      have KC := Aside0.mk (KE.out.below bc)
      have BC := Aside0.mk bc
      have e0 : nums .u8 (L.map fun b => (b.toNat : Int)) = Lib.byteCells L := by simp [nums, Lib.byteCells]
      have eln : (L.map fun b => (b.toNat : Int)).length = L.length := List.length_map ..
      have row : wc.ownsRow we.heap.size TU 1 vc L.length (nums .u8 (L.map fun b => (b.toNat : Int))) := by rw [e0]; exact oc
      obtain ⟨g2, c2, rfl⟩ : ∃ g2 c2, vc = .slice (some ⟨g2, 0, none⟩) L.length c2 := by
        rcases row.2 with ⟨_, h0⟩ | ⟨g2, c2, _, h2, _⟩
        · omega
        · exact ⟨g2, c2, h2⟩
      have hg2 : we.heap.size ≤ g2 := own_base row g2 rfl
      have ROW := Aside0.mk row
      rw [← HZ.out] at hcv
      obtain ⟨N, hN⟩ : ∃ N, L.length = N := ⟨_, rfl⟩
      rw [hN] at hcv ROW eln
      rw [hN]
      have HN := Aside0.mk hN
      have hN1 : N ≤ 8000000000000 := by rw [← hN]; exact hLn
      clear oc bc e0 row KE hN
      go_wp2_with fail
      clear hcv
      go_loopw [106] (fun v106 wr => ∃ (j : Int) (ys : List Int), v106 = .int .i64 j ∧ 0 ≤ j ∧ j ≤ (N : Int) ∧ Aside0 (wr.ownsRow we.heap.size TU 1 (.slice (some ⟨g2, 0, none⟩) N c2) N (nums .u8 ys)) ∧ Aside0 (Below we.heap.size we wr) ∧ Aside0 (KAt w.heap.size wr g L S1)) (fun v106 _ => N - (intOf v106).toNat)
      case atStart => exact ⟨0, _, rfl, by omega, by omega, ROW, BC, KC⟩
      case round =>
        clear ROW BC KC
        obtain ⟨j, ys, rfl, hj0, hjn, hrow, hb2, hk2⟩ := hrel
        by_cases hj : j < (N : Int)
        · have d1 : decide (j < (N : Int)) = true := decide_eq_true hj
          obtain ⟨q1, q2⟩ := own_at hrow.out j hj0 hj
          have hgl : g2 < wr.heap.size := own_lt hrow.out g2 rfl
          have p0 := eq_true hj0
          have p1 := eq_true hj
          have hw : IntKind.i64.wrap (j + 1) = j + 1 := IntWalk.i64_in _ (by omega)
          have hbs := hk2.out.base
          have hg2S : ∀ u, KAt w.heap.size (wr.setCell ⟨g2, j.toNat, none⟩ u) g L S1 := fun u => hk2.out.only (S1 := [g2]) ((Only.refl _ _).setCell (.inl (by simp)) u) (fun k hk hm => by
            have h1 := (HKB.out k hk).2
            rw [List.mem_singleton.1 hm] at h1
            omega)
          have HS := Aside0.mk hg2S
          clear hk2 hbs hg2S
          go_wp2
          go_roundw
          case rel => exact ⟨j + 1, _, by first | rfl | (rw [hw]) | simp [hw], by omega, by omega, ⟨(own_store hrow.out j _).1⟩, ⟨hb2.out.setCell (p := ⟨g2, j.toNat, none⟩) hg2 _⟩, ⟨HS.out _⟩⟩
          case measure => simp [intOf, hw]; omega
        · have d1 : decide (j < (N : Int)) = false := decide_eq_false hj
          clear hrow
          go_wp2_with fail
          refine (bytes_calls w.heap.size g L S1 (by rw [HN.out]; omega) wr hk2.out).mono ?_
          rintro e wd ⟨vd, rfl, od, bd⟩
          have hcv := od.string
          rw [← HZ.out] at hcv
          have HE := Aside0.mk (BE.out.trans ((hb2.out.mono BE.out.size).trans (bd.mono (Nat.le_trans BE.out.size hb2.out.size))))
          obtain ⟨Ad, nd, cd, rfl⟩ := od.some
          clear od bd hk2 hb2
          go_wp2
          go_ret
          exact ⟨rfl, HE.out⟩
end Go.Proofs.YtmilpfccgggmkaaDoor.Knt

/- The reference's Same, of two lists that are the same. -/
namespace Go.Proofs.YtmilpfccgggmkaaDoor.Knt
open Go.RowKit Go.Proofs.YtmilpfccgggmkaaDoorW.PrintWords Go.Proofs.YtmilpfccgggmkaaDoorW.PrintLast Go.Proofs.YtmilpfccgggmkaaDoorW.PrintMore Go.Proofs.YtmilpfccgggmkaaDoor.Arr Go.Proofs.YtmilpfccgggmkaaDoor.PKnotTies
set_option linter.unusedVariables false
set_option linter.unusedSimpArgs false

set_option maxHeartbeats 8000000 in
set_option maxRecDepth 100000 in
theorem same_eq_calls (A A' : Option Addr) (c c' : Nat) (xs : List S42) (w : World) (hC : Kd.C k42 w A xs.length xs) (hC' : Kd.C k42 w A' xs.length xs) (hc : xs.length ≤ c) (hc' : xs.length ≤ c') :
    Calls Tryd.prog 33 #[.slice A xs.length c, .slice A' xs.length c'] w fun e w' => e = .returned (.bool true) ∧ Below w.heap.size w w' := by
  have hu42 := Tryd.underlying42
  have hmx := Kd.C_max hC
  have HC := Aside0.mk hC
  have HC' := Aside0.mk hC'
  clear hC hC'
  go_enter Tryd.func33, Tryd.ntmps33
  go_wp2
  go_loopw [13] (fun v13 wr => ∃ i : Int, v13 = .int .i64 i ∧ 0 ≤ i ∧ i ≤ (xs.length : Int) ∧ Aside0 (Below w.heap.size w wr)) (fun v13 _ => xs.length - (intOf v13).toNat)
  case atStart => exact ⟨0, rfl, by omega, by omega, ⟨Below.refl _ _⟩⟩
  case round =>
    obtain ⟨i, rfl, hi0, hin, hb⟩ := hrel
    by_cases hi : i < (xs.length : Int)
    · have t1 : decide (i < (xs.length : Int)) = true := decide_eq_true hi
      obtain ⟨ad, eA, x0, x1, x2, x3, x4, x5⟩ := at_T42 (Kd.C_below HC.out hb.out) i hi0 hi
      obtain ⟨ad', eA', z0, z1, z2, z3, z4, z5⟩ := at_T42 (Kd.C_below HC'.out hb.out) i hi0 hi
      cases eA
      cases eA'
      have p0 := eq_true hi0
      have p1 := eq_true hi
      generalize rd_T42 xs i = x at *
      go_wp2_with fail
      refine Qt.wp_region_all (fun w' => Below wr.heap.size wr w') (by kernel_rfl) (by kernel_rfl) (Below.refl _ _).drew ?_
      iterate 9 ((first | (with_reducible refine Qt.q_val' rfl ?_) | ((with_reducible refine Qg.on_val' ?_); apply Exists.intro; apply Exists.intro; apply Exists.intro; refine ⟨?_, ?_, ?_, ?_⟩; (focus rfl); (focus rfl); (focus rfl))); apply Exists.intro; refine ⟨?_, ?_⟩; (focus (intro w' hw'; have xw0 := (hw'.cell (World.block_lt_of_cell? wr _ x0)).trans x0; have xw1 := (hw'.cell (World.block_lt_of_cell? wr _ x1)).trans x1; have xw2 := (hw'.cell (World.block_lt_of_cell? wr _ x2)).trans x2; have xw3 := (hw'.cell (World.block_lt_of_cell? wr _ x3)).trans x3; have xw4 := (hw'.cell (World.block_lt_of_cell? wr _ x4)).trans x4; have xw5 := (hw'.cell (World.block_lt_of_cell? wr _ x5)).trans x5; have zw0 := (hw'.cell (World.block_lt_of_cell? wr _ z0)).trans z0; have zw1 := (hw'.cell (World.block_lt_of_cell? wr _ z1)).trans z1; have zw2 := (hw'.cell (World.block_lt_of_cell? wr _ z2)).trans z2; have zw3 := (hw'.cell (World.block_lt_of_cell? wr _ z3)).trans z3; have zw4 := (hw'.cell (World.block_lt_of_cell? wr _ z4)).trans z4; have zw5 := (hw'.cell (World.block_lt_of_cell? wr _ z5)).trans z5; go_simp; (first | done | (with_reducible rfl)))); intro K hK; go_simp; refine hK _ ?_; clear hK K)
      (refine wpQuiet_nil ?_; intro w' hw')
      have HB := Aside0.mk (hb.out.trans (hw'.mono hb.out.size))
      have hw : IntKind.i64.wrap (i + 1) = i + 1 := IntWalk.i64_in _ (by omega)
      clear hw' x0 x1 x2 x3 x4 x5 z0 z1 z2 z3 z4 z5
      go_wp2
      go_roundw
      case rel => exact ⟨i + 1, by first | rfl | (rw [hw]) | simp [hw], by omega, by omega, HB⟩
      case measure => simp [intOf, hw]; omega
    · have t1 : decide (i < (xs.length : Int)) = false := decide_eq_false hi
      go_wp2
      go_ret
      exact ⟨rfl, hb.out⟩
end Go.Proofs.YtmilpfccgggmkaaDoor.Knt
