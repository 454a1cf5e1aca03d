import Derived.Test.YtihmfemmoffdmaaPChitChoosesx

namespace Go.Proofs.Ytihmfemmoffdmaa.Chooses
open Go.RowKit Go.Proofs.YtihmfemmoffdmaaW.PrintWords Go.Proofs.YtihmfemmoffdmaaW.PrintLast Go.Proofs.YtihmfemmoffdmaaW.PrintMore Go.Proofs.Ytihmfemmoffdmaa.PChitChooses
set_option linter.unusedVariables false
set_option linter.unusedSimpArgs false

theorem awake_true : stilelaw19_awake.f 1 = some true := by decide +kernel

/-- What both come to. -/
def ans (m rev hz lt : Int) : Int × Int :=
  if m < 0 ∨ 2 < m then (0, 1) else if 0 < m ∧ lt < rev then (0, 23) else if m = 2 ∧ rev < hz then (0, 22) else if m = 2 then (rev, 0) else (lt, 0)

theorem choose_ans (m rev hz lt : Int) : chit_Choose.f 1 m rev hz lt = some (ans m rev hz lt) := by
  unfold chit_Choose.f ans
  by_cases h0 : m = 0
  · subst h0; simp [chit_Choose.j0]
  by_cases h1 : m = 1
  · subst h1; simp [chit_Choose.j0]; split <;> rfl
  by_cases h2 : m = 2
  · subst h2; simp [chit_Choose.j0]; repeat' split
    all_goals rfl
  · rw [if_neg h0, if_neg h1]
    have : (m != 2) = true := by simpa using h2
    rw [this, if_pos (by omega)]
    simp [chit_Choose.j0]

theorem ref_ans (m rev hz lt : Int) : stileref19_Choose.f 3 m rev hz lt = some (ans m rev hz lt) := by
  unfold stileref19_Choose.f ans
  simp only [stileref19_Choose.j0, stileref19_Choose.j1, stileref19_Choose.j2]
  repeat' split
  all_goals simp_all
  all_goals omega


theorem awake_calls (w : World) : Calls Try.prog 4 #[] w fun e w' => e = .returned (.bool true) ∧ Drawn0 w w' := stilelaw19_awake.calls 1 true w awake_true
theorem choose_calls (m rev hz lt r1 r2 : Int) (h : ans m rev hz lt = (r1, r2)) (w : World) :
    Calls Try.prog 5 #[.int .i64 m, .int .i64 rev, .int .i64 hz, .int .i64 lt] w fun e w' => e = .returned (.tuple #[.int .i64 r1, .int .i64 r2]) ∧ Drawn0 w w' :=
  chit_Choose.calls 1 m rev hz lt r1 r2 w (by rw [choose_ans, h])
theorem ref_calls (m rev hz lt r1 r2 : Int) (h : ans m rev hz lt = (r1, r2)) (w : World) :
    Calls Try.prog 6 #[.int .i64 m, .int .i64 rev, .int .i64 hz, .int .i64 lt] w fun e w' => e = .returned (.tuple #[.int .i64 r1, .int .i64 r2]) ∧ Drawn0 w w' :=
  stileref19_Choose.calls 3 m rev hz lt r1 r2 w (by rw [ref_ans, h])


theorem cl_end {w : World} (b : Obj) (n : Nat) : Below w.heap.size w ((w.alloc b).drewN n) := pw_below_drewN (below_alloc (Below.refl _ _) b) n

set_option maxHeartbeats 400000 in
theorem walk1 (m rev hz lt : Int) (h : decide (hz < 0) = true) (w : World) :
    Calls Try.prog 3 #[.int .i64 m, .int .i64 rev, .agg #[.int .i64 hz, .int .i64 lt]] w fun e w' => e = .returned (.bool true) ∧ Below w.heap.size w w' := by
  go_enter Try.func3, Try.ntmps3
  go_wp2
  go_quiet (fail)
  go_wp2_with (go_at_call 4; refine (awake_calls _).mono ?_; rintro e w' ⟨rfl, ⟨n, rfl⟩⟩)
  go_ret
  exact ⟨rfl, cl_end _ _⟩

set_option maxHeartbeats 400000 in
theorem walk2 (m rev hz lt : Int) (h : decide (hz < 0) = false) (h2 : decide (lt < hz) = true) (w : World) :
    Calls Try.prog 3 #[.int .i64 m, .int .i64 rev, .agg #[.int .i64 hz, .int .i64 lt]] w fun e w' => e = .returned (.bool true) ∧ Below w.heap.size w w' := by
  go_enter Try.func3, Try.ntmps3
  go_wp2
  go_quiet (fail)
  go_wp2_with (go_at_call 4; refine (awake_calls _).mono ?_; rintro e w' ⟨rfl, ⟨n, rfl⟩⟩)
  go_ret
  exact ⟨rfl, cl_end _ _⟩


theorem last_facts (m rev hz lt r1 r2 : Int) (h : ans m rev hz lt = (r1, r2)) (h1 : 0 ≤ hz) (h2 : hz ≤ lt) :
    r2 = 0 → r1 ≤ lt ∧ hz ≤ r1 ∧ (m = 0 ∨ rev ≤ r1) ∧ (m = 2 → r1 = rev) := by
  unfold ans at h
  repeat' split at h
  all_goals simp only [Prod.mk.injEq] at h
  all_goals obtain ⟨rfl, rfl⟩ := h
  all_goals intro h0
  all_goals omega

set_option maxHeartbeats 400000 in
theorem walk3 (m rev hz lt r1 r2 : Int) (h : decide (hz < 0) = false) (h2 : decide (lt < hz) = false) (hr : Aside0 (ans m rev hz lt = (r1, r2))) (w : World) :
    Calls Try.prog 3 #[.int .i64 m, .int .i64 rev, .agg #[.int .i64 hz, .int .i64 lt]] w fun e w' => e = .returned (.bool true) ∧ Below w.heap.size w w' := by
  go_enter Try.func3, Try.ntmps3
  go_wp2
  go_quiet (fail)
  go_wp2_with (first | (go_at_call 4; refine (awake_calls _).mono ?_; rintro e w' ⟨rfl, ⟨n, rfl⟩⟩) | (go_at_call 5; refine (choose_calls _ _ _ _ _ _ hr.out _).mono ?_; rintro e w' ⟨rfl, ⟨n, rfl⟩⟩) | (go_at_call 6; refine (ref_calls _ _ _ _ _ _ hr.out _).mono ?_; rintro e w' ⟨rfl, ⟨n, rfl⟩⟩))
  all_goals have F := last_facts m rev hz lt r1 r2 hr.out (by simpa using h) (by simpa using h2)
  all_goals first
    | (exfalso; omega)
    | (go_ret; refine ⟨?_, cl_end _ _⟩; simp; try omega)

theorem walk (m rev hz lt : Int) (w : World) :
    Calls Try.prog 3 #[.int .i64 m, .int .i64 rev, .agg #[.int .i64 hz, .int .i64 lt]] w fun e w' => e = .returned (.bool true) ∧ Below w.heap.size w w' := by
  by_cases c1 : hz < 0
  · exact walk1 m rev hz lt (by simpa using c1) w
  by_cases c2 : lt < hz
  · exact walk2 m rev hz lt (by simpa using c1) (by simpa using c2) w
  · exact walk3 m rev hz lt _ _ (by simpa using c1) (by simpa using c2) ⟨rfl⟩ w
end Go.Proofs.Ytihmfemmoffdmaa.Chooses
