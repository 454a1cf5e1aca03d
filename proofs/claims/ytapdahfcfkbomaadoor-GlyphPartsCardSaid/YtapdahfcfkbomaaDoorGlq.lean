/- The reference's Plain and Id. -/
import Derived.Test.YtapdahfcfkbomaaDoorGlr
import Derived.Test.YtapdahfcfkbomaaDoorGlz
import Derived.Test.YtapdahfcfkbomaaDoorRow
namespace Go.Proofs.YtapdahfcfkbomaaDoor.Glr
open Go.RowKit Go.Proofs.YtapdahfcfkbomaaDoorW.PrintWords Go.Proofs.YtapdahfcfkbomaaDoor.Utf Go.Proofs.YtapdahfcfkbomaaDoor.Arr Go.Proofs.YtapdahfcfkbomaaDoor.Gly
set_option linter.unusedVariables false
set_option linter.unusedSimpArgs false

def sg : List Int := [35, 64, 58, 42, 44, 40, 41, 34, 92, 59]
theorem sg_build : ∀ w : World, (Instr.build 64 #[(0, .int .i64 35), (1, .int .i64 64), (2, .int .i64 58), (3, .int .i64 42), (4, .int .i64 44), (5, .int .i64 40), (6, .int .i64 41), (7, .int .i64 34), (8, .int .i64 92), (9, .int .i64 59)]).run Tryd.prog w = .ok (.agg (numsA .i64 sg)) w := fun w => by kernel_rfl
theorem infoI : (Tryd.prog.info? 3).map (·.size) = some 1 := by kernel_rfl
theorem plain_sg (r k : Nat) (hk : k < 10) (h : (r : Int) = sg.getD k 0) : plainR r = false := by
  have : r = (sg.getD k 0).toNat := by omega
  rw [this]
  have h10 : ∀ k : Fin 10, plainR (sg.getD k.val 0).toNat = false := by decide
  exact h10 ⟨k, hk⟩
theorem plain_rest (r : Nat) (h : ∀ j, j < 10 → (r : Int) ≠ sg.getD j 0) : plainR r = (decide ((r : Int) ≥ 33) && (decide ((r : Int) < 127) || decide ((r : Int) > 160))) := by
  have h0 := h 0 (by decide); have h1 := h 1 (by decide); have h2 := h 2 (by decide); have h3 := h 3 (by decide); have h4 := h 4 (by decide)
  have h5 := h 5 (by decide); have h6 := h 6 (by decide); have h7 := h 7 (by decide); have h8 := h 8 (by decide); have h9 := h 9 (by decide)
  simp [sg] at h0 h1 h2 h3 h4 h5 h6 h7 h8 h9
  unfold plainR
  rw [beq_eq_false_iff_ne.2 (show r ≠ 35 by omega), beq_eq_false_iff_ne.2 (show r ≠ 64 by omega), beq_eq_false_iff_ne.2 (show r ≠ 58 by omega), beq_eq_false_iff_ne.2 (show r ≠ 42 by omega), beq_eq_false_iff_ne.2 (show r ≠ 44 by omega), beq_eq_false_iff_ne.2 (show r ≠ 40 by omega), beq_eq_false_iff_ne.2 (show r ≠ 41 by omega), beq_eq_false_iff_ne.2 (show r ≠ 34 by omega), beq_eq_false_iff_ne.2 (show r ≠ 92 by omega), beq_eq_false_iff_ne.2 (show r ≠ 59 by omega)]
  have e1 : decide ((r : Int) ≥ 33) = decide (32 < r) := by rw [decide_eq_decide]; omega
  have e2 : decide ((r : Int) < 127) = decide (r < 127) := by rw [decide_eq_decide]; omega
  have e3 : decide ((r : Int) > 160) = decide (160 < r) := by rw [decide_eq_decide]; omega
  rw [e1, e2, e3]
  rfl

set_option maxHeartbeats 2000000 in
set_option maxRecDepth 100000 in
theorem ref_plain_calls (r : Nat) (w : World) :
    Calls Tryd.prog 30 #[.int .i64 (r : Int)] w fun e w' => e = .returned (.bool (plainR r)) ∧ Below w.heap.size w w' := by
  go_enter Tryd.func30, Tryd.ntmps30
  go_wp2_with (with_reducible refine wpList_build_agg rfl 64 _ rfl _ sg_build ?_)
  go_loop [6] (fun v6 => ∃ k : Nat, k ≤ 10 ∧ v6 = .int .i64 (k : Int) ∧ Aside0 (∀ j, j < k → (r : Int) ≠ sg.getD j 0)) (fun v6 => 10 - (intOf v6).toNat)
  case atStart => exact ⟨0, by omega, rfl, ⟨fun j h => absurd h (Nat.not_lt_zero _)⟩⟩
  case round =>
    obtain ⟨k, hk, rfl, hno⟩ := hrel
    by_cases hlt : k < 10
    · have t0 : decide ((k : Int) < 10) = true := decide_eq_true (by omega)
      by_cases he : (r : Int) = sg.getD k 0
      · have hz := Aside0.mk (plain_sg r k hlt he)
        have t1 : ((r : Int) == sg.getD k 0) = true := beq_iff_eq.2 he
        have H1 := Aside0.mk t1
        clear he t1
        obtain ⟨c, hc⟩ : ∃ c, sg.getD k 0 = c := ⟨_, rfl⟩
        have t1 := H1.out
        rw [hc] at t1
        have HC := Aside0.mk hc
        clear hc H1
        go_wp2_with (with_reducible refine wpList_index_nums rfl 64 _ _ rfl sg k rfl rfl Tryd.underlying64 Tryd.underlying3 infoI rfl hlt ?_; rw [HC.out])
        go_ret
        exact ⟨ret_bool hz.out.symm, Below.refl _ _⟩
      · have hz := Aside0.mk (show ∀ j, j < k + 1 → (r : Int) ≠ sg.getD j 0 from fun j hj => by
          by_cases e : j = k
          · subst e; exact he
          · exact hno.out j (by omega))
        have t1 : ((r : Int) == sg.getD k 0) = false := beq_eq_false_iff_ne.2 he
        have H1 := Aside0.mk t1
        clear he t1 hno
        obtain ⟨c, hc⟩ : ∃ c, sg.getD k 0 = c := ⟨_, rfl⟩
        have t1 := H1.out
        rw [hc] at t1
        have HC := Aside0.mk hc
        clear hc H1
        go_wp2_with (with_reducible refine wpList_index_nums rfl 64 _ _ rfl sg k rfl rfl Tryd.underlying64 Tryd.underlying3 infoI rfl hlt ?_; rw [HC.out])
        go_round
        case rel => exact ⟨k + 1, by omega, by go_num, hz⟩
        case measure => simp [intOf]; omega
    · have t0 : decide ((k : Int) < 10) = false := decide_eq_false (by omega)
      obtain rfl : k = 10 := by omega
      have hz := plain_rest r hno.out
      clear hno
      by_cases a : (r : Int) ≥ 33
      · have b1 : decide ((r : Int) ≥ 33) = true := decide_eq_true a
        rw [b1, Bool.true_and] at hz
        by_cases c : (r : Int) < 127
        · have b2 : decide ((r : Int) < 127) = true := decide_eq_true c
          rw [b2, Bool.true_or] at hz
          have HZ := Aside0.mk hz
          clear hz
          go_wp2
          go_ret
          exact ⟨ret_bool HZ.out.symm, Below.refl _ _⟩
        · have b2 : decide ((r : Int) < 127) = false := decide_eq_false c
          rw [b2, Bool.false_or] at hz
          have HZ := Aside0.mk hz
          clear hz
          go_wp2
          go_ret
          exact ⟨ret_bool HZ.out.symm, Below.refl _ _⟩
      · have b1 : decide ((r : Int) ≥ 33) = false := decide_eq_false a
        rw [b1, Bool.false_and] at hz
        have HZ := Aside0.mk hz
        clear hz
        go_wp2
        go_ret
        exact ⟨ret_bool HZ.out.symm, Below.refl _ _⟩

def runesN (s : ByteArray) : List Nat := (tail s 0).map fun x => x.2.1
theorem runesN_length (s : ByteArray) : (runesN s).length = cnt s := by simp [runesN, cnt, cntT]
theorem runesT_get (s : ByteArray) (k : Nat) : (runesT s 0).getD k 0 = (((runesN s).getD k 0 : Nat) : Int) := by
  unfold runesT runesN
  simp only [List.getD_eq_getElem?_getD, List.getElem?_map]
  cases (tail s 0)[k]? <;> rfl
theorem plainT_N (s : ByteArray) : plainT s 0 = (runesN s).all plainR := by
  unfold plainT runesN
  rw [List.all_map]
  rfl
theorem idB_at (s : ByteArray) (k : Nat) (hk : k < cnt s) (h : plainR ((runesN s).getD k 0) = false) : idB s = false := by
  unfold idB
  rw [plainT_N]
  have : (runesN s).all plainR = false := by
    rw [List.all_eq_false]
    refine ⟨(runesN s).getD k 0, ?_, by rw [h]; decide⟩
    have hl : k < (runesN s).length := by rw [runesN_length]; exact hk
    simp [List.getD_eq_getElem?_getD, hl]
  rw [this, Bool.and_false]
theorem idB_all (s : ByteArray) (hv : validB s = true) (h1 : 1 ≤ cnt s) (h2 : cnt s ≤ 24) (h : ∀ j, j < cnt s → plainR ((runesN s).getD j 0) = true) : idB s = true := by
  unfold idB
  rw [plainT_N, hv, decide_eq_true h1, decide_eq_true h2, Bool.true_and, Bool.true_and, Bool.true_and, List.all_eq_true]
  intro x hx
  obtain ⟨i, hi, rfl⟩ := List.getElem_of_mem hx
  have := h i (by rw [← runesN_length]; exact hi)
  simpa [List.getD_eq_getElem?_getD, hi] using this
theorem ref_plain_as (b : Bool) (r : Nat) (hb : plainR r = b) (w : World) :
    Calls Tryd.prog 30 #[.int .i64 (r : Int)] w fun e w' => e = .returned (.bool b) ∧ Below w.heap.size w w' := by
  subst hb
  exact ref_plain_calls r w

set_option maxHeartbeats 4000000 in
set_option maxRecDepth 100000 in
theorem ref_id_calls (s : ByteArray) (hs : s.size ≤ 100000000) (w : World) :
    Calls Tryd.prog 19 #[.string s] w fun e w' => e = .returned (.bool (idB s)) ∧ Below w.heap.size w w' := by
  cases hv : validB s with
  | false =>
    have hz : idB s = false := by unfold idB; rw [hv]; rfl
    have HC := Aside0.mk (ref_runes_calls s hs false hv [] rfl w)
    rw [hz]
    clear hz hv
    go_enter Tryd.func19, Tryd.ntmps19
    go_wp2_with (go_at_call 11; refine HC.out.mono ?_; rintro e w1 ⟨A, c, rfl, hr, hb⟩)
    go_ret
    exact ⟨rfl, hb⟩
  | true =>
    obtain ⟨xs, hxs⟩ : ∃ xs, xs = runesT s 0 := ⟨_, rfl⟩
    have hxl : xs.length = cnt s := by rw [hxs, runesT_length]; rfl
    have hxg : ∀ k, xs.getD k 0 = (((runesN s).getD k 0 : Nat) : Int) := fun k => by rw [hxs, runesT_get]
    have HC := Aside0.mk (ref_runes_calls s hs true hv xs (by rw [hxs]; rfl) w)
    rw [hxl] at HC
    have hid : idB s = ((decide (1 ≤ cnt s) && decide (cnt s ≤ 24)) && plainT s 0) := by unfold idB; rw [hv, Bool.true_and]
    have hcl := cnt_le s
    have HXG := Aside0.mk hxg
    have HXL := Aside0.mk hxl
    have HV := Aside0.mk hv
    clear hxg hxl hxs hv
    by_cases h1 : 1 ≤ cnt s
    · have t1 : decide ((cnt s : Int) < 1) = false := decide_eq_false (by omega)
      by_cases h2 : cnt s ≤ 24
      · have t2 : decide ((cnt s : Int) > 24) = false := decide_eq_false (by omega)
        clear hid
        have END' := Aside0.mk (idB_all s HV.out h1 h2)
        have NO' := Aside0.mk (idB_at s)
        obtain ⟨n, hn⟩ : ∃ n, n = cnt s := ⟨_, rfl⟩
        rw [← hn] at t1 t2 h1 h2 hcl HC HXL END' NO'
        clear hn
        go_enter Tryd.func19, Tryd.ntmps19
        go_wp2_with (go_at_call 11; refine HC.out.mono ?_; rintro e w1 ⟨A, c, rfl, hr, hb0⟩; have HR := Aside0.mk hr; clear hr)
        go_loopw [25] (fun v25 wr => ∃ k : Nat, k ≤ n ∧ v25 = .int .i64 (k : Int) ∧ Aside0 (∀ j, j < k → plainR ((runesN s).getD j 0) = true) ∧ Below w1.heap.size w1 wr) (fun v25 _ => n - (intOf v25).toNat)
        case atStart => exact ⟨0, by omega, rfl, ⟨fun j h => absurd h (Nat.not_lt_zero _)⟩, Below.refl _ _⟩
        case round =>
          obtain ⟨k, hk, rfl, hall, hb⟩ := hrel
          by_cases hlt : k < n
          · have t0 : decide ((k : Int) < (n : Int)) = true := decide_eq_true (by omega)
            obtain ⟨ad, rfl, hc0⟩ := (HR.out.below hb).2.2 (by omega)
            have hc := hc0 k hlt
            rw [HXG.out] at hc
            clear hc0
            have hno := NO'.out k hlt
            have hyes : plainR ((runesN s).getD k 0) = true → ∀ j, j < k + 1 → plainR ((runesN s).getD j 0) = true := fun h j hj => by
              by_cases e : j = k
              · subst e; exact h
              · exact hall.out j (by omega)
            obtain ⟨r, hr⟩ : ∃ r, (runesN s).getD k 0 = r := ⟨_, rfl⟩
            rw [hr] at hc
            cases hpl : plainR r with
            | true =>
              have HZ := Aside0.mk (hyes (by rw [hr]; exact hpl))
              have HPL := Aside0.mk hpl
              clear hyes hno hall hpl hr
              go_wp2_with (go_at_call 30; refine (ref_plain_as true _ HPL.out _).mono ?_; rintro e w2 ⟨rfl, hb3⟩)
              go_roundw
              case rel => exact ⟨k + 1, by omega, by go_num, HZ, hb.trans (hb3.mono hb.size)⟩
              case measure => simp [intOf]; omega
            | false =>
              have HZ := Aside0.mk (hno (by rw [hr]; exact hpl))
              have HPL := Aside0.mk hpl
              clear hyes hno hall hpl hr
              go_wp2_with (go_at_call 30; refine (ref_plain_as false _ HPL.out _).mono ?_; rintro e w2 ⟨rfl, hb3⟩)
              go_ret
              exact ⟨ret_bool HZ.out.symm, hb0.trans ((hb.trans (hb3.mono hb.size)).mono hb0.size)⟩
          · have t0 : decide ((k : Int) < (n : Int)) = false := decide_eq_false (by omega)
            obtain rfl : k = n := by omega
            have HZ := Aside0.mk (END'.out hall.out)
            clear hall
            go_wp2
            go_ret
            exact ⟨ret_bool HZ.out.symm, hb0.trans (hb.mono hb0.size)⟩
      · have t2 : decide ((cnt s : Int) > 24) = true := decide_eq_true (by omega)
        rw [decide_eq_false h2, Bool.and_false, Bool.false_and] at hid
        rw [hid]
        clear hid
        go_enter Tryd.func19, Tryd.ntmps19
        go_wp2_with (go_at_call 11; refine HC.out.mono ?_; rintro e w1 ⟨A, c, rfl, hr, hb⟩)
        go_ret
        exact ⟨rfl, hb⟩
    · have t1 : decide ((cnt s : Int) < 1) = true := decide_eq_true (by omega)
      rw [decide_eq_false h1, Bool.false_and, Bool.false_and] at hid
      rw [hid]
      clear hid
      obtain ⟨c, hc⟩ : ∃ c, c = cnt s := ⟨_, rfl⟩
      rw [← hc] at t1 h1 hcl HC
      clear hc
      go_enter Tryd.func19, Tryd.ntmps19
      go_wp2_with (go_at_call 11; refine HC.out.mono ?_; rintro e w1 ⟨A, c', rfl, hr, hb⟩)
      go_ret
      exact ⟨rfl, hb⟩
end Go.Proofs.YtapdahfcfkbomaaDoor.Glr
