/- The program's glyph.Name. -/
import Derived.Test.YtpilbomkdafdfaaUtf
import Derived.Test.YtpilbomkdafdfaaProg
import Derived.WalkKit
import Derived.Below
import Derived.Deep.QuietTactic
import Derived.BigQuiet
import Derived.Lib.OthersKept
import Derived.WalkSmall
namespace Go.Proofs.Ytpilbomkdafdfaa.Gly
open Go.RowKit Go.Proofs.YtpilbomkdafdfaaW.PrintWords Go.Proofs.Ytpilbomkdafdfaa.Utf
set_option linter.unusedVariables false
set_option linter.unusedSimpArgs false
theorem ret_bool {a b : Bool} (h : a = b) : Ending.returned (.bool a) = .returned (.bool b) := by rw [h]
theorem small_calls (r : Nat) (w : World) :
    Calls Try.prog 41 #[.int .i32 (r : Int)] w fun e w' => e = .returned (.bool (smallR r)) ∧ Below w.heap.size w w' := by
  have hs : smallR r = (decide ((r : Int) ≥ 97) && decide ((r : Int) ≤ 122)) := by
    unfold smallR
    congr 1 <;> (rw [decide_eq_decide]; omega)
  rw [hs]
  by_cases h1 : (97 : Int) ≤ (r : Int)
  · have t1 : decide ((r : Int) ≥ 97) = true := decide_eq_true h1
    have H := Aside0.mk t1
    go_enter Try.func41, Try.ntmps41
    go_wp2
    go_ret
    exact ⟨ret_bool (by first | rfl | (rw [H.out, Bool.true_and]; done) | simp [H.out]), Below.refl _ _⟩
  · have t1 : decide ((r : Int) ≥ 97) = false := decide_eq_false h1
    have H := Aside0.mk t1
    go_enter Try.func41, Try.ntmps41
    go_wp2
    go_ret
    exact ⟨ret_bool (by first | rfl | (rw [H.out, Bool.false_and]; done) | simp [H.out]), Below.refl _ _⟩
theorem small_as (b : Bool) (r : Nat) (hb : smallR r = b) (w : World) :
    Calls Try.prog 41 #[.int .i32 (r : Int)] w fun e w' => e = .returned (.bool b) ∧ Below w.heap.size w w' := by
  subst hb
  exact small_calls r w

theorem nameB_no (s : ByteArray) (p : Nat) (hp : p < s.size) (h : nmAll s p = nmAll s 0) (hr : nmR p (gb s p) = false) : nameB s = false := by
  unfold nameB
  rw [← h, nmAll_step s p hp, hr]
  rfl
theorem nameB_end (s : ByteArray) (p : Nat) (hp : ¬ p < s.size) (h : nmAll s p = nmAll s 0) : nameB s = (decide (1 ≤ s.size) && decide (s.size ≤ 16)) := by
  unfold nameB
  rw [← h, nmAll_end s p hp, Bool.true_and]
theorem toList_size (s : ByteArray) : s.toList.length = s.size := by
  rw [Lib.toList_data, Array.length_toList]; rfl
theorem toList_ne (s : ByteArray) (h : s.size ≠ 0) : s.toList ≠ [] := fun e => h (by rw [← toList_size, e]; rfl)
theorem toList_nil (s : ByteArray) (h : s.size = 0) : s.toList = [] := List.eq_nil_of_length_eq_zero (by rw [toList_size]; exact h)

set_option maxHeartbeats 4000000 in
set_option maxRecDepth 100000 in
theorem name_calls (s : ByteArray) (hs : s.size ≤ 9223372036854775807) (w : World) :
    Calls Try.prog 39 #[.string s] w fun e w' => e = .returned (.bool (nameB s)) ∧ Below w.heap.size w w' := by
  go_enter Try.func39, Try.ntmps39
  go_wp2
  go_loopw [7] (fun v7 wr => ∃ pos : Nat, wr.heap[w.heap.size]? = some (.stringIter s pos) ∧ Aside0 (nmAll s pos = nmAll s 0) ∧ Below w.heap.size w wr) (fun _ wr => s.size - wr.iterPos w.heap.size)
  case atStart => exact ⟨0, World.iter_heap w s 0, ⟨rfl⟩, (Below.refl _ _).alloc (Nat.le_refl _) _⟩
  case round =>
    obtain ⟨pos, hit, hv, hb⟩ := hrel
    have hpos := iterPos_of hit
    by_cases hp : pos < s.size
    · have hnx : ∀ ty, (Instr.next (.pointer (some ⟨w.heap.size, 0, none⟩)) true ty).run Try.prog wr = _ := fun ty => Lib.run_next_any_at wr w.heap.size s pos ty hit hp
      have hw := dec_w s pos hp
      have hit2 := Lib.iterAt_heap wr w.heap.size s pos (pos + (Utf8.decode s pos).2) hit
      have hb2 := Lib.below_iterAt hb (Nat.le_refl _) s (pos + (Utf8.decode s pos).2)
      have hnd := nm_dec s pos pos
      have hno := fun h => nameB_no s pos hp hv.out h
      have hyes : nmR pos (Utf8.decode s pos).1 = true → nmAll s (pos + (Utf8.decode s pos).2) = nmAll s 0 := fun h => by
        rw [nm_one s pos pos h, ← hv.out, nmAll_step s pos hp, ← hnd, h, Bool.true_and]
      rw [← hnd] at hno
      clear hnd
      have NO := Aside0.mk hno
      have YES := Aside0.mk hyes
      have HP := Aside0.mk hpos
      have HI := Aside0.mk hit2
      have HW := Aside0.mk hw
      clear hno hyes hpos hit hit2 hv hw
      generalize (Utf8.decode s pos).1 = r at *
      generalize (Utf8.decode s pos).2 = n at *
      have hstep : ∀ (u : Value) (W : World), Below (wr.iterAt w.heap.size s (pos + n)).heap.size (wr.iterAt w.heap.size s (pos + n)) W → W.heap[w.heap.size]? = some (.stringIter s (pos + n)) := fun _ W h => (h.block _ (by have := HI.out; exact (Array.getElem?_eq_some_iff.1 this).1)).trans HI.out
      have HSTEP := Aside0.mk hstep
      clear hstep
      cases hsm : smallR r with
      | true =>
        have hz := YES.out (by unfold nmR; rw [hsm]; rfl)
        have HZ := Aside0.mk hz
        have HS := Aside0.mk hsm
        clear hz hsm
        go_wp2_with (go_at_call 41; refine (small_as true r HS.out _).mono ?_; rintro e w1 ⟨rfl, hb3⟩)
        have hI3 := HSTEP.out undef w1 hb3
        go_roundw
        case rel => exact ⟨_, hI3, HZ, hb2.trans (hb3.mono hb2.size)⟩
        case measure =>
          have := HW.out
          rw [iterPos_of hI3, HP.out]
          omega
      | false =>
        have HS := Aside0.mk hsm
        by_cases h0 : 0 < pos
        · have t0 : decide ((pos : Int) > 0) = true := decide_eq_true (by omega)
          by_cases h1 : 48 ≤ r
          · have t1 : decide ((r : Int) ≥ 48) = true := decide_eq_true (by omega)
            by_cases h2 : r ≤ 57
            · have t2 : decide ((r : Int) ≤ 57) = true := decide_eq_true (by omega)
              have hz := YES.out (by unfold nmR; rw [hsm, decide_eq_true h0, decide_eq_true h1, decide_eq_true h2]; rfl)
              have HZ := Aside0.mk hz
              clear hz hsm h1 h2
              go_wp2_with (go_at_call 41; refine (small_as false r HS.out _).mono ?_; rintro e w1 ⟨rfl, hb3⟩)
              have hI3 := HSTEP.out undef w1 hb3
              go_roundw
              case rel => exact ⟨_, hI3, HZ, hb2.trans (hb3.mono hb2.size)⟩
              case measure =>
                have := HW.out
                rw [iterPos_of hI3, HP.out]
                omega
            · have t2 : decide ((r : Int) ≤ 57) = false := decide_eq_false (by omega)
              by_cases h3 : r = 95
              · have t3 : ((r : Int) == 95) = true := beq_iff_eq.2 (by omega)
                have hz := YES.out (by unfold nmR; rw [hsm, decide_eq_true h0, beq_iff_eq.2 h3]; simp)
                have HZ := Aside0.mk hz
                clear hz hsm h1 h2 h3
                go_wp2_with (go_at_call 41; refine (small_as false r HS.out _).mono ?_; rintro e w1 ⟨rfl, hb3⟩)
                have hI3 := HSTEP.out undef w1 hb3
                go_roundw
                case rel => exact ⟨_, hI3, HZ, hb2.trans (hb3.mono hb2.size)⟩
                case measure =>
                  have := HW.out
                  rw [iterPos_of hI3, HP.out]
                  omega
              · have t3 : ((r : Int) == 95) = false := beq_eq_false_iff_ne.2 (by omega)
                have hz := NO.out (by unfold nmR; rw [hsm, decide_eq_false h2, beq_eq_false_iff_ne.2 h3]; simp)
                have HZ := Aside0.mk hz
                clear hz hsm h1 h2 h3
                go_wp2_with (go_at_call 41; refine (small_as false r HS.out _).mono ?_; rintro e w1 ⟨rfl, hb3⟩)
                go_ret
                exact ⟨ret_bool HZ.out.symm, hb2.trans (hb3.mono hb2.size)⟩
          · have t1 : decide ((r : Int) ≥ 48) = false := decide_eq_false (by omega)
            have t3 : ((r : Int) == 95) = false := beq_eq_false_iff_ne.2 (by omega)
            have hz := NO.out (by unfold nmR; rw [hsm, decide_eq_false h1, beq_eq_false_iff_ne.2 (show r ≠ 95 by omega)]; simp)
            have HZ := Aside0.mk hz
            clear hz hsm h1
            go_wp2_with (go_at_call 41; refine (small_as false r HS.out _).mono ?_; rintro e w1 ⟨rfl, hb3⟩)
            go_ret
            exact ⟨ret_bool HZ.out.symm, hb2.trans (hb3.mono hb2.size)⟩
        · have t0 : decide ((pos : Int) > 0) = false := decide_eq_false (by omega)
          have hz := NO.out (by unfold nmR; rw [hsm, decide_eq_false h0]; rfl)
          have HZ := Aside0.mk hz
          clear hz hsm
          go_wp2_with (go_at_call 41; refine (small_as false r HS.out _).mono ?_; rintro e w1 ⟨rfl, hb3⟩)
          go_ret
          exact ⟨ret_bool HZ.out.symm, hb2.trans (hb3.mono hb2.size)⟩
    · have hnx : ∀ ty, (Instr.next (.pointer (some ⟨w.heap.size, 0, none⟩)) true ty).run Try.prog wr = _ := fun ty => Lib.run_next_end_at wr w.heap.size s pos ty hit hp
      have hz := nameB_end s pos hp hv.out
      have HZ := Aside0.mk hz
      clear hz hv hit hpos hp
      by_cases h0 : s.size = 0
      · have t0 := toList_nil s h0
        go_wp2
        go_ret
        exact ⟨ret_bool (by rw [HZ.out, h0]; rfl), hb⟩
      · have t0 := toList_ne s h0
        have t2 : s.toList.isEmpty = false := by
          cases hl : s.toList with
          | nil => exact absurd hl t0
          | cons _ _ => rfl
        have t1 : decide ((s.size : Int) ≤ 16) = decide (s.size ≤ 16) := by rw [decide_eq_decide]; omega
        have T1 := Aside0.mk t1
        clear t1
        go_wp2
        go_ret
        exact ⟨ret_bool (by rw [HZ.out, decide_eq_true (show 1 ≤ s.size by omega), Bool.true_and, ← T1.out]), hb⟩

end Go.Proofs.Ytpilbomkdafdfaa.Gly
