/- The program's layer glyph: Name, Id. -/
import Derived.Test.YtapdahfcfkbomaaDoorGly
namespace Go.Proofs.YtapdahfcfkbomaaDoor.Gly
open Go.RowKit Go.Proofs.YtapdahfcfkbomaaDoorW.PrintWords Go.Proofs.YtapdahfcfkbomaaDoor.Utf
set_option linter.unusedVariables false
set_option linter.unusedSimpArgs false

theorem nameB_no (s : ByteArray) (p : Nat) (hp : p < s.size) (h : nmAll s p = nmAll s 0) (hr : nmR p (gb s p) = false) : nameB s = false := by
  unfold nameB
  rw [← h, nmAll_step s p hp, hr]
  rfl
theorem nameB_end (s : ByteArray) (p : Nat) (hp : ¬ p < s.size) (h : nmAll s p = nmAll s 0) : nameB s = (decide (1 ≤ s.size) && decide (s.size ≤ 16)) := by
  unfold nameB
  rw [← h, nmAll_end s p hp, Bool.true_and]
theorem toList_size (s : ByteArray) : s.toList.length = s.size := by
  rw [Lib.toList_data, Array.length_toList]; rfl
theorem toList_ne (s : ByteArray) (h : s.size ≠ 0) : s.toList ≠ [] := fun e => h (by rw [← toList_size, e]; rfl)
theorem toList_nil (s : ByteArray) (h : s.size = 0) : s.toList = [] := List.eq_nil_of_length_eq_zero (by rw [toList_size]; exact h)

set_option maxHeartbeats 4000000 in
set_option maxRecDepth 100000 in
theorem name_calls (s : ByteArray) (hs : s.size ≤ 9223372036854775807) (w : World) :
    Calls Tryd.prog 16 #[.string s] w fun e w' => e = .returned (.bool (nameB s)) ∧ Below w.heap.size w w' := by
  go_enter Tryd.func16, Tryd.ntmps16
  go_wp2
  go_loopw [7] (fun v7 wr => ∃ pos : Nat, wr.heap[w.heap.size]? = some (.stringIter s pos) ∧ Aside0 (nmAll s pos = nmAll s 0) ∧ Below w.heap.size w wr) (fun _ wr => s.size - wr.iterPos w.heap.size)
  case atStart => exact ⟨0, World.iter_heap w s 0, ⟨rfl⟩, (Below.refl _ _).alloc (Nat.le_refl _) _⟩
  case round =>
    obtain ⟨pos, hit, hv, hb⟩ := hrel
    have hpos := iterPos_of hit
    by_cases hp : pos < s.size
    · have hnx : ∀ ty, (Instr.next (.pointer (some ⟨w.heap.size, 0, none⟩)) true ty).run Tryd.prog wr = _ := fun ty => Lib.run_next_any_at wr w.heap.size s pos ty hit hp
      have hw := dec_w s pos hp
      have hit2 := Lib.iterAt_heap wr w.heap.size s pos (pos + (Utf8.decode s pos).2) hit
      have hb2 := Lib.below_iterAt hb (Nat.le_refl _) s (pos + (Utf8.decode s pos).2)
      have hnd := nm_dec s pos pos
      have hno := fun h => nameB_no s pos hp hv.out h
      have hyes : nmR pos (Utf8.decode s pos).1 = true → nmAll s (pos + (Utf8.decode s pos).2) = nmAll s 0 := fun h => by
        rw [nm_one s pos pos h, ← hv.out, nmAll_step s pos hp, ← hnd, h, Bool.true_and]
      rw [← hnd] at hno
      clear hnd
      have NO := Aside0.mk hno
      have YES := Aside0.mk hyes
      have HP := Aside0.mk hpos
      have HI := Aside0.mk hit2
      have HW := Aside0.mk hw
      clear hno hyes hpos hit hit2 hv hw
      generalize (Utf8.decode s pos).1 = r at *
      generalize (Utf8.decode s pos).2 = n at *
      have hstep : ∀ (u : Value) (W : World), Below (wr.iterAt w.heap.size s (pos + n)).heap.size (wr.iterAt w.heap.size s (pos + n)) W → W.heap[w.heap.size]? = some (.stringIter s (pos + n)) := fun _ W h => (h.block _ (by have := HI.out; exact (Array.getElem?_eq_some_iff.1 this).1)).trans HI.out
      have HSTEP := Aside0.mk hstep
      clear hstep
      cases hsm : smallR r with
      | true =>
        have hz := YES.out (by unfold nmR; rw [hsm]; rfl)
        have HZ := Aside0.mk hz
        have HS := Aside0.mk hsm
        clear hz hsm
        go_wp2_with (go_at_call 28; refine (small_as true r HS.out _).mono ?_; rintro e w1 ⟨rfl, hb3⟩)
        have hI3 := HSTEP.out undef w1 hb3
        go_roundw
        case rel => exact ⟨_, hI3, HZ, hb2.trans (hb3.mono hb2.size)⟩
        case measure =>
          have := HW.out
          rw [iterPos_of hI3, HP.out]
          omega
      | false =>
        have HS := Aside0.mk hsm
        by_cases h0 : 0 < pos
        · have t0 : decide ((pos : Int) > 0) = true := decide_eq_true (by omega)
          by_cases h1 : 48 ≤ r
          · have t1 : decide ((r : Int) ≥ 48) = true := decide_eq_true (by omega)
            by_cases h2 : r ≤ 57
            · have t2 : decide ((r : Int) ≤ 57) = true := decide_eq_true (by omega)
              have hz := YES.out (by unfold nmR; rw [hsm, decide_eq_true h0, decide_eq_true h1, decide_eq_true h2]; rfl)
              have HZ := Aside0.mk hz
              clear hz hsm h1 h2
              go_wp2_with (go_at_call 28; refine (small_as false r HS.out _).mono ?_; rintro e w1 ⟨rfl, hb3⟩)
              have hI3 := HSTEP.out undef w1 hb3
              go_roundw
              case rel => exact ⟨_, hI3, HZ, hb2.trans (hb3.mono hb2.size)⟩
              case measure =>
                have := HW.out
                rw [iterPos_of hI3, HP.out]
                omega
            · have t2 : decide ((r : Int) ≤ 57) = false := decide_eq_false (by omega)
              by_cases h3 : r = 95
              · have t3 : ((r : Int) == 95) = true := beq_iff_eq.2 (by omega)
                have hz := YES.out (by unfold nmR; rw [hsm, decide_eq_true h0, beq_iff_eq.2 h3]; simp)
                have HZ := Aside0.mk hz
                clear hz hsm h1 h2 h3
                go_wp2_with (go_at_call 28; refine (small_as false r HS.out _).mono ?_; rintro e w1 ⟨rfl, hb3⟩)
                have hI3 := HSTEP.out undef w1 hb3
                go_roundw
                case rel => exact ⟨_, hI3, HZ, hb2.trans (hb3.mono hb2.size)⟩
                case measure =>
                  have := HW.out
                  rw [iterPos_of hI3, HP.out]
                  omega
              · have t3 : ((r : Int) == 95) = false := beq_eq_false_iff_ne.2 (by omega)
                have hz := NO.out (by unfold nmR; rw [hsm, decide_eq_false h2, beq_eq_false_iff_ne.2 h3]; simp)
                have HZ := Aside0.mk hz
                clear hz hsm h1 h2 h3
                go_wp2_with (go_at_call 28; refine (small_as false r HS.out _).mono ?_; rintro e w1 ⟨rfl, hb3⟩)
                go_ret
                exact ⟨ret_bool HZ.out.symm, hb2.trans (hb3.mono hb2.size)⟩
          · have t1 : decide ((r : Int) ≥ 48) = false := decide_eq_false (by omega)
            have t3 : ((r : Int) == 95) = false := beq_eq_false_iff_ne.2 (by omega)
            have hz := NO.out (by unfold nmR; rw [hsm, decide_eq_false h1, beq_eq_false_iff_ne.2 (show r ≠ 95 by omega)]; simp)
            have HZ := Aside0.mk hz
            clear hz hsm h1
            go_wp2_with (go_at_call 28; refine (small_as false r HS.out _).mono ?_; rintro e w1 ⟨rfl, hb3⟩)
            go_ret
            exact ⟨ret_bool HZ.out.symm, hb2.trans (hb3.mono hb2.size)⟩
        · have t0 : decide ((pos : Int) > 0) = false := decide_eq_false (by omega)
          have hz := NO.out (by unfold nmR; rw [hsm, decide_eq_false h0]; rfl)
          have HZ := Aside0.mk hz
          clear hz hsm
          go_wp2_with (go_at_call 28; refine (small_as false r HS.out _).mono ?_; rintro e w1 ⟨rfl, hb3⟩)
          go_ret
          exact ⟨ret_bool HZ.out.symm, hb2.trans (hb3.mono hb2.size)⟩
    · have hnx : ∀ ty, (Instr.next (.pointer (some ⟨w.heap.size, 0, none⟩)) true ty).run Tryd.prog wr = _ := fun ty => Lib.run_next_end_at wr w.heap.size s pos ty hit hp
      have hz := nameB_end s pos hp hv.out
      have HZ := Aside0.mk hz
      clear hz hv hit hpos hp
      by_cases h0 : s.size = 0
      · have t0 := toList_nil s h0
        go_wp2
        go_ret
        exact ⟨ret_bool (by rw [HZ.out, h0]; rfl), hb⟩
      · have t0 := toList_ne s h0
        have t2 : s.toList.isEmpty = false := by
          cases hl : s.toList with
          | nil => exact absurd hl t0
          | cons _ _ => rfl
        have t1 : decide ((s.size : Int) ≤ 16) = decide (s.size ≤ 16) := by rw [decide_eq_decide]; omega
        have T1 := Aside0.mk t1
        clear t1
        go_wp2
        go_ret
        exact ⟨ret_bool (by rw [HZ.out, decide_eq_true (show 1 ≤ s.size by omega), Bool.true_and, ← T1.out]), hb⟩

theorem count_good (s : ByteArray) (hs : s.size ≤ 9223372036854775807) (hv : validB s = true) (w : World) (hT : Tabs w) :
    Calls Tryd.prog 10 #[.string s] w fun e w' => e = .returned (.tuple #[.int .i64 (cnt s : Int), .int .i64 0]) ∧ Below w.heap.size w w' := by
  have := count_calls s hs w hT
  rwa [hv, if_pos rfl, if_pos rfl] at this
theorem count_bad (s : ByteArray) (hs : s.size ≤ 9223372036854775807) (hv : validB s = false) (w : World) (hT : Tabs w) :
    Calls Tryd.prog 10 #[.string s] w fun e w' => e = .returned (.tuple #[.int .i64 0, .int .i64 4]) ∧ Below w.heap.size w w' := by
  have := count_calls s hs w hT
  rwa [hv, if_neg (by decide), if_neg (by decide)] at this
theorem idB_no (s : ByteArray) (p : Nat) (hp : p < s.size) (h : plainT s p = plainT s 0) (hr : plainR (Utf8.decode s p).1 = false) : idB s = false := by
  unfold idB
  rw [← h, plainT_step s p hp, hr, Bool.false_and, Bool.and_false]
theorem idB_end (s : ByteArray) (p : Nat) (hp : ¬ p < s.size) (h : plainT s p = plainT s 0) (hv : validB s = true) (h1 : 1 ≤ cnt s) (h2 : cnt s ≤ 24) : idB s = true := by
  unfold idB
  rw [← h, plainT_end s p hp, hv, decide_eq_true h1, decide_eq_true h2]
  rfl

set_option maxHeartbeats 4000000 in
set_option maxRecDepth 100000 in
theorem id_calls (s : ByteArray) (hs : s.size ≤ 9223372036854775807) (w : World) (hT : Tabs w) :
    Calls Tryd.prog 18 #[.string s] w fun e w' => e = .returned (.bool (idB s)) ∧ Below w.heap.size w w' := by
  have HT := Aside0.mk hT
  clear hT
  cases hv : validB s with
  | false =>
    have hz : idB s = false := by unfold idB; rw [hv]; rfl
    have HC := Aside0.mk (count_bad s hs hv w HT.out)
    rw [hz]
    clear hz hv
    go_enter Tryd.func18, Tryd.ntmps18
    go_wp2_with (go_at_call 10; refine HC.out.mono ?_; rintro e w1 ⟨rfl, hb⟩)
    go_ret
    exact ⟨rfl, hb⟩
  | true =>
    have HC := Aside0.mk (count_good s hs hv w HT.out)
    have HV := Aside0.mk hv
    have hid : idB s = ((decide (1 ≤ cnt s) && decide (cnt s ≤ 24)) && plainT s 0) := by unfold idB; rw [hv, Bool.true_and]
    have hcl := cnt_le s
    clear hv
    by_cases h1 : 1 ≤ cnt s
    · have t1 : decide ((cnt s : Int) < 1) = false := decide_eq_false (by omega)
      by_cases h2 : cnt s ≤ 24
      · have t2 : decide ((cnt s : Int) > 24) = false := decide_eq_false (by omega)
        clear hid
        have END := fun p hp h => Aside0.mk (idB_end s p hp h HV.out h1 h2)
        have END' := Aside0.mk END
        clear END
        obtain ⟨c, hc⟩ : ∃ c, c = cnt s := ⟨_, rfl⟩
        rw [← hc] at t1 t2 h1 h2 hcl HC
        clear hc
        go_enter Tryd.func18, Tryd.ntmps18
        go_wp2_with (go_at_call 10; refine HC.out.mono ?_; rintro e w1 ⟨rfl, hb0⟩)
        go_loopw [24] (fun v24 wr => ∃ pos : Nat, wr.heap[w1.heap.size]? = some (.stringIter s pos) ∧ Aside0 (plainT s pos = plainT s 0) ∧ Below w1.heap.size w1 wr) (fun _ wr => s.size - wr.iterPos w1.heap.size)
        case atStart => exact ⟨0, World.iter_heap w1 s 0, ⟨rfl⟩, (Below.refl _ _).alloc (Nat.le_refl _) _⟩
        case round =>
          obtain ⟨pos, hit, hv, hb⟩ := hrel
          have hpos := iterPos_of hit
          by_cases hp : pos < s.size
          · have hnx : ∀ ty, (Instr.next (.pointer (some ⟨w1.heap.size, 0, none⟩)) true ty).run Tryd.prog wr = _ := fun ty => Lib.run_next_any_at wr w1.heap.size s pos ty hit hp
            have hw := dec_w s pos hp
            have hst := plainT_step s pos hp
            have hno := idB_no s pos hp hv.out
            have hit2 := Lib.iterAt_heap wr w1.heap.size s pos (pos + (Utf8.decode s pos).2) hit
            have hb2 := Lib.below_iterAt hb (Nat.le_refl _) s (pos + (Utf8.decode s pos).2)
            cases hpl : plainR (Utf8.decode s pos).1 with
            | true =>
              rw [hpl, Bool.true_and] at hst
              have HZ := Aside0.mk (hst.symm.trans hv.out)
              have HPL := Aside0.mk hpl
              have HP := Aside0.mk hpos
              have HI := Aside0.mk hit2
              have HW := Aside0.mk hw
              clear hst hpl hv hit hpos hit2 hno hw
              go_wp2_with (go_at_call 29; refine (plain_as true _ HPL.out _).mono ?_; rintro e w2 ⟨rfl, hb3⟩)
              have hI3 := (hb3.block _ (by have := HI.out; exact (Array.getElem?_eq_some_iff.1 this).1)).trans HI.out
              go_roundw
              case rel => exact ⟨_, hI3, HZ, hb2.trans (hb3.mono hb2.size)⟩
              case measure =>
                have := HW.out
                rw [iterPos_of hI3, HP.out]
                omega
            | false =>
              have HZ := Aside0.mk (hno hpl)
              have HPL := Aside0.mk hpl
              clear hst hpl hv hit hpos hit2 hno hw
              go_wp2_with (go_at_call 29; refine (plain_as false _ HPL.out _).mono ?_; rintro e w2 ⟨rfl, hb3⟩)
              go_ret
              exact ⟨ret_bool HZ.out.symm, hb0.trans ((hb2.trans (hb3.mono hb2.size)).mono hb0.size)⟩
          · have hnx : ∀ ty, (Instr.next (.pointer (some ⟨w1.heap.size, 0, none⟩)) true ty).run Tryd.prog wr = _ := fun ty => Lib.run_next_end_at wr w1.heap.size s pos ty hit hp
            have HZ := END'.out pos hp hv.out
            clear hv hit hpos hp
            go_wp2
            go_ret
            exact ⟨ret_bool HZ.out.symm, hb0.trans (hb.mono hb0.size)⟩
      · have t2 : decide ((cnt s : Int) > 24) = true := decide_eq_true (by omega)
        rw [decide_eq_false h2, Bool.and_false, Bool.false_and] at hid
        rw [hid]
        clear hid
        go_enter Tryd.func18, Tryd.ntmps18
        go_wp2_with (go_at_call 10; refine HC.out.mono ?_; rintro e w1 ⟨rfl, hb⟩)
        go_ret
        exact ⟨rfl, hb⟩
    · have t1 : decide ((cnt s : Int) < 1) = true := decide_eq_true (by omega)
      rw [decide_eq_false h1, Bool.false_and, Bool.false_and] at hid
      rw [hid]
      clear hid
      obtain ⟨c, hc⟩ : ∃ c, c = cnt s := ⟨_, rfl⟩
      rw [← hc] at t1 h1 hcl HC
      clear hc
      go_enter Tryd.func18, Tryd.ntmps18
      go_wp2_with (go_at_call 10; refine HC.out.mono ?_; rintro e w1 ⟨rfl, hb⟩)
      go_ret
      exact ⟨rfl, hb⟩
end Go.Proofs.YtapdahfcfkbomaaDoor.Gly
