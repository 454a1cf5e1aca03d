/- The program's layer glyph: broken, Valid, Count, Name, Id. -/
import Derived.Test.YtmilpfccgggmkaaDoorUtf
import Derived.Test.YtmilpfccgggmkaaDoorShelf
import Derived.WalkKit
import Derived.Below
import Derived.Deep.QuietTactic
import Derived.BigQuiet
import Derived.Lib.OthersKept
import Derived.WalkSmall
namespace Go.Proofs.YtmilpfccgggmkaaDoor.Gly
open Go.RowKit Go.Proofs.YtmilpfccgggmkaaDoorW.PrintWords Go.Proofs.YtmilpfccgggmkaaDoor.Utf
set_option linter.unusedVariables false
set_option linter.unusedSimpArgs false

abbrev Tabs (w : World) : Prop := Lib.Utf8Tabs 3 4 w
theorem Tabs.below {w w' : World} (h : Tabs w) (hb : Below w.heap.size w w') : Tabs w' := Utf8Tabs_below h hb

theorem ret_bool {a b : Bool} (h : a = b) : Ending.returned (.bool a) = .returned (.bool b) := by rw [h]
theorem ret_int {k : IntKind} {a b : Int} (h : a = b) : Ending.returned (.int k a) = .returned (.int k b) := by rw [h]
theorem dru_calls (s : ByteArray) (p : Nat) (hp : p < s.size) (w : World) (hT : Tabs w) :
    Calls Tryd.prog 72 #[.string (s.extract p s.size)] w fun e w' => e = .returned (.tuple #[.int .i32 (Utf8.decode s p).1, .int .i64 (Utf8.decode s p).2]) ∧ Below w.heap.size w w' := by
  have h := Tryd.utf8_DecodeRuneInString (s.extract p s.size) w hT
  have e : Lib.decodeGo (s.extract p s.size) = Utf8.decode s p := by
    unfold Lib.decodeGo
    rw [if_neg (by rw [ByteArray.size_extract]; omega), dec_extract s p (by omega)]
  rwa [e] at h

set_option maxHeartbeats 1000000 in
theorem broken_calls (s : ByteArray) (p : Nat) (hp : p < s.size) (hs : s.size ≤ 9223372036854775807) (r : Int) (hr : r = ((Utf8.decode s p).1 : Int)) (w : World) (hT : Tabs w) :
    Calls Tryd.prog 71 #[.string s, .int .i64 (p : Int), .int .i32 r] w fun e w' => e = .returned (.bool (brokenB s p)) ∧ Below w.heap.size w w' := by
  have HT := Aside0.mk hT
  clear hT
  by_cases h : r = 65533
  · have hd := broken_yes s p (by omega)
    have hc := dru_calls s p hp w HT.out
    generalize (Utf8.decode s p).2 = n at *
    generalize (Utf8.decode s p).1 = q at *
    rw [hd]
    clear hd hr
    subst h
    have t0 : (0 : Int) ≤ (p : Int) := by omega
    have t1 : (p : Int) ≤ (s.size : Int) := by omega
    have HC := Aside0.mk hc
    clear hc
    go_enter Tryd.func71, Tryd.ntmps71
    go_wp2_with (go_at_call 72; refine HC.out.mono ?_; rintro e w1 ⟨rfl, hb⟩)
    go_ret
    exact ⟨ret_bool (by rw [Bool.eq_iff_iff]; simp; try omega), hb⟩
  · have hd := broken_no s p (by omega)
    rw [hd]
    clear hd hr
    have t0 : (r != 65533) = true := bne_iff_ne.2 h
    go_enter Tryd.func71, Tryd.ntmps71
    go_wp2
    go_ret
    exact ⟨rfl, Below.refl _ _⟩
theorem broken_as (b : Bool) (s : ByteArray) (p : Nat) (hp : p < s.size) (hs : s.size ≤ 9223372036854775807) (hb : brokenB s p = b) (r : Int) (hr : r = ((Utf8.decode s p).1 : Int)) (w : World) (hT : Tabs w) :
    Calls Tryd.prog 71 #[.string s, .int .i64 (p : Int), .int .i32 r] w fun e w' => e = .returned (.bool b) ∧ Below w.heap.size w w' := by
  subst hb
  exact broken_calls s p hp hs r hr w hT

set_option maxHeartbeats 1000000 in
set_option maxRecDepth 100000 in
theorem valid_calls (s : ByteArray) (hs : s.size ≤ 9223372036854775807) (w : World) (hT : Tabs w) :
    Calls Tryd.prog 68 #[.string s] w fun e w' => e = .returned (.bool (validB s)) ∧ Below w.heap.size w w' := by
  have HT := Aside0.mk hT
  clear hT
  go_enter Tryd.func68, Tryd.ntmps68
  go_wp2
  go_loopw [7] (fun v7 wr => ∃ pos : Nat, wr.heap[w.heap.size]? = some (.stringIter s pos) ∧ Aside0 (validT s pos = validB s) ∧ Below w.heap.size w wr) (fun _ wr => s.size - wr.iterPos w.heap.size)
  case atStart => exact ⟨0, World.iter_heap w s 0, ⟨rfl⟩, (Below.refl _ _).alloc (Nat.le_refl _) _⟩
  case round =>
    obtain ⟨pos, hit, hv, hb⟩ := hrel
    have hpos := iterPos_of hit
    by_cases hp : pos < s.size
    · have hnx : ∀ ty, (Instr.next (.pointer (some ⟨w.heap.size, 0, none⟩)) true ty).run Tryd.prog wr = _ := fun ty => Lib.run_next_any_at wr w.heap.size s pos ty hit hp
      have hw := dec_w s pos hp
      have hst := validT_step s pos hp
      have hit2 := Lib.iterAt_heap wr w.heap.size s pos (pos + (Utf8.decode s pos).2) hit
      have hb2 := Lib.below_iterAt hb (Nat.le_refl _) s (pos + (Utf8.decode s pos).2)
      cases hbk : brokenB s pos with
      | true =>
        rw [hbk] at hst
        have hz : validB s = false := by rw [← hv.out, hst]; rfl
        have HB := Aside0.mk hbk
        have HZ := Aside0.mk hz
        clear hbk hst hz hv hit hpos
        go_wp2_with (go_at_call 71; refine (broken_as true s pos hp hs HB.out _ rfl _ (HT.out.below hb2)).mono ?_; rintro e w1 ⟨rfl, hb3⟩)
        go_ret
        exact ⟨ret_bool HZ.out.symm, hb2.trans (hb3.mono hb2.size)⟩
      | false =>
        rw [hbk] at hst
        have hz : validT s (pos + (Utf8.decode s pos).2) = validB s := by rw [← hv.out, hst]; rfl
        have HB := Aside0.mk hbk
        have HZ := Aside0.mk hz
        have HP := Aside0.mk hpos
        have HI := Aside0.mk hit2
        clear hbk hst hz hv hit hpos hit2
        go_wp2_with (go_at_call 71; refine (broken_as false s pos hp hs HB.out _ rfl _ (HT.out.below hb2)).mono ?_; rintro e w1 ⟨rfl, hb3⟩)
        have hI3 := (hb3.block _ (by have := HI.out; exact (Array.getElem?_eq_some_iff.1 this).1)).trans HI.out
        go_roundw
        case rel => exact ⟨_, hI3, HZ, hb2.trans (hb3.mono hb2.size)⟩
        case measure =>
          rw [iterPos_of hI3, HP.out]
          omega
    · have hnx : ∀ ty, (Instr.next (.pointer (some ⟨w.heap.size, 0, none⟩)) true ty).run Tryd.prog wr = _ := fun ty => Lib.run_next_end_at wr w.heap.size s pos ty hit hp
      have hz : validB s = true := by rw [← hv.out, validT_end s pos hp]
      have HZ := Aside0.mk hz
      clear hz hv hit hpos
      go_wp2
      go_ret
      exact ⟨ret_bool HZ.out.symm, hb⟩

theorem cntT_pos (s : ByteArray) (p : Nat) : p + cntT s p ≤ max p s.size := cntT_le s p
set_option maxHeartbeats 1000000 in
set_option maxRecDepth 100000 in
theorem count_calls (s : ByteArray) (hs : s.size ≤ 9223372036854775807) (w : World) (hT : Tabs w) :
    Calls Tryd.prog 61 #[.string s] w fun e w' => e = .returned (.tuple #[.int .i64 (if validB s = true then (cnt s : Int) else 0), .int .i64 (if validB s = true then 0 else 4)]) ∧ Below w.heap.size w w' := by
  have HT := Aside0.mk hT
  clear hT
  have hc := valid_calls s hs w HT.out
  cases hv : validB s with
  | false =>
    rw [hv] at hc
    rw [if_neg (by decide), if_neg (by decide)]
    have HC := Aside0.mk hc
    clear hc hv
    go_enter Tryd.func61, Tryd.ntmps61
    go_wp2_with (go_at_call 68; refine HC.out.mono ?_; rintro e w1 ⟨rfl, hb⟩)
    go_ret2
    exact ⟨rfl, hb⟩
  | true =>
    rw [hv] at hc
    rw [if_pos rfl, if_pos rfl]
    have HC := Aside0.mk hc
    clear hc hv
    go_enter Tryd.func61, Tryd.ntmps61
    go_wp2_with (go_at_call 68; refine HC.out.mono ?_; rintro e w1 ⟨rfl, hb0⟩)
    go_loopw [4] (fun v4 wr => ∃ (pos c : Nat), v4 = .int .i64 (c : Int) ∧ wr.heap[w1.heap.size]? = some (.stringIter s pos) ∧ Aside0 (c + cntT s pos = cnt s) ∧ Below w1.heap.size w1 wr) (fun _ wr => s.size - wr.iterPos w1.heap.size)
    case atStart => exact ⟨0, 0, rfl, World.iter_heap w1 s 0, ⟨by rw [Nat.zero_add]; rfl⟩, (Below.refl _ _).alloc (Nat.le_refl _) _⟩
    case round =>
      obtain ⟨pos, c, rfl, hit, hv, hb⟩ := hrel
      have hpos := iterPos_of hit
      by_cases hp : pos < s.size
      · have hnx : ∀ ty, (Instr.next (.pointer (some ⟨w1.heap.size, 0, none⟩)) true ty).run Tryd.prog wr = _ := fun ty => Lib.run_next_any_at wr w1.heap.size s pos ty hit hp
        have hw := dec_w s pos hp
        have hst := cntT_step s pos hp
        have hit2 := Lib.iterAt_heap wr w1.heap.size s pos (pos + (Utf8.decode s pos).2) hit
        have hb2 := Lib.below_iterAt hb (Nat.le_refl _) s (pos + (Utf8.decode s pos).2)
        have hle := cnt_le s
        have hz : c + 1 + cntT s (pos + (Utf8.decode s pos).2) = cnt s := by have := hv.out; omega
        have hcle : (c : Int) + 1 ≤ 9223372036854775807 := by omega
        have HZ := Aside0.mk hz
        have HP := Aside0.mk hpos
        have HI := Aside0.mk hit2
        clear hst hz hv hit hpos hit2
        go_wp2
        go_roundw
        case rel => exact ⟨_, c + 1, by go_num, HI.out, HZ, hb2⟩
        case measure =>
          rw [iterPos_of HI.out, HP.out]
          omega
      · have hnx : ∀ ty, (Instr.next (.pointer (some ⟨w1.heap.size, 0, none⟩)) true ty).run Tryd.prog wr = _ := fun ty => Lib.run_next_end_at wr w1.heap.size s pos ty hit hp
        have hz : c = cnt s := by have := hv.out; rw [cntT_end s pos hp] at this; omega
        have HZ := Aside0.mk hz
        clear hz hv hit hpos
        go_wp2
        go_ret2
        exact ⟨by rw [← HZ.out]; rfl, hb0.trans (hb.mono hb0.size)⟩

theorem small_calls (r : Nat) (w : World) :
    Calls Tryd.prog 55 #[.int .i32 (r : Int)] w fun e w' => e = .returned (.bool (smallR r)) ∧ Below w.heap.size w w' := by
  have hs : smallR r = (decide ((r : Int) ≥ 97) && decide ((r : Int) ≤ 122)) := by
    unfold smallR
    congr 1 <;> (rw [decide_eq_decide]; omega)
  rw [hs]
  by_cases h1 : (97 : Int) ≤ (r : Int)
  · have t1 : decide ((r : Int) ≥ 97) = true := decide_eq_true h1
    have H := Aside0.mk t1
    go_enter Tryd.func55, Tryd.ntmps55
    go_wp2
    go_ret
    exact ⟨ret_bool (by first | rfl | (rw [H.out, Bool.true_and]; done) | simp [H.out]), Below.refl _ _⟩
  · have t1 : decide ((r : Int) ≥ 97) = false := decide_eq_false h1
    have H := Aside0.mk t1
    go_enter Tryd.func55, Tryd.ntmps55
    go_wp2
    go_ret
    exact ⟨ret_bool (by first | rfl | (rw [H.out, Bool.false_and]; done) | simp [H.out]), Below.refl _ _⟩
theorem small_as (b : Bool) (r : Nat) (hb : smallR r = b) (w : World) :
    Calls Tryd.prog 55 #[.int .i32 (r : Int)] w fun e w' => e = .returned (.bool b) ∧ Below w.heap.size w w' := by
  subst hb
  exact small_calls r w

set_option maxHeartbeats 2000000 in
theorem plain_calls (r : Nat) (w : World) :
    Calls Tryd.prog 62 #[.int .i32 (r : Int)] w fun e w' => e = .returned (.bool (plainR r)) ∧ Below w.heap.size w w' := by
  have h : r = 35 ∨ r = 64 ∨ r = 58 ∨ r = 42 ∨ r = 44 ∨ r = 40 ∨ r = 41 ∨ r = 34 ∨ r = 92 ∨ r = 59 ∨ (r ≠ 35 ∧ r ≠ 64 ∧ r ≠ 58 ∧ r ≠ 42 ∧ r ≠ 44 ∧ r ≠ 40 ∧ r ≠ 41 ∧ r ≠ 34 ∧ r ≠ 92 ∧ r ≠ 59) := by omega
  rcases h with rfl | rfl | rfl | rfl | rfl | rfl | rfl | rfl | rfl | rfl | ⟨h0, h1, h2, h3, h4, h5, h6, h7, h8, h9⟩
  iterate 10
    · go_enter Tryd.func62, Tryd.ntmps62
      go_wp2
      go_ret
      exact ⟨rfl, Below.refl _ _⟩
  have hp : plainR r = (decide (32 < r) && (decide (r < 127) || decide (160 < r))) := by
    unfold plainR
    rw [beq_eq_false_iff_ne.2 h0, beq_eq_false_iff_ne.2 h1, beq_eq_false_iff_ne.2 h2, beq_eq_false_iff_ne.2 h3, beq_eq_false_iff_ne.2 h4, beq_eq_false_iff_ne.2 h5, beq_eq_false_iff_ne.2 h6, beq_eq_false_iff_ne.2 h7, beq_eq_false_iff_ne.2 h8, beq_eq_false_iff_ne.2 h9]
    rfl
  have t0 : ((r : Int) == 35) = false := beq_eq_false_iff_ne.2 (by omega)
  have t1 : ((r : Int) == 64) = false := beq_eq_false_iff_ne.2 (by omega)
  have t2 : ((r : Int) == 58) = false := beq_eq_false_iff_ne.2 (by omega)
  have t3 : ((r : Int) == 42) = false := beq_eq_false_iff_ne.2 (by omega)
  have t4 : ((r : Int) == 44) = false := beq_eq_false_iff_ne.2 (by omega)
  have t5 : ((r : Int) == 40) = false := beq_eq_false_iff_ne.2 (by omega)
  have t6 : ((r : Int) == 41) = false := beq_eq_false_iff_ne.2 (by omega)
  have t7 : ((r : Int) == 34) = false := beq_eq_false_iff_ne.2 (by omega)
  have t8 : ((r : Int) == 92) = false := beq_eq_false_iff_ne.2 (by omega)
  have t9 : ((r : Int) == 59) = false := beq_eq_false_iff_ne.2 (by omega)
  clear h0 h1 h2 h3 h4 h5 h6 h7 h8 h9
  by_cases a1 : 32 < r
  · have b1 : decide ((r : Int) > 32) = true := decide_eq_true (by omega)
    rw [decide_eq_true a1, Bool.true_and] at hp
    by_cases a2 : r < 127
    · have b2 : decide ((r : Int) < 127) = true := decide_eq_true (by omega)
      rw [decide_eq_true a2, Bool.true_or] at hp
      rw [hp]
      clear hp
      go_enter Tryd.func62, Tryd.ntmps62
      go_wp2
      go_ret
      exact ⟨rfl, Below.refl _ _⟩
    · have b2 : decide ((r : Int) < 127) = false := decide_eq_false (by omega)
      rw [decide_eq_false a2, Bool.false_or] at hp
      have b3 : decide ((r : Int) > 160) = decide (160 < r) := by rw [decide_eq_decide]; omega
      rw [hp]
      clear hp
      go_enter Tryd.func62, Tryd.ntmps62
      go_wp2
      go_ret
      exact ⟨ret_bool (by first | rfl | (rw [decide_eq_decide]; omega)), Below.refl _ _⟩
  · have b1 : decide ((r : Int) > 32) = false := decide_eq_false (by omega)
    rw [decide_eq_false a1, Bool.false_and] at hp
    rw [hp]
    clear hp
    go_enter Tryd.func62, Tryd.ntmps62
    go_wp2
    go_ret
    exact ⟨rfl, Below.refl _ _⟩
theorem plain_as (b : Bool) (r : Nat) (hb : plainR r = b) (w : World) :
    Calls Tryd.prog 62 #[.int .i32 (r : Int)] w fun e w' => e = .returned (.bool b) ∧ Below w.heap.size w w' := by
  subst hb
  exact plain_calls r w
end Go.Proofs.YtmilpfccgggmkaaDoor.Gly
