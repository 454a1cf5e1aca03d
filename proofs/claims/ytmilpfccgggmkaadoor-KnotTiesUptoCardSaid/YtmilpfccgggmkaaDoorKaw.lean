/- Untying: End; the fixed fact of chapter 4's laws. -/
import Derived.Test.YtmilpfccgggmkaaDoorKin
import Derived.Lib.SmallJoins
namespace Go.Proofs.YtmilpfccgggmkaaDoor.Knt
open Go.RowKit Go.Proofs.YtmilpfccgggmkaaDoorW.PrintWords Go.Proofs.YtmilpfccgggmkaaDoor.Arr Go.Proofs.YtmilpfccgggmkaaDoor.Utf Go.Proofs.YtmilpfccgggmkaaDoor.Gly
set_option linter.unusedVariables false
set_option linter.unusedSimpArgs false

theorem str_ne {l : List UInt8} (h : l ≠ []) : (str l).toList ≠ [] := fun e => h (by rw [Lib.toList_data] at e; simpa [str] using e)
theorem str_emp {l : List UInt8} (h : l ≠ []) : (str l).toList.isEmpty = false := by
  cases e : (str l).toList with
  | nil => exact absurd e (str_ne h)
  | cons _ _ => rfl
def endV (l : List UInt8) (f : Bool) : Int := if f = true ∨ l ≠ [] then 2 else 0
theorem end_calls (g : Nat) (l : List UInt8) (f : Bool) (w : World) (h : IBlk w g l f) :
    Calls Tryd.prog 31 #[.pointer (some ⟨g, 0, none⟩)] w fun e w' => e = .returned (.int .i64 (endV l f)) ∧ w' = w := by
  have c0 := h.cell 0
  have c1 := h.cell 1
  have hlt := h.lt
  clear h
  cases f with
  | true =>
    have hz : endV l true = 2 := by unfold endV; rw [if_pos (.inl rfl)]
    rw [hz]
    clear hz
    go_enter Tryd.func31, Tryd.ntmps31
    go_wp2
    go_ret
    exact ⟨rfl, rfl⟩
  | false =>
    by_cases hl : l = []
    · subst hl
      have hz : endV [] false = 0 := rfl
      rw [hz]
      rw [str_nil] at c0
      clear hz
      go_enter Tryd.func31, Tryd.ntmps31
      go_wp2
      go_ret
      exact ⟨rfl, rfl⟩
    · have hz : endV l false = 2 := by unfold endV; rw [if_pos (.inr hl)]
      rw [hz]
      have t1 := str_ne hl
      have t2 := str_emp hl
      clear hz hl
      go_enter Tryd.func31, Tryd.ntmps31
      go_wp2
      go_ret
      exact ⟨rfl, rfl⟩
theorem num_012 : numP 99 [48, 49, 50, 59] = none := by decide
theorem knot_12 : [] ++ numT 12 ++ textT ⟨#[97, 98]⟩ ++ markT true = [49, 50, 59, 50, 59, 97, 98, 44, 43] := by decide +kernel
set_option maxHeartbeats 8000000 in
set_option maxRecDepth 100000 in
theorem awake_calls (w : World) (hP : Pow w) :
    Calls Tryd.prog 8 #[] w fun e w' => e = .returned (.bool true) ∧ Below w.heap.size w w' := by
  have PB := Aside0.mk (Lib.tabBelow_of_tabIs hP : PowB w.heap.size w)
  clear hP
  obtain ⟨W0, hW0⟩ : ∃ W0, w.alloc (.cells #[.slice none 0 0] TK) = W0 := ⟨_, rfl⟩
  have hz0 : W0.heap.size = w.heap.size + 1 := by rw [← hW0]; simp
  have kc := Go.Joins.run_convert_bytes_const_at (P := Tryd.prog) W0 TB TU #[.int .u8 48, .int .u8 49, .int .u8 50, .int .u8 59] 4 4 (w.heap.size + 1) hz0.symm Tryd.underlying27 Tryd.underlying5
  obtain ⟨W, hW⟩ : ∃ W, W0.alloc (.cells #[.int .u8 48, .int .u8 49, .int .u8 50, .int .u8 59] TU (#[Value.int .u8 48, .int .u8 49, .int .u8 50, .int .u8 59].size, #[Value.int .u8 48, .int .u8 49, .int .u8 50, .int .u8 59].size + 1)) = W := ⟨_, rfl⟩
  have hz : W.heap.size = w.heap.size + 2 := by rw [← hW]; simp [hz0]
  rw [hW] at kc
  have b0 : Below W0.heap.size W0 W := by rw [← hW]; exact (Below.refl _ _).alloc (Nat.le_refl _) _
  have b1 : Below w.heap.size w W0 := by rw [← hW0]; exact (Below.refl w.heap.size w).alloc (Nat.le_refl _) _
  have k1 : KAt w.heap.size W0 w.heap.size [] [w.heap.size] := by rw [← hW0]; exact kat_new w.heap.size w (Nat.le_refl _)
  have rd : ReadsInt W .u8 (some ⟨w.heap.size + 1, 0, none⟩) 4 (([48, 49, 50, 59] : List UInt8).map fun b => (b.toNat : Int)) := by
    refine ⟨rfl, by omega, fun _ => ⟨_, rfl, fun j hj => ?_⟩⟩
    have hb : W.heap[w.heap.size + 1]? = some (.cells #[.int .u8 48, .int .u8 49, .int .u8 50, .int .u8 59] TU (4, 5)) := by rw [← hW, ← hz0]; exact heap_alloc_new W0 _
    rw [add_plain, cell_of_row W (w.heap.size + 1) j _ TU (4, 5) hb]
    match j, hj with
    | 0, _ => rfl
    | 1, _ => rfl
    | 2, _ => rfl
    | 3, _ => rfl
  have KO := Aside0.mk (open_calls (some ⟨w.heap.size + 1, 0, none⟩) 4 [48, 49, 50, 59] W rd)
  have K2 := Aside0.mk (k1.below b0)
  have B2 := Aside0.mk (b1.trans (b0.mono (by omega)))
  have HW0 := Aside0.mk hW0
  have KC := Aside0.mk kc
  clear rd b0 b1 k1 hW hW0 kc
  go_enter Tryd.func8, Tryd.ntmps8
  go_wp2_with fail
  refine (new_calls _).mono ?_
  rintro e w1 ⟨rfl, rfl⟩
  rw [HW0.out]
  have kc := KC.out
  go_wp2_with fail
  refine KO.out.mono ?_
  rintro e w2 ⟨rfl, rfl⟩
  clear kc KC KO
  rw [hz]
  have IB3 := Aside0.mk (Blk.newAt (w := W) (T := TI) (cs := #[.string (str [48, 49, 50, 59]), .bool false]) (g := w.heap.size + 2) hz.symm)
  have b3 : Below W.heap.size W (W.alloc (.cells #[.string (str [48, 49, 50, 59]), .bool false] TI)) := (Below.refl _ _).alloc (Nat.le_refl _) _
  have K3 := Aside0.mk (K2.out.below b3)
  have B3 := Aside0.mk (B2.out.trans (b3.mono (by omega)))
  have hz3 : (W.alloc (.cells #[.string (str [48, 49, 50, 59]), .bool false] TI)).heap.size = w.heap.size + 3 := by simp [hz]
  generalize W.alloc (.cells #[.string (str [48, 49, 50, 59]), .bool false] TI) = W3 at *
  clear b3 K2 B2 HW0 hz
  go_wp2_with fail
  refine (number_calls w.heap.size w.heap.size [] [w.heap.size] 12 (by omega) (by simp) W3 K3.out (PB.out.on B3.out)).mono ?_
  rintro e w4 ⟨rfl, hp4⟩
  obtain ⟨S4, k4, o4, -, t4⟩ := hp4.take [w.heap.size + 2] (fun i hi => by simp at hi; subst hi; refine ⟨by omega, by simp⟩)
  have K4 := Aside0.mk k4
  have T4 := Aside0.mk t4
  have I4 := Aside0.mk (IB3.out.only o4 (by simp))
  have B4 := Aside0.mk (B3.out.trans (K3.out.belowB o4))
  have hz4 := o4.size
  clear k4 t4 hp4 o4
  go_wp2_with fail
  refine (text_calls w.heap.size w.heap.size _ S4 ⟨#[97, 98]⟩ (by decide) (by decide +kernel) w4 K4.out (PB.out.on B4.out)).mono ?_
  rintro e w5 ⟨rfl, hp5⟩
  obtain ⟨S5, k5, o5, -, t5⟩ := hp5.take [w.heap.size + 2] T4.out
  have K5 := Aside0.mk k5
  have T5 := Aside0.mk t5
  have I5 := Aside0.mk (I4.out.only o5 ((T4.out _ (by simp)).2))
  have B5 := Aside0.mk (B4.out.trans (K4.out.belowB o5))
  clear k5 t5 hp5 o5
  go_wp2_with fail
  refine (mark_calls w.heap.size w.heap.size _ S5 true (by decide +kernel) w5 K5.out).mono ?_
  rintro e w6 ⟨rfl, hp6⟩
  obtain ⟨S6, k6, o6, -, t6⟩ := hp6.take [w.heap.size + 2] T5.out
  rw [knot_12] at k6
  have K6 := Aside0.mk k6
  have I6 := Aside0.mk (I5.out.only o6 ((T5.out _ (by simp)).2))
  have B6 := Aside0.mk (B5.out.trans (K5.out.belowB o6))
  clear k6 t6 hp6 o6
  go_wp2_with fail
  refine (bytes_calls w.heap.size w.heap.size _ S6 (by decide) w6 K6.out).mono ?_
  rintro e w7 ⟨v7, rfl, ow7, b7⟩
  have hcv : (convert TB 9 v7).run Tryd.prog w7 = .ok (.string ⟨#[49, 50, 59, 50, 59, 97, 98, 44, 43]⟩) w7 := ow7.string
  have I7 := Aside0.mk (I6.out.below b7)
  have B7 := Aside0.mk (B6.out.trans (b7.mono B6.out.size))
  clear ow7 b7
  go_wp2_with fail
  have KN := inum_calls (w.heap.size + 2) [48, 49, 50, 59] (by decide) false 99 w7 I7.out
  rw [num_012] at KN
  refine KN.mono ?_
  rintro e w8 ⟨rfl, i8, o8⟩
  have I8 := Aside0.mk i8
  have B8 := Aside0.mk (B7.out.trans (o8.below (B := w.heap.size) B7.out.size (fun k hk => by simp at hk; omega)))
  clear i8 o8 KN hcv
  go_wp2_with fail
  refine (end_calls (w.heap.size + 2) [] true w8 I8.out).mono ?_
  rintro e w9 ⟨rfl, rfl⟩
  go_wp2
  go_ret
  exact ⟨rfl, B8.out⟩
end Go.Proofs.YtmilpfccgggmkaaDoor.Knt
