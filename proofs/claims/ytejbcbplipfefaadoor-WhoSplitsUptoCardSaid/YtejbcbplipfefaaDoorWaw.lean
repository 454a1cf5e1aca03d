/- The fixed fact of chapter 2's laws. -/
import Derived.Test.YtejbcbplipfefaaDoorWht
namespace Go.Proofs.YtejbcbplipfefaaDoor.Who
open Go.RowKit Go.Proofs.YtejbcbplipfefaaDoorW.PrintWords Go.Proofs.YtejbcbplipfefaaDoor.Utf Go.Proofs.YtejbcbplipfefaaDoor.Arr Go.Proofs.YtejbcbplipfefaaDoor.Gly Go.Proofs.YtejbcbplipfefaaDoor.Glr
set_option linter.unusedVariables false
set_option linter.unusedSimpArgs false

theorem refOk_data (s : ByteArray) : readOk s = (cutOk s 58 && ((if nameB (cutA s 58) = true then
    (if ((cutA (cutB s 58) 35).data.toList == [42]) = true then (if (cutB (cutB s 58) 35).data.toList.isEmpty = true then 3 else 0)
     else if idB (cutA (cutB s 58) 35) = true then (if (cutB (cutB s 58) 35).data.toList.isEmpty = true then 1 else if nameB (cutB (cutB s 58) 35) = true then 2 else 0) else 0)
  else 0) != 0 && (cutOk (cutB s 58) 35 == !(cutB (cutB s 58) 35).data.toList.isEmpty))) := by
  rw [read_same]
  unfold refOk kindV
  simp only [Lib.toList_data]
def S1 : ByteArray := ⟨#[117, 115, 101, 114, 58, 97, 110, 110]⟩
def S2 : ByteArray := ⟨#[103, 114, 111, 117, 112, 58, 101, 110, 103, 35, 109, 101, 109, 98, 101, 114]⟩
def S3 : ByteArray := ⟨#[117, 115, 101, 114, 58, 42]⟩
theorem S1_ok : readOk S1 = true := by rw [refOk_data]; decide +kernel
theorem S2_ok : readOk S2 = true := by rw [refOk_data]; decide +kernel
theorem S3_ok : readOk S3 = true := by rw [refOk_data]; decide +kernel
theorem S1_one : oneB (cutA S1 58) (cutA (cutB S1 58) 35) (cutB (cutB S1 58) 35) = true := by unfold oneB; rw [Lib.toList_data]; decide +kernel
theorem S2_set : setB (cutA S2 58) (cutA (cutB S2 58) 35) (cutB (cutB S2 58) 35) = true := by unfold setB; decide +kernel
theorem S3_all : allB (cutA S3 58) (cutA (cutB S3 58) 35) (cutB (cutB S3 58) 35) = true := by unfold allB; rw [Lib.toList_data, Lib.toList_data]; decide +kernel
theorem S3_not : robjOk S3 = false := by unfold robjOk oneB; rw [S3_ok, Lib.toList_data]; decide +kernel
theorem read_cst (S t i r : ByteArray) (n : Nat) (hS : S.size = n) (hn : n ≤ 100) (h : readOk S = true) (ht : cutA S 58 = t) (hi : cutA (cutB S 58) 35 = i) (hr : cutB (cutB S 58) 35 = r) : (∀ w, Tabs w → Calls Tryd.prog 9 #[.string S] w fun e w' => e = .returned (.tuple #[.agg #[.string t, .string i, .string r], .int .i64 0]) ∧ Below w.heap.size w w') ∧ t.size ≤ 100 ∧ i.size ≤ 100 ∧ r.size ≤ 100 := by
  refine ⟨fun w hT => read_yes S t i r (by omega) h ht hi hr w hT, ?_, ?_, ?_⟩
  · rw [← ht]; have := cutA_size S 58; omega
  · rw [← hi]; have := cutA_size (cutB S 58) 35; have := cutB_size S 58; omega
  · rw [← hr]; have := cutB_size (cutB S 58) 35; have := cutB_size S 58; omega
theorem robj_cst (S : ByteArray) (hS : S.size ≤ 100) (h : robjOk S = false) (w : World) (hT : Tabs w) :
    Calls Tryd.prog 10 #[.string S] w fun e w' => e = .returned (.tuple #[.agg noObj, .int .i64 2]) ∧ Below w.heap.size w w' := by
  have := robj_calls S (by omega) w hT
  rwa [h, if_neg (by decide), if_neg (by decide)] at this

set_option maxHeartbeats 4000000 in
set_option maxRecDepth 100000 in
theorem awake_calls (w : World) (hT : Tabs w) :
    Calls Tryd.prog 6 #[] w fun e w' => e = .returned (.bool true) ∧ Below w.heap.size w w' := by
  obtain ⟨C1, a1, a2, a3⟩ := read_cst S1 _ _ _ 8 rfl (by decide) S1_ok rfl rfl rfl
  obtain ⟨C2, b1, b2, b3⟩ := read_cst S2 _ _ _ 16 rfl (by decide) S2_ok rfl rfl rfl
  obtain ⟨C3, d1, d2, d3⟩ := read_cst S3 _ _ _ 6 rfl (by decide) S3_ok rfl rfl rfl
  have C4 := robj_cst S3 (by decide) S3_not
  have F1 := one_as true _ _ _ S1_one (by omega) (by omega)
  have F2 := set_as true _ _ _ S2_set (by omega) (by omega) (by omega)
  have F3 := all_as true _ _ _ S3_all (by omega)
  generalize cutA S1 58 = t1 at *
  generalize cutA (cutB S1 58) 35 = i1 at *
  generalize cutB (cutB S1 58) 35 = r1 at *
  generalize cutA S2 58 = t2 at *
  generalize cutA (cutB S2 58) 35 = i2 at *
  generalize cutB (cutB S2 58) 35 = r2 at *
  generalize cutA S3 58 = t3 at *
  generalize cutA (cutB S3 58) 35 = i3 at *
  generalize cutB (cutB S3 58) 35 = r3 at *
  unfold S1 at C1
  unfold S2 at C2
  unfold S3 at C3 C4
  have K1 := Aside0.mk C1
  have K2 := Aside0.mk C2
  have K3 := Aside0.mk C3
  have K4 := Aside0.mk C4
  have L1 := Aside0.mk F1
  have L2 := Aside0.mk F2
  have L3 := Aside0.mk F3
  have HT := Aside0.mk hT
  clear C1 C2 C3 C4 F1 F2 F3 hT a1 a2 a3 b1 b2 b3 d1 d2 d3
  go_enter Tryd.func6, Tryd.ntmps6
  go_wp2_with fail
  refine (K1.out _ HT.out).mono ?_
  rintro e w1 ⟨rfl, hb1⟩
  have A1 := Aside0.mk (Blk.new w1 23 #[.string t1, .string i1, .string r1])
  have T1 := Aside0.mk (Tabs.below (Tabs.below HT.out hb1) (box_below w1 #[.string t1, .string i1, .string r1] 23))
  have HB1 := Aside0.mk (hb1.alloc hb1.size (.cells #[.string t1, .string i1, .string r1] 23))
  clear HT hb1
  go_wp2_with fail
  refine (K2.out _ T1.out).mono ?_
  rintro e w2 ⟨rfl, hb2⟩
  have A2 := Aside0.mk ((A1.out.below hb2).alloc (.cells #[.string t2, .string i2, .string r2] 23))
  have B2 := Aside0.mk (Blk.new w2 23 #[.string t2, .string i2, .string r2])
  have T2 := Aside0.mk (Tabs.below (Tabs.below T1.out hb2) (box_below w2 #[.string t2, .string i2, .string r2] 23))
  have HB2 := Aside0.mk (HB1.out.trans ((hb2.alloc hb2.size (.cells #[.string t2, .string i2, .string r2] 23)).mono HB1.out.size))
  clear A1 T1 HB1 hb2
  go_wp2_with fail
  refine (K3.out _ T2.out).mono ?_
  rintro e w3 ⟨rfl, hb3⟩
  have A3 := Aside0.mk ((A2.out.below hb3).alloc (.cells #[.string t3, .string i3, .string r3] 23))
  have B3 := Aside0.mk ((B2.out.below hb3).alloc (.cells #[.string t3, .string i3, .string r3] 23))
  have D3 := Aside0.mk (Blk.new w3 23 #[.string t3, .string i3, .string r3])
  have T3 := Aside0.mk (Tabs.below (Tabs.below T2.out hb3) (box_below w3 #[.string t3, .string i3, .string r3] 23))
  have HB3 := Aside0.mk (HB2.out.trans ((hb3.alloc hb3.size (.cells #[.string t3, .string i3, .string r3] 23)).mono HB2.out.size))
  clear A2 B2 T2 HB2 hb3
  go_wp2_with fail
  refine (K4.out _ T3.out).mono ?_
  rintro e w4 ⟨rfl, hb4⟩
  have A4 := Aside0.mk (A3.out.below hb4)
  have B4 := Aside0.mk (B3.out.below hb4)
  have D4 := Aside0.mk (D3.out.below hb4)
  have A5 := Aside0.mk (A4.out.alloc (.cells noObj 31))
  have B5 := Aside0.mk (B4.out.alloc (.cells noObj 31))
  have D5 := Aside0.mk (D4.out.alloc (.cells noObj 31))
  have T4 := Aside0.mk (Tabs.below (Tabs.below T3.out hb4) (box_below w4 noObj 31))
  have HB4 := Aside0.mk (HB3.out.trans ((hb4.alloc hb4.size (.cells noObj 31)).mono HB3.out.size))
  have c0 := A4.out.cell 0
  have c1 := A4.out.cell 1
  have c2 := A4.out.cell 2
  have hl := A4.out.lt
  clear A3 B3 D3 T3 HB3 hb4
  go_wp2_with fail
  refine (L1.out _ T4.out).mono ?_
  rintro e w5 ⟨rfl, hb5⟩
  have B6 := Aside0.mk (B5.out.below hb5)
  have D6 := Aside0.mk (D5.out.below hb5)
  have T5 := Aside0.mk (Tabs.below T4.out hb5)
  have HB5 := Aside0.mk (HB4.out.trans (hb5.mono HB4.out.size))
  clear A4 B4 D4 A5 B5 D5 T4 HB4 hb5 c0 c1 c2 hl
  have c0 := B6.out.cell 0
  have c1 := B6.out.cell 1
  have c2 := B6.out.cell 2
  go_wp2_with fail
  refine (L2.out _ T5.out).mono ?_
  rintro e w6 ⟨rfl, hb6⟩
  have D7 := Aside0.mk (D6.out.below hb6)
  have HB6 := Aside0.mk (HB5.out.trans (hb6.mono HB5.out.size))
  clear B6 D6 T5 HB5 hb6 c0 c1 c2
  have c0 := D7.out.cell 0
  have c1 := D7.out.cell 1
  have c2 := D7.out.cell 2
  go_wp2_with fail
  refine (L3.out _).mono ?_
  rintro e w7 ⟨rfl, hb7⟩
  have HB7 := HB6.out.trans (hb7.mono HB6.out.size)
  go_wp2
  go_ret
  exact ⟨rfl, HB7⟩
end Go.Proofs.YtejbcbplipfefaaDoor.Who
