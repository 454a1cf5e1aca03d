/- The law BondOwn: its walk. -/
import Derived.Test.YtogafnocejpmdaaDoorBnw
import Derived.Deep.DeepCutAuto
namespace Go.Proofs.YtogafnocejpmdaaDoor.Bnd
open Go.RowKit Go.Proofs.YtogafnocejpmdaaDoorW.PrintWords Go.Proofs.YtogafnocejpmdaaDoor.Utf Go.Proofs.YtogafnocejpmdaaDoor.Arr Go.Proofs.YtogafnocejpmdaaDoor.Gly Go.Proofs.YtogafnocejpmdaaDoor.Glr Go.Proofs.YtogafnocejpmdaaDoor.Who
set_option linter.unusedVariables false
set_option linter.unusedSimpArgs false

set_option maxHeartbeats 8000000 in
set_option maxRecDepth 100000 in
theorem lawOwn_calls (t0 t1 t2 t3 t4 t5 u0 u1 u2 u3 u4 u5 : ByteArray) (n : Nat) (hn : n < 256) (zt : Sz t0 t1 t2 t3 t4 t5 9223372036854775807) (zu : Sz u0 u1 u2 u3 u4 u5 9223372036854775807) (w : World) (hT : Tabs w) :
    Calls Tryd.prog 5 #[.agg (tup t0 t1 t2 t3 t4 t5), .agg (tup u0 u1 u2 u3 u4 u5), .int .u8 (n : Int)] w fun e w' => e = .returned (.bool true) ∧ Below w.heap.size w w' := by
  have HB := Aside0.mk ((box_below w (tup t0 t1 t2 t3 t4 t5) 25).alloc (by simp) (.cells (tup u0 u1 u2 u3 u4 u5) 25))
  have X := Aside0.mk ((Blk.new w 25 (tup t0 t1 t2 t3 t4 t5)).alloc (.cells (tup u0 u1 u2 u3 u4 u5) 25))
  have Y := Aside0.mk (Blk.newAt (w := w.alloc (.cells (tup t0 t1 t2 t3 t4 t5) 25)) (g := w.heap.size + 1) (T := 25) (cs := tup u0 u1 u2 u3 u4 u5) (by simp))
  have HT := Aside0.mk (Tabs.below hT HB.out)
  have ZT := Aside0.mk zt
  have ZU := Aside0.mk zu
  clear hT zt zu
  obtain ⟨W0, hW0⟩ : ∃ W0, W0 = (w.alloc (.cells (tup t0 t1 t2 t3 t4 t5) 25)).alloc (.cells (tup u0 u1 u2 u3 u4 u5) 25) := ⟨_, rfl⟩
  rw [← hW0] at HB X Y HT
  have HW := Aside0.mk hW0
  clear hW0
  obtain ⟨gt, hgt⟩ : ∃ g, tupGood t0 t1 t2 t3 t4 t5 = g := ⟨_, rfl⟩
  obtain ⟨gu, hgu⟩ : ∃ g, tupGood u0 u1 u2 u3 u4 u5 = g := ⟨_, rfl⟩
  have CT := Aside0.mk (tgood_as gt _ _ _ _ _ _ hgt ZT.out)
  have CU := Aside0.mk (tgood_as gu _ _ _ _ _ _ hgu ZU.out)
  have GT := Aside0.mk hgt
  have GU := Aside0.mk hgu
  clear hgt hgu
  go_enter Tryd.func5, Tryd.ntmps5
  go_wp2_with fail
  rw [← HW.out]
  refine (awake_calls _ HT.out).mono ?_
  rintro e w1 ⟨rfl, hb1⟩
  have X1 := Aside0.mk (X.out.below hb1)
  have Y1 := Aside0.mk (Y.out.below hb1)
  have HT1 := Aside0.mk (Tabs.below HT.out hb1)
  have HB1 := Aside0.mk (HB.out.trans (hb1.mono HB.out.size))
  clear X Y HT HB hb1
  have c0 := X1.out.cell 0
  have c1 := X1.out.cell 1
  have c2 := X1.out.cell 2
  have c3 := X1.out.cell 3
  have c4 := X1.out.cell 4
  have c5 := X1.out.cell 5
  go_wp2_with fail
  refine (CT.out _ HT1.out).mono ?_
  rintro e w2 ⟨rfl, hb2⟩
  have X2 := Aside0.mk (X1.out.below hb2)
  have Y2 := Aside0.mk (Y1.out.below hb2)
  have HT2 := Aside0.mk (Tabs.below HT1.out hb2)
  have HB2 := Aside0.mk (HB1.out.trans (hb2.mono HB1.out.size))
  clear X1 Y1 HT1 HB1 hb2 c0 c1 c2 c3 c4 c5
  cases gt with
  | false =>
    go_wp2_with fail
    refine (awake_calls _ HT2.out).mono ?_
    rintro e w3 ⟨rfl, hb3⟩
    have HB3 := HB2.out.trans (hb3.mono HB2.out.size)
    go_wp2
    go_ret
    exact ⟨rfl, HB3⟩
  | true =>
    have c0 := Y2.out.cell 0
    have c1 := Y2.out.cell 1
    have c2 := Y2.out.cell 2
    have c3 := Y2.out.cell 3
    have c4 := Y2.out.cell 4
    have c5 := Y2.out.cell 5
    go_wp2_with fail
    refine (CU.out _ HT2.out).mono ?_
    rintro e w3 ⟨rfl, hb3⟩
    have X3 := Aside0.mk (X2.out.below hb3)
    have Y3 := Aside0.mk (Y2.out.below hb3)
    have HT3 := Aside0.mk (Tabs.below HT2.out hb3)
    have HB3 := Aside0.mk (HB2.out.trans (hb3.mono HB2.out.size))
    clear X2 Y2 HT2 HB2 hb3 c0 c1 c2 c3 c4 c5
    cases gu with
    | false =>
      go_wp2_with fail
      refine (awake_calls _ HT3.out).mono ?_
      rintro e w4 ⟨rfl, hb4⟩
      have HB4 := HB3.out.trans (hb4.mono HB3.out.size)
      go_wp2
      go_ret
      exact ⟨rfl, HB4⟩
    | true =>
      obtain ⟨d0, hd0⟩ : ∃ d, (bits BinOp.and IntKind.u8 (n : Int) 1 != 0) = d := ⟨_, rfl⟩
      obtain ⟨d1, hd1⟩ : ∃ d, (bits BinOp.and IntKind.u8 (n : Int) 3 == 3) = d := ⟨_, rfl⟩
      obtain ⟨d2, hd2⟩ : ∃ d, (bits BinOp.and IntKind.u8 (n : Int) 4 != 0) = d := ⟨_, rfl⟩
      obtain ⟨d3, hd3⟩ : ∃ d, (bits BinOp.and IntKind.u8 (n : Int) 8 != 0) = d := ⟨_, rfl⟩
      obtain ⟨d4, hd4⟩ : ∃ d, (bits BinOp.and IntKind.u8 (n : Int) 24 == 24) = d := ⟨_, rfl⟩
      obtain ⟨d5, hd5⟩ : ∃ d, (bits BinOp.and IntKind.u8 (n : Int) 40 == 40) = d := ⟨_, rfl⟩
      have i1 := bits_31 n hn
      have i4 := bits_24 n hn
      have i5 := bits_40 n hn
      rw [hd0, hd1] at i1
      rw [hd4, hd3] at i4
      rw [hd5, hd3] at i5
      have I1 := Aside0.mk i1
      have I4 := Aside0.mk i4
      have I5 := Aside0.mk i5
      clear i1 i4 i5
      have R0 := Aside0.mk (Blk.new w3 36 (flt ⟨#[]⟩ ⟨#[]⟩ ⟨#[]⟩ ⟨#[]⟩ ⟨#[]⟩ ⟨#[]⟩ false))
      have L0 := Aside0.mk (box_below w3 (flt ⟨#[]⟩ ⟨#[]⟩ ⟨#[]⟩ ⟨#[]⟩ ⟨#[]⟩ ⟨#[]⟩ false) 36)
      obtain ⟨wc, hwc⟩ : ∃ wc, wc = w3.alloc (.cells (flt ⟨#[]⟩ ⟨#[]⟩ ⟨#[]⟩ ⟨#[]⟩ ⟨#[]⟩ ⟨#[]⟩ false) 36) := ⟨_, rfl⟩
      rw [← hwc] at R0 L0
      have HWC := Aside0.mk hwc
      clear hwc
      go_upto_if 25 with fail
      rw [← HWC.out]
      go_cut [8] (fun v8 wx => ∃ s0 : Bool, v8 = .bool s0 ∧ Aside0 (s0 = (true && (!d0 || (u0.toList == t0.toList)))) ∧ ∃ f0 : ByteArray, Aside0 (f0 = own d0 t0) ∧ Aside0 (Blk wx w3.heap.size 36 (flt f0 ⟨#[]⟩ ⟨#[]⟩ ⟨#[]⟩ ⟨#[]⟩ ⟨#[]⟩ false)) ∧ Aside0 (Below w3.heap.size w3 wx))
      case first =>
        have lx := X3.out.lt
        have ly := Y3.out.lt
        have XC := X3.out.below L0.out
        have YC := Y3.out.below L0.out
        have ck := XC.cell 0
        have uk := YC.cell 0
        have rk := R0.out.cell 0
        have fk := R0.out.frozen 0
        clear XC YC
        cases d0 with
        | false =>
          go_wp2_with fail
          go_meet
          exact ⟨true, rfl, ⟨by rfl⟩, ⟨#[]⟩, ⟨rfl⟩, R0, L0⟩
        | true =>
          go_wp2_with fail
          go_meet
          exact ⟨(u0.toList == t0.toList), rfl, ⟨rfl⟩, t0, ⟨rfl⟩, ⟨R0.out.set 0 (.string t0)⟩, ⟨L0.out.setCell (Nat.le_refl _) _⟩⟩
      case rest =>
      obtain ⟨s0, rfl, S0, f0, F0, R1, L1⟩ := hcut
      clear R0 L0
      go_upto_if 39 with fail
      go_cut [8] (fun v8 wx => ∃ s1 : Bool, v8 = .bool s1 ∧ Aside0 (s1 = (s0 && (!d1 || (u1.toList == t1.toList)))) ∧ ∃ f1 : ByteArray, Aside0 (f1 = own d1 t1) ∧ Aside0 (Blk wx w3.heap.size 36 (flt f0 f1 ⟨#[]⟩ ⟨#[]⟩ ⟨#[]⟩ ⟨#[]⟩ false)) ∧ Aside0 (Below w3.heap.size w3 wx))
      case first =>
        have lx := X3.out.lt
        have ly := Y3.out.lt
        have XC := X3.out.below L1.out
        have YC := Y3.out.below L1.out
        have ck := XC.cell 1
        have uk := YC.cell 1
        have rk := R1.out.cell 1
        have fk := R1.out.frozen 1
        clear XC YC
        cases d1 with
        | false =>
          go_wp2_with fail
          go_meet
          exact ⟨s0, rfl, ⟨by cases s0 <;> rfl⟩, ⟨#[]⟩, ⟨rfl⟩, R1, L1⟩
        | true =>
          cases s0 with
          | false =>
            go_wp2_with fail
            go_meet
            exact ⟨false, rfl, ⟨rfl⟩, t1, ⟨rfl⟩, ⟨R1.out.set 1 (.string t1)⟩, ⟨L1.out.setCell (Nat.le_refl _) _⟩⟩
          | true =>
            go_wp2_with fail
            go_meet
            exact ⟨(u1.toList == t1.toList), rfl, ⟨rfl⟩, t1, ⟨rfl⟩, ⟨R1.out.set 1 (.string t1)⟩, ⟨L1.out.setCell (Nat.le_refl _) _⟩⟩
      case rest =>
      obtain ⟨s1, rfl, S1, f1, F1, R2, L2⟩ := hcut
      clear R1 L1
      go_upto_if 53 with fail
      go_cut [8] (fun v8 wx => ∃ s2 : Bool, v8 = .bool s2 ∧ Aside0 (s2 = (s1 && (!d2 || (u2.toList == t2.toList)))) ∧ ∃ f2 : ByteArray, Aside0 (f2 = own d2 t2) ∧ Aside0 (Blk wx w3.heap.size 36 (flt f0 f1 f2 ⟨#[]⟩ ⟨#[]⟩ ⟨#[]⟩ false)) ∧ Aside0 (Below w3.heap.size w3 wx))
      case first =>
        have lx := X3.out.lt
        have ly := Y3.out.lt
        have XC := X3.out.below L2.out
        have YC := Y3.out.below L2.out
        have ck := XC.cell 2
        have uk := YC.cell 2
        have rk := R2.out.cell 2
        have fk := R2.out.frozen 2
        clear XC YC
        cases d2 with
        | false =>
          go_wp2_with fail
          go_meet
          exact ⟨s1, rfl, ⟨by cases s1 <;> rfl⟩, ⟨#[]⟩, ⟨rfl⟩, R2, L2⟩
        | true =>
          cases s1 with
          | false =>
            go_wp2_with fail
            go_meet
            exact ⟨false, rfl, ⟨rfl⟩, t2, ⟨rfl⟩, ⟨R2.out.set 2 (.string t2)⟩, ⟨L2.out.setCell (Nat.le_refl _) _⟩⟩
          | true =>
            go_wp2_with fail
            go_meet
            exact ⟨(u2.toList == t2.toList), rfl, ⟨rfl⟩, t2, ⟨rfl⟩, ⟨R2.out.set 2 (.string t2)⟩, ⟨L2.out.setCell (Nat.le_refl _) _⟩⟩
      case rest =>
      obtain ⟨s2, rfl, S2, f2, F2, R3, L3⟩ := hcut
      clear R2 L2
      go_upto_if 67 with fail
      go_cut [8] (fun v8 wx => ∃ s3 : Bool, v8 = .bool s3 ∧ Aside0 (s3 = (s2 && (!d3 || (u3.toList == t3.toList)))) ∧ ∃ f3 : ByteArray, Aside0 (f3 = own d3 t3) ∧ Aside0 (Blk wx w3.heap.size 36 (flt f0 f1 f2 f3 ⟨#[]⟩ ⟨#[]⟩ false)) ∧ Aside0 (Below w3.heap.size w3 wx))
      case first =>
        have lx := X3.out.lt
        have ly := Y3.out.lt
        have XC := X3.out.below L3.out
        have YC := Y3.out.below L3.out
        have ck := XC.cell 3
        have uk := YC.cell 3
        have rk := R3.out.cell 3
        have fk := R3.out.frozen 3
        clear XC YC
        cases d3 with
        | false =>
          go_wp2_with fail
          go_meet
          exact ⟨s2, rfl, ⟨by cases s2 <;> rfl⟩, ⟨#[]⟩, ⟨rfl⟩, R3, L3⟩
        | true =>
          cases s2 with
          | false =>
            go_wp2_with fail
            go_meet
            exact ⟨false, rfl, ⟨rfl⟩, t3, ⟨rfl⟩, ⟨R3.out.set 3 (.string t3)⟩, ⟨L3.out.setCell (Nat.le_refl _) _⟩⟩
          | true =>
            go_wp2_with fail
            go_meet
            exact ⟨(u3.toList == t3.toList), rfl, ⟨rfl⟩, t3, ⟨rfl⟩, ⟨R3.out.set 3 (.string t3)⟩, ⟨L3.out.setCell (Nat.le_refl _) _⟩⟩
      case rest =>
      obtain ⟨s3, rfl, S3, f3, F3, R4, L4⟩ := hcut
      clear R3 L3
      go_upto_if 84 with fail
      go_cut [8] (fun v8 wx => ∃ s4 : Bool, v8 = .bool s4 ∧ Aside0 (s4 = (s3 && (!d4 || (u4.toList == t4.toList)))) ∧ ∃ f4 : ByteArray, Aside0 (f4 = own d4 t4) ∧ Aside0 (Blk wx w3.heap.size 36 (flt f0 f1 f2 f3 f4 ⟨#[]⟩ false)) ∧ Aside0 (Below w3.heap.size w3 wx))
      case first =>
        have lx := X3.out.lt
        have ly := Y3.out.lt
        have XC := X3.out.below L4.out
        have YC := Y3.out.below L4.out
        have ck := XC.cell 4
        have uk := YC.cell 4
        have rk := R4.out.cell 4
        have fk := R4.out.frozen 4
        clear XC YC
        cases d4 with
        | false =>
          go_wp2_with fail
          go_meet
          exact ⟨s3, rfl, ⟨by cases s3 <;> rfl⟩, ⟨#[]⟩, ⟨rfl⟩, R4, L4⟩
        | true =>
          cases s3 with
          | false =>
            go_wp2_with fail
            go_meet
            exact ⟨false, rfl, ⟨rfl⟩, t4, ⟨rfl⟩, ⟨R4.out.set 4 (.string t4)⟩, ⟨L4.out.setCell (Nat.le_refl _) _⟩⟩
          | true =>
            go_wp2_with fail
            go_meet
            exact ⟨(u4.toList == t4.toList), rfl, ⟨rfl⟩, t4, ⟨rfl⟩, ⟨R4.out.set 4 (.string t4)⟩, ⟨L4.out.setCell (Nat.le_refl _) _⟩⟩
      case rest =>
      obtain ⟨s4, rfl, S4, f4, F4, R5, L5⟩ := hcut
      clear R4 L4
      go_upto_if 101 with fail
      go_cut [8] (fun v8 wx => ∃ s5 : Bool, v8 = .bool s5 ∧ Aside0 (s5 = (s4 && (!d5 || (u5.toList == t5.toList)))) ∧ ∃ f5 : ByteArray, Aside0 (f5 = own d5 t5) ∧ ∃ x5 : Bool, Aside0 (x5 = (d5 && t5.toList.isEmpty)) ∧ Aside0 (Blk wx w3.heap.size 36 (flt f0 f1 f2 f3 f4 f5 x5)) ∧ Aside0 (Below w3.heap.size w3 wx))
      case first =>
        have lx := X3.out.lt
        have ly := Y3.out.lt
        have XC := X3.out.below L5.out
        have YC := Y3.out.below L5.out
        have ck := XC.cell 5
        have uk := YC.cell 5
        have rk := R5.out.cell 5
        have fk := R5.out.frozen 5
        clear XC YC
        have r6 := R5.out.cell 6
        have f6 := R5.out.frozen 6
        cases d5 with
        | false =>
          go_wp2_with fail
          go_meet
          exact ⟨s4, rfl, ⟨by cases s4 <;> rfl⟩, ⟨#[]⟩, ⟨rfl⟩, false, ⟨rfl⟩, R5, L5⟩
        | true =>
          cases s4 with
          | false =>
            cases hE : t5.toList.isEmpty with
            | true =>
              have hE2 := isEmpty_eq hE
              have hx : Aside0 (true = (true && t5.toList.isEmpty)) := ⟨by rw [hE]; rfl⟩
              go_wp2_with fail
              go_region
              all_goals
                go_wp2_with fail
                go_meet
                exact ⟨false, rfl, ⟨rfl⟩, t5, ⟨rfl⟩, true, hx, ⟨((R5.out.set 5 (.string t5)).set 6 (.bool true)).drew⟩, ⟨((L5.out.setCell (Nat.le_refl _) _).setCell (Nat.le_refl _) _).drew⟩⟩
            | false =>
              have hE2 := isEmpty_ne hE
              have hx : Aside0 (false = (true && t5.toList.isEmpty)) := ⟨by rw [hE]; rfl⟩
              go_wp2_with fail
              go_region
              all_goals
                go_wp2_with fail
                go_meet
                exact ⟨false, rfl, ⟨rfl⟩, t5, ⟨rfl⟩, false, hx, ⟨((R5.out.set 5 (.string t5)).set 6 (.bool false)).drew⟩, ⟨((L5.out.setCell (Nat.le_refl _) _).setCell (Nat.le_refl _) _).drew⟩⟩
          | true =>
            cases hE : t5.toList.isEmpty with
            | true =>
              have hE2 := isEmpty_eq hE
              have hx : Aside0 (true = (true && t5.toList.isEmpty)) := ⟨by rw [hE]; rfl⟩
              go_wp2_with fail
              go_region
              all_goals
                go_wp2_with fail
                go_meet
                exact ⟨u5.toList.isEmpty, rfl, ⟨by rw [hE2]; cases u5.toList <;> rfl⟩, t5, ⟨rfl⟩, true, hx, ⟨((R5.out.set 5 (.string t5)).set 6 (.bool true)).drew⟩, ⟨((L5.out.setCell (Nat.le_refl _) _).setCell (Nat.le_refl _) _).drew⟩⟩
            | false =>
              have hE2 := isEmpty_ne hE
              have hx : Aside0 (false = (true && t5.toList.isEmpty)) := ⟨by rw [hE]; rfl⟩
              go_wp2_with fail
              go_region
              all_goals
                go_wp2_with fail
                go_meet
                exact ⟨(u5.toList == t5.toList), rfl, ⟨rfl⟩, t5, ⟨rfl⟩, false, hx, ⟨((R5.out.set 5 (.string t5)).set 6 (.bool false)).drew⟩, ⟨((L5.out.setCell (Nat.le_refl _) _).setCell (Nat.le_refl _) _).drew⟩⟩
      case rest =>
      obtain ⟨s5, rfl, S5, f5, F5, x5, B5, R6, L6⟩ := hcut
      clear R5 L5
      have XE := Aside0.mk (X3.out.below L6.out)
      have YE := Aside0.mk (Y3.out.below L6.out)
      have HTE := Aside0.mk (Tabs.below HT3.out L6.out)
      have HBE := Aside0.mk (HB3.out.trans (L6.out.mono HB3.out.size))
      have zf : Sz f0 f1 f2 f3 f4 f5 9223372036854775807 := by
        obtain ⟨z0, z1, z2, z3, z4, z5⟩ := ZT.out
        rw [F0.out, F1.out, F2.out, F3.out, F4.out, F5.out]
        exact ⟨Nat.le_trans (own_le _ _) z0, Nat.le_trans (own_le _ _) z1, Nat.le_trans (own_le _ _) z2, Nat.le_trans (own_le _ _) z3, Nat.le_trans (own_le _ _) z4, Nat.le_trans (own_le _ _) z5⟩
      have G := good6 _ _ _ _ _ _ GT.out
      have fit : Fit f0 f1 f2 f3 f4 f5 x5 := by
        rw [F0.out, F1.out, F2.out, F3.out, F4.out, F5.out, B5.out]
        exact own_fit G d0 d1 d2 d3 d4 d5 I1.out I4.out I5.out
      have m1 : matchB (six6 f0 f1 f2 f3 f4 f5) (six6 t0 t1 t2 t3 t4 t5) x5 = true := by
        rw [F0.out, F1.out, F2.out, F3.out, F4.out, F5.out, B5.out]
        exact own_self _ _ _ _ _ _ d0 d1 d2 d3 d4 d5
      have m2 : matchB (six6 f0 f1 f2 f3 f4 f5) (six6 u0 u1 u2 u3 u4 u5) x5 = s5 := by
        rw [F0.out, F1.out, F2.out, F3.out, F4.out, F5.out, B5.out]
        exact own_other G _ _ _ _ _ _ d0 d1 d2 d3 d4 d5 s0 s1 s2 s3 s4 s5 S0.out S1.out S2.out S3.out S4.out S5.out
      have K1 := Aside0.mk (right_calls _ _ _ _ _ _ _ zf fit)
      have K2 := Aside0.mk (match_as _ _ _ _ _ _ _ _ _ _ _ _ _ _ m1)
      have K3 := Aside0.mk (match_as _ _ _ _ _ _ _ _ _ _ _ _ _ _ m2)
      have K4 := Aside0.mk (match_as _ _ _ _ _ _ _ _ _ _ _ _ _ _ (own_none u0 u1 u2 u3 u4 u5))
      clear zf G fit m1 m2 F0 F1 F2 F3 F4 F5 B5 S0 S1 S2 S3 S4 S5 L6
      have r0 := R6.out.cell 0
      have r1 := R6.out.cell 1
      have r2 := R6.out.cell 2
      have r3 := R6.out.cell 3
      have r4 := R6.out.cell 4
      have r5 := R6.out.cell 5
      have r6 := R6.out.cell 6
      go_wp2_with fail
      refine (K1.out _ HTE.out).mono ?_
      rintro e w5 ⟨rfl, hb5⟩
      have X5 := Aside0.mk (XE.out.below hb5)
      have Y5 := Aside0.mk (YE.out.below hb5)
      have R7 := Aside0.mk (R6.out.below hb5)
      have HB5 := Aside0.mk (HBE.out.trans (hb5.mono HBE.out.size))
      clear XE YE HTE HBE R6 hb5 r0 r1 r2 r3 r4 r5 r6
      have r0 := R7.out.cell 0
      have r1 := R7.out.cell 1
      have r2 := R7.out.cell 2
      have r3 := R7.out.cell 3
      have r4 := R7.out.cell 4
      have r5 := R7.out.cell 5
      have r6 := R7.out.cell 6
      have c0 := X5.out.cell 0
      have c1 := X5.out.cell 1
      have c2 := X5.out.cell 2
      have c3 := X5.out.cell 3
      have c4 := X5.out.cell 4
      have c5 := X5.out.cell 5
      go_wp2_with fail
      refine (K2.out _).mono ?_
      rintro e w6 ⟨rfl, hb6⟩
      have Y6 := Aside0.mk (Y5.out.below hb6)
      have R8 := Aside0.mk (R7.out.below hb6)
      have HB6 := Aside0.mk (HB5.out.trans (hb6.mono HB5.out.size))
      clear X5 Y5 R7 HB5 hb6 r0 r1 r2 r3 r4 r5 r6 c0 c1 c2 c3 c4 c5
      have r0 := R8.out.cell 0
      have r1 := R8.out.cell 1
      have r2 := R8.out.cell 2
      have r3 := R8.out.cell 3
      have r4 := R8.out.cell 4
      have r5 := R8.out.cell 5
      have r6 := R8.out.cell 6
      have c0 := Y6.out.cell 0
      have c1 := Y6.out.cell 1
      have c2 := Y6.out.cell 2
      have c3 := Y6.out.cell 3
      have c4 := Y6.out.cell 4
      have c5 := Y6.out.cell 5
      go_wp2_with fail
      refine (K3.out _).mono ?_
      rintro e w7 ⟨rfl, hb7⟩
      have Y7 := Aside0.mk (Y6.out.below hb7)
      have HB7 := Aside0.mk (HB6.out.trans (hb7.mono HB6.out.size))
      clear Y6 R8 HB6 hb7 r0 r1 r2 r3 r4 r5 r6 c0 c1 c2 c3 c4 c5
      have c0 := Y7.out.cell 0
      have c1 := Y7.out.cell 1
      have c2 := Y7.out.cell 2
      have c3 := Y7.out.cell 3
      have c4 := Y7.out.cell 4
      have c5 := Y7.out.cell 5
      cases s5 with
      | _ =>
        go_wp2_with fail
        refine (K4.out _).mono ?_
        rintro e w8 ⟨rfl, hb8⟩
        have HB8 := HB7.out.trans (hb8.mono HB7.out.size)
        go_wp2
        go_ret
        exact ⟨rfl, HB8⟩
end Go.Proofs.YtogafnocejpmdaaDoor.Bnd
