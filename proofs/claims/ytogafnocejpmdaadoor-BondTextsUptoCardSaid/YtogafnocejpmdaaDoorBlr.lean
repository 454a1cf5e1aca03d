/- The laws BondReads and BondTexts: their walks. -/
import Derived.Test.YtogafnocejpmdaaDoorBna
namespace Go.Proofs.YtogafnocejpmdaaDoor.Bnd
open Go.RowKit Go.Proofs.YtogafnocejpmdaaDoorW.PrintWords Go.Proofs.YtogafnocejpmdaaDoor.Utf Go.Proofs.YtogafnocejpmdaaDoor.Arr Go.Proofs.YtogafnocejpmdaaDoor.Gly Go.Proofs.YtogafnocejpmdaaDoor.Glr Go.Proofs.YtogafnocejpmdaaDoor.Who
set_option linter.unusedVariables false
set_option linter.unusedSimpArgs false

theorem Short.sz {n m : Nat} {t i r a b c : ByteArray} (h : Short n t i r a b c) (hn : n ≤ m) : Sz t i r a b c m :=
  ⟨Nat.le_trans h.t hn, Nat.le_trans h.i hn, Nat.le_trans h.r hn, Nat.le_trans h.a hn, Nat.le_trans h.b hn, Nat.le_trans h.c hn⟩
set_option maxHeartbeats 4000000 in
set_option maxRecDepth 100000 in
theorem lawReads_calls (s : ByteArray) (w : World) (hT : Tabs w) :
    Calls Tryd.prog 4 #[.string s] w fun e w' => e = .returned (.bool true) ∧ Below w.heap.size w w' := by
  have HT := Aside0.mk hT
  clear hT
  by_cases hbig : 1000 < s.size
  · have t1 : decide ((s.size : Int) > 1000) = true := decide_eq_true (by omega)
    go_enter Tryd.func4, Tryd.ntmps4
    go_wp2_with fail
    refine (awake_calls _ HT.out).mono ?_
    rintro e w1 ⟨rfl, hb1⟩
    go_wp2_with fail
    refine (awake_calls _ (Tabs.below HT.out hb1)).mono ?_
    rintro e w2 ⟨rfl, hb2⟩
    go_wp2
    go_ret
    exact ⟨rfl, hb1.trans (hb2.mono hb1.size)⟩
  have t1 : decide ((s.size : Int) > 1000) = false := decide_eq_false (by omega)
  cases h : tOk s with
  | false =>
    have H := Aside0.mk h
    clear h
    go_enter Tryd.func4, Tryd.ntmps4
    go_wp2_with fail
    refine (awake_calls _ HT.out).mono ?_
    rintro e w1 ⟨rfl, hb1⟩
    go_wp2_with fail
    refine (bread_no s (by omega) H.out _ (Tabs.below HT.out hb1)).mono ?_
    rintro e w2 ⟨rfl, hb2⟩
    have hb2' := hb1.trans (hb2.mono hb1.size)
    have A2 := Aside0.mk (Blk.new w2 25 tup0)
    have HB2 := Aside0.mk (hb2'.alloc hb2'.size (.cells tup0 25))
    clear hb1 hb2 hb2'
    go_wp2_with fail
    refine (rread_no s (by omega) H.out _).mono ?_
    rintro e w3 ⟨rfl, hb3⟩
    have A3 := A2.out.below hb3
    have HB3 := Aside0.mk (HB2.out.trans ((hb3.alloc hb3.size (.cells tup0 25)).mono HB2.out.size))
    have c0 := A3.cell 0
    have c1 := A3.cell 1
    have c2 := A3.cell 2
    have c3 := A3.cell 3
    have c4 := A3.cell 4
    have c5 := A3.cell 5
    have hl := A3.lt
    clear A2 A3 HB2 hb3
    go_wp2
    go_ret
    exact ⟨rfl, HB3.out⟩
  | true =>
    obtain ⟨t, ht⟩ : ∃ t, rt (cutA s 64) = t := ⟨_, rfl⟩
    obtain ⟨i, hi⟩ : ∃ i, ri (cutA s 64) = i := ⟨_, rfl⟩
    obtain ⟨r, hr⟩ : ∃ r, rr (cutA s 64) = r := ⟨_, rfl⟩
    obtain ⟨a, ha⟩ : ∃ a, rt (cutB s 64) = a := ⟨_, rfl⟩
    obtain ⟨b, hb⟩ : ∃ b, ri (cutB s 64) = b := ⟨_, rfl⟩
    obtain ⟨c, hc⟩ : ∃ c, rr (cutB s 64) = c := ⟨_, rfl⟩
    have SH := (halves s).short
    obtain ⟨hx, hg⟩ := tuple_back s h
    rw [ht, hi, hr, ha, hb, hc] at hx hg SH
    have C1 := Aside0.mk (bread_yes s t i r a b c (by omega) h ht hi hr ha hb hc)
    have C2 := Aside0.mk (rread_yes s t i r a b c (by omega) h ht hi hr ha hb hc)
    have C3 := ttext_calls t i r a b c (SH.sz (by omega))
    rw [hx] at C3
    have C3 := Aside0.mk C3
    have C4 := Aside0.mk (tgood_as true t i r a b c hg (SH.sz (by omega)))
    clear h ht hi hr ha hb hc hx hg SH
    go_enter Tryd.func4, Tryd.ntmps4
    go_wp2_with fail
    refine (awake_calls _ HT.out).mono ?_
    rintro e w1 ⟨rfl, hb1⟩
    go_wp2_with fail
    refine (C1.out _ (Tabs.below HT.out hb1)).mono ?_
    rintro e w2 ⟨rfl, hb2⟩
    have hb2' := hb1.trans (hb2.mono hb1.size)
    have A2 := Aside0.mk (Blk.new w2 25 (tup t i r a b c))
    have HB2 := Aside0.mk (hb2'.alloc hb2'.size (.cells (tup t i r a b c) 25))
    have T2 := Aside0.mk (Tabs.below HT.out HB2.out)
    clear hb1 hb2 hb2' HT
    go_wp2_with fail
    refine (C2.out _).mono ?_
    rintro e w3 ⟨rfl, hb3⟩
    have A3 := Aside0.mk (A2.out.below hb3)
    have HB3 := Aside0.mk (HB2.out.trans ((hb3.alloc hb3.size (.cells (tup t i r a b c) 25)).mono HB2.out.size))
    have T3 := Aside0.mk (Tabs.below T2.out (hb3.alloc hb3.size (.cells (tup t i r a b c) 25)))
    have c0 := A3.out.cell 0
    have c1 := A3.out.cell 1
    have c2 := A3.out.cell 2
    have c3 := A3.out.cell 3
    have c4 := A3.out.cell 4
    have c5 := A3.out.cell 5
    have hl := A3.out.lt
    clear A2 HB2 hb3 T2
    go_wp2_with fail
    refine (C3.out _).mono ?_
    rintro e w4 ⟨rfl, hb4⟩
    have A4 := Aside0.mk ((A3.out.alloc (.cells (tup t i r a b c) 25)).below hb4)
    have HB4 := Aside0.mk (HB3.out.trans (hb4.mono HB3.out.size))
    have T4 := Aside0.mk (Tabs.below T3.out hb4)
    clear HB3 hb4 T3 A3 c0 c1 c2 c3 c4 c5 hl
    have c0 := A4.out.cell 0
    have c1 := A4.out.cell 1
    have c2 := A4.out.cell 2
    have c3 := A4.out.cell 3
    have c4 := A4.out.cell 4
    have c5 := A4.out.cell 5
    go_wp2_with fail
    refine (C4.out _ T4.out).mono ?_
    rintro e w5 ⟨rfl, hb5⟩
    have HB5 := HB4.out.trans (hb5.mono HB4.out.size)
    go_wp2
    go_ret
    exact ⟨rfl, HB5⟩

set_option maxHeartbeats 4000000 in
set_option maxRecDepth 100000 in
theorem lawTexts_calls (t i r a b c : ByteArray) (z : Sz t i r a b c 10000000) (w : World) (hT : Tabs w) :
    Calls Tryd.prog 3 #[.agg (tup t i r a b c)] w fun e w' => e = .returned (.bool true) ∧ Below w.heap.size w w' := by
  have HB := Aside0.mk (box_below w (tup t i r a b c) 25)
  have B0 := Aside0.mk (Blk.new w 25 (tup t i r a b c))
  have HT := Aside0.mk (Tabs.below hT HB.out)
  have Z := Aside0.mk z
  clear hT
  obtain ⟨g, hg⟩ : ∃ g, tupGood t i r a b c = g := ⟨_, rfl⟩
  have C0 := rtgood_calls t i r a b c (by obtain ⟨z1, z2, z3, z4, z5, z6⟩ := z; exact ⟨by omega, by omega, by omega, by omega, by omega, by omega⟩)
  rw [hg] at C0
  have C0 := Aside0.mk C0
  cases g with
  | false =>
    clear hg z
    go_enter Tryd.func3, Tryd.ntmps3
    go_wp2_with fail
    refine (awake_calls _ HT.out).mono ?_
    rintro e w1 ⟨rfl, hb1⟩
    have B1 := Aside0.mk (B0.out.below hb1)
    have HB1 := Aside0.mk (HB.out.trans (hb1.mono HB.out.size))
    have T1 := Aside0.mk (Tabs.below HT.out hb1)
    clear B0 HB HT hb1
    have c0 := B1.out.cell 0
    have c1 := B1.out.cell 1
    have c2 := B1.out.cell 2
    have c3 := B1.out.cell 3
    have c4 := B1.out.cell 4
    have c5 := B1.out.cell 5
    go_wp2_with fail
    refine (C0.out _).mono ?_
    rintro e w2 ⟨rfl, hb2⟩
    have HB2 := Aside0.mk (HB1.out.trans (hb2.mono HB1.out.size))
    have T2 := Aside0.mk (Tabs.below T1.out hb2)
    clear HB1 T1 hb2 c0 c1 c2 c3 c4 c5
    go_wp2_with fail
    refine (awake_calls _ T2.out).mono ?_
    rintro e w3 ⟨rfl, hb3⟩
    have HB3 := HB2.out.trans (hb3.mono HB2.out.size)
    go_wp2
    go_ret
    exact ⟨rfl, HB3⟩
  | true =>
    obtain ⟨o, ht, hi, hr, ha, hb, hc⟩ := tuple_reads t i r a b c hg
    have hrel : r.toList ≠ [] := fun e => by
      unfold tupGood at hg
      simp only [Bool.and_eq_true] at hg
      have := name_empty r hg.1.2
      rw [e] at this
      cases this
    have hl : (textT t i r a b c).size ≤ 1000000000 := by
      have := textT_le t i r a b c
      obtain ⟨z1, z2, z3, z4, z5, z6⟩ := z
      omega
    have z12 : Sz t i r a b c 1000000000000 := by obtain ⟨z1, z2, z3, z4, z5, z6⟩ := z; exact ⟨by omega, by omega, by omega, by omega, by omega, by omega⟩
    have C1 := Aside0.mk (ttext_calls t i r a b c z12)
    have C2 := Aside0.mk (bread_yes _ t i r a b c (by omega) o ht hi hr ha hb hc)
    have C3 := Aside0.mk (rttext_calls t i r a b c z12 hrel)
    clear hg z o ht hi hr ha hb hc hrel hl z12
    generalize textT t i r a b c = x at *
    go_enter Tryd.func3, Tryd.ntmps3
    go_wp2_with fail
    refine (awake_calls _ HT.out).mono ?_
    rintro e w1 ⟨rfl, hb1⟩
    have B1 := Aside0.mk (B0.out.below hb1)
    have HB1 := Aside0.mk (HB.out.trans (hb1.mono HB.out.size))
    have T1 := Aside0.mk (Tabs.below HT.out hb1)
    clear B0 HB HT hb1
    have c0 := B1.out.cell 0
    have c1 := B1.out.cell 1
    have c2 := B1.out.cell 2
    have c3 := B1.out.cell 3
    have c4 := B1.out.cell 4
    have c5 := B1.out.cell 5
    go_wp2_with fail
    refine (C0.out _).mono ?_
    rintro e w2 ⟨rfl, hb2⟩
    have B2 := Aside0.mk (B1.out.below hb2)
    have HB2 := Aside0.mk (HB1.out.trans (hb2.mono HB1.out.size))
    have T2 := Aside0.mk (Tabs.below T1.out hb2)
    clear B1 HB1 T1 hb2 c0 c1 c2 c3 c4 c5
    have c0 := B2.out.cell 0
    have c1 := B2.out.cell 1
    have c2 := B2.out.cell 2
    have c3 := B2.out.cell 3
    have c4 := B2.out.cell 4
    have c5 := B2.out.cell 5
    go_wp2_with fail
    refine (C1.out _).mono ?_
    rintro e w3 ⟨rfl, hb3⟩
    have B3 := Aside0.mk (B2.out.below hb3)
    have HB3 := Aside0.mk (HB2.out.trans (hb3.mono HB2.out.size))
    have T3 := Aside0.mk (Tabs.below T2.out hb3)
    clear B2 HB2 T2 hb3 c0 c1 c2 c3 c4 c5
    go_wp2_with fail
    refine (C2.out _ T3.out).mono ?_
    rintro e w4 ⟨rfl, hb4⟩
    have B4 := Aside0.mk (B3.out.below hb4)
    have HB4 := Aside0.mk (HB3.out.trans (hb4.mono HB3.out.size))
    clear B3 HB3 T3 hb4
    have B5 := Aside0.mk (B4.out.alloc (.cells (tup t i r a b c) 25))
    have D5 := Aside0.mk (Blk.new w4 25 (tup t i r a b c))
    have HB5 := Aside0.mk (HB4.out.alloc HB4.out.size (.cells (tup t i r a b c) 25))
    have c0 := B4.out.cell 0
    have c1 := B4.out.cell 1
    have c2 := B4.out.cell 2
    have c3 := B4.out.cell 3
    have c4 := B4.out.cell 4
    have c5 := B4.out.cell 5
    have hl := B4.out.lt
    go_wp2_with fail
    refine (C3.out _).mono ?_
    rintro e w6 ⟨rfl, hb6⟩
    have B6 := Aside0.mk (B5.out.below hb6)
    have D6 := Aside0.mk (D5.out.below hb6)
    have HB6 := Aside0.mk (HB5.out.trans (hb6.mono HB5.out.size))
    clear B4 HB4 B5 D5 HB5 hb6 c0 c1 c2 c3 c4 c5 hl
    have c0 := B6.out.cell 0
    have c1 := B6.out.cell 1
    have c2 := B6.out.cell 2
    have c3 := B6.out.cell 3
    have c4 := B6.out.cell 4
    have c5 := B6.out.cell 5
    have d0 := D6.out.cell 0
    have d1 := D6.out.cell 1
    have d2 := D6.out.cell 2
    have d3 := D6.out.cell 3
    have d4 := D6.out.cell 4
    have d5 := D6.out.cell 5
    go_wp2
    go_ret
    exact ⟨rfl, HB6.out⟩
end Go.Proofs.YtogafnocejpmdaaDoor.Bnd
