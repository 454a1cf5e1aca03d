/- The law WhoReads: its walk. -/
import Derived.Test.YtejbcbplipfefaaDoorWaw
namespace Go.Proofs.YtejbcbplipfefaaDoor.Who
open Go.RowKit Go.Proofs.YtejbcbplipfefaaDoorW.PrintWords Go.Proofs.YtejbcbplipfefaaDoor.Utf Go.Proofs.YtejbcbplipfefaaDoor.Arr Go.Proofs.YtejbcbplipfefaaDoor.Gly Go.Proofs.YtejbcbplipfefaaDoor.Glr
set_option linter.unusedVariables false
set_option linter.unusedSimpArgs false

theorem ref_read_yes (s t i r : ByteArray) (hs : s.size ≤ 100000000) (h : readOk s = true) (ht : cutA s 58 = t) (hi : cutA (cutB s 58) 35 = i) (hr : cutB (cutB s 58) 35 = r) (w : World) :
    Calls Tryd.prog 13 #[.string s] w fun e w' => e = .returned (.tuple #[.agg #[.string t, .string i, .string r], .bool true]) ∧ Below w.heap.size w w' := by
  have := ref_read_calls s hs w
  rwa [h, if_pos rfl, ht, hi, hr] at this
theorem ref_read_no (s : ByteArray) (hs : s.size ≤ 100000000) (h : readOk s = false) (w : World) :
    Calls Tryd.prog 13 #[.string s] w fun e w' => e = .returned (.tuple #[.agg noCells, .bool false]) ∧ Below w.heap.size w w' := by
  have := ref_read_calls s hs w
  rwa [h, if_neg (by decide)] at this
theorem read_text (s : ByteArray) (h : readOk s = true) : textV (cutA s 58) (cutA (cutB s 58) 35) (cutB (cutB s 58) 35) = s := by
  unfold readOk at h
  simp only [Bool.and_eq_true, beq_iff_eq] at h
  exact toList_inj h.2

set_option maxHeartbeats 4000000 in
set_option maxRecDepth 100000 in
theorem lawReads_calls (s : ByteArray) (w : World) (hT : Tabs w) :
    Calls Tryd.prog 4 #[.string s] w fun e w' => e = .returned (.bool true) ∧ Below w.heap.size w w' := by
  have HT := Aside0.mk hT
  clear hT
  by_cases hbig : 1000 < s.size
  · have t1 : decide ((s.size : Int) > 1000) = true := decide_eq_true (by omega)
    go_enter Tryd.func4, Tryd.ntmps4
    go_wp2_with fail
    refine (awake_calls _ HT.out).mono ?_
    rintro e w1 ⟨rfl, hb1⟩
    go_wp2_with fail
    refine (awake_calls _ (Tabs.below HT.out hb1)).mono ?_
    rintro e w2 ⟨rfl, hb2⟩
    go_wp2
    go_ret
    exact ⟨rfl, hb1.trans (hb2.mono hb1.size)⟩
  have t1 : decide ((s.size : Int) > 1000) = false := decide_eq_false (by omega)
  cases h : readOk s with
  | false =>
    have H := Aside0.mk h
    clear h
    go_enter Tryd.func4, Tryd.ntmps4
    go_wp2_with fail
    refine (awake_calls _ HT.out).mono ?_
    rintro e w1 ⟨rfl, hb1⟩
    go_wp2_with fail
    refine (read_no s (by omega) H.out _ (Tabs.below HT.out hb1)).mono ?_
    rintro e w2 ⟨rfl, hb2⟩
    have hb2' := hb1.trans (hb2.mono hb1.size)
    have A2 := Aside0.mk (Blk.new w2 23 noCells)
    have HB2 := Aside0.mk (hb2'.alloc hb2'.size (.cells noCells 23))
    clear hb1 hb2 hb2'
    go_wp2_with fail
    refine (ref_read_no s (by omega) H.out _).mono ?_
    rintro e w3 ⟨rfl, hb3⟩
    have A3 := A2.out.below hb3
    have HB3 := Aside0.mk (HB2.out.trans ((hb3.alloc hb3.size (.cells noCells 23)).mono HB2.out.size))
    have c0 := A3.cell 0
    have c1 := A3.cell 1
    have c2 := A3.cell 2
    have hl := A3.lt
    clear A2 A3 HB2 hb3
    go_wp2
    go_ret
    exact ⟨rfl, HB3.out⟩
  | true =>
    obtain ⟨t, ht⟩ : ∃ t, cutA s 58 = t := ⟨_, rfl⟩
    obtain ⟨i, hi⟩ : ∃ i, cutA (cutB s 58) 35 = i := ⟨_, rfl⟩
    obtain ⟨r, hr⟩ : ∃ r, cutB (cutB s 58) 35 = r := ⟨_, rfl⟩
    have s1 := cutA_size s 58
    have s2 := cutA_size (cutB s 58) 35
    have s3 := cutB_size (cutB s 58) 35
    have s4 := cutB_size s 58
    have hx := read_text s h
    rw [ht, hi, hr] at hx
    have C1 := Aside0.mk (read_yes s t i r (by omega) h ht hi hr)
    have C2 := Aside0.mk (ref_read_yes s t i r (by omega) h ht hi hr)
    have C3 := text_calls t i r (by rw [← ht, ← hi, ← hr]; omega)
    rw [hx] at C3
    have C3 := Aside0.mk C3
    clear h ht hi hr hx s1 s2 s3 s4
    go_enter Tryd.func4, Tryd.ntmps4
    go_wp2_with fail
    refine (awake_calls _ HT.out).mono ?_
    rintro e w1 ⟨rfl, hb1⟩
    go_wp2_with fail
    refine (C1.out _ (Tabs.below HT.out hb1)).mono ?_
    rintro e w2 ⟨rfl, hb2⟩
    have hb2' := hb1.trans (hb2.mono hb1.size)
    have A2 := Aside0.mk (Blk.new w2 23 #[.string t, .string i, .string r])
    have HB2 := Aside0.mk (hb2'.alloc hb2'.size (.cells #[.string t, .string i, .string r] 23))
    clear hb1 hb2 hb2'
    go_wp2_with fail
    refine (C2.out _).mono ?_
    rintro e w3 ⟨rfl, hb3⟩
    have A3 := A2.out.below hb3
    have HB3 := Aside0.mk (HB2.out.trans ((hb3.alloc hb3.size (.cells #[.string t, .string i, .string r] 23)).mono HB2.out.size))
    have c0 := A3.cell 0
    have c1 := A3.cell 1
    have c2 := A3.cell 2
    have hl := A3.lt
    clear A2 A3 HB2 hb3
    go_wp2_with fail
    refine (C3.out _).mono ?_
    rintro e w4 ⟨rfl, hb4⟩
    have HB4 := HB3.out.trans (hb4.mono HB3.out.size)
    clear HB3 hb4
    go_wp2
    go_ret
    exact ⟨rfl, HB4⟩
end Go.Proofs.YtejbcbplipfefaaDoor.Who
