/- The law GlyphNames: its walk. -/
import Derived.Test.YtapdahfcfkbomaaDoorGaw
import Derived.Test.YtapdahfcfkbomaaDoorGlq
namespace Go.Proofs.YtapdahfcfkbomaaDoor.Quo
open Go.RowKit Go.Proofs.YtapdahfcfkbomaaDoorW.PrintWords Go.Proofs.YtapdahfcfkbomaaDoor.Arr Go.Proofs.YtapdahfcfkbomaaDoor.Utf Go.Proofs.YtapdahfcfkbomaaDoor.Gly Go.Proofs.YtapdahfcfkbomaaDoor.Glr Go.Proofs.YtapdahfcfkbomaaDoor.Hex
set_option linter.unusedVariables false
set_option linter.unusedSimpArgs false

set_option maxHeartbeats 4000000 in
set_option maxRecDepth 100000 in
theorem lawNames_calls (s : ByteArray) (hs : s.size ≤ 9223372036854775807) (w : World) (hT : Tabs w) (hD : Deb w) :
    Calls Tryd.prog 5 #[.string s] w fun e w' => e = .returned (.bool true) ∧ Below w.heap.size w w' := by
  have HT := Aside0.mk hT
  have HD := Aside0.mk hD
  clear hT hD
  by_cases hbig : 3000 < s.size
  · have t1 : decide ((s.size : Int) > 3000) = true := decide_eq_true (by omega)
    go_enter Tryd.func5, Tryd.ntmps5
    go_wp2_with fail
    refine (awake_calls _ HT.out HD.out).mono ?_
    rintro e w1 ⟨rfl, hb1⟩
    go_wp2_with fail
    refine (awake_calls _ (HT.out.below hb1) (HD.out.below hb1)).mono ?_
    rintro e w2 ⟨rfl, hb2⟩
    go_wp2
    go_ret
    exact ⟨rfl, hb1.trans (hb2.mono hb1.size)⟩
  have t1 : decide ((s.size : Int) > 3000) = false := decide_eq_false (by omega)
  have C1 := name_calls s (by omega)
  have C2 := ref_name_calls s (by omega)
  have C3 := id_calls s (by omega)
  have C4 := ref_id_calls s (by omega)
  generalize nameB s = n at *
  generalize idB s = i at *
  have K1 := Aside0.mk C1
  have K2 := Aside0.mk C2
  have K3 := Aside0.mk C3
  have K4 := Aside0.mk C4
  clear C1 C2 C3 C4
  cases n <;> cases i
  all_goals
    go_enter Tryd.func5, Tryd.ntmps5
    go_wp2_with fail
    refine (awake_calls _ HT.out HD.out).mono ?_
    rintro e w1 ⟨rfl, hb1⟩
    have HB1 := Aside0.mk hb1
    clear hb1
    go_wp2_with fail
    refine (K1.out _).mono ?_
    rintro e w2 ⟨rfl, hb2⟩
    have HB2 := Aside0.mk (HB1.out.trans (hb2.mono HB1.out.size))
    clear hb2 HB1
    go_wp2_with fail
    refine (K2.out _).mono ?_
    rintro e w3 ⟨rfl, hb3⟩
    have HB3 := Aside0.mk (HB2.out.trans (hb3.mono HB2.out.size))
    clear hb3 HB2
    go_wp2_with fail
    refine (K3.out _ (HT.out.below HB3.out)).mono ?_
    rintro e w4 ⟨rfl, hb4⟩
    have HB4 := Aside0.mk (HB3.out.trans (hb4.mono HB3.out.size))
    clear hb4 HB3
    go_wp2_with fail
    refine (K4.out _).mono ?_
    rintro e w5 ⟨rfl, hb5⟩
    have HB5 := HB4.out.trans (hb5.mono HB4.out.size)
    go_wp2
    go_ret
    exact ⟨rfl, HB5⟩
end Go.Proofs.YtapdahfcfkbomaaDoor.Quo
