/- The law GlyphCounts: its walk. -/
import Derived.Test.YtapdahfcfkbomaaDoorGaw
import Derived.Test.YtapdahfcfkbomaaDoorGlq
namespace Go.Proofs.YtapdahfcfkbomaaDoor.Quo
open Go.RowKit Go.Proofs.YtapdahfcfkbomaaDoorW.PrintWords Go.Proofs.YtapdahfcfkbomaaDoor.Arr Go.Proofs.YtapdahfcfkbomaaDoor.Utf Go.Proofs.YtapdahfcfkbomaaDoor.Gly Go.Proofs.YtapdahfcfkbomaaDoor.Glr Go.Proofs.YtapdahfcfkbomaaDoor.Hex
set_option linter.unusedVariables false
set_option linter.unusedSimpArgs false

set_option maxHeartbeats 4000000 in
set_option maxRecDepth 100000 in
theorem lawCounts_calls (s : ByteArray) (hs : s.size ≤ 9223372036854775807) (w : World) (hT : Tabs w) (hD : Deb w) :
    Calls Tryd.prog 3 #[.string s] w fun e w' => e = .returned (.bool true) ∧ Below w.heap.size w w' := by
  have HT := Aside0.mk hT
  have HD := Aside0.mk hD
  clear hT hD
  have HB0 := Aside0.mk (Below.refl w.heap.size w)
  by_cases hbig : 3000 < s.size
  · have t1 : decide ((s.size : Int) > 3000) = true := decide_eq_true (by omega)
    go_enter Tryd.func3, Tryd.ntmps3
    (go_wp2_with fail; refine (awake_calls _ HT.out HD.out).mono ?_; rintro e w1 ⟨rfl, hb1⟩; have HB1 := Aside0.mk (HB0.out.trans (hb1.mono HB0.out.size)); clear hb1)
    (go_wp2_with fail; refine (awake_calls _ (HT.out.below HB1.out) (HD.out.below HB1.out)).mono ?_; rintro e w2 ⟨rfl, hb2⟩; have HB2 := Aside0.mk (HB1.out.trans (hb2.mono HB1.out.size)); clear hb2)
    go_wp2
    go_ret
    exact ⟨rfl, HB2.out⟩
  have t1 : decide ((s.size : Int) > 3000) = false := decide_eq_false (by omega)
  cases hv : validB s with
  | false =>
    have C1 := count_bad s (by omega) hv
    have C2 := ref_runes_calls s (by omega) false hv [] rfl
    have C3 := valid_calls s (by omega)
    rw [hv] at C3
    have K1 := Aside0.mk C1
    have K2 := Aside0.mk C2
    have K3 := Aside0.mk C3
    clear C1 C2 C3 hv
    go_enter Tryd.func3, Tryd.ntmps3
    (go_wp2_with fail; refine (awake_calls _ HT.out HD.out).mono ?_; rintro e w1 ⟨rfl, hb1⟩; have HB1 := Aside0.mk (HB0.out.trans (hb1.mono HB0.out.size)); clear hb1)
    (go_wp2_with fail; refine (K1.out _ (HT.out.below HB1.out)).mono ?_; rintro e w2 ⟨rfl, hb2⟩; have HB2 := Aside0.mk (HB1.out.trans (hb2.mono HB1.out.size)); clear hb2)
    go_wp2_with fail
    refine (K2.out _).mono ?_
    rintro e w3 ⟨A, c, rfl, hr, hb3⟩
    have HB3 := Aside0.mk (HB2.out.trans (hb3.mono HB2.out.size))
    clear hb3 hr
    (go_wp2_with fail; refine (K3.out _ (HT.out.below HB3.out)).mono ?_; rintro e w4 ⟨rfl, hb4⟩; have HB4 := Aside0.mk (HB3.out.trans (hb4.mono HB3.out.size)); clear hb4)
    go_wp2
    go_ret
    exact ⟨rfl, HB4.out⟩
  | true =>
    obtain ⟨xs, hxs⟩ : ∃ xs, xs = runesT s 0 := ⟨_, rfl⟩
    have hxl : xs.length = cnt s := by rw [hxs, runesT_length]; rfl
    have C1 := count_good s (by omega) hv
    have C2 := ref_runes_calls s (by omega) true hv xs (by rw [hxs]; rfl)
    rw [hxl] at C2
    have C3 := valid_calls s (by omega)
    rw [hv] at C3
    clear hxl hxs hv
    generalize cnt s = n at *
    have K1 := Aside0.mk C1
    have K2 := Aside0.mk C2
    have K3 := Aside0.mk C3
    clear C1 C2 C3
    go_enter Tryd.func3, Tryd.ntmps3
    (go_wp2_with fail; refine (awake_calls _ HT.out HD.out).mono ?_; rintro e w1 ⟨rfl, hb1⟩; have HB1 := Aside0.mk (HB0.out.trans (hb1.mono HB0.out.size)); clear hb1)
    (go_wp2_with fail; refine (K1.out _ (HT.out.below HB1.out)).mono ?_; rintro e w2 ⟨rfl, hb2⟩; have HB2 := Aside0.mk (HB1.out.trans (hb2.mono HB1.out.size)); clear hb2)
    go_wp2_with fail
    refine (K2.out _).mono ?_
    rintro e w3 ⟨A, c, rfl, hr, hb3⟩
    have HB3 := Aside0.mk (HB2.out.trans (hb3.mono HB2.out.size))
    clear hb3 hr
    (go_wp2_with fail; refine (K3.out _ (HT.out.below HB3.out)).mono ?_; rintro e w4 ⟨rfl, hb4⟩; have HB4 := Aside0.mk (HB3.out.trans (hb4.mono HB3.out.size)); clear hb4)
    go_wp2
    go_ret
    exact ⟨rfl, HB4.out⟩
end Go.Proofs.YtapdahfcfkbomaaDoor.Quo
