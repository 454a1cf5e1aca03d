/- The fixed fact of chapter 1's laws. -/
import Derived.Test.YtapdahfcfkbomaaDoorQuo
import Derived.Test.YtapdahfcfkbomaaDoorGlz
namespace Go.Proofs.YtapdahfcfkbomaaDoor.Quo
open Go.RowKit Go.Proofs.YtapdahfcfkbomaaDoorW.PrintWords Go.Proofs.YtapdahfcfkbomaaDoor.Arr Go.Proofs.YtapdahfcfkbomaaDoor.Utf Go.Proofs.YtapdahfcfkbomaaDoor.Gly Go.Proofs.YtapdahfcfkbomaaDoor.Hex Go.Proofs.YtapdahfcfkbomaaDoor.Bld
set_option linter.unusedVariables false
set_option linter.unusedSimpArgs false

def A1 : ByteArray := ⟨#[195, 164]⟩
def A2 : ByteArray := ⟨#[97, 32, 98]⟩
def A3 : ByteArray := ⟨#[97, 10, 255]⟩
theorem A1_id : idB A1 = true := by decide +kernel
theorem A2_id : idB A2 = false := by decide +kernel
theorem A3_q : 34 :: (quoteT A3 0 ++ [34]) = [34, 97, 92, 117, 123, 97, 125, 92, 120, 123, 102, 102, 125, 34] := by decide +kernel
set_option maxHeartbeats 4000000 in
set_option maxRecDepth 100000 in
theorem awake_calls (w : World) (hT : Tabs w) (hD : Deb w) :
    Calls Tryd.prog 9 #[] w fun e w' => e = .returned (.bool true) ∧ Below w.heap.size w w' := by
  have C1 := id_calls A1 (by decide)
  have C2 := id_calls A2 (by decide)
  have C3 := quote_calls A3 (by decide)
  rw [A1_id] at C1
  rw [A2_id] at C2
  rw [A3_q] at C3
  unfold A1 at C1
  unfold A2 at C2
  unfold A3 at C3
  have K1 := Aside0.mk C1
  have K2 := Aside0.mk C2
  have K3 := Aside0.mk C3
  have HT := Aside0.mk hT
  have HD := Aside0.mk hD
  clear C1 C2 C3 hT hD
  go_enter Tryd.func9, Tryd.ntmps9
  go_wp2_with fail
  refine (K1.out _ HT.out).mono ?_
  rintro e w1 ⟨rfl, hb1⟩
  go_wp2_with fail
  refine (K2.out _ (HT.out.below hb1)).mono ?_
  rintro e w2 ⟨rfl, hb2⟩
  have hb3 := hb1.trans (hb2.mono hb1.size)
  have HB := Aside0.mk hb3
  clear hb1 hb2 hb3
  go_wp2_with fail
  refine (K3.out _ (HT.out.below HB.out) (HD.out.below HB.out)).mono ?_
  rintro e w3 ⟨rfl, hb3⟩
  have HB2 := HB.out.trans (hb3.mono HB.out.size)
  go_wp2
  go_ret
  exact ⟨rfl, HB2⟩
end Go.Proofs.YtapdahfcfkbomaaDoor.Quo
