/- The program's glyph.hex. -/
import Derived.Test.YtapdahfcfkbomaaDoorHex
namespace Go.Proofs.YtapdahfcfkbomaaDoor.Hex
open Go.RowKit Go.Proofs.YtapdahfcfkbomaaDoorW.PrintWords Go.Proofs.YtapdahfcfkbomaaDoor.Arr
set_option linter.unusedVariables false
set_option linter.unusedSimpArgs false

theorem rep_one (c : Nat) : Lib.repeatL [(48 : UInt8)] c = List.replicate c 48 := by
  induction c with
  | zero => rfl
  | succ n ih => simp [Lib.repeatL, List.replicate_succ] at *; try exact ih
def hexS (u : Nat) : ByteArray := ⟨(hexD u).toArray⟩
theorem hexS_size (u : Nat) : (hexS u).size = (hexD u).length := by simp [hexS, ByteArray.size]
/-- A number in so many digits at least. -/
def hexV (u least : Nat) : ByteArray := ⟨(List.replicate (least - (hexD u).length) 48).toArray⟩ ++ hexS u
theorem hexD_len : ∀ (k u : Nat), u < 16 ^ (k + 1) → (hexD u).length ≤ k + 1
  | 0, u, h => by rw [hexD, if_pos (by omega)]; simp
  | k + 1, u, h => by
    rw [hexD]
    split
    · simp
    · have := hexD_len k (u / 16) (by rw [Nat.pow_succ] at h; omega)
      simp
      omega
set_option maxHeartbeats 2000000 in
set_option maxRecDepth 100000 in
theorem hex_calls (u least : Nat) (hu : u < 4294967296) (hl : least ≤ 2) (w : World) (hD : Deb w) :
    Calls Tryd.prog 33 #[.int .u64 (u : Int), .int .i64 (least : Int)] w fun e w' => e = .returned (.string (hexV u least)) ∧ Below w.heap.size w w' := by
  have h8 : (hexD u).length ≤ 8 := hexD_len 7 u (by omega)
  obtain ⟨c, hc⟩ : ∃ c, c = least - (hexD u).length := ⟨_, rfl⟩
  have C1 := Aside0.mk (fmt_calls u (by omega) w hD)
  have hsz := hexS_size u
  have eV : hexV u least = ⟨(List.replicate c 48).toArray⟩ ++ hexS u := by unfold hexV; rw [hc]
  have EV := Aside0.mk eV
  have hrs : ((⟨(List.replicate c 48).toArray⟩ : ByteArray)).size = c := by simp [ByteArray.size]
  clear eV hD
  change Aside0 (Calls Tryd.prog 42 #[.int .u64 (u : Int), .int .i64 16] w fun e w' => e = .returned (.string (hexS u)) ∧ Below w.heap.size w w') at C1
  generalize hexS u = x at *
  generalize (hexD u).length = L at *
  have hm : max ((least : Int) - (L : Int)) 0 = (c : Int) := by omega
  have p1 : IntKind.i64.wrap ((least : Int) - (L : Int)) = (least : Int) - (L : Int) := IntWalk.i64_in _ (by omega)
  have b1 : ¬ 9223372036854775807 < c + L := by omega
  have C2 := Tryd.strings_Repeat ⟨#[48]⟩ c
  have hr : (⟨(Lib.repeatL (⟨#[48]⟩ : ByteArray).data.toList c).toArray⟩ : ByteArray) = ⟨(List.replicate c 48).toArray⟩ := by
    rw [← rep_one]
  rw [hr] at C2
  have C2 := Aside0.mk C2
  have HC := Aside0.mk hc
  have hz : (⟨#[48]⟩ : ByteArray).size = 1 := rfl
  have HZ := Aside0.mk hz
  clear hc hz hr
  go_enter Tryd.func33, Tryd.ntmps33
  go_wp2_with fail
  refine C1.out.mono ?_
  rintro e w1 ⟨rfl, hb1⟩
  go_wp2_with fail
  refine (C2.out w1 (by have := HC.out; omega) (by have := HC.out; rw [HZ.out]; omega)).mono ?_
  rintro e w2 ⟨rfl, hb2⟩
  generalize (⟨(List.replicate c 48).toArray⟩ : ByteArray) = y at *
  have hb3 := hb1.trans (hb2.mono hb1.size)
  have HB := Aside0.mk hb3
  clear hb1 hb2 hb3
  go_wp2
  go_ret
  exact ⟨by rw [EV.out]; rfl, HB.out⟩
end Go.Proofs.YtapdahfcfkbomaaDoor.Hex
