/- strconv.FormatUint(n, 16): its small callees. -/
import Derived.Test.YtapdahfcfkbomaaDoorBld
import Derived.Test.YtapdahfcfkbomaaDoorArr
namespace Go.Proofs.YtapdahfcfkbomaaDoor.Hex
open Go.RowKit Go.Proofs.YtapdahfcfkbomaaDoorW.PrintWords Go.Proofs.YtapdahfcfkbomaaDoor.Arr
set_option linter.unusedVariables false
set_option linter.unusedSimpArgs false

/-- The one cell of math/bits' table that the shift for 16 wants. -/
structure Deb (w : World) : Prop where mk ::
  out : w.cell? ⟨7, 15, none⟩ = some (.int .u8 4)
theorem Deb.below {w w' : World} (h : Deb w) (hb : Below w.heap.size w w') : Deb w' := ⟨pw_cell_below hb h.out⟩
theorem tz64_calls (w : World) (hD : Deb w) :
    Calls Tryd.prog 88 #[.int .u64 16] w fun e w' => e = .returned (.int .i64 4) ∧ w' = w := by
  have h := hD.out
  have hE : IntKind.u64.wrap (bits BinOp.and IntKind.u64 16 (IntKind.u64.wrap (-16)) * 285870213051353865) / 288230376151711744 = 15 := by decide +kernel
  go_enter Tryd.func88, Tryd.ntmps88
  go_wp2
  go_ret
  exact ⟨rfl, rfl⟩
theorem pow_calls (w : World) :
    Calls Tryd.prog 77 #[.int .i64 16] w fun e w' => e = .returned (.bool true) ∧ w' = w := by
  go_enter Tryd.func77, Tryd.ntmps77
  go_wp2
  go_ret
  exact ⟨rfl, rfl⟩
theorem tz_calls (w : World) (hD : Deb w) :
    Calls Tryd.prog 78 #[.int .u64 16] w fun e w' => e = .returned (.int .i64 4) ∧ w' = w := by
  go_enter Tryd.func78, Tryd.ntmps78
  go_wp2_with fail
  refine (tz64_calls w hD).mono ?_
  rintro e w1 ⟨rfl, rfl⟩
  go_wp2
  go_ret
  exact ⟨rfl, rfl⟩

/-! ### the digits -/
def dig (d : Nat) : Nat := if d < 10 then 48 + d else 87 + d
/-- The array of 65 bytes when k digits are laid. -/
def hexL (u k : Nat) : List Int := (List.range 65).map fun j => if 65 - k ≤ j then (dig (u / 16 ^ (64 - j) % 16) : Int) else 0
theorem hexL_length (u k : Nat) : (hexL u k).length = 65 := by simp [hexL]
theorem hexL_zero (u : Nat) : hexL u 0 = List.replicate 65 0 := by
  apply List.ext_getElem
  · simp [hexL]
  · intro i h1 h2
    have hi : i < 65 := by simpa [hexL] using h1
    simp only [hexL, List.getElem_map, List.getElem_range, List.getElem_replicate]
    rw [if_neg (by omega)]
theorem hexL_set (u k : Nat) (hk : k < 65) (x : Int) (hx : x = (dig (u / 16 ^ k % 16) : Nat)) : (hexL u k).set (64 - k) x = hexL u (k + 1) := by
  subst hx
  apply List.ext_getElem
  · simp [hexL]
  · intro i h1 h2
    have hi : i < 65 := by simpa [hexL] using h2
    rw [List.getElem_set]
    by_cases h : 64 - k = i
    · subst h
      rw [if_pos rfl]
      simp only [hexL, List.getElem_map, List.getElem_range]
      rw [if_pos (by omega), show 64 - (64 - k) = k by omega]
    · rw [if_neg h]
      simp only [hexL, List.getElem_map, List.getElem_range]
      by_cases h3 : 65 - k ≤ i
      · rw [if_pos h3, if_pos (by omega)]
      · rw [if_neg h3, if_neg (by omega)]
set_option maxRecDepth 100000 in
theorem zero65 : ∀ w, (zeroValue 102).run Tryd.prog w = .ok (.agg (numsA .u8 (hexL 0 0))) w := by
  intro w
  rw [hexL_zero]
  rfl
set_option maxRecDepth 100000 in
theorem hex_cell (d : Nat) (hd : d < 16) : ∀ w, (Instr.index 9 (.string ⟨#[48, 49, 50, 51, 52, 53, 54, 55, 56, 57, 97, 98, 99, 100, 101, 102, 103, 104, 105, 106, 107, 108, 109, 110, 111, 112, 113, 114, 115, 116, 117, 118, 119, 120, 121, 122]⟩) (.int .u64 (d : Int))).run Tryd.prog w = .ok (.int .u8 (dig d)) w := by
  intro w
  have : d = 0 ∨ d = 1 ∨ d = 2 ∨ d = 3 ∨ d = 4 ∨ d = 5 ∨ d = 6 ∨ d = 7 ∨ d = 8 ∨ d = 9 ∨ d = 10 ∨ d = 11 ∨ d = 12 ∨ d = 13 ∨ d = 14 ∨ d = 15 := by omega
  rcases this with rfl | rfl | rfl | rfl | rfl | rfl | rfl | rfl | rfl | rfl | rfl | rfl | rfl | rfl | rfl | rfl <;> rfl
theorem and15 (m : Nat) (hm : m < 18446744073709551616) : bits BinOp.and IntKind.u64 (m : Int) 15 = ((m % 16 : Nat) : Int) := by
  unfold Go.bits
  simp only []
  have b1 : (BitVec.ofInt IntKind.u64.bits (m : Int)) = BitVec.ofNat 64 m := by simp [IntKind.bits]
  have b2 : (BitVec.ofInt IntKind.u64.bits (15 : Int)) = BitVec.ofNat 64 15 := by simp [IntKind.bits]
  rw [b1, b2]
  have h2 : (BitVec.ofNat 64 m &&& BitVec.ofNat 64 15).toNat = m % 16 := by
    rw [BitVec.toNat_and, BitVec.toNat_ofNat, BitVec.toNat_ofNat, Nat.mod_eq_of_lt (by simpa using hm)]
    exact Nat.and_two_pow_sub_one_eq_mod m 4
  show IntKind.u64.wrap (((BitVec.ofNat 64 m &&& BitVec.ofNat 64 15).toNat : Nat) : Int) = _
  rw [h2]
  have h3 : m % 16 < 16 := Nat.mod_lt _ (by decide)
  simp only [IntKind.wrap_u64]
  omega
abbrev hexB : ByteArray := ⟨#[48, 49, 50, 51, 52, 53, 54, 55, 56, 57, 97, 98, 99, 100, 101, 102, 103, 104, 105, 106, 107, 108, 109, 110, 111, 112, 113, 114, 115, 116, 117, 118, 119, 120, 121, 122]⟩
theorem hex_get (d : Nat) (hd : d < 16) (h : d < hexB.size) : (hexB[d]'h).toNat = dig d := by
  have : d = 0 ∨ d = 1 ∨ d = 2 ∨ d = 3 ∨ d = 4 ∨ d = 5 ∨ d = 6 ∨ d = 7 ∨ d = 8 ∨ d = 9 ∨ d = 10 ∨ d = 11 ∨ d = 12 ∨ d = 13 ∨ d = 14 ∨ d = 15 := by omega
  rcases this with rfl | rfl | rfl | rfl | rfl | rfl | rfl | rfl | rfl | rfl | rfl | rfl | rfl | rfl | rfl | rfl <;> rfl
theorem digits_lt (u k m : Nat) (hu : u < 18446744073709551616) (hm : m = u / 16 ^ k) (h : 0 < m) : k < 16 := by
  rcases Nat.lt_or_ge k 16 with h1 | h1
  · exact h1
  · have h2 : 16 ^ 16 ≤ 16 ^ k := Nat.pow_le_pow_right (by omega) h1
    have h3 : u / 16 ^ k = 0 := Nat.div_eq_of_lt (by omega)
    omega
/-! ### the text of a number -/
def hexD (u : Nat) : List UInt8 := if u < 16 then [UInt8.ofNat (dig u)] else hexD (u / 16) ++ [UInt8.ofNat (dig (u % 16))]
termination_by u
decreasing_by omega
/-- The last k digits. -/
def lastK (u k : Nat) : List UInt8 := (List.range k).map fun t => UInt8.ofNat (dig (u / 16 ^ (k - 1 - t) % 16))
theorem lastK_succ (u k : Nat) : lastK u (k + 1) = UInt8.ofNat (dig (u / 16 ^ k % 16)) :: lastK u k := by
  apply List.ext_getElem
  · simp [lastK]
  · intro i h1 h2
    cases i with
    | zero => simp [lastK]
    | succ i =>
      simp only [lastK, List.getElem_map, List.getElem_range, List.getElem_cons_succ]
      rw [show k + 1 - 1 - (i + 1) = k - 1 - i by omega]
theorem hexD_split (u : Nat) : ∀ k, (∀ j, j < k → 16 ≤ u / 16 ^ j) → hexD u = hexD (u / 16 ^ k) ++ lastK u k
  | 0, _ => by simp [lastK]
  | k + 1, h => by
    rw [hexD_split u k (fun j hj => h j (by omega))]
    have h1 := h k (by omega)
    rw [hexD, if_neg (by omega), lastK_succ, Nat.div_div_eq_div_mul, ← Nat.pow_succ]
    simp
theorem dig_lt (d : Nat) (h : d < 16) : dig d < 256 := by unfold dig; split <;> omega
theorem hexL_get (u k i : Nat) (hi : i < 65) (h : 65 - k ≤ i) : (hexL u k).getD i 0 = ((dig (u / 16 ^ (64 - i) % 16) : Nat) : Int) := by
  rw [List.getD_eq_getElem?_getD, List.getElem?_eq_getElem (by rw [hexL_length]; exact hi)]
  simp only [hexL, List.getElem_map, List.getElem_range, Option.getD_some]
  rw [if_pos h]
theorem lastK_get (u k j : Nat) (hj : j < k + 1) (h : j < (lastK u (k + 1)).length) : ((lastK u (k + 1))[j]'h).toNat = dig (u / 16 ^ (k - j) % 16) := by
  simp only [lastK, List.getElem_map, List.getElem_range]
  rw [show k + 1 - 1 - j = k - j by omega]
  exact UInt8.toNat_ofNat_of_lt' (dig_lt _ (Nat.mod_lt _ (by decide)))
theorem len65 : Tryd.prog.arrayLen 102 = 65 := by kernel_rfl
theorem slice_tail (g j : Nat) (hj : j < 65) (w : World) : (Instr.sliceAt 102 (.pointer (some ⟨g, 0, none⟩)) (some (.int .i64 (j : Int))) none none).run Tryd.prog w = .ok (.slice (some ⟨g, j, none⟩) (65 - j) (65 - j)) w := by
  have ht : Tryd.prog.underlying 102 = some (.array (Tryd.prog.arrayLen 102) (Tryd.prog.elem 102)) := by kernel_rfl
  rw [run_sliceAt_array_l w _ _ ht .i64 (j : Int) (by omega) (by rw [len65]; omega), len65]
  have e : Tryd.prog.elem 102 = 5 := by kernel_rfl
  have h1 : (sizeOf 5).run Tryd.prog w = .ok 1 w := by kernel_rfl
  rw [e, h1]
  simp [Result.andThen, slicedAt, Addr.add]
  rw [if_neg (by omega)]
  split
  · rename_i h
    rw [h]
  · rfl
set_option maxHeartbeats 4000000 in
set_option maxRecDepth 100000 in
theorem bits_calls (u : Nat) (hu : u < 18446744073709551616) (w : World) (hD : Deb w) :
    Calls Tryd.prog 62 #[.slice none 0 0, .int .u64 (u : Int), .int .i64 16, .bool false, .bool false] w fun e w' => e = .returned (.tuple #[.slice none 0 0, .string ⟨(hexD u).toArray⟩]) ∧ Below w.heap.size w w' := by
  go_enter Tryd.func62, Tryd.ntmps62
  go_wp2_with (with_reducible refine wpList_alloc_agg rfl 102 _ rfl zero65 ?_)
  refine (pow_calls _).mono ?_
  rintro e w1 ⟨rfl, rfl⟩
  go_wp2_with fail
  refine (tz_calls _ (hD.below ((Below.refl _ _).alloc (Nat.le_refl _) _))).mono ?_
  rintro e w1 ⟨rfl, rfl⟩
  go_wp2_with fail
  go_loopw [1, 13] (fun v1 v13 wr => ∃ (k m : Nat), k ≤ 16 ∧ Aside0 (m = u / 16 ^ k) ∧ Aside0 (∀ j, j < k → 16 ≤ u / 16 ^ j) ∧ v1 = .int .u64 (m : Int) ∧ v13 = .int .i64 (65 - (k : Int)) ∧ m < 18446744073709551616 ∧ Aside0 (Blk wr w.heap.size 102 (numsA .u8 (hexL u k))) ∧ Aside0 (Below w.heap.size w wr)) (fun v1 _ _ => (intOf v1).toNat)
  case atStart =>
    have h0 : hexL 0 0 = hexL u 0 := by rw [hexL_zero, hexL_zero]
    rw [h0]
    exact ⟨0, u, by omega, ⟨by simp⟩, ⟨fun j h => absurd h (Nat.not_lt_zero _)⟩, rfl, rfl, hu, ⟨Blk.newAt rfl⟩, ⟨(Below.refl _ _).alloc (Nat.le_refl _) _⟩⟩
  case round =>
    obtain ⟨k, m, hk, hm, hall, rfl, rfl, hm1, hB, hb⟩ := hrel
    by_cases h16 : 16 ≤ m
    · have l0 : decide ((m : Int) ≥ 16) = true := decide_eq_true (by omega)
      have hA := and15 m hm1
      have hix := hex_cell (m % 16) (by omega)
      have hk2 : k < 16 := digits_lt u k m hu hm.out (by omega)
      have p1 : IntKind.i64.wrap (65 - (k : Int) - 1) = ((64 - k : Nat) : Int) := by rw [IntWalk.i64_in _ (by omega)]; omega
      have c1 := (hB.out.cell (64 - k)).trans (numsA_get _ _ _ (by rw [hexL_length]; omega))
      have f1 := hB.out.frozen (64 - k)
      have HX := hex_get (m % 16) (by omega)
      have HX2 := Aside0.mk HX
      clear HX
      go_wp2_with fail
      go_roundw
      case rel =>
        refine ⟨k + 1, m / 16, by omega, ⟨by rw [hm.out, Nat.div_div_eq_div_mul, ← Nat.pow_succ]⟩, ⟨fun j hj => by
          by_cases h : j < k
          · exact hall.out j h
          · obtain rfl : j = k := by omega
            rw [← hm.out]; exact h16⟩, by simp, by congr 1; omega, by omega, ⟨?_⟩, ⟨hb.out.setCell (Nat.le_refl _) _⟩⟩
        have hs := hB.out.set (64 - k) (.int .u8 ((dig (m % 16) : Nat) : Int))
        rw [numsA_set, hexL_set u k (by omega) _ (by rw [← hm.out])] at hs
        rw [HX2.out]
        exact hs
      case measure => simp [intOf]; omega
    · have l0 : decide ((m : Int) ≥ 16) = false := decide_eq_false (by omega)
      have hix := hex_cell m (by omega)
      have p1 : IntKind.i64.wrap (65 - (k : Int) - 1) = ((64 - k : Nat) : Int) := by rw [IntWalk.i64_in _ (by omega)]; omega
      have c1 := (hB.out.cell (64 - k)).trans (numsA_get _ _ _ (by rw [hexL_length]; omega))
      have f1 := hB.out.frozen (64 - k)
      have HX2 := Aside0.mk (hex_get m (by omega))
      have q0 := slice_tail w.heap.size (64 - k) (by omega)
      have hs := hB.out.set (64 - k) (.int .u8 ((dig m : Nat) : Int))
      have hmm : m % 16 = m := Nat.mod_eq_of_lt (by omega)
      rw [numsA_set, hexL_set u k (by omega) _ (by rw [← hm.out, hmm])] at hs
      have hD2 : hexD u = lastK u (k + 1) := by
        rw [hexD_split u k hall.out, lastK_succ, ← hm.out, hexD, if_pos (by omega), hmm]
        rfl
      have hlen : (hexD u).length = 65 - (64 - k) := by rw [hD2]; simp [lastK]; omega
      have qc := run_convert_bytes_back (P := Tryd.prog) (wr.setCell ⟨w.heap.size, 64 - k, none⟩ (.int .u8 ((dig m : Nat) : Int))) 47 9 5 ⟨w.heap.size, 64 - k, none⟩ (65 - (64 - k)) (hexD u) Tryd.underlying47 Tryd.underlying5 Tryd.underlying9 (fun j hj => by
        have hj2 : j < k + 1 := by omega
        have ea : (⟨w.heap.size, 64 - k, none⟩ : Addr).add j = ⟨w.heap.size, 64 - k + j, none⟩ := by simp [Addr.add]
        rw [ea]
        have := (hs.cell (64 - k + j)).trans (numsA_get .u8 _ _ (by rw [hexL_length]; omega))
        rw [this]
        rw [hexL_get u (k + 1) (64 - k + j) (by omega) (by omega), show 64 - (64 - k + j) = k - j by omega]
        simp only [hD2]
        rw [lastK_get u k j hj2])
      rw [hlen] at qc
      have hb2 := hb.out.setCell (p := ⟨w.heap.size, 64 - k, none⟩) (Nat.le_refl _) (.int .u8 ((dig m : Nat) : Int))
      have HB2 := Aside0.mk hb2
      clear hs hmm hD2 hlen hb2 hall
      go_wp2
      go_ret2
      exact ⟨rfl, HB2.out⟩

theorem str_nil : (⟨#[]⟩ : ByteArray).size = 0 := rfl
theorem fmt_in_calls (u : Nat) (hu : u < 18446744073709551616) (w : World) (hD : Deb w) :
    Calls Tryd.prog 50 #[.int .u64 (u : Int), .int .i64 16] w fun e w' => e = .returned (.string ⟨(hexD u).toArray⟩) ∧ Below w.heap.size w w' := by
  go_enter Tryd.func50, Tryd.ntmps50
  go_wp2_with fail
  refine (bits_calls u hu w hD).mono ?_
  rintro e w1 ⟨rfl, hb1⟩
  go_wp2
  go_ret
  exact ⟨rfl, hb1⟩
theorem fmt_calls (u : Nat) (hu : u < 18446744073709551616) (w : World) (hD : Deb w) :
    Calls Tryd.prog 42 #[.int .u64 (u : Int), .int .i64 16] w fun e w' => e = .returned (.string ⟨(hexD u).toArray⟩) ∧ Below w.heap.size w w' := by
  go_enter Tryd.func42, Tryd.ntmps42
  go_wp2_with fail
  refine (fmt_in_calls u hu w hD).mono ?_
  rintro e w1 ⟨rfl, hb1⟩
  go_wp2
  go_ret
  exact ⟨rfl, hb1⟩
end Go.Proofs.YtapdahfcfkbomaaDoor.Hex
