/- The program's words, take and digest. -/
import Derived.Test.YtlhapohpedihjaaDoorShaRefD
import Derived.Test.YtlhapohpedihjaaDoorPSealSealsx
namespace Go.Proofs.YtlhapohpedihjaaDoor.Sha
open Go.RowKit Go.Proofs.YtlhapohpedihjaaDoorW.PrintWords Go.Proofs.YtlhapohpedihjaaDoorW.PrintLast Go.Proofs.YtlhapohpedihjaaDoorW.PrintMore Go.Proofs.YtlhapohpedihjaaDoor.Arr Go.Proofs.YtlhapohpedihjaaDoor.PSealSeals
set_option linter.unusedVariables false
set_option linter.unusedSimpArgs false

/-! ### mixed -/
theorem or_bits (x y : Nat) (hx : x < 4294967296) (hy : y < 4294967296) : Go.bits .or .u32 (x : Int) (y : Int) = ((x ||| y : Nat) : Int) := by
  unfold Go.bits
  simp only [IntKind.wrap_u32]
  have b1 : (BitVec.ofInt IntKind.u32.bits (x : Int)) = BitVec.ofNat 32 x := by simp [IntKind.bits]
  have b2 : (BitVec.ofInt IntKind.u32.bits (y : Int)) = BitVec.ofNat 32 y := by simp [IntKind.bits]
  rw [b1, b2]
  show (((BitVec.ofNat 32 x ||| BitVec.ofNat 32 y).toNat : Nat) : Int) % 4294967296 = _
  rw [BitVec.toNat_or, BitVec.toNat_ofNat, BitVec.toNat_ofNat, Nat.mod_eq_of_lt (by simpa using hx), Nat.mod_eq_of_lt (by simpa using hy)]
  have : x ||| y < 2 ^ 32 := Nat.or_lt_two_pow (by simpa using hx) (by simpa using hy)
  omega
theorem xor_bits (x y : Nat) (hx : x < 4294967296) (hy : y < 4294967296) : Go.bits .xor .u32 (x : Int) (y : Int) = ((x ^^^ y : Nat) : Int) := by
  unfold Go.bits
  simp only [IntKind.wrap_u32]
  have b1 : (BitVec.ofInt IntKind.u32.bits (x : Int)) = BitVec.ofNat 32 x := by simp [IntKind.bits]
  have b2 : (BitVec.ofInt IntKind.u32.bits (y : Int)) = BitVec.ofNat 32 y := by simp [IntKind.bits]
  rw [b1, b2]
  show (((BitVec.ofNat 32 x ^^^ BitVec.ofNat 32 y).toNat : Nat) : Int) % 4294967296 = _
  rw [BitVec.toNat_xor, BitVec.toNat_ofNat, BitVec.toNat_ofNat, Nat.mod_eq_of_lt (by simpa using hx), Nat.mod_eq_of_lt (by simpa using hy)]
  have : x ^^^ y < 2 ^ 32 := Nat.xor_lt_two_pow (by simpa using hx) (by simpa using hy)
  omega
theorem and_bits (x y : Nat) (hx : x < 4294967296) (hy : y < 4294967296) : Go.bits .and .u32 (x : Int) (y : Int) = ((x &&& y : Nat) : Int) := by
  unfold Go.bits
  simp only [IntKind.wrap_u32]
  have b1 : (BitVec.ofInt IntKind.u32.bits (x : Int)) = BitVec.ofNat 32 x := by simp [IntKind.bits]
  have b2 : (BitVec.ofInt IntKind.u32.bits (y : Int)) = BitVec.ofNat 32 y := by simp [IntKind.bits]
  rw [b1, b2]
  show (((BitVec.ofNat 32 x &&& BitVec.ofNat 32 y).toNat : Nat) : Int) % 4294967296 = _
  rw [BitVec.toNat_and, BitVec.toNat_ofNat, BitVec.toNat_ofNat, Nat.mod_eq_of_lt (by simpa using hx), Nat.mod_eq_of_lt (by simpa using hy)]
  have : x &&& y ≤ x := Nat.and_le_left
  omega
theorem rot_or (x a s : Nat) (hx : x < 4294967296) (ha : 0 < a) (ha' : a < 32) (hs : s = 32 - a) :
    Go.bits .or .u32 (shl .u32 (x : Int) (s : Int)) (shr .u32 (x : Int) (a : Int)) = (rotN x a : Int) := by
  subst hs
  have e1 : shl .u32 (x : Int) ((32 - a : Nat) : Int) = (((x <<< (32 - a)) % 4294967296 : Nat) : Int) := by
    unfold shl
    rw [IntKind.wrap_u32, Int.toNat_natCast, show min (32 - a) IntKind.u32.bits = 32 - a from Nat.min_eq_left (by show 32 - a ≤ 32; omega), Nat.shiftLeft_eq]
    simp
  have e2 : shr .u32 (x : Int) (a : Int) = ((x >>> a : Nat) : Int) := by
    unfold shr
    rw [Int.toNat_natCast, show min a IntKind.u32.bits = a from Nat.min_eq_left (by show a ≤ 32; omega), Nat.shiftRight_eq_div_pow]
    simp
  rw [e1, e2]
  rw [or_bits _ _ (Nat.mod_lt _ (by decide)) (Nat.lt_of_le_of_lt (Nat.shiftRight_le x a) hx)]
  rfl
theorem rotate_f (x a : Nat) (hx : x < 4294967296) (ha : 0 < a) (ha' : a < 32) (h1 : Go.bits .and .u64 (IntKind.u64.wrap (wrap64 (-(a : Int)))) 31 = ((32 - a : Nat) : Int)) (h2 : IntKind.u64.wrap (32 - ((32 - a : Nat) : Int)) = (a : Int)) :
    bits_RotateLeft32.f (x : Int) (wrap64 (-(a : Int))) = some (rotN x a : Int) := by
  unfold bits_RotateLeft32.f
  rw [h1, if_pos (by omega), h2, if_pos (by omega), rot_or x a (32 - a) hx ha ha' rfl]
theorem mixed_f (x a b c : Nat) (m : Bool) (hx : x < 4294967296) (ha : bits_RotateLeft32.f (x : Int) (wrap64 (-(a : Int))) = some (rotN x a : Int)) (hb : bits_RotateLeft32.f (x : Int) (wrap64 (-(b : Int))) = some (rotN x b : Int))
    (hc : bits_RotateLeft32.f (x : Int) (wrap64 (-(c : Int))) = some (rotN x c : Int)) (hc' : c < 32) : seal_mixed.f (x : Int) (a : Int) (b : Int) (c : Int) m = some (mixN x a b c m : Int) := by
  have l1 := rotN_lt x a hx
  have l2 := rotN_lt x b hx
  have l3 := rotN_lt x c hx
  have l4 : rotN x a ^^^ rotN x b < 4294967296 := by
    have := Nat.xor_lt_two_pow (n := 32) (by simpa using l1) (by simpa using l2)
    simpa using this
  unfold seal_mixed.f mixN
  rw [hc]
  simp only [Option.bind_some]
  cases m
  · simp only [Bool.false_eq_true, if_false]
    rw [ha, hb]
    simp only [Option.bind_some]
    rw [xor_bits _ _ l1 l2, xor_bits _ _ l4 l3]
  · simp only [if_true]
    rw [if_pos (by omega), ha, hb]
    simp only [Option.bind_some]
    have e2 : shr .u32 (x : Int) (c : Int) = ((x >>> c : Nat) : Int) := by
      unfold shr
      rw [Int.toNat_natCast, show min c IntKind.u32.bits = c from Nat.min_eq_left (by show c ≤ 32; omega), Nat.shiftRight_eq_div_pow]
      simp
    rw [e2, xor_bits _ _ l1 l2, xor_bits _ _ l4 (Nat.lt_of_le_of_lt (Nat.shiftRight_le x c) hx)]
/-- The four that are used. -/
theorem mixed_at (x a b c : Nat) (m : Bool) (A B C : Int) (hA : A = a) (hB : B = b) (hC : C = c) (hx : x < 4294967296) (h : (a, b, c) ∈ [(7, 18, 3), (17, 19, 10), (6, 11, 25), (2, 13, 22)]) (w : World) :
    Calls Tryd.prog 20 #[.int .u32 (x : Int), .int .i64 A, .int .i64 B, .int .i64 C, .bool m] w fun e w' => e = .returned (.int .u32 (mixN x a b c m : Int)) ∧ Below w.heap.size w w' := by
  subst hA hB hC
  have rot : ∀ k : Nat, k ∈ [7, 18, 3, 17, 19, 10, 6, 11, 25, 2, 13, 22] → bits_RotateLeft32.f (x : Int) (wrap64 (-(k : Int))) = some (rotN x k : Int) := by
    intro k hk
    simp only [List.mem_cons, List.not_mem_nil, or_false] at hk
    rcases hk with rfl | rfl | rfl | rfl | rfl | rfl | rfl | rfl | rfl | rfl | rfl | rfl
    all_goals exact rotate_f x _ hx (by decide) (by decide) (by decide +kernel) (by decide +kernel)
  simp only [List.mem_cons, Prod.mk.injEq, List.not_mem_nil, or_false] at h
  have hf : seal_mixed.f (x : Int) (a : Int) (b : Int) (c : Int) m = some (mixN x a b c m : Int) := by
    rcases h with ⟨rfl, rfl, rfl⟩ | ⟨rfl, rfl, rfl⟩ | ⟨rfl, rfl, rfl⟩ | ⟨rfl, rfl, rfl⟩
    all_goals exact mixed_f x _ _ _ m hx (rot _ (by decide)) (rot _ (by decide)) (rot _ (by decide)) (by decide)
  exact (seal_mixed.calls _ _ _ _ _ _ w hf).mono fun e w' ⟨he, hd⟩ => ⟨he, hd.below⟩

/-! ### words -/
theorem mix1 : (7 : Int) = (7 : Nat) ∧ (18 : Int) = (18 : Nat) ∧ (3 : Int) = (3 : Nat) := ⟨rfl, rfl, rfl⟩
theorem mix2 : (17 : Int) = (17 : Nat) ∧ (19 : Int) = (19 : Nat) ∧ (10 : Int) = (10 : Nat) := ⟨rfl, rfl, rfl⟩
theorem mix3 : (6 : Int) = (6 : Nat) ∧ (11 : Int) = (11 : Nat) ∧ (25 : Int) = (25 : Nat) := ⟨rfl, rfl, rfl⟩
theorem mix4 : (2 : Int) = (2 : Nat) ∧ (13 : Int) = (13 : Nat) ∧ (22 : Int) = (22 : Nat) := ⟨rfl, rfl, rfl⟩
theorem be_or (q0 q1 q2 q3 : Nat) (h0 : q0 < 256) (h1 : q1 < 256) (h2 : q2 < 256) (h3 : q3 < 256) :
    Go.bits .or .u32 (Go.bits .or .u32 (Go.bits .or .u32 ((q0 : Int) * 16777216) ((q1 : Int) * 65536)) ((q2 : Int) * 256)) (q3 : Int) = ((((q0 * 256 + q1) * 256 + q2) * 256 + q3 : Nat) : Int) := by
  have e1 : q0 * 16777216 ||| q1 * 65536 = q0 * 16777216 + q1 * 65536 := by
    have := Nat.shiftLeft_add_eq_or_of_lt (i := 24) (b := q1 * 65536) (by omega) q0
    rw [Nat.shiftLeft_eq] at this
    exact this.symm
  have e2 : (q0 * 256 + q1) * 65536 ||| q2 * 256 = (q0 * 256 + q1) * 65536 + q2 * 256 := by
    have := Nat.shiftLeft_add_eq_or_of_lt (i := 16) (b := q2 * 256) (by omega) (q0 * 256 + q1)
    rw [Nat.shiftLeft_eq] at this
    exact this.symm
  have e3 : ((q0 * 256 + q1) * 256 + q2) * 256 ||| q3 = ((q0 * 256 + q1) * 256 + q2) * 256 + q3 := by
    have := Nat.shiftLeft_add_eq_or_of_lt (i := 8) (b := q3) (by omega) ((q0 * 256 + q1) * 256 + q2)
    rw [Nat.shiftLeft_eq] at this
    exact this.symm
  have k1 : Go.bits .or .u32 ((q0 : Int) * 16777216) ((q1 : Int) * 65536) = (((q0 * 256 + q1) * 65536 : Nat) : Int) := by
    have := or_bits (q0 * 16777216) (q1 * 65536) (by omega) (by omega)
    rw [e1] at this
    rw [show ((q0 * 256 + q1) * 65536) = q0 * 16777216 + q1 * 65536 by omega, ← this]
    simp
  have k2 : Go.bits .or .u32 (((q0 * 256 + q1) * 65536 : Nat) : Int) ((q2 : Int) * 256) = ((((q0 * 256 + q1) * 256 + q2) * 256 : Nat) : Int) := by
    have := or_bits ((q0 * 256 + q1) * 65536) (q2 * 256) (by omega) (by omega)
    rw [e2] at this
    rw [show (((q0 * 256 + q1) * 256 + q2) * 256) = (q0 * 256 + q1) * 65536 + q2 * 256 by omega, ← this]
    simp
  rw [k1, k2, or_bits _ _ (by omega) (by omega), e3]
end Go.Proofs.YtlhapohpedihjaaDoor.Sha
