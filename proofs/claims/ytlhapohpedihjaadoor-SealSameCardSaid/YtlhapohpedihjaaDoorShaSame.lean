/- The program's Same. -/
import Derived.Test.YtlhapohpedihjaaDoorShaSeal
import Derived.Deep.QuietTactic
import Derived.BigQuiet
import Derived.WalkSmall
namespace Go.Proofs.YtlhapohpedihjaaDoor.Sha
open Go.RowKit Go.Proofs.YtlhapohpedihjaaDoorW.PrintWords Go.Proofs.YtlhapohpedihjaaDoorW.PrintLast Go.Proofs.YtlhapohpedihjaaDoorW.PrintMore Go.Proofs.YtlhapohpedihjaaDoor.Arr
set_option linter.unusedVariables false
set_option linter.unusedSimpArgs false

def orB (x y : Int) : Int := ((x.toNat ||| y.toNat : Nat) : Int)
theorem or8_bits (x c : Int) (h0 : 0 ≤ x) (h1 : x < 256) (h2 : 0 ≤ c) (h3 : c < 256) : Go.bits .or .u8 x c = orB x c := by
  obtain ⟨a, rfl⟩ : ∃ a : Nat, (a : Int) = x := ⟨x.toNat, by omega⟩
  obtain ⟨b, rfl⟩ : ∃ b : Nat, (b : Int) = c := ⟨c.toNat, by omega⟩
  unfold Go.bits orB
  simp only [IntKind.wrap_u8]
  have b1 : (BitVec.ofInt IntKind.u8.bits (a : Int)) = BitVec.ofNat 8 a := by simp [IntKind.bits]
  have b2 : (BitVec.ofInt IntKind.u8.bits (b : Int)) = BitVec.ofNat 8 b := by simp [IntKind.bits]
  rw [b1, b2]
  show (((BitVec.ofNat 8 a ||| BitVec.ofNat 8 b).toNat : Nat) : Int) % 256 = _
  rw [BitVec.toNat_or, BitVec.toNat_ofNat, BitVec.toNat_ofNat, Nat.mod_eq_of_lt (by omega), Nat.mod_eq_of_lt (by omega)]
  have : a ||| b < 2 ^ 8 := Nat.or_lt_two_pow (by omega) (by omega)
  simp only [Int.toNat_natCast]
  omega
theorem orB_range (x c : Int) (h1 : x < 256) (h3 : c < 256) : 0 ≤ orB x c ∧ orB x c < 256 := by
  unfold orB
  have : x.toNat ||| c.toNat < 2 ^ 8 := Nat.or_lt_two_pow (by omega) (by omega)
  omega
theorem nat_or_zero (a b : Nat) : a ||| b = 0 ↔ a = 0 ∧ b = 0 := by
  constructor
  · intro h
    have h1 : a ≤ a ||| b := Nat.left_le_or
    have h2 : b ≤ a ||| b := Nat.right_le_or
    omega
  · rintro ⟨rfl, rfl⟩; rfl
theorem orB_zero (x a b : Int) (hx : 0 ≤ x) (ha : 0 ≤ a) (hb : 0 ≤ b) : orB x (xorB a b) = 0 ↔ x = 0 ∧ a = b := by
  unfold orB xorB
  rw [Int.toNat_natCast]
  have h1 := nat_or_zero x.toNat (a.toNat ^^^ b.toNat)
  have h2 : a.toNat ^^^ b.toNat = 0 ↔ a.toNat = b.toNat := by
    constructor
    · intro h
      have := congrArg (· ^^^ b.toNat) h
      simpa [Nat.xor_assoc] using this
    · intro h; rw [h]; simp
  constructor
  · intro h
    have := h1.1 (by omega)
    exact ⟨by omega, by have := h2.1 this.2; omega⟩
  · rintro ⟨rfl, rfl⟩
    have := h1.2 ⟨rfl, h2.2 rfl⟩
    omega
theorem take_same (aa bs : List Int) (k : Nat) (ha : k < aa.length) (hb : k < bs.length) : aa.take (k + 1) = bs.take (k + 1) ↔ aa.take k = bs.take k ∧ aa.getD k 0 = bs.getD k 0 := by
  rw [List.take_succ_eq_append_getElem ha, List.take_succ_eq_append_getElem hb]
  have e1 : aa.getD k 0 = aa[k] := by simp [List.getD, ha]
  have e2 : bs.getD k 0 = bs[k] := by simp [List.getD, hb]
  rw [e1, e2]
  constructor
  · intro h
    have := List.append_inj h (by simp; omega)
    exact ⟨this.1, by simpa using this.2⟩
  · rintro ⟨h1, h2⟩
    rw [h1, h2]
theorem same_ret {aa bs : List Int} {x : Int} (m : Nat) (ha : aa.length = m) (hb : bs.length = m) (h : x = 0 ↔ aa.take m = bs.take m) : Ending.returned (.bool (x == 0)) = .returned (.bool (decide (aa = bs))) := by
  rw [List.take_of_length_le (by omega), List.take_of_length_le (by omega)] at h
  by_cases hx : x = 0
  · rw [decide_eq_true (h.1 hx), hx]; rfl
  · rw [decide_eq_false (fun e => hx (h.2 e)), show (x == 0) = false by simpa using hx]

set_option maxRecDepth 100000 in
set_option maxHeartbeats 2000000 in
theorem same_calls (A : Option Addr) (m ca : Nat) (aa : List Int) (hm : aa.length = m) (ha8 : Bytes aa) (B : Option Addr) (n cb : Nat) (bs : List Int) (hn : bs.length = n) (hb8 : Bytes bs) (w : World) (hr : ReadsInt w .u8 A m aa) (hrb : ReadsInt w .u8 B n bs) :
    Calls Tryd.prog 12 #[.slice A m ca, .slice B n cb] w fun e w' => e = .returned (.bool (decide (aa = bs))) ∧ Below w.heap.size w w' := by
  have mx := hr.2.1
  have A8 := Aside0.mk ha8
  have B8 := Aside0.mk hb8
  have HR := Aside0.mk hr
  have HRB := Aside0.mk hrb
  clear ha8 hb8 hr hrb
  by_cases hmn : m = n
  · subst hmn
    have HM := Aside0.mk hm
    have HN := Aside0.mk hn
    clear hm hn
    have t0 : ((m : Int) != (m : Int)) = false := by simp
    go_enter Tryd.func12, Tryd.ntmps12
    go_wp2
    go_loopw [5, 14] (fun v5 v14 wr => ∃ (k : Nat) (x : Int), k ≤ m ∧ v14 = .int .i64 (k : Int) ∧ v5 = .int .u8 x ∧ 0 ≤ x ∧ x < 256 ∧ Aside0 (x = 0 ↔ aa.take k = bs.take k) ∧ Below w.heap.size w wr) (fun _ v14 _ => m - (intOf v14).toNat)
    case atStart => exact ⟨0, 0, by omega, rfl, rfl, by omega, by omega, ⟨by simp⟩, Below.refl _ _⟩
    case round =>
      obtain ⟨k, x, hk, rfl, rfl, hx0, hx1, hx, hb⟩ := hrel
      by_cases hlt : k < m
      · have tk : decide ((k : Int) < (m : Int)) = true := by simp; omega
        obtain ⟨pa, rfl, ca0⟩ := (HR.out.below hb).2.2 (by omega)
        obtain ⟨pb, rfl, cb0⟩ := (HRB.out.below hb).2.2 (by omega)
        have c1 := ca0 k hlt
        have c2 := cb0 k hlt
        clear ca0 cb0
        have r1 := getD_byte aa A8.out k
        have r2 := getD_byte bs B8.out k
        have hs := take_same aa bs k (by rw [HM.out]; exact hlt) (by rw [HN.out]; exact hlt)
        generalize aa.getD k 0 = y at *
        generalize bs.getD k 0 = z at *
        have HS := Aside0.mk hs
        clear hs
        obtain ⟨ry0, ry1⟩ := r1
        obtain ⟨rz0, rz1⟩ := r2
        have q1 := xor8_bits y z ry0 ry1 rz0 rz1
        have rx : 0 ≤ xorB y z ∧ xorB y z < 256 := by
          unfold xorB
          have : y.toNat ^^^ z.toNat < 2 ^ 8 := Nat.xor_lt_two_pow (by omega) (by omega)
          omega
        have q2 := or8_bits x (xorB y z) hx0 hx1 rx.1 rx.2
        have ro := orB_range x (xorB y z) hx1 rx.2
        have hz := Aside0.mk (orB_zero x y z hx0 ry0 rz0)
        have p0 : (0 : Int) ≤ (k : Int) := by omega
        have p1 : (k : Int) < (m : Int) := by omega
        obtain ⟨wo, rfl⟩ : ∃ wo : World, wo = wr := ⟨_, rfl⟩
        go_wp2
        go_quiet (fail)
        go_wp2
        go_roundw
        case rel => exact ⟨k + 1, orB x (xorB y z), by omega, by go_num, rfl, ro.1, ro.2, ⟨hz.out.trans (by rw [HS.out, hx.out])⟩, below_drewN hb _⟩
        case measure => simp [intOf]; omega
      · have tk : decide ((k : Int) < (m : Int)) = false := by simp; omega
        obtain rfl : k = m := by omega
        go_wp2
        go_ret
        exact ⟨same_ret k HM.out HN.out hx.out, hb⟩
  · have t0 : ((m : Int) != (n : Int)) = true := by simp; omega
    have hne : decide (aa = bs) = false := decide_eq_false (fun e => hmn (by rw [← hm, ← hn, e]))
    have HE := Aside0.mk hne
    clear hne hm hn
    go_enter Tryd.func12, Tryd.ntmps12
    go_wp2
    go_ret
    exact ⟨by first | (rw [HE.out]; done) | (have := HE.out; simpa using this), Below.refl _ _⟩
end Go.Proofs.YtlhapohpedihjaaDoor.Sha
