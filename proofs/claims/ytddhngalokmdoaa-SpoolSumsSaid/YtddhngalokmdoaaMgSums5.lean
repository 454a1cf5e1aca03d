/- Texts of this claim, merged: Sur, Suv, Sl1, Opb. -/
import Derived.Test.YtddhngalokmdoaaMgSums1
import Derived.Test.YtddhngalokmdoaaMgSums4
import Derived.ChangeSlices
import Derived.WalkKit
import Derived.ProofKit
import Derived.OpenShut
/- The checksum: what the document's Sum comes to: the program's. -/
namespace Go.Proofs.Ytddhngalokmdoaa.Spo
open Go.RowKit Go.Proofs.YtddhngalokmdoaaW.PrintWords Go.Proofs.YtddhngalokmdoaaW.PrintLast Go.Proofs.YtddhngalokmdoaaW.PrintMore Go.Proofs.Ytddhngalokmdoaa.Arr Go.Proofs.Ytddhngalokmdoaa.PSpoolPlays
set_option linter.unusedVariables false
set_option linter.unusedSimpArgs false

theorem xor_half (a b : Nat) : a ^^^ b = 2 * ((a / 2) ^^^ (b / 2)) + (if a % 2 = b % 2 then 0 else 1) := by
  have h1 : (a ^^^ b) / 2 = (a / 2) ^^^ (b / 2) := Nat.xor_div_two
  have h2 : (a ^^^ b) % 2 = (a + b) % 2 := by
    have h := Nat.xor_mod_two_pow (a := a) (b := b) (n := 1)
    rw [Nat.pow_one] at h
    rw [h]
    rcases Nat.mod_two_eq_zero_or_one a with h1 | h1 <;> rcases Nat.mod_two_eq_zero_or_one b with h2 | h2 <;> rw [h1, h2] <;> first | (show _ = _; have : (0 : Nat) ^^^ 0 = 0 := rfl; omega) | (have : (0 : Nat) ^^^ 1 = 1 := rfl; omega) | (have : (1 : Nat) ^^^ 0 = 1 := rfl; omega) | (have : (1 : Nat) ^^^ 1 = 0 := rfl; omega)
  have h3 := Nat.div_add_mod (a ^^^ b) 2
  rw [h1] at h3
  split <;> omega
theorem turned_ev (d : Nat) : ∀ (i a b out k : Nat), i + d = 32 → a < 4294967296 → b < 4294967296 → a < 2 ^ d → b < 2 ^ d → out < 2 ^ i → d < k →
    stileref13_turned.l0 k (a : Int) (b : Int) (out : Int) ((2 ^ i : Nat) : Int) (i : Int) = some ((out + 2 ^ i * (a ^^^ b) : Nat) : Int) := by
  induction d with
  | zero =>
    intro i a b out k hi ha hb ha' hb' ho hk
    obtain ⟨k, rfl⟩ : ∃ j, k = j + 1 := ⟨k - 1, by omega⟩
    simp only [stileref13_turned.l0]
    rw [if_neg (by omega)]
    have : a = 0 := by simpa using ha'
    have : b = 0 := by simpa using hb'
    subst_vars
    simp
  | succ d ih =>
    intro i a b out k hi ha hb ha' hb' ho hk
    obtain ⟨k, rfl⟩ : ∃ j, k = j + 1 := ⟨k - 1, by omega⟩
    have hi31 : i ≤ 31 := by omega
    have hp : (2 : Nat) ^ i ≤ 2 ^ 31 := Nat.pow_le_pow_right (by decide) hi31
    have hp2 : (2 : Nat) ^ (i + 1) = 2 * 2 ^ i := by rw [Nat.pow_succ]; omega
    have hp31 : (2 : Nat) ^ 31 = 2147483648 := rfl
    have c1 : (i : Int) < 32 := by omega
    have E : (IntKind.u64.wrap (Int.tdiv (a : Int) 2) = ((a / 2 : Nat) : Int)) ∧ True := ⟨by rw [Int.tdiv_eq_ediv_of_nonneg (by omega), IntWalk.u64_in _ (by omega)]; omega, trivial⟩
    clear E
    have e1 : IntKind.u64.wrap (Int.tdiv (a : Int) 2) = ((a / 2 : Nat) : Int) := by
      rw [Int.tdiv_eq_ediv_of_nonneg (by omega), IntWalk.u64_in _ (by omega)]; omega
    have e2 : IntKind.u64.wrap (Int.tdiv (b : Int) 2) = ((b / 2 : Nat) : Int) := by
      rw [Int.tdiv_eq_ediv_of_nonneg (by omega), IntWalk.u64_in _ (by omega)]; omega
    have e3 : IntKind.u64.wrap (((2 ^ i : Nat) : Int) * 2) = ((2 ^ (i + 1) : Nat) : Int) := by
      rw [hp2, IntWalk.u64_in _ (by omega)]; omega
    have e4 : wrap64 ((i : Int) + 1) = ((i + 1 : Nat) : Int) := by rw [w64s _ (by omega) (by omega)]; omega
    have e5 : IntKind.u64.wrap ((out : Int) + ((2 ^ i : Nat) : Int)) = ((out + 2 ^ i : Nat) : Int) := by
      rw [IntWalk.u64_in _ (by omega)]; omega
    have m1 : Int.tmod (a : Int) 2 = ((a % 2 : Nat) : Int) := by rw [Int.tmod_eq_emod_of_nonneg (by omega)]; omega
    have m2 : Int.tmod (b : Int) 2 = ((b % 2 : Nat) : Int) := by rw [Int.tmod_eq_emod_of_nonneg (by omega)]; omega
    have hd1 : (2 : Nat) ^ (d + 1) = 2 * 2 ^ d := by rw [Nat.pow_succ]; omega
    unfold stileref13_turned.l0
    rw [if_pos c1, e1, e2, e3, e4, e5, m1, m2]
    clear e1 e2 e3 e4 e5 m1 m2
    have hx := xor_half a b
    by_cases h : a % 2 = b % 2
    · rw [if_pos (by rw [h]), ih (i + 1) (a / 2) (b / 2) out k (by omega) (by omega) (by omega) (by omega) (by omega) (by omega) (by omega), hx, if_pos h, hp2, Nat.add_zero]
      congr 2
      rw [Nat.mul_assoc, Nat.mul_left_comm]
    · rw [if_neg (by omega), ih (i + 1) (a / 2) (b / 2) (out + 2 ^ i) k (by omega) (by omega) (by omega) (by omega) (by omega) (by omega) (by omega), hx, if_neg h, hp2]
      congr 2
      obtain ⟨z, hz⟩ : ∃ z, (a / 2) ^^^ (b / 2) = z := ⟨_, rfl⟩
      obtain ⟨p, hp⟩ : ∃ p, 2 ^ i = p := ⟨_, rfl⟩
      rw [hz, hp, Nat.mul_add, Nat.mul_one, Nat.mul_assoc, Nat.mul_left_comm]
      omega
theorem turned_f (a b : Nat) (ha : a < 4294967296) (hb : b < 4294967296) (k : Nat) (hk : 33 ≤ k) : stileref13_turned.f k (a : Int) (b : Int) = some ((a ^^^ b : Nat) : Int) := by
  have := turned_ev 32 0 a b 0 k rfl ha hb (by simpa using ha) (by simpa using hb) (by decide) (by omega)
  unfold stileref13_turned.f
  simpa using this
/-- The document's step: the sum, and the byte apart. -/
def refBit (c x : Nat) : Nat := if (decide (c ≥ 2147483648) != decide (x ≥ 128)) = true then (c * 2 % 4294967296) ^^^ 79764919 else c * 2 % 4294967296
theorem bit_same (c x : Nat) (hc : c < 4294967296) (hx : x < 256) : crcBit (c ^^^ (x * 16777216)) = refBit c x ^^^ ((x * 2 % 256) * 16777216) := by
  have hy : x * 16777216 < 4294967296 := by omega
  obtain ⟨y, hyy⟩ : ∃ y, x * 16777216 = y := ⟨_, rfl⟩
  have h1 : (c ^^^ y) * 2 % 4294967296 = (c * 2 % 4294967296) ^^^ (y * 2 % 4294967296) := by
    have e1 : (c ^^^ y) * 2 = (c * 2) ^^^ (y * 2) := by
      have := Nat.shiftLeft_xor_distrib (a := c) (b := y) (i := 1)
      simpa [Nat.shiftLeft_eq] using this
    rw [e1]
    exact Nat.xor_mod_two_pow (n := 32)
  have h2 : y * 2 % 4294967296 = (x * 2 % 256) * 16777216 := by omega
  have h3 : ((c ^^^ y) ≥ 2147483648) ↔ ((decide (c ≥ 2147483648) != decide (x ≥ 128)) = true) := by
    have e1 : (c ^^^ y) / 2 ^ 31 = (c / 2 ^ 31) ^^^ (y / 2 ^ 31) := Nat.xor_div_two_pow
    have e2 : (2 : Nat) ^ 31 = 2147483648 := by decide
    rw [e2] at e1
    have hl : c ^^^ y < 4294967296 := Nat.xor_lt_two_pow (n := 32) hc (by omega)
    by_cases a1 : c ≥ 2147483648
    · have f1 : c / 2147483648 = 1 := by omega
      by_cases a2 : x ≥ 128
      · have f2 : y / 2147483648 = 1 := by omega
        rw [f1, f2] at e1
        have : (1 : Nat) ^^^ 1 = 0 := by decide
        rw [this] at e1
        simp only [a1, a2, decide_true, bne_self_eq_false, Bool.false_eq_true, iff_false]
        omega
      · have f2 : y / 2147483648 = 0 := by omega
        rw [f1, f2] at e1
        have : (1 : Nat) ^^^ 0 = 1 := by decide
        rw [this] at e1
        simp only [a1, a2, decide_true, decide_false]
        constructor
        · intro _; rfl
        · intro _; omega
    · have f1 : c / 2147483648 = 0 := by omega
      by_cases a2 : x ≥ 128
      · have f2 : y / 2147483648 = 1 := by omega
        rw [f1, f2] at e1
        have : (0 : Nat) ^^^ 1 = 1 := by decide
        rw [this] at e1
        simp only [a1, a2, decide_true, decide_false]
        constructor
        · intro _; rfl
        · intro _; omega
      · have f2 : y / 2147483648 = 0 := by omega
        rw [f1, f2] at e1
        have : (0 : Nat) ^^^ 0 = 0 := by decide
        rw [this] at e1
        simp only [a1, a2, decide_false, bne_self_eq_false, Bool.false_eq_true, iff_false]
        omega
  unfold crcBit refBit
  rw [hyy, h1, h2]
  by_cases h : (decide (c ≥ 2147483648) != decide (x ≥ 128)) = true
  · rw [if_pos (h3.2 h), if_pos h, Nat.xor_assoc, Nat.xor_assoc, Nat.xor_comm 79764919]
  · rw [if_neg (fun h' => h (h3.1 h')), if_neg h, Nat.xor_zero]
end Go.Proofs.Ytddhngalokmdoaa.Spo

/- The checksum: the document's Sum, whole. -/
namespace Go.Proofs.Ytddhngalokmdoaa.Spo
open Go.RowKit Go.Proofs.YtddhngalokmdoaaW.PrintWords Go.Proofs.YtddhngalokmdoaaW.PrintLast Go.Proofs.YtddhngalokmdoaaW.PrintMore Go.Proofs.Ytddhngalokmdoaa.Arr Go.Proofs.Ytddhngalokmdoaa.PSpoolPlays
set_option linter.unusedVariables false
set_option linter.unusedSimpArgs false

theorem refBit_lt (c x : Nat) : refBit c x < 4294967296 := by
  unfold refBit
  split
  · exact Nat.xor_lt_two_pow (n := 32) (Nat.mod_lt _ (by decide)) (by decide)
  · exact Nat.mod_lt _ (by decide)
/-- Eight steps of the document. -/
def refBits : Nat → Nat → Nat → Nat
  | 0, c, _ => c
  | k + 1, c, x => refBits k (refBit c x) (x * 2 % 256)
theorem refBits_same : ∀ (k c x : Nat), c < 4294967296 → x < 256 → crcBits k (c ^^^ (x * 16777216)) = refBits k c x ^^^ ((x * 2 ^ k % 256) * 16777216)
  | 0, c, x, hc, hx => by
    show c ^^^ (x * 16777216) = c ^^^ ((x * 1 % 256) * 16777216)
    rw [Nat.mul_one, Nat.mod_eq_of_lt hx]
  | k + 1, c, x, hc, hx => by
    show crcBits k (crcBit (c ^^^ (x * 16777216))) = refBits k (refBit c x) (x * 2 % 256) ^^^ _
    rw [bit_same c x hc hx, refBits_same k _ _ (refBit_lt c x) (Nat.mod_lt _ (by decide))]
    congr 2
    rw [Nat.pow_succ, Nat.mod_mul_mod, Nat.mul_assoc, Nat.mul_comm (2 ^ k) 2]
theorem refByte (c x : Nat) (hc : c < 4294967296) (hx : x < 256) : crcByte c x = refBits 8 c x := by
  unfold crcByte
  rw [refBits_same 8 c x hc hx]
  have : x * 2 ^ 8 % 256 = 0 := Nat.mul_mod_left x 256
  rw [this, Nat.zero_mul, Nat.xor_zero]
theorem ref_sum_ev (l : List Int) (hB : Bytes l) (hl : l.length ≤ 1000000000) : ∀ (d i c k : Nat), i + d = l.length → c < 4294967296 → 50 * d + 50 ≤ k → stileref13_Sum.l0 k l (c : Int) (l.length : Int) (i : Int) = some ((sumN (l.drop i) c : Nat) : Int)
  | 0, i, c, k + 1, hi, hc, hk => by
    simp only [stileref13_Sum.l0]
    rw [if_neg (by omega), List.drop_eq_nil_of_le (by omega)]
    show some ((c : Int) % 4294967296) = some (c : Int)
    congr 1
    omega
  | d + 1, i, c, k + 1, hi, hc, hk => by
    have hil : i < l.length := by omega
    obtain ⟨h1, h2⟩ := hB.rd i hil
    simp only [stileref13_Sum.l0]
    rw [if_pos (by omega), if_pos (by omega), if_pos (by omega), h1, w64s _ (by omega) (by omega)]
    have inner : ∀ (b t c' x' k' : Nat), t + b = 8 → c' < 4294967296 → x' < 256 → 50 * d + 50 + b + 1 ≤ k' → stileref13_Sum.l1 k' l (c' : Int) (x' : Int) (t : Int) (l.length : Int) (i : Int) = some ((sumN (l.drop (i + 1)) (refBits b c' x') : Nat) : Int) := by
      intro b
      induction b with
      | zero =>
        intro t c' x' k' ht hc' hx' hk'
        obtain ⟨k', rfl⟩ : ∃ j, k' = j + 1 := ⟨k' - 1, by omega⟩
        simp only [stileref13_Sum.l1]
        rw [if_neg (by omega), w64s _ (by omega) (by omega), show (i : Int) + 1 = ((i + 1 : Nat) : Int) by omega]
        exact ref_sum_ev l hB hl d (i + 1) c' k' (by omega) hc' (by omega)
      | succ b ih =>
        intro t c' x' k' ht hc' hx' hk'
        obtain ⟨k', rfl⟩ : ∃ j, k' = j + 1 := ⟨k' - 1, by omega⟩
        have q1 : (t : Int) < 8 := by omega
        have q8 : 33 ≤ k' := by omega
        have q9 : 50 * d + 50 + b + 1 ≤ k' := by omega
        have q10 : t + 1 + b = 8 := by omega
        have q2 : wrap64 ((t : Int) + 1) = ((t + 1 : Nat) : Int) := by rw [w64s _ (by omega) (by omega)]; omega
        have q3 : Int.tmod (wrap64 ((x' : Int) * 2)) 256 = ((x' * 2 % 256 : Nat) : Int) := by rw [w64s _ (by omega) (by omega), Int.tmod_eq_emod_of_nonneg (by omega)]; omega
        have q4 : Int.tmod (IntKind.u64.wrap ((c' : Int) * 2)) 4294967296 = ((c' * 2 % 4294967296 : Nat) : Int) := by rw [IntWalk.u64_in _ (by omega), Int.tmod_eq_emod_of_nonneg (by omega)]; omega
        have q5 : (decide ((c' : Int) ≥ 2147483648) != decide ((x' : Int) ≥ 128)) = (decide (c' ≥ 2147483648) != decide (x' ≥ 128)) := by
          congr 1 <;> (rw [Bool.eq_iff_iff, decide_eq_true_eq, decide_eq_true_eq]; omega)
        have q6 := Nat.mod_lt (c' * 2) (show 0 < 4294967296 by decide)
        have q7 := Nat.mod_lt (x' * 2) (show 0 < 256 by decide)
        simp only [stileref13_Sum.l1]
        rw [if_pos q1, q2, q3, q4, q5]
        by_cases h : (decide (c' ≥ 2147483648) != decide (x' ≥ 128)) = true
        · rw [if_pos h, show (79764919 : Int) = ((79764919 : Nat) : Int) from rfl, turned_f _ _ q6 (by decide) k' q8, Option.bind_some]
          have e : refBit c' x' = (c' * 2 % 4294967296) ^^^ 79764919 := by unfold refBit; rw [if_pos h]
          rw [← e]
          exact ih (t + 1) (refBit c' x') (x' * 2 % 256) k' q10 (refBit_lt _ _) q7 q9
        · rw [if_neg h]
          have e : refBit c' x' = c' * 2 % 4294967296 := by unfold refBit; rw [if_neg h]
          rw [← e]
          exact ih (t + 1) (refBit c' x') (x' * 2 % 256) k' q10 (refBit_lt _ _) q7 q9
    have h0 := inner 8 0 c l[i].toNat k (by omega) hc h2 (by omega)
    rw [← refByte c _ hc h2] at h0
    rw [List.drop_eq_getElem_cons hil]
    exact h0
theorem ref_sum_f (l : List Int) (hB : Bytes l) (hl : l.length ≤ 1000000000) (k : Nat) (hk : 50 * l.length + 50 ≤ k) : stileref13_Sum.f k l = some (sumV l) := by
  have := ref_sum_ev l hB hl l.length 0 4294967295 k (by omega) (by decide) hk
  unfold stileref13_Sum.f sumV
  rw [List.drop_zero] at this
  exact this
end Go.Proofs.Ytddhngalokmdoaa.Spo

/- The law SpoolSums: its walk. -/
namespace Go.Proofs.Ytddhngalokmdoaa.Spo
open Go.RowKit Go.Proofs.YtddhngalokmdoaaW.PrintWords Go.Proofs.YtddhngalokmdoaaW.PrintLast Go.Proofs.YtddhngalokmdoaaW.PrintMore Go.Proofs.Ytddhngalokmdoaa.Arr Go.Proofs.Ytddhngalokmdoaa.PSpoolPlays
set_option linter.unusedVariables false
set_option linter.unusedSimpArgs false

set_option maxHeartbeats 8000000 in
set_option maxRecDepth 100000 in
theorem lawSums_calls (b : List Int) (hb : Bytes b) (A : Option Addr) (c : Nat) (w : World) (h : ReadsInt w .u8 A b.length b) (hc : b.length ≤ c) :
    Calls Try.prog 3 #[.slice A b.length c] w fun e w' => e = .returned (.bool true) ∧ Below w.heap.size w w' := by
  have HR := Aside0.mk h
  have HB := Aside0.mk hb
  obtain ⟨n, hn⟩ : ∃ n, b.length = n := ⟨_, rfl⟩
  have HN := Aside0.mk hn
  have HC := Aside0.mk hc
  rw [hn]
  clear h hn hb hc
  go_enter Try.func3, Try.ntmps3
  go_wp2_with fail
  refine (awake_calls w).mono ?_
  rintro e w1 ⟨rfl, b1⟩
  have B1 := Aside0.mk b1
  clear b1
  by_cases hl : n > 3000
  · have t1 : decide ((n : Int) > 3000) = true := decide_eq_true (by omega)
    clear hl
    go_wp2_with fail
    refine (awake_calls w1).mono ?_
    rintro e w2 ⟨rfl, b2⟩
    have B2 := Aside0.mk (B1.out.trans (b2.mono B1.out.size))
    clear b2
    go_wp2
    go_ret
    exact ⟨rfl, B2.out⟩
  · have t1 : decide ((n : Int) > 3000) = false := decide_eq_false (by omega)
    have KS := Aside0.mk (fun w' (hb' : Below w.heap.size w w') => sum_calls b HB.out (by have := HN.out; omega) A n c HN.out (by have := HC.out; have := HN.out; omega) w' (by have := HR.out.below hb'; rwa [HN.out] at this))
    have KR := Aside0.mk (fun w' (hb' : Below w.heap.size w w') => (stileref13_Sum.calls (50 * b.length + 50) A c b (sumV b) w' (Kd.C_of_reads (d := (0 : Int)) (HR.out.below hb')) HC.out (ref_sum_f b HB.out (by have := HN.out; omega) _ (Nat.le_refl _))))
    rw [HN.out] at KR
    clear hl
    go_wp2_with fail
    refine (KS.out w1 B1.out).mono ?_
    rintro e w2 ⟨rfl, b2⟩
    have B2 := Aside0.mk (B1.out.trans (b2.mono B1.out.size))
    clear b2
    go_wp2_with fail
    refine (KR.out w2 B2.out).mono ?_
    rintro e w3 ⟨rfl, b3⟩
    have B3 := Aside0.mk (B2.out.trans (b3.below.mono B2.out.size))
    clear b3
    go_wp2
    go_ret
    exact ⟨by simp, B3.out⟩
end Go.Proofs.Ytddhngalokmdoaa.Spo

/- What a slice of bytes that came in gives. Any program. -/
namespace Go.Proofs.Ytddhngalokmdoaa.Opb
open Go.ChangeShapes Go.WideShapes Go.ChangeAt Go.RowKit Go.Proofs.YtddhngalokmdoaaW.PrintWords
set_option linter.unusedVariables false
theorem open_bytes {H : Type} {enc : TypeId × Value → H} {P : Program} {W : World} {base : Nat} {sp : Nat → Bool} {held : Bool} {r : Reach} {b0 : Nat} {t e : TypeId} {v : Value} {d : DataW H} {ps : List MemPlace}
    (ht : P.underlying t = some (.slice e)) (he : P.underlying e = some (.int .u8)) (hc : P.cellsOf e = 1)
    (hv : Value.okWide P W r b0 t v) (h : DataW.Trod enc P W base sp held t v d ps) :
    ∃ (A : Option Addr) (cap : Nat) (l : List Int), v = .slice A l.length cap ∧ l.length ≤ cap ∧ cap ≤ maxLen ∧ ReadsInt W .u8 A l.length l ∧ ∀ x ∈ l, 0 ≤ x ∧ x < 256 := by
  obtain ⟨a1, len, cap, rfl⟩ := okWide_slice ht hv
  obtain ⟨fuel, hf⟩ := h
  rcases open_ints ht he hc hf with ⟨hcs, hx⟩ | ⟨a, len', cap', zs, hcs, _, hl, hm, hz, hx, hcell, hwz⟩
  · simp [Value.cells] at hcs
    obtain ⟨rfl, rfl, rfl⟩ := hcs
    exact ⟨none, 0, [], rfl, Nat.le_refl _, Nat.zero_le _, ⟨rfl, by simp, fun h => absurd h (Nat.lt_irrefl 0)⟩, fun x h => by cases h⟩
  · simp [Value.cells] at hcs
    obtain ⟨rfl, rfl, rfl⟩ := hcs
    have hzl : len ≤ zs.length := by rw [hz]; split <;> omega
    have hlen : (zs.take len).length = len := by simp; omega
    refine ⟨some a, cap, zs.take len, by rw [hlen], by rw [hlen]; exact hl, hm, ?_, fun x hx => ?_⟩
    · rw [hlen]
      refine ⟨hlen, by unfold maxLen at hm; omega, fun _ => ⟨a, rfl, fun j hj => ?_⟩⟩
      rw [hcell j (by omega)]
      simp [List.getD, hj]
    · have := hwz x (List.mem_of_mem_take hx)
      have h2 : (decide ((0 : Int) ≤ x) && decide (x ≤ 255)) = true := this
      simp at h2
      omega
end Go.Proofs.Ytddhngalokmdoaa.Opb
