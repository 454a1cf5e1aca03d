/- Tied bytes: plain facts: what is tied is taken. No program. -/
import Derived.Test.YtmilpfccgggmkaaDoorKin
namespace Go.Proofs.YtmilpfccgggmkaaDoor.Knt
open Go.RowKit Go.Proofs.YtmilpfccgggmkaaDoorW.PrintWords Go.Proofs.YtmilpfccgggmkaaDoor.Arr
set_option linter.unusedVariables false
set_option linter.unusedSimpArgs false

theorem nDig_le : ∀ (k n : Nat), n < 10 ^ (k + 1) → Lib.nDigits n ≤ k + 1 := by
  intro k
  induction k with
  | zero => intro n h; rw [Lib.nDigits_small (by simpa using h)]; omega
  | succ k ih =>
    intro n h
    by_cases h10 : n < 10
    · rw [Lib.nDigits_small h10]; omega
    · rw [Lib.nDigits_big h10]
      have : n / 10 < 10 ^ (k + 1) := by rw [Nat.pow_succ] at h; omega
      have := ih _ this
      omega
theorem nDig_17 (n : Nat) (h : n < 100000000000000000) : Lib.nDigits n ≤ 17 := nDig_le 16 n h
theorem nDig_pos (n : Nat) : 1 ≤ Lib.nDigits n := by
  by_cases h : n < 10
  · rw [Lib.nDigits_small h]; omega
  · rw [Lib.nDigits_big h]; omega
theorem dec_small {n : Nat} (h : n < 10) : Lib.decDigits n = [UInt8.ofNat (48 + n)] := Lib.decDigits_one h
theorem dec_big {n : Nat} (h : ¬ n < 10) : Lib.decDigits n = Lib.decDigits (n / 10) ++ [UInt8.ofNat (48 + n % 10)] := by rw [Lib.decDigits, dif_neg h]
theorem digit_nat (d : Nat) (h : d < 10) : (UInt8.ofNat (48 + d)).toNat = 48 + d := by
  rw [UInt8.toNat_ofNat']
  omega
theorem numR_dec (z : Bool) (most : Int) : ∀ (k n : Nat) (m : List UInt8), n < 10 ^ (k + 1) → k ≤ 16 → numR z most (Lib.decDigits n ++ m) 0 0 = numR z most m n (Lib.nDigits n) := by
  intro k
  induction k with
  | zero =>
    intro n m h _
    have h10 : n < 10 := by simpa using h
    rw [dec_small h10, Lib.nDigits_small h10]
    simp only [List.cons_append, List.nil_append, numR]
    rw [digit_nat n h10, if_neg (by omega), if_neg (by omega)]
    congr 1
    omega
  | succ k ih =>
    intro n m h hk
    by_cases h10 : n < 10
    · rw [dec_small h10, Lib.nDigits_small h10]
      simp only [List.cons_append, List.nil_append, numR]
      rw [digit_nat n h10, if_neg (by omega), if_neg (by omega)]
      congr 1
      omega
    · have h' : n / 10 < 10 ^ (k + 1) := by rw [Nat.pow_succ] at h; omega
      have hd := nDig_le k _ h'
      rw [dec_big h10, Lib.nDigits_big h10, List.append_assoc, ih _ _ h' (by omega)]
      simp only [List.cons_append, List.nil_append, numR]
      rw [digit_nat (n % 10) (by omega), if_neg (by omega), if_neg (by omega)]
      congr 1
      omega
theorem dec_head : ∀ (k n : Nat), n < 10 ^ (k + 1) → ∃ c m, Lib.decDigits n = c :: m ∧ (c.toNat = 48 → n = 0) := by
  intro k
  induction k with
  | zero =>
    intro n h
    have h10 : n < 10 := by simpa using h
    exact ⟨_, [], dec_small h10, fun e => by rw [digit_nat n h10] at e; omega⟩
  | succ k ih =>
    intro n h
    by_cases h10 : n < 10
    · exact ⟨_, [], dec_small h10, fun e => by rw [digit_nat n h10] at e; omega⟩
    · have h' : n / 10 < 10 ^ (k + 1) := by rw [Nat.pow_succ] at h; omega
      obtain ⟨c, m, e1, e2⟩ := ih _ h'
      refine ⟨c, m ++ [UInt8.ofNat (48 + n % 10)], by rw [dec_big h10, e1]; rfl, fun e => ?_⟩
      have := e2 e
      omega
/-- A number that was tied is taken. -/
theorem numP_num (n : Nat) (hn : n < 100000000000000000) (most : Int) (hm : (n : Int) ≤ most) (r : List UInt8) : numP most (numT n ++ r) = some (n, r) := by
  obtain ⟨c, m, e1, e2⟩ := dec_head 16 n hn
  unfold numP numT
  rw [List.append_assoc, numR_dec _ most 16 n _ hn (by omega)]
  simp only [List.cons_append, List.nil_append, numR]
  have hp := nDig_pos n
  rw [if_pos]
  refine ⟨by decide, by omega, hm, ?_⟩
  by_cases h0 : n = 0
  · subst h0
    exact .inl (Lib.nDigits_small (by omega))
  · refine .inr ?_
    unfold zeroB
    rw [e1]
    simp only [List.cons_append, List.headD_cons]
    exact beq_eq_false_iff_ne.2 (fun e => h0 (e2 e))
theorem numT_inj {n n' : Nat} {r r' : List UInt8} (hn : n < 100000000000000000) (hn' : n' < 100000000000000000) (h : numT n ++ r = numT n' ++ r') : n = n' ∧ r = r' := by
  have h1 := numP_num n hn 100000000000000000 (by omega) r
  rw [h, numP_num n' hn' 100000000000000000 (by omega) r'] at h1
  simp only [Option.some.injEq, Prod.mk.injEq] at h1
  exact ⟨h1.1.symm, h1.2.symm⟩
theorem textT_inj {s t : ByteArray} {r r' : List UInt8} (hs : s.size < 100000000000000000) (ht : t.size < 100000000000000000) (h : textT s ++ r = textT t ++ r') : s = t ∧ r = r' := by
  unfold textT at h
  rw [List.append_assoc, List.append_assoc, List.append_assoc, List.append_assoc] at h
  obtain ⟨h1, h2⟩ := numT_inj hs ht h
  have h3 := List.append_inj h2 (by rw [size_list, size_list, h1])
  refine ⟨ByteArray.ext (Array.toList_inj.1 h3.1), ?_⟩
  simpa using h3.2
theorem texts_eq (s t x y : ByteArray) (hs : s.size < 100000000000000000) (ht : t.size < 100000000000000000) (hx : x.size < 100000000000000000) (hy : y.size < 100000000000000000) : (textT s ++ textT x = textT t ++ textT y) ↔ (s = t ∧ x = y) := by
  constructor
  · intro h
    obtain ⟨h1, h2⟩ := textT_inj hs ht h
    have h2' : textT x ++ [] = textT y ++ [] := by rw [h2]
    exact ⟨h1, (textT_inj hx hy h2').1⟩
  · rintro ⟨rfl, rfl⟩
    rfl
end Go.Proofs.YtmilpfccgggmkaaDoor.Knt
