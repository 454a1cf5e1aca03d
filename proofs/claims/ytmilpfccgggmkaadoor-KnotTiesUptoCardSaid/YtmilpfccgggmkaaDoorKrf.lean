/- The reference of chapter 4 (printed) comes to the program's lists. -/
import Derived.Test.YtmilpfccgggmkaaDoorKtu
import Derived.IntWalk
namespace Go.Proofs.YtmilpfccgggmkaaDoor.Knt
open Go.RowKit Go.Proofs.YtmilpfccgggmkaaDoorW.PrintWords Go.Proofs.YtmilpfccgggmkaaDoorW.PrintLast Go.Proofs.YtmilpfccgggmkaaDoorW.PrintMore Go.Proofs.YtmilpfccgggmkaaDoor.Arr Go.Proofs.YtmilpfccgggmkaaDoor.PKnotTies
set_option linter.unusedVariables false
set_option linter.unusedSimpArgs false

theorem str_append (l m : List UInt8) : str l ++ str m = str (l ++ m) := by
  apply ByteArray.ext
  rw [ByteArray.data_append]
  simp [str]
theorem str_data (s : ByteArray) : str s.data.toList = s := str_list s
def lead (m : Nat) : List UInt8 := if m < 10 then [] else Lib.decDigits (m / 10)
theorem dec_lead (m : Nat) : Lib.decDigits m = lead m ++ [UInt8.ofNat (48 + m % 10)] := by
  unfold lead
  by_cases h : m < 10
  · rw [if_pos h, Lib.decDigits_one h, Nat.mod_eq_of_lt h]
    rfl
  · rw [if_neg h, Lib.decDigits, dif_neg h]
theorem digit_str (m : Nat) (hm : m < 9223372036854775808) : strOfNums [(wrap64 (48 + (Int.tmod (m : Int) 10))) % 256] = str [UInt8.ofNat (48 + m % 10)] := by
  rw [← strOfNums_str]
  congr 1
  have e : Int.tmod (m : Int) 10 = ((m % 10 : Nat) : Int) := by rw [Int.tmod_eq_emod_of_nonneg (by omega)]; omega
  rw [e, IntWalk.wrap64_in _ (by omega)]
  simp only [List.map_cons, List.map_nil, List.cons.injEq, and_true]
  rw [UInt8.toNat_ofNat']
  omega
theorem tdiv_ten (m : Nat) (hm : m < 9223372036854775808) : wrap64 (Int.tdiv (m : Int) 10) = ((m / 10 : Nat) : Int) := by
  rw [Int.tdiv_eq_ediv_of_nonneg (by omega), IntWalk.wrap64_in _ (by omega)]
  omega
theorem lead_len (m : Nat) (hm : m < 18446744073709551616) : (lead m).length ≤ 20 := by
  unfold lead
  split
  · simp
  · exact dig_len _ (by omega)
theorem dec_l0 : ∀ (k m : Nat) (t : List UInt8), m < 10 ^ k → m < 9223372036854775808 → t.length + (lead m).length + 1 ≤ 9223372036854775807 → stileref01_Decimal.l0 (k + 1) (m : Int) (str t) = some (str (lead m ++ t))
  | k, m, t, h1, h2, h4 => by
    rw [stileref01_Decimal.l0]
    by_cases h : m < 10
    · rw [if_neg (by omega)]
      unfold lead
      rw [if_pos h]
      rfl
    · rw [if_pos (by omega)]
      cases k with
      | zero => simp at h1; omega
      | succ k =>
        have hp : m / 10 < 10 ^ k := by rw [Nat.pow_succ] at h1; omega
        have el : lead m = lead (m / 10) ++ [UInt8.ofNat (48 + (m / 10) % 10)] := by
          conv => lhs; unfold lead
          rw [if_neg h, dec_lead]
        rw [el, List.length_append] at h4
        have ll := lead_len (m / 10) (by omega)
        simp only [Option.bind_some]
        rw [tdiv_ten m h2, digit_str (m / 10) (by omega), if_pos (by rw [str_size, str_size]; simp; omega), str_append]
        rw [dec_l0 k (m / 10) ([UInt8.ofNat (48 + m / 10 % 10)] ++ t) hp (by omega) (by simp at h4 ⊢; omega), el]
        simp
theorem dec_f (n : Nat) (hn : n < 9223372036854775808) : stileref01_Decimal.f 20 (n : Int) = some (str (Lib.decDigits n)) := by
  unfold stileref01_Decimal.f
  have ll := lead_len n (by omega)
  rw [digit_str n hn, dec_l0 19 n _ (by omega) hn (by simp; omega), ← dec_lead]
theorem le_mono {α : Type} {f : Nat → Option α} (hm : ∀ k, LeO (f k) (f (k + 1))) {r : α} {k : Nat} (h : f k = some r) : ∀ d, f (k + d) = some r
  | 0 => h
  | d + 1 => hm (k + d) r (le_mono hm h d)
theorem num_f (n : Nat) (hn : n < 9223372036854775808) : stileref04_Number.f 20 (n : Int) = some (str (numT n)) := by
  unfold stileref04_Number.f
  rw [dec_f n hn]
  have := dig_len n (by omega)
  simp only [Option.bind_some]
  rw [if_pos (by rw [str_size]; omega)]
  exact congrArg some (str_append _ [59])
theorem text_f (s : ByteArray) (hs : s.size < 9007199254740993) : stileref04_Text.f 20 s = some (str (textT s)) := by
  unfold stileref04_Text.f
  rw [num_f s.size (by omega)]
  have h1 := numT_len s.size (by omega)
  simp only [Option.bind_some]
  rw [if_pos (by rw [str_size]; omega), if_pos (by rw [ByteArray.size_append, str_size]; omega)]
  congr 1
theorem mark_f (b : Bool) : stileref04_Mark.f b = some (str (markT b)) := by
  cases b <;> rfl
theorem sub_f (a b c : ByteArray) (ha : a.size < 9007199254740993) (hb : b.size < 9007199254740993) (hc : c.size < 9007199254740993) : stileref04_Subject.f 20 a b c = some (str (subT a b c)) := by
  unfold stileref04_Subject.f
  have h1 := textT_len a (by omega)
  have h2 := textT_len b (by omega)
  have h3 := textT_len c (by omega)
  simp only [text_f a ha, text_f b hb, text_f c hc, Option.bind_some]
  rw [if_pos (by rw [str_size, str_size]; omega), if_pos (by rw [ByteArray.size_append, str_size, str_size, str_size]; omega), str_append, str_append]
  unfold subT
  rw [List.append_assoc]
theorem tup_f (x : S42) (h : sizeS x < 9007199254740993) : stileref04_Tuple.f 20 x.f0 x.f1 x.f2 x.f3.f0 x.f3.f1 x.f3.f2 = some (str (tupS x)) := by
  unfold sizeS sum6 at h
  unfold stileref04_Tuple.f
  have h1 := textT_len x.f0 (by omega)
  have h2 := textT_len x.f1 (by omega)
  have h3 := textT_len x.f2 (by omega)
  have h4 := subT_len x.f3.f0 x.f3.f1 x.f3.f2 (by omega) (by omega) (by omega)
  simp only [text_f x.f0 (by omega), text_f x.f1 (by omega), text_f x.f2 (by omega), sub_f x.f3.f0 x.f3.f1 x.f3.f2 (by omega) (by omega) (by omega), Option.bind_some]
  rw [if_pos (by rw [str_size, str_size]; omega), if_pos (by rw [ByteArray.size_append, str_size, str_size, str_size]; omega), if_pos (by rw [ByteArray.size_append, ByteArray.size_append, str_size, str_size, str_size, str_size]; omega), str_append, str_append, str_append]
  unfold tupS tupT
  rw [show textT x.f0 ++ textT x.f1 ++ textT x.f2 = subT x.f0 x.f1 x.f2 by unfold subT; rw [List.append_assoc]]
theorem tup_f_up (x : S42) (h : sizeS x < 9007199254740993) (d : Nat) : stileref04_Tuple.f (20 + d) x.f0 x.f1 x.f2 x.f3.f0 x.f3.f1 x.f3.f2 = some (str (tupS x)) :=
  le_mono (fun k => stileref04_Tuple.mono x.f0 x.f1 x.f2 x.f3.f0 x.f3.f1 x.f3.f2 k) (tup_f x h) d
theorem size_at (xs : List S42) (i : Nat) (hi : i < xs.length) : sizeS xs[i] ≤ total xs := by
  induction xs generalizing i with
  | nil => simp at hi
  | cons x xs ih =>
    cases i with
    | zero => simp [total]
    | succ i =>
      have := ih i (by simpa using hi)
      simp only [total, List.getElem_cons_succ]
      omega
theorem tups_l0 (xs : List S42) (ht : total xs < 9007199254740993) (hn : xs.length ≤ 1000000) (p : List UInt8) (hp : p.length + (flatS xs).length ≤ 9223372036854775807) : ∀ (d i : Nat), i + d = xs.length →
    stileref04_Tuples.l0 (21 + d) xs (str (p ++ flatS (xs.take i))) (xs.length : Int) (i : Int) = some (str (p ++ flatS xs))
  | 0, i, h => by
    show stileref04_Tuples.l0 (20 + 1) _ _ _ _ = _
    rw [stileref04_Tuples.l0, if_neg (by omega), show i = xs.length by omega, List.take_length]
  | d + 1, i, h => by
    have hi : i < xs.length := by omega
    obtain ⟨h', hrd⟩ := rd_at xs (i : Int) (by omega) (by omega)
    have hs := size_at xs i hi
    have hx : rd_T42 xs (i : Int) = xs[i] := by rw [hrd]; rfl
    have hft := flatS_take xs i hi
    have hfl := flatS_take_len xs (i + 1)
    rw [hft, List.length_append] at hfl
    show stileref04_Tuples.l0 (21 + d + 1) _ _ _ _ = _
    rw [stileref04_Tuples.l0, if_pos (by omega), if_pos (by omega), if_pos (by omega), hx, show 21 + d = 20 + (1 + d) by omega, tup_f_up xs[i] (by omega) (1 + d)]
    simp only [Option.bind_some]
    rw [if_pos (by rw [str_size, str_size, List.length_append]; omega), str_append, List.append_assoc, ← hft, IntWalk.wrap64_in _ (by omega), show 20 + (1 + d) = 21 + d by omega]
    exact tups_l0 xs ht hn p hp d (i + 1) (by omega)
theorem num_f_up (n : Nat) (hn : n < 9223372036854775808) (d : Nat) : stileref04_Number.f (20 + d) (n : Int) = some (str (numT n)) :=
  le_mono (fun k => stileref04_Number.mono (n : Int) k) (num_f n hn) d
theorem tups_f (xs : List S42) (ht : total xs < 9007199254740993) (hn : xs.length ≤ 1000000) : stileref04_Tuples.f (21 + xs.length) xs = some (str (tuplesT xs)) := by
  unfold stileref04_Tuples.f
  have h1 := flatS_len xs ht
  have h2 := numT_len xs.length (by omega)
  rw [show 21 + xs.length = 20 + (1 + xs.length) by omega, num_f_up xs.length (by omega)]
  simp only [Option.bind_some]
  have h3 := tups_l0 xs ht hn (numT xs.length) (by omega) xs.length 0 (by omega)
  simp only [List.take_zero, flatS, List.append_nil] at h3
  rw [show 20 + (1 + xs.length) = 21 + xs.length by omega]
  exact h3
end Go.Proofs.YtmilpfccgggmkaaDoor.Knt
