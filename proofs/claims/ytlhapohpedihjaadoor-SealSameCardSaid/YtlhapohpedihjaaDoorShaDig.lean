/- SHA-256's padding and digest, on lists of bytes. Plain Lean. -/
import Derived.Test.YtlhapohpedihjaaDoorShaPure
namespace Go.Proofs.YtlhapohpedihjaaDoor.Sha
set_option linter.unusedVariables false
set_option linter.unusedSimpArgs false

def byt (bs : List Int) (i : Nat) : Nat := (bs.getD i 0).toNat
/-- A list of bytes. -/
def Bytes (l : List Int) : Prop := ∀ x ∈ l, 0 ≤ x ∧ x < 256
theorem byt_lt (bs : List Int) (h : Bytes bs) (i : Nat) : byt bs i < 256 := by
  unfold byt
  by_cases hi : i < bs.length
  · have := h (bs.getD i 0) (by simp [List.getD, hi])
    omega
  · simp [List.getD, List.getElem?_eq_none (Nat.le_of_not_lt hi)]
theorem byt_int (bs : List Int) (h : Bytes bs) (i : Nat) (hi : i < bs.length) : bs.getD i 0 = (byt bs i : Int) := by
  unfold byt
  have := h (bs.getD i 0) (by simp [List.getD, hi])
  omega
theorem Bytes.append {a b : List Int} (h : Bytes a) (k : Bytes b) : Bytes (a ++ b) := fun x hx => by
  rcases List.mem_append.1 hx with h1 | h1
  · exact h x h1
  · exact k x h1
theorem Bytes.cut {a : List Int} (h : Bytes a) (i n : Nat) : Bytes ((a.drop i).take n) := fun x hx => h x (List.mem_of_mem_drop (List.mem_of_mem_take hx))

def need (n : Nat) : Nat := (119 - n % 64) % 64
theorem need_end (n : Nat) : (n + 1 + need n) % 64 = 56 := by unfold need; omega
theorem need_ne (n z : Nat) (h : z < need n) : (n + 1 + z) % 64 ≠ 56 := by unfold need at h; omega
theorem need_lt (n : Nat) : need n < 64 := by unfold need; omega
/-- The lowest k bytes of a number, the highest first. -/
def lastN (N k : Nat) : List Int := (List.range k).reverse.map fun i => ((N / 256 ^ i % 256 : Nat) : Int)
theorem lastN_zero (N : Nat) : lastN N 0 = [] := rfl
theorem lastN_succ (N k : Nat) : lastN N (k + 1) = ((N / 256 ^ k % 256 : Nat) : Int) :: lastN N k := by
  simp [lastN, List.range_succ]
theorem lastN_length (N k : Nat) : (lastN N k).length = k := by simp [lastN]
theorem lastN_bytes (N k : Nat) : Bytes (lastN N k) := fun x hx => by
  simp only [lastN, List.mem_map] at hx
  obtain ⟨i, _, rfl⟩ := hx
  omega
def zerosL (z : Nat) : List Int := List.replicate z 0
def padA (b : List Int) (z : Nat) : List Int := b ++ [128] ++ zerosL z
theorem padA_zero (b : List Int) : padA b 0 = b ++ [128] := by simp [padA, zerosL]
theorem padA_succ (b : List Int) (z : Nat) : padA b z ++ [0] = padA b (z + 1) := by
  simp [padA, zerosL, List.replicate_succ']
theorem padA_length (b : List Int) (z : Nat) : (padA b z).length = b.length + 1 + z := by simp [padA, zerosL]; omega
def padL (b : List Int) : List Int := padA b (need b.length) ++ lastN (b.length * 8) 8
theorem padL_length (b : List Int) : (padL b).length = b.length + 9 + need b.length := by
  rw [padL, List.length_append, padA_length, lastN_length]; omega
theorem padL_blocks (b : List Int) : (padL b).length % 64 = 0 := by
  rw [padL_length]
  have := need_end b.length
  omega
theorem padL_bytes (b : List Int) (h : Bytes b) : Bytes (padL b) := by
  refine Bytes.append (Bytes.append (Bytes.append h fun x hx => ?_) fun x hx => ?_) (lastN_bytes _ _)
  · simp only [List.mem_singleton] at hx; omega
  · have := List.eq_of_mem_replicate hx; omega

def start : S8 := ⟨1779033703, 3144134277, 1013904242, 2773480762, 1359893119, 2600822924, 528734635, 1541459225⟩
theorem start_ok : start.ok := by unfold start S8.ok; decide
def cutL (all : List Int) (m : Nat) : List Int := (all.drop (64 * m)).take 64
theorem cutL_length (all : List Int) (m : Nat) (h : 64 * m + 64 ≤ all.length) : (cutL all m).length = 64 := by simp [cutL]; omega
def stL (all : List Int) : Nat → S8
  | 0 => start
  | m + 1 => takeN (stL all m) (byt (cutL all m))
theorem stL_ok (all : List Int) : ∀ m, (stL all m).ok
  | 0 => start_ok
  | m + 1 => takeN_ok _ _
/-- Byte j of eight words. -/
def outAt (s : S8) (j : Nat) : Int := ((s.list.getD (j / 4) 0).toNat / 256 ^ (3 - j % 4) % 256 : Nat)
def outL (s : S8) : List Int := (List.range 32).map (outAt s)
theorem outL_length (s : S8) : (outL s).length = 32 := by simp [outL]
theorem outL_bytes (s : S8) : Bytes (outL s) := fun x hx => by
  simp only [outL, List.mem_map] at hx
  obtain ⟨i, _, rfl⟩ := hx
  unfold outAt
  omega
/-- The bytes, when of word i those from k on are there. -/
def outP (s : S8) (i k : Nat) : List Int := (List.range 32).map fun j => if j < 4 * i ∨ (4 * i + k ≤ j ∧ j < 4 * i + 4) then outAt s j else 0
def outF (s : S8) (n : Nat) : List Int := (List.range 32).map fun j => if j < n then outAt s j else 0
theorem outP_length (s : S8) (i k : Nat) : (outP s i k).length = 32 := by simp [outP]
theorem outF_length (s : S8) (n : Nat) : (outF s n).length = 32 := by simp [outF]
theorem outP_four (s : S8) (i : Nat) : outP s i 4 = outF s (4 * i) := by
  refine List.map_congr_left fun j _ => ?_
  by_cases h : j < 4 * i
  · rw [if_pos (.inl h), if_pos h]
  · rw [if_neg (by omega), if_neg h]
theorem outP_zero (s : S8) (i : Nat) : outP s i 0 = outF s (4 * (i + 1)) := by
  refine List.map_congr_left fun j _ => ?_
  by_cases h : j < 4 * (i + 1)
  · rw [if_pos (by omega), if_pos h]
  · rw [if_neg (by omega), if_neg h]
theorem outP_set (s : S8) (i k : Nat) (hi : i < 8) (hk : k < 4) : (outP s i (k + 1)).set (4 * i + k) (outAt s (4 * i + k)) = outP s i k := by
  apply List.ext_getElem
  · simp [outP]
  · intro j h1 h2
    rw [List.getElem_set]
    by_cases h : 4 * i + k = j
    · subst h
      rw [if_pos rfl]
      simp only [outP, List.getElem_map, List.getElem_range]
      rw [if_pos (by omega)]
    · rw [if_neg h]
      simp only [outP, List.getElem_map, List.getElem_range]
      by_cases h3 : j < 4 * i ∨ (4 * i + (k + 1) ≤ j ∧ j < 4 * i + 4)
      · rw [if_pos h3, if_pos (by omega)]
      · rw [if_neg h3, if_neg (by omega)]
theorem outF_all (s : S8) : outF s 32 = outL s := by
  refine List.map_congr_left fun j hj => ?_
  rw [if_pos (by simpa using hj)]
theorem outAt_word (s : S8) (i k : Nat) (hk : k < 4) : outAt s (4 * i + k) = ((s.list.getD i 0).toNat / 256 ^ (3 - k) % 256 : Nat) := by
  unfold outAt
  rw [show (4 * i + k) / 4 = i by omega, show (4 * i + k) % 4 = k by omega]
def digL (b : List Int) : List Int := outL (stL (padL b) ((padL b).length / 64))
theorem digL_length (b : List Int) : (digL b).length = 32 := outL_length _
theorem digL_bytes (b : List Int) : Bytes (digL b) := outL_bytes _

/-! ### the seal -/
/-- A key, cut to 64 bytes and padded. -/
def keyL (key : List Int) : List Int := if 64 < key.length then digL key else key
theorem keyL_length (key : List Int) : (keyL key).length ≤ 64 := by
  unfold keyL
  split
  · rw [digL_length]; omega
  · omega
theorem keyL_bytes (key : List Int) (h : Bytes key) : Bytes (keyL key) := by
  unfold keyL
  split
  · exact digL_bytes _
  · exact h
def xorB (x c : Int) : Int := ((x.toNat ^^^ c.toNat : Nat) : Int)
def maskL (key : List Int) (c : Int) (n : Nat) : List Int := (List.range n).map fun i => xorB (key.getD i 0) c
theorem maskL_length (key : List Int) (c : Int) (n : Nat) : (maskL key c n).length = n := by simp [maskL]
theorem maskL_succ (key : List Int) (c : Int) (n : Nat) : maskL key c (n + 1) = maskL key c n ++ [xorB (key.getD n 0) c] := by simp [maskL, List.range_succ]
theorem xorB_lt (x c : Int) (h0 : 0 ≤ x) (hx : x < 256) (hc : c < 256) : 0 ≤ xorB x c ∧ xorB x c < 256 := by
  unfold xorB
  have : x.toNat ^^^ c.toNat < 2 ^ 8 := Nat.xor_lt_two_pow (by omega) (by omega)
  omega
theorem getD_byte (l : List Int) (h : Bytes l) (i : Nat) : 0 ≤ l.getD i 0 ∧ l.getD i 0 < 256 := by
  by_cases hi : i < l.length
  · exact h _ (by simp [List.getD, hi])
  · simp [List.getD, List.getElem?_eq_none (Nat.le_of_not_lt hi)]
theorem maskL_bytes (key : List Int) (c : Int) (n : Nat) (h : Bytes key) (hc : c < 256) : Bytes (maskL key c n) := fun x hx => by
  simp only [maskL, List.mem_map] at hx
  obtain ⟨i, _, rfl⟩ := hx
  exact xorB_lt _ _ (getD_byte _ h i).1 (getD_byte _ h i).2 hc
def sealL (key b : List Int) : List Int := digL (maskL (keyL key) 92 64 ++ digL (maskL (keyL key) 54 64 ++ b))
theorem sealL_length (key b : List Int) : (sealL key b).length = 32 := digL_length _
theorem numN_xor (x y : Nat) (hx : x < 4294967296) (hy : y < 4294967296) : numN (oddF (ofN x) (ofN y) ((List.range 32).map fun _ => false)) = x ^^^ y := by
  refine (eq_numN _ _ ?_ fun i hi => ?_).symm
  · rw [show (4294967296 : Nat) = 2 ^ 32 from rfl]
    exact Nat.xor_lt_two_pow (by simpa using hx) (by simpa using hy)
  · rw [Nat.testBit_xor, bitAt_ofN _ _ hi, bitAt_ofN _ _ hi, bitAt_map _ i hi]
    simp
end Go.Proofs.YtlhapohpedihjaaDoor.Sha
