/- What the digest and the seal are at the inputs of awake: a quick way to work them out in the kernel. -/
import Derived.Test.YtlhapohpedihjaaDoorShaDig
namespace Go.Proofs.YtlhapohpedihjaaDoor.Sha
set_option linter.unusedVariables false
set_option linter.unusedSimpArgs false

/-- n, worked out first. -/
def force {α : Type} (n : Nat) (k : Nat → α) : α := match n with | 0 => k 0 | m + 1 => k (m + 1)
theorem force_eq {α : Type} (n : Nat) (k : Nat → α) : force n k = k n := by cases n <;> rfl
def nextW (l : List Nat) : Nat := (l.getD 15 0 + mixN (l.getD 14 0) 7 18 3 true + l.getD 6 0 + mixN (l.getD 1 0) 17 19 10 true) % 4294967296
def firstW (b : Nat → Nat) : Nat → List Nat → List Nat
  | 0, l => l
  | k + 1, l => force (beN b (15 - k)) fun x => firstW b k (x :: l)
def moreW : Nat → List Nat → List Nat
  | 0, l => l
  | k + 1, l => force (nextW l) fun x => moreW k (x :: l)
def revW (b : Nat → Nat) (n : Nat) : List Nat := (List.range n).reverse.map (W b)
theorem revW_succ (b : Nat → Nat) (n : Nat) : revW b (n + 1) = W b n :: revW b n := by simp [revW, List.range_succ]
theorem firstW_eq (b : Nat → Nat) : ∀ k, k ≤ 16 → firstW b k (revW b (16 - k)) = revW b 16
  | 0, _ => rfl
  | k + 1, h => by
    unfold firstW
    rw [force_eq, ← W_small b (15 - k) (by omega), show 16 - (k + 1) = 15 - k by omega, ← revW_succ, show 15 - k + 1 = 16 - k by omega]
    exact firstW_eq b k (by omega)
theorem revW_at (b : Nat → Nat) (n i : Nat) (h : i < n) : (revW b n).getD i 0 = W b (n - 1 - i) := by
  simp [revW, List.getD, List.getElem?_map, List.getElem?_reverse, h]
theorem nextW_eq (b : Nat → Nat) (n : Nat) (h : 16 ≤ n) : nextW (revW b n) = W b n := by
  unfold nextW
  rw [revW_at b n 15 (by omega), revW_at b n 14 (by omega), revW_at b n 6 (by omega), revW_at b n 1 (by omega), W_great b n h, show n - 1 - 15 = n - 16 by omega, show n - 1 - 14 = n - 15 by omega, show n - 1 - 6 = n - 7 by omega, show n - 1 - 1 = n - 2 by omega]
theorem moreW_eq (b : Nat → Nat) : ∀ k n, 16 ≤ n → moreW k (revW b n) = revW b (n + k)
  | 0, _, _ => rfl
  | k + 1, n, h => by
    unfold moreW
    rw [force_eq, nextW_eq b n h, ← revW_succ, moreW_eq b k (n + 1) (by omega), show n + 1 + k = n + (k + 1) by omega]
def allW (b : Nat → Nat) : List Nat := (moreW 48 (firstW b 16 [])).reverse
theorem allW_eq (b : Nat → Nat) : allW b = (List.range 64).map (W b) := by
  have h1 := firstW_eq b 16 (Nat.le_refl _)
  have h2 := moreW_eq b 48 16 (Nat.le_refl _)
  unfold allW
  rw [show ([] : List Nat) = revW b (16 - 16) from rfl, h1, h2]
  simp [revW, ← List.map_reverse]
def forceS {α : Type} (s : S8) (k : S8 → α) : α := force s.a fun a => force s.b fun b => force s.c fun c => force s.d fun d => force s.e fun e => force s.f fun f => force s.g fun g => force s.h fun h => k ⟨a, b, c, d, e, f, g, h⟩
theorem forceS_eq {α : Type} (s : S8) (k : S8 → α) : forceS s k = k s := by simp only [forceS, force_eq]
def quickR : List Nat → List Nat → S8 → S8
  | k :: ks, w :: ws, s => forceS (stepN s k w) fun s' => quickR ks ws s'
  | _, _, s => s
theorem quickR_eq (b : Nat → Nat) (s : S8) : ∀ n i, i + n = 64 → quickR (keysL.drop i) (((List.range 64).map (W b)).drop i) (roundsN b s i) = roundsN b s 64
  | 0, i, h => by
    obtain rfl : i = 64 := by omega
    rw [List.drop_of_length_le (by rw [keysL_length]; omega)]
    rfl
  | n + 1, i, h => by
    have e1 : keysL.drop i = keyN i :: keysL.drop (i + 1) := by
      rw [List.drop_eq_getElem_cons (by rw [keysL_length]; omega)]
      simp [keyN, List.getD, List.getElem?_eq_getElem (show i < keysL.length by rw [keysL_length]; omega)]
    have e2 : ((List.range 64).map (W b)).drop i = W b i :: ((List.range 64).map (W b)).drop (i + 1) := by
      rw [List.drop_eq_getElem_cons (by simp; omega)]
      simp
    rw [e1, e2]
    unfold quickR
    rw [forceS_eq]
    exact quickR_eq b s n (i + 1) (by omega)
def quickT (s : S8) (b : Nat → Nat) : S8 := forceS (addN s (quickR keysL (allW b) s)) fun s' => s'
theorem quickT_eq (s : S8) (b : Nat → Nat) : quickT s b = takeN s b := by
  unfold quickT takeN
  rw [forceS_eq, allW_eq]
  exact congrArg (addN s) (quickR_eq b s 64 0 rfl)
def quickL (L : List Int) : Nat → S8
  | 0 => start
  | m + 1 => quickT (quickL L m) (byt (cutL L m))
theorem quickL_eq (L : List Int) : ∀ m, quickL L m = stL L m
  | 0 => rfl
  | m + 1 => by
    unfold quickL
    rw [quickT_eq, quickL_eq L m]
    rfl
def quickD (b : List Int) : List Int := outL (quickL (padL b) ((padL b).length / 64))
theorem quickD_eq (b : List Int) : quickD b = digL b := by unfold quickD digL; rw [quickL_eq]
theorem empty_digest : (digL []).take 4 = [227, 176, 196, 66] := by
  rw [← quickD_eq]
  decide +kernel
def jefe : List Int := [74, 101, 102, 101]
def what : List Int := [119, 104, 97, 116, 32, 100, 111, 32, 121, 97, 32, 119, 97, 110, 116, 32, 102, 111, 114, 32, 110, 111, 116, 104, 105, 110, 103, 63]
theorem jefe_inner : digL (maskL (keyL jefe) 54 64 ++ what) = [162, 228, 133, 134, 61, 39, 249, 216, 100, 172, 141, 128, 36, 50, 161, 237, 71, 125, 140, 76, 111, 52, 157, 22, 212, 231, 233, 23, 198, 41, 202, 215] := by
  rw [← quickD_eq]
  decide +kernel
theorem jefe_seal : (sealL jefe what).take 4 = [91, 220, 193, 70] := by
  unfold sealL
  rw [jefe_inner, ← quickD_eq]
  decide +kernel
end Go.Proofs.YtlhapohpedihjaaDoor.Sha
