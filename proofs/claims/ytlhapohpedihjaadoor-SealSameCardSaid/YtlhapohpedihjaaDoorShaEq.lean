/- Two lists of 32 bytes compared as arrays. -/
import Derived.Test.YtlhapohpedihjaaDoorShaAwake
import Derived.DeepKeys
namespace Go.Proofs.YtlhapohpedihjaaDoor.Sha
open Go.RowKit Go.Proofs.YtlhapohpedihjaaDoorW.PrintWords Go.Proofs.YtlhapohpedihjaaDoorW.PrintLast Go.Proofs.YtlhapohpedihjaaDoorW.PrintMore Go.Proofs.YtlhapohpedihjaaDoor.Arr
set_option linter.unusedVariables false
set_option linter.unusedSimpArgs false

theorem mapM_some {α β : Type} (f : α → Option β) (g : α → β) : ∀ xs : List α, (∀ x ∈ xs, f x = some (g x)) → xs.mapM f = some (xs.map g)
  | [], _ => rfl
  | x :: xs, h => by
    rw [List.mapM_cons, h x (List.mem_cons_self), mapM_some f g xs (fun y hy => h y (List.mem_cons_of_mem _ hy))]
    rfl
theorem cells32 : Tryd.prog.cellsOf 24 = 32 := by kernel_rfl
theorem cells1 : Tryd.prog.cellsOf 5 = 1 := by kernel_rfl
theorem keyLits32 (l : List Int) (hl : l.length = 32) (hb : Bytes l) : Tryd.prog.keyLits 2 24 (nums .u8 l) = some (l.map (Lit.int .u8)) := by
  unfold Program.keyLits
  rw [Tryd.underlying24]
  simp only [cells32, cells1, nums_length, hl, if_true]
  rw [mapM_some _ (fun i => [Lit.int .u8 (l.getD i 0)])]
  · simp only [Option.map_some, Option.some.injEq]
    apply List.ext_getElem?
    intro i
    rw [show ((List.range 32).map fun i => [Lit.int .u8 (l.getD i 0)]).flatten = (List.range 32).map fun i => Lit.int .u8 (l.getD i 0) by simp [← List.flatMap_def, List.flatMap_singleton']; rfl]
    simp only [List.getElem?_map]
    by_cases hi : i < 32
    · simp [hi, List.getD, hl]
    · simp [hi, List.getElem?_eq_none (show l.length ≤ i by omega)]
  · intro i hi
    have hi' : i < 32 := by simpa using hi
    have hx := getD_byte l hb i
    unfold Program.keyLits
    rw [Tryd.underlying5]
    have e : ((nums IntKind.u8 l).drop (i * 1)).take 1 = [.int .u8 (l.getD i 0)] := by
      rw [Nat.mul_one, List.take_one]
      simp [nums, List.getD, List.getElem?_eq_getElem (show i < l.length by omega)]
    rw [e]
    generalize l.getD i 0 = x at *
    have hw : (Lit.int .u8 x).wf = true := by
      show (decide ((0 : Int) ≤ x) && decide (x ≤ 255)) = true
      simp
      omega
    simp [hw]
theorem eq32 (l m : List Int) (hl : l.length = 32) (hm : m.length = 32) (hlb : Bytes l) (hmb : Bytes m) (w : World) :
    (Op.equalIn 10000 24 (.agg (numsA .u8 l)) (.agg (numsA .u8 m))).run Tryd.prog w = .ok (decide (l = m)) w := by
  have hf : ∀ l : List Int, l.length = 32 → (Value.agg (numsA .u8 l)).formed Tryd.prog 24 = true := fun l hl => by
    simp [Value.formed, Tryd.underlying24, cells32, numsA_size, hl]
  obtain ⟨r, hr, hiff⟩ := run_equalIn_deep (P := Tryd.prog) (10000 - 2) 2 24 (by kernel_rfl) w 2 2 (.agg (numsA .u8 l)) (.agg (numsA .u8 m)) (l.map (Lit.int .u8)) (m.map (Lit.int .u8)) (hf l hl) (hf m hm)
    (by rw [show (Value.agg (numsA .u8 l)).cells.toList = nums .u8 l from numsA_list _ _]; exact keyLits32 l hl hlb) (by rw [show (Value.agg (numsA .u8 m)).cells.toList = nums .u8 m from numsA_list _ _]; exact keyLits32 m hm hmb)
  rw [show 10000 = 10000 - 2 + 2 from rfl, hr]
  congr 1
  have inj : (l.map (Lit.int .u8) = m.map (Lit.int .u8)) ↔ l = m := by
    constructor
    · intro h
      exact List.map_inj_right (fun a b hab => by injection hab) |>.1 h
    · rintro rfl; rfl
  rw [inj] at hiff
  cases r
  · simp at hiff; simp [hiff]
  · simp at hiff; simp [hiff]
end Go.Proofs.YtlhapohpedihjaaDoor.Sha
