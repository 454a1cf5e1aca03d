/- Trees of keys, plainly: what split, join, walk come to. -/
import Derived.Test.YtcgfdnhocdcfjaaCmp
namespace Go.Proofs.Ytcgfdnhocdcfjaa.Hed
open Go.RowKit Go.Proofs.Ytcgfdnhocdcfjaa.Utf
set_option linter.unusedVariables false
set_option linter.unusedSimpArgs false

/-- A tree: a node's block, its key, its number, its weight, what is left and right. -/
inductive T where
  | nil
  | node (g : Nat) (k : ByteArray) (v : Int) (wt : Int) (l r : T)
namespace T
def size : T → Nat
  | nil => 0
  | node _ _ _ _ l r => l.size + r.size + 1
def blocks : T → List Nat
  | nil => []
  | node g _ _ _ l r => g :: (l.blocks ++ r.blocks)
abbrev Ent := ByteArray × Int
def ents : T → List Ent
  | nil => []
  | node _ k v _ l r => l.ents ++ (k, v) :: r.ents
def lt (a b : ByteArray) : Bool := decide (cmpB a b < 0)
def splitT : T → ByteArray → T × T
  | nil, _ => (nil, nil)
  | node g k v wt l r, key =>
    if lt k key then (node g k v wt l (splitT r key).1, (splitT r key).2) else ((splitT l key).1, node g k v wt (splitT l key).2 r)
/-- Whether a node is to stand above another one: of weights and keys. -/
def heavy (wa : Int) (ka : ByteArray) (wb : Int) (kb : ByteArray) : Bool := if wa = wb then lt ka kb else decide (wb < wa)
def joinT : T → T → T
  | nil, b => b
  | node g k v wt l r, nil => node g k v wt l r
  | node g k v wt l r, node g' k' v' wt' l' r' =>
    if heavy wt k wt' k' then node g k v wt l (joinT r (node g' k' v' wt' l' r')) else node g' k' v' wt' (joinT (node g k v wt l r) l') r'
  termination_by a b => a.size + b.size
  decreasing_by all_goals simp only [size]; omega
theorem split_ents (t : T) (key : ByteArray) : (splitT t key).1.ents ++ (splitT t key).2.ents = t.ents := by
  induction t with
  | nil => rfl
  | node g k v wt l r ihl ihr =>
    simp only [splitT]
    split
    · simp only [ents]
      rw [List.append_assoc, List.cons_append, ihr]
    · simp only [ents]
      rw [← List.append_assoc, ihl]
theorem split_size (t : T) (key : ByteArray) : (splitT t key).1.size + (splitT t key).2.size = t.size := by
  induction t with
  | nil => rfl
  | node g k v wt l r ihl ihr =>
    simp only [splitT]
    split <;> simp only [size] <;> omega
theorem split_blocks (t : T) (key : ByteArray) : ((splitT t key).1.blocks ++ (splitT t key).2.blocks).Perm t.blocks := by
  induction t with
  | nil => exact List.Perm.refl _
  | node g k v wt l r ihl ihr =>
    simp only [splitT]
    split
    · simp only [blocks, List.cons_append, List.append_assoc]
      exact (ihr.append_left _).cons _
    · simp only [blocks]
      refine List.perm_middle.trans ?_
      refine List.Perm.cons _ ?_
      rw [← List.append_assoc]
      exact ihl.append_right _
theorem join_ents (a b : T) : (joinT a b).ents = a.ents ++ b.ents := by
  fun_induction joinT a b with
  | case1 b => rfl
  | case2 g k v wt l r => simp [ents]
  | case3 g k v wt l r g' k' v' wt' l' r' h ih =>
    simp only [ents] at ih ⊢
    rw [ih]; simp
  | case4 g k v wt l r g' k' v' wt' l' r' h ih =>
    simp only [ents] at ih ⊢
    rw [ih]; simp
theorem join_size (a b : T) : (joinT a b).size = a.size + b.size := by
  fun_induction joinT a b with
  | case1 b => simp [size]
  | case2 g k v wt l r => simp [size]
  | case3 g k v wt l r g' k' v' wt' l' r' h ih => simp only [size] at ih ⊢; omega
  | case4 g k v wt l r g' k' v' wt' l' r' h ih => simp only [size] at ih ⊢; omega
theorem join_blocks (a b : T) : (joinT a b).blocks.Perm (a.blocks ++ b.blocks) := by
  fun_induction joinT a b with
  | case1 b => exact List.Perm.refl _
  | case2 g k v wt l r => simp [blocks]
  | case3 g k v wt l r g' k' v' wt' l' r' h ih =>
    simp only [blocks, List.cons_append, List.append_assoc] at ih ⊢
    exact (ih.append_left _).cons _
  | case4 g k v wt l r g' k' v' wt' l' r' h ih =>
    simp only [blocks] at ih ⊢
    refine (List.Perm.cons g' (ih.append_right r'.blocks)).trans ?_
    rw [List.append_assoc]
    exact List.perm_middle.symm
theorem size_ents (t : T) : t.ents.length = t.size := by
  induction t with
  | nil => rfl
  | node g k v wt l r ihl ihr => simp only [ents, size, List.length_append, List.length_cons]; omega
/-- What walk goes through from a key on. -/
def from_ : T → ByteArray → List Ent
  | nil, _ => []
  | node _ k v _ l r, key => if lt k key then from_ r key else from_ l key ++ (k, v) :: from_ r key
def rankT : T → ByteArray → Nat
  | nil, _ => 0
  | node _ k _ _ l r, key => if lt k key then l.size + 1 + rankT r key else rankT l key
def getT : T → ByteArray → Option Int
  | nil, _ => none
  | node _ k v _ l r, key => if lt key k then getT l key else if lt k key then getT r key else some v
end T
end Go.Proofs.Ytcgfdnhocdcfjaa.Hed
