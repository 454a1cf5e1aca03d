/- What a call has turned: the named blocks alone, and what is new. Any program. -/
import Derived.Test.YtcgfdnhocdcfjaaRow
import Derived.Deep.AppendLies
import Derived.Maps.AppendAt
namespace Go.Proofs.Ytcgfdnhocdcfjaa.Arr
open Go.RowKit Go.Proofs.YtcgfdnhocdcfjaaW.PrintWords
set_option linter.unusedVariables false
set_option linter.unusedSimpArgs false

/-- Of the elder blocks those of S alone may have turned. -/
structure Only (S : List Nat) (w w' : World) : Prop where mk ::
  os : w'.os = w.os
  tape : w'.tape = w.tape
  output : w'.output = w.output
  size : w.heap.size ≤ w'.heap.size
  block : ∀ k, k < w.heap.size → k ∉ S → w'.heap[k]? = w.heap[k]?
namespace Only
variable {S S' : List Nat} {w w1 w2 : World}
theorem refl (S : List Nat) (w : World) : Only S w w := ⟨rfl, rfl, rfl, Nat.le_refl _, fun _ _ _ => rfl⟩
theorem of_below (h : Below w.heap.size w w1) (S : List Nat) : Only S w w1 := ⟨h.os, h.tape, h.output, h.size, fun k hk _ => h.block k hk⟩
theorem below {B : Nat} (h : Only S w w1) (hB : B ≤ w.heap.size) (hS : ∀ k, k ∈ S → B ≤ k) : Below B w w1 :=
  ⟨h.os, h.tape, h.output, h.size, fun k hk => h.block k (by omega) (fun hm => by have := hS k hm; omega)⟩
theorem nil (h : Only [] w w1) : Below w.heap.size w w1 := h.below (Nat.le_refl _) (fun k hk => by cases hk)
theorem trans (h : Only S w w1) (h' : Only S' w1 w2) (hS : ∀ k, k ∈ S' → k ∈ S ∨ w.heap.size ≤ k) : Only S w w2 :=
  ⟨h'.os.trans h.os, h'.tape.trans h.tape, h'.output.trans h.output, Nat.le_trans h.size h'.size, fun k hk hn =>
    (h'.block k (Nat.lt_of_lt_of_le hk h.size) (fun hm => by rcases hS k hm with h1 | h1; exact hn h1; omega)).trans (h.block k hk hn)⟩
theorem mono (h : Only S w w1) (hS : ∀ k, k ∈ S → k ∈ S' ∨ w.heap.size ≤ k) : Only S' w w1 :=
  ⟨h.os, h.tape, h.output, h.size, fun k hk hn => h.block k hk (fun hm => by rcases hS k hm with h1 | h1; exact hn h1; omega)⟩
theorem alloc (h : Only S w w1) (o : Obj) : Only S w (w1.alloc o) :=
  h.trans (of_below ((Below.refl _ _).alloc (Nat.le_refl _) o) []) (fun k hk => by cases hk)
theorem drew (h : Only S w w1) : Only S w w1.drew := ⟨h.os, h.tape, h.output, h.size, h.block⟩
theorem drewN (h : Only S w w1) (n : Nat) : Only S w (w1.drewN n) := ⟨h.os, h.tape, h.output, h.size, h.block⟩
theorem setCell (h : Only S w w1) {p : Addr} (hp : p.block ∈ S ∨ w.heap.size ≤ p.block) (u : Value) : Only S w (w1.setCell p u) :=
  ⟨h.os, h.tape, h.output, by simpa [World.setCell] using h.size, fun k hk hn => (Below.heap_setCell w1 p u k (fun e => by subst e; rcases hp with hp | hp; exact hn hp; omega)).trans (h.block k hk hn)⟩
theorem grown {row : Option Nat} (h : Only S w w1) (hg : w1.grownBy w2 row) (hr : ∀ k, row = some k → k ∈ S ∨ w.heap.size ≤ k) : Only S w w2 :=
  ⟨hg.os.trans h.os, hg.tape.trans h.tape, hg.output.trans h.output, Nat.le_trans h.size hg.size, fun k hk hn =>
    (hg.block k (Nat.lt_of_lt_of_le hk h.size) (fun e => by rcases hr k e.symm with h1 | h1; exact hn h1; omega)).trans (h.block k hk hn)⟩
theorem step (h : Only S w w1) (hb : Below w1.heap.size w1 w2) : Only S w w2 := h.trans (of_below hb []) (fun k hk => by cases hk)
theorem at_ {k : Nat} {o : Obj} (h : Only S w w1) (hk : w.heap[k]? = some o) (hn : k ∉ S) : w1.heap[k]? = some o := (h.block k (blk_lt hk) hn).trans hk
end Only
theorem Blk.only {w w1 : World} {g : Nat} {T : TypeId} {cs : Array Value} {S : List Nat} (h : Blk w g T cs) (ho : Only S w w1) (hn : g ∉ S) : Blk w1 g T cs := ⟨ho.at_ h.out hn⟩
theorem Blk.ne {w : World} {g g' : Nat} {t t' : TypeId} {cs cs' : Array Value} (h : Blk w g t cs) (h' : Blk w g' t' cs') (hne : t ≠ t') : g ≠ g' := blk_ne h.out h'.out hne
/-- The block of a slice's row, as a list. -/
def rowB (v : Value) : List Nat := v.ownBlock.toList
theorem own_only {w w1 : World} {base : Nat} {e : TypeId} {size n : Nat} {v : Value} {xs : List Value} {S : List Nat} (h : w.ownsRow base e size v n xs) (ho : Only S w w1) (hn : ∀ k, k ∈ rowB v → k ∉ S) : w1.ownsRow base e size v n xs :=
  own_move h fun k hk => ho.block k (own_lt h k hk) (hn k (by simp [rowB, hk]))
theorem rowB_lt {w : World} {base : Nat} {e : TypeId} {size n : Nat} {v : Value} {xs : List Value} (h : w.ownsRow base e size v n xs) : ∀ k, k ∈ rowB v → k < w.heap.size := fun k hk => own_lt h k (by simpa [rowB] using hk)
end Go.Proofs.Ytcgfdnhocdcfjaa.Arr
