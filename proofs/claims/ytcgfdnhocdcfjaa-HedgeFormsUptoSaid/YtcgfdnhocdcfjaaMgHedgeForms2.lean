/- Texts of this claim, merged: Htm, Hsp, Hjo, Hcu, Hpu, Hpp, Hpq, Hwa, Hga, Hfr, Hli, Hll. -/
import Derived.Test.YtcgfdnhocdcfjaaShelf
import Derived.Test.YtcgfdnhocdcfjaaMgHedgeForms1
import Derived.Laws.Pointers
import Derived.WalkKit
import Derived.Below
import Derived.Lib.OthersKept
import Derived.WalkSmall
import Derived.Test.YtcgfdnhocdcfjaaPHedgePlaysx0
/- Trees of keys in memory; count, fix, heavier. -/
namespace Go.Proofs.Ytcgfdnhocdcfjaa.Hed
open Go.RowKit Go.Proofs.YtcgfdnhocdcfjaaW.PrintWords Go.Proofs.Ytcgfdnhocdcfjaa.Arr Go.Proofs.Ytcgfdnhocdcfjaa.Utf
set_option linter.unusedVariables false
set_option linter.unusedSimpArgs false

abbrev TNd : TypeId := 64
namespace T
def ptr : T → Value
  | nil => .pointer none
  | node g _ _ _ _ _ => .pointer (some ⟨g, 0, none⟩)
theorem ptr_nil : (nil : T).ptr = .pointer none := rfl
theorem ptr_node (g : Nat) (k : ByteArray) (v wt : Int) (l r : T) : (node g k v wt l r).ptr = .pointer (some ⟨g, 0, none⟩) := rfl
/-- A node's cells. -/
def cells (k : ByteArray) (v wt : Int) (s : Int) (l r : Value) : Array Value := #[.string k, .int .i64 v, .int .u64 wt, .int .i64 s, l, r]
/-- A tree in memory. -/
def At (w : World) : T → Prop
  | nil => True
  | node g k v wt l r => Blk w g TNd (cells k v wt ((l.size + r.size + 1 : Nat) : Int) l.ptr r.ptr) ∧ At w l ∧ At w r
theorem At.keep {w w1 : World} : ∀ {t : T}, At w t → (∀ k, k ∈ t.blocks → w1.heap[k]? = w.heap[k]?) → At w1 t
  | nil, _, _ => trivial
  | node g k v wt l r, h, hk => ⟨⟨(hk g (by simp [blocks])).trans h.1.out⟩, At.keep h.2.1 (fun j hj => hk j (by simp [blocks, hj])), At.keep h.2.2 (fun j hj => hk j (by simp [blocks, hj]))⟩
theorem At.lt {w : World} : ∀ {t : T}, At w t → ∀ k, k ∈ t.blocks → k < w.heap.size
  | nil, _, k, hk => by simp [blocks] at hk
  | node g _ _ _ l r, h, k, hk => by
    simp only [blocks, List.mem_cons, List.mem_append] at hk
    rcases hk with rfl | hk | hk
    · exact h.1.lt
    · exact At.lt h.2.1 k hk
    · exact At.lt h.2.2 k hk
theorem At.below {w w1 : World} {t : T} (h : At w t) (hb : Below w.heap.size w w1) : At w1 t := h.keep fun k hk => hb.block k (h.lt k hk)
theorem At.only {w w1 : World} {t : T} {S : List Nat} (h : At w t) (hb : Only S w w1) (hn : ∀ k, k ∈ t.blocks → k ∉ S) : At w1 t := h.keep fun k hk => hb.block k (h.lt k hk) (hn k hk)
theorem ptr_cases (t : T) : (t = nil ∧ t.ptr = .pointer none) ∨ ∃ g k v wt l r, t = node g k v wt l r ∧ t.ptr = .pointer (some ⟨g, 0, none⟩) := by
  cases t with
  | nil => exact .inl ⟨rfl, rfl⟩
  | node g k v wt l r => exact .inr ⟨g, k, v, wt, l, r, rfl, rfl⟩
theorem ptr_open (t : T) : ∃ p, t.ptr = .pointer p := by cases t <;> exact ⟨_, rfl⟩
end T
open T

theorem compare_calls (a b : ByteArray) (w : World) :
    Calls Try.prog 33 #[.string a, .string b] w fun e w' => e = .returned (.int .i64 (cmpB a b)) ∧ w' = w := by
  have C := fun w => Try.strings_Compare a b w
  rw [compareBytes_eq] at C
  have K := Aside0.mk C
  clear C
  go_enter Try.func33, Try.ntmps33
  go_wp2_with fail
  refine (K.out _).mono ?_
  rintro e w1 ⟨rfl, rfl⟩
  go_wp2
  go_ret
  exact ⟨rfl, rfl⟩
theorem count_calls (t : T) (w : World) (h : At w t) : Calls Try.prog 34 #[t.ptr] w fun e w' => e = .returned (.int .i64 (t.size : Int)) ∧ w' = w := by
  cases t with
  | nil =>
    go_enter Try.func34, Try.ntmps34
    simp only [ptr]
    go_wp2
    go_ret
    exact ⟨rfl, rfl⟩
  | node g k v wt l r =>
    have c3 : w.cell? ⟨g, 3, none⟩ = some (.int .i64 ((l.size + r.size + 1 : Nat) : Int)) := h.1.cell 3
    have cl := h.1.lt
    clear h
    simp only [ptr, T.size]
    obtain ⟨n, hn⟩ : ∃ n : Int, ((l.size + r.size + 1 : Nat) : Int) = n := ⟨_, rfl⟩
    rw [hn] at c3 ⊢
    clear hn
    go_enter Try.func34, Try.ntmps34
    go_wp2
    go_ret
    exact ⟨rfl, rfl⟩
theorem compare_below (a b : ByteArray) (w : World) :
    Calls Try.prog 33 #[.string a, .string b] w fun e w' => e = .returned (.int .i64 (cmpB a b)) ∧ Below w.heap.size w w' :=
  (compare_calls a b w).mono fun _ _ h => ⟨h.1, by rw [h.2]; exact Below.refl _ _⟩
theorem count_below (t : T) (w : World) (h : At w t) (p : Value) (hp : p = t.ptr) (n : Int) (hn : (t.size : Int) = n) : Calls Try.prog 34 #[p] w fun e w' => e = .returned (.int .i64 n) ∧ Below w.heap.size w w' := by
  subst hp
  subst hn
  exact (count_calls t w h).mono fun _ _ h => ⟨h.1, by rw [h.2]; exact Below.refl _ _⟩
theorem heavier_calls (g g' : Nat) (k k' : ByteArray) (v v' wt wt' s s' : Int) (l r l' r' : Value) (w : World) (h : Blk w g TNd (cells k v wt s l r)) (h' : Blk w g' TNd (cells k' v' wt' s' l' r')) :
    Calls Try.prog 37 #[.pointer (some ⟨g, 0, none⟩), .pointer (some ⟨g', 0, none⟩)] w fun e w' => e = .returned (.bool (heavy wt k wt' k')) ∧ Below w.heap.size w w' := by
  have H := Aside0.mk h
  have H' := Aside0.mk h'
  clear h h'
  by_cases hw : wt = wt'
  · have e1 : (wt != wt') = false := by simp [hw]
    have e2 : heavy wt k wt' k' = T.lt k k' := by unfold heavy; rw [if_pos hw]
    rw [e2]
    have HE := Aside0.mk e2
    have HC := Aside0.mk (fun w => compare_below k k' w)
    have e3 : decide (cmpB k k' < 0) = T.lt k k' := rfl
    obtain ⟨bb, hbb⟩ : ∃ bb, T.lt k k' = bb := ⟨_, rfl⟩
    rw [hbb] at e3 ⊢
    obtain ⟨cc, hcc⟩ : ∃ cc, cmpB k k' = cc := ⟨_, rfl⟩
    rw [hcc] at e3 HC
    clear hw e2 hbb hcc
    go_enter Try.func37, Try.ntmps37
    go_wp2_with fail
    refine Qt.wp_region_all (fun w' => Below w.heap.size w w') (by kernel_rfl) (by kernel_rfl) (Below.refl _ _).drew ?_
    iterate 9 ((first | (with_reducible refine Qt.q_val' rfl ?_) | ((with_reducible refine Qg.on_val' ?_); apply Exists.intro; apply Exists.intro; apply Exists.intro; refine ⟨?_, ?_, ?_, ?_⟩; (focus rfl); (focus rfl); (focus rfl))); apply Exists.intro; refine ⟨?_, ?_⟩; (focus (intro w' hw'; have h1 := H.out.below hw'; have h2 := H'.out.below hw'; have q0 : w'.cell? ⟨g, 0, none⟩ = some (.string k) := h1.cell 0; have q1 : w'.cell? ⟨g, 2, none⟩ = some (.int .u64 wt) := h1.cell 2; have q2 : w'.cell? ⟨g', 0, none⟩ = some (.string k') := h2.cell 0; have q3 : w'.cell? ⟨g', 2, none⟩ = some (.int .u64 wt') := h2.cell 2; have l1 := h1.lt; have l2 := h2.lt; go_simp; (first | done | (with_reducible rfl)))); intro K hK; go_simp; (first | (with_reducible refine hK _ ?_) | (refine hK _ ?_)); clear hK K)
    (refine wpQuiet_nil ?_; intro w' hw')
    obtain ⟨w1, rfl⟩ : ∃ w1, w1 = w' := ⟨_, rfl⟩
    have B1 := Aside0.mk hw'
    clear hw'
    go_wp2_with fail
    refine Qt.wp_region_all (fun w' => Below w.heap.size w w') (by kernel_rfl) (by kernel_rfl) B1.out.drew ?_
    iterate 10 ((first | (with_reducible refine Qt.q_val' rfl ?_) | ((with_reducible refine Qg.on_val' ?_); apply Exists.intro; apply Exists.intro; apply Exists.intro; refine ⟨?_, ?_, ?_, ?_⟩; (focus rfl); (focus rfl); (focus rfl))); apply Exists.intro; refine ⟨?_, ?_⟩; (focus (intro w' hw'; have h1 := H.out.below hw'; have h2 := H'.out.below hw'; have q0 : w'.cell? ⟨g, 0, none⟩ = some (.string k) := h1.cell 0; have q1 : w'.cell? ⟨g, 2, none⟩ = some (.int .u64 wt) := h1.cell 2; have q2 : w'.cell? ⟨g', 0, none⟩ = some (.string k') := h2.cell 0; have q3 : w'.cell? ⟨g', 2, none⟩ = some (.int .u64 wt') := h2.cell 2; have l1 := h1.lt; have l2 := h2.lt; go_simp; (first | done | (with_reducible rfl)))); intro K hK; go_simp; (first | (with_reducible refine hK _ ?_) | (refine hK _ ?_)); clear hK K)
    ((first | (with_reducible refine Qt.q_call' rfl ?_) | ((with_reducible refine Qg.on_call' ?_); apply Exists.intro; apply Exists.intro; apply Exists.intro; refine ⟨?_, ?_, ?_, ?_⟩; (focus rfl); (focus rfl); (focus rfl))); apply Exists.intro; apply Exists.intro; refine ⟨?_, ?_⟩; (focus (intro w'; go_simp; (first | rfl | exact ⟨rfl, rfl⟩))); apply Exists.intro; refine ⟨?_, ?_⟩; (focus (intro w' hw'; first | exact Qt.under hw' (HC.out _))); intro K hK; go_simp; (first | (with_reducible refine hK _ ?_) | (refine hK _ ?_)); clear hK K)
    iterate 2 ((first | (with_reducible refine Qt.q_val' rfl ?_) | ((with_reducible refine Qg.on_val' ?_); apply Exists.intro; apply Exists.intro; apply Exists.intro; refine ⟨?_, ?_, ?_, ?_⟩; (focus rfl); (focus rfl); (focus rfl))); apply Exists.intro; refine ⟨?_, ?_⟩; (focus (intro w' hw'; skip; go_simp; (first | done | (with_reducible rfl)))); intro K hK; go_simp; (first | (with_reducible refine hK _ ?_) | (refine hK _ ?_)); clear hK K)
    (refine wpQuiet_nil ?_; intro w' hw')
    have B2 := Aside0.mk hw'
    clear hw'
    go_wp2
    go_ret
    exact ⟨by first | rfl | simp [e3], B2.out⟩
  · have e1 : (wt != wt') = true := by simp [hw]
    have e2 : heavy wt k wt' k' = decide (wt' < wt) := by unfold heavy; rw [if_neg hw]
    rw [e2]
    clear hw e2
    go_enter Try.func37, Try.ntmps37
    go_wp2_with fail
    refine Qt.wp_region_all (fun w' => Below w.heap.size w w') (by kernel_rfl) (by kernel_rfl) (Below.refl _ _).drew ?_
    iterate 9 ((first | (with_reducible refine Qt.q_val' rfl ?_) | ((with_reducible refine Qg.on_val' ?_); apply Exists.intro; apply Exists.intro; apply Exists.intro; refine ⟨?_, ?_, ?_, ?_⟩; (focus rfl); (focus rfl); (focus rfl))); apply Exists.intro; refine ⟨?_, ?_⟩; (focus (intro w' hw'; have h1 := H.out.below hw'; have h2 := H'.out.below hw'; have q0 : w'.cell? ⟨g, 0, none⟩ = some (.string k) := h1.cell 0; have q1 : w'.cell? ⟨g, 2, none⟩ = some (.int .u64 wt) := h1.cell 2; have q2 : w'.cell? ⟨g', 0, none⟩ = some (.string k') := h2.cell 0; have q3 : w'.cell? ⟨g', 2, none⟩ = some (.int .u64 wt') := h2.cell 2; have l1 := h1.lt; have l2 := h2.lt; go_simp; (first | done | (with_reducible rfl)))); intro K hK; go_simp; (first | (with_reducible refine hK _ ?_) | (refine hK _ ?_)); clear hK K)
    (refine wpQuiet_nil ?_; intro w' hw')
    obtain ⟨w1, rfl⟩ : ∃ w1, w1 = w' := ⟨_, rfl⟩
    have B1 := Aside0.mk hw'
    clear hw'
    go_wp2_with fail
    refine Qt.wp_region_all (fun w' => Below w.heap.size w w') (by kernel_rfl) (by kernel_rfl) B1.out.drew ?_
    iterate 10 ((first | (with_reducible refine Qt.q_val' rfl ?_) | ((with_reducible refine Qg.on_val' ?_); apply Exists.intro; apply Exists.intro; apply Exists.intro; refine ⟨?_, ?_, ?_, ?_⟩; (focus rfl); (focus rfl); (focus rfl))); apply Exists.intro; refine ⟨?_, ?_⟩; (focus (intro w' hw'; have h1 := H.out.below hw'; have h2 := H'.out.below hw'; have q0 : w'.cell? ⟨g, 0, none⟩ = some (.string k) := h1.cell 0; have q1 : w'.cell? ⟨g, 2, none⟩ = some (.int .u64 wt) := h1.cell 2; have q2 : w'.cell? ⟨g', 0, none⟩ = some (.string k') := h2.cell 0; have q3 : w'.cell? ⟨g', 2, none⟩ = some (.int .u64 wt') := h2.cell 2; have l1 := h1.lt; have l2 := h2.lt; go_simp; (first | done | (with_reducible rfl)))); intro K hK; go_simp; (first | (with_reducible refine hK _ ?_) | (refine hK _ ?_)); clear hK K)
    (refine wpQuiet_nil ?_; intro w' hw')
    have B2 := Aside0.mk hw'
    clear hw'
    go_wp2
    go_ret
    exact ⟨by first | rfl | simp, B2.out⟩
theorem fix_calls (g : Nat) (k : ByteArray) (v wt s : Int) (l r : T) (w : World) (h : Blk w g TNd (cells k v wt s l.ptr r.ptr)) (hl : At w l) (hr : At w r) (hz : l.size + r.size ≤ 1000000) :
    Calls Try.prog 27 #[.pointer (some ⟨g, 0, none⟩)] w fun e w' => e = .returned (.pointer (some ⟨g, 0, none⟩)) ∧ Blk w' g TNd (cells k v wt ((l.size + r.size + 1 : Nat) : Int) l.ptr r.ptr) ∧ Only [g] w w' := by
  have H := Aside0.mk h
  obtain ⟨lp, hlp⟩ := ptr_open l
  obtain ⟨rp, hrp⟩ := ptr_open r
  have HL := Aside0.mk (fun w' (hb : Below w.heap.size w w') => count_below l w' (hl.below hb) (.pointer lp) hlp.symm (l.size : Int) rfl)
  have HR := Aside0.mk (fun w' (hb : Below w.heap.size w w') => count_below r w' (hr.below hb) (.pointer rp) hrp.symm (r.size : Int) rfl)
  rw [hlp, hrp] at H ⊢
  have hs : IntKind.i64.wrap (IntKind.i64.wrap ((l.size : Int) + (r.size : Int)) + 1) = ((l.size + r.size + 1 : Nat) : Int) := by
    have e1 := IntWalk.i64_in ((l.size + r.size : Nat) : Int) (by omega)
    have e2 := IntWalk.i64_in ((l.size + r.size + 1 : Nat) : Int) (by omega)
    rw [show (l.size : Int) + (r.size : Int) = ((l.size + r.size : Nat) : Int) by omega, e1, show ((l.size + r.size : Nat) : Int) + 1 = ((l.size + r.size + 1 : Nat) : Int) by omega]
    exact e2
  clear h hl hr hlp hrp hz
  obtain ⟨nl, hnl⟩ : ∃ n : Int, (l.size : Int) = n := ⟨_, rfl⟩
  obtain ⟨nr, hnr⟩ : ∃ n : Int, (r.size : Int) = n := ⟨_, rfl⟩
  obtain ⟨ns, hns⟩ : ∃ n : Int, ((l.size + r.size + 1 : Nat) : Int) = n := ⟨_, rfl⟩
  rw [hnl] at HL hs
  rw [hnr] at HR hs
  rw [hns] at hs ⊢
  clear hnl hnr hns
  go_enter Try.func27, Try.ntmps27
  go_wp2_with fail
  refine Qt.wp_region_tail (fun w' => Below w.heap.size w w') 13 (by kernel_rfl) (by kernel_rfl) (Below.refl _ _).drew ?_
  simp only [List.take_succ_cons, List.take_zero, List.drop_succ_cons, List.drop_zero]
  iterate 5 ((first | (with_reducible refine Qt.q_val' rfl ?_) | ((with_reducible refine Qg.on_val' ?_); apply Exists.intro; apply Exists.intro; apply Exists.intro; refine ⟨?_, ?_, ?_, ?_⟩; (focus rfl); (focus rfl); (focus rfl))); apply Exists.intro; refine ⟨?_, ?_⟩; (focus (intro w' hw'; have h1 := H.out.below hw'; have q4 : w'.cell? ⟨g, 4, none⟩ = some (.pointer lp) := h1.cell 4; have l1 := h1.lt; go_simp; (first | done | (with_reducible rfl)))); intro K hK; go_simp; (first | (with_reducible refine hK _ ?_) | (refine hK _ ?_)); clear hK K)
  ((first | (with_reducible refine Qt.q_call' rfl ?_) | ((with_reducible refine Qg.on_call' ?_); apply Exists.intro; apply Exists.intro; apply Exists.intro; refine ⟨?_, ?_, ?_, ?_⟩; (focus rfl); (focus rfl); (focus rfl))); apply Exists.intro; apply Exists.intro; refine ⟨?_, ?_⟩; (focus (intro w'; go_simp; (first | rfl | exact ⟨rfl, rfl⟩))); apply Exists.intro; refine ⟨?_, ?_⟩; (focus (intro w' hw'; first | exact Qt.under hw' (HL.out _ hw'))); intro K hK; go_simp; (first | (with_reducible refine hK _ ?_) | (refine hK _ ?_)); clear hK K)
  iterate 4 ((first | (with_reducible refine Qt.q_val' rfl ?_) | ((with_reducible refine Qg.on_val' ?_); apply Exists.intro; apply Exists.intro; apply Exists.intro; refine ⟨?_, ?_, ?_, ?_⟩; (focus rfl); (focus rfl); (focus rfl))); apply Exists.intro; refine ⟨?_, ?_⟩; (focus (intro w' hw'; have h1 := H.out.below hw'; have q5 : w'.cell? ⟨g, 5, none⟩ = some (.pointer rp) := h1.cell 5; have l1 := h1.lt; go_simp; (first | done | (with_reducible rfl)))); intro K hK; go_simp; (first | (with_reducible refine hK _ ?_) | (refine hK _ ?_)); clear hK K)
  ((first | (with_reducible refine Qt.q_call' rfl ?_) | ((with_reducible refine Qg.on_call' ?_); apply Exists.intro; apply Exists.intro; apply Exists.intro; refine ⟨?_, ?_, ?_, ?_⟩; (focus rfl); (focus rfl); (focus rfl))); apply Exists.intro; apply Exists.intro; refine ⟨?_, ?_⟩; (focus (intro w'; go_simp; (first | rfl | exact ⟨rfl, rfl⟩))); apply Exists.intro; refine ⟨?_, ?_⟩; (focus (intro w' hw'; first | exact Qt.under hw' (HR.out _ hw'))); intro K hK; go_simp; (first | (with_reducible refine hK _ ?_) | (refine hK _ ?_)); clear hK K)
  iterate 2 ((first | (with_reducible refine Qt.q_val' rfl ?_) | ((with_reducible refine Qg.on_val' ?_); apply Exists.intro; apply Exists.intro; apply Exists.intro; refine ⟨?_, ?_, ?_, ?_⟩; (focus rfl); (focus rfl); (focus rfl))); apply Exists.intro; refine ⟨?_, ?_⟩; (focus (intro w' hw'; skip; go_simp; (first | done | (with_reducible rfl)))); intro K hK; go_simp; (first | (with_reducible refine hK _ ?_) | (refine hK _ ?_)); clear hK K)
  (refine wpQuiet_nil ?_; intro w' hw')
  have h1 := H.out.below hw'
  have H1 := Aside0.mk h1
  have q3 : w'.cell? ⟨g, 3, none⟩ = some (.int .i64 s) := h1.cell 3
  have z3 := h1.frozen 3
  have gl := h1.lt
  have B1 := Aside0.mk hw'
  clear hw' h1
  go_wp2
  go_ret
  refine ⟨rfl, ?_, ?_⟩
  · exact H1.out.set 3 _
  · exact (Only.of_below B1.out [g]).setCell (p := ⟨g, 3, none⟩) (.inl (by simp)) _
end Go.Proofs.Ytcgfdnhocdcfjaa.Hed

/- Trees of keys: split, join. -/
namespace Go.Proofs.Ytcgfdnhocdcfjaa.Hed
open Go.RowKit Go.Proofs.YtcgfdnhocdcfjaaW.PrintWords Go.Proofs.Ytcgfdnhocdcfjaa.Arr Go.Proofs.Ytcgfdnhocdcfjaa.Utf T
set_option linter.unusedVariables false
set_option linter.unusedSimpArgs false

def SplitPost (t : T) (key : ByteArray) (w : World) (e : Ending) (w' : World) : Prop :=
  e = .returned (.tuple #[(splitT t key).1.ptr, (splitT t key).2.ptr]) ∧ At w' (splitT t key).1 ∧ At w' (splitT t key).2 ∧ Only t.blocks w w'
set_option maxHeartbeats 8000000 in
theorem split_calls (t : T) : t.size ≤ 1000000 → ∀ (key : ByteArray) (w : World), At w t → t.blocks.Nodup → Calls Try.prog 36 #[t.ptr, .string key] w (SplitPost t key w) := by
  induction t with
  | nil =>
    intro _ key w _ _
    go_enter Try.func36, Try.ntmps36
    simp only [ptr_nil, ptr_node]
    go_wp2
    go_ret2
    exact ⟨rfl, trivial, trivial, Only.refl _ _⟩
  | node g k v wt l r ihl ihr =>
    intro hz key w hA hN
    simp only [T.size] at hz
    simp only [blocks, List.nodup_cons, List.nodup_append] at hN
    obtain ⟨hg, hnl, hnr, hdj'⟩ := hN
    have hdj : ∀ j, j ∈ l.blocks → j ∈ r.blocks → False := fun j h1 h2 => hdj' j h1 j h2 rfl
    obtain ⟨hB, hAl, hAr⟩ := hA
    have HB := Aside0.mk hB
    have HAL := Aside0.mk hAl
    have HAR := Aside0.mk hAr
    clear hB hAl hAr hdj'
    unfold SplitPost
    cases hlt : lt k key with
    | true =>
      have hIH := ihr (by omega) key
      have hnd1 : g ∉ r.blocks := fun h => hg (by simp [h])
      have hnd2 : g ∉ l.blocks := fun h => hg (by simp [h])
      have hmem : ∀ j, j ∈ (splitT r key).1.blocks ∨ j ∈ (splitT r key).2.blocks → j ∈ r.blocks := fun j hj => (split_blocks r key).mem_iff.1 (by simpa using hj)
      have hss := split_size r key
      have HIH := Aside0.mk (fun w' (h' : At w' r) => hIH w' h' hnr)
      have HM := Aside0.mk hmem
      have HND := Aside0.mk (And.intro hnd1 hnd2)
      have HDJ := Aside0.mk hdj
      have HLT := Aside0.mk hlt
      simp only [splitT, hlt, if_true, Bool.false_eq_true, if_false]
      simp only [ptr_nil, ptr_node]
      obtain ⟨lp, hlp⟩ := ptr_open l
      obtain ⟨rp, hrp⟩ := ptr_open r
      obtain ⟨ap, hap⟩ := ptr_open (splitT r key).1
      obtain ⟨bp, hbp⟩ := ptr_open (splitT r key).2
      have c0 : w.cell? ⟨g, 0, none⟩ = some (.string k) := HB.out.cell 0
      have cl := HB.out.lt
      have HAP := Aside0.mk hap
      have HBP := Aside0.mk hbp
      have HLP := Aside0.mk hlp
      have HRP := Aside0.mk hrp
      have HSS := Aside0.mk hss
      have t1 : decide (cmpB k key < 0) = true := hlt
      have HT1 := Aside0.mk t1
      rw [hbp]
      clear hIH hnd1 hnd2 hmem hss hdj hlt hlp hrp hap hbp t1 ihl ihr hnl hnr hg
      go_enter Try.func36, Try.ntmps36
      go_wp2_with fail
      refine (compare_calls k key w).mono ?_
      rintro e w1 ⟨rfl, rfl⟩
      have t1 := HT1.out
      obtain ⟨cc, hcc⟩ : ∃ cc, cmpB k key = cc := ⟨_, rfl⟩
      rw [hcc] at t1 ⊢
      clear c0 hcc
      have c5 : w1.cell? ⟨g, 5, none⟩ = some (.pointer rp) := by rw [← HRP.out]; exact HB.out.cell 5
      go_wp2_with fail
      clear c5
      rw [← HRP.out]
      refine (HIH.out w1 HAR.out).mono ?_
      rintro e w2 ⟨rfl, ha, hb, ho⟩
      rw [HAP.out, HBP.out]
      have hB2 := HB.out.only ho HND.out.1
      have hO2 := HAL.out.only ho (fun j hj hj' => HDJ.out j hj hj')
      have z5 := hB2.frozen 5
      have c5 : w2.cell? ⟨g, 5, none⟩ = some (.pointer rp) := by rw [← HRP.out]; exact hB2.cell 5
      have gl := hB2.lt
      have B2 := Aside0.mk hB2
      have O2 := Aside0.mk hO2
      have A2 := Aside0.mk ha
      have A2' := Aside0.mk hb
      have N2 := Aside0.mk ho
      clear ha hb ho hB2 hO2
      go_wp2_with fail
      clear z5 c5 gl
      obtain ⟨w3, hw3⟩ : ∃ w3, w2.setCell ⟨g, 5, none⟩ (.pointer ap) = w3 := ⟨_, rfl⟩
      have ng : ∀ t : T, g ∉ t.blocks → At w2 t → At w3 t := fun t hg ht => ht.keep fun j hj => by rw [← hw3]; exact Below.heap_setCell _ _ _ _ (fun e => hg ((show j = g from e) ▸ hj))
      have hB3 : Blk w3 g TNd (cells k v wt ((l.size + r.size + 1 : Nat) : Int) l.ptr (splitT r key).1.ptr) := by
        rw [← hw3, HAP.out]; exact B2.out.set 5 _
      have hO3 : Only [g] w2 w3 := by rw [← hw3]; exact (Only.refl [g] w2).setCell (p := ⟨g, 5, none⟩) (.inl (by simp)) _
      have ga : g ∉ (splitT r key).1.blocks := fun h => HND.out.1 (HM.out g (.inl h))
      have gb : g ∉ (splitT r key).2.blocks := fun h => HND.out.1 (HM.out g (.inr h))
      have K3 := fix_calls g k v wt _ l (splitT r key).1 w3 hB3 (ng l HND.out.2 O2.out) (ng _ ga A2.out) (by have := HSS.out; omega)
      rw [hw3]
      refine K3.mono ?_
      rintro e w4 ⟨rfl, hB4, hO4⟩
      have keep : ∀ t : T, g ∉ t.blocks → At w2 t → At w4 t := fun t hg ht => (ng t hg ht).only hO4 (fun j hj hj' => hg (by simpa using (List.mem_singleton.1 hj') ▸ hj))
      have F1 : At w4 (node g k v wt l (splitT r key).1) := ⟨hB4, keep l HND.out.2 O2.out, keep _ ga A2.out⟩
      have F2 := keep (splitT r key).2 gb A2'.out
      have F3 : Only (node g k v wt l r).blocks w1 w4 := ((N2.out.mono (S' := (node g k v wt l r).blocks) (fun j hj => .inl (by simp [blocks, hj]))).trans hO3 (fun j hj => .inl (by simp [blocks] at hj ⊢; exact .inl hj))).trans hO4 (fun j hj => .inl (by simp [blocks] at hj ⊢; exact .inl hj))
      have F := Aside0.mk (And.intro F1 (And.intro F2 F3))
      clear hw3 ng hB3 hO3 ga gb K3 hB4 hO4 keep F1 F2 F3
      go_wp2
      go_ret2
      exact ⟨rfl, F.out.1, F.out.2.1, F.out.2.2⟩
    | false =>
      have hIH := ihl (by omega) key
      have hnd1 : g ∉ l.blocks := fun h => hg (by simp [h])
      have hnd2 : g ∉ r.blocks := fun h => hg (by simp [h])
      have hmem : ∀ j, j ∈ (splitT l key).1.blocks ∨ j ∈ (splitT l key).2.blocks → j ∈ l.blocks := fun j hj => (split_blocks l key).mem_iff.1 (by simpa using hj)
      have hss := split_size l key
      have HIH := Aside0.mk (fun w' (h' : At w' l) => hIH w' h' hnl)
      have HM := Aside0.mk hmem
      have HND := Aside0.mk (And.intro hnd1 hnd2)
      have HDJ := Aside0.mk hdj
      have HLT := Aside0.mk hlt
      simp only [splitT, hlt, if_true, Bool.false_eq_true, if_false]
      simp only [ptr_nil, ptr_node]
      obtain ⟨lp, hlp⟩ := ptr_open l
      obtain ⟨rp, hrp⟩ := ptr_open r
      obtain ⟨ap, hap⟩ := ptr_open (splitT l key).1
      obtain ⟨bp, hbp⟩ := ptr_open (splitT l key).2
      have c0 : w.cell? ⟨g, 0, none⟩ = some (.string k) := HB.out.cell 0
      have cl := HB.out.lt
      have HAP := Aside0.mk hap
      have HBP := Aside0.mk hbp
      have HLP := Aside0.mk hlp
      have HRP := Aside0.mk hrp
      have HSS := Aside0.mk hss
      have t1 : decide (cmpB k key < 0) = false := hlt
      have HT1 := Aside0.mk t1
      rw [hap]
      clear hIH hnd1 hnd2 hmem hss hdj hlt hlp hrp hap hbp t1 ihl ihr hnl hnr hg
      go_enter Try.func36, Try.ntmps36
      go_wp2_with fail
      refine (compare_calls k key w).mono ?_
      rintro e w1 ⟨rfl, rfl⟩
      have t1 := HT1.out
      obtain ⟨cc, hcc⟩ : ∃ cc, cmpB k key = cc := ⟨_, rfl⟩
      rw [hcc] at t1 ⊢
      clear c0 hcc
      have c5 : w1.cell? ⟨g, 4, none⟩ = some (.pointer lp) := by rw [← HLP.out]; exact HB.out.cell 4
      go_wp2_with fail
      clear c5
      rw [← HLP.out]
      refine (HIH.out w1 HAL.out).mono ?_
      rintro e w2 ⟨rfl, ha, hb, ho⟩
      rw [HAP.out, HBP.out]
      have hB2 := HB.out.only ho HND.out.1
      have hO2 := HAR.out.only ho (fun j hj hj' => HDJ.out j hj' hj)
      have z5 := hB2.frozen 4
      have c5 : w2.cell? ⟨g, 4, none⟩ = some (.pointer lp) := by rw [← HLP.out]; exact hB2.cell 4
      have gl := hB2.lt
      have B2 := Aside0.mk hB2
      have O2 := Aside0.mk hO2
      have A2 := Aside0.mk ha
      have A2' := Aside0.mk hb
      have N2 := Aside0.mk ho
      clear ha hb ho hB2 hO2
      go_wp2_with fail
      clear z5 c5 gl
      obtain ⟨w3, hw3⟩ : ∃ w3, w2.setCell ⟨g, 4, none⟩ (.pointer bp) = w3 := ⟨_, rfl⟩
      have ng : ∀ t : T, g ∉ t.blocks → At w2 t → At w3 t := fun t hg ht => ht.keep fun j hj => by rw [← hw3]; exact Below.heap_setCell _ _ _ _ (fun e => hg ((show j = g from e) ▸ hj))
      have hB3 : Blk w3 g TNd (cells k v wt ((l.size + r.size + 1 : Nat) : Int) (splitT l key).2.ptr r.ptr) := by
        rw [← hw3, HBP.out]; exact B2.out.set 4 _
      have hO3 : Only [g] w2 w3 := by rw [← hw3]; exact (Only.refl [g] w2).setCell (p := ⟨g, 4, none⟩) (.inl (by simp)) _
      have ga : g ∉ (splitT l key).1.blocks := fun h => HND.out.1 (HM.out g (.inl h))
      have gb : g ∉ (splitT l key).2.blocks := fun h => HND.out.1 (HM.out g (.inr h))
      have K3 := fix_calls g k v wt _ (splitT l key).2 r w3 hB3 (ng _ gb A2'.out) (ng r HND.out.2 O2.out) (by have := HSS.out; omega)
      rw [hw3]
      refine K3.mono ?_
      rintro e w4 ⟨rfl, hB4, hO4⟩
      have keep : ∀ t : T, g ∉ t.blocks → At w2 t → At w4 t := fun t hg ht => (ng t hg ht).only hO4 (fun j hj hj' => hg (by simpa using (List.mem_singleton.1 hj') ▸ hj))
      have F1 : At w4 (node g k v wt (splitT l key).2 r) := ⟨hB4, keep _ gb A2'.out, keep r HND.out.2 O2.out⟩
      have F2 := keep (splitT l key).1 ga A2.out
      have F3 : Only (node g k v wt l r).blocks w1 w4 := ((N2.out.mono (S' := (node g k v wt l r).blocks) (fun j hj => .inl (by simp [blocks, hj]))).trans hO3 (fun j hj => .inl (by simp [blocks] at hj ⊢; exact .inl hj))).trans hO4 (fun j hj => .inl (by simp [blocks] at hj ⊢; exact .inl hj))
      have F := Aside0.mk (And.intro F1 (And.intro F2 F3))
      clear hw3 ng hB3 hO3 ga gb K3 hB4 hO4 keep F1 F2 F3
      go_wp2
      go_ret2
      exact ⟨rfl, F.out.2.1, F.out.1, F.out.2.2⟩
end Go.Proofs.Ytcgfdnhocdcfjaa.Hed

/- Trees of keys: join. -/
namespace Go.Proofs.Ytcgfdnhocdcfjaa.Hed
open Go.RowKit Go.Proofs.YtcgfdnhocdcfjaaW.PrintWords Go.Proofs.Ytcgfdnhocdcfjaa.Arr Go.Proofs.Ytcgfdnhocdcfjaa.Utf T
set_option linter.unusedVariables false
set_option linter.unusedSimpArgs false

def JoinPost (a b : T) (w : World) (e : Ending) (w' : World) : Prop := e = .returned (joinT a b).ptr ∧ At w' (joinT a b) ∧ Only (a.blocks ++ b.blocks) w w'
set_option maxHeartbeats 8000000 in
theorem join_ind (n : Nat) : ∀ (a b : T), a.size + b.size = n → a.size + b.size ≤ 1000000 → ∀ w : World, At w a → At w b → (a.blocks ++ b.blocks).Nodup → Calls Try.prog 28 #[a.ptr, b.ptr] w (JoinPost a b w) := by
  induction n using Nat.strongRecOn with
  | _ n ih =>
  intro a b hn hz w hA hB hN
  cases a with
  | nil =>
    have hJ : joinT nil b = b := by rw [joinT]
    unfold JoinPost
    rw [hJ]
    obtain ⟨bp, hbp⟩ := ptr_open b
    have HB := Aside0.mk hB
    rw [ptr_nil, hbp]
    clear hJ hbp ih hA hB hN
    go_enter Try.func28, Try.ntmps28
    go_wp2
    go_ret
    exact ⟨rfl, HB.out, Only.refl _ _⟩
  | node g k v wt l r =>
  cases b with
  | nil =>
    have hJ : joinT (node g k v wt l r) nil = node g k v wt l r := by rw [joinT]
    unfold JoinPost
    rw [hJ, ptr_nil, ptr_node]
    have HA := Aside0.mk hA
    clear hJ ih hA hB hN
    go_enter Try.func28, Try.ntmps28
    go_wp2
    go_ret
    exact ⟨rfl, HA.out, Only.refl _ _⟩
  | node g' k' v' wt' l' r' =>
  obtain ⟨hna, hnb, hdj⟩ := List.nodup_append.1 hN
  have hN1 := hna
  have hN2 := hnb
  simp only [blocks, List.nodup_cons, List.nodup_append] at hN1 hN2
  obtain ⟨hg, hnl, hnr, hlr⟩ := hN1
  obtain ⟨hg', hnl', hnr', hlr'⟩ := hN2
  have HBA := Aside0.mk hA.1
  have HBB := Aside0.mk hB.1
  have HA := Aside0.mk hA
  have HB := Aside0.mk hB
  clear hA hB hN
  unfold JoinPost
  cases hlt : heavy wt k wt' k' with
  | true =>
    have hIH := ih _ (by simp only [T.size] at hz hn ⊢; omega) r (node g' k' v' wt' l' r') rfl (by simp only [T.size] at hz ⊢; omega)
    have hJ : joinT (node g k v wt l r) (node g' k' v' wt' l' r') = (node g k v wt l (joinT r (node g' k' v' wt' l' r'))) := by rw [joinT, hlt]; simp
    have hperm := join_blocks r (node g' k' v' wt' l' r')
    have hsz := join_size r (node g' k' v' wt' l' r')
    have hgj : g ∉ (joinT r (node g' k' v' wt' l' r')).blocks := fun h => by
      have h := hperm.mem_iff.1 h
      simp only [blocks, List.mem_append, List.mem_cons] at h
      rcases h with h | h | h | h
      · exact hg (by simp [h])
      · exact hdj g (by simp [blocks]) g' (by simp [blocks]) h
      · exact hdj g (by simp [blocks]) g (by simp [blocks, h]) rfl
      · exact hdj g (by simp [blocks]) g (by simp [blocks, h]) rfl
    have hgo : g ∉ l.blocks := fun h => hg (by simp [h])
    have hgx : g ∉ r.blocks ++ (node g' k' v' wt' l' r').blocks := fun h => hgj (hperm.mem_iff.2 h)
    have hox : ∀ j, j ∈ l.blocks → j ∉ r.blocks ++ (node g' k' v' wt' l' r').blocks := fun j hj h => by
      rcases List.mem_append.1 h with h | h
      · exact hlr j hj j h rfl
      · exact hdj j (by simp [blocks, hj]) j h rfl
    have hnd : (r.blocks ++ (node g' k' v' wt' l' r').blocks).Nodup := by
      refine List.nodup_append.2 ⟨hnr, hnb, fun j h1 j2 h2 e => ?_⟩
      exact hdj j (by simp [blocks, h1]) j2 h2 e
    have HIH := Aside0.mk (fun w' (h1 : At w' r) (h2 : At w' (node g' k' v' wt' l' r')) => hIH w' h1 h2 hnd)
    obtain ⟨jp, hjp⟩ := ptr_open (joinT r (node g' k' v' wt' l' r'))
    obtain ⟨mp, hmp⟩ := ptr_open r
    have HJP := Aside0.mk hjp
    have HMP := Aside0.mk hmp
    have HSZ := Aside0.mk hsz
    have HGG := Aside0.mk (And.intro hgj (And.intro hgo (And.intro hgx hox)))
    have HZ := Aside0.mk hz
    rw [hJ, ptr_node]
    simp only [ptr_node]
    have HH := Aside0.mk (heavier_calls g g' k k' v v' wt wt' _ _ _ _ _ _ w HBA.out HBB.out)
    rw [hlt] at HH
    clear hIH hJ hperm hsz hgj hgo hgx hox hnd hjp hmp ih hdj hg hg' hnl hnr hnl' hnr' hlr hlr' hna hnb hlt hz hn
    go_enter Try.func28, Try.ntmps28
    go_wp2_with fail
    refine HH.out.mono ?_
    rintro e w1 ⟨rfl, b1⟩
    have B1 := Aside0.mk b1
    have HA1 := Aside0.mk (HA.out.below b1)
    have HB1 := Aside0.mk (HB.out.below b1)
    have hN1 := HBA.out.below b1
    have c5 : w1.cell? ⟨g, 5, none⟩ = some (.pointer mp) := by rw [← HMP.out]; exact hN1.cell 5
    have gl := hN1.lt
    have N1 := Aside0.mk hN1
    clear b1 hN1 HH
    go_wp2_with fail
    clear c5 gl
    rw [← HMP.out]; have e2 : (.pointer (some ⟨g', 0, none⟩) : Value) = (node g' k' v' wt' l' r').ptr := rfl; rw [e2]
    refine (HIH.out w1 HA1.out.2.2 HB1.out).mono ?_
    rintro e w2 ⟨rfl, hj2, ho2⟩
    have hN2 := N1.out.only ho2 HGG.out.2.2.1
    have hO2 := (HA1.out.2.1 : At w1 l).only ho2 HGG.out.2.2.2
    rw [HJP.out]
    have z5 := hN2.frozen 5
    have c5 : w2.cell? ⟨g, 5, none⟩ = some (.pointer mp) := by rw [← HMP.out]; exact hN2.cell 5
    have gl := hN2.lt
    have N2 := Aside0.mk hN2
    have O2 := Aside0.mk hO2
    have J2 := Aside0.mk hj2
    have OO2 := Aside0.mk ho2
    clear hj2 ho2 hN2 hO2
    go_wp2_with fail
    clear z5 c5 gl
    obtain ⟨w3, hw3⟩ : ∃ w3, w2.setCell ⟨g, 5, none⟩ (.pointer jp) = w3 := ⟨_, rfl⟩
    have ng : ∀ t : T, g ∉ t.blocks → At w2 t → At w3 t := fun t hg ht => ht.keep fun j hj => by rw [← hw3]; exact Below.heap_setCell _ _ _ _ (fun e => hg ((show j = g from e) ▸ hj))
    have hB3 : Blk w3 g TNd (cells k v wt ((l.size + r.size + 1 : Nat) : Int) l.ptr (joinT r (node g' k' v' wt' l' r')).ptr) := by
      rw [← hw3, HJP.out]; exact N2.out.set 5 _
    have hO3 : Only [g] w2 w3 := by rw [← hw3]; exact (Only.refl [g] w2).setCell (p := ⟨g, 5, none⟩) (.inl (by simp)) _
    have K3 := fix_calls g k v wt _ l (joinT r (node g' k' v' wt' l' r')) w3 hB3 (ng l HGG.out.2.1 O2.out) (ng _ HGG.out.1 J2.out) (by have h1 := HSZ.out; have h2 := HZ.out; simp only [T.size] at h1 h2; omega)
    rw [hw3]
    refine K3.mono ?_
    rintro e w4 ⟨rfl, hB4, hO4⟩
    have keep : ∀ t : T, g ∉ t.blocks → At w2 t → At w4 t := fun t hg ht => (ng t hg ht).only hO4 (fun j hj hj' => hg (by simpa using (List.mem_singleton.1 hj') ▸ hj))
    have F1 : At w4 (node g k v wt l (joinT r (node g' k' v' wt' l' r'))) := ⟨hB4, keep l HGG.out.2.1 O2.out, keep _ HGG.out.1 J2.out⟩
    have F3 : Only ((node g k v wt l r).blocks ++ (node g' k' v' wt' l' r').blocks) w w4 := (((Only.of_below B1.out _).trans OO2.out (fun j hj => .inl (by simp [blocks] at hj ⊢; rcases hj with h | h | h | h <;> simp [h]))).trans hO3 (fun j hj => .inl (by simp [blocks] at hj ⊢; simp [hj]))).trans hO4 (fun j hj => .inl (by simp [blocks] at hj ⊢; simp [hj]))
    have F := Aside0.mk (And.intro F1 F3)
    clear hw3 ng hB3 hO3 K3 hB4 hO4 keep F1 F3
    go_wp2
    go_ret
    exact ⟨rfl, F.out⟩
  | false =>
    have hIH := ih _ (by simp only [T.size] at hz hn ⊢; omega) (node g k v wt l r) l' rfl (by simp only [T.size] at hz ⊢; omega)
    have hJ : joinT (node g k v wt l r) (node g' k' v' wt' l' r') = (node g' k' v' wt' (joinT (node g k v wt l r) l') r') := by rw [joinT, hlt]; simp
    have hperm := join_blocks (node g k v wt l r) l'
    have hsz := join_size (node g k v wt l r) l'
    have hgj : g' ∉ (joinT (node g k v wt l r) l').blocks := fun h => by
      have h := hperm.mem_iff.1 h
      simp only [blocks, List.mem_append, List.mem_cons] at h
      rcases h with (h | h | h) | h
      · exact hdj g (by simp [blocks]) g' (by simp [blocks]) h.symm
      · exact hdj g' (by simp [blocks, h]) g' (by simp [blocks]) rfl
      · exact hdj g' (by simp [blocks, h]) g' (by simp [blocks]) rfl
      · exact hg' (by simp [h])
    have hgo : g' ∉ r'.blocks := fun h => hg' (by simp [h])
    have hgx : g' ∉ (node g k v wt l r).blocks ++ l'.blocks := fun h => hgj (hperm.mem_iff.2 h)
    have hox : ∀ j, j ∈ r'.blocks → j ∉ (node g k v wt l r).blocks ++ l'.blocks := fun j hj h => by
      rcases List.mem_append.1 h with h | h
      · exact hdj j h j (by simp [blocks, hj]) rfl
      · exact hlr' j h j hj rfl
    have hnd : ((node g k v wt l r).blocks ++ l'.blocks).Nodup := by
      refine List.nodup_append.2 ⟨hna, hnl', fun j h1 j2 h2 e => ?_⟩
      exact hdj j h1 j2 (by simp [blocks, h2]) e
    have HIH := Aside0.mk (fun w' (h1 : At w' (node g k v wt l r)) (h2 : At w' l') => hIH w' h1 h2 hnd)
    obtain ⟨jp, hjp⟩ := ptr_open (joinT (node g k v wt l r) l')
    obtain ⟨mp, hmp⟩ := ptr_open l'
    have HJP := Aside0.mk hjp
    have HMP := Aside0.mk hmp
    have HSZ := Aside0.mk hsz
    have HGG := Aside0.mk (And.intro hgj (And.intro hgo (And.intro hgx hox)))
    have HZ := Aside0.mk hz
    rw [hJ, ptr_node]
    simp only [ptr_node]
    have HH := Aside0.mk (heavier_calls g g' k k' v v' wt wt' _ _ _ _ _ _ w HBA.out HBB.out)
    rw [hlt] at HH
    clear hIH hJ hperm hsz hgj hgo hgx hox hnd hjp hmp ih hdj hg hg' hnl hnr hnl' hnr' hlr hlr' hna hnb hlt hz hn
    go_enter Try.func28, Try.ntmps28
    go_wp2_with fail
    refine HH.out.mono ?_
    rintro e w1 ⟨rfl, b1⟩
    have B1 := Aside0.mk b1
    have HA1 := Aside0.mk (HA.out.below b1)
    have HB1 := Aside0.mk (HB.out.below b1)
    have hN1 := HBB.out.below b1
    have c5 : w1.cell? ⟨g', 4, none⟩ = some (.pointer mp) := by rw [← HMP.out]; exact hN1.cell 4
    have gl := hN1.lt
    have N1 := Aside0.mk hN1
    clear b1 hN1 HH
    go_wp2_with fail
    clear c5 gl
    rw [← HMP.out]; have e2 : (.pointer (some ⟨g, 0, none⟩) : Value) = (node g k v wt l r).ptr := rfl; rw [e2]
    refine (HIH.out w1 HA1.out HB1.out.2.1).mono ?_
    rintro e w2 ⟨rfl, hj2, ho2⟩
    have hN2 := N1.out.only ho2 HGG.out.2.2.1
    have hO2 := (HB1.out.2.2 : At w1 r').only ho2 HGG.out.2.2.2
    rw [HJP.out]
    have z5 := hN2.frozen 4
    have c5 : w2.cell? ⟨g', 4, none⟩ = some (.pointer mp) := by rw [← HMP.out]; exact hN2.cell 4
    have gl := hN2.lt
    have N2 := Aside0.mk hN2
    have O2 := Aside0.mk hO2
    have J2 := Aside0.mk hj2
    have OO2 := Aside0.mk ho2
    clear hj2 ho2 hN2 hO2
    go_wp2_with fail
    clear z5 c5 gl
    obtain ⟨w3, hw3⟩ : ∃ w3, w2.setCell ⟨g', 4, none⟩ (.pointer jp) = w3 := ⟨_, rfl⟩
    have ng : ∀ t : T, g' ∉ t.blocks → At w2 t → At w3 t := fun t hg ht => ht.keep fun j hj => by rw [← hw3]; exact Below.heap_setCell _ _ _ _ (fun e => hg ((show j = g' from e) ▸ hj))
    have hB3 : Blk w3 g' TNd (cells k' v' wt' ((l'.size + r'.size + 1 : Nat) : Int) (joinT (node g k v wt l r) l').ptr r'.ptr) := by
      rw [← hw3, HJP.out]; exact N2.out.set 4 _
    have hO3 : Only [g'] w2 w3 := by rw [← hw3]; exact (Only.refl [g'] w2).setCell (p := ⟨g', 4, none⟩) (.inl (by simp)) _
    have K3 := fix_calls g' k' v' wt' _ (joinT (node g k v wt l r) l') r' w3 hB3 (ng _ HGG.out.1 J2.out) (ng r' HGG.out.2.1 O2.out) (by have h1 := HSZ.out; have h2 := HZ.out; simp only [T.size] at h1 h2; omega)
    rw [hw3]
    refine K3.mono ?_
    rintro e w4 ⟨rfl, hB4, hO4⟩
    have keep : ∀ t : T, g' ∉ t.blocks → At w2 t → At w4 t := fun t hg ht => (ng t hg ht).only hO4 (fun j hj hj' => hg (by simpa using (List.mem_singleton.1 hj') ▸ hj))
    have F1 : At w4 (node g' k' v' wt' (joinT (node g k v wt l r) l') r') := ⟨hB4, keep _ HGG.out.1 J2.out, keep r' HGG.out.2.1 O2.out⟩
    have F3 : Only ((node g k v wt l r).blocks ++ (node g' k' v' wt' l' r').blocks) w w4 := (((Only.of_below B1.out _).trans OO2.out (fun j hj => .inl (by simp [blocks] at hj ⊢; rcases hj with h | h | h | h <;> simp [h]))).trans hO3 (fun j hj => .inl (by simp [blocks] at hj ⊢; simp [hj]))).trans hO4 (fun j hj => .inl (by simp [blocks] at hj ⊢; simp [hj]))
    have F := Aside0.mk (And.intro F1 F3)
    clear hw3 ng hB3 hO3 K3 hB4 hO4 keep F1 F3
    go_wp2
    go_ret
    exact ⟨rfl, F.out⟩
theorem join_calls (a b : T) (hz : a.size + b.size ≤ 1000000) (w : World) (hA : At w a) (hB : At w b) (hN : (a.blocks ++ b.blocks).Nodup) : Calls Try.prog 28 #[a.ptr, b.ptr] w (JoinPost a b w) := join_ind _ a b rfl hz w hA hB hN
end Go.Proofs.Ytcgfdnhocdcfjaa.Hed

/- Trees of keys: weigh, New, Len, cut. -/
namespace Go.Proofs.Ytcgfdnhocdcfjaa.Hed
open Go.RowKit Go.Proofs.YtcgfdnhocdcfjaaW.PrintWords Go.Proofs.Ytcgfdnhocdcfjaa.Arr Go.Proofs.Ytcgfdnhocdcfjaa.Utf T
set_option linter.unusedVariables false
set_option linter.unusedSimpArgs false

abbrev TH : TypeId := 57
theorem At_typed {w : World} : ∀ {t : T}, At w t → ∀ k, k ∈ t.blocks → ∃ cs, Blk w k TNd cs
  | .nil, _, k, hk => by simp [blocks] at hk
  | .node g _ _ _ l r, h, k, hk => by
    simp only [blocks, List.mem_cons, List.mem_append] at hk
    rcases hk with rfl | hk | hk
    · exact ⟨_, h.1⟩
    · exact At_typed h.2.1 k hk
    · exact At_typed h.2.2 k hk
theorem At_apart {w : World} {t : T} (h : At w t) {g : Nat} {ty : TypeId} {cs : Array Value} (hB : Blk w g ty cs) (hne : ty ≠ TNd) : g ∉ t.blocks := fun hm => by
  obtain ⟨cs', hB'⟩ := At_typed h g hm
  exact Blk.ne hB hB' hne rfl
set_option maxHeartbeats 1000000 in
set_option maxRecDepth 100000 in
theorem weigh_calls (s : ByteArray) (hs : s.size ≤ 100000000) (w : World) :
    Calls Try.prog 26 #[.string s] w fun e w' => ∃ n, e = .returned (.int .u64 n) ∧ Below w.heap.size w w' := by
  go_enter Try.func26, Try.ntmps26
  go_wp2
  go_loopw [3] (fun v3 wr => ∃ (pos : Nat) (n : Int), v3 = .int .u64 n ∧ wr.heap[w.heap.size]? = some (.stringIter s pos) ∧ Below w.heap.size w wr) (fun _ wr => s.size - wr.iterPos w.heap.size)
  case atStart => exact ⟨0, _, rfl, World.iter_heap w s 0, (Below.refl _ _).alloc (Nat.le_refl _) _⟩
  case round =>
    obtain ⟨pos, n, rfl, hit, hb⟩ := hrel
    have hpos := iterPos_of hit
    by_cases hp : pos < s.size
    · have hnx : ∀ ty, (Instr.next (.pointer (some ⟨w.heap.size, 0, none⟩)) true ty).run Try.prog wr = _ := fun ty => Lib.run_next_any_at wr w.heap.size s pos ty hit hp
      have hw := dec_w s pos hp
      have hit2 := Lib.iterAt_heap wr w.heap.size s pos (pos + (Utf8.decode s pos).2) hit
      have hb2 := Lib.below_iterAt hb (Nat.le_refl _) s (pos + (Utf8.decode s pos).2)
      have HP := Aside0.mk hpos
      have HI := Aside0.mk hit2
      clear hit hpos hit2
      go_wp2
      go_roundw
      case rel => exact ⟨_, _, rfl, HI.out, hb2⟩
      case measure =>
        rw [iterPos_of HI.out, HP.out]
        omega
    · have hnx : ∀ ty, (Instr.next (.pointer (some ⟨w.heap.size, 0, none⟩)) true ty).run Try.prog wr = _ := fun ty => Lib.run_next_end_at wr w.heap.size s pos ty hit hp
      clear hit hpos
      go_wp2
      go_ret
      exact ⟨_, rfl, hb⟩
/-- A hedge in memory: its block, its tree. -/
structure HAt (w : World) (h : Nat) (t : T) : Prop where mk ::
  blk : Blk w h TH #[t.ptr]
  at_ : At w t
  nd : t.blocks.Nodup
theorem HAt.below {w w1 : World} {h : Nat} {t : T} (H : HAt w h t) (hb : Below w.heap.size w w1) : HAt w1 h t := ⟨H.blk.below hb, H.at_.below hb, H.nd⟩
theorem HAt.apart {w : World} {h : Nat} {t : T} (H : HAt w h t) : h ∉ t.blocks := At_apart H.at_ H.blk (by decide)
theorem new_calls (w : World) : Calls Try.prog 7 #[] w fun e w' => ∃ h, e = .returned (.pointer (some ⟨h, 0, none⟩)) ∧ HAt w' h T.nil ∧ w.heap.size ≤ h ∧ Below w.heap.size w w' := by
  go_enter Try.func7, Try.ntmps7
  go_wp2
  go_ret
  exact ⟨_, rfl, ⟨Blk.new _ _ _, trivial, List.nodup_nil⟩, Nat.le_refl _, (Below.refl _ _).alloc (Nat.le_refl _) _⟩
theorem len_calls (h : Nat) (t : T) (w : World) (H : HAt w h t) : Calls Try.prog 13 #[.pointer (some ⟨h, 0, none⟩)] w fun e w' => e = .returned (.int .i64 (t.size : Int)) ∧ Below w.heap.size w w' := by
  obtain ⟨p, hp⟩ := ptr_open t
  have K := Aside0.mk (count_below t w H.at_ (.pointer p) hp.symm (t.size : Int) rfl)
  have c0 : w.cell? ⟨h, 0, none⟩ = some (.pointer p) := by rw [← hp]; exact H.blk.cell 0
  have cl := H.blk.lt
  obtain ⟨n, hn⟩ : ∃ n : Int, (t.size : Int) = n := ⟨_, rfl⟩
  rw [hn] at K ⊢
  clear H hp hn
  go_enter Try.func13, Try.ntmps13
  go_wp2_with fail
  refine K.out.mono ?_
  rintro e w1 ⟨rfl, b1⟩
  go_wp2
  go_ret
  exact ⟨rfl, b1⟩
/-- The least key behind another one. -/
def above (key : ByteArray) : ByteArray := key ++ ⟨#[0]⟩
def cutT (t : T) (key : ByteArray) : T × T × T := ((splitT t key).1, (splitT (splitT t key).2 (above key)).1, (splitT (splitT t key).2 (above key)).2)
def CutPost (h : Nat) (t : T) (key : ByteArray) (w : World) (e : Ending) (w' : World) : Prop :=
  e = .returned (.tuple #[(cutT t key).1.ptr, (cutT t key).2.1.ptr, (cutT t key).2.2.ptr]) ∧ At w' (cutT t key).1 ∧ At w' (cutT t key).2.1 ∧ At w' (cutT t key).2.2 ∧
    Blk w' h TH #[t.ptr] ∧ Only t.blocks w w'
theorem cut_blocks (t : T) (key : ByteArray) : ((cutT t key).1.blocks ++ ((cutT t key).2.1.blocks ++ (cutT t key).2.2.blocks)).Perm t.blocks :=
  (List.Perm.append_left _ (split_blocks _ _)).trans (split_blocks t key)
theorem cut_ents (t : T) (key : ByteArray) : (cutT t key).1.ents ++ ((cutT t key).2.1.ents ++ (cutT t key).2.2.ents) = t.ents := by
  unfold cutT
  simp only
  rw [split_ents, split_ents]
theorem cut_size (t : T) (key : ByteArray) : (cutT t key).1.size + ((cutT t key).2.1.size + (cutT t key).2.2.size) = t.size := by
  unfold cutT
  simp only
  rw [split_size, split_size]
theorem cut_calls (h : Nat) (t : T) (key : ByteArray) (hz : t.size ≤ 1000000) (hk : key.size ≤ 100000000) (w : World) (H : HAt w h t) :
    Calls Try.prog 25 #[.pointer (some ⟨h, 0, none⟩), .string key] w (CutPost h t key w) := by
  obtain ⟨p, hp⟩ := ptr_open t
  have hsz := split_size t key
  have hpm := split_blocks t key
  have hnd := hpm.nodup_iff.2 H.nd
  have K := Aside0.mk (split_calls t hz key w H.at_ H.nd)
  have hmem : ∀ j, j ∈ (splitT t key).1.blocks ∨ j ∈ (splitT t key).2.blocks → j ∈ t.blocks := fun j hj => hpm.mem_iff.1 (by simpa using hj)
  obtain ⟨hna, hnb, hdj⟩ := List.nodup_append.1 hnd
  have c0 : w.cell? ⟨h, 0, none⟩ = some (.pointer p) := by rw [← hp]; exact H.blk.cell 0
  have cl := H.blk.lt
  have hap := H.apart
  have HB := Aside0.mk H.blk
  have HM := Aside0.mk hmem
  have HAP := Aside0.mk hap
  have HP := Aside0.mk hp
  have HDJ := Aside0.mk hdj
  have K2 := Aside0.mk (fun w' (h' : At w' (splitT t key).2) => split_calls (splitT t key).2 (by omega) (above key) w' h' hnb)
  unfold CutPost cutT
  simp only
  obtain ⟨a, ha⟩ : ∃ a, (splitT t key).1 = a := ⟨_, rfl⟩
  obtain ⟨r, hr⟩ : ∃ r, (splitT t key).2 = r := ⟨_, rfl⟩
  unfold SplitPost at K
  rw [ha, hr] at K HM HDJ
  rw [hr] at K2
  rw [ha, hr]
  have HSB := Aside0.mk (split_blocks r (above key))
  unfold SplitPost at K2
  obtain ⟨b, hb⟩ : ∃ b, (splitT r (above key)).1 = b := ⟨_, rfl⟩
  obtain ⟨c, hc⟩ : ∃ c, (splitT r (above key)).2 = c := ⟨_, rfl⟩
  rw [hb, hc] at K2 HSB
  rw [hb, hc]
  obtain ⟨pa, hpa⟩ := ptr_open a
  obtain ⟨pr, hpr⟩ := ptr_open r
  obtain ⟨pb, hpb⟩ := ptr_open b
  obtain ⟨pc, hpc⟩ := ptr_open c
  have hks : key.size + 1 ≤ 9223372036854775807 := by omega
  rw [hpa, hpb, hpc, hp]
  rw [hp] at K
  rw [hpa, hpr] at K
  rw [hpr, hpb, hpc] at K2
  clear H hsz hpm hnd hmem hna hnb hdj hap ha hr hb hc hpa hpr hpb hpc hp
  go_enter Try.func25, Try.ntmps25
  go_wp2_with fail
  refine K.out.mono ?_
  rintro e w1 ⟨rfl, ha1, hr1, ho1⟩
  have HB1 := Aside0.mk (HB.out.only ho1 HAP.out)
  have A1 := Aside0.mk ha1
  have R1 := Aside0.mk hr1
  have O1 := Aside0.mk ho1
  clear c0 cl ha1 hr1 ho1
  go_wp2_with fail
  refine (K2.out w1 R1.out).mono ?_
  rintro e w2 ⟨rfl, hb2, hc2, ho2⟩
  have F1 : At w2 a := A1.out.only ho2 (fun j h1 h2 => HDJ.out j h1 j h2 rfl)
  have F2 : Blk w2 h TH #[t.ptr] := HB1.out.only ho2 (fun hm => HAP.out (HM.out _ (.inr hm)))
  rw [HP.out] at F2
  have F3 : Only t.blocks w w2 := O1.out.trans ho2 (fun j hj => .inl (HM.out j (.inr hj)))
  have F := Aside0.mk (And.intro F1 (And.intro hb2 (And.intro hc2 (And.intro F2 F3))))
  clear F1 hb2 hc2 F2 F3 ho2
  go_wp2
  go_ret3
  exact ⟨rfl, F.out⟩
end Go.Proofs.Ytcgfdnhocdcfjaa.Hed

/- Trees of keys: Get, Rank. -/
namespace Go.Proofs.Ytcgfdnhocdcfjaa.Hed
open Go.RowKit Go.Proofs.YtcgfdnhocdcfjaaW.PrintWords Go.Proofs.Ytcgfdnhocdcfjaa.Arr Go.Proofs.Ytcgfdnhocdcfjaa.Utf T
set_option linter.unusedVariables false
set_option linter.unusedSimpArgs false

/-- A measure of a tree by its root's own count. -/
def mz (w : World) : Value → Nat
  | .pointer (some a) => match w.cell? ⟨a.block, 3, none⟩ with
    | some (.int _ n) => n.toNat
    | _ => 0
  | _ => 0
theorem mz_ptr {w : World} {t : T} (h : At w t) : mz w t.ptr = t.size := by
  cases t with
  | nil => rfl
  | node g k v wt l r =>
    have := h.1.cell 3
    simp only [ptr_node, mz]
    rw [this]
    simp [cells, T.size]
    omega
def codeG (o : Option Int) : Int := if o.isSome then 0 else 19
set_option maxHeartbeats 4000000 in
set_option maxRecDepth 100000 in
theorem get_calls (h : Nat) (t : T) (key : ByteArray) (w : World) (H : HAt w h t) :
    Calls Try.prog 14 #[.pointer (some ⟨h, 0, none⟩), .string key] w fun e w' => e = .returned (.tuple #[.int .i64 ((getT t key).getD 0), .int .i64 (codeG (getT t key))]) ∧ Below w.heap.size w w' := by
  obtain ⟨p, hp⟩ := ptr_open t
  have c0 : w.cell? ⟨h, 0, none⟩ = some (.pointer p) := by rw [← hp]; exact H.blk.cell 0
  have cl := H.blk.lt
  have HA := Aside0.mk H.at_
  have HP := Aside0.mk hp
  obtain ⟨g0, hg0⟩ : ∃ g0, getT t key = g0 := ⟨_, rfl⟩
  have HG := Aside0.mk hg0
  rw [hg0]
  clear H hp hg0
  go_enter Try.func14, Try.ntmps14
  go_wp2
  clear c0 cl
  go_loopw [6] (fun v6 wr => ∃ s : T, v6 = s.ptr ∧ Aside0 (At wr s) ∧ Aside0 (getT s key = g0) ∧ Aside0 (Below w.heap.size w wr)) (fun v6 wr => mz wr v6)
  case atStart => exact ⟨t, HP.out.symm, HA, HG, ⟨Below.refl _ _⟩⟩
  case round =>
    obtain ⟨s, rfl, hA, hG, hb⟩ := hrel
    cases s with
    | nil =>
      rw [ptr_nil]
      have e1 : g0 = none := hG.out.symm
      subst e1
      go_wp2
      go_ret2
      exact ⟨rfl, hb.out⟩
    | node g k v wt l r =>
      obtain ⟨hB, hL, hR⟩ := hA.out
      have c0 : wr.cell? ⟨g, 0, none⟩ = some (.string k) := hB.cell 0
      have cl := hB.lt
      have HB := Aside0.mk hB
      have HL := Aside0.mk hL
      have HR := Aside0.mk hR
      have hfl := cmpL_flip (bl k 0) (bl key 0)
      have hG' := hG.out
      simp only [getT] at hG'
      have HMZ := Aside0.mk (mz_ptr hA.out)
      rw [ptr_node] at HMZ ⊢
      obtain ⟨lp, hlp⟩ := ptr_open l
      obtain ⟨rp, hrp⟩ := ptr_open r
      have HLP := Aside0.mk hlp
      have HRP := Aside0.mk hrp
      have e1 : T.lt key k = decide (cmpB key k < 0) := rfl
      have e2 : T.lt k key = decide (cmpB key k > 0) := by
        unfold T.lt cmpB
        rw [hfl, decide_eq_decide]
        omega
      rw [e1, e2] at hG'
      obtain ⟨cc, hcc⟩ : ∃ cc, cmpB key k = cc := ⟨_, rfl⟩
      have KC := Aside0.mk (fun w => compare_calls key k w)
      rw [hcc] at hG' KC
      clear hB hL hR hA hG hfl hlp hrp e1 e2 hcc
      go_wp2_with fail
      refine (KC.out _).mono ?_
      rintro e w1 ⟨rfl, rfl⟩
      clear c0
      by_cases h1 : cc < 0
      · have t1 : decide (cc < 0) = true := decide_eq_true h1
        rw [t1] at hG'
        simp only [if_true] at hG'
        have HG' := Aside0.mk hG'
        have c4 : w1.cell? ⟨g, 4, none⟩ = some (.pointer lp) := by rw [← HLP.out]; exact HB.out.cell 4
        clear hG'
        go_wp2
        go_roundw
        case rel => exact ⟨l, HLP.out.symm, HL, HG', hb⟩
        case measure => rw [HMZ.out, ← HLP.out, mz_ptr HL.out]; simp only [T.size]; omega
      · have t1 : decide (cc < 0) = false := decide_eq_false h1
        rw [t1] at hG'
        simp only [Bool.false_eq_true, if_false] at hG'
        by_cases h2 : cc > 0
        · have t2 : decide (cc > 0) = true := decide_eq_true h2
          rw [t2] at hG'
          simp only [if_true] at hG'
          have HG' := Aside0.mk hG'
          have c5 : w1.cell? ⟨g, 5, none⟩ = some (.pointer rp) := by rw [← HRP.out]; exact HB.out.cell 5
          clear hG'
          go_wp2
          go_roundw
          case rel => exact ⟨r, HRP.out.symm, HR, HG', hb⟩
          case measure => rw [HMZ.out, ← HRP.out, mz_ptr HR.out]; simp only [T.size]; omega
        · have t2 : decide (cc > 0) = false := decide_eq_false h2
          rw [t2] at hG'
          simp only [Bool.false_eq_true, if_false] at hG'
          subst hG'
          have c1 : w1.cell? ⟨g, 1, none⟩ = some (.int .i64 v) := HB.out.cell 1
          go_wp2
          go_ret2
          exact ⟨rfl, hb.out⟩
set_option maxHeartbeats 4000000 in
set_option maxRecDepth 100000 in
theorem rank_calls (h : Nat) (t : T) (key : ByteArray) (hz : t.size ≤ 1000000) (w : World) (H : HAt w h t) :
    Calls Try.prog 12 #[.pointer (some ⟨h, 0, none⟩), .string key] w fun e w' => e = .returned (.int .i64 (rankT t key : Int)) ∧ Below w.heap.size w w' := by
  obtain ⟨p, hp⟩ := ptr_open t
  have c0 : w.cell? ⟨h, 0, none⟩ = some (.pointer p) := by rw [← hp]; exact H.blk.cell 0
  have cl := H.blk.lt
  have HA := Aside0.mk H.at_
  have HP := Aside0.mk hp
  obtain ⟨g0, hg0⟩ : ∃ g0, rankT t key = g0 := ⟨_, rfl⟩
  have HG := Aside0.mk (show 0 + rankT t key = g0 by omega)
  rw [hg0]
  clear H hp hg0
  go_enter Try.func12, Try.ntmps12
  go_wp2
  clear c0 cl
  go_loopw [5, 6] (fun v5 v6 wr => ∃ (s : T) (n : Nat), v5 = .int .i64 (n : Int) ∧ v6 = s.ptr ∧ Aside0 (At wr s) ∧ Aside0 (n + rankT s key = g0) ∧ Aside0 (n + s.size ≤ 1000000) ∧ Aside0 (Below w.heap.size w wr)) (fun _ v6 wr => mz wr v6)
  case atStart => exact ⟨t, 0, rfl, HP.out.symm, HA, HG, ⟨by omega⟩, ⟨Below.refl _ _⟩⟩
  case round =>
    obtain ⟨s, n, rfl, rfl, hA, hG, hN, hb⟩ := hrel
    cases s with
    | nil =>
      rw [ptr_nil]
      have e1 : n = g0 := hG.out
      subst e1
      go_wp2
      go_ret
      exact ⟨rfl, hb.out⟩
    | node g k v wt l r =>
      obtain ⟨hB, hL, hR⟩ := hA.out
      have c0 : wr.cell? ⟨g, 0, none⟩ = some (.string k) := hB.cell 0
      have cl := hB.lt
      have HB := Aside0.mk hB
      have HL := Aside0.mk hL
      have HR := Aside0.mk hR
      have hG' := hG.out
      have hn' := hN.out
      simp only [rankT, T.size] at hG' hn'
      have HMZ := Aside0.mk (mz_ptr hA.out)
      rw [ptr_node] at HMZ ⊢
      obtain ⟨lp, hlp⟩ := ptr_open l
      obtain ⟨rp, hrp⟩ := ptr_open r
      have HLP := Aside0.mk hlp
      have HRP := Aside0.mk hrp
      have e1 : T.lt k key = decide (cmpB k key < 0) := rfl
      rw [e1] at hG'
      obtain ⟨cc, hcc⟩ : ∃ cc, cmpB k key = cc := ⟨_, rfl⟩
      have KC := Aside0.mk (fun w => compare_calls k key w)
      rw [hcc] at hG' KC
      clear hB hL hR hA hG hN hlp hrp e1 hcc
      go_wp2_with fail
      refine (KC.out _).mono ?_
      rintro e w1 ⟨rfl, rfl⟩
      clear c0
      by_cases h1 : cc < 0
      · have t1 : decide (cc < 0) = true := decide_eq_true h1
        rw [t1] at hG'
        simp only [if_true] at hG'
        have HG' := Aside0.mk hG'
        have c4 : w1.cell? ⟨g, 4, none⟩ = some (.pointer lp) := by rw [← HLP.out]; exact HB.out.cell 4
        have K4 := Aside0.mk (count_calls l w1 HL.out)
        rw [HLP.out] at K4
        have s1 : IntKind.i64.wrap ((l.size : Int) + 1) = ((l.size + 1 : Nat) : Int) := by rw [show (l.size : Int) + 1 = ((l.size + 1 : Nat) : Int) by omega]; exact IntWalk.i64_in _ (by omega)
        have s2 : IntKind.i64.wrap ((n : Int) + ((l.size + 1 : Nat) : Int)) = ((n + l.size + 1 : Nat) : Int) := by rw [show (n : Int) + ((l.size + 1 : Nat) : Int) = ((n + l.size + 1 : Nat) : Int) by omega]; exact IntWalk.i64_in _ (by omega)
        have HS := Aside0.mk (And.intro s1 s2)
        clear hG' s1 s2
        go_wp2_with fail
        refine K4.out.mono ?_
        rintro e w2 ⟨rfl, rfl⟩
        clear c4
        have c5 : w2.cell? ⟨g, 5, none⟩ = some (.pointer rp) := by rw [← HRP.out]; exact HB.out.cell 5
        obtain ⟨s1, s2⟩ := HS.out
        go_wp2
        go_roundw
        case rel => exact ⟨r, n + l.size + 1, by first | rfl | simp [s1, s2] | (simp; omega), HRP.out.symm, HR, ⟨by have := HG'.out; omega⟩, ⟨by omega⟩, hb⟩
        case measure => rw [HMZ.out, ← HRP.out, mz_ptr HR.out]; simp only [T.size]; omega
      · have t1 : decide (cc < 0) = false := decide_eq_false h1
        rw [t1] at hG'
        simp only [Bool.false_eq_true, if_false] at hG'
        have HG' := Aside0.mk hG'
        have c4 : w1.cell? ⟨g, 4, none⟩ = some (.pointer lp) := by rw [← HLP.out]; exact HB.out.cell 4
        clear hG'
        go_wp2
        go_roundw
        case rel => exact ⟨l, n, rfl, HLP.out.symm, HL, HG', ⟨by omega⟩, hb⟩
        case measure => rw [HMZ.out, ← HLP.out, mz_ptr HL.out]; simp only [T.size]; omega
end Go.Proofs.Ytcgfdnhocdcfjaa.Hed

/- Trees of keys: Put, Drop. -/
namespace Go.Proofs.Ytcgfdnhocdcfjaa.Hed
open Go.RowKit Go.Proofs.YtcgfdnhocdcfjaaW.PrintWords Go.Proofs.Ytcgfdnhocdcfjaa.Arr Go.Proofs.Ytcgfdnhocdcfjaa.Utf T
set_option linter.unusedVariables false
set_option linter.unusedSimpArgs false

def isNil : T → Bool
  | .nil => true
  | _ => false
def dropT (t : T) (key : ByteArray) : T := joinT (cutT t key).1 (cutT t key).2.2
/-- The node at a key: the elder one with another number, or a new one. -/
def midT (b : T) (g : Nat) (wt : Int) (key : ByteArray) (v : Int) : T :=
  match b with
  | .nil => .node g key v wt .nil .nil
  | .node g' k' _ wt' l r => .node g' k' v wt' l r
def putT (t : T) (g : Nat) (wt : Int) (key : ByteArray) (v : Int) : T := joinT (joinT (cutT t key).1 (midT (cutT t key).2.1 g wt key v)) (cutT t key).2.2
theorem cut_apart (t : T) (key : ByteArray) (hn : t.blocks.Nodup) :
    ((cutT t key).1.blocks ++ ((cutT t key).2.1.blocks ++ (cutT t key).2.2.blocks)).Nodup := (cut_blocks t key).nodup_iff.2 hn
theorem cut_mem (t : T) (key : ByteArray) : ∀ j, (j ∈ (cutT t key).1.blocks ∨ j ∈ (cutT t key).2.1.blocks ∨ j ∈ (cutT t key).2.2.blocks) → j ∈ t.blocks :=
  fun j hj => (cut_blocks t key).mem_iff.1 (by simpa using hj)
theorem eq_none (b : T) : (match b.ptr with | .pointer none => true | _ => false) = isNil b := by cases b <;> rfl
theorem ptr_test (b : T) (p : Option Addr) (h : b.ptr = .pointer p) : (p = none ∧ b = .nil) ∨ ∃ g k v wt l r, b = .node g k v wt l r ∧ p = some ⟨g, 0, none⟩ := by
  cases b with
  | nil => left; injection h with h; exact ⟨h.symm, rfl⟩
  | node g k v wt l r => right; injection h with h; exact ⟨g, k, v, wt, l, r, rfl, h.symm⟩
set_option maxHeartbeats 4000000 in
theorem drop_calls (h : Nat) (t : T) (key : ByteArray) (hz : t.size ≤ 1000000) (hk : key.size ≤ 100000000) (w : World) (H : HAt w h t) :
    Calls Try.prog 17 #[.pointer (some ⟨h, 0, none⟩), .string key] w fun e w' => e = .returned (.int .i64 (if isNil (cutT t key).2.1 then 19 else 0)) ∧ HAt w' h (dropT t key) ∧ Only (h :: t.blocks) w w' ∧ (∀ j, j ∈ (dropT t key).blocks → j ∈ t.blocks) := by
  have hnd := cut_apart t key H.nd
  have hmem := cut_mem t key
  have hsz := cut_size t key
  have hap := H.apart
  have K := Aside0.mk (cut_calls h t key hz hk w H)
  unfold CutPost at K
  unfold dropT
  obtain ⟨a, ha⟩ : ∃ a, (cutT t key).1 = a := ⟨_, rfl⟩
  obtain ⟨b, hb⟩ : ∃ b, (cutT t key).2.1 = b := ⟨_, rfl⟩
  obtain ⟨c, hc⟩ : ∃ c, (cutT t key).2.2 = c := ⟨_, rfl⟩
  rw [ha, hb, hc] at hnd hsz K
  rw [hb, hc]
  rw [ha]
  have hmem' : ∀ j, (j ∈ a.blocks ∨ j ∈ b.blocks ∨ j ∈ c.blocks) → j ∈ t.blocks := fun j hj => hmem j (by rw [ha, hb, hc]; exact hj)
  obtain ⟨hna, hnbc, hd1⟩ := List.nodup_append.1 hnd
  obtain ⟨hnb, hnc, hd2⟩ := List.nodup_append.1 hnbc
  have hac : (a.blocks ++ c.blocks).Nodup := List.nodup_append.2 ⟨hna, hnc, fun j h1 k h2 => hd1 j h1 k (by simp [h2])⟩
  have KJ := Aside0.mk (fun w' (h1 : At w' a) (h2 : At w' c) => join_calls a c (by omega) w' h1 h2 hac)
  unfold JoinPost at KJ
  have hjb := join_blocks a c
  have HJM := Aside0.mk (show ∀ j, j ∈ (joinT a c).blocks → j ∈ t.blocks from fun j hj => hmem' j (by have := hjb.mem_iff.1 hj; simp at this; rcases this with h | h <;> simp [h]))
  have HJN := Aside0.mk (hjb.nodup_iff.2 hac)
  have HM := Aside0.mk hmem'
  have HAP := Aside0.mk hap
  obtain ⟨pt, hpt⟩ := ptr_open t
  obtain ⟨pa, hpa⟩ := ptr_open a
  obtain ⟨pb, hpb⟩ := ptr_open b
  obtain ⟨pc, hpc⟩ := ptr_open c
  obtain ⟨j, hj⟩ : ∃ j, joinT a c = j := ⟨_, rfl⟩
  obtain ⟨pj, hpj⟩ := ptr_open j
  rw [hj] at KJ HJM HJN
  rw [hj]
  rw [hpa, hpb, hpc, hpt] at K
  rw [hpa, hpc, hpj] at KJ
  have HPJ := Aside0.mk hpj
  have hpt2 := ptr_test b pb hpb
  clear H hnd hmem hsz hap ha hb hc hmem' hna hnbc hd1 hnb hnc hd2 hac hjb hpt hpa hpb hpc hj hpj
  rcases hpt2 with ⟨rfl, rfl⟩ | ⟨gb, kb, vb, wb, lb, rb, rfl, rfl⟩
  all_goals
    simp only [isNil, if_true, Bool.false_eq_true, if_false]
    go_enter Try.func17, Try.ntmps17
    go_wp2_with fail
    refine K.out.mono ?_
    rintro e w1 ⟨rfl, ha1, hb1, hc1, hh1, ho1⟩
    have A1 := Aside0.mk ha1
    have C1 := Aside0.mk hc1
    have H1 := Aside0.mk hh1
    have O1 := Aside0.mk ho1
    clear ha1 hb1 hc1 hh1 ho1
    go_wp2_with fail
    refine (KJ.out w1 A1.out C1.out).mono ?_
    rintro e w2 ⟨rfl, hj2, ho2⟩
    have hh2 := H1.out.only ho2 (fun hm => HAP.out (HM.out _ (by simp at hm; rcases hm with h | h <;> simp [h])))
    have O2 := Aside0.mk (O1.out.trans ho2 (fun k hk => .inl (HM.out _ (by simp at hk; rcases hk with h | h <;> simp [h]))))
    have c0 : w2.cell? ⟨h, 0, none⟩ = some (.pointer pt) := hh2.cell 0
    have z0 := hh2.frozen 0
    have hl := hh2.lt
    have J2 := Aside0.mk hj2
    have H2 := Aside0.mk hh2
    clear hj2 ho2 hh2
    go_wp2
    go_ret
    refine ⟨rfl, ⟨by rw [HPJ.out]; exact H2.out.set 0 _, J2.out.keep fun k hk => Below.heap_setCell _ _ _ _ (fun e => HAP.out ((show k = h from e) ▸ HJM.out k hk)), HJN.out⟩, (O2.out.mono (fun k hk => .inl (by simp [hk]))).setCell (p := ⟨h, 0, none⟩) (.inl (by simp)) _, HJM.out⟩
end Go.Proofs.Ytcgfdnhocdcfjaa.Hed

/- Trees of keys: Put. -/
namespace Go.Proofs.Ytcgfdnhocdcfjaa.Hed
open Go.RowKit Go.Proofs.YtcgfdnhocdcfjaaW.PrintWords Go.Proofs.Ytcgfdnhocdcfjaa.Arr Go.Proofs.Ytcgfdnhocdcfjaa.Utf T
set_option linter.unusedVariables false
set_option linter.unusedSimpArgs false

def PutPost (h : Nat) (t : T) (key : ByteArray) (v : Int) (w : World) (e : Ending) (w' : World) : Prop :=
  ∃ g wt, e = .returned (.bool (isNil (cutT t key).2.1)) ∧ HAt w' h (putT t g wt key v) ∧ Only (h :: t.blocks) w w' ∧ ∀ j, j ∈ (putT t g wt key v).blocks → j ∈ t.blocks ∨ w.heap.size ≤ j
theorem mid_size (b : T) (g : Nat) (wt : Int) (key : ByteArray) (v : Int) : (midT b g wt key v).size ≤ b.size + 1 := by
  cases b <;> simp [midT, T.size]
set_option maxHeartbeats 8000000 in
theorem put_calls (h : Nat) (t : T) (key : ByteArray) (v : Int) (hz : t.size + 1 ≤ 1000000) (hk : key.size ≤ 100000000) (w : World) (H : HAt w h t) :
    Calls Try.prog 9 #[.pointer (some ⟨h, 0, none⟩), .string key, .int .i64 v] w (PutPost h t key v w) := by
  have hnd := cut_apart t key H.nd
  have hmem := cut_mem t key
  have hsz := cut_size t key
  have hap := H.apart
  have htl := H.at_.lt
  have K := Aside0.mk (cut_calls h t key (by omega) hk w H)
  unfold CutPost at K
  unfold PutPost putT
  obtain ⟨a, ha⟩ : ∃ a, (cutT t key).1 = a := ⟨_, rfl⟩
  obtain ⟨b, hb⟩ : ∃ b, (cutT t key).2.1 = b := ⟨_, rfl⟩
  obtain ⟨c, hc⟩ : ∃ c, (cutT t key).2.2 = c := ⟨_, rfl⟩
  rw [ha, hb, hc] at hnd hsz K
  rw [hb, hc]
  rw [ha]
  have hmem' : ∀ j, (j ∈ a.blocks ∨ j ∈ b.blocks ∨ j ∈ c.blocks) → j ∈ t.blocks := fun j hj => hmem j (by rw [ha, hb, hc]; exact hj)
  have HM := Aside0.mk hmem'
  have HAP := Aside0.mk hap
  have HND := Aside0.mk hnd
  have HTL := Aside0.mk htl
  have hhl := H.blk.lt
  have HHL := Aside0.mk hhl
  have KW := Aside0.mk (fun w => weigh_calls key hk w)
  obtain ⟨pt, hpt⟩ := ptr_open t
  obtain ⟨pa, hpa⟩ := ptr_open a
  obtain ⟨pb, hpb⟩ := ptr_open b
  obtain ⟨pc, hpc⟩ := ptr_open c
  rw [hpa, hpb, hpc, hpt] at K
  have HPA := Aside0.mk hpa
  have HPC := Aside0.mk hpc
  have hpt2 := ptr_test b pb hpb
  clear H hnd hmem hap htl ha hb hc hmem' hpt hpa hpb hpc hhl
  rcases hpt2 with ⟨rfl, rfl⟩ | ⟨gb, kb, vb, wb, lb, rb, rfl, rfl⟩
  · simp only [isNil, midT]
    go_enter Try.func9, Try.ntmps9
    go_wp2_with fail
    refine K.out.mono ?_
    rintro e w1 ⟨rfl, ha1, hb1, hc1, hh1, ho1⟩
    have A1 := Aside0.mk ha1
    have C1 := Aside0.mk hc1
    have H1 := Aside0.mk hh1
    have O1 := Aside0.mk ho1
    clear ha1 hb1 hc1 hh1 ho1
    go_wp2_with fail
    refine (KW.out w1).mono ?_
    rintro e w2 ⟨n, rfl, b2⟩
    obtain ⟨w3, hw3⟩ : ∃ w3, w2.alloc (.cells #[.string key, .int .i64 0, .int .u64 n, .int .i64 0, .pointer none, .pointer none] TNd) = w3 := ⟨_, rfl⟩
    have b3' : Below w2.heap.size w2 w3 := by rw [← hw3]; exact (Below.refl _ _).alloc (Nat.le_refl _) _
    have b3 := b2.trans (b3'.mono b2.size)
    have hN3 : Blk w3 w2.heap.size TNd (cells key 0 n 0 T.nil.ptr T.nil.ptr) := by rw [← hw3]; exact Blk.new _ _ _
    have K3 := Aside0.mk (fix_calls w2.heap.size key 0 n 0 T.nil T.nil w3 hN3 trivial trivial (by simp [T.size]))
    have hg2 : w1.heap.size ≤ w2.heap.size := b2.size
    have hg1 : w.heap.size ≤ w2.heap.size := Nat.le_trans O1.out.size hg2
    have HG1 := Aside0.mk hg1
    have HG2 := Aside0.mk hg2
    have B3 := Aside0.mk b3
    clear b2 b3' b3 hN3 hg1 hg2
    go_wp2_with fail
    clear hw3
    refine K3.out.mono ?_
    rintro e w4 ⟨rfl, hb4, ho4⟩
    have c1 : w4.cell? ⟨w2.heap.size, 1, none⟩ = some (.int .i64 0) := hb4.cell 1
    have z1 := hb4.frozen 1
    have gl := hb4.lt
    have B4 := Aside0.mk hb4
    have O4 := Aside0.mk ho4
    clear hb4 ho4
    go_wp2_with fail
    clear c1 z1 gl
    obtain ⟨w5, hw5⟩ : ∃ w5, w4.setCell ⟨w2.heap.size, 1, none⟩ (.int .i64 v) = w5 := ⟨_, rfl⟩
    rw [hw5]
    have o45 : Only [w2.heap.size] w4 w5 := by rw [← hw5]; exact (Only.refl _ w4).setCell (p := ⟨w2.heap.size, 1, none⟩) (.inl (by simp)) _
    have o35 := O4.out.trans o45 (fun j hj => .inl hj)
    have o15 : Only [] w1 w5 := (Only.of_below B3.out []).trans o35 (fun j hj => .inr (by rw [List.mem_singleton.1 hj]; exact HG2.out))
    have b15 := o15.nil
    have M5 : Aside0 (At w5 (node w2.heap.size key v n nil nil)) := ⟨by rw [← hw5]; exact ⟨B4.out.set 1 _, trivial, trivial⟩⟩
    have A5 := Aside0.mk (A1.out.below b15)
    have C5 := Aside0.mk (C1.out.below b15)
    have H5 := Aside0.mk (H1.out.below b15)
    have O5 : Aside0 (Only (h :: t.blocks) w w5) := ⟨(O1.out.mono (fun k hk => .inl (by simp [hk]))).step b15⟩
    have MB : Aside0 (∀ j, j ∈ (node w2.heap.size key v n nil nil).blocks → j ∈ t.blocks ∨ w.heap.size ≤ j) := ⟨fun j hj => .inr (by simp [blocks] at hj; rw [hj]; exact HG1.out)⟩
    have N5 : Aside0 (a.blocks ++ ((node w2.heap.size key v n nil nil).blocks ++ c.blocks)).Nodup := ⟨by
      have h0 := HND.out
      simp only [blocks, List.nil_append] at h0
      refine (List.perm_middle (a := w2.heap.size) (l₁ := a.blocks) (l₂ := c.blocks)).nodup_iff.2 (List.nodup_cons.2 ⟨fun hm => ?_, h0⟩)
      have h1 : w2.heap.size ∈ t.blocks := HM.out _ (by simp at hm; rcases hm with h | h <;> simp [h])
      have h2 := HTL.out _ h1
      have h3 := HG1.out
      omega⟩
    clear hw5 o45 o35 o15 b15
    have hnd5 := N5.out
    obtain ⟨hna, hnmc, hd1⟩ := List.nodup_append.1 hnd5
    obtain ⟨hnm, hnc, hd2⟩ := List.nodup_append.1 hnmc
    have ham : (a.blocks ++ (node w2.heap.size key v n nil nil).blocks).Nodup := List.nodup_append.2 ⟨hna, hnm, fun j h1 k h2 => hd1 j h1 k (List.mem_append.2 (.inl h2))⟩
    have hjb := join_blocks a (node w2.heap.size key v n nil nil)
    have hjs := join_size a (node w2.heap.size key v n nil nil)
    have hmc : ((joinT a (node w2.heap.size key v n nil nil)).blocks ++ c.blocks).Nodup := List.nodup_append.2 ⟨hjb.nodup_iff.2 ham, hnc, fun j h1 k h2 => by
      rcases List.mem_append.1 (hjb.mem_iff.1 h1) with h1 | h1
      · exact hd1 j h1 k (List.mem_append.2 (.inr h2))
      · exact hd2 j h1 k h2⟩
    have hc2 : ∀ j, j ∈ c.blocks → j ∉ a.blocks ++ (node w2.heap.size key v n nil nil).blocks := fun j hj hm => by
      rcases List.mem_append.1 hm with h1 | h1
      · exact hd1 j h1 j (List.mem_append.2 (.inr hj)) rfl
      · exact hd2 j h1 j hj rfl
    have K5 := join_calls a (node w2.heap.size key v n nil nil) (by simp only [T.size] at hsz ⊢; omega) w5 A5.out M5.out ham
    unfold JoinPost at K5
    have hJM : ∀ j, j ∈ (joinT (joinT a (node w2.heap.size key v n nil nil)) c).blocks → j ∈ t.blocks ∨ w.heap.size ≤ j := fun j hj => by
      rcases List.mem_append.1 ((join_blocks _ c).mem_iff.1 hj) with h1 | h1
      · rcases List.mem_append.1 (hjb.mem_iff.1 h1) with h1 | h1
        · exact .inl (HM.out j (.inl h1))
        · exact MB.out j h1
      · exact .inl (HM.out j (.inr (.inr h1)))
    have hJN := (join_blocks (joinT a (node w2.heap.size key v n nil nil)) c).nodup_iff.2 hmc
    obtain ⟨pj, hpj⟩ := ptr_open (joinT a (node w2.heap.size key v n nil nil))
    obtain ⟨pf, hpf⟩ := ptr_open (joinT (joinT a (node w2.heap.size key v n nil nil)) c)
    have HPF := Aside0.mk hpf
    have HPJ := Aside0.mk hpj
    have HJM := Aside0.mk hJM
    have HJN := Aside0.mk hJN
    have HC2 := Aside0.mk hc2
    have HJB := Aside0.mk hjb
    have K6 := Aside0.mk (fun w' (h1 : At w' (joinT a (node w2.heap.size key v n nil nil))) (h2 : At w' c) => join_calls (joinT a (node w2.heap.size key v n nil nil)) c (by simp only [T.size] at hsz hjs ⊢; omega) w' h1 h2 hmc)
    unfold JoinPost at K6
    rw [hpj, HPC.out, hpf] at K6
    rw [hpj, HPA.out, ptr_node] at K5
    clear hnd5 hna hnmc hd1 hnm hnc hd2 ham hjb hjs hmc hc2 hJM hJN hpj hpf
    refine K5.mono ?_
    rintro e w6 ⟨rfl, hj6, ho6⟩
    have C6 := Aside0.mk (C5.out.only ho6 HC2.out)
    have J6 := Aside0.mk hj6
    have H6 := Aside0.mk (H5.out.only ho6 (fun hm => by rcases List.mem_append.1 hm with h1 | h1; exact HAP.out (HM.out _ (.inl h1)); exact (MB.out _ h1).elim HAP.out (fun h2 => by have := HHL.out; omega)))
    have O6 := Aside0.mk (O5.out.trans ho6 (fun k hk => by rcases List.mem_append.1 hk with h1 | h1; exact .inl (by simp [HM.out k (.inl h1)]); exact (MB.out _ h1).imp (fun h2 => by simp [h2]) id))
    clear hj6 ho6
    go_wp2_with fail
    refine (K6.out w6 J6.out C6.out).mono ?_
    rintro e w7 ⟨rfl, hj7, ho7⟩
    have hh7 := H6.out.only ho7 (fun hm => by
      rcases List.mem_append.1 hm with h1 | h1
      · rcases List.mem_append.1 (HJB.out.mem_iff.1 h1) with h1 | h1
        · exact HAP.out (HM.out _ (.inl h1))
        · exact (MB.out _ h1).elim HAP.out (fun h2 => by have := HHL.out; omega)
      · exact HAP.out (HM.out _ (.inr (.inr h1))))
    have O7 := Aside0.mk (O6.out.trans ho7 (fun k hk => by
      rcases List.mem_append.1 hk with h1 | h1
      · rcases List.mem_append.1 (HJB.out.mem_iff.1 h1) with h1 | h1
        · exact .inl (by simp [HM.out k (.inl h1)])
        · exact (MB.out _ h1).imp (fun h2 => by simp [h2]) id
      · exact .inl (by simp [HM.out k (.inr (.inr h1))])))
    have c0 : w7.cell? ⟨h, 0, none⟩ = some (.pointer pt) := hh7.cell 0
    have z0 := hh7.frozen 0
    have hl := hh7.lt
    have J7 := Aside0.mk hj7
    have H7 := Aside0.mk hh7
    clear hj7 ho7 hh7
    go_wp2
    go_ret
    refine ⟨w2.heap.size, n, rfl, ⟨by rw [HPF.out]; exact H7.out.set 0 _, J7.out.keep fun k hk => Below.heap_setCell _ _ _ _ (fun e => (HJM.out k hk).elim (fun h2 => HAP.out ((show k = h from e) ▸ h2)) (fun h2 => by have h3 := HHL.out; have h4 : k = h := e; omega)), HJN.out⟩, O7.out.setCell (p := ⟨h, 0, none⟩) (.inl (by simp)) _, HJM.out⟩
  · simp only [isNil, midT]
    go_enter Try.func9, Try.ntmps9
    go_wp2_with fail
    refine K.out.mono ?_
    rintro e w1 ⟨rfl, ha1, hb1, hc1, hh1, ho1⟩
    have A1 := Aside0.mk ha1
    have C1 := Aside0.mk hc1
    have H1 := Aside0.mk hh1
    have O1 := Aside0.mk ho1
    obtain ⟨hbb, hbl, hbr⟩ := hb1
    have BB := Aside0.mk hbb
    have BL := Aside0.mk hbl
    have BR := Aside0.mk hbr
    have hgt : gb ∈ t.blocks := HM.out _ (by simp [blocks])
    have hnd0 := HND.out
    simp only [blocks] at hnd0
    obtain ⟨-, hx, hax⟩ := List.nodup_append.1 hnd0
    obtain ⟨hy, -, hbc⟩ := List.nodup_append.1 hx
    have hgl := (List.nodup_cons.1 hy).1
    have ga : gb ∉ a.blocks := fun h1 => hax gb h1 gb (by simp) rfl
    have gc : gb ∉ c.blocks := fun h1 => hbc gb (by simp) gb h1 rfl
    have gll : gb ∉ lb.blocks := fun h1 => hgl (by simp [h1])
    have grr : gb ∉ rb.blocks := fun h1 => hgl (by simp [h1])
    have GG := Aside0.mk (And.intro hgt (And.intro ga (And.intro gc (And.intro gll grr))))
    have c1 : w1.cell? ⟨gb, 1, none⟩ = some (.int .i64 vb) := hbb.cell 1
    have z1 := hbb.frozen 1
    have gl := hbb.lt
    clear ha1 hbb hbl hbr hc1 hh1 ho1 hgt hnd0 hx hax hy hbc hgl ga gc gll grr
    go_wp2_with fail
    clear c1 z1 gl
    obtain ⟨w5, hw5⟩ : ∃ w5, w1.setCell ⟨gb, 1, none⟩ (.int .i64 v) = w5 := ⟨_, rfl⟩
    rw [hw5]
    have ng : ∀ t : T, gb ∉ t.blocks → At w1 t → At w5 t := fun t hg ht => ht.keep fun j hj => by rw [← hw5]; exact Below.heap_setCell _ _ _ _ (fun e => hg ((show j = gb from e) ▸ hj))
    have hne : h ≠ gb := fun e => HAP.out (e ▸ GG.out.1)
    have M5 : Aside0 (At w5 (node gb kb v wb lb rb)) := ⟨⟨by rw [← hw5]; exact BB.out.set 1 _, ng lb GG.out.2.2.2.1 BL.out, ng rb GG.out.2.2.2.2 BR.out⟩⟩
    have A5 := Aside0.mk (ng a GG.out.2.1 A1.out)
    have C5 := Aside0.mk (ng c GG.out.2.2.1 C1.out)
    have H5 : Aside0 (Blk w5 h TH #[.pointer pt]) := ⟨by rw [← hw5]; exact H1.out.far (p := ⟨gb, 1, none⟩) hne _⟩
    have O5 : Aside0 (Only (h :: t.blocks) w w5) := ⟨by rw [← hw5]; exact (O1.out.mono (fun k hk => .inl (by simp [hk]))).setCell (p := ⟨gb, 1, none⟩) (.inl (by simp [GG.out.1])) _⟩
    have MB : Aside0 (∀ j, j ∈ (node gb kb v wb lb rb).blocks → j ∈ t.blocks ∨ w.heap.size ≤ j) := ⟨fun j hj => .inl (HM.out j (.inr (.inl (by simpa [blocks] using hj))))⟩
    have N5 : Aside0 (a.blocks ++ ((node gb kb v wb lb rb).blocks ++ c.blocks)).Nodup := ⟨by have h0 := HND.out; simpa only [blocks] using h0⟩
    clear hw5 ng hne
    have hnd5 := N5.out
    obtain ⟨hna, hnmc, hd1⟩ := List.nodup_append.1 hnd5
    obtain ⟨hnm, hnc, hd2⟩ := List.nodup_append.1 hnmc
    have ham : (a.blocks ++ (node gb kb v wb lb rb).blocks).Nodup := List.nodup_append.2 ⟨hna, hnm, fun j h1 k h2 => hd1 j h1 k (List.mem_append.2 (.inl h2))⟩
    have hjb := join_blocks a (node gb kb v wb lb rb)
    have hjs := join_size a (node gb kb v wb lb rb)
    have hmc : ((joinT a (node gb kb v wb lb rb)).blocks ++ c.blocks).Nodup := List.nodup_append.2 ⟨hjb.nodup_iff.2 ham, hnc, fun j h1 k h2 => by
      rcases List.mem_append.1 (hjb.mem_iff.1 h1) with h1 | h1
      · exact hd1 j h1 k (List.mem_append.2 (.inr h2))
      · exact hd2 j h1 k h2⟩
    have hc2 : ∀ j, j ∈ c.blocks → j ∉ a.blocks ++ (node gb kb v wb lb rb).blocks := fun j hj hm => by
      rcases List.mem_append.1 hm with h1 | h1
      · exact hd1 j h1 j (List.mem_append.2 (.inr hj)) rfl
      · exact hd2 j h1 j hj rfl
    have K5 := join_calls a (node gb kb v wb lb rb) (by simp only [T.size] at hsz ⊢; omega) w5 A5.out M5.out ham
    unfold JoinPost at K5
    have hJM : ∀ j, j ∈ (joinT (joinT a (node gb kb v wb lb rb)) c).blocks → j ∈ t.blocks ∨ w.heap.size ≤ j := fun j hj => by
      rcases List.mem_append.1 ((join_blocks _ c).mem_iff.1 hj) with h1 | h1
      · rcases List.mem_append.1 (hjb.mem_iff.1 h1) with h1 | h1
        · exact .inl (HM.out j (.inl h1))
        · exact MB.out j h1
      · exact .inl (HM.out j (.inr (.inr h1)))
    have hJN := (join_blocks (joinT a (node gb kb v wb lb rb)) c).nodup_iff.2 hmc
    obtain ⟨pj, hpj⟩ := ptr_open (joinT a (node gb kb v wb lb rb))
    obtain ⟨pf, hpf⟩ := ptr_open (joinT (joinT a (node gb kb v wb lb rb)) c)
    have HPF := Aside0.mk hpf
    have HPJ := Aside0.mk hpj
    have HJM := Aside0.mk hJM
    have HJN := Aside0.mk hJN
    have HC2 := Aside0.mk hc2
    have HJB := Aside0.mk hjb
    have K6 := Aside0.mk (fun w' (h1 : At w' (joinT a (node gb kb v wb lb rb))) (h2 : At w' c) => join_calls (joinT a (node gb kb v wb lb rb)) c (by simp only [T.size] at hsz hjs ⊢; omega) w' h1 h2 hmc)
    unfold JoinPost at K6
    rw [hpj, HPC.out, hpf] at K6
    rw [hpj, HPA.out, ptr_node] at K5
    clear hnd5 hna hnmc hd1 hnm hnc hd2 ham hjb hjs hmc hc2 hJM hJN hpj hpf
    refine K5.mono ?_
    rintro e w6 ⟨rfl, hj6, ho6⟩
    have C6 := Aside0.mk (C5.out.only ho6 HC2.out)
    have J6 := Aside0.mk hj6
    have H6 := Aside0.mk (H5.out.only ho6 (fun hm => by rcases List.mem_append.1 hm with h1 | h1; exact HAP.out (HM.out _ (.inl h1)); exact (MB.out _ h1).elim HAP.out (fun h2 => by have := HHL.out; omega)))
    have O6 := Aside0.mk (O5.out.trans ho6 (fun k hk => by rcases List.mem_append.1 hk with h1 | h1; exact .inl (by simp [HM.out k (.inl h1)]); exact (MB.out _ h1).imp (fun h2 => by simp [h2]) id))
    clear hj6 ho6
    go_wp2_with fail
    refine (K6.out w6 J6.out C6.out).mono ?_
    rintro e w7 ⟨rfl, hj7, ho7⟩
    have hh7 := H6.out.only ho7 (fun hm => by
      rcases List.mem_append.1 hm with h1 | h1
      · rcases List.mem_append.1 (HJB.out.mem_iff.1 h1) with h1 | h1
        · exact HAP.out (HM.out _ (.inl h1))
        · exact (MB.out _ h1).elim HAP.out (fun h2 => by have := HHL.out; omega)
      · exact HAP.out (HM.out _ (.inr (.inr h1))))
    have O7 := Aside0.mk (O6.out.trans ho7 (fun k hk => by
      rcases List.mem_append.1 hk with h1 | h1
      · rcases List.mem_append.1 (HJB.out.mem_iff.1 h1) with h1 | h1
        · exact .inl (by simp [HM.out k (.inl h1)])
        · exact (MB.out _ h1).imp (fun h2 => by simp [h2]) id
      · exact .inl (by simp [HM.out k (.inr (.inr h1))])))
    have c0 : w7.cell? ⟨h, 0, none⟩ = some (.pointer pt) := hh7.cell 0
    have z0 := hh7.frozen 0
    have hl := hh7.lt
    have J7 := Aside0.mk hj7
    have H7 := Aside0.mk hh7
    clear hj7 ho7 hh7
    go_wp2
    go_ret
    refine ⟨0, 0, rfl, ⟨by rw [HPF.out]; exact H7.out.set 0 _, J7.out.keep fun k hk => Below.heap_setCell _ _ _ _ (fun e => (HJM.out k hk).elim (fun h2 => HAP.out ((show k = h from e) ▸ h2)) (fun h2 => by have h3 := HHL.out; have h4 : k = h := e; omega)), HJN.out⟩, O7.out.setCell (p := ⟨h, 0, none⟩) (.inl (by simp)) _, HJM.out⟩
end Go.Proofs.Ytcgfdnhocdcfjaa.Hed

/- Trees of keys: walk. -/
namespace Go.Proofs.Ytcgfdnhocdcfjaa.Hed
open Go.RowKit Go.Proofs.YtcgfdnhocdcfjaaW.PrintWords Go.Proofs.Ytcgfdnhocdcfjaa.Arr Go.Proofs.Ytcgfdnhocdcfjaa.Utf T
set_option linter.unusedVariables false
set_option linter.unusedSimpArgs false

section
variable (ok : List Ent → Ent → Bool)
/-- Entries are gathered as long as they are right. -/
def runL : List Ent → List Ent → List Ent × Bool
  | [], out => (out, true)
  | e :: l, out => if ok out e then runL l (out ++ [e]) else (out, false)
theorem runL_append (l m out : List Ent) : runL ok (l ++ m) out = if (runL ok l out).2 then runL ok m (runL ok l out).1 else ((runL ok l out).1, false) := by
  induction l generalizing out with
  | nil => rfl
  | cons e l ih =>
    simp only [List.cons_append, runL]
    split
    · exact ih _
    · rfl
theorem runL_len (l out : List Ent) : (runL ok l out).1.length ≤ out.length + l.length := by
  induction l generalizing out with
  | nil => exact Nat.le_refl _
  | cons e l ih =>
    simp only [runL]
    split
    · have := ih (out ++ [e])
      simp only [List.length_append, List.length_cons, List.length_nil] at this ⊢
      omega
    · simp
end
theorem from_len (t : T) (key : ByteArray) : (from_ t key).length ≤ t.size := by
  induction t with
  | nil => exact Nat.le_refl _
  | node g k v wt l r ihl ihr =>
    simp only [from_, T.size]
    split
    · omega
    · simp only [List.length_append, List.length_cons]; omega
section
variable (ok : List Ent → Ent → Bool) (St : List Ent → World → Prop) (B N : Nat) (caps : Array Value)
/-- What is visited is gathered, if it is right. -/
def VisAt : Prop := ∀ (k : ByteArray) (v : Int) (out : List Ent) (w : World), St out w → B ≤ w.heap.size → out.length < 1000000 →
  Calls Try.prog N (#[.agg #[.string k, .int .i64 v]] ++ caps) w fun e w' => e = .returned (.bool (ok out (k, v))) ∧ St (if ok out (k, v) then out ++ [(k, v)] else out) w' ∧ Below B w w'
def WalkPost (t : T) (key : ByteArray) (out : List Ent) (w : World) (e : Ending) (w' : World) : Prop :=
  e = .returned (.bool (runL ok (from_ t key) out).2) ∧ St (runL ok (from_ t key) out).1 w' ∧ Below B w w'
variable {ok St B N caps}
set_option maxHeartbeats 8000000 in
theorem walk_calls (hcf : ∀ args w, Sem.run Try.prog (callFunc N args) w = Result.ok (.enter N args) w) (hst : ∀ out w w', St out w → Below w.heap.size w w' → St out w') (hv : VisAt ok St B N caps) (t : T) (key : ByteArray) :
    ∀ (out : List Ent) (w : World), out.length + t.size ≤ 1000000 → (∀ k, k ∈ t.blocks → k < B) → At w t → St out w → B ≤ w.heap.size →
      Calls Try.prog 38 #[t.ptr, .string key, .func (Fn.func N) #[] caps] w (WalkPost ok St B t key out w) := by
  induction t with
  | nil =>
    intro out w _ _ _ hS hB
    rw [ptr_nil]
    have HS := Aside0.mk hS
    clear hS
    go_enter Try.func38, Try.ntmps38
    go_wp2
    go_ret
    exact ⟨rfl, HS.out, Below.refl _ _⟩
  | node g k v wt l r ihl ihr =>
    intro out w hz hlt hA hS hB
    rw [ptr_node]
    simp only [T.size] at hz
    obtain ⟨hb, hL, hR⟩ := hA
    have hll : ∀ j, j ∈ l.blocks → j < B := fun j hj => hlt j (by simp [blocks, hj])
    have hrl : ∀ j, j ∈ r.blocks → j < B := fun j hj => hlt j (by simp [blocks, hj])
    have hgB : g < B := hlt g (by simp [blocks])
    have HS := Aside0.mk hS
    have HB := Aside0.mk hb
    have HL := Aside0.mk hL
    have HR := Aside0.mk hR
    have HLL := Aside0.mk hll
    have HRL := Aside0.mk hrl
    obtain ⟨lp, hlp⟩ := ptr_open l
    obtain ⟨rp, hrp⟩ := ptr_open r
    have HLP := Aside0.mk hlp
    have HRP := Aside0.mk hrp
    have IL := Aside0.mk ihl
    have IR := Aside0.mk ihr
    have VV := Aside0.mk hv
    have SS := Aside0.mk hst
    have c0 : w.cell? ⟨g, 0, none⟩ = some (.string k) := hb.cell 0
    have cl := hb.lt
    have KC := Aside0.mk (fun w => compare_calls k key w)
    have fl := from_len l key
    unfold WalkPost
    simp only [from_]
    have e1 : T.lt k key = decide (cmpB k key < 0) := rfl
    rw [e1]
    obtain ⟨cc, hcc⟩ : ∃ cc, cmpB k key = cc := ⟨_, rfl⟩
    rw [hcc] at KC ⊢
    clear ihl ihr hS hlt hL hR hb hll hrl hlp hrp hv hst hcc e1
    by_cases h1 : cc < 0
    · have t1 : decide (cc < 0) = true := decide_eq_true h1
      rw [t1]
      simp only [if_true]
      have c5 : w.cell? ⟨g, 5, none⟩ = some (.pointer rp) := by rw [← HRP.out]; exact HB.out.cell 5
      have K := IR.out out w (by omega) HRL.out HR.out HS.out hB
      rw [HRP.out] at K
      unfold WalkPost at K
      have K' := Aside0.mk K
      obtain ⟨res, hres⟩ : ∃ res, runL ok (from_ r key) out = res := ⟨_, rfl⟩
      obtain ⟨o2, b2⟩ := res
      rw [hres] at K' ⊢
      clear K hres
      go_enter Try.func38, Try.ntmps38
      go_wp2_with fail
      refine (KC.out _).mono ?_
      rintro e w1 ⟨rfl, rfl⟩
      clear c0
      go_wp2_with fail
      refine K'.out.mono ?_
      rintro e w2 ⟨rfl, hS2, hb2⟩
      have S2 := Aside0.mk hS2
      have B2 := Aside0.mk hb2
      clear hS2 hb2 c5
      go_wp2
      go_ret
      exact ⟨rfl, S2.out, B2.out⟩
    · have t1 : decide (cc < 0) = false := decide_eq_false h1
      rw [t1]
      simp only [Bool.false_eq_true, if_false]
      rw [runL_append]
      have c4 : w.cell? ⟨g, 4, none⟩ = some (.pointer lp) := by rw [← HLP.out]; exact HB.out.cell 4
      have K := IL.out out w (by omega) HLL.out HL.out HS.out hB
      rw [HLP.out] at K
      unfold WalkPost at K
      have hlen := runL_len ok (from_ l key) out
      obtain ⟨o1, b1⟩ : ∃ o1, (runL ok (from_ l key) out).1 = o1 := ⟨_, rfl⟩
      obtain ⟨q1, hq1⟩ : ∃ q1, (runL ok (from_ l key) out).2 = q1 := ⟨_, rfl⟩
      rw [b1, hq1] at K ⊢
      rw [b1] at hlen
      have K' := Aside0.mk K
      clear K b1 hq1
      cases q1 with
      | false =>
        simp only [Bool.false_eq_true, if_false]
        go_enter Try.func38, Try.ntmps38
        go_wp2_with fail
        refine (KC.out _).mono ?_
        rintro e w1 ⟨rfl, rfl⟩
        clear c0
        go_wp2_with fail
        refine K'.out.mono ?_
        rintro e w2 ⟨rfl, hS2, hb2⟩
        have S2 := Aside0.mk hS2
        have B2 := Aside0.mk hb2
        clear hS2 hb2 c4
        go_wp2
        go_ret
        exact ⟨rfl, S2.out, B2.out⟩
      | true =>
        simp only [if_true, runL]
        have VK := Aside0.mk (fun w' (h1 : St o1 w') (h2 : B ≤ w'.heap.size) => VV.out k v o1 w' h1 h2 (by omega))
        obtain ⟨qo, hqo⟩ : ∃ qo, ok o1 (k, v) = qo := ⟨_, rfl⟩
        rw [hqo] at VK ⊢
        clear hqo
        cases qo with
        | false =>
          simp only [Bool.false_eq_true, if_false] at VK ⊢
          go_enter Try.func38, Try.ntmps38
          go_wp2_with fail
          refine (KC.out _).mono ?_
          rintro e w1 ⟨rfl, rfl⟩
          clear c0
          go_wp2_with fail
          refine K'.out.mono ?_
          rintro e w2 ⟨rfl, hS2, hb2⟩
          have hB2 := HB.out.below' hb2 hgB
          have c0 : w2.cell? ⟨g, 0, none⟩ = some (.string k) := hB2.cell 0
          have c1 : w2.cell? ⟨g, 1, none⟩ = some (.int .i64 v) := hB2.cell 1
          have gl := hB2.lt
          have S2 := Aside0.mk hS2
          have B2 := Aside0.mk hb2
          have z2 := hb2.size
          clear hS2 hb2 c4 hB2
          go_wp2_with fail
          refine (VK.out w2 S2.out (by omega)).mono ?_
          rintro e w3 ⟨rfl, hS3, hb3⟩
          have S3 := Aside0.mk hS3
          have B3 := Aside0.mk (B2.out.trans hb3)
          have z3 := hb3.size
          clear hS3 hb3 c0 c1 gl
          go_wp2
          go_ret
          exact ⟨rfl, S3.out, B3.out⟩
        | true =>
          simp only [if_true] at VK ⊢
          have K6 := Aside0.mk (fun w' (h1 : At w' r) (h2 : St (o1 ++ [(k, v)]) w') (h3 : B ≤ w'.heap.size) => IR.out (o1 ++ [(k, v)]) w' (by simp only [List.length_append, List.length_cons, List.length_nil]; omega) HRL.out h1 h2 h3)
          unfold WalkPost at K6
          rw [HRP.out] at K6
          obtain ⟨o3, hn3⟩ : ∃ o3, o1 ++ [(k, v)] = o3 := ⟨_, rfl⟩
          rw [hn3] at VK K6 ⊢
          obtain ⟨o4, ho4⟩ : ∃ o4, (runL ok (from_ r key) o3).1 = o4 := ⟨_, rfl⟩
          obtain ⟨q4, hq4⟩ : ∃ q4, (runL ok (from_ r key) o3).2 = q4 := ⟨_, rfl⟩
          rw [ho4, hq4] at K6 ⊢
          clear hn3 ho4 hq4
          go_enter Try.func38, Try.ntmps38
          go_wp2_with fail
          refine (KC.out _).mono ?_
          rintro e w1 ⟨rfl, rfl⟩
          clear c0
          go_wp2_with fail
          refine K'.out.mono ?_
          rintro e w2 ⟨rfl, hS2, hb2⟩
          have hB2 := HB.out.below' hb2 hgB
          have c0 : w2.cell? ⟨g, 0, none⟩ = some (.string k) := hB2.cell 0
          have c1 : w2.cell? ⟨g, 1, none⟩ = some (.int .i64 v) := hB2.cell 1
          have gl := hB2.lt
          have S2 := Aside0.mk hS2
          have B2 := Aside0.mk hb2
          have z2 := hb2.size
          clear hS2 hb2 c4 hB2
          go_wp2_with fail
          refine (VK.out w2 S2.out (by omega)).mono ?_
          rintro e w3 ⟨rfl, hS3, hb3⟩
          have S3 := Aside0.mk hS3
          have B3 := Aside0.mk (B2.out.trans hb3)
          have z3 := hb3.size
          clear hS3 hb3 c0 c1 gl
          have hB3 := HB.out.below' B3.out hgB
          have c5 : w3.cell? ⟨g, 5, none⟩ = some (.pointer rp) := by rw [← HRP.out]; exact hB3.cell 5
          have gl := hB3.lt
          clear hB3
          go_wp2_with fail
          refine (K6.out w3 (HR.out.keep fun j hj => B3.out.block j (HRL.out j hj)) S3.out (by omega)).mono ?_
          rintro e w4 ⟨rfl, hS4, hb4⟩
          have S4 := Aside0.mk hS4
          have B4 := Aside0.mk (B3.out.trans hb4)
          clear hS4 hb4 c5 gl
          go_wp2
          go_ret
          exact ⟨rfl, S4.out, B4.out⟩
end
end Go.Proofs.Ytcgfdnhocdcfjaa.Hed

/- Trees of keys: what walk's visitor does: gather$1. -/
namespace Go.Proofs.Ytcgfdnhocdcfjaa.Hed
open Go.RowKit Go.Proofs.YtcgfdnhocdcfjaaW.PrintWords Go.Proofs.YtcgfdnhocdcfjaaW.PrintLast Go.Proofs.YtcgfdnhocdcfjaaW.PrintMore Go.Proofs.Ytcgfdnhocdcfjaa.Arr Go.Proofs.Ytcgfdnhocdcfjaa.Utf Go.Proofs.Ytcgfdnhocdcfjaa.PHedgePlays T
set_option linter.unusedVariables false
set_option linter.unusedSimpArgs false

abbrev TEn : TypeId := 32
abbrev TEs : TypeId := 27
abbrev TFn : TypeId := 69
abbrev TI : TypeId := 3
theorem infoEn : (Try.prog.info? TEn).map (fun i => (i.zero, i.size, i.bytes)) = some (some (.agg #[.string ⟨#[]⟩, .int .i64 0]), 2, 24) := by kernel_rfl
def toS (e : Ent) : S32 := ⟨e.1, e.2⟩
def okG (most : Int) (rt : ByteArray → Bool) (out : List Ent) (e : Ent) : Bool := decide ((out.length : Int) < most) && rt e.1
/-- The visitor's variables. -/
def StG (B g gm gr : Nat) (most : Int) (rv : Value) (Cond : World → Prop) (out : List Ent) (w : World) : Prop :=
  ∃ vo, Blk w g TEs #[vo] ∧ Kd.R k32 TEn w B (fun _ => True) vo (out.map toS) ∧ Blk w gm TI #[.int .i64 most] ∧ Blk w gr TFn #[rv] ∧ B ≤ g ∧ B ≤ w.heap.size ∧ Cond w
section
variable {B g gm gr : Nat} {most : Int} {rv : Value} {Cond : World → Prop}
theorem stG_below (hC : ∀ w w', Cond w → Below B w w' → Cond w') (out : List Ent) (w w' : World) (h : StG B g gm gr most rv Cond out w) (hb : Below w.heap.size w w') : StG B g gm gr most rv Cond out w' := by
  obtain ⟨vo, h1, h2, h3, h4, h5, h6, h7⟩ := h
  exact ⟨vo, h1.below hb, Kd.R_below h2 hb, h3.below hb, h4.below hb, h5, Nat.le_trans h6 hb.size, hC _ _ h7 (hb.mono h6)⟩
set_option maxHeartbeats 8000000 in
theorem vis_gather (hC : ∀ w w', Cond w → Below B w w' → Cond w') {N2 : FuncId} {caps2 : Array Value} {rt : ByteArray → Bool} (hcf : ∀ args w, Sem.run Try.prog (callFunc N2 args) w = Result.ok (.enter N2 args) w)
    (hr : ∀ key w, Cond w → Calls Try.prog N2 (#[.string key] ++ caps2) w fun e w' => e = .returned (.bool (rt key)) ∧ Below w.heap.size w w') :
    VisAt (okG most rt) (StG B g gm gr most (.func (Fn.func N2) #[] caps2) Cond) B 39 #[.pointer (some ⟨g, 0, none⟩), .pointer (some ⟨gm, 0, none⟩), .pointer (some ⟨gr, 0, none⟩)] := by
  intro k v out w hS hBw hlen
  have hS0 := hS
  obtain ⟨vo, h1, h2, h3, h4, h5, h6, h7⟩ := hS
  obtain ⟨Ao, co, rfl⟩ := Kd.R_slice h2
  rw [List.length_map] at h1 h2
  show Calls Try.prog 39 #[.agg #[.string k, .int .i64 v], .pointer (some ⟨g, 0, none⟩), .pointer (some ⟨gm, 0, none⟩), .pointer (some ⟨gr, 0, none⟩)] w _
  obtain ⟨W, hW⟩ : ∃ W, w.alloc (.cells #[.string k, .int .i64 v] TEn) = W := ⟨_, rfl⟩
  have bb : Below w.heap.size w W := by rw [← hW]; exact (Below.refl _ _).alloc (Nat.le_refl _) _
  have hE : Blk W w.heap.size TEn #[.string k, .int .i64 v] := by rw [← hW]; exact Blk.new _ _ _
  have g1 := h1.below bb
  have g3 := h3.below bb
  have g4 := h4.below bb
  have c1 := g1.cell 0
  have l1 := g1.lt
  have c3 := g3.cell 0
  have l3 := g3.lt
  have c4 := g4.cell 0
  have l4 := g4.lt
  have ce := hE.cell 0
  have le := hE.lt
  have S0 := Aside0.mk (stG_below hC out w W hS0 bb)
  have HS := Aside0.mk hS0
  have BB := Aside0.mk bb
  have HE := Aside0.mk hE
  have G1 := Aside0.mk g1
  have G3 := Aside0.mk g3
  have G4 := Aside0.mk g4
  have HR := Aside0.mk (Kd.R_below h2 bb)
  have H7 := Aside0.mk (hC _ _ h7 (bb.mono h6))
  have RR := Aside0.mk hr
  have CC := Aside0.mk hC
  have bB := Aside0.mk (bb.mono h6)
  clear hS0 h1 h2 h3 h4 h7 bb hE g1 g3 g4 hr hC
  by_cases hm : (out.length : Int) < most
  case neg =>
    have e1 : okG most rt out (k, v) = false := by unfold okG; rw [decide_eq_false hm]; rfl
    rw [e1]
    simp only [Bool.false_eq_true, if_false]
    have t1 : decide ((out.length : Int) ≥ most) = true := decide_eq_true (by omega)
    clear e1 hm
    go_enter Try.func39, Try.ntmps39
    go_wp2
    go_ret
    exact ⟨rfl, S0.out, bB.out⟩
  have t1 : decide ((out.length : Int) ≥ most) = false := decide_eq_false (by omega)
  have e1 : okG most rt out (k, v) = rt k := by unfold okG; rw [decide_eq_true hm]; rfl
  rw [e1]
  have KR := Aside0.mk (fun w' (h : Cond w') => RR.out k w' h)
  cases hrt : rt k with
  | false =>
    rw [hrt] at KR
    simp only [Bool.false_eq_true, if_false]
    clear hrt e1 hm
    go_enter Try.func39, Try.ntmps39
    go_wp2_with fail
    refine (KR.out W H7.out).mono ?_
    rintro e w2 ⟨rfl, b2⟩
    have S2 := Aside0.mk (stG_below CC.out out W w2 S0.out b2)
    have B2 := Aside0.mk (bB.out.trans (b2.mono (Nat.le_trans h6 BB.out.size)))
    clear b2
    go_wp2
    go_ret
    exact ⟨rfl, S2.out, B2.out⟩
  | true =>
    rw [hrt] at KR
    simp only [if_true]
    clear hrt e1 hm
    go_enter Try.func39, Try.ntmps39
    go_wp2_with fail
    refine (KR.out W H7.out).mono ?_
    rintro e w2 ⟨rfl, b2⟩
    have hg2 := G1.out.below b2
    have he2 := HE.out.below b2
    have d1 := hg2.cell 0
    have d2 := he2.cell 0
    have d3 := he2.cell 1
    have m1 := hg2.lt
    have m2 := he2.lt
    have R2 := Aside0.mk (Kd.R_below HR.out b2)
    have Q1 := Aside0.mk hg2
    have Q3 := Aside0.mk (G3.out.below b2)
    have Q4 := Aside0.mk (G4.out.below b2)
    have hBW : B ≤ w2.heap.size := Nat.le_trans h6 (Nat.le_trans BB.out.size b2.size)
    have C2 := Aside0.mk (CC.out _ _ H7.out (b2.mono (Nat.le_trans h6 BB.out.size)))
    have B2 := Aside0.mk (bB.out.trans (b2.mono (Nat.le_trans h6 BB.out.size)))
    have hl1 : ((out.map toS).length + 1) * 24 ≤ 140737488355328 := by rw [List.length_map]; omega
    clear b2 hg2 he2 c1 l1 c3 l3 c4 l4 ce le
    go_wp2_with (at_builtin; refine Kd.R_append k32 (w0 := w2) B rfl (.tmp 17) (.tmp 19) TEs TEn (.agg #[.string ⟨#[]⟩, .int .i64 0]) 24 rfl Try.underlying27 infoEn rfl (by decide) (by decide) _ (out.map toS) (toS (k, v)) [.string k, .int .i64 v] (fun _ => True) (fun _ => False) rfl rfl (k32_mkM w2 B _ _) (fun _ hk => hk.elim) (fun _ _ => trivial) R2.out (Below.refl _ _) hBW hl1 ?_)
    intro v1 w3 hR3 hb3 hg3 hat3
    obtain ⟨A1, k1, e1⟩ := Kd.R_slice hR3
    obtain ⟨n9, hn9⟩ : ∃ n9, (out.map toS ++ [toS (k, v)]).length = n9 := ⟨_, rfl⟩
    rw [hn9] at e1
    clear hn9
    subst e1
    have n1 := Kd.R_ne R2.out Q1.out.out (by decide)
    have n3 := Kd.R_ne R2.out Q3.out.out (by decide)
    have n4 := Kd.R_ne R2.out Q4.out.out (by decide)
    have g1 : Blk w3 g TEs #[.slice Ao out.length co] := ⟨(hg3.block g Q1.out.lt n1).trans Q1.out.out⟩
    have g3 : Blk w3 gm TI #[.int .i64 most] := ⟨(hg3.block gm Q3.out.lt n3).trans Q3.out.out⟩
    have g4 : Blk w3 gr TFn #[.func (Fn.func N2) #[] caps2] := ⟨(hg3.block gr Q4.out.lt n4).trans Q4.out.out⟩
    have x3 : gm ≠ g := Blk.ne g3 g1 (by decide)
    have x4 : gr ≠ g := Blk.ne g4 g1 (by decide)
    have hS4 : StG B g gm gr most (.func (Fn.func N2) #[] caps2) Cond (out ++ [(k, v)]) (w3.setCell ⟨g, 0, none⟩ (.slice A1 n9 k1)) :=
      ⟨.slice A1 n9 k1, g1.set 0 _, by rw [List.map_append]; exact Kd.R_set hR3 g1.out (by decide) 0 _, g3.far (p := ⟨g, 0, none⟩) x3 _, g4.far (p := ⟨g, 0, none⟩) x4 _, h5, by simp only [World.setCell, Array.size_modify]; exact Nat.le_trans hBW hb3.size, CC.out _ _ C2.out (hb3.setCell (p := ⟨g, 0, none⟩) h5 _)⟩
    have hB4 := (B2.out.trans hb3).setCell (p := ⟨g, 0, none⟩) h5 (.slice A1 n9 k1)
    have S4 := Aside0.mk hS4
    have B4 := Aside0.mk hB4
    have y1 := g1.cell 0
    have y2 := g1.frozen 0
    have y3 := g1.lt
    clear hR3 hb3 hg3 hat3 n1 n3 n4 g1 g3 g4 x3 x4 hS4 hB4 d1 d2 d3
    go_wp2
    go_ret
    exact ⟨rfl, S4.out, B4.out⟩
end
end Go.Proofs.Ytcgfdnhocdcfjaa.Hed

/- Trees of keys: gather, From, Under. -/
namespace Go.Proofs.Ytcgfdnhocdcfjaa.Hed
open Go.RowKit Go.Proofs.YtcgfdnhocdcfjaaW.PrintWords Go.Proofs.YtcgfdnhocdcfjaaW.PrintLast Go.Proofs.YtcgfdnhocdcfjaaW.PrintMore Go.Proofs.Ytcgfdnhocdcfjaa.Arr Go.Proofs.Ytcgfdnhocdcfjaa.Utf Go.Proofs.Ytcgfdnhocdcfjaa.PHedgePlays T
set_option linter.unusedVariables false
set_option linter.unusedSimpArgs false

/-- The first most entries from a key on, as long as they are right. -/
def gatherT (t : T) (key : ByteArray) (most : Int) (rt : ByteArray → Bool) : List Ent := (runL (okG most rt) (from_ t key) []).1
def GatherPost (t : T) (key : ByteArray) (most : Int) (rt : ByteArray → Bool) (w : World) (e : Ending) (w' : World) : Prop :=
  ∃ vo, e = .returned vo ∧ Kd.R k32 TEn w' w.heap.size (fun _ => True) vo ((gatherT t key most rt).map toS) ∧ Below w.heap.size w w'
theorem runG_len (most : Int) (rt : ByteArray → Bool) (l out : List Ent) : (runL (okG most rt) l out).1.length ≤ out.length + l.length := runL_len _ l out
set_option maxHeartbeats 8000000 in
theorem gather_calls {Cond : World → Prop} {N2 : FuncId} {caps2 : Array Value} {rt : ByteArray → Bool} (hcf : ∀ args w, Sem.run Try.prog (callFunc N2 args) w = Result.ok (.enter N2 args) w)
    (hr : ∀ key w, Cond w → Calls Try.prog N2 (#[.string key] ++ caps2) w fun e w' => e = .returned (.bool (rt key)) ∧ Below w.heap.size w w')
    (h : Nat) (t : T) (key : ByteArray) (most : Int) (hz : t.size ≤ 1000000) (w : World) (H : HAt w h t) (hC0 : Cond w) (hC : ∀ w1 w2, Cond w1 → Below w.heap.size w1 w2 → Cond w2) :
    Calls Try.prog 29 #[.pointer (some ⟨h, 0, none⟩), .string key, .int .i64 most, .func (Fn.func N2) #[] caps2] w (GatherPost t key most rt w) := by
  obtain ⟨p, hp⟩ := ptr_open t
  have hmf : ∀ (fn : Fn) (first cap : Array Value) (w : World), (Instr.makeFunc fn first cap).run Try.prog w = .ok (.func fn first cap) w := fun _ _ _ _ => rfl
  obtain ⟨W, hW⟩ : ∃ W, ((w.alloc (.cells #[.int .i64 most] TI)).alloc (.cells #[.func (Fn.func N2) #[] caps2] TFn)).alloc (.cells #[.slice none 0 0] TEs) = W := ⟨_, rfl⟩
  have bb : Below w.heap.size w W := by rw [← hW]; exact (((Below.refl _ _).alloc (Nat.le_refl _) _).alloc (by simp) _).alloc (by simp; omega) _
  have k1 : Blk W w.heap.size TI #[.int .i64 most] := by rw [← hW]; exact ((Blk.new _ _ _).alloc _).alloc _
  have k2 : Blk W (w.heap.size + 1) TFn #[.func (Fn.func N2) #[] caps2] := by rw [← hW]; exact (Blk.newAt (by simp)).alloc _
  have k3 : Blk W (w.heap.size + 2) TEs #[.slice none 0 0] := by rw [← hW]; exact Blk.newAt (by simp)
  have hS : StG w.heap.size (w.heap.size + 2) w.heap.size (w.heap.size + 1) most (.func (Fn.func N2) #[] caps2) Cond [] W :=
    ⟨_, k3, Kd.R_nil _ _ _ _ _, k1, k2, by omega, bb.size, hC _ _ hC0 bb⟩
  have K := Aside0.mk (walk_calls (ok := okG most rt) (B := w.heap.size) (St := StG w.heap.size (w.heap.size + 2) w.heap.size (w.heap.size + 1) most (.func (Fn.func N2) #[] caps2) Cond) (N := 39) (caps := #[.pointer (some ⟨w.heap.size + 2, 0, none⟩), .pointer (some ⟨w.heap.size, 0, none⟩), .pointer (some ⟨w.heap.size + 1, 0, none⟩)]) (fun _ _ => rfl) (fun out w1 w2 h1 h2 => stG_below hC out w1 w2 h1 h2) (vis_gather hC hcf hr) t key [] W (by simp; omega) (H.at_.lt) (H.at_.below bb) hS bb.size)
  unfold WalkPost at K
  rw [hp] at K
  unfold GatherPost gatherT
  have c0 : W.cell? ⟨h, 0, none⟩ = some (.pointer p) := by rw [← hp]; exact (H.blk.below bb).cell 0
  have cl := (H.blk.below bb).lt
  have BB := Aside0.mk bb
  obtain ⟨o1, ho1⟩ : ∃ o1, (runL (okG most rt) (from_ t key) []).1 = o1 := ⟨_, rfl⟩
  obtain ⟨q1, hq1⟩ : ∃ q1, (runL (okG most rt) (from_ t key) []).2 = q1 := ⟨_, rfl⟩
  rw [ho1, hq1] at K
  rw [ho1]
  clear k1 k2 k3 hS bb H hp hr ho1 hq1
  go_enter Try.func29, Try.ntmps29
  go_wp2_with fail
  clear hW c0 cl
  refine K.out.mono ?_
  rintro e w1 ⟨rfl, ⟨vo, g1, g2, -, -, -, -, -⟩, b1⟩
  obtain ⟨A1, k1, e1⟩ := Kd.R_slice g2
  obtain ⟨n9, hn9⟩ : ∃ n9, (o1.map toS).length = n9 := ⟨_, rfl⟩
  rw [hn9] at e1
  clear hn9
  subst e1
  have y1 := g1.cell 0
  have y3 := g1.lt
  have R1 := Aside0.mk g2
  have B1 := Aside0.mk (BB.out.trans b1)
  clear g1 g2 b1
  go_wp2
  go_ret
  exact ⟨_, rfl, R1.out, B1.out⟩
theorem from_calls (h : Nat) (t : T) (key : ByteArray) (most : Int) (hz : t.size ≤ 1000000) (w : World) (H : HAt w h t) :
    Calls Try.prog 11 #[.pointer (some ⟨h, 0, none⟩), .string key, .int .i64 most] w (GatherPost t key most (fun _ => true) w) := by
  have hr : ∀ (key : ByteArray) (w : World), True → Calls Try.prog 32 (#[.string key] ++ #[]) w fun e w' => e = .returned (.bool true) ∧ Below w.heap.size w w' := by
    intro key w _
    show Calls Try.prog 32 #[.string key] w _
    go_enter Try.func32, Try.ntmps32
    go_wp2
    go_ret
    exact ⟨rfl, Below.refl _ _⟩
  have K := Aside0.mk (gather_calls (Cond := fun _ => True) (N2 := 32) (caps2 := #[]) (rt := fun _ => true) (fun _ _ => rfl) hr h t key most hz w H trivial (fun _ _ _ _ => trivial))
  unfold GatherPost at *
  obtain ⟨o1, ho1⟩ : ∃ o1, gatherT t key most (fun _ => true) = o1 := ⟨_, rfl⟩
  rw [ho1] at K ⊢
  clear hr H ho1
  go_enter Try.func11, Try.ntmps11
  go_wp2_with fail
  refine K.out.mono ?_
  rintro e w1 ⟨vo, rfl, hR, b1⟩
  obtain ⟨A1, k1, e1⟩ := Kd.R_slice hR
  obtain ⟨n9, hn9⟩ : ∃ n9, (o1.map toS).length = n9 := ⟨_, rfl⟩
  rw [hn9] at e1
  clear hn9
  subst e1
  have R1 := Aside0.mk hR
  have B1 := Aside0.mk b1
  clear hR b1
  go_wp2
  go_ret
  exact ⟨_, rfl, R1.out, B1.out⟩
/-- Whether a key begins with a prefix. -/
def pre (p k : ByteArray) : Bool := Lib.hasPrefix k.data.toList p.data.toList
theorem under_calls (h : Nat) (t : T) (key : ByteArray) (most : Int) (hz : t.size ≤ 1000000) (w : World) (H : HAt w h t) :
    Calls Try.prog 10 #[.pointer (some ⟨h, 0, none⟩), .string key, .int .i64 most] w fun e w' => ∃ vo, e = .returned vo ∧ Kd.R k32 TEn w' w.heap.size (fun _ => True) vo ((gatherT t key most (pre key)).map toS) ∧ Below w.heap.size w w' := by
  have hr : ∀ (gp : Nat) (k : ByteArray) (w : World), Blk w gp 9 #[.string key] → Calls Try.prog 30 (#[.string k] ++ #[.pointer (some ⟨gp, 0, none⟩)]) w fun e w' => e = .returned (.bool (pre key k)) ∧ Below w.heap.size w w' := by
    intro gp k w hB
    show Calls Try.prog 30 #[.string k, .pointer (some ⟨gp, 0, none⟩)] w _
    have K := Aside0.mk (fun w => Try.strings_HasPrefix k key w)
    have c0 := hB.cell 0
    have cl := hB.lt
    unfold pre
    obtain ⟨q, hq⟩ : ∃ q, Lib.hasPrefix k.data.toList key.data.toList = q := ⟨_, rfl⟩
    rw [hq] at K ⊢
    clear hB hq
    go_enter Try.func30, Try.ntmps30
    go_wp2_with fail
    refine (K.out _).mono ?_
    rintro e w1 ⟨rfl, rfl⟩
    go_wp2
    go_ret
    exact ⟨rfl, Below.refl _ _⟩
  obtain ⟨W, hW⟩ : ∃ W, w.alloc (.cells #[.string key] 9) = W := ⟨_, rfl⟩
  have bb : Below w.heap.size w W := by rw [← hW]; exact (Below.refl _ _).alloc (Nat.le_refl _) _
  have kB : Blk W w.heap.size 9 #[.string key] := by rw [← hW]; exact Blk.new _ _ _
  have hmf : ∀ (fn : Fn) (first cap : Array Value) (w : World), (Instr.makeFunc fn first cap).run Try.prog w = .ok (.func fn first cap) w := fun _ _ _ _ => rfl
  have K := Aside0.mk (gather_calls (Cond := fun w' => Blk w' w.heap.size 9 #[.string key]) (N2 := 30) (caps2 := #[.pointer (some ⟨w.heap.size, 0, none⟩)]) (rt := pre key) (fun _ _ => rfl) (fun k w' h' => hr _ k w' h') h t key most hz W (H.below bb) kB (fun w1 w2 h1 h2 => h1.below' h2 kB.lt))
  unfold GatherPost at K
  have c0 := kB.cell 0
  have cl := kB.lt
  have BB := Aside0.mk bb
  obtain ⟨o1, ho1⟩ : ∃ o1, gatherT t key most (pre key) = o1 := ⟨_, rfl⟩
  rw [ho1] at K ⊢
  clear hr H ho1 bb kB
  go_enter Try.func10, Try.ntmps10
  go_wp2_with fail
  clear hW c0 cl
  refine K.out.mono ?_
  rintro e w1 ⟨vo, rfl, hR, b1⟩
  obtain ⟨A1, k1, e1⟩ := Kd.R_slice hR
  obtain ⟨n9, hn9⟩ : ∃ n9, (o1.map toS).length = n9 := ⟨_, rfl⟩
  rw [hn9] at e1
  clear hn9
  subst e1
  have R1 := Aside0.mk (Kd.R_lower hR BB.out.size)
  have B1 := Aside0.mk (BB.out.trans (b1.mono BB.out.size))
  clear hR b1
  go_wp2
  go_ret
  exact ⟨_, rfl, R1.out, B1.out⟩
end Go.Proofs.Ytcgfdnhocdcfjaa.Hed

/- Sorted trees, plainly: Put, Drop, Get; what begins with a prefix. -/
namespace Go.Proofs.Ytcgfdnhocdcfjaa.Hed
open Go.RowKit Go.Proofs.Ytcgfdnhocdcfjaa.Utf Go.Proofs.Ytcgfdnhocdcfjaa.PHedgePlays T
set_option linter.unusedVariables false
set_option linter.unusedSimpArgs false

def eqK (key : ByteArray) (e : Ent) : Bool := decide (e.1 = key)
def gtK (key : ByteArray) (e : Ent) : Bool := T.lt key e.1
theorem hi_cases (key : ByteArray) (e : Ent) : (hi key e = true ∧ lo (aboveK key) e = true) ↔ eqK key e = true := by
  unfold hi lo eqK
  rw [lt_above]
  simp only [Bool.not_eq_true', decide_eq_true_eq]
  constructor
  · rintro ⟨h1, h2⟩; exact lt_total h1 (by simpa using h2)
  · intro h; rw [h]; exact ⟨lt_irrefl _, by rw [lt_irrefl]⟩
theorem hi_above (key : ByteArray) (e : Ent) : (hi key e = true ∧ hi (aboveK key) e = true) ↔ gtK key e = true := by
  unfold hi gtK
  rw [lt_above]
  simp only [Bool.not_eq_true', Bool.not_not]
  constructor
  · rintro ⟨_, h2⟩
    cases h : T.lt key e.1 with
    | true => rfl
    | false => rw [h] at h2; simp at h2
  · intro h; exact ⟨lt_asymm h, by rw [h]⟩
theorem filter_two {l : List Ent} {p q r : Ent → Bool} (h : ∀ e, (p e = true ∧ q e = true) ↔ r e = true) : (l.filter p).filter q = l.filter r := by
  rw [List.filter_filter]
  congr 1
  funext e
  rw [Bool.eq_iff_iff, Bool.and_eq_true, ← h e]
  exact ⟨fun ⟨a, b⟩ => ⟨b, a⟩, fun ⟨a, b⟩ => ⟨b, a⟩⟩
theorem cut_lo (t : T) (key : ByteArray) (h : Srt t.ents) : (cutT t key).1.ents = t.ents.filter (lo key) ∧ (cutT t key).2.1.ents = t.ents.filter (eqK key) ∧ (cutT t key).2.2.ents = t.ents.filter (gtK key) := by
  obtain ⟨h1, h2⟩ := split_lo t key h
  have hs : Srt (splitT t key).2.ents := by rw [h2]; exact srt_filter h _
  obtain ⟨h3, h4⟩ := split_lo (splitT t key).2 (above key) hs
  refine ⟨h1, ?_, ?_⟩
  · show (splitT (splitT t key).2 (above key)).1.ents = _
    rw [h3, h2]
    exact filter_two fun e => hi_cases key e
  · show (splitT (splitT t key).2 (above key)).2.ents = _
    rw [h4, h2]
    exact filter_two fun e => hi_above key e
theorem srt_eq {l : List Ent} (h : Srt l) {key : ByteArray} (he : ∀ e, e ∈ l → e.1 = key) : l.length ≤ 1 := by
  match l, h, he with
  | [], _, _ => simp
  | [a], _, _ => simp
  | a :: b :: r, h, he =>
    have h1 := (List.pairwise_cons.1 h).1 b (by simp)
    rw [he a (by simp), he b (by simp), lt_irrefl] at h1
    cases h1
def putE (l : List Ent) (key : ByteArray) (v : Int) : List Ent := l.filter (lo key) ++ (key, v) :: l.filter (gtK key)
def dropE (l : List Ent) (key : ByteArray) : List Ent := l.filter (lo key) ++ l.filter (gtK key)
theorem mid_ents (t : T) (key : ByteArray) (h : Srt t.ents) (g : Nat) (wt v : Int) : (midT (cutT t key).2.1 g wt key v).ents = [(key, v)] := by
  obtain ⟨-, h2, -⟩ := cut_lo t key h
  have hs : Srt (cutT t key).2.1.ents := by rw [h2]; exact srt_filter h _
  have he : ∀ e, e ∈ (cutT t key).2.1.ents → e.1 = key := fun e hm => by
    rw [h2] at hm
    have := (List.mem_filter.1 hm).2
    simpa [eqK] using this
  have hl := srt_eq hs he
  cases hb : (cutT t key).2.1 with
  | nil => rfl
  | node g' k' v' wt' l r =>
    rw [hb] at he hl
    simp only [T.ents, List.length_append, List.length_cons] at hl
    have hk : k' = key := he (k', v') (by simp [T.ents])
    have e1 : l.ents = [] := List.eq_nil_of_length_eq_zero (by omega)
    have e2 : r.ents = [] := List.eq_nil_of_length_eq_zero (by omega)
    simp [midT, T.ents, e1, e2, hk]
theorem put_ents (t : T) (key : ByteArray) (h : Srt t.ents) (g : Nat) (wt v : Int) : (putT t g wt key v).ents = putE t.ents key v := by
  obtain ⟨h1, -, h3⟩ := cut_lo t key h
  unfold putT putE
  rw [join_ents, join_ents, mid_ents t key h, h1, h3]
  simp
theorem drop_ents (t : T) (key : ByteArray) (h : Srt t.ents) : (dropT t key).ents = dropE t.ents key := by
  obtain ⟨h1, -, h3⟩ := cut_lo t key h
  unfold dropT dropE
  rw [join_ents, h1, h3]
theorem isNil_has (t : T) (key : ByteArray) (h : Srt t.ents) : isNil (cutT t key).2.1 = !(t.ents.any (eqK key)) := by
  obtain ⟨-, h2, -⟩ := cut_lo t key h
  rw [Bool.eq_iff_iff]
  simp only [Bool.not_eq_true', List.any_eq_false]
  constructor
  · intro hn e he hk
    have hm : e ∈ (cutT t key).2.1.ents := by rw [h2]; exact List.mem_filter.2 ⟨he, hk⟩
    cases hb : (cutT t key).2.1 with
    | nil => rw [hb] at hm; simp [T.ents] at hm
    | node _ _ _ _ _ _ => rw [hb] at hn; simp [isNil] at hn
  · intro hn
    have e : (cutT t key).2.1.ents = [] := by rw [h2]; exact List.filter_eq_nil_iff.2 hn
    cases hb : (cutT t key).2.1 with
    | nil => rfl
    | node _ _ _ _ _ _ => rw [hb] at e; simp [T.ents] at e
theorem lo_gt {key : ByteArray} {a b : Ent} (h : lo key a = true) (h' : gtK key b = true) : T.lt a.1 b.1 = true := lt_trans h h'
theorem srt_put {l : List Ent} (h : Srt l) (key : ByteArray) (v : Int) : Srt (putE l key v) := by
  refine srt_append.2 ⟨srt_filter h _, List.pairwise_cons.2 ⟨fun e he => (List.mem_filter.1 he).2, srt_filter h _⟩, fun a ha b hb => ?_⟩
  have h1 := (List.mem_filter.1 ha).2
  rcases List.mem_cons.1 hb with rfl | hb
  · exact h1
  · exact lo_gt h1 (List.mem_filter.1 hb).2
theorem srt_drop {l : List Ent} (h : Srt l) (key : ByteArray) : Srt (dropE l key) :=
  srt_append.2 ⟨srt_filter h _, srt_filter h _, fun a ha b hb => lo_gt (List.mem_filter.1 ha).2 (List.mem_filter.1 hb).2⟩
theorem get_ents (t : T) (key : ByteArray) (h : Srt t.ents) : getT t key = (t.ents.find? (eqK key)).map (·.2) := by
  induction t with
  | nil => rfl
  | node g k v wt l r ihl ihr =>
    obtain ⟨hl, hr, h1, h2⟩ := node_parts h
    simp only [getT, T.ents, List.find?_append, List.find?_cons]
    cases ha : T.lt key k with
    | true =>
      have e1 : eqK key (k, v) = false := by unfold eqK; rw [decide_eq_false_iff_not]; intro e; simp only at e; rw [e, lt_irrefl] at ha; cases ha
      have e2 : r.ents.find? (eqK key) = none := List.find?_eq_none.2 fun e he hk => by
        have h3 := h2 e he
        have h4 : e.1 = key := by simpa [eqK] using hk
        rw [h4] at h3
        rw [lt_asymm h3] at ha; cases ha
      simp only [if_true]
      rw [e1, e2, ihl hl]
      simp
    | false =>
      simp only [Bool.false_eq_true, if_false]
      cases hb : T.lt k key with
      | true =>
        have e1 : eqK key (k, v) = false := by unfold eqK; rw [decide_eq_false_iff_not]; intro e; simp only at e; rw [e, lt_irrefl] at hb; cases hb
        have e2 : l.ents.find? (eqK key) = none := List.find?_eq_none.2 fun e he hk => by
          have h3 := h1 e he
          have h4 : e.1 = key := by simpa [eqK] using hk
          rw [h4] at h3
          rw [lt_asymm h3] at hb; cases hb
        simp only [if_true]
        rw [e1, e2, ihr hr]
        simp
      | false =>
        have hk : k = key := (lt_total ha hb).symm
        have e1 : eqK key (k, v) = true := by unfold eqK; exact decide_eq_true hk
        have e2 : l.ents.find? (eqK key) = none := List.find?_eq_none.2 fun e he hq => by
          have h3 := h1 e he
          have h4 : e.1 = key := by simpa [eqK] using hq
          rw [h4, hk, lt_irrefl] at h3; cases h3
        simp only [Bool.false_eq_true, if_false]
        rw [e1, e2]
        simp
/-- What is gathered: the first entries from a key on. -/
theorem runG_take (most : Int) (rt : ByteArray → Bool) : ∀ (l out : List Ent), (runL (okG most rt) l out).1 = out ++ (l.take (most - out.length).toNat).takeWhile (fun e => rt e.1)
  | [], out => by simp [runL]
  | e :: l, out => by
    simp only [runL]
    unfold okG
    by_cases h : (out.length : Int) < most
    · have e1 : (most - (out.length : Int)).toNat = (most - ((out.length : Int) + 1)).toNat + 1 := by omega
      rw [decide_eq_true h, e1, List.take_succ_cons, List.takeWhile_cons]
      cases hr : rt e.1 with
      | true =>
        simp only [Bool.and_self, if_true]
        have := runG_take most rt l (out ++ [e])
        unfold okG at this
        rw [this]
        simp [List.append_assoc]
      | false => simp
    · rw [decide_eq_false h, show (most - (out.length : Int)).toNat = 0 by omega]
      simp
theorem gather_take (t : T) (key : ByteArray) (most : Int) (rt : ByteArray → Bool) (h : Srt t.ents) : gatherT t key most rt = ((t.ents.filter (hi key)).take most.toNat).takeWhile (fun e => rt e.1) := by
  unfold gatherT
  rw [runG_take, from_hi t key h]
  simp
end Go.Proofs.Ytcgfdnhocdcfjaa.Hed

/- A hedge in memory, by its sorted list. -/
namespace Go.Proofs.Ytcgfdnhocdcfjaa.Hed
open Go.RowKit Go.Proofs.YtcgfdnhocdcfjaaW.PrintWords Go.Proofs.Ytcgfdnhocdcfjaa.Arr Go.Proofs.Ytcgfdnhocdcfjaa.Utf Go.Proofs.Ytcgfdnhocdcfjaa.PHedgePlays T
set_option linter.unusedVariables false
set_option linter.unusedSimpArgs false

/-- A hedge whose entries are a strictly rising list; all its blocks are from B on. -/
def HL (B : Nat) (w : World) (h : Nat) (l : List Ent) : Prop := ∃ t, HAt w h t ∧ t.ents = l ∧ Srt l ∧ B ≤ h ∧ ∀ j, j ∈ t.blocks → B ≤ j
theorem take_all : ∀ l : List Ent, l.takeWhile (fun _ => true) = l
  | [] => rfl
  | a :: l => by rw [List.takeWhile_cons]; simp only [if_true]; rw [take_all l]
section
variable {B : Nat} {w : World} {h : Nat} {l : List Ent}
theorem HL.below {w1 : World} (H : HL B w h l) (hb : Below w.heap.size w w1) : HL B w1 h l := by
  obtain ⟨t, h1, h2, h3, h4, h5⟩ := H
  exact ⟨t, h1.below hb, h2, h3, h4, h5⟩
theorem newL_calls (w : World) : Calls Try.prog 7 #[] w fun e w' => ∃ h, e = .returned (.pointer (some ⟨h, 0, none⟩)) ∧ HL w.heap.size w' h [] ∧ Below w.heap.size w w' :=
  (new_calls w).mono fun e w' ⟨h, he, h1, h2, h3⟩ => ⟨h, he, ⟨T.nil, h1, rfl, List.Pairwise.nil, h2, fun j hj => by simp [blocks] at hj⟩, h3⟩
theorem lenL_calls (H : HL B w h l) : Calls Try.prog 13 #[.pointer (some ⟨h, 0, none⟩)] w fun e w' => e = .returned (.int .i64 (l.length : Int)) ∧ Below w.heap.size w w' := by
  obtain ⟨t, h1, rfl, h3, h4, h5⟩ := H
  rw [size_ents]
  exact len_calls h t w h1
theorem rankL_calls (H : HL B w h l) (key : ByteArray) (hz : l.length ≤ 1000000) : Calls Try.prog 12 #[.pointer (some ⟨h, 0, none⟩), .string key] w fun e w' => e = .returned (.int .i64 ((l.filter (lo key)).length : Int)) ∧ Below w.heap.size w w' := by
  obtain ⟨t, h1, rfl, h3, h4, h5⟩ := H
  rw [← rank_lo t key h3]
  exact rank_calls h t key (by rw [← size_ents]; exact hz) w h1
theorem getL_calls (H : HL B w h l) (key : ByteArray) : Calls Try.prog 14 #[.pointer (some ⟨h, 0, none⟩), .string key] w fun e w' => e = .returned (.tuple #[.int .i64 (((l.find? (eqK key)).map (·.2)).getD 0), .int .i64 (codeG ((l.find? (eqK key)).map (·.2)))]) ∧ Below w.heap.size w w' := by
  obtain ⟨t, h1, rfl, h3, h4, h5⟩ := H
  rw [← get_ents t key h3]
  exact get_calls h t key w h1
theorem fromL_calls (H : HL B w h l) (key : ByteArray) (most : Int) (hz : l.length ≤ 1000000) : Calls Try.prog 11 #[.pointer (some ⟨h, 0, none⟩), .string key, .int .i64 most] w fun e w' => ∃ vo, e = .returned vo ∧ Kd.R k32 TEn w' w.heap.size (fun _ => True) vo (((l.filter (hi key)).take most.toNat).map toS) ∧ Below w.heap.size w w' := by
  obtain ⟨t, h1, rfl, h3, h4, h5⟩ := H
  refine (from_calls h t key most (by rw [← size_ents]; exact hz) w h1).mono ?_
  rintro e w' ⟨vo, he, hR, hb⟩
  rw [gather_take t key most _ h3] at hR
  have e1 : ((t.ents.filter (hi key)).take most.toNat).takeWhile (fun _ => true) = (t.ents.filter (hi key)).take most.toNat := take_all _
  rw [e1] at hR
  exact ⟨vo, he, hR, hb⟩
theorem underL_calls (H : HL B w h l) (key : ByteArray) (most : Int) (hz : l.length ≤ 1000000) : Calls Try.prog 10 #[.pointer (some ⟨h, 0, none⟩), .string key, .int .i64 most] w fun e w' => ∃ vo, e = .returned vo ∧ Kd.R k32 TEn w' w.heap.size (fun _ => True) vo ((((l.filter (hi key)).take most.toNat).takeWhile (fun e => pre key e.1)).map toS) ∧ Below w.heap.size w w' := by
  obtain ⟨t, h1, rfl, h3, h4, h5⟩ := H
  refine (under_calls h t key most (by rw [← size_ents]; exact hz) w h1).mono ?_
  rintro e w' ⟨vo, he, hR, hb⟩
  rw [gather_take t key most _ h3] at hR
  exact ⟨vo, he, hR, hb⟩
theorem putL_calls (H : HL B w h l) (key : ByteArray) (v : Int) (hz : l.length + 1 ≤ 1000000) (hk : key.size ≤ 100000000) (hB : B ≤ w.heap.size) :
    Calls Try.prog 9 #[.pointer (some ⟨h, 0, none⟩), .string key, .int .i64 v] w fun e w' => e = .returned (.bool (!(l.any (eqK key)))) ∧ HL B w' h (putE l key v) ∧ Below B w w' := by
  obtain ⟨t, h1, rfl, h3, h4, h5⟩ := H
  refine (put_calls h t key v (by rw [← size_ents]; exact hz) hk w h1).mono ?_
  rintro e w' ⟨g, wt, he, hA, hO, hm⟩
  rw [isNil_has t key h3] at he
  exact ⟨he, ⟨_, hA, put_ents t key h3 g wt v, srt_put h3 key v, h4, fun j hj => (hm j hj).elim (h5 j) (fun h' => Nat.le_trans hB h')⟩, hO.below hB (fun k hk => by
    rcases List.mem_cons.1 hk with rfl | hk
    · exact h4
    · exact h5 k hk)⟩
theorem dropL_calls (H : HL B w h l) (key : ByteArray) (hz : l.length ≤ 1000000) (hk : key.size ≤ 100000000) (hB : B ≤ w.heap.size) :
    Calls Try.prog 17 #[.pointer (some ⟨h, 0, none⟩), .string key] w fun e w' => e = .returned (.int .i64 (if l.any (eqK key) then 0 else 19)) ∧ HL B w' h (dropE l key) ∧ Below B w w' := by
  obtain ⟨t, h1, rfl, h3, h4, h5⟩ := H
  refine (drop_calls h t key (by rw [← size_ents]; exact hz) hk w h1).mono ?_
  rintro e w' ⟨he, hA, hO, hm⟩
  rw [isNil_has t key h3] at he
  refine ⟨?_, ⟨_, hA, drop_ents t key h3, srt_drop h3 key, h4, fun j hj => h5 j (hm j hj)⟩, hO.below hB (fun k hk => by
    rcases List.mem_cons.1 hk with rfl | hk
    · exact h4
    · exact h5 k hk)⟩
  rw [he]
  cases t.ents.any (eqK key) <;> rfl
end
theorem put_len (l : List Ent) (key : ByteArray) (v : Int) (h : Srt l) : (putE l key v).length ≤ l.length + 1 := by
  unfold putE
  rw [List.length_append, List.length_cons]
  have h1 : (l.filter (lo key)).length + (l.filter (gtK key)).length ≤ l.length := by
    induction l with
    | nil => simp
    | cons a l ih =>
      have := ih (List.pairwise_cons.1 h).2
      simp only [List.filter_cons]
      cases h1 : lo key a with
      | true =>
        have h2 : gtK key a = false := lt_asymm h1
        rw [h2]
        simp only [if_true, Bool.false_eq_true, if_false, List.length_cons]
        omega
      | false =>
        cases h2 : gtK key a <;> simp only [if_true, Bool.false_eq_true, if_false, List.length_cons] <;> omega
  omega
end Go.Proofs.Ytcgfdnhocdcfjaa.Hed
