/- Trees of keys in memory; count, fix, heavier. -/
import Derived.Test.YtcgfdnhocdcfjaaShelf
import Derived.Test.YtcgfdnhocdcfjaaHtp
import Derived.Test.YtcgfdnhocdcfjaaOnly
import Derived.Test.YtcgfdnhocdcfjaaQg
import Derived.Test.YtcgfdnhocdcfjaaQy
import Derived.Laws.Pointers
namespace Go.Proofs.Ytcgfdnhocdcfjaa.Hed
open Go.RowKit Go.Proofs.YtcgfdnhocdcfjaaW.PrintWords Go.Proofs.Ytcgfdnhocdcfjaa.Arr Go.Proofs.Ytcgfdnhocdcfjaa.Utf
set_option linter.unusedVariables false
set_option linter.unusedSimpArgs false

abbrev TNd : TypeId := 64
namespace T
def ptr : T → Value
  | nil => .pointer none
  | node g _ _ _ _ _ => .pointer (some ⟨g, 0, none⟩)
theorem ptr_nil : (nil : T).ptr = .pointer none := rfl
theorem ptr_node (g : Nat) (k : ByteArray) (v wt : Int) (l r : T) : (node g k v wt l r).ptr = .pointer (some ⟨g, 0, none⟩) := rfl
/-- A node's cells. -/
def cells (k : ByteArray) (v wt : Int) (s : Int) (l r : Value) : Array Value := #[.string k, .int .i64 v, .int .u64 wt, .int .i64 s, l, r]
/-- A tree in memory. -/
def At (w : World) : T → Prop
  | nil => True
  | node g k v wt l r => Blk w g TNd (cells k v wt ((l.size + r.size + 1 : Nat) : Int) l.ptr r.ptr) ∧ At w l ∧ At w r
theorem At.keep {w w1 : World} : ∀ {t : T}, At w t → (∀ k, k ∈ t.blocks → w1.heap[k]? = w.heap[k]?) → At w1 t
  | nil, _, _ => trivial
  | node g k v wt l r, h, hk => ⟨⟨(hk g (by simp [blocks])).trans h.1.out⟩, At.keep h.2.1 (fun j hj => hk j (by simp [blocks, hj])), At.keep h.2.2 (fun j hj => hk j (by simp [blocks, hj]))⟩
theorem At.lt {w : World} : ∀ {t : T}, At w t → ∀ k, k ∈ t.blocks → k < w.heap.size
  | nil, _, k, hk => by simp [blocks] at hk
  | node g _ _ _ l r, h, k, hk => by
    simp only [blocks, List.mem_cons, List.mem_append] at hk
    rcases hk with rfl | hk | hk
    · exact h.1.lt
    · exact At.lt h.2.1 k hk
    · exact At.lt h.2.2 k hk
theorem At.below {w w1 : World} {t : T} (h : At w t) (hb : Below w.heap.size w w1) : At w1 t := h.keep fun k hk => hb.block k (h.lt k hk)
theorem At.only {w w1 : World} {t : T} {S : List Nat} (h : At w t) (hb : Only S w w1) (hn : ∀ k, k ∈ t.blocks → k ∉ S) : At w1 t := h.keep fun k hk => hb.block k (h.lt k hk) (hn k hk)
theorem ptr_cases (t : T) : (t = nil ∧ t.ptr = .pointer none) ∨ ∃ g k v wt l r, t = node g k v wt l r ∧ t.ptr = .pointer (some ⟨g, 0, none⟩) := by
  cases t with
  | nil => exact .inl ⟨rfl, rfl⟩
  | node g k v wt l r => exact .inr ⟨g, k, v, wt, l, r, rfl, rfl⟩
theorem ptr_open (t : T) : ∃ p, t.ptr = .pointer p := by cases t <;> exact ⟨_, rfl⟩
end T
open T

theorem compare_calls (a b : ByteArray) (w : World) :
    Calls Try.prog 33 #[.string a, .string b] w fun e w' => e = .returned (.int .i64 (cmpB a b)) ∧ w' = w := by
  have C := fun w => Try.strings_Compare a b w
  rw [compareBytes_eq] at C
  have K := Aside0.mk C
  clear C
  go_enter Try.func33, Try.ntmps33
  go_wp2_with fail
  refine (K.out _).mono ?_
  rintro e w1 ⟨rfl, rfl⟩
  go_wp2
  go_ret
  exact ⟨rfl, rfl⟩
theorem count_calls (t : T) (w : World) (h : At w t) : Calls Try.prog 34 #[t.ptr] w fun e w' => e = .returned (.int .i64 (t.size : Int)) ∧ w' = w := by
  cases t with
  | nil =>
    go_enter Try.func34, Try.ntmps34
    simp only [ptr]
    go_wp2
    go_ret
    exact ⟨rfl, rfl⟩
  | node g k v wt l r =>
    have c3 : w.cell? ⟨g, 3, none⟩ = some (.int .i64 ((l.size + r.size + 1 : Nat) : Int)) := h.1.cell 3
    have cl := h.1.lt
    clear h
    simp only [ptr, T.size]
    obtain ⟨n, hn⟩ : ∃ n : Int, ((l.size + r.size + 1 : Nat) : Int) = n := ⟨_, rfl⟩
    rw [hn] at c3 ⊢
    clear hn
    go_enter Try.func34, Try.ntmps34
    go_wp2
    go_ret
    exact ⟨rfl, rfl⟩
theorem compare_below (a b : ByteArray) (w : World) :
    Calls Try.prog 33 #[.string a, .string b] w fun e w' => e = .returned (.int .i64 (cmpB a b)) ∧ Below w.heap.size w w' :=
  (compare_calls a b w).mono fun _ _ h => ⟨h.1, by rw [h.2]; exact Below.refl _ _⟩
theorem count_below (t : T) (w : World) (h : At w t) (p : Value) (hp : p = t.ptr) (n : Int) (hn : (t.size : Int) = n) : Calls Try.prog 34 #[p] w fun e w' => e = .returned (.int .i64 n) ∧ Below w.heap.size w w' := by
  subst hp
  subst hn
  exact (count_calls t w h).mono fun _ _ h => ⟨h.1, by rw [h.2]; exact Below.refl _ _⟩
theorem heavier_calls (g g' : Nat) (k k' : ByteArray) (v v' wt wt' s s' : Int) (l r l' r' : Value) (w : World) (h : Blk w g TNd (cells k v wt s l r)) (h' : Blk w g' TNd (cells k' v' wt' s' l' r')) :
    Calls Try.prog 37 #[.pointer (some ⟨g, 0, none⟩), .pointer (some ⟨g', 0, none⟩)] w fun e w' => e = .returned (.bool (heavy wt k wt' k')) ∧ Below w.heap.size w w' := by
  have H := Aside0.mk h
  have H' := Aside0.mk h'
  clear h h'
  by_cases hw : wt = wt'
  · have e1 : (wt != wt') = false := by simp [hw]
    have e2 : heavy wt k wt' k' = T.lt k k' := by unfold heavy; rw [if_pos hw]
    rw [e2]
    have HE := Aside0.mk e2
    have HC := Aside0.mk (fun w => compare_below k k' w)
    have e3 : decide (cmpB k k' < 0) = T.lt k k' := rfl
    obtain ⟨bb, hbb⟩ : ∃ bb, T.lt k k' = bb := ⟨_, rfl⟩
    rw [hbb] at e3 ⊢
    obtain ⟨cc, hcc⟩ : ∃ cc, cmpB k k' = cc := ⟨_, rfl⟩
    rw [hcc] at e3 HC
    clear hw e2 hbb hcc
    go_enter Try.func37, Try.ntmps37
    go_wp2_with fail
    refine Qt.wp_region_all (fun w' => Below w.heap.size w w') (by kernel_rfl) (by kernel_rfl) (Below.refl _ _).drew ?_
    iterate 9 ((first | (with_reducible refine Qt.q_val' rfl ?_) | ((with_reducible refine Qg.on_val' ?_); apply Exists.intro; apply Exists.intro; apply Exists.intro; refine ⟨?_, ?_, ?_, ?_⟩; (focus rfl); (focus rfl); (focus rfl))); apply Exists.intro; refine ⟨?_, ?_⟩; (focus (intro w' hw'; have h1 := H.out.below hw'; have h2 := H'.out.below hw'; have q0 : w'.cell? ⟨g, 0, none⟩ = some (.string k) := h1.cell 0; have q1 : w'.cell? ⟨g, 2, none⟩ = some (.int .u64 wt) := h1.cell 2; have q2 : w'.cell? ⟨g', 0, none⟩ = some (.string k') := h2.cell 0; have q3 : w'.cell? ⟨g', 2, none⟩ = some (.int .u64 wt') := h2.cell 2; have l1 := h1.lt; have l2 := h2.lt; go_simp; (first | done | (with_reducible rfl)))); intro K hK; go_simp; refine hK _ ?_; clear hK K)
    (refine wpQuiet_nil ?_; intro w' hw')
    obtain ⟨w1, rfl⟩ : ∃ w1, w1 = w' := ⟨_, rfl⟩
    have B1 := Aside0.mk hw'
    clear hw'
    go_wp2_with fail
    refine Qt.wp_region_all (fun w' => Below w.heap.size w w') (by kernel_rfl) (by kernel_rfl) B1.out.drew ?_
    iterate 10 ((first | (with_reducible refine Qt.q_val' rfl ?_) | ((with_reducible refine Qg.on_val' ?_); apply Exists.intro; apply Exists.intro; apply Exists.intro; refine ⟨?_, ?_, ?_, ?_⟩; (focus rfl); (focus rfl); (focus rfl))); apply Exists.intro; refine ⟨?_, ?_⟩; (focus (intro w' hw'; have h1 := H.out.below hw'; have h2 := H'.out.below hw'; have q0 : w'.cell? ⟨g, 0, none⟩ = some (.string k) := h1.cell 0; have q1 : w'.cell? ⟨g, 2, none⟩ = some (.int .u64 wt) := h1.cell 2; have q2 : w'.cell? ⟨g', 0, none⟩ = some (.string k') := h2.cell 0; have q3 : w'.cell? ⟨g', 2, none⟩ = some (.int .u64 wt') := h2.cell 2; have l1 := h1.lt; have l2 := h2.lt; go_simp; (first | done | (with_reducible rfl)))); intro K hK; go_simp; refine hK _ ?_; clear hK K)
    ((first | (with_reducible refine Qt.q_call' rfl ?_) | ((with_reducible refine Qg.on_call' ?_); apply Exists.intro; apply Exists.intro; apply Exists.intro; refine ⟨?_, ?_, ?_, ?_⟩; (focus rfl); (focus rfl); (focus rfl))); apply Exists.intro; apply Exists.intro; refine ⟨?_, ?_⟩; (focus (intro w'; go_simp; (first | rfl | exact ⟨rfl, rfl⟩))); apply Exists.intro; refine ⟨?_, ?_⟩; (focus (intro w' hw'; first | exact Qt.under hw' (HC.out _))); intro K hK; go_simp; refine hK _ ?_; clear hK K)
    iterate 2 ((first | (with_reducible refine Qt.q_val' rfl ?_) | ((with_reducible refine Qg.on_val' ?_); apply Exists.intro; apply Exists.intro; apply Exists.intro; refine ⟨?_, ?_, ?_, ?_⟩; (focus rfl); (focus rfl); (focus rfl))); apply Exists.intro; refine ⟨?_, ?_⟩; (focus (intro w' hw'; skip; go_simp; (first | done | (with_reducible rfl)))); intro K hK; go_simp; refine hK _ ?_; clear hK K)
    (refine wpQuiet_nil ?_; intro w' hw')
    have B2 := Aside0.mk hw'
    clear hw'
    go_wp2
    go_ret
    exact ⟨by first | rfl | simp [e3], B2.out⟩
  · have e1 : (wt != wt') = true := by simp [hw]
    have e2 : heavy wt k wt' k' = decide (wt' < wt) := by unfold heavy; rw [if_neg hw]
    rw [e2]
    clear hw e2
    go_enter Try.func37, Try.ntmps37
    go_wp2_with fail
    refine Qt.wp_region_all (fun w' => Below w.heap.size w w') (by kernel_rfl) (by kernel_rfl) (Below.refl _ _).drew ?_
    iterate 9 ((first | (with_reducible refine Qt.q_val' rfl ?_) | ((with_reducible refine Qg.on_val' ?_); apply Exists.intro; apply Exists.intro; apply Exists.intro; refine ⟨?_, ?_, ?_, ?_⟩; (focus rfl); (focus rfl); (focus rfl))); apply Exists.intro; refine ⟨?_, ?_⟩; (focus (intro w' hw'; have h1 := H.out.below hw'; have h2 := H'.out.below hw'; have q0 : w'.cell? ⟨g, 0, none⟩ = some (.string k) := h1.cell 0; have q1 : w'.cell? ⟨g, 2, none⟩ = some (.int .u64 wt) := h1.cell 2; have q2 : w'.cell? ⟨g', 0, none⟩ = some (.string k') := h2.cell 0; have q3 : w'.cell? ⟨g', 2, none⟩ = some (.int .u64 wt') := h2.cell 2; have l1 := h1.lt; have l2 := h2.lt; go_simp; (first | done | (with_reducible rfl)))); intro K hK; go_simp; refine hK _ ?_; clear hK K)
    (refine wpQuiet_nil ?_; intro w' hw')
    obtain ⟨w1, rfl⟩ : ∃ w1, w1 = w' := ⟨_, rfl⟩
    have B1 := Aside0.mk hw'
    clear hw'
    go_wp2_with fail
    refine Qt.wp_region_all (fun w' => Below w.heap.size w w') (by kernel_rfl) (by kernel_rfl) B1.out.drew ?_
    iterate 10 ((first | (with_reducible refine Qt.q_val' rfl ?_) | ((with_reducible refine Qg.on_val' ?_); apply Exists.intro; apply Exists.intro; apply Exists.intro; refine ⟨?_, ?_, ?_, ?_⟩; (focus rfl); (focus rfl); (focus rfl))); apply Exists.intro; refine ⟨?_, ?_⟩; (focus (intro w' hw'; have h1 := H.out.below hw'; have h2 := H'.out.below hw'; have q0 : w'.cell? ⟨g, 0, none⟩ = some (.string k) := h1.cell 0; have q1 : w'.cell? ⟨g, 2, none⟩ = some (.int .u64 wt) := h1.cell 2; have q2 : w'.cell? ⟨g', 0, none⟩ = some (.string k') := h2.cell 0; have q3 : w'.cell? ⟨g', 2, none⟩ = some (.int .u64 wt') := h2.cell 2; have l1 := h1.lt; have l2 := h2.lt; go_simp; (first | done | (with_reducible rfl)))); intro K hK; go_simp; refine hK _ ?_; clear hK K)
    (refine wpQuiet_nil ?_; intro w' hw')
    have B2 := Aside0.mk hw'
    clear hw'
    go_wp2
    go_ret
    exact ⟨by first | rfl | simp, B2.out⟩
theorem fix_calls (g : Nat) (k : ByteArray) (v wt s : Int) (l r : T) (w : World) (h : Blk w g TNd (cells k v wt s l.ptr r.ptr)) (hl : At w l) (hr : At w r) (hz : l.size + r.size ≤ 1000000) :
    Calls Try.prog 27 #[.pointer (some ⟨g, 0, none⟩)] w fun e w' => e = .returned (.pointer (some ⟨g, 0, none⟩)) ∧ Blk w' g TNd (cells k v wt ((l.size + r.size + 1 : Nat) : Int) l.ptr r.ptr) ∧ Only [g] w w' := by
  have H := Aside0.mk h
  obtain ⟨lp, hlp⟩ := ptr_open l
  obtain ⟨rp, hrp⟩ := ptr_open r
  have HL := Aside0.mk (fun w' (hb : Below w.heap.size w w') => count_below l w' (hl.below hb) (.pointer lp) hlp.symm (l.size : Int) rfl)
  have HR := Aside0.mk (fun w' (hb : Below w.heap.size w w') => count_below r w' (hr.below hb) (.pointer rp) hrp.symm (r.size : Int) rfl)
  rw [hlp, hrp] at H ⊢
  have hs : IntKind.i64.wrap (IntKind.i64.wrap ((l.size : Int) + (r.size : Int)) + 1) = ((l.size + r.size + 1 : Nat) : Int) := by
    have e1 := IntWalk.i64_in ((l.size + r.size : Nat) : Int) (by omega)
    have e2 := IntWalk.i64_in ((l.size + r.size + 1 : Nat) : Int) (by omega)
    rw [show (l.size : Int) + (r.size : Int) = ((l.size + r.size : Nat) : Int) by omega, e1, show ((l.size + r.size : Nat) : Int) + 1 = ((l.size + r.size + 1 : Nat) : Int) by omega]
    exact e2
  clear h hl hr hlp hrp hz
  obtain ⟨nl, hnl⟩ : ∃ n : Int, (l.size : Int) = n := ⟨_, rfl⟩
  obtain ⟨nr, hnr⟩ : ∃ n : Int, (r.size : Int) = n := ⟨_, rfl⟩
  obtain ⟨ns, hns⟩ : ∃ n : Int, ((l.size + r.size + 1 : Nat) : Int) = n := ⟨_, rfl⟩
  rw [hnl] at HL hs
  rw [hnr] at HR hs
  rw [hns] at hs ⊢
  clear hnl hnr hns
  go_enter Try.func27, Try.ntmps27
  go_wp2_with fail
  refine Qt.wp_region_tail (fun w' => Below w.heap.size w w') 13 (by kernel_rfl) (by kernel_rfl) (Below.refl _ _).drew ?_
  simp only [List.take_succ_cons, List.take_zero, List.drop_succ_cons, List.drop_zero]
  iterate 5 ((first | (with_reducible refine Qt.q_val' rfl ?_) | ((with_reducible refine Qg.on_val' ?_); apply Exists.intro; apply Exists.intro; apply Exists.intro; refine ⟨?_, ?_, ?_, ?_⟩; (focus rfl); (focus rfl); (focus rfl))); apply Exists.intro; refine ⟨?_, ?_⟩; (focus (intro w' hw'; have h1 := H.out.below hw'; have q4 : w'.cell? ⟨g, 4, none⟩ = some (.pointer lp) := h1.cell 4; have l1 := h1.lt; go_simp; (first | done | (with_reducible rfl)))); intro K hK; go_simp; refine hK _ ?_; clear hK K)
  ((first | (with_reducible refine Qt.q_call' rfl ?_) | ((with_reducible refine Qg.on_call' ?_); apply Exists.intro; apply Exists.intro; apply Exists.intro; refine ⟨?_, ?_, ?_, ?_⟩; (focus rfl); (focus rfl); (focus rfl))); apply Exists.intro; apply Exists.intro; refine ⟨?_, ?_⟩; (focus (intro w'; go_simp; (first | rfl | exact ⟨rfl, rfl⟩))); apply Exists.intro; refine ⟨?_, ?_⟩; (focus (intro w' hw'; first | exact Qt.under hw' (HL.out _ hw'))); intro K hK; go_simp; refine hK _ ?_; clear hK K)
  iterate 4 ((first | (with_reducible refine Qt.q_val' rfl ?_) | ((with_reducible refine Qg.on_val' ?_); apply Exists.intro; apply Exists.intro; apply Exists.intro; refine ⟨?_, ?_, ?_, ?_⟩; (focus rfl); (focus rfl); (focus rfl))); apply Exists.intro; refine ⟨?_, ?_⟩; (focus (intro w' hw'; have h1 := H.out.below hw'; have q5 : w'.cell? ⟨g, 5, none⟩ = some (.pointer rp) := h1.cell 5; have l1 := h1.lt; go_simp; (first | done | (with_reducible rfl)))); intro K hK; go_simp; refine hK _ ?_; clear hK K)
  ((first | (with_reducible refine Qt.q_call' rfl ?_) | ((with_reducible refine Qg.on_call' ?_); apply Exists.intro; apply Exists.intro; apply Exists.intro; refine ⟨?_, ?_, ?_, ?_⟩; (focus rfl); (focus rfl); (focus rfl))); apply Exists.intro; apply Exists.intro; refine ⟨?_, ?_⟩; (focus (intro w'; go_simp; (first | rfl | exact ⟨rfl, rfl⟩))); apply Exists.intro; refine ⟨?_, ?_⟩; (focus (intro w' hw'; first | exact Qt.under hw' (HR.out _ hw'))); intro K hK; go_simp; refine hK _ ?_; clear hK K)
  iterate 2 ((first | (with_reducible refine Qt.q_val' rfl ?_) | ((with_reducible refine Qg.on_val' ?_); apply Exists.intro; apply Exists.intro; apply Exists.intro; refine ⟨?_, ?_, ?_, ?_⟩; (focus rfl); (focus rfl); (focus rfl))); apply Exists.intro; refine ⟨?_, ?_⟩; (focus (intro w' hw'; skip; go_simp; (first | done | (with_reducible rfl)))); intro K hK; go_simp; refine hK _ ?_; clear hK K)
  (refine wpQuiet_nil ?_; intro w' hw')
  have h1 := H.out.below hw'
  have H1 := Aside0.mk h1
  have q3 : w'.cell? ⟨g, 3, none⟩ = some (.int .i64 s) := h1.cell 3
  have z3 := h1.frozen 3
  have gl := h1.lt
  have B1 := Aside0.mk hw'
  clear hw' h1
  go_wp2
  go_ret
  refine ⟨rfl, ?_, ?_⟩
  · exact H1.out.set 3 _
  · exact (Only.of_below B1.out [g]).setCell (p := ⟨g, 3, none⟩) (.inl (by simp)) _
end Go.Proofs.Ytcgfdnhocdcfjaa.Hed
