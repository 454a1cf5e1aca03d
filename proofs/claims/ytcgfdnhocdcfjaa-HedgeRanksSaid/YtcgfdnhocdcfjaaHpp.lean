/- Trees of keys: Put, Drop. -/
import Derived.Test.YtcgfdnhocdcfjaaHpu
namespace Go.Proofs.Ytcgfdnhocdcfjaa.Hed
open Go.RowKit Go.Proofs.YtcgfdnhocdcfjaaW.PrintWords Go.Proofs.Ytcgfdnhocdcfjaa.Arr Go.Proofs.Ytcgfdnhocdcfjaa.Utf T
set_option linter.unusedVariables false
set_option linter.unusedSimpArgs false

def isNil : T → Bool
  | .nil => true
  | _ => false
def dropT (t : T) (key : ByteArray) : T := joinT (cutT t key).1 (cutT t key).2.2
/-- The node at a key: the elder one with another number, or a new one. -/
def midT (b : T) (g : Nat) (wt : Int) (key : ByteArray) (v : Int) : T :=
  match b with
  | .nil => .node g key v wt .nil .nil
  | .node g' k' _ wt' l r => .node g' k' v wt' l r
def putT (t : T) (g : Nat) (wt : Int) (key : ByteArray) (v : Int) : T := joinT (joinT (cutT t key).1 (midT (cutT t key).2.1 g wt key v)) (cutT t key).2.2
theorem cut_apart (t : T) (key : ByteArray) (hn : t.blocks.Nodup) :
    ((cutT t key).1.blocks ++ ((cutT t key).2.1.blocks ++ (cutT t key).2.2.blocks)).Nodup := (cut_blocks t key).nodup_iff.2 hn
theorem cut_mem (t : T) (key : ByteArray) : ∀ j, (j ∈ (cutT t key).1.blocks ∨ j ∈ (cutT t key).2.1.blocks ∨ j ∈ (cutT t key).2.2.blocks) → j ∈ t.blocks :=
  fun j hj => (cut_blocks t key).mem_iff.1 (by simpa using hj)
theorem eq_none (b : T) : (match b.ptr with | .pointer none => true | _ => false) = isNil b := by cases b <;> rfl
theorem ptr_test (b : T) (p : Option Addr) (h : b.ptr = .pointer p) : (p = none ∧ b = .nil) ∨ ∃ g k v wt l r, b = .node g k v wt l r ∧ p = some ⟨g, 0, none⟩ := by
  cases b with
  | nil => left; injection h with h; exact ⟨h.symm, rfl⟩
  | node g k v wt l r => right; injection h with h; exact ⟨g, k, v, wt, l, r, rfl, h.symm⟩
set_option maxHeartbeats 4000000 in
theorem drop_calls (h : Nat) (t : T) (key : ByteArray) (hz : t.size ≤ 1000000) (hk : key.size ≤ 1000000) (w : World) (H : HAt w h t) :
    Calls Try.prog 17 #[.pointer (some ⟨h, 0, none⟩), .string key] w fun e w' => e = .returned (.int .i64 (if isNil (cutT t key).2.1 then 19 else 0)) ∧ HAt w' h (dropT t key) ∧ Only (h :: t.blocks) w w' ∧ (∀ j, j ∈ (dropT t key).blocks → j ∈ t.blocks) := by
  have hnd := cut_apart t key H.nd
  have hmem := cut_mem t key
  have hsz := cut_size t key
  have hap := H.apart
  have K := Aside0.mk (cut_calls h t key hz hk w H)
  unfold CutPost at K
  unfold dropT
  obtain ⟨a, ha⟩ : ∃ a, (cutT t key).1 = a := ⟨_, rfl⟩
  obtain ⟨b, hb⟩ : ∃ b, (cutT t key).2.1 = b := ⟨_, rfl⟩
  obtain ⟨c, hc⟩ : ∃ c, (cutT t key).2.2 = c := ⟨_, rfl⟩
  rw [ha, hb, hc] at hnd hsz K
  rw [hb, hc]
  rw [ha]
  have hmem' : ∀ j, (j ∈ a.blocks ∨ j ∈ b.blocks ∨ j ∈ c.blocks) → j ∈ t.blocks := fun j hj => hmem j (by rw [ha, hb, hc]; exact hj)
  obtain ⟨hna, hnbc, hd1⟩ := List.nodup_append.1 hnd
  obtain ⟨hnb, hnc, hd2⟩ := List.nodup_append.1 hnbc
  have hac : (a.blocks ++ c.blocks).Nodup := List.nodup_append.2 ⟨hna, hnc, fun j h1 k h2 => hd1 j h1 k (by simp [h2])⟩
  have KJ := Aside0.mk (fun w' (h1 : At w' a) (h2 : At w' c) => join_calls a c (by omega) w' h1 h2 hac)
  unfold JoinPost at KJ
  have hjb := join_blocks a c
  have HJM := Aside0.mk (show ∀ j, j ∈ (joinT a c).blocks → j ∈ t.blocks from fun j hj => hmem' j (by have := hjb.mem_iff.1 hj; simp at this; rcases this with h | h <;> simp [h]))
  have HJN := Aside0.mk (hjb.nodup_iff.2 hac)
  have HM := Aside0.mk hmem'
  have HAP := Aside0.mk hap
  obtain ⟨pt, hpt⟩ := ptr_open t
  obtain ⟨pa, hpa⟩ := ptr_open a
  obtain ⟨pb, hpb⟩ := ptr_open b
  obtain ⟨pc, hpc⟩ := ptr_open c
  obtain ⟨j, hj⟩ : ∃ j, joinT a c = j := ⟨_, rfl⟩
  obtain ⟨pj, hpj⟩ := ptr_open j
  rw [hj] at KJ HJM HJN
  rw [hj]
  rw [hpa, hpb, hpc, hpt] at K
  rw [hpa, hpc, hpj] at KJ
  have HPJ := Aside0.mk hpj
  have hpt2 := ptr_test b pb hpb
  clear H hnd hmem hsz hap ha hb hc hmem' hna hnbc hd1 hnb hnc hd2 hac hjb hpt hpa hpb hpc hj hpj
  rcases hpt2 with ⟨rfl, rfl⟩ | ⟨gb, kb, vb, wb, lb, rb, rfl, rfl⟩
  all_goals
    simp only [isNil, if_true, Bool.false_eq_true, if_false]
    go_enter Try.func17, Try.ntmps17
    go_wp2_with fail
    refine K.out.mono ?_
    rintro e w1 ⟨rfl, ha1, hb1, hc1, hh1, ho1⟩
    have A1 := Aside0.mk ha1
    have C1 := Aside0.mk hc1
    have H1 := Aside0.mk hh1
    have O1 := Aside0.mk ho1
    clear ha1 hb1 hc1 hh1 ho1
    go_wp2_with fail
    refine (KJ.out w1 A1.out C1.out).mono ?_
    rintro e w2 ⟨rfl, hj2, ho2⟩
    have hh2 := H1.out.only ho2 (fun hm => HAP.out (HM.out _ (by simp at hm; rcases hm with h | h <;> simp [h])))
    have O2 := Aside0.mk (O1.out.trans ho2 (fun k hk => .inl (HM.out _ (by simp at hk; rcases hk with h | h <;> simp [h]))))
    have c0 : w2.cell? ⟨h, 0, none⟩ = some (.pointer pt) := hh2.cell 0
    have z0 := hh2.frozen 0
    have hl := hh2.lt
    have J2 := Aside0.mk hj2
    have H2 := Aside0.mk hh2
    clear hj2 ho2 hh2
    go_wp2
    go_ret
    refine ⟨rfl, ⟨by rw [HPJ.out]; exact H2.out.set 0 _, J2.out.keep fun k hk => Below.heap_setCell _ _ _ _ (fun e => HAP.out ((show k = h from e) ▸ HJM.out k hk)), HJN.out⟩, (O2.out.mono (fun k hk => .inl (by simp [hk]))).setCell (p := ⟨h, 0, none⟩) (.inl (by simp)) _, HJM.out⟩
end Go.Proofs.Ytcgfdnhocdcfjaa.Hed
