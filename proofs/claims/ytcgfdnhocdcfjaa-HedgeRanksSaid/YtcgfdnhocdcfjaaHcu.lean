/- Trees of keys: weigh, New, Len, cut. -/
import Derived.Test.YtcgfdnhocdcfjaaHjo
import Derived.WalkKit
import Derived.Below
import Derived.Lib.OthersKept
import Derived.WalkSmall
namespace Go.Proofs.Ytcgfdnhocdcfjaa.Hed
open Go.RowKit Go.Proofs.YtcgfdnhocdcfjaaW.PrintWords Go.Proofs.Ytcgfdnhocdcfjaa.Arr Go.Proofs.Ytcgfdnhocdcfjaa.Utf T
set_option linter.unusedVariables false
set_option linter.unusedSimpArgs false

abbrev TH : TypeId := 57
theorem At_typed {w : World} : ∀ {t : T}, At w t → ∀ k, k ∈ t.blocks → ∃ cs, Blk w k TNd cs
  | .nil, _, k, hk => by simp [blocks] at hk
  | .node g _ _ _ l r, h, k, hk => by
    simp only [blocks, List.mem_cons, List.mem_append] at hk
    rcases hk with rfl | hk | hk
    · exact ⟨_, h.1⟩
    · exact At_typed h.2.1 k hk
    · exact At_typed h.2.2 k hk
theorem At_apart {w : World} {t : T} (h : At w t) {g : Nat} {ty : TypeId} {cs : Array Value} (hB : Blk w g ty cs) (hne : ty ≠ TNd) : g ∉ t.blocks := fun hm => by
  obtain ⟨cs', hB'⟩ := At_typed h g hm
  exact Blk.ne hB hB' hne rfl
set_option maxHeartbeats 1000000 in
set_option maxRecDepth 100000 in
theorem weigh_calls (s : ByteArray) (hs : s.size ≤ 1000000) (w : World) :
    Calls Try.prog 26 #[.string s] w fun e w' => ∃ n, e = .returned (.int .u64 n) ∧ Below w.heap.size w w' := by
  go_enter Try.func26, Try.ntmps26
  go_wp2
  go_loopw [3] (fun v3 wr => ∃ (pos : Nat) (n : Int), v3 = .int .u64 n ∧ wr.heap[w.heap.size]? = some (.stringIter s pos) ∧ Below w.heap.size w wr) (fun _ wr => s.size - wr.iterPos w.heap.size)
  case atStart => exact ⟨0, _, rfl, World.iter_heap w s 0, (Below.refl _ _).alloc (Nat.le_refl _) _⟩
  case round =>
    obtain ⟨pos, n, rfl, hit, hb⟩ := hrel
    have hpos := iterPos_of hit
    by_cases hp : pos < s.size
    · have hnx : ∀ ty, (Instr.next (.pointer (some ⟨w.heap.size, 0, none⟩)) true ty).run Try.prog wr = _ := fun ty => Lib.run_next_any_at wr w.heap.size s pos ty hit hp
      have hw := dec_w s pos hp
      have hit2 := Lib.iterAt_heap wr w.heap.size s pos (pos + (Utf8.decode s pos).2) hit
      have hb2 := Lib.below_iterAt hb (Nat.le_refl _) s (pos + (Utf8.decode s pos).2)
      have HP := Aside0.mk hpos
      have HI := Aside0.mk hit2
      clear hit hpos hit2
      go_wp2
      go_roundw
      case rel => exact ⟨_, _, rfl, HI.out, hb2⟩
      case measure =>
        rw [iterPos_of HI.out, HP.out]
        omega
    · have hnx : ∀ ty, (Instr.next (.pointer (some ⟨w.heap.size, 0, none⟩)) true ty).run Try.prog wr = _ := fun ty => Lib.run_next_end_at wr w.heap.size s pos ty hit hp
      clear hit hpos
      go_wp2
      go_ret
      exact ⟨_, rfl, hb⟩
/-- A hedge in memory: its block, its tree. -/
structure HAt (w : World) (h : Nat) (t : T) : Prop where mk ::
  blk : Blk w h TH #[t.ptr]
  at_ : At w t
  nd : t.blocks.Nodup
theorem HAt.below {w w1 : World} {h : Nat} {t : T} (H : HAt w h t) (hb : Below w.heap.size w w1) : HAt w1 h t := ⟨H.blk.below hb, H.at_.below hb, H.nd⟩
theorem HAt.apart {w : World} {h : Nat} {t : T} (H : HAt w h t) : h ∉ t.blocks := At_apart H.at_ H.blk (by decide)
theorem new_calls (w : World) : Calls Try.prog 7 #[] w fun e w' => ∃ h, e = .returned (.pointer (some ⟨h, 0, none⟩)) ∧ HAt w' h T.nil ∧ w.heap.size ≤ h ∧ Below w.heap.size w w' := by
  go_enter Try.func7, Try.ntmps7
  go_wp2
  go_ret
  exact ⟨_, rfl, ⟨Blk.new _ _ _, trivial, List.nodup_nil⟩, Nat.le_refl _, (Below.refl _ _).alloc (Nat.le_refl _) _⟩
theorem len_calls (h : Nat) (t : T) (w : World) (H : HAt w h t) : Calls Try.prog 13 #[.pointer (some ⟨h, 0, none⟩)] w fun e w' => e = .returned (.int .i64 (t.size : Int)) ∧ Below w.heap.size w w' := by
  obtain ⟨p, hp⟩ := ptr_open t
  have K := Aside0.mk (count_below t w H.at_ (.pointer p) hp.symm (t.size : Int) rfl)
  have c0 : w.cell? ⟨h, 0, none⟩ = some (.pointer p) := by rw [← hp]; exact H.blk.cell 0
  have cl := H.blk.lt
  obtain ⟨n, hn⟩ : ∃ n : Int, (t.size : Int) = n := ⟨_, rfl⟩
  rw [hn] at K ⊢
  clear H hp hn
  go_enter Try.func13, Try.ntmps13
  go_wp2_with fail
  refine K.out.mono ?_
  rintro e w1 ⟨rfl, b1⟩
  go_wp2
  go_ret
  exact ⟨rfl, b1⟩
/-- The least key behind another one. -/
def above (key : ByteArray) : ByteArray := key ++ ⟨#[0]⟩
def cutT (t : T) (key : ByteArray) : T × T × T := ((splitT t key).1, (splitT (splitT t key).2 (above key)).1, (splitT (splitT t key).2 (above key)).2)
def CutPost (h : Nat) (t : T) (key : ByteArray) (w : World) (e : Ending) (w' : World) : Prop :=
  e = .returned (.tuple #[(cutT t key).1.ptr, (cutT t key).2.1.ptr, (cutT t key).2.2.ptr]) ∧ At w' (cutT t key).1 ∧ At w' (cutT t key).2.1 ∧ At w' (cutT t key).2.2 ∧
    Blk w' h TH #[t.ptr] ∧ Only t.blocks w w'
theorem cut_blocks (t : T) (key : ByteArray) : ((cutT t key).1.blocks ++ ((cutT t key).2.1.blocks ++ (cutT t key).2.2.blocks)).Perm t.blocks :=
  (List.Perm.append_left _ (split_blocks _ _)).trans (split_blocks t key)
theorem cut_ents (t : T) (key : ByteArray) : (cutT t key).1.ents ++ ((cutT t key).2.1.ents ++ (cutT t key).2.2.ents) = t.ents := by
  unfold cutT
  simp only
  rw [split_ents, split_ents]
theorem cut_size (t : T) (key : ByteArray) : (cutT t key).1.size + ((cutT t key).2.1.size + (cutT t key).2.2.size) = t.size := by
  unfold cutT
  simp only
  rw [split_size, split_size]
theorem cut_calls (h : Nat) (t : T) (key : ByteArray) (hz : t.size ≤ 1000000) (hk : key.size ≤ 1000000) (w : World) (H : HAt w h t) :
    Calls Try.prog 25 #[.pointer (some ⟨h, 0, none⟩), .string key] w (CutPost h t key w) := by
  obtain ⟨p, hp⟩ := ptr_open t
  have hsz := split_size t key
  have hpm := split_blocks t key
  have hnd := hpm.nodup_iff.2 H.nd
  have K := Aside0.mk (split_calls t hz key w H.at_ H.nd)
  have hmem : ∀ j, j ∈ (splitT t key).1.blocks ∨ j ∈ (splitT t key).2.blocks → j ∈ t.blocks := fun j hj => hpm.mem_iff.1 (by simpa using hj)
  obtain ⟨hna, hnb, hdj⟩ := List.nodup_append.1 hnd
  have c0 : w.cell? ⟨h, 0, none⟩ = some (.pointer p) := by rw [← hp]; exact H.blk.cell 0
  have cl := H.blk.lt
  have hap := H.apart
  have HB := Aside0.mk H.blk
  have HM := Aside0.mk hmem
  have HAP := Aside0.mk hap
  have HP := Aside0.mk hp
  have HDJ := Aside0.mk hdj
  have K2 := Aside0.mk (fun w' (h' : At w' (splitT t key).2) => split_calls (splitT t key).2 (by omega) (above key) w' h' hnb)
  unfold CutPost cutT
  simp only
  obtain ⟨a, ha⟩ : ∃ a, (splitT t key).1 = a := ⟨_, rfl⟩
  obtain ⟨r, hr⟩ : ∃ r, (splitT t key).2 = r := ⟨_, rfl⟩
  unfold SplitPost at K
  rw [ha, hr] at K HM HDJ
  rw [hr] at K2
  rw [ha, hr]
  have HSB := Aside0.mk (split_blocks r (above key))
  unfold SplitPost at K2
  obtain ⟨b, hb⟩ : ∃ b, (splitT r (above key)).1 = b := ⟨_, rfl⟩
  obtain ⟨c, hc⟩ : ∃ c, (splitT r (above key)).2 = c := ⟨_, rfl⟩
  rw [hb, hc] at K2 HSB
  rw [hb, hc]
  obtain ⟨pa, hpa⟩ := ptr_open a
  obtain ⟨pr, hpr⟩ := ptr_open r
  obtain ⟨pb, hpb⟩ := ptr_open b
  obtain ⟨pc, hpc⟩ := ptr_open c
  have hks : key.size + 1 ≤ 9223372036854775807 := by omega
  rw [hpa, hpb, hpc, hp]
  rw [hp] at K
  rw [hpa, hpr] at K
  rw [hpr, hpb, hpc] at K2
  clear H hsz hpm hnd hmem hna hnb hdj hap ha hr hb hc hpa hpr hpb hpc hp
  go_enter Try.func25, Try.ntmps25
  go_wp2_with fail
  refine K.out.mono ?_
  rintro e w1 ⟨rfl, ha1, hr1, ho1⟩
  have HB1 := Aside0.mk (HB.out.only ho1 HAP.out)
  have A1 := Aside0.mk ha1
  have R1 := Aside0.mk hr1
  have O1 := Aside0.mk ho1
  clear c0 cl ha1 hr1 ho1
  go_wp2_with fail
  refine (K2.out w1 R1.out).mono ?_
  rintro e w2 ⟨rfl, hb2, hc2, ho2⟩
  have F1 : At w2 a := A1.out.only ho2 (fun j h1 h2 => HDJ.out j h1 j h2 rfl)
  have F2 : Blk w2 h TH #[t.ptr] := HB1.out.only ho2 (fun hm => HAP.out (HM.out _ (.inr hm)))
  rw [HP.out] at F2
  have F3 : Only t.blocks w w2 := O1.out.trans ho2 (fun j hj => .inl (HM.out j (.inr hj)))
  have F := Aside0.mk (And.intro F1 (And.intro hb2 (And.intro hc2 (And.intro F2 F3))))
  clear F1 hb2 hc2 F2 F3 ho2
  go_wp2
  go_ret3
  exact ⟨rfl, F.out⟩
end Go.Proofs.Ytcgfdnhocdcfjaa.Hed
