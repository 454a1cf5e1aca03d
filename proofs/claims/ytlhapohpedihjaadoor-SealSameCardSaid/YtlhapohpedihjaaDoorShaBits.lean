/- The reference's words of bits: what each small function returns. -/
import Derived.Test.YtlhapohpedihjaaDoorArr
import Derived.Test.YtlhapohpedihjaaDoorShaPure
import Derived.Test.YtlhapohpedihjaaDoorProg
import Derived.StillTailTactics
namespace Go.Proofs.YtlhapohpedihjaaDoor.Sha
open Go.RowKit Go.Proofs.YtlhapohpedihjaaDoorW.PrintWords Go.Proofs.YtlhapohpedihjaaDoorW.PrintLast Go.Proofs.YtlhapohpedihjaaDoorW.PrintMore Go.Proofs.YtlhapohpedihjaaDoor.Arr
set_option linter.unusedVariables false
set_option linter.unusedSimpArgs false

def no32 : List Bool := (List.range 32).map fun _ => false
theorem zeroW : ∀ w, (zeroValue 41).run Tryd.prog w = .ok (.agg (boolsA no32)) w := fun w => by kernel_rfl
theorem buildW : ∀ w, (Instr.build 41 #[]).run Tryd.prog w = .ok (.agg (boolsA no32)) w := fun w => by kernel_rfl
theorem infoW : (Tryd.prog.info? 41).map (·.size) = some 32 := by kernel_rfl
theorem bools32 (f : Nat → Bool) : (boolsA ((List.range 32).map f)).size = 32 := by simp [boolsA_size]
theorem no32_length : no32.length = 32 := by simp [no32]

theorem half_bit (n k : Nat) (m : Int) (hm : m = (n / 2 ^ k : Nat)) : (m % 2 == 1) = n.testBit k := by
  subst hm
  rw [Nat.testBit_eq_decide_div_mod_eq]
  rw [Bool.eq_iff_iff]
  simp only [beq_iff_eq, decide_eq_true_eq]
  omega
theorem half_next (n k : Nat) (m : Int) (hm : m = (n / 2 ^ k : Nat)) : m / 2 = ((n / 2 ^ (k + 1) : Nat) : Int) := by
  subst hm
  rw [Nat.pow_succ, ← Nat.div_div_eq_div_mul]
  omega

set_option maxHeartbeats 1000000 in
theorem of_calls (n : Nat) (hn : n < 4294967296) (w : World) :
    Calls Tryd.prog 18 #[.int .u32 (n : Int)] w fun e w' => e = .returned (.agg (boolsA (ofN n))) ∧ Below w.heap.size w w' := by
  go_enter Tryd.func18, Tryd.ntmps18
  go_wp2_with (first
    | (with_reducible refine wpList_alloc_agg rfl 41 _ rfl zeroW ?_)
    | (with_reducible refine wpList_build_none rfl 41 rfl _ buildW ?_)
    | (with_reducible refine wpList_store_blk rfl 41 _ _ rfl _ _ rfl rfl infoW (by simp [boolsA_size, no32_length]) (boolsA_one _) (Blk.newAt (by simp)) (by simp [boolsA_size, no32_length]) ?_; rw [setRow_top (by simp)]))
  go_loopw [0, 6] (fun v0 v6 wr => ∃ (k : Nat) (m : Int), k ≤ 32 ∧ Aside0 (m = (n / 2 ^ k : Nat)) ∧ 0 ≤ m ∧ m < 4294967296 ∧ v0 = .int .u32 m ∧ v6 = .int .i64 (k : Int) ∧ Blk wr w.heap.size 41 (boolsA no32) ∧ Blk wr (w.heap.size + 1) 41 (boolsA (fillK (fun i => n.testBit i) (fun _ => false) 32 k)) ∧ Below w.heap.size w wr) (fun _ v6 _ => 32 - (intOf v6).toNat)
  case atStart => exact ⟨0, n, by omega, ⟨by simp⟩, by omega, by omega, rfl, rfl, (Blk.newAt rfl).alloc _, by rw [fillK_zero]; exact Blk.newAt (by simp), below_alloc (below_alloc (Below.refl _ _) _) _⟩
  case round =>
    obtain ⟨k, m, hk, hm, hm0, hm1, rfl, rfl, h1, h2, hb⟩ := hrel
    by_cases hlt : k < 32
    · have hc := (h2.cell k).trans (boolsA_get _ k (by rw [fillK_length]; exact hlt))
      have hf := h2.frozen k
      go_wp2_with fail
      go_roundw
      case rel => exact ⟨k + 1, m / 2, by omega, ⟨half_next n k m hm.out⟩, by omega, by omega, rfl, by go_num, h1.far (by simp; try omega) _, by have := h2.set k (.bool (m % 2 == 1)); rwa [boolsA_set, fillK_set _ _ _ _ hlt _ (half_bit n k m hm.out)] at this, hb.setCell (by simp; try omega) _⟩
      case measure => simp [intOf]; omega
    · obtain rfl : k = 32 := by omega
      rw [fillK_full] at h2
      go_wp2_with (first
        | (with_reducible refine wpList_load_blk rfl 41 _ rfl _ _ _ rfl Tryd.underlying41 rfl infoW h2 (by simp [boolsA_size]) ?_)
        | (with_reducible refine wpList_store_blk rfl 41 _ _ rfl _ _ rfl rfl infoW (by simp [boolsA_size]) (boolsA_one _) h1 (by simp [boolsA_size, no32_length]) ?_))
      exact bodyPost_ret (v := .agg (boolsA (ofN n))) (results_blk Tryd.results18 _ _ _ _ _ rfl infoW Tryd.underlying41 rfl (h1.row _) (bools32 _)) rfl ⟨rfl, below_setRow hb (Nat.le_refl _) _⟩

theorem numN_drop (l : List Bool) (hl : l.length = 32) (j : Nat) (hj : j < 32) : numN (l.drop j) = numN (l.drop (j + 1)) * 2 + (if l.getD j false = true then 1 else 0) := by
  have h : j < l.length := by omega
  rw [List.drop_eq_getElem_cons h]
  simp only [numN, List.getD, List.getElem?_eq_getElem h, Option.getD_some]
theorem numN_drop_lt (l : List Bool) (hl : l.length = 32) (j : Nat) (hj : j ≤ 32) : numN (l.drop j) < 2 ^ (32 - j) := by
  have := numN_lt (l.drop j)
  rwa [List.length_drop, hl] at this

set_option maxHeartbeats 1000000 in
theorem number_calls (l : List Bool) (hl : l.length = 32) (w : World) :
    Calls Tryd.prog 16 #[.agg (boolsA l)] w fun e w' => e = .returned (.int .u32 (numN l : Int)) ∧ Below w.heap.size w w' := by
  go_enter Tryd.func16, Tryd.ntmps16
  have HL := Aside0.mk hl
  clear hl
  go_wp2_with fail
  go_loopw [3, 4] (fun v3 v4 wr => ∃ (j : Nat) (m : Int), j ≤ 32 ∧ Aside0 (m = (numN (l.drop j) : Nat)) ∧ v3 = .int .u32 m ∧ v4 = .int .i64 ((j : Int) - 1) ∧ Blk wr w.heap.size 41 (boolsA l) ∧ Below w.heap.size w wr) (fun _ v4 _ => (intOf v4 + 1).toNat)
  case atStart => exact ⟨32, 0, by omega, ⟨by rw [List.drop_of_length_le (by rw [HL.out]; omega)]; rfl⟩, rfl, rfl, Blk.newAt rfl, below_alloc (Below.refl _ _) _⟩
  case round =>
    obtain ⟨j, m, hj, hm, rfl, rfl, h1, hb⟩ := hrel
    cases j with
    | zero =>
      go_wp2_with fail
      go_ret
      exact ⟨congrArg (fun x => Ending.returned (.int .u32 x)) (by have := hm.out; simpa using this), hb⟩
    | succ j =>
      have hm1 : 0 ≤ m := by rw [hm.out]; omega
      have hm2 : m < 2147483648 := by
        have := numN_drop_lt l HL.out (j + 1) (by omega)
        have h3 : 2 ^ (32 - (j + 1)) ≤ 2 ^ 31 := Nat.pow_le_pow_right (by decide) (by omega)
        have h4 := hm.out
        omega
      have hc := (h1.cell j).trans (boolsA_get _ j (by rw [HL.out]; omega))
      have hn := numN_drop l HL.out j (by omega)
      have HN := Aside0.mk hn
      clear hn
      cases hbit : l.getD j false
      all_goals
        rw [hbit] at hc
        have HB := Aside0.mk hbit
        clear hbit
        go_wp2_with fail
        go_roundw
        case rel => exact ⟨j, _, by omega, ⟨by have h5 := hm.out; have h6 := HN.out; have h7 := HB.out; rw [h7] at h6; simp at h6; omega⟩, rfl, by go_num, h1, hb⟩
        case measure => simp [intOf]

set_option maxHeartbeats 1000000 in
theorem turned_calls (l : List Bool) (s : Nat) (hl : l.length = 32) (hs : s < 32) (w : World) :
    Calls Tryd.prog 21 #[.agg (boolsA l), .int .i64 (s : Int)] w fun e w' => e = .returned (.agg (boolsA (turnF l s))) ∧ Below w.heap.size w w' := by
  have HL := Aside0.mk hl
  clear hl
  go_enter Tryd.func21, Tryd.ntmps21
  go_wp2_with (first
    | (with_reducible refine wpList_alloc_agg rfl 41 _ rfl zeroW ?_)
    | (with_reducible refine wpList_build_none rfl 41 rfl _ buildW ?_)
    | (with_reducible refine wpList_store_blk rfl 41 _ _ rfl _ _ rfl rfl infoW (by simp [boolsA_size, no32_length]) (boolsA_one _) (Blk.newAt (by simp)) (by simp [boolsA_size, no32_length]) ?_; rw [setRow_top (by simp)]))
  go_loopw [8] (fun v8 wr => ∃ k : Nat, k ≤ 32 ∧ v8 = .int .i64 (k : Int) ∧ Blk wr w.heap.size 41 (boolsA l) ∧ Blk wr (w.heap.size + 1) 41 (boolsA no32) ∧ Blk wr (w.heap.size + 2) 41 (boolsA (fillK (fun i => bitAt l ((i + s) % 32)) (fun _ => false) 32 k)) ∧ Below w.heap.size w wr) (fun v8 _ => 32 - (intOf v8).toNat)
  case atStart => exact ⟨0, by omega, rfl, ((Blk.newAt rfl).alloc _).alloc _, (Blk.newAt (by simp)).alloc _, by rw [fillK_zero]; exact Blk.newAt (by simp), below_alloc (below_alloc (below_alloc (Below.refl _ _) _) _) _⟩
  case round =>
    obtain ⟨k, hk, rfl, h0, h1, h2, hb⟩ := hrel
    by_cases hlt : k < 32
    · have hc := (h2.cell k).trans (boolsA_get _ k (by rw [fillK_length]; exact hlt))
      have hf := h2.frozen k
      have hr := (h0.cell ((k + s) % 32)).trans (boolsA_get _ ((k + s) % 32) (by rw [HL.out]; omega))
      go_wp2_with fail
      go_roundw
      case rel => exact ⟨k + 1, by omega, by go_num, h0.far (by simp; try omega) _, h1.far (by simp; try omega) _, by have := h2.set k (.bool (bitAt l ((k + s) % 32))); rwa [boolsA_set, fillK_set _ _ _ _ hlt _ rfl] at this, hb.setCell (by simp; try omega) _⟩
      case measure => simp [intOf]; omega
    · obtain rfl : k = 32 := by omega
      rw [fillK_full] at h2
      go_wp2_with (first
        | (with_reducible refine wpList_load_blk rfl 41 _ rfl _ _ _ rfl Tryd.underlying41 rfl infoW h2 (by simp [boolsA_size]) ?_)
        | (with_reducible refine wpList_store_blk rfl 41 _ _ rfl _ _ rfl rfl infoW (by simp [boolsA_size]) (boolsA_one _) h1 (by simp [boolsA_size, no32_length]) ?_))
      exact bodyPost_ret (v := .agg (boolsA (turnF l s))) (results_blk Tryd.results21 _ _ _ _ _ rfl infoW Tryd.underlying41 rfl (h1.row _) (bools32 _)) rfl ⟨rfl, below_setRow hb (by simp; try omega) _⟩

theorem fillK_move (l : List Bool) (s k : Nat) (hk : k + s ≤ 32) (hk2 : ¬ k + s < 32) : fillK (fun i => if i + s < 32 then bitAt l (i + s) else false) (fun _ => false) 32 k = moveF l s := by
  unfold fillK moveF
  refine List.map_congr_left fun i hi => ?_
  by_cases h : i < k
  · rw [if_pos h]
  · rw [if_neg h, if_neg (by omega)]

set_option maxHeartbeats 1000000 in
theorem moved_calls (l : List Bool) (s : Nat) (hl : l.length = 32) (hs : s < 32) (w : World) :
    Calls Tryd.prog 22 #[.agg (boolsA l), .int .i64 (s : Int)] w fun e w' => e = .returned (.agg (boolsA (moveF l s))) ∧ Below w.heap.size w w' := by
  have HL := Aside0.mk hl
  clear hl
  go_enter Tryd.func22, Tryd.ntmps22
  go_wp2_with (first
    | (with_reducible refine wpList_alloc_agg rfl 41 _ rfl zeroW ?_)
    | (with_reducible refine wpList_build_none rfl 41 rfl _ buildW ?_)
    | (with_reducible refine wpList_store_blk rfl 41 _ _ rfl _ _ rfl rfl infoW (by simp [boolsA_size, no32_length]) (boolsA_one _) (Blk.newAt (by simp)) (by simp [boolsA_size, no32_length]) ?_; rw [setRow_top (by simp)]))
  go_loopw [6] (fun v6 wr => ∃ k : Nat, k + s ≤ 32 ∧ v6 = .int .i64 (k : Int) ∧ Blk wr w.heap.size 41 (boolsA l) ∧ Blk wr (w.heap.size + 1) 41 (boolsA no32) ∧ Blk wr (w.heap.size + 2) 41 (boolsA (fillK (fun i => if i + s < 32 then bitAt l (i + s) else false) (fun _ => false) 32 k)) ∧ Below w.heap.size w wr) (fun v6 _ => 32 - (intOf v6).toNat)
  case atStart => exact ⟨0, by omega, rfl, ((Blk.newAt rfl).alloc _).alloc _, (Blk.newAt (by simp)).alloc _, by rw [fillK_zero]; exact Blk.newAt (by simp), below_alloc (below_alloc (below_alloc (Below.refl _ _) _) _) _⟩
  case round =>
    obtain ⟨k, hk, rfl, h0, h1, h2, hb⟩ := hrel
    by_cases hlt : k + s < 32
    · have hc := (h2.cell k).trans (boolsA_get _ k (by rw [fillK_length]; omega))
      have hf := h2.frozen k
      have hr := (h0.cell (k + s)).trans (boolsA_get _ (k + s) (by rw [HL.out]; omega))
      go_wp2_with fail
      go_roundw
      case rel => exact ⟨k + 1, by omega, by go_num, h0.far (by simp; try omega) _, h1.far (by simp; try omega) _, by have := h2.set k (.bool (bitAt l (k + s))); rwa [boolsA_set, fillK_set _ _ _ _ (by omega) _ (by simp [hlt])] at this, hb.setCell (by simp; try omega) _⟩
      case measure => simp [intOf]; omega
    · rw [fillK_move l s k hk hlt] at h2
      go_wp2_with (first
        | (with_reducible refine wpList_load_blk rfl 41 _ rfl _ _ _ rfl Tryd.underlying41 rfl infoW h2 (by simp [boolsA_size, moveF]) ?_)
        | (with_reducible refine wpList_store_blk rfl 41 _ _ rfl _ _ rfl rfl infoW (by simp [boolsA_size, moveF]) (boolsA_one _) h1 (by simp [boolsA_size, no32_length]) ?_))
      exact bodyPost_ret (v := .agg (boolsA (moveF l s))) (results_blk Tryd.results22 _ _ _ _ _ rfl infoW Tryd.underlying41 rfl (h1.row _) (bools32 _)) rfl ⟨rfl, below_setRow hb (by simp; try omega) _⟩


set_option maxHeartbeats 1000000 in
theorem odd_calls (a b c : List Bool) (ha : a.length = 32) (hb : b.length = 32) (hc : c.length = 32) (w : World) :
    Calls Tryd.prog 17 #[.agg (boolsA a), .agg (boolsA b), .agg (boolsA c)] w fun e w' => e = .returned (.agg (boolsA (oddF a b c))) ∧ Below w.heap.size w w' := by
  have HA := Aside0.mk ha
  have HB := Aside0.mk hb
  have HC := Aside0.mk hc
  clear ha hb hc
  go_enter Tryd.func17, Tryd.ntmps17
  go_wp2_with (first
    | (with_reducible refine wpList_alloc_agg rfl 41 _ rfl zeroW ?_)
    | (with_reducible refine wpList_build_none rfl 41 rfl _ buildW ?_)
    | (with_reducible refine wpList_store_blk rfl 41 _ _ rfl _ _ rfl rfl infoW (by simp [boolsA_size, no32_length]) (boolsA_one _) (Blk.newAt (by simp)) (by simp [boolsA_size, no32_length]) ?_; rw [setRow_top (by simp)]))
  go_loopw [10] (fun v10 wr => ∃ k : Nat, k ≤ 32 ∧ v10 = .int .i64 (k : Int) ∧ Blk wr w.heap.size 41 (boolsA a) ∧ Blk wr (w.heap.size + 1) 41 (boolsA b) ∧ Blk wr (w.heap.size + 2) 41 (boolsA c) ∧ Blk wr (w.heap.size + 3) 41 (boolsA no32) ∧ Blk wr (w.heap.size + 4) 41 (boolsA (fillK (fun i => (bitAt a i != bitAt b i) != bitAt c i) (fun _ => false) 32 k)) ∧ Below w.heap.size w wr) (fun v10 _ => 32 - (intOf v10).toNat)
  case atStart => exact ⟨0, by omega, rfl, ((((Blk.newAt rfl).alloc _).alloc _).alloc _).alloc _, (((Blk.newAt (by simp)).alloc _).alloc _).alloc _, ((Blk.newAt (by simp)).alloc _).alloc _, (Blk.newAt (by simp)).alloc _, by rw [fillK_zero]; exact Blk.newAt (by simp), below_alloc (below_alloc (below_alloc (below_alloc (below_alloc (Below.refl _ _) _) _) _) _) _⟩
  case round =>
    obtain ⟨k, hk, rfl, h0, h1, h2, h3, h4, hb⟩ := hrel
    by_cases hlt : k < 32
    · have hc := (h4.cell k).trans (boolsA_get _ k (by rw [fillK_length]; omega))
      have hf := h4.frozen k
      have r0 := (h0.cell k).trans (boolsA_get _ k (by rw [HA.out]; omega))
      have r1 := (h1.cell k).trans (boolsA_get _ k (by rw [HB.out]; omega))
      have r2 := (h2.cell k).trans (boolsA_get _ k (by rw [HC.out]; omega))
      go_wp2_with fail
      go_still_tail 13, (by kernel_rfl)
      go_wp2_with fail
      go_roundw
      case rel => exact ⟨k + 1, by omega, by go_num, (h0.drewN _).far (by simp; try omega) _, (h1.drewN _).far (by simp; try omega) _, (h2.drewN _).far (by simp; try omega) _, (h3.drewN _).far (by simp; try omega) _, by have := (h4.drewN 1).set k (.bool ((bitAt a k != bitAt b k) != bitAt c k)); rwa [boolsA_set, fillK_set _ _ _ _ hlt _ rfl] at this, (pw_below_drewN hb _).setCell (by simp; try omega) _⟩
      case measure => simp [intOf]; omega
    · obtain rfl : k = 32 := by omega
      rw [fillK_full] at h4
      go_wp2_with (first
        | (with_reducible refine wpList_load_blk rfl 41 _ rfl _ _ _ rfl Tryd.underlying41 rfl infoW h4 (by simp [boolsA_size]) ?_)
        | (with_reducible refine wpList_store_blk rfl 41 _ _ rfl _ _ rfl rfl infoW (by simp [boolsA_size]) (boolsA_one _) h3 (by simp [boolsA_size, no32_length]) ?_))
      exact bodyPost_ret (v := .agg (boolsA (oddF a b c))) (results_blk Tryd.results17 _ _ _ _ _ rfl infoW Tryd.underlying41 rfl (h3.row _) (bools32 _)) rfl ⟨rfl, below_setRow hb (by simp; try omega) _⟩

theorem map_bitAt (c : List Bool) (hc : c.length = 32) : (List.range 32).map (fun i => bitAt c i) = c := by
  apply List.ext_getElem
  · simp [hc]
  · intro i h1 h2
    simp [bitAt, List.getD, h2]

set_option maxHeartbeats 1000000 in
theorem choice_calls (a b c : List Bool) (ha : a.length = 32) (hb : b.length = 32) (hc : c.length = 32) (w : World) :
    Calls Tryd.prog 24 #[.agg (boolsA a), .agg (boolsA b), .agg (boolsA c)] w fun e w' => e = .returned (.agg (boolsA (choiceF a b c))) ∧ Below w.heap.size w w' := by
  have HA := Aside0.mk ha
  have HB := Aside0.mk hb
  have HC := Aside0.mk hc
  clear ha hb hc
  go_enter Tryd.func24, Tryd.ntmps24
  go_wp2_with (first
    | (with_reducible refine wpList_alloc_agg rfl 41 _ rfl zeroW ?_)
    | (with_reducible refine wpList_load_blk rfl 41 _ rfl _ _ _ rfl Tryd.underlying41 rfl infoW ((Blk.newAt (by simp)).alloc _) (by rw [boolsA_size, HC.out]) ?_)
    | (with_reducible refine wpList_store_blk rfl 41 _ _ rfl _ _ rfl rfl infoW (by rw [boolsA_size, HC.out]) (boolsA_one _) (Blk.newAt (by simp)) (by simp [boolsA_size, no32_length]) ?_; rw [setRow_top (by simp)]))
  go_loopw [10] (fun v10 wr => ∃ k : Nat, k ≤ 32 ∧ v10 = .int .i64 (k : Int) ∧ Blk wr w.heap.size 41 (boolsA a) ∧ Blk wr (w.heap.size + 1) 41 (boolsA b) ∧ Blk wr (w.heap.size + 2) 41 (boolsA c) ∧ Blk wr (w.heap.size + 3) 41 (boolsA no32) ∧ Blk wr (w.heap.size + 4) 41 (boolsA (fillK (fun i => if bitAt a i then bitAt b i else bitAt c i) (fun i => bitAt c i) 32 k)) ∧ Below w.heap.size w wr) (fun v10 _ => 32 - (intOf v10).toNat)
  case atStart => exact ⟨0, by omega, rfl, ((((Blk.newAt rfl).alloc _).alloc _).alloc _).alloc _, (((Blk.newAt (by simp)).alloc _).alloc _).alloc _, ((Blk.newAt (by simp)).alloc _).alloc _, (Blk.newAt (by simp)).alloc _, by rw [fillK_zero, map_bitAt c HC.out]; exact Blk.newAt (by simp), below_alloc (below_alloc (below_alloc (below_alloc (below_alloc (Below.refl _ _) _) _) _) _) _⟩
  case round =>
    obtain ⟨k, hk, rfl, h0, h1, h2, h3, h4, hb⟩ := hrel
    by_cases hlt : k < 32
    · have hc := (h4.cell k).trans (boolsA_get _ k (by rw [fillK_length]; omega))
      have hf := h4.frozen k
      have r0 := (h0.cell k).trans (boolsA_get _ k (by rw [HA.out]; omega))
      have r1 := (h1.cell k).trans (boolsA_get _ k (by rw [HB.out]; omega))
      have r2 := (h2.cell k).trans (boolsA_get _ k (by rw [HC.out]; omega))
      cases e0 : bitAt a k
      all_goals
        unfold bitAt at e0
        rw [e0] at r0
        have E0 := Aside0.mk e0
        clear e0
        go_wp2_with fail
        go_roundw
        case rel =>
          first
            | exact ⟨k + 1, by omega, by go_num, h0.far (by simp; try omega) _, h1.far (by simp; try omega) _, h2.far (by simp; try omega) _, h3.far (by simp; try omega) _, by have := h4.set k (.bool (bitAt b k)); rwa [boolsA_set, fillK_set _ _ _ _ hlt _ (by have e := E0.out; simp only [bitAt, e, Bool.false_eq_true, if_false, if_true])] at this, hb.setCell (by simp; try omega) _⟩
            | exact ⟨k + 1, by omega, by go_num, h0, h1, h2, h3, by rwa [fillK_same _ _ _ _ hlt (by have e := E0.out; simp only [bitAt, e, Bool.false_eq_true, if_false, if_true])] at h4, hb⟩
        case measure => simp [intOf]; omega
    · obtain rfl : k = 32 := by omega
      rw [fillK_full] at h4
      go_wp2_with (first
        | (with_reducible refine wpList_load_blk rfl 41 _ rfl _ _ _ rfl Tryd.underlying41 rfl infoW h4 (by simp [boolsA_size]) ?_)
        | (with_reducible refine wpList_store_blk rfl 41 _ _ rfl _ _ rfl rfl infoW (by simp [boolsA_size]) (boolsA_one _) h3 (by simp [boolsA_size, no32_length]) ?_))
      exact bodyPost_ret (v := .agg (boolsA (choiceF a b c))) (results_blk Tryd.results24 _ _ _ _ _ rfl infoW Tryd.underlying41 rfl (h3.row _) (bools32 _)) rfl ⟨rfl, below_setRow hb (by simp; try omega) _⟩

set_option maxHeartbeats 1000000 in
theorem most_calls (a b c : List Bool) (ha : a.length = 32) (hb : b.length = 32) (hc : c.length = 32) (w : World) :
    Calls Tryd.prog 25 #[.agg (boolsA a), .agg (boolsA b), .agg (boolsA c)] w fun e w' => e = .returned (.agg (boolsA (mostF a b c))) ∧ Below w.heap.size w w' := by
  have HA := Aside0.mk ha
  have HB := Aside0.mk hb
  have HC := Aside0.mk hc
  clear ha hb hc
  go_enter Tryd.func25, Tryd.ntmps25
  go_wp2_with (first
    | (with_reducible refine wpList_alloc_agg rfl 41 _ rfl zeroW ?_)
    | (with_reducible refine wpList_build_none rfl 41 rfl _ buildW ?_)
    | (with_reducible refine wpList_store_blk rfl 41 _ _ rfl _ _ rfl rfl infoW (by simp [boolsA_size, no32_length]) (boolsA_one _) (Blk.newAt (by simp)) (by simp [boolsA_size, no32_length]) ?_; rw [setRow_top (by simp)]))
  go_loopw [10] (fun v10 wr => ∃ k : Nat, k ≤ 32 ∧ v10 = .int .i64 (k : Int) ∧ Blk wr w.heap.size 41 (boolsA a) ∧ Blk wr (w.heap.size + 1) 41 (boolsA b) ∧ Blk wr (w.heap.size + 2) 41 (boolsA c) ∧ Blk wr (w.heap.size + 3) 41 (boolsA no32) ∧ Blk wr (w.heap.size + 4) 41 (boolsA (fillK (fun i => bitAt a i && bitAt b i || bitAt a i && bitAt c i || bitAt b i && bitAt c i) (fun _ => false) 32 k)) ∧ Below w.heap.size w wr) (fun v10 _ => 32 - (intOf v10).toNat)
  case atStart => exact ⟨0, by omega, rfl, ((((Blk.newAt rfl).alloc _).alloc _).alloc _).alloc _, (((Blk.newAt (by simp)).alloc _).alloc _).alloc _, ((Blk.newAt (by simp)).alloc _).alloc _, (Blk.newAt (by simp)).alloc _, by rw [fillK_zero]; exact Blk.newAt (by simp), below_alloc (below_alloc (below_alloc (below_alloc (below_alloc (Below.refl _ _) _) _) _) _) _⟩
  case round =>
    obtain ⟨k, hk, rfl, h0, h1, h2, h3, h4, hb⟩ := hrel
    by_cases hlt : k < 32
    · have hc := (h4.cell k).trans (boolsA_get _ k (by rw [fillK_length]; omega))
      have hf := h4.frozen k
      have r0 := (h0.cell k).trans (boolsA_get _ k (by rw [HA.out]; omega))
      have r1 := (h1.cell k).trans (boolsA_get _ k (by rw [HB.out]; omega))
      have r2 := (h2.cell k).trans (boolsA_get _ k (by rw [HC.out]; omega))
      cases e0 : bitAt a k <;> cases e1 : bitAt b k <;> cases e2 : bitAt c k
      all_goals
        unfold bitAt at e0 e1 e2
        rw [e0] at r0
        rw [e1] at r1
        rw [e2] at r2
        have E0 := Aside0.mk e0
        have E1 := Aside0.mk e1
        have E2 := Aside0.mk e2
        clear e0 e1 e2
        go_wp2_with fail
        go_roundw
        case rel =>
          first
            | exact ⟨k + 1, by omega, by go_num, h0.far (by simp; try omega) _, h1.far (by simp; try omega) _, h2.far (by simp; try omega) _, h3.far (by simp; try omega) _, by have := h4.set k (.bool true); rwa [boolsA_set, fillK_set _ _ _ _ hlt _ (by have x0 := E0.out; have x1 := E1.out; have x2 := E2.out; simp only [bitAt, x0, x1, x2]; rfl)] at this, hb.setCell (by simp; try omega) _⟩
            | exact ⟨k + 1, by omega, by go_num, h0.far (by simp; try omega) _, h1.far (by simp; try omega) _, h2.far (by simp; try omega) _, h3.far (by simp; try omega) _, by have := h4.set k (.bool false); rwa [boolsA_set, fillK_set _ _ _ _ hlt _ (by have x0 := E0.out; have x1 := E1.out; have x2 := E2.out; simp only [bitAt, x0, x1, x2]; rfl)] at this, hb.setCell (by simp; try omega) _⟩
            | exact ⟨k + 1, by omega, by go_num, h0.far (by simp; try omega) _, h1.far (by simp; try omega) _, h2.far (by simp; try omega) _, h3.far (by simp; try omega) _, by have := (h4).set k (.bool false); rwa [boolsA_set, fillK_set _ _ _ _ hlt _ (by have x0 := E0.out; have x1 := E1.out; have x2 := E2.out; simp only [bitAt, x0, x1, x2]; rfl)] at this, hb.setCell (by simp; try omega) _⟩
        case measure => simp [intOf]; omega
    · obtain rfl : k = 32 := by omega
      rw [fillK_full] at h4
      go_wp2_with (first
        | (with_reducible refine wpList_load_blk rfl 41 _ rfl _ _ _ rfl Tryd.underlying41 rfl infoW h4 (by simp [boolsA_size]) ?_)
        | (with_reducible refine wpList_store_blk rfl 41 _ _ rfl _ _ rfl rfl infoW (by simp [boolsA_size]) (boolsA_one _) h3 (by simp [boolsA_size, no32_length]) ?_))
      exact bodyPost_ret (v := .agg (boolsA (mostF a b c))) (results_blk Tryd.results25 _ _ _ _ _ rfl infoW Tryd.underlying41 rfl (h3.row _) (bools32 _)) rfl ⟨rfl, below_setRow hb (by simp; try omega) _⟩

/-! ### as a caller meets them -/
theorem ofN_length (n : Nat) : (ofN n).length = 32 := by simp [ofN]
theorem turnF_length (l : List Bool) (k : Nat) : (turnF l k).length = 32 := by simp [turnF]
theorem moveF_length (l : List Bool) (k : Nat) : (moveF l k).length = 32 := by simp [moveF]
theorem oddF_length (a b c : List Bool) : (oddF a b c).length = 32 := by simp [oddF]
theorem choiceF_length (a b c : List Bool) : (choiceF a b c).length = 32 := by simp [choiceF]
theorem mostF_length (a b c : List Bool) : (mostF a b c).length = 32 := by simp [mostF]
theorem turned_at (l : List Bool) (s : Int) (hl : l.length = 32) (h0 : 0 ≤ s) (hs : s < 32) (w : World) :
    Calls Tryd.prog 21 #[.agg (boolsA l), .int .i64 s] w fun e w' => e = .returned (.agg (boolsA (turnF l s.toNat))) ∧ Below w.heap.size w w' := by
  obtain ⟨n, rfl⟩ := Int.eq_ofNat_of_zero_le h0
  exact turned_calls l n hl (by omega) w
theorem moved_at (l : List Bool) (s : Int) (hl : l.length = 32) (h0 : 0 ≤ s) (hs : s < 32) (w : World) :
    Calls Tryd.prog 22 #[.agg (boolsA l), .int .i64 s] w fun e w' => e = .returned (.agg (boolsA (moveF l s.toNat))) ∧ Below w.heap.size w w' := by
  obtain ⟨n, rfl⟩ := Int.eq_ofNat_of_zero_le h0
  exact moved_calls l n hl (by omega) w
end Go.Proofs.YtlhapohpedihjaaDoor.Sha
