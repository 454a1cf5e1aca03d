/- The program's words. -/
import Derived.Test.YtlhapohpedihjaaDoorShaMix
namespace Go.Proofs.YtlhapohpedihjaaDoor.Sha
open Go.RowKit Go.Proofs.YtlhapohpedihjaaDoorW.PrintWords Go.Proofs.YtlhapohpedihjaaDoorW.PrintLast Go.Proofs.YtlhapohpedihjaaDoorW.PrintMore Go.Proofs.YtlhapohpedihjaaDoor.Arr Go.Proofs.YtlhapohpedihjaaDoor.PSealSeals
set_option linter.unusedVariables false
set_option linter.unusedSimpArgs false

set_option maxRecDepth 100000 in
set_option maxHeartbeats 4000000 in
theorem words_calls (A : Addr) (cap : Nat) (bs : List Int) (hl : bs.length = 64) (hb8 : Bytes bs) (hcap : 64 ≤ cap) (w : World) (hr : Rdb w A bs) :
    Calls Tryd.prog 19 #[.slice (some A) 64 cap] w fun e w' => e = .returned (.agg (numsA .u32 (wordsI (byt bs) 64))) ∧ Below w.heap.size w w' := by
  have HL := Aside0.mk hl
  have H8 := Aside0.mk (byt_lt bs hb8)
  have HI := Aside0.mk (byt_int bs hb8)
  have HR := Aside0.mk hr
  clear hl hb8 hr
  go_enter Tryd.func19, Tryd.ntmps19
  go_wp2_with (with_reducible refine wpList_alloc_agg rfl 44 _ rfl zero64 ?_)
  go_loopw [6] (fun v6 wr => ∃ i : Nat, i ≤ 16 ∧ v6 = .int .i64 (i : Int) ∧ Blk wr w.heap.size 44 (numsA .u32 (zeros 64)) ∧ Blk wr (w.heap.size + 1) 44 (numsA .u32 (wordsI (byt bs) i)) ∧ Below w.heap.size w wr) (fun v6 _ => 16 - (intOf v6).toNat)
  case atStart => exact ⟨0, by omega, rfl, (Blk.newAt rfl).alloc _, by unfold wordsI; rw [fillK_zero]; exact Blk.newAt (by simp), below_alloc (below_alloc (Below.refl _ _) _) _⟩
  case round =>
    obtain ⟨i, hi, rfl, h1, h2, hb⟩ := hrel
    by_cases hlt : i < 16
    · have t16 : decide ((i : Int) < 16) = true := by simp; omega
      have cw := (h2.cell i).trans (numsA_get _ _ i (by rw [wordsI_length]; omega))
      have fw := h2.frozen i
      have c0 := HR.out.below hb (4 * i) (by rw [HL.out]; omega)
      have c1 := HR.out.below hb (4 * i + 1) (by rw [HL.out]; omega)
      have c2 := HR.out.below hb (4 * i + 2) (by rw [HL.out]; omega)
      have c3 := HR.out.below hb (4 * i + 3) (by rw [HL.out]; omega)
      rw [HI.out _ (by rw [HL.out]; omega)] at c0 c1 c2 c3
      have b0 := H8.out (4 * i)
      have b1 := H8.out (4 * i + 1)
      have b2 := H8.out (4 * i + 2)
      have b3 := H8.out (4 * i + 3)
      have hW := W_small (byt bs) i hlt
      unfold beN at hW
      generalize byt bs (4 * i) = q0 at *
      generalize byt bs (4 * i + 1) = q1 at *
      generalize byt bs (4 * i + 2) = q2 at *
      generalize byt bs (4 * i + 3) = q3 at *
      have HW := Aside0.mk hW
      clear hW
      go_wp2_with fail
      have s1 : IntKind.i64.wrap (4 * (i : Int)) = 4 * (i : Int) := IntWalk.i64_in _ (by omega)
      have s2 : IntKind.i64.wrap (4 * (i : Int) + 1) = 4 * (i : Int) + 1 := IntWalk.i64_in _ (by omega)
      have s3 : IntKind.i64.wrap (4 * (i : Int) + 2) = 4 * (i : Int) + 2 := IntWalk.i64_in _ (by omega)
      have s4 : IntKind.i64.wrap (4 * (i : Int) + 3) = 4 * (i : Int) + 3 := IntWalk.i64_in _ (by omega)
      have p1 : 0 ≤ 4 * (i : Int) := by omega
      have p2 : 0 ≤ 4 * (i : Int) + 1 := by omega
      have p3 : 0 ≤ 4 * (i : Int) + 2 := by omega
      have p4 : 0 ≤ 4 * (i : Int) + 3 := by omega
      have r1 : 4 * (i : Int) < 64 := by omega
      have r2 : 4 * (i : Int) + 1 < 64 := by omega
      have r3 : 4 * (i : Int) + 2 < 64 := by omega
      have r4 : 4 * (i : Int) + 3 < 64 := by omega
      have u0 : (i : Int) < 64 := by omega
      have u1 : (4 * (i : Int)).toNat = 4 * i := by omega
      have u2 : (4 * (i : Int) + 1).toNat = 4 * i + 1 := by omega
      have u3 : (4 * (i : Int) + 2).toNat = 4 * i + 2 := by omega
      have u4 : (4 * (i : Int) + 3).toNat = 4 * i + 3 := by omega
      have v0 : IntKind.u32.wrap (q0 : Int) = q0 := IntWalk.u32_in _ (by omega)
      have v1 : IntKind.u32.wrap (q1 : Int) = q1 := IntWalk.u32_in _ (by omega)
      have v2 : IntKind.u32.wrap (q2 : Int) = q2 := IntWalk.u32_in _ (by omega)
      have v3 : IntKind.u32.wrap (q3 : Int) = q3 := IntWalk.u32_in _ (by omega)
      have v4 : IntKind.u32.wrap ((q0 : Int) * 16777216) = (q0 : Int) * 16777216 := IntWalk.u32_in _ (by omega)
      have v5 : IntKind.u32.wrap ((q1 : Int) * 65536) = (q1 : Int) * 65536 := IntWalk.u32_in _ (by omega)
      have v6 : IntKind.u32.wrap ((q2 : Int) * 256) = (q2 : Int) * 256 := IntWalk.u32_in _ (by omega)
      obtain ⟨wo, rfl⟩ : ∃ wo : World, wo = wr := ⟨_, rfl⟩
      refine Qt.wp_region_tail (fun w' => Below wo.heap.size wo w') 35 (by kernel_rfl) (by kernel_rfl) (Below.refl _ _).drew ?_
      simp only [List.take_succ_cons, List.take_zero, List.drop_succ_cons, List.drop_zero]
      repeat (refine Qt.q_val' rfl ?_; apply Exists.intro; refine ⟨?_, ?_⟩; (focus (intro w' hw'; have f0 := pw_cell_below hw' c0; have f1 := pw_cell_below hw' c1; have f2 := pw_cell_below hw' c2; have f3 := pw_cell_below hw' c3; simp [Addr.add] at f1 f2 f3; go_simp; (first | rfl | done))); intro K hK; go_simp; refine hK _ ?_; clear hK K)
      (refine wpQuiet_nil ?_; intro w' hw')
      rw [be_or q0 q1 q2 q3 b0 b1 b2 b3, ← HW.out]
      have g1 := h1.below hw'
      have g2 := h2.below hw'
      have gb := hb.trans (hw'.mono hb.size)
      have cw' := pw_cell_below hw' cw
      have fw' := g2.frozen i
      clear c0 c1 c2 c3 s1 s2 s3 s4 u1 u2 u3 u4 v0 v1 v2 v3 v4 v5 v6 cw fw
      go_wp2_with fail
      go_roundw
      case rel => exact ⟨i + 1, by omega, by go_num, g1.far (by simp; try omega) _, by
        have := g2.set i (.int .u32 (W (byt bs) i : Int))
        rwa [numsA_set, wordsI_set _ _ (by omega) _ rfl] at this, gb.setCell (by simp; try omega) _⟩
      case measure => simp [intOf]; omega
    · have t16 : decide ((i : Int) < 16) = false := by simp; omega
      have ei : i = 16 := by omega
      rw [ei] at h2
      clear ei
      go_wp2_with fail
      go_loopw [5] (fun v5 wr => ∃ j : Nat, j + 16 ≤ 64 ∧ v5 = .int .i64 ((j : Int) + 16) ∧ Blk wr w.heap.size 44 (numsA .u32 (zeros 64)) ∧ Blk wr (w.heap.size + 1) 44 (numsA .u32 (wordsI (byt bs) (j + 16))) ∧ Below w.heap.size w wr) (fun v5 _ => 64 - (intOf v5).toNat)
      case atStart => exact ⟨0, by omega, rfl, h1, h2, hb⟩
      case round =>
        clear h1 h2 hb
        obtain ⟨j, hj, rfl, h1, h2, hb⟩ := hrel
        by_cases hlt' : j + 16 < 64
        · have t64 : decide ((j : Int) + 16 < 64) = true := by simp; omega
          have e16 := (h2.cell j).trans (numsA_get _ _ _ (by rw [wordsI_length]; omega))
          have e15 := (h2.cell (j + 1)).trans (numsA_get _ _ _ (by rw [wordsI_length]; omega))
          have e7 := (h2.cell (j + 9)).trans (numsA_get _ _ _ (by rw [wordsI_length]; omega))
          have e2 := (h2.cell (j + 14)).trans (numsA_get _ _ _ (by rw [wordsI_length]; omega))
          rw [wordsI_done _ _ _ (by omega) (by omega)] at e16 e15 e7 e2
          have W16 := W_lt (byt bs) H8.out j
          have W15 := W_lt (byt bs) H8.out (j + 1)
          have W7 := W_lt (byt bs) H8.out (j + 9)
          have W2 := W_lt (byt bs) H8.out (j + 14)
          have hW := W_great (byt bs) (j + 16) (by omega)
          rw [show j + 16 - 16 = j by omega, show j + 16 - 15 = j + 1 by omega, show j + 16 - 7 = j + 9 by omega, show j + 16 - 2 = j + 14 by omega] at hW
          generalize W (byt bs) j = x at *
          generalize W (byt bs) (j + 1) = p at *
          generalize W (byt bs) (j + 9) = y at *
          generalize W (byt bs) (j + 14) = q at *
          have HW := Aside0.mk hW
          clear hW
          go_wp2_with fail
          have s1 : IntKind.i64.wrap ((j : Int) + 16 - 15) = (j : Int) + 1 := by rw [IntWalk.i64_in _ (by omega)]; omega
          have s2 : IntKind.i64.wrap ((j : Int) + 16 - 2) = (j : Int) + 14 := by rw [IntWalk.i64_in _ (by omega)]; omega
          have s3 : IntKind.i64.wrap ((j : Int) + 16 - 16) = (j : Int) := by rw [IntWalk.i64_in _ (by omega)]; omega
          have s4 : IntKind.i64.wrap ((j : Int) + 16 - 7) = (j : Int) + 9 := by rw [IntWalk.i64_in _ (by omega)]; omega
          have s3' : IntKind.i64.wrap (j : Int) = (j : Int) := by rw [IntWalk.i64_in _ (by omega)]
          have u1 : ((j : Int) + 1).toNat = j + 1 := by omega
          have u2 : ((j : Int) + 14).toNat = j + 14 := by omega
          have u3 : ((j : Int) + 9).toNat = j + 9 := by omega
          have u4 : ((j : Int) + 16).toNat = j + 16 := by omega
          have p1 : 0 ≤ (j : Int) + 1 := by omega
          have p2 : 0 ≤ (j : Int) + 14 := by omega
          have p3 : 0 ≤ (j : Int) + 9 := by omega
          have p4 : 0 ≤ (j : Int) + 16 := by omega
          have r0 : (j : Int) < 64 := by omega
          have r1 : (j : Int) + 1 < 64 := by omega
          have r2 : (j : Int) + 14 < 64 := by omega
          have r3 : (j : Int) + 9 < 64 := by omega
          have r4 : (j : Int) + 16 < 64 := by omega
          obtain ⟨wo, rfl⟩ : ∃ wo : World, wo = wr := ⟨_, rfl⟩
          refine Qt.wp_region_tail (fun w' => Below wo.heap.size wo w') 23 (by kernel_rfl) (by kernel_rfl) (Below.refl _ _).drew ?_
          simp only [List.take_succ_cons, List.take_zero, List.drop_succ_cons, List.drop_zero]
          repeat (first
            | (refine Qt.q_val' rfl ?_; apply Exists.intro; refine ⟨?_, ?_⟩; (focus (intro w' hw'; have f0 := pw_cell_below hw' e16; have f1 := pw_cell_below hw' e15; have f2 := pw_cell_below hw' e7; have f3 := pw_cell_below hw' e2; go_simp; (first | rfl | done))); intro K hK; go_simp; refine hK _ ?_; clear hK K)
            | (refine Qt.q_call' rfl ?_; apply Exists.intro; apply Exists.intro; refine ⟨?_, ?_⟩; (focus (intro w'; go_simp; (first | rfl | exact ⟨rfl, rfl⟩))); apply Exists.intro; refine ⟨?_, ?_⟩; (focus (intro w' hw'; first | with_reducible exact Qt.under hw' (mixed_at _ _ _ _ _ _ _ _ mix1.1 mix1.2.1 mix1.2.2 W15 (by decide) _) | with_reducible exact Qt.under hw' (mixed_at _ _ _ _ _ _ _ _ mix2.1 mix2.2.1 mix2.2.2 W2 (by decide) _))); intro K hK; go_simp; refine hK _ ?_; clear hK K))
          (refine wpQuiet_nil ?_; intro w' hw')
          have g1 := h1.below hw'
          have g2 := h2.below hw'
          have gb := hb.trans (hw'.mono hb.size)
          have cw' := (g2.cell (j + 16)).trans (numsA_get _ _ (j + 16) (by rw [wordsI_length]; omega))
          have fw' := g2.frozen (j + 16)
          clear e16 e15 e7 e2
          go_wp2_with fail
          go_roundw
          case rel => exact ⟨j + 1, by omega, by go_num, g1.far (by simp; try omega) _, by
            have hs : ((x : Int) + (mixN p 7 18 3 true : Nat) + y + (mixN q 17 19 10 true : Nat)) % 4294967296 = (W (byt bs) (j + 16) : Int) := by
              have := HW.out
              omega
            rw [hs]
            have := g2.set (j + 16) (.int .u32 (W (byt bs) (j + 16) : Int))
            rw [numsA_set, wordsI_set _ _ (by omega) _ rfl] at this
            rw [show j + 1 + 16 = j + 16 + 1 by omega]
            exact this, gb.setCell (by simp; try omega) _⟩
          case measure => simp [intOf]; omega
        · have t64 : decide ((j : Int) + 16 < 64) = false := by simp; omega
          have ej : j + 16 = 64 := by omega
          rw [ej] at h2
          clear ej
          go_wp2_with (first
            | (with_reducible refine wpList_load_blk rfl 44 _ rfl _ _ _ rfl Tryd.underlying44 rfl info64 h2 (by rw [numsA_size, wordsI_length]) ?_)
            | (with_reducible refine wpList_store_blk rfl 44 _ _ rfl _ _ rfl rfl info64 (by rw [numsA_size, wordsI_length]) (numsA_one _ _) h1 (by rw [numsA_size, zeros_length]) ?_))
          exact bodyPost_ret (v := .agg (numsA .u32 (wordsI (byt bs) 64))) (results_blk Tryd.results19 _ _ _ _ _ rfl info64 Tryd.underlying44 rfl (h1.row _) (by rw [numsA_size, wordsI_length])) rfl ⟨rfl, below_setRow hb (by simp) _⟩
end Go.Proofs.YtlhapohpedihjaaDoor.Sha
