/- The program's take. -/
import Derived.Test.YtlhapohpedihjaaDoorShaWords
namespace Go.Proofs.YtlhapohpedihjaaDoor.Sha
open Go.RowKit Go.Proofs.YtlhapohpedihjaaDoorW.PrintWords Go.Proofs.YtlhapohpedihjaaDoorW.PrintLast Go.Proofs.YtlhapohpedihjaaDoorW.PrintMore Go.Proofs.YtlhapohpedihjaaDoor.Arr Go.Proofs.YtlhapohpedihjaaDoor.PSealSeals
set_option linter.unusedVariables false
set_option linter.unusedSimpArgs false

theorem infoS : (Tryd.prog.info? 34).map (·.size) = some 8 := by kernel_rfl
theorem infoU : (Tryd.prog.info? 32).map (·.size) = some 1 := by kernel_rfl
theorem zeroS : ∀ w, (zeroValue 34).run Tryd.prog w = .ok (.agg (numsA .u32 (zeros 8))) w := fun w => by kernel_rfl

theorem xor_ones (e : Nat) (he : e < 4294967296) : 4294967295 ^^^ e = 4294967295 - e := by
  apply Nat.eq_of_testBit_eq
  intro i
  by_cases hi : i < 32
  · rw [not_bit e i he hi, Nat.testBit_xor, show 4294967295 = 2 ^ 32 - 1 from rfl, Nat.testBit_two_pow_sub_one]
    simp [hi]
  · have h2 : 2 ^ 32 ≤ 2 ^ i := Nat.pow_le_pow_right (by decide) (by omega)
    have l1 : 4294967295 ^^^ e < 2 ^ 32 := Nat.xor_lt_two_pow (by decide) (by simpa using he)
    have l2 : 4294967295 - e < 2 ^ 32 := by omega
    rw [Nat.testBit_lt_two_pow (by omega), Nat.testBit_lt_two_pow (by omega)]
theorem ch_bits (e f g : Nat) (he : e < 4294967296) (hf : f < 4294967296) (hg : g < 4294967296) :
    Go.bits .xor .u32 (Go.bits .and .u32 (e : Int) (f : Int)) (Go.bits .and .u32 (Go.bits .xor .u32 IntKind.u32.max (e : Int)) (g : Int)) = (choiceN e f g : Int) := by
  have l1 : e &&& f < 4294967296 := Nat.lt_of_le_of_lt Nat.and_le_left he
  have l2 : (4294967295 - e) &&& g < 4294967296 := Nat.lt_of_le_of_lt Nat.and_le_right hg
  rw [and_bits _ _ he hf, show (IntKind.u32.max : Int) = ((4294967295 : Nat) : Int) from rfl, xor_bits _ _ (by decide) he, xor_ones e he, and_bits _ _ (by omega) hg, xor_bits _ _ l1 l2]
  rfl
theorem mo_bits (a b c : Nat) (ha : a < 4294967296) (hb : b < 4294967296) (hc : c < 4294967296) :
    Go.bits .xor .u32 (Go.bits .xor .u32 (Go.bits .and .u32 (a : Int) (b : Int)) (Go.bits .and .u32 (a : Int) (c : Int))) (Go.bits .and .u32 (b : Int) (c : Int)) = (mostN a b c : Int) := by
  have l1 : a &&& b < 4294967296 := Nat.lt_of_le_of_lt Nat.and_le_left ha
  have l2 : a &&& c < 4294967296 := Nat.lt_of_le_of_lt Nat.and_le_left ha
  have l3 : b &&& c < 4294967296 := Nat.lt_of_le_of_lt Nat.and_le_left hb
  have l4 : (a &&& b) ^^^ (a &&& c) < 2 ^ 32 := Nat.xor_lt_two_pow (by simpa using l1) (by simpa using l2)
  rw [and_bits _ _ ha hb, and_bits _ _ ha hc, and_bits _ _ hb hc, xor_bits _ _ l1 l2, xor_bits _ _ (by simpa using l4) l3]
  rfl

set_option maxRecDepth 100000 in
set_option maxHeartbeats 4000000 in
theorem take_calls (s : S8) (hs : s.ok) (A : Addr) (cap : Nat) (bs : List Int) (hl : bs.length = 64) (hb8 : Bytes bs) (hcap : 64 ≤ cap) (w : World) (hr : Rdb w A bs) (hg : 2 ≤ w.heap.size) (hk : Cells w 1 (numsA .u32 keysI)) :
    Calls Tryd.prog 14 #[.agg (numsA .u32 s.list), .slice (some A) 64 cap] w fun e w' => e = .returned (.agg (numsA .u32 (takeN s (byt bs)).list)) ∧ Below w.heap.size w w' := by
  have HL := Aside0.mk hl
  have H8 := Aside0.mk (byt_lt bs hb8)
  have HB := Aside0.mk hb8
  have HS := Aside0.mk hs
  have HR := Aside0.mk hr
  have HK := Aside0.mk hk
  clear hl hb8 hs hr hk
  go_enter Tryd.func14, Tryd.ntmps14
  go_wp2_with (first
    | (with_reducible refine wpList_alloc_agg rfl 34 _ rfl zeroS ?_)
    | (with_reducible refine wpList_load_blk rfl 34 _ rfl _ _ _ rfl Tryd.underlying34 rfl infoS ((Blk.newAt (T := 34) (w := w) (cs := numsA .u32 s.list) rfl).alloc _) (by rw [numsA_size, S8.list_length]) ?_)
    | (with_reducible refine wpList_store_blk rfl 34 _ _ rfl _ _ rfl rfl infoS (by rw [numsA_size, S8.list_length]) (numsA_one _ _) (Blk.newAt (by simp)) (by rw [numsA_size, zeros_length]) ?_; rw [setRow_top (by simp)])
    | (go_at_call 19; refine (words_calls _ _ bs HL.out HB.out hcap _ (HR.out.below (below_alloc (below_alloc (below_alloc (Below.refl _ _) _) _) _))).mono ?_; rintro e w1 ⟨rfl, hb1⟩))
  have z0 : Blk w1 w.heap.size 34 (numsA .u32 s.list) := (((Blk.newAt rfl).alloc _).alloc _).below hb1
  have z1 : Blk w1 (w.heap.size + 1) 34 (numsA .u32 (zeros 8)) := ((Blk.newAt (by simp)).alloc _).below hb1
  have z2 : Blk w1 (w.heap.size + 1 + 1) 34 (numsA .u32 s.list) := (Blk.newAt (by simp)).below hb1
  have zb : Below w.heap.size w w1 := (below_alloc (below_alloc (below_alloc (Below.refl _ _) _) _) _).trans (hb1.mono (by simp; omega))
  clear hb1
  go_loopw [16] (fun v16 wr => ∃ i : Nat, i ≤ 64 ∧ v16 = .int .i64 (i : Int) ∧ Blk wr w.heap.size 34 (numsA .u32 s.list) ∧ Blk wr (w.heap.size + 1) 34 (numsA .u32 (zeros 8)) ∧ Blk wr (w.heap.size + 1 + 1) 34 (numsA .u32 (roundsN (byt bs) s i).list) ∧ Below w.heap.size w wr) (fun v16 _ => 64 - (intOf v16).toNat)
  case atStart => exact ⟨0, by omega, rfl, z0, z1, z2, zb⟩
  case round =>
    clear z0 z1 z2 zb
    obtain ⟨i, hi', rfl, h0, h1, h2, hb⟩ := hrel
    obtain ⟨wo, rfl⟩ : ∃ wo : World, wo = wr := ⟨_, rfl⟩
    by_cases hlt' : i < 64
    · have t64 : decide ((i : Int) < 64) = true := by simp; omega
      have ok := roundsN_ok (byt bs) s HS.out i
      have nx : roundsN (byt bs) s (i + 1) = stepN (roundsN (byt bs) s i) (keyN i) (W (byt bs) i) := rfl
      generalize hst : roundsN (byt bs) s i = st at *
      obtain ⟨a, b, c, d, e, f, g, h8⟩ := st
      obtain ⟨la, lb, lc, ld, le, lf, lg, lh⟩ := ok
      simp only at la lb lc ld le lf lg lh
      have c0 : wo.cell? ⟨w.heap.size + 1 + 1, 0, none⟩ = some (.int .u32 (a : Int)) := h2.cell 0
      have c1 : wo.cell? ⟨w.heap.size + 1 + 1, 1, none⟩ = some (.int .u32 (b : Int)) := h2.cell 1
      have c2 : wo.cell? ⟨w.heap.size + 1 + 1, 2, none⟩ = some (.int .u32 (c : Int)) := h2.cell 2
      have c4 : wo.cell? ⟨w.heap.size + 1 + 1, 4, none⟩ = some (.int .u32 (e : Int)) := h2.cell 4
      have c5 : wo.cell? ⟨w.heap.size + 1 + 1, 5, none⟩ = some (.int .u32 (f : Int)) := h2.cell 5
      have c6 : wo.cell? ⟨w.heap.size + 1 + 1, 6, none⟩ = some (.int .u32 (g : Int)) := h2.cell 6
      have c7 : wo.cell? ⟨w.heap.size + 1 + 1, 7, none⟩ = some (.int .u32 (h8 : Int)) := h2.cell 7
      have NX := Aside0.mk nx
      have HST := Aside0.mk hst
      clear nx hst
      have ei : (wordsI (byt bs) 64).getD i 0 = (W (byt bs) i : Int) := wordsI_done _ _ _ hlt' hlt'
      have ck : wo.cell? ⟨1, i, none⟩ = some (.int .u32 (keyN i : Int)) := (HK.out.below hb).out i _ ((numsA_get _ _ i (by rw [keysI_length]; exact hlt')).trans (by rw [keysI_at i hlt']))
      have lw := W_lt (byt bs) H8.out i
      have lk := keyN_lt i
      generalize hkk : keyN i = kk at *
      go_wp2_with (with_reducible refine wpList_index_nums rfl 44 _ _ rfl (wordsI (byt bs) 64) i rfl rfl Tryd.underlying44 Tryd.underlying32 infoU (wordsI_length _ _) hlt' ?_; rw [ei])
      rw [ch_bits e f g le lf lg, mo_bits a b c la lb lc]
      have s9 : (i : Int) < 64 := by omega
      have l1 := mixN_lt e 6 11 25 false le
      have l2 := mixN_lt a 2 13 22 false la
      generalize hch : choiceN e f g = ch at *
      generalize hmo : mostN a b c = mo at *
      generalize hww : W (byt bs) i = ww at *
      have HCH := Aside0.mk hch
      have HMO := Aside0.mk hmo
      clear hch hmo hkk hww
      refine Qt.wp_region_all (fun w' => Below wo.heap.size wo w') (by kernel_rfl) (by kernel_rfl) (Below.refl _ _).drew ?_
      repeat (first
        | (refine Qt.q_val' rfl ?_; apply Exists.intro; refine ⟨?_, ?_⟩; (focus (intro w' hw'; have f4 := pw_cell_below hw' c4; have f7 := pw_cell_below hw' c7; have fk := pw_cell_below hw' ck; go_simp; (first | rfl | done))); intro K hK; go_simp; refine hK _ ?_; clear hK K)
        | (refine Qt.q_call' rfl ?_; apply Exists.intro; apply Exists.intro; refine ⟨?_, ?_⟩; (focus (intro w'; go_simp; (first | rfl | exact ⟨rfl, rfl⟩))); apply Exists.intro; refine ⟨?_, ?_⟩; (focus (intro w' hw'; first | with_reducible exact Qt.under hw' (mixed_at _ _ _ _ _ _ _ _ mix3.1 mix3.2.1 mix3.2.2 le (by decide) _))); intro K hK; go_simp; refine hK _ ?_; clear hK K))
      (refine wpQuiet_nil ?_; intro w' hw')
      have e1 : IntKind.u32.wrap (IntKind.u32.wrap (IntKind.u32.wrap (IntKind.u32.wrap ((h8 : Int) + (mixN e 6 11 25 false : Nat)) + ch) + kk) + ww) = (oneN ⟨a, b, c, d, e, f, g, h8⟩ kk ww : Int) := by
        have := HCH.out
        unfold oneN
        simp only [IntKind.wrap_u32]
        omega
      have lo := oneN_lt ⟨a, b, c, d, e, f, g, h8⟩ kk ww
      rw [e1]
      clear e1
      generalize hoo : oneN ⟨a, b, c, d, e, f, g, h8⟩ kk ww = o1 at *
      have HOO := Aside0.mk hoo
      clear hoo
      have x2 := h2.below hw'
      have c0' : w'.cell? ⟨w.heap.size + 1 + 1, 0, none⟩ = some (.int .u32 (a : Int)) := x2.cell 0
      have e2 : (((mixN a 2 13 22 false : Nat) : Int) + mo) % 4294967296 = (twoN ⟨a, b, c, d, e, f, g, h8⟩ : Int) := by
        have := HMO.out
        unfold twoN
        dsimp only
        omega
      have E2 := Aside0.mk e2
      have LT := Aside0.mk (twoN_lt ⟨a, b, c, d, e, f, g, h8⟩)
      clear e2 c0 c1 c2 c4 c5 c6 c7 ck
      have y0 := h0.below hw'
      have y1 := h1.below hw'
      have yb := hb.trans (hw'.mono hb.size)
      clear h0 h1 h2 hb
      go_wp2_with (first
        | (go_at_call 20; refine (mixed_at _ _ _ _ _ _ _ _ mix4.1 mix4.2.1 mix4.2.2 la (by decide) _).mono ?_; rintro e' w2 ⟨rfl, hb2⟩; have x3 := x2.below hb2; have u0 := y0.below hb2; have u1 := y1.below hb2; have ub := yb.trans (hb2.mono yb.size); clear x2 y0 y1 yb hb2 c0'; have c0 : w2.cell? ⟨w.heap.size + 1 + 1, 0, none⟩ = some (.int .u32 (a : Int)) := x3.cell 0; have c1 : w2.cell? ⟨w.heap.size + 1 + 1, 1, none⟩ = some (.int .u32 (b : Int)) := x3.cell 1; have c2 : w2.cell? ⟨w.heap.size + 1 + 1, 2, none⟩ = some (.int .u32 (c : Int)) := x3.cell 2; have c3 : w2.cell? ⟨w.heap.size + 1 + 1, 3, none⟩ = some (.int .u32 (d : Int)) := x3.cell 3; have c4 : w2.cell? ⟨w.heap.size + 1 + 1, 4, none⟩ = some (.int .u32 (e : Int)) := x3.cell 4; have c5 : w2.cell? ⟨w.heap.size + 1 + 1, 5, none⟩ = some (.int .u32 (f : Int)) := x3.cell 5; have c6 : w2.cell? ⟨w.heap.size + 1 + 1, 6, none⟩ = some (.int .u32 (g : Int)) := x3.cell 6)
        | (with_reducible refine wpList_build_agg rfl 34 _ rfl (numsA .u32 [((o1 : Int) + (((mixN a 2 13 22 false : Nat) : Int) + mo) % 4294967296) % 4294967296, a, b, c, ((d : Int) + o1) % 4294967296, e, f, g]) (fun w => by kernel_rfl) ?_)
        | (with_reducible refine wpList_store_blk rfl 34 _ _ rfl _ _ rfl rfl infoS (by simp [numsA_size]) (numsA_one _ _) x3 (by rw [numsA_size, S8.list_length]) ?_))
      go_roundw
      case rel => exact ⟨i + 1, by omega, by go_num, u0.rowFar (by omega) _, u1.rowFar (by omega) _, by
        have em : ((o1 : Int) + (((mixN a 2 13 22 false : Nat) : Int) + mo)) % 4294967296 = ((o1 : Int) + (twoN ⟨a, b, c, d, e, f, g, h8⟩ : Nat)) % 4294967296 := by have := E2.out; omega
        rw [em, NX.out, step_cells a b c d e f g h8 _ _ o1 _ HOO.out rfl]; exact x3.row _, below_setRow ub (by omega) _⟩
      case measure => simp [intOf]; omega
    · have ei : i = 64 := by omega
      rw [ei] at h2
      clear ei
      have t64 : decide ((i : Int) < 64) = false := by simp; omega
      have ok := roundsN_ok (byt bs) s HS.out 64
      generalize hst : roundsN (byt bs) s 64 = st at *
      have HST := Aside0.mk hst
      clear hst
      have OK := Aside0.mk ok
      clear ok
      go_wp2_with fail
      go_loopw [89] (fun v89 wr => ∃ i : Nat, i ≤ 8 ∧ v89 = .int .i64 (i : Int) ∧ Blk wr w.heap.size 34 (numsA .u32 (fillK (fun i => (addN s st).list.getD i 0) (fun i => s.list.getD i 0) 8 i)) ∧ Blk wr (w.heap.size + 1) 34 (numsA .u32 (zeros 8)) ∧ Blk wr (w.heap.size + 1 + 1) 34 (numsA .u32 st.list) ∧ Below w.heap.size w wr) (fun v89 _ => 8 - (intOf v89).toNat)
      case atStart => exact ⟨0, by omega, rfl, by rw [fillK_zero, list_range]; exact h0, h1, h2, hb⟩
      case round =>
        clear h0 h1 h2 hb
        obtain ⟨i, hi', rfl, h0, h1, h11, hb⟩ := hrel
        by_cases hlt' : i < 8
        · have t8 : decide ((i : Int) < 8) = true := by simp; omega
          have c0 := (h0.cell i).trans (numsA_get _ _ i (by rw [fillK_length]; exact hlt'))
          have fz := h0.frozen i
          rw [fillK_todo _ _ _ _ _ _ hlt' (Nat.le_refl _)] at c0
          have c1 := (h11.cell i).trans (numsA_get _ _ i (by rw [S8.list_length]; exact hlt'))
          have n0 := list_lt s HS.out i
          have n1 := list_lt st OK.out i
          have AD := Aside0.mk (add_at s st i hlt')
          generalize hv0 : s.list.getD i 0 = v0 at *
          generalize hv1 : st.list.getD i 0 = v1 at *
          clear hv0 hv1
          go_wp2_with fail
          have s9 : (i : Int) < 8 := by omega
          go_still_tail 8, (by kernel_rfl)
          go_wp2_with fail
          go_roundw
          case rel => exact ⟨i + 1, by omega, by go_num, by
            have := (h0.set i (.int .u32 ((v0 + v1) % 4294967296))).drew
            rw [numsA_set, fillK_set _ _ _ _ hlt' _ AD.out] at this
            exact this, (h1.far (by simp; try omega) _).drew, (h11.far (by simp; try omega) _).drew, (hb.setCell (by simp; try omega) _).drew⟩
          case measure => simp [intOf]; omega
        · have t8 : decide ((i : Int) < 8) = false := by simp; omega
          have ei8 : i = 8 := by omega
          rw [ei8, fillK_full, list_range] at h0
          clear ei8
          go_wp2_with (first
            | (with_reducible refine wpList_load_blk rfl 34 _ rfl _ _ _ rfl Tryd.underlying34 rfl infoS h0 (by rw [numsA_size, S8.list_length]) ?_)
            | (with_reducible refine wpList_store_blk rfl 34 _ _ rfl _ _ rfl rfl infoS (by rw [numsA_size, S8.list_length]) (numsA_one _ _) h1 (by rw [numsA_size, zeros_length]) ?_))
          refine bodyPost_ret (v := .agg (numsA .u32 (takeN s (byt bs)).list)) (results_blk Tryd.results14 _ _ _ _ _ rfl infoS Tryd.underlying34 rfl (by unfold takeN; rw [HST.out]; exact h1.row _) (by rw [numsA_size, S8.list_length])) rfl ⟨rfl, below_setRow hb (by simp; try omega) _⟩
end Go.Proofs.YtlhapohpedihjaaDoor.Sha
