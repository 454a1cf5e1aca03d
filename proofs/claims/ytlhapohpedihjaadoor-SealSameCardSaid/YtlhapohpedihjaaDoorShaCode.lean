/- The program's Digest. -/
import Derived.Test.YtlhapohpedihjaaDoorShaPad
namespace Go.Proofs.YtlhapohpedihjaaDoor.Sha
open Go.RowKit Go.Proofs.YtlhapohpedihjaaDoorW.PrintWords Go.Proofs.YtlhapohpedihjaaDoorW.PrintLast Go.Proofs.YtlhapohpedihjaaDoorW.PrintMore Go.Proofs.YtlhapohpedihjaaDoor.Arr
set_option linter.unusedVariables false
set_option linter.unusedSimpArgs false

theorem outF_set (s : S8) (n : Nat) (x : Int) (hn : n < 32) (hx : x = outAt s n) : (outF s n).set n x = outF s (n + 1) := fillK_set (outAt s) (fun _ => 0) 32 n hn x hx

set_option maxRecDepth 100000 in
set_option maxHeartbeats 4000000 in
theorem digest_calls (A : Option Addr) (cap : Nat) (bs : List Int) (hb8 : Bytes bs) (hcap : bs.length ≤ cap) (hsz : bs.length ≤ 140737488351232) (w : World) (hr : ReadsInt w .u8 A bs.length bs) (hg : 2 ≤ w.heap.size) (hs : Cells w 0 (numsA .u32 start.list)) (hk : Cells w 1 (numsA .u32 keysI)) :
    Calls Tryd.prog 8 #[.slice A bs.length cap] w fun e w' => e = .returned (.agg (numsA .u8 (digL bs))) ∧ Below w.heap.size w w' := by
  have H8 := Aside0.mk hb8
  have HR := Aside0.mk hr
  have HS := Aside0.mk hs
  have HK := Aside0.mk hk
  clear hb8 hr hs hk
  go_enter Tryd.func8, Tryd.ntmps8
  go_wp2_with (first
    | (with_reducible refine wpList_alloc_agg rfl 24 _ rfl zero32 ?_)
    | (with_reducible refine wpList_load_cells rfl 34 _ rfl 0 _ _ rfl Tryd.underlying34 rfl infoS (HS.out.below (below_alloc (Below.refl _ _) _)) (by rw [numsA_size, S8.list_length]) ?_)
    | (with_reducible refine wpList_alloc_agg rfl 34 _ rfl zeroS ?_)
    | (with_reducible refine wpList_store_blk rfl 34 _ _ rfl _ _ rfl rfl infoS (by rw [numsA_size, S8.list_length]) (numsA_one _ _) (Blk.newAt (by simp)) (by rw [numsA_size, zeros_length]) ?_; rw [setRow_top (by simp)])
    | (go_at_call 13; refine (padded_calls _ _ bs hcap hsz _ (HR.out.below (below_alloc (below_alloc (Below.refl _ _) _) _))).mono ?_; rintro e w1 ⟨v4, rfl, hv, hb1⟩))
  have h2 : Blk w1 w.heap.size 24 (numsA .u8 (zeros 32)) := ((Blk.newAt rfl).alloc _).below hb1
  have h3 : Blk w1 (w.heap.size + 1) 34 (numsA .u32 start.list) := (Blk.newAt (by simp)).below hb1
  have hb : Below w.heap.size w w1 := (below_alloc (below_alloc (Below.refl _ _) _) _).trans (hb1.mono (by simp; omega))
  have hv' := hv.lower (B' := w.heap.size) (by simp; omega)
  clear hb1 hv
  have hlen := padL_length bs
  have hblk := padL_blocks bs
  have hby := padL_bytes bs H8.out
  have hall : digL bs = outL (stL (padL bs) ((padL bs).length / 64)) := rfl
  obtain ⟨ga, ca, rfl, hga, hgl, hcl, hcm⟩ : ∃ ga ca, v4 = .slice (some ⟨ga, 0, none⟩) (padL bs).length ca ∧ w.heap.size ≤ ga ∧ ga < w1.heap.size ∧ (padL bs).length ≤ ca ∧ ca ≤ maxLen := by
    rcases hv'.form with ⟨_, h⟩ | ⟨g, c, h, h1, h2, h5, h6⟩
    · exfalso; rw [h] at hlen; simp only [List.length_nil] at hlen; omega
    · exact ⟨g, c, h, h1, h2, h5, h6⟩
  unfold maxLen at hcm
  generalize hL : padL bs = L at *
  have HLL := Aside0.mk hL
  have HBL := Aside0.mk hblk
  have HBY := Aside0.mk hby
  have HALL := Aside0.mk hall
  clear hL hlen hblk hby hall hga hgl
  go_loopw [4] (fun v4 wr => ∃ m n c o : Nat, Aside0 (64 * m + n = L.length ∧ c + 64 * m = ca ∧ (0 < n → o = 64 * m)) ∧ n ≤ c ∧ c ≤ 9223372036854775807 ∧ v4 = .slice (some ⟨ga, o, none⟩) n c ∧ Row wr w.heap.size 5 .u8 (.slice (some ⟨ga, 0, none⟩) L.length ca) L ∧ Blk wr w.heap.size 24 (numsA .u8 (zeros 32)) ∧ Blk wr (w.heap.size + 1) 34 (numsA .u32 (stL L m).list) ∧ Below w.heap.size w wr) (fun v4 _ => sliceLen v4)
  case atStart => exact ⟨0, L.length, ca, 0, ⟨by omega, by omega, by omega⟩, hcl, by omega, rfl, hv', h2, h3, hb⟩
  case round =>
    clear hv' h2 h3 hb
    obtain ⟨m, n, c, o, hmn, hnc, hcx, rfl, hv, h2, h3, hb⟩ := hrel
    obtain ⟨wo, rfl⟩ : ∃ wo : World, wo = wr := ⟨_, rfl⟩
    by_cases hn : 0 < n
    · have t0 : decide ((n : Int) > 0) = true := by simp; omega
      have hn64 : 64 ≤ n := by have := hmn.out; have := HBL.out; omega
      have ho : o = 64 * m := hmn.out.2.2 hn
      have l64 := cutL_length L m (by have := hmn.out; omega)
      have rd : Rdb wo ⟨ga, o, none⟩ (cutL L m) := by
        intro j hj
        rw [l64] at hj
        rw [addr_off, hv.at_ (o + j) (by have := hmn.out; omega), cutL_at L m j hj, ho]
      have RD := Aside0.mk rd
      have L64 := Aside0.mk l64
      have b64 : Bytes (cutL L m) := HBY.out.cut (64 * m) 64
      have B64 := Aside0.mk b64
      clear b64
      have st1 : stL L (m + 1) = takeN (stL L m) (byt (cutL L m)) := rfl
      have ST := Aside0.mk st1
      clear rd l64 ho st1
      go_wp2_with fail
      have q1 : (64 : Int) ≤ (c : Int) := by omega
      have q3 : (64 : Int) ≤ (n : Int) := by omega
      have q2 : 64 ≤ c := by omega
      refine Qt.wp_region_tail (fun w' => Below wo.heap.size wo w') 4 (by kernel_rfl) (by kernel_rfl) (Below.refl _ _).drew ?_
      simp only [List.take_succ_cons, List.take_zero, List.drop_succ_cons, List.drop_zero]
      (with_reducible refine Qt.q_load_blk rfl 34 _ rfl _ _ _ rfl Tryd.underlying34 rfl infoS (fun w' hw' => h3.below hw') (by rw [numsA_size, S8.list_length]) (fun K hK => ?_); go_simp; refine hK _ ?_; clear hK K)
      iterate 2 (refine Qt.q_val' rfl ?_; apply Exists.intro; refine ⟨?_, ?_⟩; (focus (intro w' hw'; skip; go_simp; (first | rfl | done))); intro K hK; go_simp; refine hK _ ?_; clear hK K)
      (refine Qt.q_call' rfl ?_; apply Exists.intro; apply Exists.intro; refine ⟨?_, ?_⟩; (focus (intro w'; go_simp; (first | rfl | exact ⟨rfl, rfl⟩))); apply Exists.intro; refine ⟨?_, ?_⟩; (focus (intro w' hw'; first | with_reducible exact Qt.under hw' (take_calls _ (stL_ok _ _) _ _ _ L64.out B64.out q2 _ (RD.out.below hw') (Nat.le_trans hg (Nat.le_trans hb.size hw'.size)) (HK.out.below (hb.trans (hw'.mono hb.size)))))); intro K hK; go_simp; refine hK _ ?_; clear hK K)
      (refine wpQuiet_nil ?_; intro w' hw')
      have b3 := h3.below hw'
      by_cases hc : c = 64
      · go_wp2_with (with_reducible refine wpList_store_blk rfl 34 _ _ rfl _ _ rfl rfl infoS (by rw [numsA_size, S8.list_length]) (numsA_one _ _) b3 (by rw [numsA_size, S8.list_length]) ?_)
        go_roundw
        case rel => exact ⟨m + 1, n - 64, 0, o, ⟨by have := hmn.out; omega⟩, by omega, by omega, rfl, (hv.below hw').setRow b3 (by decide) _, (h2.below hw').rowFar (by omega) _, by rw [ST.out]; exact b3.row _, below_setRow (hb.trans (hw'.mono hb.size)) (by omega) _⟩
        case measure => simp [sliceLen]; omega
      · go_wp2_with (with_reducible refine wpList_store_blk rfl 34 _ _ rfl _ _ rfl rfl infoS (by rw [numsA_size, S8.list_length]) (numsA_one _ _) b3 (by rw [numsA_size, S8.list_length]) ?_)
        go_roundw
        case rel => exact ⟨m + 1, n - 64, c - 64, o + 64, ⟨by have := hmn.out; omega⟩, by omega, by omega, rfl, (hv.below hw').setRow b3 (by decide) _, (h2.below hw').rowFar (by omega) _, by rw [ST.out]; exact b3.row _, below_setRow (hb.trans (hw'.mono hb.size)) (by omega) _⟩
        case measure => simp [sliceLen]; omega
    · have t0 : decide ((n : Int) > 0) = false := by simp; omega
      have em : m = L.length / 64 := by have := hmn.out; omega
      rw [em] at h3
      clear em
      have ok := stL_ok L (L.length / 64)
      generalize hst : stL L (L.length / 64) = st at *
      have HST := Aside0.mk hst
      have OK := Aside0.mk ok
      clear hst ok
      have hz2 := h2.lt
      have hz3 := h3.lt
      go_wp2_with (first
        | (with_reducible refine wpList_alloc_agg rfl 24 _ rfl zero32 ?_)
        | (with_reducible refine wpList_load_blk rfl 34 _ rfl _ _ _ rfl Tryd.underlying34 rfl infoS (h3.alloc _) (by rw [numsA_size, S8.list_length]) ?_))
      go_loopw [21] (fun v21 wr => ∃ i : Nat, i ≤ 8 ∧ v21 = .int .i64 (i : Int) ∧ Blk wr w.heap.size 24 (numsA .u8 (zeros 32)) ∧ Blk wr wo.heap.size 24 (numsA .u8 (outF st (4 * i))) ∧ Below w.heap.size w wr) (fun v21 _ => 8 - (intOf v21).toNat)
      case atStart => exact ⟨0, by omega, rfl, h2.alloc _, Blk.newAt rfl, hb.alloc hb.size _⟩
      case round =>
        have hbs := hb.size
        clear h2 h3 hv hb
        obtain ⟨i, hi, rfl, h2, h9, hb⟩ := hrel
        obtain ⟨wp, rfl⟩ : ∃ wp : World, wp = wr := ⟨_, rfl⟩
        by_cases hlt : i < 8
        · have t8 : decide ((i : Int) < 8) = true := by simp; omega
          have n0 := list_lt st OK.out i
          have o0 := outAt_word st i 0 (by omega)
          have o1 := outAt_word st i 1 (by omega)
          have o2 := outAt_word st i 2 (by omega)
          have o3 := outAt_word st i 3 (by omega)
          generalize hx : st.list.getD i 0 = x at *
          obtain ⟨y, rfl⟩ : ∃ y : Nat, (y : Int) = x := ⟨x.toNat, by omega⟩
          have O0 := Aside0.mk o0
          have O1 := Aside0.mk o1
          have O2 := Aside0.mk o2
          have O3 := Aside0.mk o3
          clear o0 o1 o2 o3
          have f9 := h9.frozen
          have z0 : 4 * i < (numsA IntKind.u8 (outF st (4 * i))).size := by rw [numsA_size, outF_length]; omega
          have z1 : 4 * i + 1 < (numsA IntKind.u8 (outF st (4 * i))).size := by rw [numsA_size, outF_length]; omega
          have z2 : 4 * i + 2 < (numsA IntKind.u8 (outF st (4 * i))).size := by rw [numsA_size, outF_length]; omega
          have z3 : 4 * i + 3 < (numsA IntKind.u8 (outF st (4 * i))).size := by rw [numsA_size, outF_length]; omega
          have k0 := (h9.cell (4 * i)).trans (numsA_get _ _ _ (by rw [outF_length]; omega))
          have k1 := (h9.cell (4 * i + 1)).trans (numsA_get _ _ _ (by rw [outF_length]; omega))
          have k2 := (h9.cell (4 * i + 2)).trans (numsA_get _ _ _ (by rw [outF_length]; omega))
          have k3 := (h9.cell (4 * i + 3)).trans (numsA_get _ _ _ (by rw [outF_length]; omega))
          go_wp2_with (with_reducible refine wpList_index_nums rfl 34 _ _ rfl st.list i rfl rfl Tryd.underlying34 Tryd.underlying32 infoU (S8.list_length _) hlt ?_; rw [hx])
          go_roundw
          case rel => exact ⟨i + 1, by omega, by go_num, (((h2.far (by simp; try omega) _).far (by simp; try omega) _).far (by simp; try omega) _).far (by simp; try omega) _, by
            have s0 : ((y : Int) / 16777216) = outAt st (4 * i) := by have := O0.out; simp at this; rw [this]; omega
            have s1 : ((y : Int) / 65536 % 256) = outAt st (4 * i + 1) := by have := O1.out; simp at this; rw [this]
            have s2 : ((y : Int) / 256 % 256) = outAt st (4 * i + 2) := by have := O2.out; simp at this; rw [this]
            have s3 : ((y : Int) % 256) = outAt st (4 * i + 3) := by have := O3.out; simp at this; rw [this]
            have := (((h9.set (4 * i) (.int .u8 ((y : Int) / 16777216))).set (4 * i + 1) (.int .u8 ((y : Int) / 65536 % 256))).set (4 * i + 2) (.int .u8 ((y : Int) / 256 % 256))).set (4 * i + 3) (.int .u8 ((y : Int) % 256))
            rw [numsA_set, numsA_set, numsA_set, numsA_set, outF_set st _ _ (by omega) s0, outF_set st _ _ (by omega) s1, outF_set st _ _ (by omega) s2, outF_set st _ _ (by omega) s3] at this
            exact this, (((hb.setCell (by simp; try omega) _).setCell (by simp; try omega) _).setCell (by simp; try omega) _).setCell (by simp; try omega) _⟩
          case measure => simp [intOf]; omega
        · have e32 : 4 * i = 32 := by omega
          rw [e32, outF_all] at h9
          clear e32
          have t8 : decide ((i : Int) < 8) = false := by simp; omega
          go_wp2_with (first
            | (with_reducible refine wpList_load_blk rfl 24 _ rfl _ _ _ rfl Tryd.underlying24 rfl info32 h9 (by rw [numsA_size, outL_length]) ?_)
            | (with_reducible refine wpList_store_blk rfl 24 _ _ rfl _ _ rfl rfl info32 (by rw [numsA_size, outL_length]) (numsA_one _ _) h2 (by rw [numsA_size, zeros_length]) ?_))
          refine bodyPost_ret (v := .agg (numsA .u8 (digL bs))) (results_blk Tryd.results8 _ _ _ _ _ rfl info32 Tryd.underlying24 rfl (by rw [HALL.out]; exact h2.row _) (by rw [numsA_size, digL_length])) rfl ⟨rfl, below_setRow hb (by simp) _⟩
end Go.Proofs.YtlhapohpedihjaaDoor.Sha
