/- The reference's keys and take. -/
import Derived.Test.YtlhapohpedihjaaDoorShaBits
import Derived.Test.YtlhapohpedihjaaDoorShaDig
import Derived.Test.YtlhapohpedihjaaDoorQt
import Derived.Test.YtlhapohpedihjaaDoorQf
import Derived.Deep.DeepCutAuto
namespace Go.Proofs.YtlhapohpedihjaaDoor.Sha
open Go.RowKit Go.Proofs.YtlhapohpedihjaaDoorW.PrintWords Go.Proofs.YtlhapohpedihjaaDoorW.PrintLast Go.Proofs.YtlhapohpedihjaaDoorW.PrintMore Go.Proofs.YtlhapohpedihjaaDoor.Arr
set_option linter.unusedVariables false
set_option linter.unusedSimpArgs false

def zeros (n : Nat) : List Int := (List.range n).map fun _ => 0
theorem zeros_length (n : Nat) : (zeros n).length = n := by simp [zeros]
def keysI : List Int := keysL.map fun (x : Nat) => (x : Int)
theorem keysI_length : keysI.length = 64 := by simp [keysI, keysL_length]
theorem zero64 : ∀ w, (zeroValue 44).run Tryd.prog w = .ok (.agg (numsA .u32 (zeros 64))) w := fun w => by kernel_rfl
theorem zero8 : ∀ w, (zeroValue 33).run Tryd.prog w = .ok (.agg (numsA .u32 (zeros 8))) w := fun w => by kernel_rfl
theorem info64 : (Tryd.prog.info? 44).map (·.size) = some 64 := by kernel_rfl
theorem info8 : (Tryd.prog.info? 33).map (·.size) = some 8 := by kernel_rfl
theorem S8.list_length (s : S8) : s.list.length = 8 := rfl

set_option maxHeartbeats 1000000 in
theorem keys_calls (w : World) :
    Calls Tryd.prog 23 #[] w fun e w' => e = .returned (.agg (numsA .u32 keysI)) ∧ Below w.heap.size w w' := by
  go_enter Tryd.func23, Tryd.ntmps23
  go_wp2_with (first
    | (with_reducible refine wpList_alloc_agg rfl 44 _ rfl zero64 ?_)
    | (with_reducible refine wpList_build_agg rfl 44 _ rfl (numsA .u32 keysI) (fun w => by kernel_rfl) ?_)
    | (with_reducible refine wpList_store_blk rfl 44 _ _ rfl _ _ rfl rfl info64 (by rw [numsA_size, keysI_length]) (numsA_one _ _) (Blk.newAt (by simp)) (by rw [numsA_size, zeros_length]) ?_; rw [setRow_top (by simp)]))
  exact bodyPost_ret (v := .agg (numsA .u32 keysI)) (results_blk Tryd.results23 _ _ _ _ _ rfl info64 Tryd.underlying44 rfl (Blk.newAt rfl) (by rw [numsA_size, keysI_length])) rfl ⟨rfl, below_alloc (Below.refl _ _) _⟩

/-- Bytes that lie at an address. -/
def Rdb (w : World) (A : Addr) (bs : List Int) : Prop := ∀ i, i < bs.length → w.cell? (A.add i) = some (.int .u8 (bs.getD i 0))
theorem Rdb.below {w w1 : World} {A : Addr} {bs : List Int} (h : Rdb w A bs) (hb : Below w.heap.size w w1) : Rdb w1 A bs := fun i hi => pw_cell_below hb (h i hi)
def wordsI (b : Nat → Nat) (k : Nat) : List Int := fillK (fun i => (W b i : Int)) (fun _ => 0) 64 k
theorem wordsI_length (b : Nat → Nat) (k : Nat) : (wordsI b k).length = 64 := fillK_length _ _ _ _

theorem wordsI_set0 (b : Nat → Nat) (i : Nat) (h : i < 64) : (wordsI b i).set i ((beP b i 0 : Nat) : Int) = wordsI b i := by
  apply List.ext_getElem
  · simp
  · intro j h1 h2
    rw [List.getElem_set]
    by_cases e : i = j
    · subst e; rw [if_pos rfl]; simp [wordsI, fillK, beP]
    · rw [if_neg e]
theorem wordsI_set (b : Nat → Nat) (i : Nat) (h : i < 64) (x : Int) (hx : x = (W b i : Int)) : (wordsI b i).set i x = wordsI b (i + 1) := fillK_set _ _ 64 i h x hx
theorem wordsI_done (b : Nat → Nat) (k i : Nat) (hi : i < 64) (h : i < k) : (wordsI b k).getD i 0 = (W b i : Int) := fillK_done _ _ 64 k i 0 hi h
theorem keysI_at (i : Nat) (h : i < 64) : keysI.getD i 0 = (keyN i : Int) := by
  unfold keysI keyN
  have hk : i < keysL.length := h
  simp only [List.getD, List.getElem?_map, List.getElem?_eq_getElem hk, Option.map_some, Option.getD_some]
theorem step_cells (a b c d e f g h k w o t : Nat) (ho : oneN ⟨a, b, c, d, e, f, g, h⟩ k w = o) (ht : twoN ⟨a, b, c, d, e, f, g, h⟩ = t) :
    numsA .u32 (stepN ⟨a, b, c, d, e, f, g, h⟩ k w).list = #[.int .u32 (((o : Int) + t) % 4294967296), .int .u32 a, .int .u32 b, .int .u32 c, .int .u32 (((d : Int) + o) % 4294967296), .int .u32 e, .int .u32 f, .int .u32 g] := by
  unfold stepN
  rw [ho, ht]
  simp [numsA, S8.list]
theorem one_wrap (a b c d e f g h k w n1 n2 : Nat) (he : e < 4294967296) (hf : f < 4294967296) (hg : g < 4294967296)
    (h1 : n1 = numN (oddF (turnF (ofN e) 6) (turnF (ofN e) 11) (turnF (ofN e) 25))) (h2 : n2 = numN (choiceF (ofN e) (ofN f) (ofN g))) :
    IntKind.u32.wrap (IntKind.u32.wrap (IntKind.u32.wrap (IntKind.u32.wrap ((h : Int) + n1) + n2) + k) + w) = (oneN ⟨a, b, c, d, e, f, g, h⟩ k w : Int) := by
  have := one_sum a b c d e f g h k w n1 n2 he hf hg h1 h2
  simp only [IntKind.wrap_u32]
  omega
theorem two_wrap (a b c d e f g h n1 n2 : Nat) (ha : a < 4294967296) (hb : b < 4294967296) (hc : c < 4294967296)
    (h1 : n1 = numN (oddF (turnF (ofN a) 2) (turnF (ofN a) 13) (turnF (ofN a) 22))) (h2 : n2 = numN (mostF (ofN a) (ofN b) (ofN c))) :
    IntKind.u32.wrap ((n1 : Int) + n2) = (twoN ⟨a, b, c, d, e, f, g, h⟩ : Int) := by
  have := two_sum a b c d e f g h n1 n2 ha hb hc h1 h2
  simp only [IntKind.wrap_u32]
  omega
theorem getD_set_same (l : List Int) (i : Nat) (x : Int) (h : i < l.length) : (l.set i x).getD i 0 = x := by simp [List.getD, h]

set_option maxRecDepth 100000 in
set_option maxHeartbeats 4000000 in
theorem ref_take_calls (s : S8) (hs : s.ok) (A : Addr) (cap : Nat) (bs : List Int) (hl : bs.length = 64) (hb8 : Bytes bs) (hcap : 64 ≤ cap) (w : World) (hr : Rdb w A bs) :
    Calls Tryd.prog 15 #[.agg (numsA .u32 s.list), .slice (some A) 64 cap] w fun e w' => e = .returned (.agg (numsA .u32 (takeN s (byt bs)).list)) ∧ Below w.heap.size w w' := by
  have HL := Aside0.mk hl
  have H8 := Aside0.mk (byt_lt bs hb8)
  have HI := Aside0.mk (byt_int bs hb8)
  have HR := Aside0.mk hr
  have HS := Aside0.mk hs
  clear hl hb8 hr hs
  go_enter Tryd.func15, Tryd.ntmps15
  go_wp2_with (first
    | (with_reducible refine wpList_alloc_agg rfl 33 _ rfl zero8 ?_)
    | (with_reducible refine wpList_alloc_agg rfl 44 _ rfl zero64 ?_))
  go_loopw [18] (fun v18 wr => ∃ i : Nat, i ≤ 64 ∧ v18 = .int .i64 (i : Int) ∧ Blk wr w.heap.size 33 (numsA .u32 s.list) ∧ Blk wr (w.heap.size + 1) 33 (numsA .u32 (zeros 8)) ∧ Blk wr (w.heap.size + 2) 44 (numsA .u32 (wordsI (byt bs) i)) ∧ Below w.heap.size w wr) (fun v18 _ => 64 - (intOf v18).toNat)
  case atStart => exact ⟨0, by omega, rfl, ((Blk.newAt rfl).alloc _).alloc _, (Blk.newAt (by simp)).alloc _, by unfold wordsI; rw [fillK_zero]; exact Blk.newAt (by simp), below_alloc (below_alloc (below_alloc (Below.refl _ _) _) _) _⟩
  case round =>
    obtain ⟨i, hi, rfl, h0, h1, h2, hb⟩ := hrel
    obtain ⟨wo, rfl⟩ : ∃ wo : World, wo = wr := ⟨_, rfl⟩
    by_cases hlt : i < 64
    · have t64 : decide ((i : Int) < 64) = true := by simp; omega
      by_cases h16 : i < 16
      · have t16 : decide ((i : Int) < 16) = true := by simp; omega
        go_wp2_with fail
        go_loopw [7] (fun v7 wi => ∃ k : Nat, k ≤ 4 ∧ v7 = .int .i64 (k : Int) ∧ Blk wi w.heap.size 33 (numsA .u32 s.list) ∧ Blk wi (w.heap.size + 1) 33 (numsA .u32 (zeros 8)) ∧ Blk wi (w.heap.size + 2) 44 (numsA .u32 ((wordsI (byt bs) i).set i (beP (byt bs) i k : Nat))) ∧ Below w.heap.size w wi) (fun v7 _ => 4 - (intOf v7).toNat)
        case atStart => exact ⟨0, by omega, rfl, h0, h1, by rw [wordsI_set0 _ _ hlt]; exact h2, hb⟩
        case round =>
          clear h0 h1 h2 hb
          obtain ⟨k, hk, rfl, h0, h1, h2, hb⟩ := hrel
          by_cases hk4 : k < 4
          · have cw := (h2.cell i).trans (numsA_get _ _ i (by rw [List.length_set, wordsI_length]; exact hlt))
            rw [getD_set_same _ _ _ (by rw [wordsI_length]; exact hlt)] at cw
            have fw := h2.frozen i
            have cb := HR.out.below hb (4 * i + k) (by rw [HL.out]; omega)
            rw [HI.out _ (by rw [HL.out]; omega)] at cb
            have b1 := beP_lt (byt bs) H8.out i k hk4
            have b2 := H8.out (4 * i + k)
            generalize hp : beP (byt bs) i k = p at *
            generalize hq : byt bs (4 * i + k) = q at *
            have HP := Aside0.mk hp
            have HQ := Aside0.mk hq
            clear hp hq
            go_wp2_with fail
            have s1 : IntKind.i64.wrap (4 * (i : Int)) = 4 * (i : Int) := IntWalk.i64_in _ (by omega)
            have s2 : IntKind.i64.wrap (4 * (i : Int) + (k : Int)) = 4 * (i : Int) + (k : Int) := IntWalk.i64_in _ (by omega)
            have s4 : 0 ≤ 4 * (i : Int) + (k : Int) := by omega
            have s5 : 4 * (i : Int) + (k : Int) < 64 := by omega
            have s6 : IntKind.u32.wrap ((p : Int) * 256) = (p : Int) * 256 := IntWalk.u32_in _ (by omega)
            have s7 : IntKind.u32.wrap ((p : Int) * 256 + (q : Int)) = (p : Int) * 256 + (q : Int) := IntWalk.u32_in _ (by omega)
            have s8 : IntKind.u32.wrap (q : Int) = (q : Int) := IntWalk.u32_in _ (by omega)
            have s0 : (i : Int) < 64 := by omega
            have s3 : (4 * (i : Int) + (k : Int)).toNat = 4 * i + k := by omega
            go_still_tail 15, (by kernel_rfl)
            clear s1 s2 s3 s6 s7 s8
            go_wp2_with fail
            go_roundw
            case rel => exact ⟨k + 1, by omega, by go_num, (h0.drewN _).far (by simp; try omega) _, (h1.drewN _).far (by simp; try omega) _, by rw [show ((beP (byt bs) i (k + 1) : Nat) : Int) = (p : Int) * 256 + q by simp only [beP, HP.out, HQ.out]; omega]; have := (h2.set i (.int .u32 ((p : Int) * 256 + q))).drew; rw [numsA_set, List.set_set] at this; exact this, (pw_below_drewN hb _).setCell (by simp; try omega) _⟩
            case measure => simp [intOf]; omega
          · obtain rfl : k = 4 := by omega
            go_wp2_with fail
            go_roundw
            case rel => exact ⟨i + 1, by omega, by go_num, h0, h1, by rwa [beP_four, wordsI_set _ _ hlt _ (by rw [W_small _ _ h16])] at h2, hb⟩
            case measure => simp [intOf]; omega
      · obtain ⟨j, rfl⟩ : ∃ j, i = j + 16 := ⟨i - 16, by omega⟩
        have t16 : decide (((j + 16 : Nat) : Int) < 16) = false := by simp; omega
        have e15 := (h2.cell (j + 1)).trans (numsA_get _ _ _ (by rw [wordsI_length]; omega))
        have e2 := (h2.cell (j + 14)).trans (numsA_get _ _ _ (by rw [wordsI_length]; omega))
        rw [wordsI_done _ _ _ (by omega) (by omega)] at e15 e2
        have W15 := W_lt (byt bs) H8.out (j + 1)
        have W2 := W_lt (byt bs) H8.out (j + 14)
        generalize hp : W (byt bs) (j + 1) = p at *
        generalize hq : W (byt bs) (j + 14) = q at *
        have HP := Aside0.mk hp
        have HQ := Aside0.mk hq
        clear hp hq
        go_wp2_with fail
        have s1 : IntKind.i64.wrap ((j : Int) + 16 - 15) = (j : Int) + 1 := by rw [IntWalk.i64_in _ (by omega)]; omega
        have s2 : IntKind.i64.wrap ((j : Int) + 16 - 2) = (j : Int) + 14 := by rw [IntWalk.i64_in _ (by omega)]; omega
        have s3 : ((j : Int) + 1).toNat = j + 1 := by omega
        have s4 : ((j : Int) + 14).toNat = j + 14 := by omega
        have s5 : 0 ≤ (j : Int) + 1 := by omega
        have s6 : 0 ≤ (j : Int) + 14 := by omega
        have s7 : (j : Int) + 1 < 64 := by omega
        have s8 : (j : Int) + 14 < 64 := by omega
        go_cut [8, 9] (fun v8 v9 wc => ∃ g8 g9 : Nat, v8 = .pointer (some ⟨g8, 0, none⟩) ∧ v9 = .pointer (some ⟨g9, 0, none⟩) ∧ Blk wc w.heap.size 33 (numsA .u32 s.list) ∧ Blk wc (w.heap.size + 1) 33 (numsA .u32 (zeros 8)) ∧ Blk wc (w.heap.size + 2) 44 (numsA .u32 (wordsI (byt bs) (j + 16))) ∧ Blk wc g8 41 (boolsA (ofN p)) ∧ Blk wc g9 41 (boolsA (ofN q)) ∧ Below w.heap.size w wc)
        case first =>
          refine Qf.wp_region_two' 10 _ _ 41 41 _ _ (by kernel_rfl) rfl rfl (by kernel_rfl) rfl rfl rfl rfl zeroW zeroW (by kernel_rfl) ?_
          simp only [List.take_succ_cons, List.take_zero, List.drop_succ_cons, List.drop_zero]
          repeat (first
            | (refine Qf.e_val rfl ?_; apply Exists.intro; refine ⟨?_, ?_⟩; (focus (intro w' hw'; have f1 := pw_cell_below hw' e15; have f2 := pw_cell_below hw' e2; go_simp; (first | rfl | done))); intro K hK; go_simp; refine hK _ ?_; clear hK K)
            | (refine Qf.e_call rfl ?_; apply Exists.intro; apply Exists.intro; refine ⟨?_, ?_⟩; (focus (intro w'; go_simp; (first | rfl | exact ⟨rfl, rfl⟩))); apply Exists.intro; refine ⟨?_, ?_⟩; (focus (intro w' hw'; first | with_reducible exact of_calls _ W15 _ | with_reducible exact of_calls _ W2 _)); intro K hK; go_simp; refine hK _ ?_; clear hK K))
          refine Qf.wpE_nil ?_
          intro g g' w' hne hg hg' hbw b8 b9
          go_wp2_with (first
            | (with_reducible refine wpList_store_blk rfl 41 _ _ rfl _ _ rfl rfl infoW (by rw [boolsA_size, ofN_length]) (boolsA_one _) b8 (by simp [boolsA_size, no32_length]) ?_)
            | (with_reducible refine wpList_store_blk rfl 41 _ _ rfl _ _ rfl rfl infoW (by rw [boolsA_size, ofN_length]) (boolsA_one _) (b9.rowFar (Ne.symm hne) _) (by simp [boolsA_size, no32_length]) ?_))
          go_meet
          case rel =>
            have l0 := h0.lt
            have l1 := h1.lt
            have l2 := h2.lt
            exact ⟨g, g', rfl, rfl, ((h0.below' hbw l0).rowFar (by omega) _).rowFar (by omega) _, ((h1.below' hbw l1).rowFar (by omega) _).rowFar (by omega) _, ((h2.below' hbw l2).rowFar (by omega) _).rowFar (by omega) _,
              (b8.row _).rowFar hne _, (b9.rowFar (Ne.symm hne) _).row _, below_setRow (below_setRow (hb.trans (hbw.mono hb.size)) (by omega) _) (by omega) _⟩
        case rest =>
          clear h0 h1 h2 hb e15 e2 s1 s2 s3 s4 s5 s6 s7 s8
          obtain ⟨g8, g9, rfl, rfl, h0, h1, h2, b8, b9, hb⟩ := hcut
          obtain ⟨wd, rfl⟩ : ∃ wd : World, wd = wc := ⟨_, rfl⟩
          have e16 := (h2.cell j).trans (numsA_get _ _ _ (by rw [wordsI_length]; omega))
          have e7 := (h2.cell (j + 9)).trans (numsA_get _ _ _ (by rw [wordsI_length]; omega))
          rw [wordsI_done _ _ _ (by omega) (by omega)] at e16 e7
          have W16 := W_lt (byt bs) H8.out j
          have W7 := W_lt (byt bs) H8.out (j + 9)
          generalize hx : W (byt bs) j = x at *
          generalize hy : W (byt bs) (j + 9) = y at *
          have HX := Aside0.mk hx
          have HY := Aside0.mk hy
          clear hx hy
          go_wp2_with fail
          have s1 : IntKind.i64.wrap ((j : Int) + 16 - 16) = (j : Int) := by rw [IntWalk.i64_in _ (by omega)]; omega
          have s2 : IntKind.i64.wrap ((j : Int) + 16 - 7) = (j : Int) + 9 := by rw [IntWalk.i64_in _ (by omega)]; omega
          have s2' : IntKind.i64.wrap (j : Int) = (j : Int) := by rw [IntWalk.i64_in _ (by omega)]
          have s3 : ((j : Int) + 9).toNat = j + 9 := by omega
          have s4 : ((j : Int) + 16).toNat = j + 16 := by omega
          have s5 : 0 ≤ (j : Int) + 9 := by omega
          have s6 : 0 ≤ (j : Int) + 16 := by omega
          have s7 : (j : Int) + 9 < 64 := by omega
          have s8 : (j : Int) + 16 < 64 := by omega
          have s9 : (j : Int) < 64 := by omega
          refine Qt.wp_region_tail (fun w' => Below wd.heap.size wd w') 29 (by kernel_rfl) (by kernel_rfl) (Below.refl _ _).drew ?_
          simp only [List.take_succ_cons, List.take_zero, List.drop_succ_cons, List.drop_zero]
          repeat (first
            | (with_reducible refine Qt.q_load_blk rfl 41 _ rfl _ _ _ rfl Tryd.underlying41 rfl infoW (fun w' hw' => b8.below hw') (by rw [boolsA_size, ofN_length]) (fun K hK => ?_); go_simp; refine hK _ ?_; clear hK K)
            | (with_reducible refine Qt.q_load_blk rfl 41 _ rfl _ _ _ rfl Tryd.underlying41 rfl infoW (fun w' hw' => b9.below hw') (by rw [boolsA_size, ofN_length]) (fun K hK => ?_); go_simp; refine hK _ ?_; clear hK K)
            | (refine Qt.q_val' rfl ?_; apply Exists.intro; refine ⟨?_, ?_⟩; (focus (intro w' hw'; have f1 := pw_cell_below hw' e16; have f2 := pw_cell_below hw' e7; go_simp; (first | rfl | done))); intro K hK; go_simp; refine hK _ ?_; clear hK K)
            | (refine Qt.q_call' rfl ?_; apply Exists.intro; apply Exists.intro; refine ⟨?_, ?_⟩; (focus (intro w'; go_simp; (first | rfl | exact ⟨rfl, rfl⟩))); apply Exists.intro; refine ⟨?_, ?_⟩; (focus (intro w' hw'; first | with_reducible exact Qt.under hw' (turned_at _ _ (ofN_length _) (by decide) (by decide) _) | with_reducible exact Qt.under hw' (moved_at _ _ (ofN_length _) (by decide) (by decide) _) | with_reducible exact Qt.under hw' (odd_calls _ _ _ (turnF_length _ _) (turnF_length _ _) (moveF_length _ _) _) | with_reducible exact Qt.under hw' (number_calls _ (oddF_length _ _ _) _))); intro K hK; go_simp; refine hK _ ?_; clear hK K))
          (refine wpQuiet_nil ?_; intro w' hw')
          have b2 := h2.below hw'
          have cw := (b2.cell (j + 16)).trans (numsA_get _ _ _ (by rw [wordsI_length]; omega))
          have fw := b2.frozen (j + 16)
          have g0 := h0.below hw'
          have g1 := h1.below hw'
          have gb := hb.trans (hw'.mono hb.size)
          go_wp2_with fail
          go_roundw
          case rel => exact ⟨j + 17, by omega, by go_num, g0.far (by simp; try omega) _, g1.far (by simp; try omega) _, by
            rw [W_sum (byt bs) H8.out j p q x y HP.out HQ.out HX.out HY.out _ _ rfl rfl]
            have := b2.set (j + 16) (.int .u32 (W (byt bs) (j + 16) : Int))
            rw [numsA_set, wordsI_set _ _ (by omega) _ rfl] at this
            exact this, gb.setCell (by simp; try omega) _⟩
          case measure => simp [intOf]; omega
    · obtain rfl : i = 64 := by omega
      go_wp2_with (first
        | (go_at_call 23; refine (keys_calls _).mono ?_; rintro e w1 ⟨rfl, hb1⟩; have k0 := h0.below hb1; have k1 := h1.below hb1; have k2 := h2.below hb1; have kb := hb.trans (hb1.mono hb.size))
        | (with_reducible refine wpList_alloc_agg rfl 33 _ rfl zero8 ?_)
        | (with_reducible refine wpList_alloc_agg rfl 44 _ rfl zero64 ?_)
        | (with_reducible refine wpList_load_blk rfl 33 _ rfl _ _ _ rfl Tryd.underlying33 rfl info8 (k0.alloc _) (by rw [numsA_size, S8.list_length]) ?_)
        | (with_reducible refine wpList_store_blk rfl 44 _ _ rfl _ _ rfl rfl info64 (by rw [numsA_size, keysI_length]) (numsA_one _ _) (Blk.newAt (by simp)) (by rw [numsA_size, zeros_length]) ?_; rw [setRow_top (by simp)])
        | (with_reducible refine wpList_store_blk rfl 33 _ _ rfl _ _ rfl rfl info8 (by rw [numsA_size, S8.list_length]) (numsA_one _ _) (Blk.newAt (by simp)) (by rw [numsA_size, zeros_length]) ?_; rw [setRow_top (by simp)]))
      go_loopw [84] (fun v84 wr => ∃ i : Nat, i ≤ 64 ∧ v84 = .int .i64 (i : Int) ∧ Blk wr w.heap.size 33 (numsA .u32 s.list) ∧ Blk wr (w.heap.size + 1) 33 (numsA .u32 (zeros 8)) ∧ Blk wr (w.heap.size + 2) 44 (numsA .u32 (wordsI (byt bs) 64)) ∧
        Blk wr w1.heap.size 44 (numsA .u32 keysI) ∧ Blk wr (w1.heap.size + 1) 33 (numsA .u32 (roundsN (byt bs) s i).list) ∧ Below w.heap.size w wr) (fun v84 _ => 64 - (intOf v84).toNat)
      case atStart => exact ⟨0, by omega, rfl, (k0.alloc _).alloc _, (k1.alloc _).alloc _, (k2.alloc _).alloc _, (Blk.newAt rfl).alloc _, Blk.newAt (by simp), (kb.alloc kb.size _).alloc (by simp; have := kb.size; omega) _⟩
      case round =>
        have q0 := k0.lt
        have q1 := k1.lt
        have q2 := k2.lt
        clear h0 h1 h2 hb k0 k1 k2 kb
        obtain ⟨i, hi', rfl, h0, h1, h2, h10, h11, hb⟩ := hrel
        obtain ⟨wo, rfl⟩ : ∃ wo : World, wo = wr := ⟨_, rfl⟩
        by_cases hlt' : i < 64
        · have t64 : decide ((i : Int) < 64) = true := by simp; omega
          have ok := roundsN_ok (byt bs) s HS.out i
          have nx : roundsN (byt bs) s (i + 1) = stepN (roundsN (byt bs) s i) (keyN i) (W (byt bs) i) := rfl
          generalize hst : roundsN (byt bs) s i = st at *
          obtain ⟨a, b, c, d, e, f, g, h⟩ := st
          obtain ⟨la, lb, lc, ld, le, lf, lg, lh⟩ := ok
          simp only at la lb lc ld le lf lg lh
          have c0 : wo.cell? ⟨w1.heap.size + 1, 0, none⟩ = some (.int .u32 (a : Int)) := h11.cell 0
          have c4 : wo.cell? ⟨w1.heap.size + 1, 4, none⟩ = some (.int .u32 (e : Int)) := h11.cell 4
          have NX := Aside0.mk nx
          have HST := Aside0.mk hst
          clear nx hst
          go_wp2_with fail
          go_cut [13, 14] (fun v13 v14 wc => ∃ g8 g9 : Nat, v13 = .pointer (some ⟨g8, 0, none⟩) ∧ v14 = .pointer (some ⟨g9, 0, none⟩) ∧ Below wo.heap.size wo wc ∧ Blk wc g8 41 (boolsA (ofN a)) ∧ Blk wc g9 41 (boolsA (ofN e)))
          case first =>
            refine Qf.wp_region_two' 6 _ _ 41 41 _ _ (by kernel_rfl) rfl rfl (by kernel_rfl) rfl rfl rfl rfl zeroW zeroW (by kernel_rfl) ?_
            simp only [List.take_succ_cons, List.take_zero, List.drop_succ_cons, List.drop_zero]
            repeat (first
              | (refine Qf.e_val rfl ?_; apply Exists.intro; refine ⟨?_, ?_⟩; (focus (intro w' hw'; have f1 := pw_cell_below hw' c0; have f2 := pw_cell_below hw' c4; go_simp; (first | rfl | done))); intro K hK; go_simp; refine hK _ ?_; clear hK K)
              | (refine Qf.e_call rfl ?_; apply Exists.intro; apply Exists.intro; refine ⟨?_, ?_⟩; (focus (intro w'; go_simp; (first | rfl | exact ⟨rfl, rfl⟩))); apply Exists.intro; refine ⟨?_, ?_⟩; (focus (intro w' hw'; first | with_reducible exact of_calls _ la _ | with_reducible exact of_calls _ le _)); intro K hK; go_simp; refine hK _ ?_; clear hK K))
            refine Qf.wpE_nil ?_
            intro g g' w' hne hg hg' hbw b8 b9
            go_wp2_with (first
              | (with_reducible refine wpList_store_blk rfl 41 _ _ rfl _ _ rfl rfl infoW (by rw [boolsA_size, ofN_length]) (boolsA_one _) b8 (by simp [boolsA_size, no32_length]) ?_)
              | (with_reducible refine wpList_store_blk rfl 41 _ _ rfl _ _ rfl rfl infoW (by rw [boolsA_size, ofN_length]) (boolsA_one _) (b9.rowFar (Ne.symm hne) _) (by simp [boolsA_size, no32_length]) ?_))
            go_meet
            case rel => exact ⟨g, g', rfl, rfl, below_setRow (below_setRow hbw hg _) hg' _, (b8.row _).rowFar hne _, (b9.rowFar (Ne.symm hne) _).row _⟩
          case rest =>
            obtain ⟨g8, g9, rfl, rfl, hbd, b8, b9⟩ := hcut
            obtain ⟨wd, rfl⟩ : ∃ wd : World, wd = wc := ⟨_, rfl⟩
            have d0 := h0.below hbd
            have d1 := h1.below hbd
            have d2 := h2.below hbd
            have d10 := h10.below hbd
            have d11 := h11.below hbd
            have db := hb.trans (hbd.mono hb.size)
            clear h0 h1 h2 h10 h11 hb c0 c4
            have c1 : wd.cell? ⟨w1.heap.size + 1, 1, none⟩ = some (.int .u32 (b : Int)) := d11.cell 1
            have c2 : wd.cell? ⟨w1.heap.size + 1, 2, none⟩ = some (.int .u32 (c : Int)) := d11.cell 2
            have c5 : wd.cell? ⟨w1.heap.size + 1, 5, none⟩ = some (.int .u32 (f : Int)) := d11.cell 5
            have c6 : wd.cell? ⟨w1.heap.size + 1, 6, none⟩ = some (.int .u32 (g : Int)) := d11.cell 6
            have c7 : wd.cell? ⟨w1.heap.size + 1, 7, none⟩ = some (.int .u32 (h : Int)) := d11.cell 7
            have ck : wd.cell? ⟨w1.heap.size, i, none⟩ = some (.int .u32 (keyN i : Int)) := (d10.cell i).trans ((numsA_get _ _ i (by rw [keysI_length]; exact hlt')).trans (by rw [keysI_at i hlt']))
            have cw : wd.cell? ⟨w.heap.size + 2, i, none⟩ = some (.int .u32 (W (byt bs) i : Int)) := (d2.cell i).trans ((numsA_get _ _ i (by rw [wordsI_length]; exact hlt')).trans (by rw [wordsI_done _ _ _ hlt' hlt']))
            have lw := W_lt (byt bs) H8.out i
            have lk := keyN_lt i
            generalize hkk : keyN i = kk at *
            generalize hww : W (byt bs) i = ww at *
            clear hkk hww
            go_wp2_with fail
            have s9 : (i : Int) < 64 := by omega
            refine Qt.wp_region_all (fun w' => Below wd.heap.size wd w') (by kernel_rfl) (by kernel_rfl) (Below.refl _ _).drew ?_
            repeat (first
              | (with_reducible refine Qt.q_load_blk rfl 41 _ rfl _ _ _ rfl Tryd.underlying41 rfl infoW (fun w' hw' => b8.below hw') (by rw [boolsA_size, ofN_length]) (fun K hK => ?_); go_simp; refine hK _ ?_; clear hK K)
              | (with_reducible refine Qt.q_load_blk rfl 41 _ rfl _ _ _ rfl Tryd.underlying41 rfl infoW (fun w' hw' => b9.below hw') (by rw [boolsA_size, ofN_length]) (fun K hK => ?_); go_simp; refine hK _ ?_; clear hK K)
              | (refine Qt.q_val' rfl ?_; apply Exists.intro; refine ⟨?_, ?_⟩; (focus (intro w' hw'; have f5 := pw_cell_below hw' c5; have f6 := pw_cell_below hw' c6; have f7 := pw_cell_below hw' c7; have fk := pw_cell_below hw' ck; have fw := pw_cell_below hw' cw; go_simp; (first | rfl | done))); intro K hK; go_simp; refine hK _ ?_; clear hK K)
              | (refine Qt.q_call' rfl ?_; apply Exists.intro; apply Exists.intro; refine ⟨?_, ?_⟩; (focus (intro w'; go_simp; (first | rfl | exact ⟨rfl, rfl⟩))); apply Exists.intro; refine ⟨?_, ?_⟩; (focus (intro w' hw'; first | with_reducible exact Qt.under hw' (of_calls _ (by first | exact lf | exact lg | exact lb | exact lc) _) | with_reducible exact Qt.under hw' (turned_at _ _ (ofN_length _) (by decide) (by decide) _) | with_reducible exact Qt.under hw' (odd_calls _ _ _ (turnF_length _ _) (turnF_length _ _) (turnF_length _ _) _) | with_reducible exact Qt.under hw' (choice_calls _ _ _ (ofN_length _) (ofN_length _) (ofN_length _) _) | with_reducible exact Qt.under hw' (most_calls _ _ _ (ofN_length _) (ofN_length _) (ofN_length _) _) | with_reducible exact Qt.under hw' (number_calls _ (by first | exact oddF_length _ _ _ | exact choiceF_length _ _ _ | exact mostF_length _ _ _) _))); intro K hK; go_simp; refine hK _ ?_; clear hK K))
            (refine wpQuiet_nil ?_; intro w' hw')
            have e1 := one_wrap a b c d e f g h kk ww _ _ le lf lg rfl rfl
            have lo := oneN_lt ⟨a, b, c, d, e, f, g, h⟩ kk ww
            rw [e1]
            clear e1
            generalize hoo : oneN ⟨a, b, c, d, e, f, g, h⟩ kk ww = o1 at *
            have HOO := Aside0.mk hoo
            clear hoo
            go_wp2_with fail
            refine Qt.wp_region_all (fun w'' => Below wd.heap.size wd w'') (by kernel_rfl) (by kernel_rfl) hw'.drew ?_
            clear hw'
            repeat (first
              | (with_reducible refine Qt.q_load_blk rfl 41 _ rfl _ _ _ rfl Tryd.underlying41 rfl infoW (fun w' hw' => b8.below hw') (by rw [boolsA_size, ofN_length]) (fun K hK => ?_); go_simp; refine hK _ ?_; clear hK K)
              | (refine Qt.q_val' rfl ?_; apply Exists.intro; refine ⟨?_, ?_⟩; (focus (intro w' hw'; have f1 := pw_cell_below hw' c1; have f2 := pw_cell_below hw' c2; go_simp; (first | rfl | done))); intro K hK; go_simp; refine hK _ ?_; clear hK K)
              | (refine Qt.q_call' rfl ?_; apply Exists.intro; apply Exists.intro; refine ⟨?_, ?_⟩; (focus (intro w'; go_simp; (first | rfl | exact ⟨rfl, rfl⟩))); apply Exists.intro; refine ⟨?_, ?_⟩; (focus (intro w' hw'; first | with_reducible exact Qt.under hw' (of_calls _ (by first | exact lf | exact lg | exact lb | exact lc) _) | with_reducible exact Qt.under hw' (turned_at _ _ (ofN_length _) (by decide) (by decide) _) | with_reducible exact Qt.under hw' (odd_calls _ _ _ (turnF_length _ _) (turnF_length _ _) (turnF_length _ _) _) | with_reducible exact Qt.under hw' (choice_calls _ _ _ (ofN_length _) (ofN_length _) (ofN_length _) _) | with_reducible exact Qt.under hw' (most_calls _ _ _ (ofN_length _) (ofN_length _) (ofN_length _) _) | with_reducible exact Qt.under hw' (number_calls _ (by first | exact oddF_length _ _ _ | exact choiceF_length _ _ _ | exact mostF_length _ _ _) _))); intro K hK; go_simp; refine hK _ ?_; clear hK K))
            (refine wpQuiet_nil ?_; intro w' hw')
            have e1 := two_wrap a b c d e f g h _ _ la lb lc rfl rfl
            have lo2 := twoN_lt ⟨a, b, c, d, e, f, g, h⟩
            rw [e1]
            clear e1
            generalize htt : twoN ⟨a, b, c, d, e, f, g, h⟩ = t2 at *
            have HTT := Aside0.mk htt
            clear htt
            clear c1 c2 c5 c6 c7 ck cw
            have x11 := d11.below hw'
            have c0 : w'.cell? ⟨w1.heap.size + 1, 0, none⟩ = some (.int .u32 (a : Int)) := x11.cell 0
            have c1 : w'.cell? ⟨w1.heap.size + 1, 1, none⟩ = some (.int .u32 (b : Int)) := x11.cell 1
            have c2 : w'.cell? ⟨w1.heap.size + 1, 2, none⟩ = some (.int .u32 (c : Int)) := x11.cell 2
            have c3 : w'.cell? ⟨w1.heap.size + 1, 3, none⟩ = some (.int .u32 (d : Int)) := x11.cell 3
            have c4 : w'.cell? ⟨w1.heap.size + 1, 4, none⟩ = some (.int .u32 (e : Int)) := x11.cell 4
            have c5 : w'.cell? ⟨w1.heap.size + 1, 5, none⟩ = some (.int .u32 (f : Int)) := x11.cell 5
            have c6 : w'.cell? ⟨w1.heap.size + 1, 6, none⟩ = some (.int .u32 (g : Int)) := x11.cell 6
            have z0 := d0.below hw'
            have z1 := d1.below hw'
            have z2 := d2.below hw'
            have z10 := d10.below hw'
            have zb := db.trans (hw'.mono db.size)
            clear hbd b8 b9 d0 d1 d2 d10 d11 db hw' lw lk la lb lc ld le lf lg lh
            go_wp2_with (first
              | (with_reducible refine wpList_build_agg rfl 33 _ rfl (numsA .u32 [((o1 : Int) + t2) % 4294967296, a, b, c, ((d : Int) + o1) % 4294967296, e, f, g]) (fun w => by kernel_rfl) ?_)
              | (with_reducible refine wpList_store_blk rfl 33 _ _ rfl _ _ rfl rfl info8 (by simp [numsA_size]) (numsA_one _ _) x11 (by rw [numsA_size, S8.list_length]) ?_))
            go_roundw
            case rel => exact ⟨i + 1, by omega, by go_num, z0.rowFar (by omega) _, z1.rowFar (by omega) _, z2.rowFar (by omega) _, z10.rowFar (by omega) _, by
              rw [NX.out, step_cells a b c d e f g h kk ww o1 t2 HOO.out HTT.out]; exact x11.row _, below_setRow zb (by omega) _⟩
            case measure => simp [intOf]; omega
        · have ei : i = 64 := by omega
          rw [ei] at h11
          clear ei
          have t64 : decide ((i : Int) < 64) = false := by simp; omega
          have ok := roundsN_ok (byt bs) s HS.out 64
          generalize hst : roundsN (byt bs) s 64 = st at *
          have HST := Aside0.mk hst
          clear hst
          have OK := Aside0.mk ok
          clear ok
          go_wp2_with fail
          go_loopw [161] (fun v161 wr => ∃ i : Nat, i ≤ 8 ∧ v161 = .int .i64 (i : Int) ∧ Blk wr w.heap.size 33 (numsA .u32 (fillK (fun i => (addN s st).list.getD i 0) (fun i => s.list.getD i 0) 8 i)) ∧ Blk wr (w.heap.size + 1) 33 (numsA .u32 (zeros 8)) ∧
            Blk wr (w1.heap.size + 1) 33 (numsA .u32 st.list) ∧ Below w.heap.size w wr) (fun v161 _ => 8 - (intOf v161).toNat)
          case atStart => exact ⟨0, by omega, rfl, by rw [fillK_zero, list_range]; exact h0, h1, h11, hb⟩
          case round =>
            clear h0 h1 h2 h10 h11 hb
            obtain ⟨i, hi', rfl, h0, h1, h11, hb⟩ := hrel
            by_cases hlt' : i < 8
            · have t8 : decide ((i : Int) < 8) = true := by simp; omega
              have c0 := (h0.cell i).trans (numsA_get _ _ i (by rw [fillK_length]; exact hlt'))
              have fz := h0.frozen i
              rw [fillK_todo _ _ _ _ _ _ hlt' (Nat.le_refl _)] at c0
              have c1 := (h11.cell i).trans (numsA_get _ _ i (by rw [S8.list_length]; exact hlt'))
              have n0 := list_lt s HS.out i
              have n1 := list_lt st OK.out i
              have AD := Aside0.mk (add_at s st i hlt')
              generalize hv0 : s.list.getD i 0 = v0 at *
              generalize hv1 : st.list.getD i 0 = v1 at *
              clear hv0 hv1
              go_wp2_with fail
              have s9 : (i : Int) < 8 := by omega
              go_still_tail 9, (by kernel_rfl)
              go_wp2_with fail
              go_roundw
              case rel => exact ⟨i + 1, by omega, by go_num, by
                have := (h0.set i (.int .u32 ((v0 + v1) % 4294967296))).drew
                rw [numsA_set, fillK_set _ _ _ _ hlt' _ AD.out] at this
                exact this, (h1.far (by simp; try omega) _).drew, (h11.far (by simp; try omega) _).drew, (hb.setCell (by simp; try omega) _).drew⟩
              case measure => simp [intOf]; omega
            · obtain rfl : i = 8 := by omega
              rw [fillK_full, list_range] at h0
              go_wp2_with (first
                | (with_reducible refine wpList_load_blk rfl 33 _ rfl _ _ _ rfl Tryd.underlying33 rfl info8 h0 (by rw [numsA_size, S8.list_length]) ?_)
                | (with_reducible refine wpList_store_blk rfl 33 _ _ rfl _ _ rfl rfl info8 (by rw [numsA_size, S8.list_length]) (numsA_one _ _) h1 (by rw [numsA_size, zeros_length]) ?_))
              refine bodyPost_ret (v := .agg (numsA .u32 (takeN s (byt bs)).list)) (results_blk Tryd.results15 _ _ _ _ _ rfl info8 Tryd.underlying33 rfl (by unfold takeN; rw [HST.out]; exact h1.row _) (by rw [numsA_size, S8.list_length])) rfl ⟨rfl, below_setRow hb (by simp; try omega) _⟩
end Go.Proofs.YtlhapohpedihjaaDoor.Sha
