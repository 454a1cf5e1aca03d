/- The law HedgeRanks: its walk. -/
import Derived.Test.YtcgfdnhocdcfjaaHps
import Derived.Laws.Cover1
namespace Go.Proofs.Ytcgfdnhocdcfjaa.Hed
open Go.RowKit Go.Proofs.YtcgfdnhocdcfjaaW.PrintWords Go.Proofs.Ytcgfdnhocdcfjaa.Arr Go.Proofs.Ytcgfdnhocdcfjaa.Utf Go.Proofs.Ytcgfdnhocdcfjaa.PHedgePlays T
set_option linter.unusedVariables false
set_option linter.unusedSimpArgs false

set_option maxHeartbeats 8000000 in
set_option maxRecDepth 100000 in
theorem lawRanks_calls (ks : List ByteArray) (hks : ∀ k, k ∈ ks → k.size ≤ 9223372036854775807) (A : Option Addr) (c : Nat) (w : World) (hC : Kd.C Kd.string w A ks.length ks) (hc : ks.length ≤ c) (hkl : ks.length ≤ 9223372036854775807) :
    Calls Try.prog 4 #[.slice A ks.length c] w fun e w' => e = .returned (.bool true) ∧ Below w.heap.size w w' := by
  have HC := Aside0.mk hC
  have HKS := Aside0.mk hks
  clear hC hks
  go_enter Try.func4, Try.ntmps4
  go_wp2_with fail
  refine (newL_calls w).mono ?_
  rintro e w1 ⟨h, rfl, hH, b1⟩
  have H1 := Aside0.mk hH
  have B1 := Aside0.mk b1
  clear hH b1
  go_wp2_with fail
  refine (awake_calls w1).mono ?_
  rintro e w2 ⟨rfl, b2⟩
  have H2 := Aside0.mk (H1.out.below b2)
  have B2 := Aside0.mk (B1.out.trans (b2.mono B1.out.size))
  clear b2 H1 B1
  by_cases h100 : ks.length > 100
  · have t1 : decide ((ks.length : Int) > 100) = true := decide_eq_true (by omega)
    go_wp2_with fail
    refine (awake_calls w2).mono ?_
    rintro e w3 ⟨rfl, b3⟩
    have B3 := Aside0.mk (B2.out.trans (b3.mono B2.out.size))
    clear b3
    go_wp2
    go_ret
    exact ⟨rfl, B3.out⟩
  have hk100 : ks.length ≤ 100 := by omega
  have t1 : decide ((ks.length : Int) > 100) = false := decide_eq_false (by omega)
  obtain ⟨n, hn⟩ : ∃ n, ks.length = n := ⟨_, rfl⟩
  have HN := Aside0.mk hn
  rw [hn] at t1 hk100 hc hkl ⊢
  clear h100 hn
  go_wp2_with fail
  clear t1
  go_loopw [4, 5, 26] (fun v4 v5 v26 wr => ∃ i : Nat, v26 = .int .i64 (i : Int) ∧ Aside0 (i ≤ n) ∧ Aside0 (HL w.heap.size wr h (putsE numI (ks.take i) 0 [])) ∧ Aside0 (Below w.heap.size w wr)) (fun _ _ v26 _ => n - (intOf v26).toNat)
  case atStart => exact ⟨0, rfl, ⟨Nat.zero_le _⟩, H2, B2⟩
  case round =>
    obtain ⟨i, rfl, hin, hH, hb⟩ := hrel
    by_cases hi : i < n
    · have t1 : decide ((i : Int) < (n : Int)) = true := decide_eq_true (by omega)
      have hik : i < ks.length := by have := HN.out; omega
      obtain ⟨ad, eA, hx⟩ := str_at (Kd.C_below HC.out hb.out) i hik
      cases eA
      have hsz := HKS.out ks[i] (List.getElem_mem hik)
      have HT := Aside0.mk (puts_take numI ks i hik)
      have hln := putsE_len numI (ks.take i) 0 [] List.Pairwise.nil
      rw [List.length_take, List.length_nil] at hln
      obtain ⟨kk, hkk⟩ : ∃ kk, ks[i] = kk := ⟨_, rfl⟩
      rw [hkk] at hx hsz HT
      have h0 : (0 : Int) ≤ (i : Int) := by omega
      have h1 : (i : Int) < (n : Int) := by omega
      have p0 := eq_true h0
      have p1 := eq_true h1
      have hw : IntKind.i64.wrap ((i : Int) + 1) = ((i + 1 : Nat) : Int) := by rw [show ((i : Int) + 1) = ((i + 1 : Nat) : Int) by omega]; exact IntWalk.i64_in _ (by omega)
      by_cases hs : kk.size > 200
      · have t3 : decide ((kk.size : Int) > 200) = true := decide_eq_true (by omega)
        go_wp2
        go_ret
        exact ⟨rfl, hb.out⟩
      · have t3 : decide ((kk.size : Int) > 200) = false := decide_eq_false (by omega)
        have K := Aside0.mk (putL_calls hH.out kk (i : Int) (by omega) (by omega) hb.out.size)
        obtain ⟨qq, hqq⟩ : ∃ qq, (!((putsE numI (ks.take i) 0 []).any (eqK kk))) = qq := ⟨_, rfl⟩
        rw [hqq] at K
        clear hkk hqq hln
        go_wp2_with fail
        refine K.out.mono ?_
        rintro e w3 ⟨rfl, hH3, hb3⟩
        have H3 : Aside0 (HL w.heap.size w3 h (putsE numI (ks.take (i + 1)) 0 [])) := ⟨by rw [HT.out]; exact hH3⟩
        have B3 := Aside0.mk (hb.out.trans hb3)
        clear hH3 hb3 hx
        go_wp2
        go_roundw
        case rel => exact ⟨i + 1, by first | rfl | (rw [hw]) | go_num | simp [hw], ⟨by omega⟩, H3, B3⟩
        case measure => simp [intOf, hw]; omega
    · have t1 : decide ((i : Int) < (n : Int)) = false := decide_eq_false (by omega)
      have e3 : i = n := by have := hin.out; omega
      subst e3
      have hln := putsE_len numI (ks.take i) 0 [] List.Pairwise.nil
      rw [List.length_take, List.length_nil] at hln
      have HSR := Aside0.mk (putsE_srt numI (ks.take i) 0 [] List.Pairwise.nil)
      have HM : Aside0 (∀ e, e ∈ putsE numI (ks.take i) 0 [] → ∃ j, ∃ hj : j < ks.length, e = (ks[j], (j : Int))) := ⟨fun e he => by
        rcases putsE_mem numI _ _ _ _ he with h | ⟨j, hj, rfl⟩
        · cases h
        · rw [List.length_take] at hj
          exact ⟨j, by omega, by rw [List.getElem_take, Nat.zero_add]; rfl⟩⟩
      obtain ⟨L, hL⟩ : ∃ L, putsE numI (ks.take i) 0 [] = L := ⟨_, rfl⟩
      rw [hL] at hH hln HSR HM
      clear hL
      obtain ⟨ln, hlen⟩ : ∃ ln, L.length = ln := ⟨_, rfl⟩
      have HLN := Aside0.mk hlen
      have hl100 : ln ≤ 100 := by omega
      have KF := Aside0.mk (fromL_calls hH.out ⟨#[]⟩ 1073741824 (by omega))
      rw [hi_empty, List.take_of_length_le (show L.length ≤ (1073741824 : Int).toNat by show _ ≤ 1073741824; omega)] at KF
      clear hlen hln
      go_wp2_with fail
      refine KF.out.mono ?_
      rintro e w3 ⟨vo, rfl, hRF, b3⟩
      obtain ⟨AF, cF, rfl, hcF, hCF⟩ := Kd.R_reads hRF
      rw [List.length_map, HLN.out] at hcF hCF ⊢
      have H3 := Aside0.mk (hH.out.below b3)
      have B3 := Aside0.mk (hb.out.trans (b3.mono hb.out.size))
      have CF := Aside0.mk hCF
      have KL := Aside0.mk (lenL_calls H3.out)
      rw [HLN.out] at KL
      clear hRF hCF b3 hH hb KF
      go_wp2_with fail
      refine KL.out.mono ?_
      rintro e w4 ⟨rfl, b4⟩
      have H4 := Aside0.mk (H3.out.below b4)
      have B4 := Aside0.mk (B3.out.trans (b4.mono B3.out.size))
      have CF4 := Aside0.mk (Kd.C_below CF.out b4)
      clear b4 H3 B3 KL CF
      go_wp2_with fail
      go_loopw [7, 8, 9, 10, 48] (fun v7 v8 v9 v10 v48 wr => ∃ i : Nat, v48 = .int .i64 (i : Int) ∧ Aside0 (i ≤ ln) ∧ Aside0 (Below w4.heap.size w4 wr)) (fun _ _ _ _ v48 _ => ln - (intOf v48).toNat)
      case atStart => exact ⟨0, rfl, ⟨Nat.zero_le _⟩, ⟨Below.refl _ _⟩⟩
      case round =>
        obtain ⟨j, rfl, hjn, hjb⟩ := hrel
        by_cases hj : j < ln
        · have t7 : decide ((j : Int) < (ln : Int)) = true := decide_eq_true (by omega)
          have hjL : j < L.length := by have := HLN.out; omega
          have h0 : (0 : Int) ≤ (j : Int) := by omega
          have h1 : (j : Int) < (ln : Int) := by omega
          obtain ⟨ad, eA, x0, x1⟩ := at_T32 (Kd.C_below CF4.out hjb.out) (j : Int) h0 h1
          cases eA
          have hrd : rd_T32 (L.map toS) (j : Int) = toS L[j] := by unfold rd_T32; simp [List.getD, hjL]
          rw [hrd] at x0 x1
          rw [Int.toNat_natCast] at x0 x1
          obtain ⟨i0, hi0, hLj⟩ := HM.out L[j] (List.getElem_mem hjL)
          have hfd := find_at HSR.out j hjL
          have hrk := rank_at L HSR.out j hjL
          have hks0 : i0 < i := by have := HN.out; omega
          obtain ⟨k0, hk0⟩ : ∃ k0, ks[i0] = k0 := ⟨_, rfl⟩
          obtain ⟨ak, eA, hx⟩ := str_at (Kd.C_below HC.out (B4.out.trans (hjb.out.mono B4.out.size))) i0 hi0
          cases eA
          rw [hk0] at hLj hx
          have HLJ := Aside0.mk hLj
          rw [hLj] at x0 x1 hfd hrk
          simp only [toS] at x0 x1 hfd hrk
          have p0 := eq_true h0
          have p1 := eq_true h1
          have q0 : (0 : Int) ≤ (i0 : Int) := by omega
          have q1 : (i0 : Int) < (i : Int) := by omega
          have q2 := eq_true q0
          have q3 := eq_true q1
          have KG := Aside0.mk (fun W (hb : Below w4.heap.size w4 W) => getL_calls (H4.out.below hb) k0)
          have KR := Aside0.mk (fun W (hb : Below w4.heap.size w4 W) => rankL_calls (H4.out.below hb) k0 (by have := HLN.out; omega))
          rw [hfd] at KG
          rw [hrk] at KR
          have hlast : ∀ (hp : 0 < j), Aside0 (∃ k1 n1, Op.bytesLess k1.toList k0.toList = true ∧ L[j - 1]'(Nat.lt_of_le_of_lt (Nat.sub_le _ _) hjL) = (k1, n1)) := fun hp => ⟨_, _, by
            rw [bytes_lt]
            have := srt_at HSR.out (j - 1) j (by omega) hjL (by omega)
            rw [hLj] at this
            exact this, rfl⟩
          clear hrd hk0 hLj hfd hrk
          obtain ⟨W9, hW9⟩ : ∃ W9, wr.alloc (.cells #[.string k0, .int .i64 (i0 : Int)] TEn) = W9 := ⟨_, rfl⟩
          have b9 : Below wr.heap.size wr W9 := by rw [← hW9]; exact (Below.refl _ _).alloc (Nat.le_refl _) _
          have hE9 : Blk W9 wr.heap.size TEn #[.string k0, .int .i64 (i0 : Int)] := by rw [← hW9]; exact Blk.new _ _ _
          have e0 := hE9.cell 0
          have e1 := hE9.cell 1
          have el := hE9.lt
          have E9 := Aside0.mk hE9
          have B9 := Aside0.mk b9
          have hw : IntKind.i64.wrap ((j : Int) + 1) = ((j + 1 : Nat) : Int) := by rw [show ((j : Int) + 1) = ((j + 1 : Nat) : Int) by omega]; exact IntWalk.i64_in _ (by omega)
          have KG' := Aside0.mk (KG.out W9 (hjb.out.trans (b9.mono hjb.out.size)))
          clear hE9 b9 KG
          go_wp2_with fail
          refine KG'.out.mono ?_
          rintro e w5 ⟨rfl, b5⟩
          have E5 := Aside0.mk (E9.out.below b5)
          have B5 := Aside0.mk (hjb.out.trans ((B9.out.trans (b5.mono B9.out.size)).mono hjb.out.size))
          have hx5 := (b5.cell (World.block_lt_of_cell? W9 _ ((B9.out.cell (World.block_lt_of_cell? wr _ hx)).trans hx))).trans ((B9.out.cell (World.block_lt_of_cell? wr _ hx)).trans hx)
          have CF5 := Aside0.mk (Kd.C_below CF4.out B5.out)
          clear b5 KG' hx x0 x1 e0 e1 el hW9 E9 B9
          by_cases hj0 : j = 0
          · have t8 : decide ((j : Int) > 0) = false := decide_eq_false (by omega)
            have t8n : decide (0 < j) = false := decide_eq_false (by omega)
            have t8m : (0 < j) = False := eq_false (by omega)
            go_wp2_with fail
            refine Qt.wp_region_all (fun w' => Below w5.heap.size w5 w') (by kernel_rfl) (by kernel_rfl) (Below.refl _ _).drew ?_
            iterate 3 ((first | (with_reducible refine Qt.q_val' rfl ?_) | ((with_reducible refine Qg.on_val' ?_); apply Exists.intro; apply Exists.intro; apply Exists.intro; refine ⟨?_, ?_, ?_, ?_⟩; (focus rfl); (focus rfl); (focus rfl))); apply Exists.intro; refine ⟨?_, ?_⟩; (focus (intro w' hw'; have hEw := E5.out.below hw'; have e0 := hEw.cell 0; have e1 := hEw.cell 1; have el := hEw.lt; have z0 := (hw'.cell (World.block_lt_of_cell? w5 _ hx5)).trans hx5; go_simp; (first | done | (with_reducible rfl)))); intro K hK; go_simp; (first | (with_reducible refine hK _ ?_) | (refine hK _ ?_)); clear hK K)
            ((first | (with_reducible refine Qt.q_call' rfl ?_) | ((with_reducible refine Qg.on_call' ?_); apply Exists.intro; apply Exists.intro; apply Exists.intro; refine ⟨?_, ?_, ?_, ?_⟩; (focus rfl); (focus rfl); (focus rfl))); apply Exists.intro; apply Exists.intro; refine ⟨?_, ?_⟩; (focus (intro w'; go_simp; (first | rfl | exact ⟨rfl, rfl⟩))); apply Exists.intro; refine ⟨?_, ?_⟩; (focus (intro w' hw'; first | exact Qt.under hw' (KR.out _ (B5.out.trans (hw'.mono B5.out.size))))); intro K hK; go_simp; (first | (with_reducible refine hK _ ?_) | (refine hK _ ?_)); clear hK K)
            iterate 16 ((first | (with_reducible refine Qt.q_val' rfl ?_) | ((with_reducible refine Qg.on_val' ?_); apply Exists.intro; apply Exists.intro; apply Exists.intro; refine ⟨?_, ?_, ?_, ?_⟩; (focus rfl); (focus rfl); (focus rfl))); apply Exists.intro; refine ⟨?_, ?_⟩; (focus (intro w' hw'; have hEw := E5.out.below hw'; have e0 := hEw.cell 0; have e1 := hEw.cell 1; have el := hEw.lt; have z0 := (hw'.cell (World.block_lt_of_cell? w5 _ hx5)).trans hx5; go_simp; (first | done | (with_reducible rfl)))); intro K hK; go_simp; (first | (with_reducible refine hK _ ?_) | (refine hK _ ?_)); clear hK K)
            iterate 9 ((first | ((with_reducible refine Qg.off' ?_); apply Exists.intro; apply Exists.intro; apply Exists.intro; refine ⟨?_, ?_, ?_, ?_⟩; (focus rfl); (focus rfl); (focus rfl)) | ((with_reducible refine Qg.never' ?_); apply Exists.intro; apply Exists.intro; apply Exists.intro; refine ⟨?_, ?_, ?_, ?_⟩; (focus rfl); (focus rfl); (focus rfl))); intro K hK; go_simp; (first | (with_reducible refine hK _ ?_) | (refine hK _ ?_)); clear hK K)
            iterate 12 ((first | (with_reducible refine Qt.q_val' rfl ?_) | ((with_reducible refine Qg.on_val' ?_); apply Exists.intro; apply Exists.intro; apply Exists.intro; refine ⟨?_, ?_, ?_, ?_⟩; (focus rfl); (focus rfl); (focus rfl))); apply Exists.intro; refine ⟨?_, ?_⟩; (focus (intro w' hw'; have hEw := E5.out.below hw'; have e0 := hEw.cell 0; have e1 := hEw.cell 1; have el := hEw.lt; have z0 := (hw'.cell (World.block_lt_of_cell? w5 _ hx5)).trans hx5; go_simp; (first | done | (with_reducible rfl)))); intro K hK; go_simp; (first | (with_reducible refine hK _ ?_) | (refine hK _ ?_)); clear hK K)
            (refine wpQuiet_nil ?_; intro w' hw')
            have BW := Aside0.mk (B5.out.trans (hw'.mono B5.out.size))
            clear hw'
            go_wp2
            go_roundw
            case rel => exact ⟨j + 1, by first | rfl | (rw [hw]) | go_num | simp [hw], ⟨by omega⟩, BW⟩
            case measure => simp [intOf, hw]; omega
          · have t8 : decide ((j : Int) > 0) = true := decide_eq_true (by omega)
            have t8n : decide (0 < j) = true := decide_eq_true (by omega)
            have t8m : (0 < j) = True := eq_true (by omega)
            obtain ⟨k1, n1, hlt, hL1⟩ := (hlast (by omega)).out
            have hw1 : IntKind.i64.wrap ((j : Int) - 1) = ((j - 1 : Nat) : Int) := by rw [show ((j : Int) - 1) = ((j - 1 : Nat) : Int) by omega]; exact IntWalk.i64_in _ (by omega)
            have m0 : (0 : Int) ≤ ((j - 1 : Nat) : Int) := by omega
            have m1 : ((j - 1 : Nat) : Int) < (ln : Int) := by omega
            have m2 := eq_true m0
            have m3 := eq_true m1
            obtain ⟨ad', eA, y0, y1⟩ := at_T32 CF5.out ((j - 1 : Nat) : Int) m0 m1
            cases eA
            have hrd1 : rd_T32 (L.map toS) ((j - 1 : Nat) : Int) = toS (k1, n1) := by
              have hjl1 : j - 1 < L.length := by omega
              unfold rd_T32
              rw [← hL1]
              simp [List.getD, hjl1]
            rw [hrd1] at y0 y1
            rw [Int.toNat_natCast] at y0 y1
            simp only [toS] at y0 y1
            clear hrd1 hL1
            obtain ⟨jp, hjp⟩ : ∃ jp, j - 1 = jp := ⟨_, rfl⟩
            rw [hjp] at hw1 m0 m1 m2 m3 y0 y1
            clear hjp
            go_wp2_with fail
            refine Qt.wp_region_all (fun w' => Below w5.heap.size w5 w') (by kernel_rfl) (by kernel_rfl) (Below.refl _ _).drew ?_
            iterate 3 ((first | (with_reducible refine Qt.q_val' rfl ?_) | ((with_reducible refine Qg.on_val' ?_); apply Exists.intro; apply Exists.intro; apply Exists.intro; refine ⟨?_, ?_, ?_, ?_⟩; (focus rfl); (focus rfl); (focus rfl))); apply Exists.intro; refine ⟨?_, ?_⟩; (focus (intro w' hw'; have hEw := E5.out.below hw'; have e0 := hEw.cell 0; have e1 := hEw.cell 1; have el := hEw.lt; have z0 := (hw'.cell (World.block_lt_of_cell? w5 _ hx5)).trans hx5; go_simp; (first | done | (with_reducible rfl)))); intro K hK; go_simp; (first | (with_reducible refine hK _ ?_) | (refine hK _ ?_)); clear hK K)
            ((first | (with_reducible refine Qt.q_call' rfl ?_) | ((with_reducible refine Qg.on_call' ?_); apply Exists.intro; apply Exists.intro; apply Exists.intro; refine ⟨?_, ?_, ?_, ?_⟩; (focus rfl); (focus rfl); (focus rfl))); apply Exists.intro; apply Exists.intro; refine ⟨?_, ?_⟩; (focus (intro w'; go_simp; (first | rfl | exact ⟨rfl, rfl⟩))); apply Exists.intro; refine ⟨?_, ?_⟩; (focus (intro w' hw'; first | exact Qt.under hw' (KR.out _ (B5.out.trans (hw'.mono B5.out.size))))); intro K hK; go_simp; (first | (with_reducible refine hK _ ?_) | (refine hK _ ?_)); clear hK K)
            iterate 37 ((first | (with_reducible refine Qt.q_val' rfl ?_) | ((with_reducible refine Qg.on_val' ?_); apply Exists.intro; apply Exists.intro; apply Exists.intro; refine ⟨?_, ?_, ?_, ?_⟩; (focus rfl); (focus rfl); (focus rfl))); apply Exists.intro; refine ⟨?_, ?_⟩; (focus (intro w' hw'; have hEw := E5.out.below hw'; have e0 := hEw.cell 0; have e1 := hEw.cell 1; have el := hEw.lt; have z0 := (hw'.cell (World.block_lt_of_cell? w5 _ hx5)).trans hx5; have y0' := (hw'.cell (World.block_lt_of_cell? w5 _ y0)).trans y0; go_simp; (first | done | (with_reducible rfl)))); intro K hK; go_simp; (first | (with_reducible refine hK _ ?_) | (refine hK _ ?_)); clear hK K)
            (refine wpQuiet_nil ?_; intro w' hw')
            have BW := Aside0.mk (B5.out.trans (hw'.mono B5.out.size))
            clear hw'
            go_wp2
            go_roundw
            case rel => exact ⟨j + 1, by first | rfl | (rw [hw]) | go_num | simp [hw], ⟨by omega⟩, BW⟩
            case measure => simp [intOf, hw]; omega
        · have t7 : decide ((j : Int) < (ln : Int)) = false := decide_eq_false (by omega)
          have H5 := Aside0.mk (H4.out.below hjb.out)
          have B5 := Aside0.mk (B4.out.trans (hjb.out.mono B4.out.size))
          have K0 := Aside0.mk (fromL_calls H5.out ⟨#[]⟩ 0 (by have := HLN.out; omega))
          go_wp2_with fail
          refine K0.out.mono ?_
          rintro e w6 ⟨vo, rfl, hR6, b6⟩
          obtain ⟨A6, c6, rfl, hc6, hC6⟩ := Kd.R_reads hR6
          have B6 := Aside0.mk (B5.out.trans (b6.mono B5.out.size))
          have K1 := Aside0.mk (fromL_calls (H5.out.below b6) ⟨#[]⟩ (-1) (by have := HLN.out; omega))
          clear hC6 hR6 b6 K0
          go_wp2_with fail
          refine K1.out.mono ?_
          rintro e w7 ⟨vo, rfl, hR7, b7⟩
          obtain ⟨A7, c7, rfl, hc7, hC7⟩ := Kd.R_reads hR7
          have B7 := Aside0.mk (B6.out.trans (b7.mono B6.out.size))
          clear hC7 hR7 b7 K1
          go_wp2
          go_ret
          exact ⟨rfl, B7.out⟩
end Go.Proofs.Ytcgfdnhocdcfjaa.Hed
