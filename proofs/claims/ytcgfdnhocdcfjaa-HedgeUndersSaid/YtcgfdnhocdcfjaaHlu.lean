/- The law HedgeUnders: its walk. -/
import Derived.Test.YtcgfdnhocdcfjaaHaw
import Derived.Test.YtcgfdnhocdcfjaaHpf
namespace Go.Proofs.Ytcgfdnhocdcfjaa.Hed
open Go.RowKit Go.Proofs.YtcgfdnhocdcfjaaW.PrintWords Go.Proofs.Ytcgfdnhocdcfjaa.Arr Go.Proofs.Ytcgfdnhocdcfjaa.Utf Go.Proofs.Ytcgfdnhocdcfjaa.PHedgePlays T
set_option linter.unusedVariables false
set_option linter.unusedSimpArgs false

/-- The list behind the first i puts. -/
def putsE (num : Nat → Int) : List ByteArray → Nat → List Ent → List Ent
  | [], _, l => l
  | k :: ks, i, l => putsE num ks (i + 1) (putE l k (num i))
theorem putsE_snoc (num : Nat → Int) (k : ByteArray) : ∀ (ks : List ByteArray) (i : Nat) (l : List Ent), putsE num (ks ++ [k]) i l = putE (putsE num ks i l) k (num (i + ks.length))
  | [], i, l => rfl
  | a :: ks, i, l => by
    simp only [List.cons_append, putsE, List.length_cons]
    rw [putsE_snoc num k ks, show i + 1 + ks.length = i + (ks.length + 1) by omega]
theorem putsE_srt (num : Nat → Int) : ∀ (ks : List ByteArray) (i : Nat) (l : List Ent), Srt l → Srt (putsE num ks i l)
  | [], _, _, h => h
  | k :: ks, i, l, h => putsE_srt num ks (i + 1) _ (srt_put h k _)
theorem putsE_len (num : Nat → Int) : ∀ (ks : List ByteArray) (i : Nat) (l : List Ent), Srt l → (putsE num ks i l).length ≤ l.length + ks.length
  | [], _, _, _ => Nat.le_refl _
  | k :: ks, i, l, h => by
    have h1 := putsE_len num ks (i + 1) _ (srt_put h k (num i))
    have h2 := put_len l k (num i) h
    simp only [putsE, List.length_cons]
    omega
def numI (i : Nat) : Int := (i : Int)
theorem puts_take (num : Nat → Int) (ks : List ByteArray) (i : Nat) (h : i < ks.length) : putsE num (ks.take (i + 1)) 0 [] = putE (putsE num (ks.take i) 0 []) ks[i] (num i) := by
  rw [← List.take_append_getElem h, putsE_snoc, List.length_take, Nat.min_eq_left (Nat.le_of_lt h), Nat.zero_add]
theorem str_at {w : World} {A : Option Addr} {ks : List ByteArray} (h : Kd.C Kd.string w A ks.length ks) (i : Nat) (hi : i < ks.length) : ∃ ad, A = some ad ∧ w.cell? (ad.add i) = some (.string ks[i]) := by
  have h2 : ReadsOf Value.string ⟨#[]⟩ w A ks.length ks := Kd.reads_of_C h
  obtain ⟨ad, e, hc⟩ := h2.2.2 (by omega)
  refine ⟨ad, e, ?_⟩
  rw [hc i hi]
  simp [List.getD, hi]
set_option maxHeartbeats 8000000 in
set_option maxRecDepth 100000 in
theorem lawUnders_calls (ks : List ByteArray) (p : ByteArray) (hks : ∀ k, k ∈ ks → k.size ≤ 9223372036854775807) (hp : p.size ≤ 9223372036854775807) (A : Option Addr) (c : Nat) (w : World) (hC : Kd.C Kd.string w A ks.length ks) (hc : ks.length ≤ c) (hkl : ks.length ≤ 9223372036854775807) :
    Calls Try.prog 3 #[.slice A ks.length c, .string p] w fun e w' => e = .returned (.bool true) ∧ Below w.heap.size w w' := by
  have HC := Aside0.mk hC
  have HKS := Aside0.mk hks
  clear hC hks
  go_enter Try.func3, Try.ntmps3
  go_wp2_with fail
  refine (newL_calls w).mono ?_
  rintro e w1 ⟨h, rfl, hH, b1⟩
  have H1 := Aside0.mk hH
  have B1 := Aside0.mk b1
  clear hH b1
  go_wp2_with fail
  refine (awake_calls w1).mono ?_
  rintro e w2 ⟨rfl, b2⟩
  have H2 := Aside0.mk (H1.out.below b2)
  have B2 := Aside0.mk (B1.out.trans (b2.mono B1.out.size))
  clear b2 H1 B1
  by_cases hbig : ks.length > 60 ∨ p.size > 100
  · by_cases h60 : ks.length > 60
    · have t1 : decide ((ks.length : Int) > 60) = true := decide_eq_true (by omega)
      go_wp2_with fail
      refine (awake_calls w2).mono ?_
      rintro e w3 ⟨rfl, b3⟩
      have B3 := Aside0.mk (B2.out.trans (b3.mono B2.out.size))
      clear b3
      go_wp2
      go_ret
      exact ⟨rfl, B3.out⟩
    · have t1 : decide ((ks.length : Int) > 60) = false := decide_eq_false (by omega)
      have t2 : decide ((p.size : Int) > 100) = true := decide_eq_true (by omega)
      go_wp2_with fail
      refine (awake_calls w2).mono ?_
      rintro e w3 ⟨rfl, b3⟩
      have B3 := Aside0.mk (B2.out.trans (b3.mono B2.out.size))
      clear b3
      go_wp2
      go_ret
      exact ⟨rfl, B3.out⟩
  have hk60 : ks.length ≤ 60 := by omega
  have hp100 : p.size ≤ 100 := by omega
  have t1 : decide ((ks.length : Int) > 60) = false := decide_eq_false (by omega)
  have t2 : decide ((p.size : Int) > 100) = false := decide_eq_false (by omega)
  obtain ⟨n, hn⟩ : ∃ n, ks.length = n := ⟨_, rfl⟩
  have HN := Aside0.mk hn
  rw [hn] at t1 hk60 hc hkl ⊢
  clear hbig hn
  go_wp2_with fail
  clear t1
  go_loopw [6, 7, 33] (fun v6 v7 v33 wr => ∃ i : Nat, v33 = .int .i64 (i : Int) ∧ Aside0 (i ≤ n) ∧ Aside0 (HL w.heap.size wr h (putsE numI (ks.take i) 0 [])) ∧ Aside0 (Below w.heap.size w wr)) (fun _ _ v33 _ => n - (intOf v33).toNat)
  case atStart => exact ⟨0, rfl, ⟨Nat.zero_le _⟩, H2, B2⟩
  case round =>
    obtain ⟨i, rfl, hin, hH, hb⟩ := hrel
    by_cases hi : i < n
    · have t1 : decide ((i : Int) < (n : Int)) = true := decide_eq_true (by omega)
      have hik : i < ks.length := by have := HN.out; omega
      obtain ⟨ad, eA, hx⟩ := str_at (Kd.C_below HC.out hb.out) i hik
      cases eA
      have hsz := HKS.out ks[i] (List.getElem_mem hik)
      have HT := Aside0.mk (puts_take numI ks i hik)
      have hln := putsE_len numI (ks.take i) 0 [] List.Pairwise.nil
      rw [List.length_take, List.length_nil] at hln
      obtain ⟨kk, hkk⟩ : ∃ kk, ks[i] = kk := ⟨_, rfl⟩
      rw [hkk] at hx hsz HT
      have h0 : (0 : Int) ≤ (i : Int) := by omega
      have h1 : (i : Int) < (n : Int) := by omega
      have p0 := eq_true h0
      have p1 := eq_true h1
      have hw : IntKind.i64.wrap ((i : Int) + 1) = ((i + 1 : Nat) : Int) := by rw [show ((i : Int) + 1) = ((i + 1 : Nat) : Int) by omega]; exact IntWalk.i64_in _ (by omega)
      by_cases hs : kk.size > 200
      · have t3 : decide ((kk.size : Int) > 200) = true := decide_eq_true (by omega)
        go_wp2
        go_ret
        exact ⟨rfl, hb.out⟩
      · have t3 : decide ((kk.size : Int) > 200) = false := decide_eq_false (by omega)
        have K := Aside0.mk (putL_calls hH.out kk (i : Int) (by omega) (by omega) hb.out.size)
        obtain ⟨qq, hqq⟩ : ∃ qq, (!((putsE numI (ks.take i) 0 []).any (eqK kk))) = qq := ⟨_, rfl⟩
        rw [hqq] at K
        clear hkk hqq hln
        go_wp2_with fail
        refine K.out.mono ?_
        rintro e w3 ⟨rfl, hH3, hb3⟩
        have H3 : Aside0 (HL w.heap.size w3 h (putsE numI (ks.take (i + 1)) 0 [])) := ⟨by rw [HT.out]; exact hH3⟩
        have B3 := Aside0.mk (hb.out.trans hb3)
        clear hH3 hb3 hx
        go_wp2
        go_roundw
        case rel => exact ⟨i + 1, by first | rfl | (rw [hw]) | go_num | simp [hw], ⟨by omega⟩, H3, B3⟩
        case measure => simp [intOf, hw]; omega
    · have t1 : decide ((i : Int) < (n : Int)) = false := decide_eq_false (by omega)
      have e3 : i = n := by have := hin.out; omega
      subst e3
      have hln := putsE_len numI (ks.take i) 0 [] List.Pairwise.nil
      rw [List.length_take, List.length_nil] at hln
      have hSr := putsE_srt numI (ks.take i) 0 [] List.Pairwise.nil
      obtain ⟨L, hL⟩ : ∃ L, putsE numI (ks.take i) 0 [] = L := ⟨_, rfl⟩
      rw [hL] at hH hln hSr
      have HSR := Aside0.mk hSr
      clear hL hSr
      have KU := Aside0.mk (underL_calls hH.out p 1073741824 (by omega))
      have hFl : (L.filter (Hed.hi p)).length ≤ 60 := Nat.le_trans (List.length_filter_le _ _) (by omega)
      have hsum := lo_hi_len L p
      obtain ⟨F, hF⟩ : ∃ F, L.filter (Hed.hi p) = F := ⟨_, rfl⟩
      have htk : F.take (1073741824 : Int).toNat = F := List.take_of_length_le (by rw [← hF]; show _ ≤ 1073741824; omega)
      have hUl : (F.takeWhile (fun e => pre p e.1)).length ≤ F.length := (List.takeWhile_prefix _).length_le
      have HU1 := Aside0.mk (show ∀ i (h : i < F.length), pre p F[i].1 = decide (i < (F.takeWhile (fun e => pre p e.1)).length) from
        take_while_at _ F ((pre_pairs p F (by rw [← hF]; exact srt_filter HSR.out _) (fun e he => by rw [← hF] at he; exact (List.mem_filter.1 he).2)).imp (fun h1 h2 => (pre_iff _ _).2 (h1 ((pre_iff _ _).1 h2)))))
      have HU2 := Aside0.mk (show ∀ i (h : i < (F.takeWhile (fun e => pre p e.1)).length) (h' : i < F.length), (F.takeWhile (fun e => pre p e.1))[i] = F[i] from take_while_get _ F)
      rw [hF, htk] at KU
      rw [hF] at hFl hsum
      obtain ⟨U, hU⟩ : ∃ U, F.takeWhile (fun e => pre p e.1) = U := ⟨_, rfl⟩
      rw [hU] at KU HU1 HU2 hUl
      have HF := Aside0.mk hF
      have HTK := Aside0.mk htk
      obtain ⟨ul, hul⟩ : ∃ ul, U.length = ul := ⟨_, rfl⟩
      obtain ⟨fl, hfl⟩ : ∃ fl, F.length = fl := ⟨_, rfl⟩
      have HULN := Aside0.mk hul
      have HFLN := Aside0.mk hfl
      rw [hul, hfl] at hUl
      rw [hfl] at hFl hsum
      clear hF htk hU hul hfl
      go_wp2_with fail
      refine KU.out.mono ?_
      rintro e w3 ⟨vo, rfl, hRU, b3⟩
      obtain ⟨AU, cU, rfl, hcU, hCU⟩ := Kd.R_reads hRU
      rw [List.length_map, HULN.out] at hcU hCU ⊢
      have H3 := Aside0.mk (hH.out.below b3)
      have B3 := Aside0.mk (hb.out.trans (b3.mono hb.out.size))
      have CU := Aside0.mk hCU
      have KF := Aside0.mk (fromL_calls H3.out p 1073741824 (by omega))
      rw [HF.out, HTK.out] at KF
      clear hRU hCU b3 hH hb KU
      go_wp2_with fail
      refine KF.out.mono ?_
      rintro e w4 ⟨vo, rfl, hRF, b4⟩
      obtain ⟨AF, cF, rfl, hcF, hCF⟩ := Kd.R_reads hRF
      rw [List.length_map, HFLN.out] at hcF hCF ⊢
      have H4 := Aside0.mk (H3.out.below b4)
      have B4 := Aside0.mk (B3.out.trans (b4.mono B3.out.size))
      have CF := Aside0.mk hCF
      have CU4 := Aside0.mk (Kd.C_below CU.out b4)
      have KR := Aside0.mk (rankL_calls H4.out p (by omega))
      obtain ⟨rl, hrl⟩ : ∃ rl, (L.filter (lo p)).length = rl := ⟨_, rfl⟩
      rw [hrl] at KR hsum
      have HLN := Aside0.mk hsum
      have t5 : decide ((fl : Int) < (ul : Int)) = false := decide_eq_false (by omega)
      have t5n : decide (fl < ul) = false := decide_eq_false (by omega)
      have t5m : (fl < ul) = False := eq_false (by omega)
      clear hRF hCF b4 hrl KF CU H3 B3
      go_wp2_with fail
      refine KR.out.mono ?_
      rintro e w5 ⟨rfl, b5⟩
      have H5 := Aside0.mk (H4.out.below b5)
      have B5 := Aside0.mk (B4.out.trans (b5.mono B4.out.size))
      have KL := Aside0.mk (lenL_calls H5.out)
      obtain ⟨sm, hsm⟩ : ∃ sm, L.length = sm := ⟨_, rfl⟩
      have hrs : rl + fl = sm := by have := HLN.out; omega
      rw [hsm] at KL
      have t6 : IntKind.i64.wrap ((rl : Int) + (fl : Int)) = (sm : Int) := by
        rw [← hrs]
        exact (show IntKind.i64.wrap ((rl : Int) + (fl : Int)) = ((rl + fl : Nat) : Int) by rw [show (rl : Int) + (fl : Int) = ((rl + fl : Nat) : Int) by omega]; exact IntWalk.i64_in _ (by omega))
      clear hsm hrs
      have CF5 := Aside0.mk (Kd.C_below CF.out b5)
      have CU5 := Aside0.mk (Kd.C_below CU4.out b5)
      clear b5 H4 B4 KR CF CU4
      go_wp2_with fail
      refine KL.out.mono ?_
      rintro e w6 ⟨rfl, b6⟩
      have B6 := Aside0.mk (B5.out.trans (b6.mono B5.out.size))
      have CF6 := Aside0.mk (Kd.C_below CF5.out b6)
      have CU6 := Aside0.mk (Kd.C_below CU5.out b6)
      clear b6 B5 KL CF5 CU5
      go_wp2_with fail
      go_loopw [10, 11, 12, 70] (fun v10 v11 v12 v70 wr => ∃ i : Nat, v70 = .int .i64 (i : Int) ∧ Aside0 (i ≤ fl) ∧ Aside0 (Below w6.heap.size w6 wr)) (fun _ _ _ v70 _ => fl - (intOf v70).toNat)
      case atStart => exact ⟨0, rfl, ⟨Nat.zero_le _⟩, ⟨Below.refl _ _⟩⟩
      case round =>
        obtain ⟨j, rfl, hjn, hjb⟩ := hrel
        by_cases hj : j < fl
        · have t7 : decide ((j : Int) < (fl : Int)) = true := decide_eq_true (by omega)
          have hjF : j < F.length := by have := HFLN.out; omega
          have h0 : (0 : Int) ≤ (j : Int) := by omega
          have h1 : (j : Int) < (fl : Int) := by omega
          obtain ⟨ad, eA, x0, x1⟩ := at_T32 (Kd.C_below CF6.out hjb.out) (j : Int) h0 h1
          cases eA
          have hrd : rd_T32 (F.map toS) (j : Int) = toS F[j] := by unfold rd_T32; simp [List.getD, hjF]
          rw [hrd] at x0 x1
          rw [Int.toNat_natCast] at x0 x1
          have hq := HU1.out j hjF
          have hpt := pre_test p F[j].1
          obtain ⟨ee, hee⟩ : ∃ ee, F[j] = ee := ⟨_, rfl⟩
          have HEE := Aside0.mk hee
          rw [hee] at x0 x1 hq hpt
          obtain ⟨k0, n0⟩ := ee
          simp only [toS] at x0 x1 hq hpt
          rw [HULN.out] at hq
          have p0 := eq_true h0
          have p1 := eq_true h1
          clear hee hrd
          obtain ⟨W9, hW9⟩ : ∃ W9, wr.alloc (.cells #[.string k0, .int .i64 n0] TEn) = W9 := ⟨_, rfl⟩
          have b9 : Below wr.heap.size wr W9 := by rw [← hW9]; exact (Below.refl _ _).alloc (Nat.le_refl _) _
          have hE9 : Blk W9 wr.heap.size TEn #[.string k0, .int .i64 n0] := by rw [← hW9]; exact Blk.new _ _ _
          have e0 := hE9.cell 0
          have e1 := hE9.cell 1
          have el := hE9.lt
          have E9 := Aside0.mk hE9
          have B9 := Aside0.mk b9
          clear hE9 b9
          have hw : IntKind.i64.wrap ((j : Int) + 1) = ((j + 1 : Nat) : Int) := by rw [show ((j : Int) + 1) = ((j + 1 : Nat) : Int) by omega]; exact IntWalk.i64_in _ (by omega)
          by_cases hge : p.size ≤ k0.size
          · have t8 : decide ((k0.size : Int) ≥ (p.size : Int)) = true := decide_eq_true (by omega)
            have t9 : (p.size : Int) ≤ (k0.size : Int) := by omega
            have t10 : (0 : Int) ≤ (p.size : Int) := by omega
            have hbeg : ((k0.extract 0 p.size).toList == p.toList) = decide (j < ul) := by
              rw [← hq, hpt, decide_eq_true hge, Bool.true_and, Lib.toList_data, Lib.toList_data, Bool.eq_iff_iff]
              simp
            by_cases hju : j < ul
            · rw [decide_eq_true hju] at hbeg
              have t11 : decide ((j : Int) < (ul : Int)) = true := decide_eq_true (by omega)
              have h2 : (j : Int) < (ul : Int) := by omega
              obtain ⟨au, eA, y0, y1⟩ := at_T32 (Kd.C_below (Kd.C_below CU6.out hjb.out) B9.out) (j : Int) h0 h2
              cases eA
              have hjU : j < U.length := by have := HULN.out; omega
              have hrd : rd_T32 (U.map toS) (j : Int) = toS (k0, n0) := by
                unfold rd_T32
                simp [List.getD, hjU]
                rw [HU2.out j hjU hjF, HEE.out]
              rw [hrd] at y0 y1
              rw [Int.toNat_natCast] at y0 y1
              simp only [toS] at y0 y1
              have p2 := eq_true h2
              clear hrd hq hpt
              go_wp2_with fail
              refine Qt.wp_region_all (fun w' => Below W9.heap.size W9 w') (by kernel_rfl) (by kernel_rfl) (Below.refl _ _).drew ?_
              iterate 17 ((first | (with_reducible refine Qt.q_val' rfl ?_) | ((with_reducible refine Qg.on_val' ?_); apply Exists.intro; apply Exists.intro; apply Exists.intro; refine ⟨?_, ?_, ?_, ?_⟩; (focus rfl); (focus rfl); (focus rfl))); apply Exists.intro; refine ⟨?_, ?_⟩; (focus (intro w' hw'; have hEw := E9.out.below hw'; have e0 := hEw.cell 0; have e1 := hEw.cell 1; have el := hEw.lt; have z0 := (hw'.cell (World.block_lt_of_cell? W9 _ y0)).trans y0; have z1 := (hw'.cell (World.block_lt_of_cell? W9 _ y1)).trans y1; go_simp; (first | done | (with_reducible rfl)))); intro K hK; go_simp; refine hK _ ?_; clear hK K)
              (refine wpQuiet_nil ?_; intro w' hw')
              have BW := Aside0.mk (hjb.out.trans ((B9.out.trans (hw'.mono B9.out.size)).mono hjb.out.size))
              clear hw'
              go_wp2
              go_roundw
              case rel => exact ⟨j + 1, by first | rfl | (rw [hw]) | go_num | simp [hw], ⟨by omega⟩, BW⟩
              case measure => simp [intOf, hw]; omega
            · rw [decide_eq_false hju] at hbeg
              have t11 : decide ((j : Int) < (ul : Int)) = false := decide_eq_false (by omega)
              clear hq hpt
              go_wp2_with fail
              refine Qt.wp_region_all (fun w' => Below W9.heap.size W9 w') (by kernel_rfl) (by kernel_rfl) (Below.refl _ _).drew ?_
              iterate 9 ((first | (with_reducible refine Qt.q_val' rfl ?_) | ((with_reducible refine Qg.on_val' ?_); apply Exists.intro; apply Exists.intro; apply Exists.intro; refine ⟨?_, ?_, ?_, ?_⟩; (focus rfl); (focus rfl); (focus rfl))); apply Exists.intro; refine ⟨?_, ?_⟩; (focus (intro w' hw'; skip; go_simp; (first | done | (with_reducible rfl)))); intro K hK; go_simp; refine hK _ ?_; clear hK K)
              iterate 6 ((first | ((with_reducible refine Qg.off' ?_); apply Exists.intro; apply Exists.intro; apply Exists.intro; refine ⟨?_, ?_, ?_, ?_⟩; (focus rfl); (focus rfl); (focus rfl)) | ((with_reducible refine Qg.never' ?_); apply Exists.intro; apply Exists.intro; apply Exists.intro; refine ⟨?_, ?_, ?_, ?_⟩; (focus rfl); (focus rfl); (focus rfl))); intro K hK; go_simp; refine hK _ ?_; clear hK K)
              iterate 2 ((first | (with_reducible refine Qt.q_val' rfl ?_) | ((with_reducible refine Qg.on_val' ?_); apply Exists.intro; apply Exists.intro; apply Exists.intro; refine ⟨?_, ?_, ?_, ?_⟩; (focus rfl); (focus rfl); (focus rfl))); apply Exists.intro; refine ⟨?_, ?_⟩; (focus (intro w' hw'; skip; go_simp; (first | done | (with_reducible rfl)))); intro K hK; go_simp; refine hK _ ?_; clear hK K)
              (refine wpQuiet_nil ?_; intro w' hw')
              have BW := Aside0.mk (hjb.out.trans ((B9.out.trans (hw'.mono B9.out.size)).mono hjb.out.size))
              clear hw'
              go_wp2
              go_roundw
              case rel => exact ⟨j + 1, by first | rfl | (rw [hw]) | go_num | simp [hw], ⟨by omega⟩, BW⟩
              case measure => simp [intOf, hw]; omega
          · have t8 : decide ((k0.size : Int) ≥ (p.size : Int)) = false := decide_eq_false (by omega)
            have hju : ¬ j < ul := by
              rw [hpt, decide_eq_false hge, Bool.false_and] at hq
              intro hc
              rw [decide_eq_true hc] at hq
              cases hq
            have t11 : decide ((j : Int) < (ul : Int)) = false := decide_eq_false (by omega)
            clear hq hpt
            go_wp2_with fail
            refine Qt.wp_region_all (fun w' => Below W9.heap.size W9 w') (by kernel_rfl) (by kernel_rfl) (Below.refl _ _).drew ?_
            iterate 9 ((first | (with_reducible refine Qt.q_val' rfl ?_) | ((with_reducible refine Qg.on_val' ?_); apply Exists.intro; apply Exists.intro; apply Exists.intro; refine ⟨?_, ?_, ?_, ?_⟩; (focus rfl); (focus rfl); (focus rfl))); apply Exists.intro; refine ⟨?_, ?_⟩; (focus (intro w' hw'; skip; go_simp; (first | done | (with_reducible rfl)))); intro K hK; go_simp; refine hK _ ?_; clear hK K)
            iterate 6 ((first | ((with_reducible refine Qg.off' ?_); apply Exists.intro; apply Exists.intro; apply Exists.intro; refine ⟨?_, ?_, ?_, ?_⟩; (focus rfl); (focus rfl); (focus rfl)) | ((with_reducible refine Qg.never' ?_); apply Exists.intro; apply Exists.intro; apply Exists.intro; refine ⟨?_, ?_, ?_, ?_⟩; (focus rfl); (focus rfl); (focus rfl))); intro K hK; go_simp; refine hK _ ?_; clear hK K)
            iterate 2 ((first | (with_reducible refine Qt.q_val' rfl ?_) | ((with_reducible refine Qg.on_val' ?_); apply Exists.intro; apply Exists.intro; apply Exists.intro; refine ⟨?_, ?_, ?_, ?_⟩; (focus rfl); (focus rfl); (focus rfl))); apply Exists.intro; refine ⟨?_, ?_⟩; (focus (intro w' hw'; skip; go_simp; (first | done | (with_reducible rfl)))); intro K hK; go_simp; refine hK _ ?_; clear hK K)
            (refine wpQuiet_nil ?_; intro w' hw')
            have BW := Aside0.mk (hjb.out.trans ((B9.out.trans (hw'.mono B9.out.size)).mono hjb.out.size))
            clear hw'
            go_wp2
            go_roundw
            case rel => exact ⟨j + 1, by first | rfl | (rw [hw]) | go_num | simp [hw], ⟨by omega⟩, BW⟩
            case measure => simp [intOf, hw]; omega
        · have t7 : decide ((j : Int) < (fl : Int)) = false := decide_eq_false (by omega)
          go_wp2
          go_ret
          exact ⟨rfl, B6.out.trans (hjb.out.mono B6.out.size)⟩
end Go.Proofs.Ytcgfdnhocdcfjaa.Hed
