/- The law TractRefs: its walk. -/
import Derived.Test.YtpilbomkdafdfaaTaw
namespace Go.Proofs.Ytpilbomkdafdfaa.Tra
open Go.RowKit Go.Proofs.YtpilbomkdafdfaaW.PrintWords Go.Proofs.YtpilbomkdafdfaaW.PrintLast Go.Proofs.YtpilbomkdafdfaaW.PrintMore Go.Proofs.Ytpilbomkdafdfaa.Arr Go.Proofs.Ytpilbomkdafdfaa.Utf Go.Proofs.Ytpilbomkdafdfaa.PTractRefs
set_option linter.unusedVariables false
set_option linter.unusedSimpArgs false

theorem code_good (x : S24) (h : codeV x = 0) : goodB x = true := by
  unfold codeV at h
  cases hg : goodB x with
  | true => rfl
  | false => rw [if_pos hg] at h; exact absurd h (by decide)
theorem code_sz (x : S24) (h : codeV x = 0) : sz x ≤ 24 := by
  unfold codeV at h
  rw [if_neg (by rw [code_good x h]; decide)] at h
  by_cases h24 : 24 < sz x
  · rw [if_pos h24] at h; exact absurd h (by decide)
  · omega
/-- What the two lists are, wherever the region leads. -/
structure Sr (rs : List S41) (f : FuncId) (args : Array Value) (u : Value) (w : World) : Prop where mk ::
  p : f = 11 → Kd.R k41 TR w 0 (fun _ => True) u rs
  r : f = 12 → Kd.R k41 41 w 0 (fun _ => True) u rs
theorem sr_stb (rs : List S41) (f : FuncId) (args : Array Value) (u : Value) : Qy.Stb (fun w w' => Below w.heap.size w w') (Sr rs f args u) := fun w w' h hb =>
  ⟨fun h1 => Kd.R_below (h.p h1) hb, fun h1 => Kd.R_below (h.r h1) hb⟩
theorem code_bne (x : S24) (h : codeV x ≠ 0) : (codeV x != 0) = true := by simp [h]
set_option maxHeartbeats 16000000 in
set_option maxRecDepth 100000 in
theorem lawRefs_calls (x : S24) (ht : strs x ≤ 9223372036854775807) (A : Option Addr) (c : Nat) (w : World) (hC : Kd.C k24 w A x.f3.length x.f3) (hc : x.f3.length ≤ c) :
    Calls Try.prog 4 #[.agg (nodeA x A c)] w fun e w' => e = .returned (.bool true) ∧ Below w.heap.size w w' := by
  have hu24 := Try.underlying24
  obtain ⟨kf, hkf⟩ := few_f x
  have HF := Aside0.mk hkf
  obtain ⟨W0, hW0⟩ : ∃ W0, w.alloc (.cells (nodeA x A c) TN) = W0 := ⟨_, rfl⟩
  have b0 : Below w.heap.size w W0 := by rw [← hW0]; exact (Below.refl _ _).alloc (Nat.le_refl _) _
  have hR : Blk W0 w.heap.size TN (nodeA x A c) := by rw [← hW0]; exact Blk.new _ _ _
  have HC := Aside0.mk hC
  have R0 := Aside0.mk hR
  have B0 := Aside0.mk b0
  clear hC hR b0 hkf
  go_enter Try.func4, Try.ntmps4
  go_wp2_with fail
  clear hW0
  refine (awake_calls W0).mono ?_
  rintro e w1 ⟨rfl, b1⟩
  have hR1 := R0.out.below b1
  have B1 := Aside0.mk (B0.out.trans (b1.mono B0.out.size))
  have R1 := Aside0.mk hR1
  have c0 := hR1.cell 0
  have c1 := hR1.cell 1
  have c2 := hR1.cell 2
  have c3 := hR1.cell 3
  have cl := hR1.lt
  clear b1 hR1 R0 B0
  go_wp2_with fail
  clear c0 c1 c2 c3 cl
  refine (stilelaw05_Few.calls kf x.f0 x.f1 x.f2 A c x.f3 (fewB x) w1 (Kd.C_below HC.out B1.out) hc HF.out).mono ?_
  rintro e w2 ⟨rfl, b2⟩
  have hR2 := R1.out.below b2
  have B2 := Aside0.mk (B1.out.trans (b2.mono B1.out.size))
  have R2 := Aside0.mk hR2
  clear b2 R1 B1
  by_cases hs : ¬ sz x ≤ 300
  · have hf : fewB x = false := decide_eq_false hs
    rw [hf]
    clear hR2 hf hs
    go_wp2_with fail
    refine (awake_calls w2).mono ?_
    rintro e w3 ⟨rfl, b3⟩
    have B3 := Aside0.mk (B2.out.trans (b3.mono B2.out.size))
    clear b3 R2 B2
    go_wp2
    go_ret
    exact ⟨rfl, B3.out⟩
  have hs : sz x ≤ 300 := Classical.not_not.1 hs
  have hf : fewB x = true := decide_eq_true hs
  rw [hf]
  have KB := Aside0.mk (buildR_calls x (by omega) ht A c w2 (Kd.C_below HC.out B2.out) hc)
  have c0 := hR2.cell 0
  have c1 := hR2.cell 1
  have c2 := hR2.cell 2
  have c3 := hR2.cell 3
  have cl := hR2.lt
  clear hR2 hf
  go_wp2_with fail
  clear c0 c1 c2 c3 cl
  refine KB.out.mono ?_
  rintro e w3 ⟨v, rfl, hv0, hv1, b3⟩
  have B3 := Aside0.mk (B2.out.trans (b3.mono B2.out.size))
  have R3 := Aside0.mk (R2.out.below b3)
  by_cases hcd : codeV x = 0
  case neg =>
    obtain rfl := hv1 hcd
    have hb := code_bne x hcd
    obtain ⟨cd, hcc⟩ : ∃ cd, codeV x = cd := ⟨_, rfl⟩
    rw [hcc] at hb hcd ⊢
    clear hv0 hv1 b3 KB R2 B2 hcc R3
    go_wp2
    go_ret
    exact ⟨by first | rfl | simp [hb] | simp [hcd], B3.out⟩
  have hE := ER_bound (hv0 hcd)
  have hg := code_good x hcd
  have hz := code_sz x hcd
  rw [hcd]
  obtain ⟨tt, uu, rfl⟩ := ER_iface hE
  have E3 := Aside0.mk hE
  have HG := Aside0.mk hg
  clear hv0 hv1 b3 KB R2 B2 hcd hE hg
  obtain ⟨kr, hkr⟩ := (ev_refs x (by omega) false).rounds
  have HKR := Aside0.mk (show stileref05_Refs.f kr x.f0 x.f1 x.f2 x.f3 false = some (refs x false) from hkr)
  have hrl := refs_len x false
  obtain ⟨rs, hrs⟩ : ∃ rs, refs x false = rs := ⟨_, rfl⟩
  rw [hrs] at HKR hrl
  have HRS := Aside0.mk hrs
  obtain ⟨nr, hnr⟩ : ∃ nr, rs.length = nr := ⟨_, rfl⟩
  have HNR := Aside0.mk hnr
  have hnr24 : nr ≤ 24 := by omega
  clear hkr hrs hnr
  go_wp2_with fail
  refine Qy.wp_region_all (fun w w' => Below w.heap.size w w') (Sr rs) (fun f args u => ∃ A c, u = .slice A nr c) (fun p w' => Below w3.heap.size w3 w') [] (by kernel_rfl) (by kernel_rfl) (Below.refl _ _).drew ?_
  ((with_reducible refine Qy.y_val ⟨fun _ _ _ hF h w' h1 h2 => h w' h1 fun k => hF k _ (h2 k)⟩ ?_ ?_ ?_ ?_ ?_); (focus (first | exact fun _ => Only.refl _ _ | exact fun _ => Below.refl _ _)); (focus (exact fun _ => trivial)); (focus (first | rfl | decide)); (first | (focus (exact Qy.wanted_none rfl)) | (focus (exact Qg.wanted_on rfl rfl rfl))); apply Exists.intro; refine ⟨?_, ?_⟩; (focus (intro p' w' hw' hp'; skip; go_simp; (first | done | (with_reducible rfl)))); intro K hK; go_simp; refine hK _ ?_; clear hK K)
  ((with_reducible refine Qy.y_call ?_ ?_ ?_); (focus (first | rfl | decide)); (first | (focus (exact Qy.wanted_none rfl)) | (focus (exact Qg.wanted_on rfl rfl rfl))); apply Exists.intro; apply Exists.intro; refine ⟨?_, ?_, ?_, ?_, ?_⟩; (focus (intro w'; go_simp; (first | rfl | exact ⟨rfl, rfl⟩))); (focus (exact ⟨.slice none nr 0, _, _, rfl⟩)); (focus (exact fun u => sr_stb _ _ _ u)); (focus (intro p' w' hw' hp'; refine (refsP_calls _ x (by omega) HG.out (.iface tt uu) w' (ER_bound (ER_keep (Keep.of_below hw') E3.out)) (fun k hk => hk)).mono ?_; rintro e w8 ⟨vo, rfl, r8, b8⟩; rw [HRS.out] at r8; obtain ⟨A8, c8, e8⟩ := Kd.R_slice r8; rw [HNR.out] at e8; exact ⟨_, rfl, b8, hw'.trans (b8.mono hw'.size), ⟨A8, c8, e8⟩, ⟨fun _ => Kd.R_lower r8 (Nat.zero_le _), (fun h => by cases h)⟩⟩)); rintro u1 ⟨A1, c1, rfl⟩; intro K hK; go_simp; refine hK _ ?_; clear hK K)
  ((with_reducible refine Qy.y_val ⟨fun _ _ _ hF h w' h1 h2 => h w' h1 fun k => hF k _ (h2 k)⟩ ?_ ?_ ?_ ?_ ?_); (focus (first | exact fun _ => Only.refl _ _ | exact fun _ => Below.refl _ _)); (focus (exact fun _ => trivial)); (focus (first | rfl | decide)); (first | (focus (exact Qy.wanted_none rfl)) | (focus (exact Qg.wanted_on rfl rfl rfl))); apply Exists.intro; refine ⟨?_, ?_⟩; (focus (intro p' w' hw' hp'; have hRw := R3.out.below hw'; have q0 := hRw.cell 0; have q1 := hRw.cell 1; have q2 := hRw.cell 2; have q3 := hRw.cell 3; have ql := hRw.lt; go_simp; (first | done | (with_reducible rfl)))); intro K hK; go_simp; refine hK _ ?_; clear hK K)
  ((with_reducible refine Qy.y_call ?_ ?_ ?_); (focus (first | rfl | decide)); (first | (focus (exact Qy.wanted_none rfl)) | (focus (exact Qg.wanted_on rfl rfl rfl))); apply Exists.intro; apply Exists.intro; refine ⟨?_, ?_, ?_, ?_, ?_⟩; (focus (intro w'; go_simp; (first | rfl | exact ⟨rfl, rfl⟩))); (focus (exact ⟨.slice none nr 0, _, _, rfl⟩)); (focus (exact fun u => sr_stb _ _ _ u)); (focus (intro p' w' hw' hp'; refine (stileref05_Refs.calls kr x.f0 x.f1 x.f2 A c x.f3 false rs w' (Kd.C_below HC.out (B3.out.trans (hw'.mono B3.out.size))) hc HKR.out).mono ?_; rintro e w8 ⟨vo, rfl, r8, b8⟩; obtain ⟨A8, c8, e8⟩ := Kd.R_slice r8; rw [HNR.out] at e8; exact ⟨_, rfl, b8, hw'.trans (b8.mono hw'.size), ⟨A8, c8, e8⟩, ⟨(fun h => by cases h), fun _ => Kd.R_lower r8 (Nat.zero_le _)⟩⟩)); rintro u3 ⟨A3, c3, rfl⟩; intro K hK; go_simp; refine hK _ ?_; clear hK K)
  iterate 2 ((with_reducible refine Qy.y_val ⟨fun _ _ _ hF h w' h1 h2 => h w' h1 fun k => hF k _ (h2 k)⟩ ?_ ?_ ?_ ?_ ?_); (focus (first | exact fun _ => Only.refl _ _ | exact fun _ => Below.refl _ _)); (focus (exact fun _ => trivial)); (focus (first | rfl | decide)); (first | (focus (exact Qy.wanted_none rfl)) | (focus (exact Qg.wanted_on rfl rfl rfl))); apply Exists.intro; refine ⟨?_, ?_⟩; (focus (intro p' w' hw' hp'; skip; go_simp; (first | done | (with_reducible rfl)))); intro K hK; go_simp; refine hK _ ?_; clear hK K)
  ((with_reducible refine Qy.y_nil ?_); intro w' hw' hf')
  have hp := (hf' 1 : Sr rs _ _ _ w').p rfl
  have hr := (hf' 3 : Sr rs _ _ _ w').r rfl
  obtain ⟨-, -, hCp⟩ := Kd.R_reads' hp
  obtain ⟨-, -, hCr⟩ := Kd.R_reads' hr
  rw [HNR.out] at hCp hCr
  have CP := Aside0.mk hCp
  have CR := Aside0.mk hCr
  have R4 := Aside0.mk (R3.out.below hw')
  have E4 := Aside0.mk (ER_bound (ER_keep (Keep.of_below hw') E3.out))
  have B4 := Aside0.mk (B3.out.trans (hw'.mono B3.out.size))
  clear hw' hf' hp hr hCp hCr R3 E3 B3
  obtain ⟨w4, rfl⟩ : ∃ w4, w4 = w' := ⟨_, rfl⟩
  go_wp2
  go_loopw [40] (fun v40 wr => ∃ i : Nat, v40 = .int .i64 (i : Int) ∧ Aside0 (i ≤ nr) ∧ Aside0 (Below w4.heap.size w4 wr)) (fun v40 _ => nr - (intOf v40).toNat)
  case atStart => exact ⟨0, rfl, ⟨Nat.zero_le _⟩, ⟨Below.refl _ _⟩⟩
  case round =>
    obtain ⟨i, rfl, hin, hb⟩ := hrel
    by_cases hi : i < nr
    · have t1 : decide ((i : Int) < (nr : Int)) = true := decide_eq_true (by omega)
      have h0 : (0 : Int) ≤ (i : Int) := by omega
      have h1 : (i : Int) < (nr : Int) := by omega
      obtain ⟨ad, eA, x0, x1, x2⟩ := at_T41 (Kd.C_below CP.out hb.out) (i : Int) h0 h1
      obtain ⟨ad', eA', z0, z1, z2⟩ := at_T41 (Kd.C_below CR.out hb.out) (i : Int) h0 h1
      cases eA
      cases eA'
      rw [Int.toNat_natCast] at x0 x1 x2 z0 z1 z2
      generalize rd_T41 rs (i : Int) = y at *
      have p0 := eq_true h0
      have p1 := eq_true h1
      have hw : IntKind.i64.wrap ((i : Int) + 1) = ((i + 1 : Nat) : Int) := by rw [show ((i : Int) + 1) = ((i + 1 : Nat) : Int) by omega]; exact IntWalk.i64_in _ (by omega)
      go_wp2_with fail
      refine Qt.wp_region_all (fun w' => Below wr.heap.size wr w') (by kernel_rfl) (by kernel_rfl) (Below.refl _ _).drew ?_
      iterate 9 ((first | (with_reducible refine Qt.q_val' rfl ?_) | ((with_reducible refine Qg.on_val' ?_); apply Exists.intro; apply Exists.intro; apply Exists.intro; refine ⟨?_, ?_, ?_, ?_⟩; (focus rfl); (focus rfl); (focus rfl))); apply Exists.intro; refine ⟨?_, ?_⟩; (focus (intro w' hw'; have xw0 := (hw'.cell (World.block_lt_of_cell? wr _ x0)).trans x0; have xw1 := (hw'.cell (World.block_lt_of_cell? wr _ x1)).trans x1; have xw2 := (hw'.cell (World.block_lt_of_cell? wr _ x2)).trans x2; have zw0 := (hw'.cell (World.block_lt_of_cell? wr _ z0)).trans z0; have zw1 := (hw'.cell (World.block_lt_of_cell? wr _ z1)).trans z1; have zw2 := (hw'.cell (World.block_lt_of_cell? wr _ z2)).trans z2; go_simp; (first | done | (with_reducible rfl)))); intro K hK; go_simp; refine hK _ ?_; clear hK K)
      (refine wpQuiet_nil ?_; intro w' hw')
      have HB := Aside0.mk (hb.out.trans (hw'.mono hb.out.size))
      clear hw' x0 x1 x2 z0 z1 z2
      go_wp2
      go_roundw
      case rel => exact ⟨i + 1, by first | rfl | (rw [hw]) | go_num | simp [hw], ⟨by omega⟩, HB⟩
      case measure => simp [intOf, hw]; omega
    · have t1 : decide ((i : Int) < (nr : Int)) = false := decide_eq_false (by omega)
      obtain ⟨k1, hk1⟩ := (ev_dir x (by omega) true false).rounds
      obtain ⟨k2, hk2⟩ := (ev_dir x (by omega) false false).rounds
      have K1 := Aside0.mk (show stileref05_Direct.f k1 x.f0 x.f1 x.f2 x.f3 true false = some (dir x true false) from hk1)
      have K2 := Aside0.mk (show stileref05_Direct.f k2 x.f0 x.f1 x.f2 x.f3 false false = some (dir x false false) from hk2)
      have hkk := (good_kinds x HG.out).1
      have hkk' : x.f0 = 1 ∨ x.f0 = 2 ∨ x.f0 = 3 ∨ x.f0 = 4 ∨ x.f0 = 5 ∨ x.f0 = 6 := by omega
      have HKK := Aside0.mk hkk'
      have E5 := Aside0.mk (ER_bound (ER_keep (Keep.of_below hb.out) E4.out))
      have R5 := Aside0.mk (R4.out.below hb.out)
      have B5 := Aside0.mk (B4.out.trans (hb.out.mono B4.out.size))
      have hD1 : ∀ w', Below wr.heap.size wr w' → Calls Try.prog 13 #[.iface tt uu, .bool true] w' fun e w'' => e = .returned (.bool (dir x true false)) ∧ Below w'.heap.size w' w'' := fun w' hw' => directP_calls _ x (by omega) HG.out true (.iface tt uu) w' (ER_bound (ER_keep (Keep.of_below hw') E5.out)) (fun k hk => hk)
      have hD2 : ∀ w', Below wr.heap.size wr w' → Calls Try.prog 13 #[.iface tt uu, .bool false] w' fun e w'' => e = .returned (.bool (dir x false false)) ∧ Below w'.heap.size w' w'' := fun w' hw' => directP_calls _ x (by omega) HG.out false (.iface tt uu) w' (ER_bound (ER_keep (Keep.of_below hw') E5.out)) (fun k hk => hk)
      have hD3 : ∀ w', Below wr.heap.size wr w' → Calls Try.prog 14 #[.agg (nodeA x A c), .bool true, .bool false] w' fun e w'' => e = .returned (.bool (dir x true false)) ∧ Below w'.heap.size w' w'' := fun w' hw' => stileref05_Direct.calls k1 x.f0 x.f1 x.f2 A c x.f3 true false (dir x true false) w' (Kd.C_below HC.out (B5.out.trans (hw'.mono B5.out.size))) hc K1.out
      have hD4 : ∀ w', Below wr.heap.size wr w' → Calls Try.prog 14 #[.agg (nodeA x A c), .bool false, .bool false] w' fun e w'' => e = .returned (.bool (dir x false false)) ∧ Below w'.heap.size w' w'' := fun w' hw' => stileref05_Direct.calls k2 x.f0 x.f1 x.f2 A c x.f3 false false (dir x false false) w' (Kd.C_below HC.out (B5.out.trans (hw'.mono B5.out.size))) hc K2.out
      have hD5 : ∀ w', Below wr.heap.size wr w' → Calls Try.prog 15 #[.iface tt uu] w' fun e w'' => e = .returned (.bool (x.f0 == 1)) ∧ Below w'.heap.size w' w'' := fun w' hw' => plain_calls _ x HKK.out (.iface tt uu) w' (ER_keep (Keep.of_below hw') E5.out)
      obtain ⟨d1, hd1⟩ : ∃ d, dir x true false = d := ⟨_, rfl⟩
      obtain ⟨d2, hd2⟩ : ∃ d, dir x false false = d := ⟨_, rfl⟩
      obtain ⟨pl, hpl⟩ : ∃ d, (x.f0 == 1) = d := ⟨_, rfl⟩
      rw [hd1] at hD1 hD3
      rw [hd2] at hD2 hD4
      rw [hpl] at hD5
      have D1 := Aside0.mk hD1
      have D2 := Aside0.mk hD2
      have D3 := Aside0.mk hD3
      have D4 := Aside0.mk hD4
      have D5 := Aside0.mk hD5
      clear hk1 hk2 hkk hkk' hD1 hD2 hD3 hD4 hD5 hd1 hd2 hb R4 E4 B4 CP CR
      go_wp2_with fail
      refine Qt.wp_region_all (fun w' => Below wr.heap.size wr w') (by kernel_rfl) (by kernel_rfl) (Below.refl _ _).drew ?_
      ((first | (with_reducible refine Qt.q_val' rfl ?_) | ((with_reducible refine Qg.on_val' ?_); apply Exists.intro; apply Exists.intro; apply Exists.intro; refine ⟨?_, ?_, ?_, ?_⟩; (focus rfl); (focus rfl); (focus rfl))); apply Exists.intro; refine ⟨?_, ?_⟩; (focus (intro w' hw'; skip; go_simp; (first | done | (with_reducible rfl)))); intro K hK; go_simp; refine hK _ ?_; clear hK K)
      ((first | (with_reducible refine Qt.q_call' rfl ?_) | ((with_reducible refine Qg.on_call' ?_); apply Exists.intro; apply Exists.intro; apply Exists.intro; refine ⟨?_, ?_, ?_, ?_⟩; (focus rfl); (focus rfl); (focus rfl))); apply Exists.intro; apply Exists.intro; refine ⟨?_, ?_⟩; (focus (intro w'; go_simp; (first | rfl | exact ⟨rfl, rfl⟩))); apply Exists.intro; refine ⟨?_, ?_⟩; (focus (intro w' hw'; first | exact Qt.under hw' (D1.out _ hw'))); intro K hK; go_simp; refine hK _ ?_; clear hK K)
      ((first | (with_reducible refine Qt.q_val' rfl ?_) | ((with_reducible refine Qg.on_val' ?_); apply Exists.intro; apply Exists.intro; apply Exists.intro; refine ⟨?_, ?_, ?_, ?_⟩; (focus rfl); (focus rfl); (focus rfl))); apply Exists.intro; refine ⟨?_, ?_⟩; (focus (intro w' hw'; have hRw := R5.out.below hw'; have q0 := hRw.cell 0; have q1 := hRw.cell 1; have q2 := hRw.cell 2; have q3 := hRw.cell 3; have ql := hRw.lt; go_simp; (first | done | (with_reducible rfl)))); intro K hK; go_simp; refine hK _ ?_; clear hK K)
      ((first | (with_reducible refine Qt.q_call' rfl ?_) | ((with_reducible refine Qg.on_call' ?_); apply Exists.intro; apply Exists.intro; apply Exists.intro; refine ⟨?_, ?_, ?_, ?_⟩; (focus rfl); (focus rfl); (focus rfl))); apply Exists.intro; apply Exists.intro; refine ⟨?_, ?_⟩; (focus (intro w'; go_simp; (first | rfl | exact ⟨rfl, rfl⟩))); apply Exists.intro; refine ⟨?_, ?_⟩; (focus (intro w' hw'; first | exact Qt.under hw' (D3.out _ hw'))); intro K hK; go_simp; refine hK _ ?_; clear hK K)
      iterate 3 ((first | (with_reducible refine Qt.q_val' rfl ?_) | ((with_reducible refine Qg.on_val' ?_); apply Exists.intro; apply Exists.intro; apply Exists.intro; refine ⟨?_, ?_, ?_, ?_⟩; (focus rfl); (focus rfl); (focus rfl))); apply Exists.intro; refine ⟨?_, ?_⟩; (focus (intro w' hw'; skip; go_simp; (first | done | (with_reducible rfl)))); intro K hK; go_simp; refine hK _ ?_; clear hK K)
      ((first | (with_reducible refine Qt.q_call' rfl ?_) | ((with_reducible refine Qg.on_call' ?_); apply Exists.intro; apply Exists.intro; apply Exists.intro; refine ⟨?_, ?_, ?_, ?_⟩; (focus rfl); (focus rfl); (focus rfl))); apply Exists.intro; apply Exists.intro; refine ⟨?_, ?_⟩; (focus (intro w'; go_simp; (first | rfl | exact ⟨rfl, rfl⟩))); apply Exists.intro; refine ⟨?_, ?_⟩; (focus (intro w' hw'; first | exact Qt.under hw' (D2.out _ hw'))); intro K hK; go_simp; refine hK _ ?_; clear hK K)
      ((first | (with_reducible refine Qt.q_val' rfl ?_) | ((with_reducible refine Qg.on_val' ?_); apply Exists.intro; apply Exists.intro; apply Exists.intro; refine ⟨?_, ?_, ?_, ?_⟩; (focus rfl); (focus rfl); (focus rfl))); apply Exists.intro; refine ⟨?_, ?_⟩; (focus (intro w' hw'; have hRw := R5.out.below hw'; have q0 := hRw.cell 0; have q1 := hRw.cell 1; have q2 := hRw.cell 2; have q3 := hRw.cell 3; have ql := hRw.lt; go_simp; (first | done | (with_reducible rfl)))); intro K hK; go_simp; refine hK _ ?_; clear hK K)
      ((first | (with_reducible refine Qt.q_call' rfl ?_) | ((with_reducible refine Qg.on_call' ?_); apply Exists.intro; apply Exists.intro; apply Exists.intro; refine ⟨?_, ?_, ?_, ?_⟩; (focus rfl); (focus rfl); (focus rfl))); apply Exists.intro; apply Exists.intro; refine ⟨?_, ?_⟩; (focus (intro w'; go_simp; (first | rfl | exact ⟨rfl, rfl⟩))); apply Exists.intro; refine ⟨?_, ?_⟩; (focus (intro w' hw'; first | exact Qt.under hw' (D4.out _ hw'))); intro K hK; go_simp; refine hK _ ?_; clear hK K)
      iterate 4 ((first | (with_reducible refine Qt.q_val' rfl ?_) | ((with_reducible refine Qg.on_val' ?_); apply Exists.intro; apply Exists.intro; apply Exists.intro; refine ⟨?_, ?_, ?_, ?_⟩; (focus rfl); (focus rfl); (focus rfl))); apply Exists.intro; refine ⟨?_, ?_⟩; (focus (intro w' hw'; skip; go_simp; (first | done | (with_reducible rfl)))); intro K hK; go_simp; refine hK _ ?_; clear hK K)
      ((first | (with_reducible refine Qt.q_call' rfl ?_) | ((with_reducible refine Qg.on_call' ?_); apply Exists.intro; apply Exists.intro; apply Exists.intro; refine ⟨?_, ?_, ?_, ?_⟩; (focus rfl); (focus rfl); (focus rfl))); apply Exists.intro; apply Exists.intro; refine ⟨?_, ?_⟩; (focus (intro w'; go_simp; (first | rfl | exact ⟨rfl, rfl⟩))); apply Exists.intro; refine ⟨?_, ?_⟩; (focus (intro w' hw'; first | exact Qt.under hw' (D5.out _ hw'))); intro K hK; go_simp; refine hK _ ?_; clear hK K)
      iterate 2 ((first | (with_reducible refine Qt.q_val' rfl ?_) | ((with_reducible refine Qg.on_val' ?_); apply Exists.intro; apply Exists.intro; apply Exists.intro; refine ⟨?_, ?_, ?_, ?_⟩; (focus rfl); (focus rfl); (focus rfl))); apply Exists.intro; refine ⟨?_, ?_⟩; (focus (intro w' hw'; have hRw := R5.out.below hw'; have q0 := hRw.cell 0; have q1 := hRw.cell 1; have q2 := hRw.cell 2; have q3 := hRw.cell 3; have ql := hRw.lt; go_simp; (first | done | (with_reducible rfl)))); intro K hK; go_simp; refine hK _ ?_; clear hK K)
      iterate 4 ((first | (with_reducible refine Qt.q_val' rfl ?_) | ((with_reducible refine Qg.on_val' ?_); apply Exists.intro; apply Exists.intro; apply Exists.intro; refine ⟨?_, ?_, ?_, ?_⟩; (focus rfl); (focus rfl); (focus rfl))); apply Exists.intro; refine ⟨?_, ?_⟩; (focus (intro w' hw'; skip; go_simp; (first | done | (with_reducible rfl)))); intro K hK; go_simp; refine hK _ ?_; clear hK K)
      (refine wpQuiet_nil ?_; intro w' hw')
      have HB := Aside0.mk (B5.out.trans (hw'.mono B5.out.size))
      clear hw'
      go_wp2
      go_ret
      exact ⟨by first | rfl | simp, HB.out⟩
end Go.Proofs.Ytpilbomkdafdfaa.Tra
