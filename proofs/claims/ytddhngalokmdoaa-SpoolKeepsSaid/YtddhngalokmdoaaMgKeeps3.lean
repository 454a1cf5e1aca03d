/- Texts of this claim, merged: Tlo, Sfr. -/
import Derived.Test.YtddhngalokmdoaaMgBase7
import Derived.WalkSpells
import Derived.Test.YtddhngalokmdoaaMgBase6
import Derived.Test.YtddhngalokmdoaaMgBase15
/- A tray: Lose. -/
namespace Go.Proofs.Ytddhngalokmdoaa.Spo
open Go.RowKit Go.Proofs.YtddhngalokmdoaaW.PrintWords Go.Proofs.YtddhngalokmdoaaW.PrintLast Go.Proofs.YtddhngalokmdoaaW.PrintMore Go.Proofs.Ytddhngalokmdoaa.Arr Go.Proofs.Ytddhngalokmdoaa.PSpoolPlays
set_option linter.unusedVariables false
set_option linter.unusedSimpArgs false

theorem chosen_snoc : ∀ (l : List (Int × List Int)) (cs : List Bool) (i : Nat) (h : i < l.length), chosen (l.take (i + 1)) cs = if cs.getD i false = true then chosen (l.take i) cs ++ [l[i]] else chosen (l.take i) cs
  | [], _, _, h => absurd h (Nat.not_lt_zero _)
  | x :: l, [], i, h => by
    cases i <;> simp [chosen]
  | x :: l, c :: cs, 0, h => by
    cases c <;> simp [chosen]
  | x :: l, c :: cs, i + 1, h => by
    have ih := chosen_snoc l cs i (by simpa using h)
    simp only [List.take_succ_cons, chosen, List.getD_cons_succ, List.getElem_cons_succ]
    rw [ih]
    by_cases h2 : cs.getD i false = true
    · rw [if_pos h2, if_pos h2]; cases c <;> rfl
    · rw [if_neg h2, if_neg h2]
theorem infoSe3 : (Try.prog.info? TSe).map (fun i => (i.zero, i.size, i.bytes)) = some (some (.agg (nums .u8 zB).toArray), 128, 128) := by kernel_rfl
theorem owns_form {w : World} {base size n : Nat} {e : TypeId} {v : Value} {xs : List Value} (h : w.ownsRow base e size v n xs) (hn : 0 < n) : ∃ g cap, v = .slice (some ⟨g, 0, none⟩) n cap := by
  rcases h.2 with ⟨_, h0⟩ | ⟨g, cap, _, hv, _⟩
  · omega
  · exact ⟨g, cap, hv⟩
/-- A row of one stamp. -/
theorem stamp_row {w : World} {g : Nat} {x : Int × List Int} (h : Blk w g TCa (stampC x).toArray) (hx : x.2.length = 128) {Q : Nat → Prop} (hQ : Q g) : kCa.R TCa w 0 Q (.slice (some ⟨g, 0, none⟩) 1 1) [x] := by
  have hl : (stampC x).length = 129 := stampC_length hx
  refine ⟨fun k hk => ?_, stampC x, ⟨by simp [hl, kCa, stampK, flat], .inr ⟨g, 1, (stampC x).toArray, rfl, Nat.zero_le _, h.out, Nat.le_refl _, by unfold maxLen; decide, by simpa [kCa, stampK, flat] using hl, ?_⟩⟩, ⟨by simp [hl, kCa, stampK, flat], fun j p hj => ?_⟩⟩
  · have : g = k := by simpa [Value.ownBlock] using hk
    rw [← this]; exact hQ
  · show (stampC x).toArray.toList.take _ = stampC x
    rw [List.take_of_length_le (by show (stampC x).length ≤ 1 * 129; omega)]
  · have hj0 : j = 0 := by
      have := (List.getElem?_eq_some_iff.1 hj).1
      simpa using this
    subst hj0
    obtain rfl : x = p := by simpa using hj
    show _ = _ ∧ _
    have : ((stampC x).drop (0 * 129)).take 129 = stampC x := by
      rw [Nat.zero_mul, List.drop_zero, List.take_of_length_le (by omega)]
    exact ⟨this, (congrArg List.length this).trans hl⟩
set_option maxHeartbeats 16000000 in
set_option maxRecDepth 100000 in
theorem lose_calls (P : Nat → Prop) (t : Nat) (V : TrayV) (choice : List Bool) (A : Option Addr) (n c : Nat) (w : World) (H : TAt P w t V) (hS : Sound V) (hk : 0 < V.kept.length) (hcl : V.cache.length ≤ 1000000000) (hc : Kd.C Kd.bool w A n choice) (hn : n ≤ 1000000000) :
    Calls Try.prog 26 #[ptrT t, .slice A n c] w fun e w' => ∃ t', e = .returned (ptrT t') ∧ w.heap.size ≤ t' ∧ TAt (fun j => w.heap.size ≤ j) w' t' (loseV V choice) ∧ Below w.heap.size w w' := by
  obtain ⟨kv, cv, hT, hK, hC, hP⟩ := H.out
  obtain ⟨Ak, ck, rfl⟩ := Kd.R_slice hK
  obtain ⟨Ac, cc, rfl⟩ := Kd.R_slice hC
  obtain ⟨gk, cur, rfl, -, hnc, -, hPk, hBk, hsz, hreps⟩ := flat_form hK hk
  have hch := Kd.reads_of_C (enc := Value.bool) (d := false) (h1 := fun _ => rfl) hc
  have KCH := Aside0.mk hch
  have KK := Aside0.mk (⟨hT, hK, hC, hBk, hreps⟩ : _ ∧ _ ∧ _ ∧ _ ∧ _)
  have HS := Aside0.mk hS
  obtain ⟨N, hN⟩ : ∃ N, V.kept.length = N := ⟨_, rfl⟩
  obtain ⟨m, hm⟩ : ∃ m, V.cache.length = m := ⟨_, rfl⟩
  have HNM := Aside0.mk (⟨hN, hm⟩ : _ ∧ _)
  have c0 := hT.cell 0
  have c1 := hT.cell 1
  have tl := hT.lt
  rw [hN, hm] at c0 c1
  have hN4 : N ≤ 4096 := by rw [← hN]; exact hS.len
  have hm9 : m ≤ 1000000000 := by omega
  have hN0 : 0 < N := by omega
  obtain ⟨news, hnews⟩ : ∃ news, cur.toList.take (N * 128) = news := ⟨_, rfl⟩
  have hnl : news.length = N * 128 := by
    rw [← hnews, List.length_take, Array.length_toList, hsz, ← hN]
    have := Nat.mul_le_mul_right 128 hnc
    omega
  have hmem : ∀ u, u ∈ news → u.oneCell' = true := fun u hu => by
    rw [← hnews, ← hN] at hu
    exact Kd.reps_one hreps (by decide) (fun p c h u hu => by rw [h.1] at hu; exact nums_one .u8 _ u hu) u hu
  obtain ⟨ie, hie, hi1⟩ := Option.map_eq_some_iff.1 infoSe3
  simp only [Prod.mk.injEq] at hi1
  obtain ⟨hi1, hi2, hi3⟩ := hi1
  have b0 : Below w.heap.size w (w.alloc (.cells #[] TSe)) := (Below.refl _ _).alloc (Nat.le_refl _) _
  have ho0 : (w.alloc (.cells #[] TSe)).ownsRow w.heap.size TSe 128 (.slice (some ⟨w.heap.size, 0, none⟩) 0 0) 0 [] := World.ownsRow_lit (base := w.heap.size) (e := TSe) (size := 128) w #[] 0 (Nat.le_refl _) (Nat.zero_le _) rfl
  have hcells : ∀ (j : Nat) (u : Value), news[j]? = some u → (w.alloc (.cells #[] TSe)).cell? ((⟨gk, 0, none⟩ : Addr).add j) = some u := fun j u hj => by
    rw [add_plain, (hBk.below b0).cell j]
    have hjl : j < N * 128 := by
      have := (List.getElem?_eq_some_iff.1 hj).1
      omega
    rw [← hnews, List.getElem?_take_of_lt hjl] at hj
    simpa using hj
  have h94 := Try.underlying83
  have HNW := Aside0.mk (⟨hnl, hmem, hcells, ho0, hnews⟩ : _ ∧ _ ∧ _ ∧ _ ∧ _)
  have HI := Aside0.mk (⟨hi1, hi2, hi3⟩ : _ ∧ _ ∧ _)
  have HIE := Aside0.mk hie
  have tok1 : True := trivial
  clear hT hK hC hBk hreps hch hc hnl hmem hcells ho0 hi1 hi2 hi3 hie H hS hk hcl hnews hsz hN hm hnc
  go_enter Try.func26, Try.ntmps26
  go_wp2_with (at_builtin; have _t := tok1; go_must (refine wpList_append_own _ rfl _ _ 76 rfl w.heap.size TSe ie (.agg (nums .u8 zB).toArray) 128 128 Try.underlying76 HIE.out HI.out.1 HI.out.2.1 HI.out.2.2 zB_len (by decide) (.slice (some ⟨w.heap.size, 0, none⟩) 0 0) 0 [] rfl HNW.out.2.2.2.1 ⟨gk, 0, none⟩ N ck news rfl HNW.out.1 HNW.out.2.2.1 HNW.out.2.1 (by unfold maxLen; omega) (by omega) (by simp) ?_); intro v1 w1 hv1 hg1 hat1; rw [Nat.zero_add, List.nil_append] at hv1; have hT1 : Blk w1 t TTr (trayC (.slice (some ⟨gk, 0, none⟩) V.kept.length ck) (.slice Ac V.cache.length cc) V) := (KK.out.1.below b0).grown hg1 (fun e => by have := KK.out.1.lt; simp only [Value.ownBlock, Option.some.injEq] at e; omega); obtain ⟨g1, cp1, rfl⟩ := owns_form hv1 hN0; have e1 := hT1.cell 1; have el := hT1.lt; rw [HNM.out.2] at e1; have HT1 := Aside0.mk hT1; have HV1 := Aside0.mk hv1; have HG1 := Aside0.mk hg1; clear _t tok1 hat1 hv1 hT1 hg1)
  obtain ⟨W2, hW2⟩ : ∃ W2, w1.alloc (.cells (trayC (.slice (some ⟨g1, 0, none⟩) N cp1) (.slice none 0 0) ⟨[], [], -1, false⟩) TTr) = W2 := ⟨_, rfl⟩
  have hb1 : Below w.heap.size w w1 := ⟨HG1.out.os, HG1.out.tape, HG1.out.output, Nat.le_trans b0.size HG1.out.size, fun j hj => (HG1.out.block j (Nat.lt_of_lt_of_le hj b0.size) (fun e => by simp only [Value.ownBlock, Option.some.injEq] at e; omega)).trans (b0.block j hj)⟩
  have hb2 : Below w.heap.size w W2 := by rw [← hW2]; exact hb1.alloc hb1.size _
  have hO2 : Blk W2 w1.heap.size TTr (trayC (.slice (some ⟨g1, 0, none⟩) N cp1) (.slice none 0 0) ⟨[], [], -1, false⟩) := by rw [← hW2]; exact Blk.new _ _ _
  have hR2 : kSe.R TSe W2 0 (fun j => w.heap.size ≤ j) (.slice (some ⟨g1, 0, none⟩) N cp1) V.kept := by
    rw [← hW2]
    refine ⟨fun j hj => own_base HV1.out j hj, news, ?_, ?_⟩
    · rw [HNM.out.1]
      exact own_weaken (own_move HV1.out (fun j hj => ((Below.refl w1.heap.size w1).alloc (Nat.le_refl _) _).block j (own_lt HV1.out j hj))) (Nat.zero_le _)
    · have := KK.out.2.2.2.2
      rw [HNM.out.1, HNW.out.2.2.2.2] at this
      exact this
  obtain ⟨t', ht'⟩ : ∃ t', w1.heap.size = t' := ⟨_, rfl⟩
  rw [ht'] at hO2
  have HT' := Aside0.mk (by rw [← ht']; exact hb1.size : w.heap.size ≤ t')
  have O2 := Aside0.mk hO2
  have R2 := Aside0.mk hR2
  have B2 := Aside0.mk hb2
  have HW2 := Aside0.mk hW2
  rw [ht']
  clear hb1 hb2 hO2 hR2 HV1 HG1 HNW HT1 e1 el b0 c0 c1 tl hW2 ht'
  rw [HW2.out]
  go_loopw [21] (fun v21 wr => ∃ i : Nat, v21 = .int .i64 (i : Int) ∧ Aside0 (i ≤ m) ∧ Aside0 (kSe.R TSe wr 0 (fun j => w.heap.size ≤ j) (.slice (some ⟨g1, 0, none⟩) N cp1) (settleV V.kept (chosen (V.cache.take i) choice))) ∧ Aside0 (Blk wr t' TTr (trayC (.slice (some ⟨g1, 0, none⟩) N cp1) (.slice none 0 0) ⟨[], [], -1, false⟩)) ∧ Aside0 (Below w.heap.size w wr)) (fun v21 _ => m - (intOf v21).toNat)
  case atStart => exact ⟨0, rfl, ⟨Nat.zero_le _⟩, R2, O2, B2⟩
  case round =>
    obtain ⟨i, rfl, hin, hR, hO, hb⟩ := hrel
    by_cases hi : i < m
    · have t1 : decide ((i : Int) < (m : Int)) = true := decide_eq_true (by omega)
      have t1n : decide (i < m) = true := decide_eq_true hi
      have hil : i < V.cache.length := by have := HNM.out; omega
      have p0 := eq_true (show (0 : Int) ≤ (i : Int) by omega)
      have p1 := eq_true (show (i : Int) < (m : Int) by omega)
      have p2 := eq_true hi
      have hw : IntKind.i64.wrap ((i : Int) + 1) = ((i + 1 : Nat) : Int) := by rw [show ((i : Int) + 1) = ((i + 1 : Nat) : Int) by omega]; exact IntWalk.i64_in _ (by omega)
      have HCr := Kd.R_below KK.out.2.2.1 hb.out
      rw [HNM.out.2] at HCr
      obtain ⟨gc, eA, -, hgc, hrng, hlen, -⟩ := flat_at HCr i hil
      cases eA
      obtain ⟨hx0, hx1, hx2⟩ := HS.out.cache V.cache[i] (List.getElem_mem hil)
      have hsn := chosen_snoc V.cache choice i hil
      obtain ⟨x, hx⟩ : ∃ x, V.cache[i] = x := ⟨_, rfl⟩
      rw [hx] at hrng hlen hx0 hx1 hx2 hsn
      have hrng2 : wr.rangeAt gc (i * 129) (stampC x) := hrng
      obtain ⟨W8, hW8⟩ : ∃ W8, wr.alloc (.cells (stampC x).toArray TCa) = W8 := ⟨_, rfl⟩
      have b8 : Below wr.heap.size wr W8 := by rw [← hW8]; exact (Below.refl _ _).alloc (Nat.le_refl _) _
      have hE8 : Blk W8 wr.heap.size TCa (stampC x).toArray := by rw [← hW8]; exact Blk.new _ _ _
      have hlen2 : (stampC x).toArray.size = 129 := by simp [stampC, nums, hx2]
      have hone := stamp_one x
      have HX := Aside0.mk (⟨hx0, hx1, hx2, hsn⟩ : _ ∧ _ ∧ _ ∧ _)
      have E8 := Aside0.mk hE8
      have B8 := Aside0.mk b8
      have HI := Aside0.mk hi
      have HWI := Aside0.mk hw
      obtain ⟨S, hS⟩ : ∃ S, stampC x = S := ⟨_, rfl⟩
      rw [hS] at hW8 hlen2 hone hrng2
      have HST := Aside0.mk hS
      have HW8 := Aside0.mk hW8
      clear hW8 hS hx hsn hrng hlen hx0 hx1 hx2 HCr hE8 b8 hi hil
      by_cases hch : i < n ∧ choice.getD i false = true
      · have u1 : decide ((i : Int) < (n : Int)) = true := decide_eq_true (by omega)
        have u1n : decide (i < n) = true := decide_eq_true hch.1
        have q1 := eq_true (show (i : Int) < (n : Int) by omega)
        have q2 := eq_true hch.1
        obtain ⟨ad, eA, hcc⟩ := KCH.out.2.2 (by omega)
        cases eA
        have hcell := (hb.out.cell (World.block_lt_of_cell? w _ (hcc i hch.1))).trans (hcc i hch.1)
        rw [hch.2] at hcell
        have HCH := Aside0.mk hch
        have hcell8 := (B8.out.cell (World.block_lt_of_cell? wr _ hcell)).trans hcell
        clear hch hcc
        go_wp2_with (first
          | (with_reducible refine wpList_load_mid rfl TCa (.tmp 24) rfl gc (i * 129) ?_ S _ hrng2 h94 rfl ?_ ?_; (focus simp [Act.eval, Act.put]); (focus (rw [infoCa]; simpa using hlen2.symm)))
          | (with_reducible refine wpList_alloc_agg rfl TCa _ rfl zeroCa ?_)
          | (with_reducible refine wpList_store_blk rfl TCa (.tmp 7) (.tmp 25) rfl wr.heap.size S.toArray ?_ ?_ infoCa hlen2 hone (Blk.newAt rfl) zCa_len ?_; (focus simp [Act.eval, Act.put]); (focus simp [Act.eval, Act.put]); rw [setRow_top rfl]; rw [HW8.out]))
        have hOd := (hO.out.below B8.out).drew
        have hEd : Blk W8.drew wr.heap.size TCa S.toArray := by rw [← HST.out]; exact E8.out.drew
        have hRd : kSe.R TSe W8.drew 0 (fun j => w.heap.size ≤ j) (.slice (some ⟨g1, 0, none⟩) N cp1) (settleV V.kept (chosen (V.cache.take i) choice)) := Kd.R_below (Kd.R_below hR.out B8.out) (Below.refl _ _).drew
        have hbd : Below w.heap.size w W8.drew := (hb.out.trans (B8.out.mono hb.out.size)).drew
        obtain ⟨W9, hW9⟩ : ∃ W9, W8.drew = W9 := ⟨_, rfl⟩
        have hba : Below W9.heap.size W9 (W9.alloc (.cells S.toArray TCa)) := (Below.refl _ _).alloc (Nat.le_refl _) _
        rw [hW9] at hOd hEd hRd hbd
        have hsl : S.length = 129 := by simpa using hlen2
        have hE0 : (match (0 : Nat) with | 0 => W8.drew = W9 | 1 => W8.drew = W9.alloc (.cells S.toArray TCa) | _ => True) := hW9
        have HALL : Aside0 (∀ (p : Nat) (w' : World), (match p with | 0 => w' = W9 | 1 => w' = W9.alloc (.cells S.toArray TCa) | _ => (kSe.R TSe w' 0 (fun j => w.heap.size ≤ j) (.slice (some ⟨g1, 0, none⟩) N cp1) (settleV V.kept (chosen (V.cache.take (i + 1)) choice)) ∧ Blk w' t' TTr (trayC (.slice (some ⟨g1, 0, none⟩) N cp1) (.slice none 0 0) ⟨[], [], -1, false⟩) ∧ Blk w' wr.heap.size TCa S.toArray ∧ Below w.heap.size w w')) → Blk w' t' TTr (trayC (.slice (some ⟨g1, 0, none⟩) N cp1) (.slice none 0 0) ⟨[], [], -1, false⟩) ∧ Blk w' wr.heap.size TCa S.toArray) := ⟨fun p w' h => by
          match p, h with
          | 0, h => subst h; exact ⟨hOd, hEd⟩
          | 1, h => subst h; exact ⟨hOd.below hba, hEd.below hba⟩
          | p + 2, h => exact ⟨h.2.1, h.2.2.1⟩⟩
        have hRa := Kd.R_below hRd hba
        have hCa : kCa.R TCa (W9.alloc (.cells S.toArray TCa)) 0 (fun j => True) (.slice (some ⟨W9.heap.size, 0, none⟩) 1 1) [x] := stamp_row (by rw [HST.out]; exact Blk.new _ _ _) HX.out.2.2.1 trivial
        have KS := Aside0.mk (settle_calls (fun j => w.heap.size ≤ j) (fun _ => True) _ [x] g1 N cp1 (some ⟨W9.heap.size, 0, none⟩) 1 1 (W9.alloc (.cells S.toArray TCa)) hRa hCa (fun y hy => by
          obtain rfl := List.mem_singleton.1 hy
          rw [settle_length]
          exact ⟨HX.out.1, HX.out.2.1, HX.out.2.2.1⟩) (by rw [settle_length, HNM.out.1]; exact hN0) (by rw [settle_length, HNM.out.1]; exact hN4) (by simp))
        have hnx : settleV (settleV V.kept (chosen (V.cache.take i) choice)) [x] = settleV V.kept (chosen (V.cache.take (i + 1)) choice) := by
          rw [HX.out.2.2.2, if_pos HCH.out.2, settle_snoc]
          rfl
        rw [hnx] at KS
        have hgl : g1 < (W9.alloc (.cells S.toArray TCa)).heap.size ∧ w.heap.size ≤ g1 := flat_lt hRa g1 rfl
        have htg : t' ≠ g1 := fun e => Kd.R_ne hRd hOd.out (by decide) (by rw [e]; rfl)
        have hwg : wr.heap.size ≠ g1 := fun e => Kd.R_ne hRd hEd.out (by decide) (by rw [e]; rfl)
        have HF := Aside0.mk (⟨hOd.below hba, hEd.below hba, hbd.trans (hba.mono hbd.size), hgl.2, htg, hwg⟩ : _ ∧ _ ∧ _ ∧ _ ∧ _ ∧ _)
        clear hOd hEd hRd hbd hRa hCa hgl htg hwg hnx hba hR hO hb
        refine Qy.wp_region_all (fun _ _ => True) (fun _ _ _ _ => True) (fun _ _ u => u = .tuple #[]) (fun p w' => match p with | 0 => w' = W9 | 1 => w' = W9.alloc (.cells S.toArray TCa) | _ => (kSe.R TSe w' 0 (fun j => w.heap.size ≤ j) (.slice (some ⟨g1, 0, none⟩) N cp1) (settleV V.kept (chosen (V.cache.take (i + 1)) choice)) ∧ Blk w' t' TTr (trayC (.slice (some ⟨g1, 0, none⟩) N cp1) (.slice none 0 0) ⟨[], [], -1, false⟩) ∧ Blk w' wr.heap.size TCa S.toArray ∧ Below w.heap.size w w')) [5, 6] (by kernel_rfl) (by kernel_rfl) hE0 ?_
        iterate 3 ((with_reducible refine Qy.y_val ⟨fun _ _ _ hF h w' h1 h2 => h w' h1 fun k => hF k _ (h2 k)⟩ ?_ ?_ ?_ ?_ ?_); (focus (first | exact fun _ => Only.refl _ _ | exact fun _ => Below.refl _ _ | exact fun _ => trivial)); (focus (exact fun _ => trivial)); (focus (first | rfl | decide)); (first | (focus (exact Qy.wanted_none rfl)) | (focus (exact Qg.wanted_on rfl rfl rfl))); apply Exists.intro; refine ⟨?_, ?_⟩; (focus (intro p' w' hw' hp'; skip; go_simp; (first | done | (with_reducible rfl)))); intro K hK; go_simp; (first | (with_reducible refine hK _ ?_) | (refine hK _ ?_)); clear hK K)
        ((with_reducible refine Qy.y_val ⟨fun _ _ _ hF h w' h1 h2 => h w' h1 fun k => hF k _ (h2 k)⟩ ?_ ?_ ?_ ?_ ?_); (focus (first | exact fun _ => Only.refl _ _ | exact fun _ => Below.refl _ _ | exact fun _ => trivial)); (focus (exact fun _ => trivial)); (focus (first | rfl | decide)); (first | (focus (exact Qy.wanted_none rfl)) | (focus (exact Qg.wanted_on rfl rfl rfl))); apply Exists.intro; refine ⟨?_, ?_⟩; (focus (intro p' w' hw' hp'; have hA9 := HALL.out _ _ hw'; have q0 := hA9.1.cell 0; have ql := hA9.1.lt; go_simp; (first | done | (with_reducible rfl)))); intro K hK; go_simp; (first | (with_reducible refine hK _ ?_) | (refine hK _ ?_)); clear hK K)
        ((with_reducible refine Qy.y_val ⟨fun _ _ _ hF h w' h1 h2 => h w' h1 fun k => hF k _ (h2 k)⟩ ?_ ?_ ?_ ?_ ?_); (focus (first | exact fun _ => Only.refl _ _ | exact fun _ => Below.refl _ _ | exact fun _ => trivial)); (focus (exact fun _ => trivial)); (focus (first | rfl | decide)); (first | (focus (exact Qy.wanted_none rfl)) | (focus (exact Qg.wanted_on rfl rfl rfl))); apply Exists.intro; refine ⟨?_, ?_⟩; (focus (intro p' w' hw' hp'; exact exec_load_mid TCa (.tmp 7) rfl wr.heap.size 0 (by rfl) S _ (fun j v hj => by rw [(HALL.out _ _ hw').2.cell, Nat.zero_add]; simpa using hj) h94 rfl (by rw [infoCa, hsl]))); intro K hK; go_simp; (first | (with_reducible refine hK _ ?_) | (refine hK _ ?_)); clear hK K)
        ((with_reducible refine Qy.y_put 0 (.slice (some ⟨W9.heap.size, 0, none⟩) 1 1) ⟨fun _ _ _ hF h w' h1 h2 => h w' h1 fun k => hF k _ (h2 k)⟩ ?_ ?_ ?_ ?_); (focus (exact fun _ => trivial)); (focus (first | rfl | decide)); (first | (focus (exact Qy.wanted_none rfl)) | (focus (exact Qg.wanted_on rfl rfl rfl))); refine ⟨?_, ?_⟩; (focus (intro w' hw' hp'; obtain rfl : w' = W9 := hw'; exact ⟨w'.alloc (.cells S.toArray TCa), exec_slice_one (.tmp 40) rfl S.toArray (by rfl) Try.underlying77 infoCa3 (by decide) (by decide) (by simpa using hsl) _, trivial, rfl⟩)); intro K hK; go_simp; (first | (with_reducible refine hK _ ?_) | (refine hK _ ?_)); clear hK K)
        ((with_reducible refine Qy.y_turn 1 ?_ ?_ ?_); (focus (first | rfl | decide)); (first | (focus (exact Qy.wanted_none rfl)) | (focus (exact Qg.wanted_on rfl rfl rfl))); apply Exists.intro; apply Exists.intro; refine ⟨?_, ?_, ?_, ?_, ?_⟩; (focus (intro w'; go_simp; (first | rfl | exact ⟨rfl, rfl⟩))); (focus (exact ⟨_, rfl⟩)); (focus (exact fun u w1 w2 h hb => trivial)); (focus (intro w' hw' hp'; obtain rfl : w' = W9.alloc (.cells S.toArray TCa) := hw'; refine (KS.out).mono ?_; rintro e w8 ⟨rfl, hR8, hO8⟩; exact ⟨_, rfl, trivial, ⟨hR8, hO8.blk HF.out.1 HF.out.2.2.2.2.1, hO8.blk HF.out.2.1 HF.out.2.2.2.2.2, HF.out.2.2.1.trans (hO8.below (B := w.heap.size) HF.out.2.2.1.size (fun j hj => by subst hj; exact HF.out.2.2.2.1))⟩, rfl, trivial⟩)); rintro u8 hu8; intro K hK; go_simp; (first | (with_reducible refine hK _ ?_) | (refine hK _ ?_)); clear hK K)
        obtain rfl := hu8
        ((with_reducible refine Qy.y_nil ?_); intro w' hw' hf')
        have hFin : kSe.R TSe w' 0 (fun j => w.heap.size ≤ j) (.slice (some ⟨g1, 0, none⟩) N cp1) (settleV V.kept (chosen (V.cache.take (i + 1)) choice)) ∧ Blk w' t' TTr (trayC (.slice (some ⟨g1, 0, none⟩) N cp1) (.slice none 0 0) ⟨[], [], -1, false⟩) ∧ Blk w' wr.heap.size TCa S.toArray ∧ Below w.heap.size w w' := hw'
        have HFIN := Aside0.mk hFin
        have hw := HWI.out
        clear hw' hf' hFin HALL KS HF hE0
        go_wp2
        go_roundw
        case rel => exact ⟨i + 1, by first | rfl | (rw [HWI.out]) | go_num, ⟨HI.out⟩, ⟨HFIN.out.1⟩, ⟨HFIN.out.2.1⟩, ⟨HFIN.out.2.2.2⟩⟩
        case measure => have := HI.out; simp [intOf, HWI.out]; omega
      · have hsame : settleV V.kept (chosen (V.cache.take (i + 1)) choice) = settleV V.kept (chosen (V.cache.take i) choice) := by
          rw [HX.out.2.2.2, if_neg]
          intro h
          refine hch ⟨?_, h⟩
          have := KCH.out.1
          apply Classical.byContradiction
          intro hge
          rw [List.getD, List.getElem?_eq_none (by omega)] at h
          cases h
        have R9 := Aside0.mk (by rw [hsame]; exact Kd.R_below hR.out B8.out : kSe.R TSe W8 0 (fun j => w.heap.size ≤ j) (.slice (some ⟨g1, 0, none⟩) N cp1) (settleV V.kept (chosen (V.cache.take (i + 1)) choice)))
        have O9 := Aside0.mk (hO.out.below B8.out)
        have B9 := Aside0.mk (hb.out.trans (B8.out.mono hb.out.size))
        by_cases hin2 : i < n
        · have u1 : decide ((i : Int) < (n : Int)) = true := decide_eq_true (by omega)
          have u1n : decide (i < n) = true := decide_eq_true hin2
          have q1 := eq_true (show (i : Int) < (n : Int) by omega)
          have q2 := eq_true hin2
          obtain ⟨ad, eA, hcc⟩ := KCH.out.2.2 (by omega)
          cases eA
          have hcell := (hb.out.cell (World.block_lt_of_cell? w _ (hcc i hin2))).trans (hcc i hin2)
          have hf : choice.getD i false = false := by
            cases h : choice.getD i false with
            | false => rfl
            | true => exact absurd ⟨hin2, h⟩ hch
          rw [hf] at hcell
          have hcell8 := (B8.out.cell (World.block_lt_of_cell? wr _ hcell)).trans hcell
          clear hch hcc hf hsame hin2
          go_wp2_with (first
            | (with_reducible refine wpList_load_mid rfl TCa (.tmp 24) rfl gc (i * 129) ?_ S _ hrng2 h94 rfl ?_ ?_; (focus simp [Act.eval, Act.put]); (focus (rw [infoCa]; simpa using hlen2.symm)))
            | (with_reducible refine wpList_alloc_agg rfl TCa _ rfl zeroCa ?_)
            | (with_reducible refine wpList_store_blk rfl TCa (.tmp 7) (.tmp 25) rfl wr.heap.size S.toArray ?_ ?_ infoCa hlen2 hone (Blk.newAt rfl) zCa_len ?_; (focus simp [Act.eval, Act.put]); (focus simp [Act.eval, Act.put]); rw [setRow_top rfl]; rw [HW8.out]))
          go_roundw
          case rel => exact ⟨i + 1, by first | rfl | (rw [HWI.out]) | go_num, ⟨HI.out⟩, R9, O9, B9⟩
          case measure => have := HI.out; simp [intOf, HWI.out]; omega
        · have u1 : decide ((i : Int) < (n : Int)) = false := decide_eq_false (by omega)
          have u1n : decide (i < n) = false := decide_eq_false hin2
          clear hch hsame hin2
          go_wp2_with (first
            | (with_reducible refine wpList_load_mid rfl TCa (.tmp 24) rfl gc (i * 129) ?_ S _ hrng2 h94 rfl ?_ ?_; (focus simp [Act.eval, Act.put]); (focus (rw [infoCa]; simpa using hlen2.symm)))
            | (with_reducible refine wpList_alloc_agg rfl TCa _ rfl zeroCa ?_)
            | (with_reducible refine wpList_store_blk rfl TCa (.tmp 7) (.tmp 25) rfl wr.heap.size S.toArray ?_ ?_ infoCa hlen2 hone (Blk.newAt rfl) zCa_len ?_; (focus simp [Act.eval, Act.put]); (focus simp [Act.eval, Act.put]); rw [setRow_top rfl]; rw [HW8.out]))
          go_roundw
          case rel => exact ⟨i + 1, by first | rfl | (rw [HWI.out]) | go_num, ⟨HI.out⟩, R9, O9, B9⟩
          case measure => have := HI.out; simp [intOf, HWI.out]; omega
    · have t1 : decide ((i : Int) < (m : Int)) = false := decide_eq_false (by omega)
      have t1n : decide (i < m) = false := decide_eq_false hi
      have hfin : V.cache.take i = V.cache := List.take_of_length_le (by have := HNM.out.2; have := hin.out; omega)
      have R9 := Aside0.mk (by have := hR.out; rwa [hfin] at this : kSe.R TSe wr 0 (fun j => w.heap.size ≤ j) (.slice (some ⟨g1, 0, none⟩) N cp1) (settleV V.kept (chosen V.cache choice)))
      have HL := Aside0.mk (show (settleV V.kept (chosen V.cache choice)).length = N by rw [settle_length, HNM.out.1])
      clear hfin hi
      go_wp2
      go_ret
      refine ⟨t', rfl, HT'.out, ⟨.slice (some ⟨g1, 0, none⟩) N cp1, .slice none 0 0, hO.out, R9.out, Kd.R_nil _ _ _ _ _, HT'.out⟩, hb.out⟩
end Go.Proofs.Ytddhngalokmdoaa.Spo

/- What a law has beside a tray: frames, records that came in or are its own. -/
namespace Go.Proofs.Ytddhngalokmdoaa.Spo
open Go.RowKit Go.Proofs.YtddhngalokmdoaaW.PrintWords Go.Proofs.YtddhngalokmdoaaW.PrintLast Go.Proofs.YtddhngalokmdoaaW.PrintMore Go.Proofs.Ytddhngalokmdoaa.Arr Go.Proofs.Ytddhngalokmdoaa.PSpoolPlays
set_option linter.unusedVariables false
set_option linter.unusedSimpArgs false

theorem TAt.grown2 {P : Nat → Prop} {w w1 : World} {t : Nat} {V : TrayV} {row : Option Nat} (h : TAt P w t V) (hg : w.grownBy w1 row) (hr : ∀ k, row = some k → ∃ cs, Blk w k TSl cs) : TAt P w1 t V := by
  obtain ⟨kv, cv, h1, h2, h3, h4⟩ := h.out
  refine ⟨kv, cv, h1.grown hg (fun e => ?_), flat_move h2 fun k hk => hg.block k (flat_lt h2 k hk).1 (fun e => ?_), flat_move h3 fun k hk => hg.block k (flat_lt h3 k hk).1 (fun e => ?_), h4⟩
  · obtain ⟨cs, hb⟩ := hr t e.symm
    exact absurd rfl (h1.ne hb (by decide))
  · obtain ⟨cs, hb⟩ := hr k e.symm
    exact Kd.R_ne h2 hb.out (by decide) hk.symm
  · obtain ⟨cs, hb⟩ := hr k e.symm
    exact Kd.R_ne h3 hb.out (by decide) hk.symm
theorem SAt.grown2 {w0 w w1 : World} {s t : Nat} {V : TrayV} {S : SpoolV} {row : Option Nat} (h : SAt w0 w s t V S) (hg : w.grownBy w1 row) (hr : ∀ k, row = some k → w0.heap.size ≤ k ∧ ∃ cs, Blk w k TSl cs) : SAt w0 w1 s t V S := by
  obtain ⟨⟨P, h1, h2, h3⟩, h4, h5, h6, h7, h8, h9, h10, h11⟩ := h
  refine ⟨⟨P, h1.grown2 hg (fun k e => (hr k e).2), h2, h3⟩, h4, h5, h6, ?_, h8.grown hg (fun e => ?_), h9, h10, h11⟩
  · exact ⟨hg.os.trans h7.os, hg.tape.trans h7.tape, hg.output.trans h7.output, Nat.le_trans h7.size hg.size, fun k hk => (hg.block k (Nat.lt_of_lt_of_le hk h7.size) (fun e => by have := (hr k e.symm).1; omega)).trans (h7.block k hk)⟩
  · obtain ⟨cs, hb⟩ := (hr s e.symm).2
    exact absurd rfl (h8.ne hb (by decide))
/-- Blocks that are no tray's nor spool's are as they were. -/
def Frame2 (w w' : World) : Prop := ∀ k T cs, Blk w k T cs → T ≠ TTr → T ≠ TSe → T ≠ TCa → T ≠ TSp → Blk w' k T cs
/-- The tray's blocks alone. -/
theorem TAt.min2 {P : Nat → Prop} {w : World} {t : Nat} {V : TrayV} (h : TAt P w t V) : ∃ P', TAt P' w t V ∧ (∀ j, P' j → P j ∧ j < w.heap.size ∧ ∀ T cs, Blk w j T cs → T = TTr ∨ T = TSe ∨ T = TCa) := by
  obtain ⟨kv, cv, h1, h2, h3, h4⟩ := h.out
  refine ⟨fun j => P j ∧ j < w.heap.size ∧ ∀ T cs, Blk w j T cs → T = TTr ∨ T = TSe ∨ T = TCa, ⟨kv, cv, h1, ⟨fun k hk => ?_, ?_⟩, ⟨fun k hk => ?_, ?_⟩, h4, h1.lt, fun T cs hb => .inl ?_⟩, fun j hj => hj⟩
  · refine ⟨(flat_lt h2 k hk).2, (flat_lt h2 k hk).1, fun T cs hb => .inr (.inl ?_)⟩
    obtain ⟨c, hc⟩ := own_typedR h2 k hk
    exact Classical.byContradiction fun hne => absurd rfl (hb.ne hc hne)
  · obtain ⟨_, inner, ho, hr⟩ := h2
    exact ⟨inner, ho, hr⟩
  · refine ⟨(flat_lt h3 k hk).2, (flat_lt h3 k hk).1, fun T cs hb => .inr (.inr ?_)⟩
    obtain ⟨c, hc⟩ := own_typedR h3 k hk
    exact Classical.byContradiction fun hne => absurd rfl (hb.ne hc hne)
  · obtain ⟨_, inner, ho, hr⟩ := h3
    exact ⟨inner, ho, hr⟩
  · exact Classical.byContradiction fun hne => absurd rfl (hb.ne h1 hne)
theorem sat_append2 {w0 w w1 : World} {s t : Nat} {V : TrayV} {S : SpoolV} (H : SAt w0 w s t V S) (hb : Below w.heap.size w w1) (hcl : V.cache.length ≤ 900000000) (ht : S.tail ≤ 140737480000000) (b : List Int) (A : Option Addr) (n c : Nat) (hby : Bytes b) (hc : n ≤ c) (hr : ReadsInt w1 .u8 A n b) (hA : ∀ ad, A = some ad → 0 < n → ad.block < w0.heap.size ∨ ∃ T cs, Blk w1 ad.block T cs ∧ T ≠ TTr ∧ T ≠ TSe ∧ T ≠ TCa ∧ T ≠ TSp) (hn9 : n ≤ 1000000000) :
    Calls Try.prog 20 #[ptrT s, .slice A n c] w1 fun e w' => e = .returned (.int .i64 (appendV V S b).2.2) ∧ SAt w0 w' s t (appendV V S b).1 (appendV V S b).2.1 ∧ Frame2 w1 w' := by
  have H1 := H.below hb
  obtain ⟨⟨P, h1, h2, h3⟩, h4, h5, h6, h7, h8, h9, h10, h11⟩ := H
  obtain ⟨P', m1, m2⟩ := h1.min2
  have hk : 0 < V.kept.length := by have := h10.count; have := h10.first; omega
  have hs := h8.lt
  refine (append_calls P' s t V S b A n c w1 (m1.below hb) (fun h => h2 (m2 s h).1) h4 h5 hcl h6 hk h10 H1.blk hby hc hr (fun ad e h0 h => ?_) hn9 ht).mono ?_
  · rcases hA ad e h0 with hlo | ⟨T, cs, hbk, n1, n2, n3, n4⟩
    · rcases h with h | h
      · have := h3 _ (m2 _ h).1; omega
      · omega
    rcases h with h | h
    · obtain ⟨-, q1, q2⟩ := m2 _ h
      have hbw : Blk w ad.block T cs := ⟨(hb.block _ q1).symm.trans hbk.out⟩
      rcases q2 T cs hbw with q | q | q
      · exact n1 q
      · exact n2 q
      · exact n3 q
    · rw [h] at hbk
      exact absurd rfl (hbk.ne H1.blk n4)
  · rintro e w' ⟨rfl, hT, hB, hO⟩
    obtain ⟨k1, k2, k3, k4, k5⟩ := append_keep (S := S) h4 h5 hby h6
    obtain ⟨r1, r2, r3, r4⟩ := append_ring (V := V) (S := S) (b := b)
    have hw01 := H1.low
    refine ⟨rfl, ⟨⟨_, hT, ?_, ?_⟩, k1, k2, k5, hw01.trans (hO.below hw01.size (fun j h => ?_)), hB, h9, append_fit h10 ht, by rw [r1, r2, k3]; exact h11⟩, fun k T cs hbk n1 n2 n3 n4 => hO.blk hbk fun h => ?_⟩
    · intro h
      have := hb.size
      rcases h with h | h
      · exact h2 (m2 _ h).1
      · omega
    · intro j h
      rcases h with h | h
      · exact h3 j (m2 _ h).1
      · have := hw01.size; omega
    · rcases h with h | h
      · exact h3 j (m2 _ h).1
      · subst h; exact h9
    · rcases h with h | h
      · obtain ⟨-, q1, q2⟩ := m2 _ h
        have hbw : Blk w k T cs := ⟨(hb.block k q1).symm.trans hbk.out⟩
        rcases q2 T cs hbw with q | q | q
        · exact n1 q
        · exact n2 q
        · exact n3 q
      · subst h
        exact absurd rfl (hbk.ne H1.blk n4)
theorem sat_cut2 {w0 w : World} {s t : Nat} {V : TrayV} {S : SpoolV} (H : SAt w0 w s t V S) : Calls Try.prog 22 #[ptrT s] w fun e w' => e = .returned (.tuple #[]) ∧ SAt w0 w' s t V { S with head := S.tail } ∧ Frame2 w w' := by
  have H0 := H
  refine (cut_calls s t S w H.blk).mono ?_
  rintro e w' ⟨rfl, hB, hO⟩
  obtain ⟨⟨P, h1, h2, h3⟩, h4, h5, h6, h7, h8, h9, h10, h11⟩ := H
  refine ⟨rfl, ⟨⟨P, h1.onlyP hO (fun j _ hp e => h2 (by rw [← e]; exact hp)), h2, h3⟩, h4, h5, h6, h7.trans (hO.below h7.size (fun j h => by subst h; exact h9)), hB, h9, ⟨h10.first, h10.count, h10.epoch, ⟨by have := h10.head; show 0 ≤ S.tail; omega, Int.le_refl _⟩, h10.tail.1, by have := h10.count; show S.tail - S.tail ≤ S.count; omega⟩, h11⟩, fun k T cs hbk n1 n2 n3 n4 => hO.blk hbk fun h => ?_⟩
  subst h
  exact absurd rfl (hbk.ne H0.blk n4)
/-- A power told. -/
theorem sat_power2 {w0 w : World} {s t : Nat} {V : TrayV} {S : SpoolV} (H : SAt w0 w s t V S) (n : Int) (hn : n ≤ 9223372036854775807) : Calls Try.prog 25 #[ptrT t, .int .i64 n] w fun e w' => e = .returned (.int .i64 (powerV V n).2) ∧ SAt w0 w' s t (powerV V n).1 S ∧ Frame2 w w' := by
  have H0 := H
  obtain ⟨⟨P, h1, h2, h3⟩, h4, h5, h6, h7, h8, h9, h10, h11⟩ := H
  obtain ⟨P', m1, m2⟩ := h1.min2
  refine (power_calls P' t V n w m1).mono ?_
  rintro e w' ⟨rfl, hT, hO⟩
  have hk : (powerV V n).1.kept = V.kept ∧ (powerV V n).1.left ≤ 9223372036854775807 := by
    unfold powerV
    split
    · exact ⟨rfl, h6⟩
    · exact ⟨rfl, hn⟩
  refine ⟨rfl, ⟨⟨P', hT, fun h => h2 (m2 _ h).1, fun j h => h3 j (m2 _ h).1⟩, h4.power n, h5.power n, hk.2, h7.trans (hO.below h7.size (fun j h => h3 j (m2 _ h).1)), hO.blk h8 (fun h => h2 (m2 _ h).1), h9, h10, by rw [hk.1]; exact h11⟩, fun k T cs hbk n1 n2 n3 n4 => hO.blk hbk fun h => ?_⟩
  rcases (m2 _ h).2.2 T cs hbk with q | q | q
  · exact n1 q
  · exact n2 q
  · exact n3 q
/-- A loss of power: another tray. -/
theorem tr_lose2 {w0 w : World} {t : Nat} {V : TrayV} (H : TrAt w0 w t V) (hk : 0 < V.kept.length) (hcl : V.cache.length ≤ 900000000) (choice : List Bool) (A : Option Addr) (n c : Nat) (hc : Kd.C Kd.bool w A n choice) (hn : n ≤ 1000000000) :
    Calls Try.prog 26 #[ptrT t, .slice A n c] w fun e w' => ∃ t', e = .returned (ptrT t') ∧ TrAt w0 w' t' (loseV V choice) ∧ Below w.heap.size w w' := by
  obtain ⟨⟨P, h1, h2⟩, h3, h4, h5, h6⟩ := H
  refine (lose_calls P t V choice A n c w h1 h3 hk (by omega) hc hn).mono ?_
  rintro e w' ⟨t', rfl, ht, hT, hb⟩
  exact ⟨t', rfl, ⟨⟨_, hT, fun j h => Nat.le_trans h6.size h⟩, h3.lose choice, h4.lose choice, by show (-1 : Int) ≤ _; decide, h6.trans (hb.mono h6.size)⟩, hb⟩
/-! ### records that came in, or are the law's own -/
structure Recs2 (w0 w : World) (v : Value) (xs : List (List Int)) : Prop where mk ::
  out : ∃ ss : List Sl, w.ownsRow w0.heap.size TSl 1 v ss.length (encs encS ss) ∧ ss.length = xs.length ∧ ∀ (i : Nat) (s : Sl) (x : List Int), ss[i]? = some s → xs[i]? = some x → ReadsInt w .u8 s.A s.n x ∧ (∀ ad, s.A = some ad → 0 < s.n → ad.block < w0.heap.size ∨ ∃ cs, Blk w ad.block TU8 cs)
theorem reads_move {w w' : World} {A : Option Addr} {n : Nat} {b : List Int} (h : ReadsInt w .u8 A n b) (hm : ∀ ad, A = some ad → 0 < n → w'.heap[ad.block]? = w.heap[ad.block]?) : ReadsInt w' .u8 A n b := ⟨h.1, h.2.1, fun h0 => by
  obtain ⟨ad, e, hc⟩ := h.2.2 h0
  refine ⟨ad, e, fun j hj => ?_⟩
  rw [← hc j hj]
  unfold World.cell?
  rw [add_block, hm ad e h0]⟩
namespace Recs2
variable {w0 w w1 : World} {v : Value} {xs : List (List Int)}
theorem nil (w0 w : World) : Recs2 w0 w (.slice none 0 0) [] := ⟨[], own_nil _ _ _ _, rfl, fun i s x h => by simp at h⟩
theorem below (h : Recs2 w0 w v xs) (hb : Below w.heap.size w w1) : Recs2 w0 w1 v xs := by
  obtain ⟨ss, h1, h2, h3⟩ := h.out
  refine ⟨ss, own_move h1 (fun g hg => hb.block g (own_lt h1 g hg)), h2, fun i s x a b => ?_⟩
  obtain ⟨k1, k2⟩ := h3 i s x a b
  exact ⟨k1.below hb, fun ad e h0 => (k2 ad e h0).imp_right fun ⟨cs, hcs⟩ => ⟨cs, hcs.below hb⟩⟩
theorem frame (h : Recs2 w0 w v xs) (hf : Frame2 w w1) (hb : Below w0.heap.size w0 w) (hb1 : Below w0.heap.size w0 w1) : Recs2 w0 w1 v xs := by
  obtain ⟨ss, h1, h2, h3⟩ := h.out
  refine ⟨ss, own_move h1 (fun k hk => ?_), h2, fun i s x a b => ?_⟩
  · obtain ⟨c, hc⟩ := own_typed h1 k hk
    exact (hf k TSl c ⟨hc⟩ (by decide) (by decide) (by decide) (by decide)).out.trans hc.symm
  · obtain ⟨k1, k2⟩ := h3 i s x a b
    refine ⟨reads_move k1 fun ad e h0 => ?_, fun ad e h0 => (k2 ad e h0).imp_right fun ⟨cs, hcs⟩ => ⟨cs, hf _ TU8 cs hcs (by decide) (by decide) (by decide) (by decide)⟩⟩
    rcases k2 ad e h0 with q | ⟨cs, hcs⟩
    · exact (hb1.block _ q).trans (hb.block _ q).symm
    · exact (hf _ TU8 cs hcs (by decide) (by decide) (by decide) (by decide)).out.trans hcs.out.symm
theorem typed (h : Recs2 w0 w v xs) : ∀ k, v.ownBlock = some k → w0.heap.size ≤ k ∧ ∃ cs, Blk w k TSl cs := fun k hk => by
  obtain ⟨ss, h1, h2, h3⟩ := h.out
  obtain ⟨c, hc⟩ := own_typed h1 k hk
  exact ⟨own_base h1 k hk, c, ⟨hc⟩⟩
theorem form (h : Recs2 w0 w v xs) : ∃ A n c, v = .slice A n c ∧ n = xs.length ∧ n ≤ c := by
  obtain ⟨ss, h1, h2, h3⟩ := h.out
  rcases h1.2 with ⟨rfl, e⟩ | ⟨g, cap, cur, rfl, -, -, hc, -⟩
  · exact ⟨none, 0, 0, rfl, by omega, Nat.le_refl _⟩
  · exact ⟨_, _, _, rfl, h2, hc⟩
/-- What find gave. -/
theorem ofRecs {B : Nat} (h : Recs w B v xs) (hB : w0.heap.size ≤ B) : Recs2 w0 w v xs := by
  obtain ⟨ss, h1, h2, h3⟩ := h.out
  refine ⟨ss, own_weaken h1 hB, h2, fun i s x a b => ?_⟩
  have hr := h3 i s x a b
  obtain ⟨A', c', e, hrd⟩ := hr.reads
  have e1 : s.A = A' ∧ s.n = x.length := by
    have : (Value.slice s.A s.n s.c) = .slice A' x.length c' := e
    injection this with q1 q2 q3
    exact ⟨q1, q2⟩
  refine ⟨by rw [e1.1, e1.2]; exact hrd, fun ad ea h0 => .inr ?_⟩
  rcases hr.own.2 with ⟨q, -⟩ | ⟨g, cap, cur, q, hg, hh, -⟩
  · have : (Value.slice s.A s.n s.c) = .slice none 0 0 := q
    injection this with q1 q2 q3
    rw [q2] at h0
    exact absurd h0 (Nat.lt_irrefl 0)
  · have : (Value.slice s.A s.n s.c) = .slice (some ⟨g, 0, none⟩) (nums .u8 x).length cap ∨ (Value.slice s.A s.n s.c).ownBlock = some g := .inr (by rw [show Value.slice s.A s.n s.c = _ from q]; rfl)
    have hA : s.A = some ⟨g, 0, none⟩ := by
      have q' : Value.slice s.A s.n s.c = _ := q
      injection q' with q1 q2 q3
    rw [hA] at ea
    cases ea
    exact ⟨cur, ⟨hh⟩⟩
end Recs2
end Go.Proofs.Ytddhngalokmdoaa.Spo
