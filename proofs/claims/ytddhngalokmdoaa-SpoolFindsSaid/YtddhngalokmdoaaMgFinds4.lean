/- Texts of this claim, merged: Dt4, Tlo. -/
import Derived.Test.YtddhngalokmdoaaMgFinds3
import Derived.Test.YtddhngalokmdoaaMgBase5
import Derived.Test.YtddhngalokmdoaaMgBase7
import Derived.WalkSpells
import Derived.Test.YtddhngalokmdoaaMgBase6
namespace Go.Proofs.Ytddhngalokmdoaa.Spo
open Go.RowKit Go.Proofs.YtddhngalokmdoaaW.PrintWords Go.Proofs.YtddhngalokmdoaaW.PrintLast Go.Proofs.YtddhngalokmdoaaW.PrintMore Go.Proofs.Ytddhngalokmdoaa.Arr Go.Proofs.Ytddhngalokmdoaa.PSpoolPlays
set_option linter.unusedVariables false
set_option linter.unusedSimpArgs false

theorem settle_get2 (l : List (Int × List Int)) : ∀ (k : List (List Int)) (a : Nat), a < k.length → (∀ x, x ∈ l → 0 ≤ x.1 ∧ x.1 < k.length) → (settleV k l).getD a [] = lastV l (a : Int) (k.getD a []) := by
  induction l with
  | nil => intro k a ha _; rfl
  | cons x l ih =>
    intro k a ha hx
    show (settleV (k.set x.1.toNat x.2) l).getD a [] = lastV l (a : Int) (if x.1 = (a : Int) then x.2 else k.getD a [])
    rw [ih _ a (by rw [List.length_set]; exact ha) (fun y hy => by rw [List.length_set]; exact hx y (by simp [hy]))]
    congr 1
    have h1 := hx x (by simp)
    by_cases h : x.1 = (a : Int)
    · rw [if_pos h, h, Int.toNat_natCast, List.getD, List.getElem?_set_self ha, Option.getD_some]
    · rw [if_neg h, List.getD, List.getElem?_set_ne (by omega), List.getD]
theorem doc_read {V : TrayV} {kl : List (Int × List Int)} (h : V.kept = settleV (zeroK V.kept.length) kl) (hx : ∀ x, x ∈ kl → 0 ≤ x.1 ∧ x.1 < V.kept.length ∧ x.2.length = 128) (a : Nat) (ha : a < V.kept.length) : readV V (a : Int) = lastV V.cache (a : Int) (lastV kl (a : Int) zB) := by
  unfold readV
  rw [Int.toNat_natCast]
  have h1 := settle_get2 kl (zeroK V.kept.length) a (by simpa [zeroK] using ha) (fun x h => by have := hx x h; simp [zeroK]; omega)
  rw [← h] at h1
  rw [h1]
  congr 2
  simp [zeroK, ha]
theorem nums_numsA (l : List Int) : (nums .u8 l).toArray = numsA .u8 l := rfl
set_option maxHeartbeats 16000000 in
set_option maxRecDepth 100000 in
theorem dread_calls (nk : Nat) (K C : Value) (V : TrayV) (m : Nat) (w : World) (H : DocT w K C V m) (hS : Sound V) (hk : V.kept.length = nk) (hm : m ≤ 900000000) (l : Int) (d : Bool) (a : Nat) (ha : a < nk) :
    Calls Try.prog 31 #[.agg (docC nk K C l d), .int .i64 (a : Int)] w fun e w' => e = .returned (.agg (numsA .u8 (readV V (a : Int)))) ∧ Below w.heap.size w w' := by
  obtain ⟨kl, hkr, hcr, hkv, hkl, hml⟩ := H.out
  obtain ⟨A1, c1, rfl⟩ := Kd.R_slice hkr
  obtain ⟨A2, c2, rfl⟩ := Kd.R_slice hcr
  rw [doc_read hkv hkl a (by omega)]
  have HX := Aside0.mk (⟨fun x hx => (hkl x hx).2.2, fun x hx => (hS.cache x hx).2.2⟩ : (∀ x, x ∈ kl → x.2.length = 128) ∧ (∀ x, x ∈ V.cache → x.2.length = 128))
  obtain ⟨n1, hn1⟩ : ∃ n1, kl.length = n1 := ⟨_, rfl⟩
  obtain ⟨n2, hn2⟩ : ∃ n2, V.cache.length = n2 := ⟨_, rfl⟩
  rw [hn1] at hkr
  rw [hn2] at hcr
  rw [hn1, hn2] at hml
  rw [hn1, hn2]
  have HK := Aside0.mk (⟨hkr, hcr⟩ : kDw.R TDw w 0 (fun _ => True) (.slice A1 n1 c1) kl ∧ kDw.R TDw w 0 (fun _ => True) (.slice A2 n2 c2) V.cache)
  have HN := Aside0.mk (⟨hn1, hn2, hml, hm⟩ : _ ∧ _ ∧ _ ∧ _)
  have hzr := zeroDa
  have hnr := noneDa
  obtain ⟨Z, hZ⟩ : ∃ Z, numsA .u8 zB = Z := ⟨_, rfl⟩
  rw [hZ] at hzr hnr
  have HZ := Aside0.mk (⟨hZ, by rw [← hZ, numsA_size, zB_length], by rw [← hZ]; exact numsA_one _ _⟩ : _ ∧ Z.size = 128 ∧ Z.all (·.oneCell') = true)
  obtain ⟨D, hD⟩ : ∃ D, docC nk (.slice A1 n1 c1) (.slice A2 n2 c2) l d = D := ⟨_, rfl⟩
  have HD := Aside0.mk (⟨by rw [← hD]; rfl, by rw [← hD]; rfl⟩ : D[1]? = some (.slice A1 n1 c1) ∧ D[2]? = some (.slice A2 n2 c2))
  obtain ⟨h, hh⟩ : ∃ h, w.heap.size = h := ⟨_, rfl⟩
  obtain ⟨W3, hW3⟩ : ∃ W3, ((w.alloc (.cells D TDt)).alloc (.cells Z TDa)).alloc (.cells Z TDa) = W3 := ⟨_, rfl⟩
  have HW3 := Aside0.mk hW3
  have D3 := Aside0.mk (by rw [← hW3]; exact ((Blk.newAt hh.symm).alloc _).alloc _ : Blk W3 h TDt D)
  have R3 := Aside0.mk (by rw [← hW3]; exact (Blk.newAt (by simp [hh])).alloc _ : Blk W3 (h + 1) TDa Z)
  have E3 := Aside0.mk (by rw [← hW3, HZ.out.1]; exact Blk.newAt (by simp [hh]) : Blk W3 (h + 1 + 1) TDa (numsA .u8 zB))
  have L3 := Aside0.mk (by rw [← hW3]; exact below_alloc (below_alloc (below_alloc (Below.refl _ _) _) _) _ : Below w.heap.size w W3)
  rw [hD]
  have HH := Aside0.mk hh
  clear hkr hcr hkv hkl hml hn1 hn2 hm hZ hD hW3 H hS hk ha hh
  go_enter Try.func31, Try.ntmps31
  go_upto_region 2 with (first
    | (with_reducible refine wpList_alloc_agg rfl TDa _ rfl hzr ?_)
    | (with_reducible refine wpList_build_none rfl TDa rfl _ hnr ?_)
    | (with_reducible refine wpList_store_blk rfl TDa _ _ rfl _ _ rfl rfl infoDa HZ.out.2.1 HZ.out.2.2 (Blk.newAt rfl) HZ.out.2.1 ?_; rw [setRow_top rfl]))
  have s1 : (w.alloc (.cells D TDt)).heap.size = h + 1 := by simp [HH.out]
  have s2 : ((w.alloc (.cells D TDt)).alloc (.cells Z TDa)).heap.size = h + 1 + 1 := by simp [HH.out]
  rw [HW3.out, s2, s1, HH.out]
  have d1 := D3.out.cell 1
  rw [HD.out.1] at d1
  have dl := D3.out.lt
  clear HW3 s1 s2 hzr hnr
  go_wp2_with fail
  clear d1 dl
  go_loopw [6, 12] (fun v6 v12 wr => ∃ i : Nat, v12 = .int .i64 (i : Int) ∧ Aside0 (i ≤ n1) ∧ Aside0 (Blk wr h TDt D) ∧ Aside0 (Blk wr (h + 1) TDa Z) ∧ Aside0 (Blk wr (h + 1 + 1) TDa (numsA .u8 (lastV (kl.take i) (a : Int) zB))) ∧ Aside0 (Below w.heap.size w wr)) (fun _ v12 _ => n1 - (intOf v12).toNat)
  case atStart => exact ⟨0, rfl, ⟨Nat.zero_le _⟩, D3, R3, E3, L3⟩
  case round =>
    obtain ⟨i, rfl, hin, hD, hR, hE, hb⟩ := hrel
    have d1 := hD.out.cell 1
    have d2 := hD.out.cell 2
    rw [HD.out.1] at d1
    rw [HD.out.2] at d2
    have dl := hD.out.lt
    by_cases hi : i < n1
    · have t1 : decide ((i : Int) < (n1 : Int)) = true := decide_eq_true (by omega)
      have t1n : decide (i < n1) = true := decide_eq_true hi
      have hil : i < kl.length := by have := HN.out; omega
      have r0 := eq_true (show (0 : Int) ≤ (i : Int) by omega)
      have r1 := eq_true (show (i : Int) < (n1 : Int) by omega)
      have r2 := eq_true hi
      have hw : IntKind.i64.wrap ((i : Int) + 1) = ((i + 1 : Nat) : Int) := by rw [show ((i : Int) + 1) = ((i + 1 : Nat) : Int) by omega]; exact IntWalk.i64_in _ (by have := HN.out; omega)
      obtain ⟨gc, eA, -, hgc, hrng, hlen, -⟩ := flat_at (Kd.R_below HK.out.1 hb.out) i hil
      cases eA
      have hx2 := HX.out.1 _ (List.getElem_mem hil)
      have hsn : kl.take (i + 1) = kl.take i ++ [kl[i]] := (List.take_append_getElem hil).symm
      have hln : (lastV (kl.take i) (a : Int) zB).length = 128 := last_length (fun x hx => HX.out.1 x (List.mem_of_mem_take hx)) _ _ zB_length
      obtain ⟨x, hx⟩ : ∃ x, kl[i] = x := ⟨_, rfl⟩
      rw [hx] at hrng hlen hx2 hsn
      obtain ⟨x1, cs⟩ := x
      have hfin : lastV (kl.take (i + 1)) (a : Int) zB = if x1 = (a : Int) then cs else lastV (kl.take i) (a : Int) zB := by rw [hsn, last_snoc]
      have hc0 : wr.cell? ⟨gc, i * 129, none⟩ = some (.int .i64 x1) := by have := hrng 0 (.int .i64 x1) rfl; rwa [Nat.add_zero] at this
      have hrg : wr.rangeAt gc (i * 129 + 1) (nums .u8 cs) := fun j v hj => by
        have := hrng (j + 1) v (by simpa [stampC] using hj)
        rw [← this]
        congr 2
        omega
      have hl3 : (nums .u8 cs).length = 128 := by rw [nums_len]; exact hx2
      have hE' := hE.out
      obtain ⟨cur, hcur⟩ : ∃ cur, lastV (kl.take i) (a : Int) zB = cur := ⟨_, rfl⟩
      rw [hcur] at hE' hln hfin
      have HI := Aside0.mk (⟨hi, hw, hfin, hE'⟩ : _ ∧ _ ∧ _ ∧ _)
      have hE9 : (numsA .u8 cur).size = 128 := by rw [numsA_size]; exact hln
      have hC9 : (nums .u8 cs).toArray.size = 128 := by simpa using hl3
      have hO9 := all_oneCell_toArray (nums_one .u8 cs)
      clear hx hsn hrng hlen hi hil hcur
      by_cases hxa : x1 = (a : Int)
      · rw [if_pos hxa] at hfin
        have u1 : decide (x1 = (a : Int)) = true := decide_eq_true hxa
        have u2 : (x1 == (a : Int)) = true := by simp [hxa]
        subst hxa
        go_wp2_with (first
          | (with_reducible refine wpList_load_mid rfl TDa (.tmp 27) rfl gc (i * 129 + 1) ?_ (nums .u8 cs) _ hrg Try.underlying71 rfl ?_ ?_; (focus simp [Act.eval, Act.put]); (focus (rw [infoDa, hl3])))
          | (with_reducible refine wpList_store_blk rfl TDa (.tmp 5) (.tmp 28) rfl (h + 1 + 1) (nums .u8 cs).toArray ?_ ?_ infoDa hC9 hO9 HI.out.2.2.2 hE9 ?_; (focus simp [Act.eval, Act.put]); (focus simp [Act.eval, Act.put])))
        go_roundw
        case rel => exact ⟨i + 1, by first | rfl | (rw [HI.out.2.1]), ⟨HI.out.1⟩, ⟨hD.out.rowFar (by omega) _⟩, ⟨hR.out.rowFar (by omega) _⟩, ⟨by rw [HI.out.2.2.1, if_pos rfl]; exact hE.out.row _⟩, ⟨below_setRow hb.out (by have := HH.out; omega) _⟩⟩
        case measure => have := HI.out; simp [intOf, HI.out.2.1]; omega
      · have u1 : decide (x1 = (a : Int)) = false := decide_eq_false hxa
        have u2 : (x1 == (a : Int)) = false := by simp [hxa]
        rw [if_neg hxa] at hfin
        have HXA := Aside0.mk hxa
        clear hxa
        go_wp2
        go_roundw
        case rel => exact ⟨i + 1, by first | rfl | (rw [HI.out.2.1]), ⟨HI.out.1⟩, hD, hR, ⟨by rw [HI.out.2.2.1, if_neg HXA.out]; exact HI.out.2.2.2⟩, hb⟩
        case measure => have := HI.out; simp [intOf, HI.out.2.1]; omega
    · have t1 : decide ((i : Int) < (n1 : Int)) = false := decide_eq_false (by omega)
      have t1n : decide (i < n1) = false := decide_eq_false hi
      obtain rfl : i = n1 := by have := hin.out; omega
      have hE1 := hE.out
      rw [← HN.out.1, List.take_length] at hE1
      have E9 := Aside0.mk hE1
      have hM : (lastV kl (a : Int) zB).length = 128 := last_length HX.out.1 _ _ zB_length
      have HM := Aside0.mk hM
      clear hi hE hE1 hM t1
      obtain ⟨we, hwe⟩ : ∃ we, we = wr := ⟨_, rfl⟩
      subst hwe
      go_wp2_with fail
      clear d1 d2 dl
      go_loopw [7, 33] (fun v7 v33 wr => ∃ i : Nat, v33 = .int .i64 (i : Int) ∧ Aside0 (i ≤ n2) ∧ Aside0 (Blk wr h TDt D) ∧ Aside0 (Blk wr (h + 1) TDa Z) ∧ Aside0 (Blk wr (h + 1 + 1) TDa (numsA .u8 (lastV (V.cache.take i) (a : Int) (lastV kl (a : Int) zB)))) ∧ Aside0 (Below w.heap.size w wr)) (fun _ v33 _ => n2 - (intOf v33).toNat)
      case atStart => exact ⟨0, rfl, ⟨Nat.zero_le _⟩, hD, hR, E9, hb⟩
      case round =>
        obtain ⟨i, rfl, hin, hD, hR, hE, hb⟩ := hrel
        have d1 := hD.out.cell 1
        have d2 := hD.out.cell 2
        rw [HD.out.1] at d1
        rw [HD.out.2] at d2
        have dl := hD.out.lt
        by_cases hi : i < n2
        · have t1 : decide ((i : Int) < (n2 : Int)) = true := decide_eq_true (by omega)
          have t1n : decide (i < n2) = true := decide_eq_true hi
          have hil : i < V.cache.length := by have := HN.out; omega
          have r0 := eq_true (show (0 : Int) ≤ (i : Int) by omega)
          have r1 := eq_true (show (i : Int) < (n2 : Int) by omega)
          have r2 := eq_true hi
          have hw : IntKind.i64.wrap ((i : Int) + 1) = ((i + 1 : Nat) : Int) := by rw [show ((i : Int) + 1) = ((i + 1 : Nat) : Int) by omega]; exact IntWalk.i64_in _ (by have := HN.out; omega)
          obtain ⟨gc, eA, -, hgc, hrng, hlen, -⟩ := flat_at (Kd.R_below HK.out.2 hb.out) i hil
          cases eA
          have hx2 := HX.out.2 _ (List.getElem_mem hil)
          have hsn : V.cache.take (i + 1) = V.cache.take i ++ [V.cache[i]] := (List.take_append_getElem hil).symm
          have hln : (lastV (V.cache.take i) (a : Int) (lastV kl (a : Int) zB)).length = 128 := last_length (fun x hx => HX.out.2 x (List.mem_of_mem_take hx)) _ _ HM.out
          obtain ⟨x, hx⟩ : ∃ x, V.cache[i] = x := ⟨_, rfl⟩
          rw [hx] at hrng hlen hx2 hsn
          obtain ⟨x1, cs⟩ := x
          have hfin : lastV (V.cache.take (i + 1)) (a : Int) (lastV kl (a : Int) zB) = if x1 = (a : Int) then cs else lastV (V.cache.take i) (a : Int) (lastV kl (a : Int) zB) := by rw [hsn, last_snoc]
          have hc0 : wr.cell? ⟨gc, i * 129, none⟩ = some (.int .i64 x1) := by have := hrng 0 (.int .i64 x1) rfl; rwa [Nat.add_zero] at this
          have hrg : wr.rangeAt gc (i * 129 + 1) (nums .u8 cs) := fun j v hj => by
            have := hrng (j + 1) v (by simpa [stampC] using hj)
            rw [← this]
            congr 2
            omega
          have hl3 : (nums .u8 cs).length = 128 := by rw [nums_len]; exact hx2
          have hE' := hE.out
          obtain ⟨cur, hcur⟩ : ∃ cur, lastV (V.cache.take i) (a : Int) (lastV kl (a : Int) zB) = cur := ⟨_, rfl⟩
          rw [hcur] at hE' hln hfin
          have HI := Aside0.mk (⟨hi, hw, hfin, hE'⟩ : _ ∧ _ ∧ _ ∧ _)
          have hE9 : (numsA .u8 cur).size = 128 := by rw [numsA_size]; exact hln
          have hC9 : (nums .u8 cs).toArray.size = 128 := by simpa using hl3
          have hO9 := all_oneCell_toArray (nums_one .u8 cs)
          clear hx hsn hrng hlen hi hil hcur
          by_cases hxa : x1 = (a : Int)
          · rw [if_pos hxa] at hfin
            have u1 : decide (x1 = (a : Int)) = true := decide_eq_true hxa
            have u2 : (x1 == (a : Int)) = true := by simp [hxa]
            subst hxa
            go_wp2_with (first
              | (with_reducible refine wpList_load_mid rfl TDa (.tmp 48) rfl gc (i * 129 + 1) ?_ (nums .u8 cs) _ hrg Try.underlying71 rfl ?_ ?_; (focus simp [Act.eval, Act.put]); (focus (rw [infoDa, hl3])))
              | (with_reducible refine wpList_store_blk rfl TDa (.tmp 5) (.tmp 49) rfl (h + 1 + 1) (nums .u8 cs).toArray ?_ ?_ infoDa hC9 hO9 HI.out.2.2.2 hE9 ?_; (focus simp [Act.eval, Act.put]); (focus simp [Act.eval, Act.put])))
            go_roundw
            case rel => exact ⟨i + 1, by first | rfl | (rw [HI.out.2.1]), ⟨HI.out.1⟩, ⟨hD.out.rowFar (by omega) _⟩, ⟨hR.out.rowFar (by omega) _⟩, ⟨by rw [HI.out.2.2.1, if_pos rfl]; exact hE.out.row _⟩, ⟨below_setRow hb.out (by have := HH.out; omega) _⟩⟩
            case measure => have := HI.out; simp [intOf, HI.out.2.1]; omega
          · have u1 : decide (x1 = (a : Int)) = false := decide_eq_false hxa
            have u2 : (x1 == (a : Int)) = false := by simp [hxa]
            rw [if_neg hxa] at hfin
            have HXA := Aside0.mk hxa
            clear hxa
            go_wp2
            go_roundw
            case rel => exact ⟨i + 1, by first | rfl | (rw [HI.out.2.1]), ⟨HI.out.1⟩, hD, hR, ⟨by rw [HI.out.2.2.1, if_neg HXA.out]; exact HI.out.2.2.2⟩, hb⟩
            case measure => have := HI.out; simp [intOf, HI.out.2.1]; omega
        · have t1 : decide ((i : Int) < (n2 : Int)) = false := decide_eq_false (by omega)
          have t1n : decide (i < n2) = false := decide_eq_false hi
          obtain rfl : i = n2 := by have := hin.out; omega
          have hE' := hE.out
          rw [← HN.out.2.1, List.take_length] at hE'
          have hln : (lastV V.cache (a : Int) (lastV kl (a : Int) zB)).length = 128 := last_length HX.out.2 _ _ HM.out
          obtain ⟨cur, hcur⟩ : ∃ cur, lastV V.cache (a : Int) (lastV kl (a : Int) zB) = cur := ⟨_, rfl⟩
          rw [hcur] at hE' hln
          have hE9 : (numsA .u8 cur).size = 128 := by rw [numsA_size]; exact hln
          have HE := Aside0.mk (⟨hE', hcur⟩ : _ ∧ _)
          clear hi
          go_wp2_with (first
            | (with_reducible refine wpList_load_blk rfl TDa (.tmp 5) rfl _ _ _ rfl Try.underlying71 rfl infoDa HE.out.1 hE9 ?_)
            | (with_reducible refine wpList_store_blk rfl TDa (.tmp 4) _ rfl _ _ rfl rfl infoDa hE9 (numsA_one _ _) hR.out HZ.out.2.1 ?_))
          refine bodyPost_ret (results_blk rfl _ _ _ _ _ rfl infoDa Try.underlying71 rfl (hR.out.row _) hE9) rfl ⟨by rw [HE.out.2], ?_⟩
          exact below_setRow hb.out (by have := HH.out; omega) _
theorem chosen_snoc : ∀ (l : List (Int × List Int)) (cs : List Bool) (i : Nat) (h : i < l.length), chosen (l.take (i + 1)) cs = if cs.getD i false = true then chosen (l.take i) cs ++ [l[i]] else chosen (l.take i) cs
  | [], _, _, h => absurd h (Nat.not_lt_zero _)
  | x :: l, [], i, h => by
    cases i <;> simp [chosen]
  | x :: l, c :: cs, 0, h => by
    cases c <;> simp [chosen]
  | x :: l, c :: cs, i + 1, h => by
    have ih := chosen_snoc l cs i (by simpa using h)
    simp only [List.take_succ_cons, chosen, List.getD_cons_succ, List.getElem_cons_succ]
    rw [ih]
    by_cases h2 : cs.getD i false = true
    · rw [if_pos h2, if_pos h2]; cases c <;> rfl
    · rw [if_neg h2, if_neg h2]
theorem infoSe3 : (Try.prog.info? TSe).map (fun i => (i.zero, i.size, i.bytes)) = some (some (.agg (nums .u8 zB).toArray), 128, 128) := by kernel_rfl
theorem owns_form {w : World} {base size n : Nat} {e : TypeId} {v : Value} {xs : List Value} (h : w.ownsRow base e size v n xs) (hn : 0 < n) : ∃ g cap, v = .slice (some ⟨g, 0, none⟩) n cap := by
  rcases h.2 with ⟨_, h0⟩ | ⟨g, cap, _, hv, _⟩
  · omega
  · exact ⟨g, cap, hv⟩
theorem stamp_row {w : World} {g : Nat} {x : Int × List Int} (h : Blk w g TCa (stampC x).toArray) (hx : x.2.length = 128) {Q : Nat → Prop} (hQ : Q g) : kCa.R TCa w 0 Q (.slice (some ⟨g, 0, none⟩) 1 1) [x] := by
  have hl : (stampC x).length = 129 := stampC_length hx
  refine ⟨fun k hk => ?_, stampC x, ⟨by simp [hl, kCa, stampK, flat], .inr ⟨g, 1, (stampC x).toArray, rfl, Nat.zero_le _, h.out, Nat.le_refl _, by unfold maxLen; decide, by simpa [kCa, stampK, flat] using hl, ?_⟩⟩, ⟨by simp [hl, kCa, stampK, flat], fun j p hj => ?_⟩⟩
  · have : g = k := by simpa [Value.ownBlock] using hk
    rw [← this]; exact hQ
  · show (stampC x).toArray.toList.take _ = stampC x
    rw [List.take_of_length_le (by show (stampC x).length ≤ 1 * 129; omega)]
  · have hj0 : j = 0 := by
      have := (List.getElem?_eq_some_iff.1 hj).1
      simpa using this
    subst hj0
    obtain rfl : x = p := by simpa using hj
    show _ = _ ∧ _
    have : ((stampC x).drop (0 * 129)).take 129 = stampC x := by
      rw [Nat.zero_mul, List.drop_zero, List.take_of_length_le (by omega)]
    exact ⟨this, (congrArg List.length this).trans hl⟩
set_option maxHeartbeats 16000000 in
set_option maxRecDepth 100000 in
theorem lose_calls (P : Nat → Prop) (t : Nat) (V : TrayV) (choice : List Bool) (A : Option Addr) (n c : Nat) (w : World) (H : TAt P w t V) (hS : Sound V) (hk : 0 < V.kept.length) (hcl : V.cache.length ≤ 1000000000) (hc : Kd.C Kd.bool w A n choice) (hn : n ≤ 1000000000) :
    Calls Try.prog 26 #[ptrT t, .slice A n c] w fun e w' => ∃ t', e = .returned (ptrT t') ∧ w.heap.size ≤ t' ∧ TAt (fun j => w.heap.size ≤ j) w' t' (loseV V choice) ∧ Below w.heap.size w w' := by
  obtain ⟨kv, cv, hT, hK, hC, hP⟩ := H.out
  obtain ⟨Ak, ck, rfl⟩ := Kd.R_slice hK
  obtain ⟨Ac, cc, rfl⟩ := Kd.R_slice hC
  obtain ⟨gk, cur, rfl, -, hnc, -, hPk, hBk, hsz, hreps⟩ := flat_form hK hk
  have hch := Kd.reads_of_C (enc := Value.bool) (d := false) (h1 := fun _ => rfl) hc
  have KCH := Aside0.mk hch
  have KK := Aside0.mk (⟨hT, hK, hC, hBk, hreps⟩ : _ ∧ _ ∧ _ ∧ _ ∧ _)
  have HS := Aside0.mk hS
  obtain ⟨N, hN⟩ : ∃ N, V.kept.length = N := ⟨_, rfl⟩
  obtain ⟨m, hm⟩ : ∃ m, V.cache.length = m := ⟨_, rfl⟩
  have HNM := Aside0.mk (⟨hN, hm⟩ : _ ∧ _)
  have c0 := hT.cell 0
  have c1 := hT.cell 1
  have tl := hT.lt
  rw [hN, hm] at c0 c1
  have hN4 : N ≤ 4096 := by rw [← hN]; exact hS.len
  have hm9 : m ≤ 1000000000 := by omega
  have hN0 : 0 < N := by omega
  obtain ⟨news, hnews⟩ : ∃ news, cur.toList.take (N * 128) = news := ⟨_, rfl⟩
  have hnl : news.length = N * 128 := by
    rw [← hnews, List.length_take, Array.length_toList, hsz, ← hN]
    have := Nat.mul_le_mul_right 128 hnc
    omega
  have hmem : ∀ u, u ∈ news → u.oneCell' = true := fun u hu => by
    rw [← hnews, ← hN] at hu
    exact Kd.reps_one hreps (by decide) (fun p c h u hu => by rw [h.1] at hu; exact nums_one .u8 _ u hu) u hu
  obtain ⟨ie, hie, hi1⟩ := Option.map_eq_some_iff.1 infoSe3
  simp only [Prod.mk.injEq] at hi1
  obtain ⟨hi1, hi2, hi3⟩ := hi1
  have b0 : Below w.heap.size w (w.alloc (.cells #[] TSe)) := (Below.refl _ _).alloc (Nat.le_refl _) _
  have ho0 : (w.alloc (.cells #[] TSe)).ownsRow w.heap.size TSe 128 (.slice (some ⟨w.heap.size, 0, none⟩) 0 0) 0 [] := World.ownsRow_lit (base := w.heap.size) (e := TSe) (size := 128) w #[] 0 (Nat.le_refl _) (Nat.zero_le _) rfl
  have hcells : ∀ (j : Nat) (u : Value), news[j]? = some u → (w.alloc (.cells #[] TSe)).cell? ((⟨gk, 0, none⟩ : Addr).add j) = some u := fun j u hj => by
    rw [add_plain, (hBk.below b0).cell j]
    have hjl : j < N * 128 := by
      have := (List.getElem?_eq_some_iff.1 hj).1
      omega
    rw [← hnews, List.getElem?_take_of_lt hjl] at hj
    simpa using hj
  have h94 := Try.underlying83
  have HNW := Aside0.mk (⟨hnl, hmem, hcells, ho0, hnews⟩ : _ ∧ _ ∧ _ ∧ _ ∧ _)
  have HI := Aside0.mk (⟨hi1, hi2, hi3⟩ : _ ∧ _ ∧ _)
  have HIE := Aside0.mk hie
  have tok1 : True := trivial
  clear hT hK hC hBk hreps hch hc hnl hmem hcells ho0 hi1 hi2 hi3 hie H hS hk hcl hnews hsz hN hm hnc
  go_enter Try.func26, Try.ntmps26
  go_wp2_with (at_builtin; have _t := tok1; go_must (refine wpList_append_own _ rfl _ _ 76 rfl w.heap.size TSe ie (.agg (nums .u8 zB).toArray) 128 128 Try.underlying76 HIE.out HI.out.1 HI.out.2.1 HI.out.2.2 zB_len (by decide) (.slice (some ⟨w.heap.size, 0, none⟩) 0 0) 0 [] rfl HNW.out.2.2.2.1 ⟨gk, 0, none⟩ N ck news rfl HNW.out.1 HNW.out.2.2.1 HNW.out.2.1 (by unfold maxLen; omega) (by omega) (by simp) ?_); intro v1 w1 hv1 hg1 hat1; rw [Nat.zero_add, List.nil_append] at hv1; have hT1 : Blk w1 t TTr (trayC (.slice (some ⟨gk, 0, none⟩) V.kept.length ck) (.slice Ac V.cache.length cc) V) := (KK.out.1.below b0).grown hg1 (fun e => by have := KK.out.1.lt; simp only [Value.ownBlock, Option.some.injEq] at e; omega); obtain ⟨g1, cp1, rfl⟩ := owns_form hv1 hN0; have e1 := hT1.cell 1; have el := hT1.lt; rw [HNM.out.2] at e1; have HT1 := Aside0.mk hT1; have HV1 := Aside0.mk hv1; have HG1 := Aside0.mk hg1; clear _t tok1 hat1 hv1 hT1 hg1)
  obtain ⟨W2, hW2⟩ : ∃ W2, w1.alloc (.cells (trayC (.slice (some ⟨g1, 0, none⟩) N cp1) (.slice none 0 0) ⟨[], [], -1, false⟩) TTr) = W2 := ⟨_, rfl⟩
  have hb1 : Below w.heap.size w w1 := ⟨HG1.out.os, HG1.out.tape, HG1.out.output, Nat.le_trans b0.size HG1.out.size, fun j hj => (HG1.out.block j (Nat.lt_of_lt_of_le hj b0.size) (fun e => by simp only [Value.ownBlock, Option.some.injEq] at e; omega)).trans (b0.block j hj)⟩
  have hb2 : Below w.heap.size w W2 := by rw [← hW2]; exact hb1.alloc hb1.size _
  have hO2 : Blk W2 w1.heap.size TTr (trayC (.slice (some ⟨g1, 0, none⟩) N cp1) (.slice none 0 0) ⟨[], [], -1, false⟩) := by rw [← hW2]; exact Blk.new _ _ _
  have hR2 : kSe.R TSe W2 0 (fun j => w.heap.size ≤ j) (.slice (some ⟨g1, 0, none⟩) N cp1) V.kept := by
    rw [← hW2]
    refine ⟨fun j hj => own_base HV1.out j hj, news, ?_, ?_⟩
    · rw [HNM.out.1]
      exact own_weaken (own_move HV1.out (fun j hj => ((Below.refl w1.heap.size w1).alloc (Nat.le_refl _) _).block j (own_lt HV1.out j hj))) (Nat.zero_le _)
    · have := KK.out.2.2.2.2
      rw [HNM.out.1, HNW.out.2.2.2.2] at this
      exact this
  obtain ⟨t', ht'⟩ : ∃ t', w1.heap.size = t' := ⟨_, rfl⟩
  rw [ht'] at hO2
  have HT' := Aside0.mk (by rw [← ht']; exact hb1.size : w.heap.size ≤ t')
  have O2 := Aside0.mk hO2
  have R2 := Aside0.mk hR2
  have B2 := Aside0.mk hb2
  have HW2 := Aside0.mk hW2
  rw [ht']
  clear hb1 hb2 hO2 hR2 HV1 HG1 HNW HT1 e1 el b0 c0 c1 tl hW2 ht'
  rw [HW2.out]
  go_loopw [21] (fun v21 wr => ∃ i : Nat, v21 = .int .i64 (i : Int) ∧ Aside0 (i ≤ m) ∧ Aside0 (kSe.R TSe wr 0 (fun j => w.heap.size ≤ j) (.slice (some ⟨g1, 0, none⟩) N cp1) (settleV V.kept (chosen (V.cache.take i) choice))) ∧ Aside0 (Blk wr t' TTr (trayC (.slice (some ⟨g1, 0, none⟩) N cp1) (.slice none 0 0) ⟨[], [], -1, false⟩)) ∧ Aside0 (Below w.heap.size w wr)) (fun v21 _ => m - (intOf v21).toNat)
  case atStart => exact ⟨0, rfl, ⟨Nat.zero_le _⟩, R2, O2, B2⟩
  case round =>
    obtain ⟨i, rfl, hin, hR, hO, hb⟩ := hrel
    by_cases hi : i < m
    · have t1 : decide ((i : Int) < (m : Int)) = true := decide_eq_true (by omega)
      have t1n : decide (i < m) = true := decide_eq_true hi
      have hil : i < V.cache.length := by have := HNM.out; omega
      have p0 := eq_true (show (0 : Int) ≤ (i : Int) by omega)
      have p1 := eq_true (show (i : Int) < (m : Int) by omega)
      have p2 := eq_true hi
      have hw : IntKind.i64.wrap ((i : Int) + 1) = ((i + 1 : Nat) : Int) := by rw [show ((i : Int) + 1) = ((i + 1 : Nat) : Int) by omega]; exact IntWalk.i64_in _ (by omega)
      have HCr := Kd.R_below KK.out.2.2.1 hb.out
      rw [HNM.out.2] at HCr
      obtain ⟨gc, eA, -, hgc, hrng, hlen, -⟩ := flat_at HCr i hil
      cases eA
      obtain ⟨hx0, hx1, hx2⟩ := HS.out.cache V.cache[i] (List.getElem_mem hil)
      have hsn := chosen_snoc V.cache choice i hil
      obtain ⟨x, hx⟩ : ∃ x, V.cache[i] = x := ⟨_, rfl⟩
      rw [hx] at hrng hlen hx0 hx1 hx2 hsn
      have hrng2 : wr.rangeAt gc (i * 129) (stampC x) := hrng
      obtain ⟨W8, hW8⟩ : ∃ W8, wr.alloc (.cells (stampC x).toArray TCa) = W8 := ⟨_, rfl⟩
      have b8 : Below wr.heap.size wr W8 := by rw [← hW8]; exact (Below.refl _ _).alloc (Nat.le_refl _) _
      have hE8 : Blk W8 wr.heap.size TCa (stampC x).toArray := by rw [← hW8]; exact Blk.new _ _ _
      have hlen2 : (stampC x).toArray.size = 129 := by simp [stampC, nums, hx2]
      have hone := stamp_one x
      have HX := Aside0.mk (⟨hx0, hx1, hx2, hsn⟩ : _ ∧ _ ∧ _ ∧ _)
      have E8 := Aside0.mk hE8
      have B8 := Aside0.mk b8
      have HI := Aside0.mk hi
      have HWI := Aside0.mk hw
      obtain ⟨S, hS⟩ : ∃ S, stampC x = S := ⟨_, rfl⟩
      rw [hS] at hW8 hlen2 hone hrng2
      have HST := Aside0.mk hS
      have HW8 := Aside0.mk hW8
      clear hW8 hS hx hsn hrng hlen hx0 hx1 hx2 HCr hE8 b8 hi hil
      by_cases hch : i < n ∧ choice.getD i false = true
      · have u1 : decide ((i : Int) < (n : Int)) = true := decide_eq_true (by omega)
        have u1n : decide (i < n) = true := decide_eq_true hch.1
        have q1 := eq_true (show (i : Int) < (n : Int) by omega)
        have q2 := eq_true hch.1
        obtain ⟨ad, eA, hcc⟩ := KCH.out.2.2 (by omega)
        cases eA
        have hcell := (hb.out.cell (World.block_lt_of_cell? w _ (hcc i hch.1))).trans (hcc i hch.1)
        rw [hch.2] at hcell
        have HCH := Aside0.mk hch
        have hcell8 := (B8.out.cell (World.block_lt_of_cell? wr _ hcell)).trans hcell
        clear hch hcc
        go_wp2_with (first
          | (with_reducible refine wpList_load_mid rfl TCa (.tmp 24) rfl gc (i * 129) ?_ S _ hrng2 h94 rfl ?_ ?_; (focus simp [Act.eval, Act.put]); (focus (rw [infoCa]; simpa using hlen2.symm)))
          | (with_reducible refine wpList_alloc_agg rfl TCa _ rfl zeroCa ?_)
          | (with_reducible refine wpList_store_blk rfl TCa (.tmp 7) (.tmp 25) rfl wr.heap.size S.toArray ?_ ?_ infoCa hlen2 hone (Blk.newAt rfl) zCa_len ?_; (focus simp [Act.eval, Act.put]); (focus simp [Act.eval, Act.put]); rw [setRow_top rfl]; rw [HW8.out]))
        have hOd := (hO.out.below B8.out).drew
        have hEd : Blk W8.drew wr.heap.size TCa S.toArray := by rw [← HST.out]; exact E8.out.drew
        have hRd : kSe.R TSe W8.drew 0 (fun j => w.heap.size ≤ j) (.slice (some ⟨g1, 0, none⟩) N cp1) (settleV V.kept (chosen (V.cache.take i) choice)) := Kd.R_below (Kd.R_below hR.out B8.out) (Below.refl _ _).drew
        have hbd : Below w.heap.size w W8.drew := (hb.out.trans (B8.out.mono hb.out.size)).drew
        obtain ⟨W9, hW9⟩ : ∃ W9, W8.drew = W9 := ⟨_, rfl⟩
        have hba : Below W9.heap.size W9 (W9.alloc (.cells S.toArray TCa)) := (Below.refl _ _).alloc (Nat.le_refl _) _
        rw [hW9] at hOd hEd hRd hbd
        have hsl : S.length = 129 := by simpa using hlen2
        have hE0 : (match (0 : Nat) with | 0 => W8.drew = W9 | 1 => W8.drew = W9.alloc (.cells S.toArray TCa) | _ => True) := hW9
        have HALL : Aside0 (∀ (p : Nat) (w' : World), (match p with | 0 => w' = W9 | 1 => w' = W9.alloc (.cells S.toArray TCa) | _ => (kSe.R TSe w' 0 (fun j => w.heap.size ≤ j) (.slice (some ⟨g1, 0, none⟩) N cp1) (settleV V.kept (chosen (V.cache.take (i + 1)) choice)) ∧ Blk w' t' TTr (trayC (.slice (some ⟨g1, 0, none⟩) N cp1) (.slice none 0 0) ⟨[], [], -1, false⟩) ∧ Blk w' wr.heap.size TCa S.toArray ∧ Below w.heap.size w w')) → Blk w' t' TTr (trayC (.slice (some ⟨g1, 0, none⟩) N cp1) (.slice none 0 0) ⟨[], [], -1, false⟩) ∧ Blk w' wr.heap.size TCa S.toArray) := ⟨fun p w' h => by
          match p, h with
          | 0, h => subst h; exact ⟨hOd, hEd⟩
          | 1, h => subst h; exact ⟨hOd.below hba, hEd.below hba⟩
          | p + 2, h => exact ⟨h.2.1, h.2.2.1⟩⟩
        have hRa := Kd.R_below hRd hba
        have hCa : kCa.R TCa (W9.alloc (.cells S.toArray TCa)) 0 (fun j => True) (.slice (some ⟨W9.heap.size, 0, none⟩) 1 1) [x] := stamp_row (by rw [HST.out]; exact Blk.new _ _ _) HX.out.2.2.1 trivial
        have KS := Aside0.mk (settle_calls (fun j => w.heap.size ≤ j) (fun _ => True) _ [x] g1 N cp1 (some ⟨W9.heap.size, 0, none⟩) 1 1 (W9.alloc (.cells S.toArray TCa)) hRa hCa (fun y hy => by
          obtain rfl := List.mem_singleton.1 hy
          rw [settle_length]
          exact ⟨HX.out.1, HX.out.2.1, HX.out.2.2.1⟩) (by rw [settle_length, HNM.out.1]; exact hN0) (by rw [settle_length, HNM.out.1]; exact hN4) (by simp))
        have hnx : settleV (settleV V.kept (chosen (V.cache.take i) choice)) [x] = settleV V.kept (chosen (V.cache.take (i + 1)) choice) := by
          rw [HX.out.2.2.2, if_pos HCH.out.2, settle_snoc]
          rfl
        rw [hnx] at KS
        have hgl : g1 < (W9.alloc (.cells S.toArray TCa)).heap.size ∧ w.heap.size ≤ g1 := flat_lt hRa g1 rfl
        have htg : t' ≠ g1 := fun e => Kd.R_ne hRd hOd.out (by decide) (by rw [e]; rfl)
        have hwg : wr.heap.size ≠ g1 := fun e => Kd.R_ne hRd hEd.out (by decide) (by rw [e]; rfl)
        have HF := Aside0.mk (⟨hOd.below hba, hEd.below hba, hbd.trans (hba.mono hbd.size), hgl.2, htg, hwg⟩ : _ ∧ _ ∧ _ ∧ _ ∧ _ ∧ _)
        clear hOd hEd hRd hbd hRa hCa hgl htg hwg hnx hba hR hO hb
        refine Qy.wp_region_all (fun _ _ => True) (fun _ _ _ _ => True) (fun _ _ u => u = .tuple #[]) (fun p w' => match p with | 0 => w' = W9 | 1 => w' = W9.alloc (.cells S.toArray TCa) | _ => (kSe.R TSe w' 0 (fun j => w.heap.size ≤ j) (.slice (some ⟨g1, 0, none⟩) N cp1) (settleV V.kept (chosen (V.cache.take (i + 1)) choice)) ∧ Blk w' t' TTr (trayC (.slice (some ⟨g1, 0, none⟩) N cp1) (.slice none 0 0) ⟨[], [], -1, false⟩) ∧ Blk w' wr.heap.size TCa S.toArray ∧ Below w.heap.size w w')) [5, 6] (by kernel_rfl) (by kernel_rfl) hE0 ?_
        iterate 3 ((with_reducible refine Qy.y_val ⟨fun _ _ _ hF h w' h1 h2 => h w' h1 fun k => hF k _ (h2 k)⟩ ?_ ?_ ?_ ?_ ?_); (focus (first | exact fun _ => Only.refl _ _ | exact fun _ => Below.refl _ _ | exact fun _ => trivial)); (focus (exact fun _ => trivial)); (focus (first | rfl | decide)); (first | (focus (exact Qy.wanted_none rfl)) | (focus (exact Qg.wanted_on rfl rfl rfl))); apply Exists.intro; refine ⟨?_, ?_⟩; (focus (intro p' w' hw' hp'; skip; go_simp; (first | done | (with_reducible rfl)))); intro K hK; go_simp; (first | (with_reducible refine hK _ ?_) | (refine hK _ ?_)); clear hK K)
        ((with_reducible refine Qy.y_val ⟨fun _ _ _ hF h w' h1 h2 => h w' h1 fun k => hF k _ (h2 k)⟩ ?_ ?_ ?_ ?_ ?_); (focus (first | exact fun _ => Only.refl _ _ | exact fun _ => Below.refl _ _ | exact fun _ => trivial)); (focus (exact fun _ => trivial)); (focus (first | rfl | decide)); (first | (focus (exact Qy.wanted_none rfl)) | (focus (exact Qg.wanted_on rfl rfl rfl))); apply Exists.intro; refine ⟨?_, ?_⟩; (focus (intro p' w' hw' hp'; have hA9 := HALL.out _ _ hw'; have q0 := hA9.1.cell 0; have ql := hA9.1.lt; go_simp; (first | done | (with_reducible rfl)))); intro K hK; go_simp; (first | (with_reducible refine hK _ ?_) | (refine hK _ ?_)); clear hK K)
        ((with_reducible refine Qy.y_val ⟨fun _ _ _ hF h w' h1 h2 => h w' h1 fun k => hF k _ (h2 k)⟩ ?_ ?_ ?_ ?_ ?_); (focus (first | exact fun _ => Only.refl _ _ | exact fun _ => Below.refl _ _ | exact fun _ => trivial)); (focus (exact fun _ => trivial)); (focus (first | rfl | decide)); (first | (focus (exact Qy.wanted_none rfl)) | (focus (exact Qg.wanted_on rfl rfl rfl))); apply Exists.intro; refine ⟨?_, ?_⟩; (focus (intro p' w' hw' hp'; exact exec_load_mid TCa (.tmp 7) rfl wr.heap.size 0 (by rfl) S _ (fun j v hj => by rw [(HALL.out _ _ hw').2.cell, Nat.zero_add]; simpa using hj) h94 rfl (by rw [infoCa, hsl]))); intro K hK; go_simp; (first | (with_reducible refine hK _ ?_) | (refine hK _ ?_)); clear hK K)
        ((with_reducible refine Qy.y_put 0 (.slice (some ⟨W9.heap.size, 0, none⟩) 1 1) ⟨fun _ _ _ hF h w' h1 h2 => h w' h1 fun k => hF k _ (h2 k)⟩ ?_ ?_ ?_ ?_); (focus (exact fun _ => trivial)); (focus (first | rfl | decide)); (first | (focus (exact Qy.wanted_none rfl)) | (focus (exact Qg.wanted_on rfl rfl rfl))); refine ⟨?_, ?_⟩; (focus (intro w' hw' hp'; obtain rfl : w' = W9 := hw'; exact ⟨w'.alloc (.cells S.toArray TCa), exec_slice_one (.tmp 40) rfl S.toArray (by rfl) Try.underlying77 infoCa3 (by decide) (by decide) (by simpa using hsl) _, trivial, rfl⟩)); intro K hK; go_simp; (first | (with_reducible refine hK _ ?_) | (refine hK _ ?_)); clear hK K)
        ((with_reducible refine Qy.y_turn 1 ?_ ?_ ?_); (focus (first | rfl | decide)); (first | (focus (exact Qy.wanted_none rfl)) | (focus (exact Qg.wanted_on rfl rfl rfl))); apply Exists.intro; apply Exists.intro; refine ⟨?_, ?_, ?_, ?_, ?_⟩; (focus (intro w'; go_simp; (first | rfl | exact ⟨rfl, rfl⟩))); (focus (exact ⟨_, rfl⟩)); (focus (exact fun u w1 w2 h hb => trivial)); (focus (intro w' hw' hp'; obtain rfl : w' = W9.alloc (.cells S.toArray TCa) := hw'; refine (KS.out).mono ?_; rintro e w8 ⟨rfl, hR8, hO8⟩; exact ⟨_, rfl, trivial, ⟨hR8, hO8.blk HF.out.1 HF.out.2.2.2.2.1, hO8.blk HF.out.2.1 HF.out.2.2.2.2.2, HF.out.2.2.1.trans (hO8.below (B := w.heap.size) HF.out.2.2.1.size (fun j hj => by subst hj; exact HF.out.2.2.2.1))⟩, rfl, trivial⟩)); rintro u8 hu8; intro K hK; go_simp; (first | (with_reducible refine hK _ ?_) | (refine hK _ ?_)); clear hK K)
        obtain rfl := hu8
        ((with_reducible refine Qy.y_nil ?_); intro w' hw' hf')
        have hFin : kSe.R TSe w' 0 (fun j => w.heap.size ≤ j) (.slice (some ⟨g1, 0, none⟩) N cp1) (settleV V.kept (chosen (V.cache.take (i + 1)) choice)) ∧ Blk w' t' TTr (trayC (.slice (some ⟨g1, 0, none⟩) N cp1) (.slice none 0 0) ⟨[], [], -1, false⟩) ∧ Blk w' wr.heap.size TCa S.toArray ∧ Below w.heap.size w w' := hw'
        have HFIN := Aside0.mk hFin
        have hw := HWI.out
        clear hw' hf' hFin HALL KS HF hE0
        go_wp2
        go_roundw
        case rel => exact ⟨i + 1, by first | rfl | (rw [HWI.out]) | go_num, ⟨HI.out⟩, ⟨HFIN.out.1⟩, ⟨HFIN.out.2.1⟩, ⟨HFIN.out.2.2.2⟩⟩
        case measure => have := HI.out; simp [intOf, HWI.out]; omega
      · have hsame : settleV V.kept (chosen (V.cache.take (i + 1)) choice) = settleV V.kept (chosen (V.cache.take i) choice) := by
          rw [HX.out.2.2.2, if_neg]
          intro h
          refine hch ⟨?_, h⟩
          have := KCH.out.1
          apply Classical.byContradiction
          intro hge
          rw [List.getD, List.getElem?_eq_none (by omega)] at h
          cases h
        have R9 := Aside0.mk (by rw [hsame]; exact Kd.R_below hR.out B8.out : kSe.R TSe W8 0 (fun j => w.heap.size ≤ j) (.slice (some ⟨g1, 0, none⟩) N cp1) (settleV V.kept (chosen (V.cache.take (i + 1)) choice)))
        have O9 := Aside0.mk (hO.out.below B8.out)
        have B9 := Aside0.mk (hb.out.trans (B8.out.mono hb.out.size))
        by_cases hin2 : i < n
        · have u1 : decide ((i : Int) < (n : Int)) = true := decide_eq_true (by omega)
          have u1n : decide (i < n) = true := decide_eq_true hin2
          have q1 := eq_true (show (i : Int) < (n : Int) by omega)
          have q2 := eq_true hin2
          obtain ⟨ad, eA, hcc⟩ := KCH.out.2.2 (by omega)
          cases eA
          have hcell := (hb.out.cell (World.block_lt_of_cell? w _ (hcc i hin2))).trans (hcc i hin2)
          have hf : choice.getD i false = false := by
            cases h : choice.getD i false with
            | false => rfl
            | true => exact absurd ⟨hin2, h⟩ hch
          rw [hf] at hcell
          have hcell8 := (B8.out.cell (World.block_lt_of_cell? wr _ hcell)).trans hcell
          clear hch hcc hf hsame hin2
          go_wp2_with (first
            | (with_reducible refine wpList_load_mid rfl TCa (.tmp 24) rfl gc (i * 129) ?_ S _ hrng2 h94 rfl ?_ ?_; (focus simp [Act.eval, Act.put]); (focus (rw [infoCa]; simpa using hlen2.symm)))
            | (with_reducible refine wpList_alloc_agg rfl TCa _ rfl zeroCa ?_)
            | (with_reducible refine wpList_store_blk rfl TCa (.tmp 7) (.tmp 25) rfl wr.heap.size S.toArray ?_ ?_ infoCa hlen2 hone (Blk.newAt rfl) zCa_len ?_; (focus simp [Act.eval, Act.put]); (focus simp [Act.eval, Act.put]); rw [setRow_top rfl]; rw [HW8.out]))
          go_roundw
          case rel => exact ⟨i + 1, by first | rfl | (rw [HWI.out]) | go_num, ⟨HI.out⟩, R9, O9, B9⟩
          case measure => have := HI.out; simp [intOf, HWI.out]; omega
        · have u1 : decide ((i : Int) < (n : Int)) = false := decide_eq_false (by omega)
          have u1n : decide (i < n) = false := decide_eq_false hin2
          clear hch hsame hin2
          go_wp2_with (first
            | (with_reducible refine wpList_load_mid rfl TCa (.tmp 24) rfl gc (i * 129) ?_ S _ hrng2 h94 rfl ?_ ?_; (focus simp [Act.eval, Act.put]); (focus (rw [infoCa]; simpa using hlen2.symm)))
            | (with_reducible refine wpList_alloc_agg rfl TCa _ rfl zeroCa ?_)
            | (with_reducible refine wpList_store_blk rfl TCa (.tmp 7) (.tmp 25) rfl wr.heap.size S.toArray ?_ ?_ infoCa hlen2 hone (Blk.newAt rfl) zCa_len ?_; (focus simp [Act.eval, Act.put]); (focus simp [Act.eval, Act.put]); rw [setRow_top rfl]; rw [HW8.out]))
          go_roundw
          case rel => exact ⟨i + 1, by first | rfl | (rw [HWI.out]) | go_num, ⟨HI.out⟩, R9, O9, B9⟩
          case measure => have := HI.out; simp [intOf, HWI.out]; omega
    · have t1 : decide ((i : Int) < (m : Int)) = false := decide_eq_false (by omega)
      have t1n : decide (i < m) = false := decide_eq_false hi
      have hfin : V.cache.take i = V.cache := List.take_of_length_le (by have := HNM.out.2; have := hin.out; omega)
      have R9 := Aside0.mk (by have := hR.out; rwa [hfin] at this : kSe.R TSe wr 0 (fun j => w.heap.size ≤ j) (.slice (some ⟨g1, 0, none⟩) N cp1) (settleV V.kept (chosen V.cache choice)))
      have HL := Aside0.mk (show (settleV V.kept (chosen V.cache choice)).length = N by rw [settle_length, HNM.out.1])
      clear hfin hi
      go_wp2
      go_ret
      refine ⟨t', rfl, HT'.out, ⟨.slice (some ⟨g1, 0, none⟩) N cp1, .slice none 0 0, hO.out, R9.out, Kd.R_nil _ _ _ _ _, HT'.out⟩, hb.out⟩
end Go.Proofs.Ytddhngalokmdoaa.Spo
