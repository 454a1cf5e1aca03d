/- The law KnotTies: its walk, for numbers that are not good; all of it. -/
import Derived.Test.YtmilpfccgggmkaaDoorKlt
namespace Go.Proofs.YtmilpfccgggmkaaDoor.Knt
open Go.RowKit Go.Proofs.YtmilpfccgggmkaaDoorW.PrintWords Go.Proofs.YtmilpfccgggmkaaDoorW.PrintLast Go.Proofs.YtmilpfccgggmkaaDoorW.PrintMore Go.Proofs.YtmilpfccgggmkaaDoor.Arr Go.Proofs.YtmilpfccgggmkaaDoor.PKnotTies
set_option linter.unusedVariables false
set_option linter.unusedSimpArgs false
set_option maxHeartbeats 16000000 in
set_option maxRecDepth 100000 in
theorem ties_low (n : Int) (hn : n < 0) (s : ByteArray) (hs : s.size ≤ 2000) (A : Option Addr) (c : Nat) (xs : List S42) (hx : xs.length ≤ 60) (hc : xs.length ≤ c) (ht : total xs ≤ 2000000000000) (w : World) (hC : Kd.C k42 w A xs.length xs) (hP : Pow w) :
    Calls Tryd.prog 4 #[.int .i64 n, .string s, .slice A xs.length c] w fun e w' => e = .returned (.bool true) ∧ Below w.heap.size w w' := by
  have hu42 := Tryd.underlying42
  have t1 : decide ((s.size : Int) > 2000) = false := decide_eq_false (by omega)
  have t2 : decide ((xs.length : Int) > 60) = false := decide_eq_false (by omega)
  have t3 : decide (n ≥ 0) = false := decide_eq_false (by omega)
  have PB := Aside0.mk (Lib.tabBelow_of_tabIs hP : PowB w.heap.size w)
  have HC := Aside0.mk hC
  obtain ⟨q, hq⟩ : ∃ q : Bool, (Int.tmod n 2 == 0) = q := ⟨_, rfl⟩
  clear hC hP
  go_enter Tryd.func4, Tryd.ntmps4
  go_wp2_with fail
  refine (awake_calls w PB.out.here).mono ?_
  rintro e w1 ⟨rfl, b1⟩
  have k0 := (kat_new w.heap.size w1 b1.size)
  have hz1 := b1.size
  have B2 := Aside0.mk (b1.alloc b1.size (.cells #[.slice none 0 0] TK))
  have K2 := Aside0.mk k0
  clear b1 k0
  go_wp2_with fail
  refine (new_calls w1).mono ?_
  rintro e w2 ⟨rfl, rfl⟩
  obtain ⟨g, hg⟩ : ∃ g, w1.heap.size = g := ⟨_, rfl⟩
  rw [hg] at K2
  have gz : w.heap.size ≤ g := by rw [← hg]; exact hz1
  go_wp2_with fail
  clear hg
  generalize w1.alloc (.cells #[.slice none 0 0] TK) = W2 at *
  refine (number_bad g n (by omega) W2).mono ?_
  rintro e w3 ⟨rfl, rfl⟩
  go_wp2_with fail
  obtain ⟨p, hp0⟩ : ∃ p, (⟨#[]⟩ : ByteArray) = p := ⟨_, rfl⟩
  rw [hp0]
  obtain ⟨P, hPP⟩ : ∃ P, ([] : List UInt8) = P := ⟨_, rfl⟩
  have hP1 : P.length ≤ 21 := by rw [← hPP]; simp
  have HPP : Aside0 (str P = p) := ⟨by rw [← hPP, ← hp0]; rfl⟩
  have hpz : p.size ≤ 21 := by rw [← HPP.out, str_size]; exact hP1
  rw [hPP] at K2
  clear hp0 hPP t3 hn
  refine (text_calls w.heap.size g P [g] s (by omega) (by omega) w3 K2.out (PB.out.on B2.out)).mono ?_
  rintro e w5 ⟨rfl, hp⟩
  have bb := KPut.belowB K2.out hp
  obtain ⟨S5, k5, -, -⟩ := hp
  have B5 := Aside0.mk (B2.out.trans bb)
  have K5 := Aside0.mk k5
  clear bb k5 B2 K2
  have hts : (textT s).length ≤ 2030 := by have := textT_len s (by omega); omega
  go_wp2_with fail
  refine (mark_calls w.heap.size g (P ++ textT s) S5 q (by rw [List.length_append]; omega) w5 K5.out).mono ?_
  rintro e w6 ⟨rfl, hp⟩
  have bb := KPut.belowB K5.out hp
  obtain ⟨S6, k6, -, -⟩ := hp
  have B6 := Aside0.mk (B5.out.trans bb)
  have K6 := Aside0.mk k6
  clear bb k6 B5 K5
  have hfl := flatS_len xs (by omega)
  have hnl := numT_len xs.length (by omega)
  have hml : (markT q).length = 1 := by cases q <;> rfl
  go_wp2_with fail
  refine (tuples_calls w A c xs HC.out hc g (P ++ textT s ++ markT q) S6 (by omega) (by rw [List.length_append, List.length_append]; omega) w6 B6.out K6.out (PB.out.on B6.out)).mono ?_
  rintro e w7 ⟨rfl, hp⟩
  have bb := KPut.belowB K6.out hp
  obtain ⟨S7, k7, -, -⟩ := hp
  have B7 := Aside0.mk (B6.out.trans bb)
  have K7 := Aside0.mk k7
  clear bb k7 B6 K6
  obtain ⟨u1, hu1⟩ : ∃ u, u = str (textT s) := ⟨_, rfl⟩
  obtain ⟨u2, hu2⟩ : ∃ u, u = str (markT q) := ⟨_, rfl⟩
  obtain ⟨u3, hu3⟩ : ∃ u, u = str (tuplesT xs) := ⟨_, rfl⟩
  have hz1 : u1.size ≤ 2030 := by rw [hu1, str_size]; exact hts
  have hz2 : u2.size = 1 := by rw [hu2, str_size]; exact hml
  have hz3 : u3.size ≤ 3000000000000 := by rw [hu3, str_size]; unfold tuplesT; rw [List.length_append]; omega
  have F1 := Aside0.mk (show stileref04_Text.f 20 s = some u1 by rw [hu1]; exact text_f s (by omega))
  have F2 := Aside0.mk (show stileref04_Mark.f q = some u2 by rw [hu2]; exact mark_f q)
  have F3 := Aside0.mk (show stileref04_Tuples.f (21 + xs.length) xs = some u3 by rw [hu3]; exact tups_f xs (by omega) (by omega))
  obtain ⟨L0, hL0⟩ : ∃ L0, P ++ textT s ++ markT q ++ tuplesT xs = L0 := ⟨_, rfl⟩
  have hLz : L0.length ≤ 3000000003000 := by
    rw [← hL0, List.length_append, List.length_append, List.length_append]
    rw [hu3, str_size] at hz3
    omega
  have hLpos : 1 ≤ L0.length := by
    rw [← hL0, List.length_append, List.length_append, hml]
    omega
  have HW := Aside0.mk (show p ++ ((u1 ++ u2) ++ u3) = str L0 by rw [← HPP.out, hu1, hu2, hu3, str_append, str_append, str_append, ← hL0]; simp only [List.append_assoc])
  have K7' : Aside0 (KAt w.heap.size w7 g L0 S7) := ⟨by rw [← hL0]; exact K7.out⟩
  have j1 : (9223372036854775807 < u1.size + u2.size) = False := eq_false (by omega)
  have j2 : (9223372036854775807 < u1.size + u2.size + u3.size) = False := eq_false (by omega)
  have j3 : (9223372036854775807 < p.size + (u1.size + u2.size + u3.size)) = False := eq_false (by omega)
  clear K7 hu1 hu2 hu3 hL0 HPP hfl hnl hml hts
  go_wp2_with fail
  refine (stileref04_Text.calls 20 s u1 w7 F1.out).mono ?_
  rintro e w8 ⟨rfl, b8⟩
  have B8 := Aside0.mk (B7.out.trans (b8.mono B7.out.size))
  have K8 := Aside0.mk (K7'.out.below b8)
  clear b8 B7 K7' F1
  go_wp2_with fail
  refine (stileref04_Mark.calls q u2 w8 F2.out).mono ?_
  rintro e w9 ⟨rfl, b9⟩
  have b9 : Below w8.heap.size w8 w9 := b9.below
  have B9 := Aside0.mk (B8.out.trans (b9.mono B8.out.size))
  have K9 := Aside0.mk (K8.out.below b9)
  clear b9 B8 K8 F2
  go_wp2_with fail
  refine (stileref04_Tuples.calls (21 + xs.length) A c xs u3 w9 (Kd.C_below HC.out B9.out) hc F3.out).mono ?_
  rintro e w10 ⟨rfl, b10⟩
  have B10 := Aside0.mk (B9.out.trans (b10.mono B9.out.size))
  have K10 := Aside0.mk (K9.out.below b10)
  clear b10 B9 K9 F3
  go_wp2_with fail
  obtain ⟨z0, hz0⟩ : ∃ z0, p ++ ((u1 ++ u2) ++ u3) = z0 := ⟨_, rfl⟩
  rw [hz0]
  have HW0 := HW.out
  rw [hz0] at HW0
  have HZ0 := Aside0.mk HW0
  have hll := loopT_len xs (by omega)
  clear HW HW0 hz0 j1 j2 j3 hz1 hz2 hz3 hpz hP1 hq
  go_loopw [8, 78] (fun v8 v78 wr => ∃ (i : Int) (z : ByteArray), v78 = .int .i64 i ∧ v8 = .string z ∧ 0 ≤ i ∧ i ≤ (xs.length : Int) ∧ Aside0 (z = str (L0 ++ loopT (xs.take i.toNat))) ∧ Aside0 (∃ S1, KAt w.heap.size wr g (L0 ++ loopT (xs.take i.toNat)) S1) ∧ Aside0 (Below w.heap.size w wr)) (fun _ v78 _ => xs.length - (intOf v78).toNat)
  case atStart => exact ⟨0, z0, rfl, rfl, by omega, by omega, ⟨by simpa [loopT] using HZ0.out⟩, ⟨S7, by simpa [loopT] using K10.out⟩, B10⟩
  case round =>
    clear HZ0 K10 B10
    obtain ⟨i, z, rfl, rfl, hi0, hin, hz, hk, hb⟩ := hrel
    have hlt := loopT_take_len xs i.toNat
    by_cases hi : i < (xs.length : Int)
    · have c1 : decide (i < (xs.length : Int)) = true := decide_eq_true hi
      obtain ⟨hit, hrd⟩ := rd_at xs i hi0 hi
      obtain ⟨ad, eA, hx0, hx1, hx2, hx3, hx4, hx5⟩ := at_T42 HC.out i hi0 hi
      cases eA
      obtain ⟨S1, k1⟩ := hk.out
      have hbr := hb.out
      replace hx0 := (hbr.cell (World.block_lt_of_cell? w _ hx0)).trans hx0
      replace hx1 := (hbr.cell (World.block_lt_of_cell? w _ hx1)).trans hx1
      replace hx2 := (hbr.cell (World.block_lt_of_cell? w _ hx2)).trans hx2
      replace hx3 := (hbr.cell (World.block_lt_of_cell? w _ hx3)).trans hx3
      replace hx4 := (hbr.cell (World.block_lt_of_cell? w _ hx4)).trans hx4
      replace hx5 := (hbr.cell (World.block_lt_of_cell? w _ hx5)).trans hx5
      have hsx := size_at xs i.toNat hit
      have hft := loopT_take xs i.toNat hit
      rw [← hrd] at hft hsx
      generalize hxx : rd_T42 xs i = x at *
      have hls := sub3_len x (by omega)
      have hlu := tupS_len x (by omega)
      have hsum := hsx
      unfold sizeS sum6 at hsum
      obtain ⟨W, hW⟩ : ∃ W, wr.alloc (.cells #[.string x.f0, .string x.f1, .string x.f2, .string x.f3.f0, .string x.f3.f1, .string x.f3.f2] 42) = W := ⟨_, rfl⟩
      have b0 : Below wr.heap.size wr W := by rw [← hW]; exact (Below.refl _ _).alloc (Nat.le_refl _) _
      have RW : Blk W wr.heap.size 42 #[.string x.f0, .string x.f1, .string x.f2, .string x.f3.f0, .string x.f3.f1, .string x.f3.f2] := by rw [← hW]; exact Blk.new _ _ _
      have hbs := k1.base
      have T0 : ∀ j, j ∈ [wr.heap.size] → j < W.heap.size ∧ j ∉ S1 := fun j hj => by
        obtain rfl := List.mem_singleton.1 hj
        exact ⟨RW.lt, fun hm => Nat.lt_irrefl _ (hbs _ hm).2⟩
      have HT0 := Aside0.mk T0
      have RW0 := Aside0.mk RW
      have y3 := RW.cell 3
      have y4 := RW.cell 4
      have y5 := RW.cell 5
      have ylt := RW.lt
      have KW := Aside0.mk (k1.below b0)
      have BW := Aside0.mk (hb.out.trans (b0.mono hb.out.size))
      have HF := Aside0.mk hft
      have p0 := eq_true hi0
      have p1 := eq_true hi
      obtain ⟨Li, hLi⟩ : ∃ Li, L0 ++ loopT (xs.take i.toNat) = Li := ⟨_, rfl⟩
      rw [hLi] at KW hz
      have hLiz : Li.length ≤ 7000000100000 := by rw [← hLi, List.length_append]; omega
      have HLi := Aside0.mk hLi
      clear hk k1 hb hbr b0 RW T0 hbs hft hrd hxx hlt hLi
      go_wp2_with fail
      refine (subject_calls w.heap.size g Li S1 x.f3.f0 x.f3.f1 x.f3.f2 (by omega) W KW.out (PB.out.on BW.out)).mono ?_
      rintro e wa ⟨rfl, hp⟩
      have bb := KPut.belowB KW.out hp
      obtain ⟨S2, k2, o2, -, tt⟩ := hp.take [wr.heap.size] HT0.out
      have RA := RW0.out.only o2 (HT0.out _ (by simp)).2
      have RA0 := Aside0.mk RA
      have BA := Aside0.mk (BW.out.trans bb)
      have KA := Aside0.mk k2
      have HTA := Aside0.mk tt
      clear y3 y4 y5 ylt hW hx0 hx1 hx2 hx3 hx4 hx5 k2 o2 tt bb hp KW BW HT0 RW0
      have y0 := RA.cell 0
      have y1 := RA.cell 1
      have y2 := RA.cell 2
      have y3 := RA.cell 3
      have y4 := RA.cell 4
      have y5 := RA.cell 5
      have ylt := RA.lt
      clear RA
      go_wp2_with fail
      refine (tuple_calls w.heap.size g (Li ++ subT x.f3.f0 x.f3.f1 x.f3.f2) S2 x.f0 x.f1 x.f2 x.f3.f0 x.f3.f1 x.f3.f2 (by unfold sum6; rw [List.length_append]; omega) wa KA.out (PB.out.on BA.out)).mono ?_
      rintro e wb ⟨rfl, hp⟩
      have bb := KPut.belowB KA.out hp
      obtain ⟨S3, k3, o3, -, tt⟩ := hp.take [wr.heap.size] HTA.out
      have RB0 := Aside0.mk (RA0.out.only o3 (HTA.out _ (by simp)).2)
      have BB := Aside0.mk (BA.out.trans bb)
      have KB := Aside0.mk k3
      clear y0 y1 y2 y3 y4 y5 ylt k3 o3 tt bb hp KA BA HTA RA0
      go_wp2_with fail
      obtain ⟨v1, hv1⟩ : ∃ v, v = str (subT x.f3.f0 x.f3.f1 x.f3.f2) := ⟨_, rfl⟩
      obtain ⟨v2, hv2⟩ : ∃ v, v = str (tupS x) := ⟨_, rfl⟩
      have F4 := Aside0.mk (show stileref04_Subject.f 20 x.f3.f0 x.f3.f1 x.f3.f2 = some v1 by rw [hv1]; exact sub_f _ _ _ (by omega) (by omega) (by omega))
      have F5 := Aside0.mk (show stileref04_Tuple.f 20 x.f0 x.f1 x.f2 x.f3.f0 x.f3.f1 x.f3.f2 = some v2 by rw [hv2]; exact tup_f x (by omega))
      have z1 : v1.size ≤ 3000000000000 := by rw [hv1, str_size]; omega
      have z2 : v2.size ≤ 3000000000000 := by rw [hv2, str_size]; omega
      have z3 : z.size ≤ 7000000100000 := by rw [hz.out, str_size]; exact hLiz
      have HZZ := Aside0.mk (show z ++ (v1 ++ v2) = str (Li ++ (subT x.f3.f0 x.f3.f1 x.f3.f2 ++ tupS x)) by rw [hz.out, hv1, hv2, str_append, str_append])
      have j4 : (9223372036854775807 < v1.size + v2.size) = False := eq_false (by omega)
      have j5 : (9223372036854775807 < z.size + (v1.size + v2.size)) = False := eq_false (by omega)
      clear hv1 hv2 z1 z2 z3 hz hls hlu hsum hsx
      refine Qt.wp_region_all (fun w' => Below wb.heap.size wb w') (by kernel_rfl) (by kernel_rfl) (Below.refl _ _).drew ?_
      ((first | (with_reducible refine Qt.q_val' rfl ?_) | ((with_reducible refine Qg.on_val' ?_); apply Exists.intro; apply Exists.intro; apply Exists.intro; refine ⟨?_, ?_, ?_, ?_⟩; (focus rfl); (focus rfl); (focus rfl))); apply Exists.intro; refine ⟨?_, ?_⟩; (focus (intro w' hw'; skip; go_simp; (first | done | (with_reducible rfl)))); intro K hK; go_simp; refine hK _ ?_; clear hK K)
      ((first | (with_reducible refine Qt.q_val' rfl ?_) | ((with_reducible refine Qg.on_val' ?_); apply Exists.intro; apply Exists.intro; apply Exists.intro; refine ⟨?_, ?_, ?_, ?_⟩; (focus rfl); (focus rfl); (focus rfl))); apply Exists.intro; refine ⟨?_, ?_⟩; (focus (intro w' hw'; have l0 := (RB0.out.below hw').lt; go_simp; (first | done | (with_reducible rfl)))); intro K hK; go_simp; refine hK _ ?_; clear hK K)
      ((first | (with_reducible refine Qt.q_val' rfl ?_) | ((with_reducible refine Qg.on_val' ?_); apply Exists.intro; apply Exists.intro; apply Exists.intro; refine ⟨?_, ?_, ?_, ?_⟩; (focus rfl); (focus rfl); (focus rfl))); apply Exists.intro; refine ⟨?_, ?_⟩; (focus (intro w' hw'; have y3 := (RB0.out.below hw').cell 3; have y4 := (RB0.out.below hw').cell 4; have y5 := (RB0.out.below hw').cell 5; go_simp; (first | done | (with_reducible rfl)))); intro K hK; go_simp; refine hK _ ?_; clear hK K)
      ((first | (with_reducible refine Qt.q_call' rfl ?_) | ((with_reducible refine Qg.on_call' ?_); apply Exists.intro; apply Exists.intro; apply Exists.intro; refine ⟨?_, ?_, ?_, ?_⟩; (focus rfl); (focus rfl); (focus rfl))); apply Exists.intro; apply Exists.intro; refine ⟨?_, ?_⟩; (focus (intro w'; go_simp; (first | rfl | exact ⟨rfl, rfl⟩))); apply Exists.intro; refine ⟨?_, ?_⟩; (focus (intro w' hw'; first | with_reducible exact Qt.under hw' (stileref04_Subject.calls 20 x.f3.f0 x.f3.f1 x.f3.f2 v1 _ F4.out))); intro K hK; go_simp; refine hK _ ?_; clear hK K)
      ((first | (with_reducible refine Qt.q_val' rfl ?_) | ((with_reducible refine Qg.on_val' ?_); apply Exists.intro; apply Exists.intro; apply Exists.intro; refine ⟨?_, ?_, ?_, ?_⟩; (focus rfl); (focus rfl); (focus rfl))); apply Exists.intro; refine ⟨?_, ?_⟩; (focus (intro w' hw'; have y0 := (RB0.out.below hw').cell 0; have y1 := (RB0.out.below hw').cell 1; have y2 := (RB0.out.below hw').cell 2; have y3 := (RB0.out.below hw').cell 3; have y4 := (RB0.out.below hw').cell 4; have y5 := (RB0.out.below hw').cell 5; go_simp; (first | done | (with_reducible rfl)))); intro K hK; go_simp; refine hK _ ?_; clear hK K)
      ((first | (with_reducible refine Qt.q_call' rfl ?_) | ((with_reducible refine Qg.on_call' ?_); apply Exists.intro; apply Exists.intro; apply Exists.intro; refine ⟨?_, ?_, ?_, ?_⟩; (focus rfl); (focus rfl); (focus rfl))); apply Exists.intro; apply Exists.intro; refine ⟨?_, ?_⟩; (focus (intro w'; go_simp; (first | rfl | exact ⟨rfl, rfl⟩))); apply Exists.intro; refine ⟨?_, ?_⟩; (focus (intro w' hw'; first | with_reducible exact Qt.under hw' (stileref04_Tuple.calls 20 x.f0 x.f1 x.f2 x.f3.f0 x.f3.f1 x.f3.f2 v2 _ F5.out))); intro K hK; go_simp; refine hK _ ?_; clear hK K)
      iterate 3 ((first | (with_reducible refine Qt.q_val' rfl ?_) | ((with_reducible refine Qg.on_val' ?_); apply Exists.intro; apply Exists.intro; apply Exists.intro; refine ⟨?_, ?_, ?_, ?_⟩; (focus rfl); (focus rfl); (focus rfl))); apply Exists.intro; refine ⟨?_, ?_⟩; (focus (intro w' hw'; skip; go_simp; (first | done | (with_reducible rfl)))); intro K hK; go_simp; refine hK _ ?_; clear hK K)
      (refine wpQuiet_nil ?_; intro w' hw')
      have HBE := Aside0.mk (BB.out.trans (hw'.mono BB.out.size))
      have HKE := Aside0.mk (KB.out.below hw')
      have hi1 : (i + 1).toNat = i.toNat + 1 := by omega
      have hw : IntKind.i64.wrap (i + 1) = i + 1 := IntWalk.i64_in _ (by omega)
      have HL2 : Aside0 (L0 ++ loopT (xs.take (i.toNat + 1)) = Li ++ (subT x.f3.f0 x.f3.f1 x.f3.f2 ++ tupS x)) := ⟨by rw [HF.out, ← List.append_assoc, HLi.out]⟩
      have HK2 : Aside0 (KAt w.heap.size w' g (Li ++ (subT x.f3.f0 x.f3.f1 x.f3.f2 ++ tupS x)) S3) := ⟨by rw [← List.append_assoc]; exact HKE.out⟩
      clear hw' BB KB RB0 HF HLi HKE F4 F5
      go_wp2
      go_roundw
      case rel => exact ⟨i + 1, z ++ (v1 ++ v2), by first | rfl | (rw [hw]) | simp [hw], rfl, by omega, by omega, ⟨by rw [hi1, HL2.out]; exact HZZ.out⟩, ⟨S3, by rw [hi1, HL2.out]; exact HK2.out⟩, HBE⟩
      case measure => simp [intOf, hw]; omega
    · have c1 : decide (i < (xs.length : Int)) = false := decide_eq_false hi
      obtain ⟨we, rfl⟩ : ∃ we : World, we = wr := ⟨_, rfl⟩
      have e1 : i.toNat = xs.length := by omega
      rw [e1, List.take_length] at hz hk
      obtain ⟨S1, k1⟩ := hk.out
      obtain ⟨L, hL⟩ : ∃ L, L0 ++ loopT xs = L := ⟨_, rfl⟩
      rw [hL] at hz k1
      have hLn : L.length ≤ 8000000000000 := by rw [← hL, List.length_append]; omega
      have hLp : 1 ≤ L.length := by rw [← hL, List.length_append]; omega
      have KE := Aside0.mk k1
      have BE := Aside0.mk hb.out
      have HKB := Aside0.mk k1.base
      have HZ := Aside0.mk hz.out
      clear hk hz k1 hb hlt hL
      go_wp2_with fail
      refine (bytes_calls w.heap.size g L S1 (by omega) we KE.out).mono ?_
      rintro e wc ⟨vc, rfl, oc, bc⟩
      have hcv := oc.string
      have KC := Aside0.mk (KE.out.below bc)
      have BC := Aside0.mk bc
      have e0 : nums .u8 (L.map fun b => (b.toNat : Int)) = Lib.byteCells L := by simp [nums, Lib.byteCells]
      have eln : (L.map fun b => (b.toNat : Int)).length = L.length := List.length_map ..
      have row : wc.ownsRow we.heap.size TU 1 vc L.length (nums .u8 (L.map fun b => (b.toNat : Int))) := by rw [e0]; exact oc
      obtain ⟨g2, c2, rfl⟩ : ∃ g2 c2, vc = .slice (some ⟨g2, 0, none⟩) L.length c2 := by
        rcases row.2 with ⟨_, h0⟩ | ⟨g2, c2, _, h2, _⟩
        · omega
        · exact ⟨g2, c2, h2⟩
      have hg2 : we.heap.size ≤ g2 := own_base row g2 rfl
      have ROW := Aside0.mk row
      rw [← HZ.out] at hcv
      obtain ⟨N, hN⟩ : ∃ N, L.length = N := ⟨_, rfl⟩
      rw [hN] at hcv ROW eln
      rw [hN]
      have HN := Aside0.mk hN
      have hN1 : N ≤ 8000000000000 := by rw [← hN]; exact hLn
      clear oc bc e0 row KE hN
      go_wp2_with fail
      clear hcv
      go_loopw [106] (fun v106 wr => ∃ (j : Int) (ys : List Int), v106 = .int .i64 j ∧ 0 ≤ j ∧ j ≤ (N : Int) ∧ Aside0 (wr.ownsRow we.heap.size TU 1 (.slice (some ⟨g2, 0, none⟩) N c2) N (nums .u8 ys)) ∧ Aside0 (Below we.heap.size we wr) ∧ Aside0 (KAt w.heap.size wr g L S1)) (fun v106 _ => N - (intOf v106).toNat)
      case atStart => exact ⟨0, _, rfl, by omega, by omega, ROW, BC, KC⟩
      case round =>
        clear ROW BC KC
        obtain ⟨j, ys, rfl, hj0, hjn, hrow, hb2, hk2⟩ := hrel
        by_cases hj : j < (N : Int)
        · have d1 : decide (j < (N : Int)) = true := decide_eq_true hj
          obtain ⟨q1, q2⟩ := own_at hrow.out j hj0 hj
          have hgl : g2 < wr.heap.size := own_lt hrow.out g2 rfl
          have p0 := eq_true hj0
          have p1 := eq_true hj
          have hw : IntKind.i64.wrap (j + 1) = j + 1 := IntWalk.i64_in _ (by omega)
          have hbs := hk2.out.base
          have hg2S : ∀ u, KAt w.heap.size (wr.setCell ⟨g2, j.toNat, none⟩ u) g L S1 := fun u => hk2.out.only (S1 := [g2]) ((Only.refl _ _).setCell (.inl (by simp)) u) (fun k hk hm => by
            have h1 := (HKB.out k hk).2
            rw [List.mem_singleton.1 hm] at h1
            omega)
          have HS := Aside0.mk hg2S
          clear hk2 hbs hg2S
          go_wp2
          go_roundw
          case rel => exact ⟨j + 1, _, by first | rfl | (rw [hw]) | simp [hw], by omega, by omega, ⟨(own_store hrow.out j _).1⟩, ⟨hb2.out.setCell (p := ⟨g2, j.toNat, none⟩) hg2 _⟩, ⟨HS.out _⟩⟩
          case measure => simp [intOf, hw]; omega
        · have d1 : decide (j < (N : Int)) = false := decide_eq_false hj
          clear hrow
          go_wp2_with fail
          refine (bytes_calls w.heap.size g L S1 (by rw [HN.out]; omega) wr hk2.out).mono ?_
          rintro e wd ⟨vd, rfl, od, bd⟩
          have hcv := od.string
          rw [← HZ.out] at hcv
          have HE := Aside0.mk (BE.out.trans ((hb2.out.mono BE.out.size).trans (bd.mono (Nat.le_trans BE.out.size hb2.out.size))))
          obtain ⟨Ad, nd, cd, rfl⟩ := od.some
          clear od bd hk2 hb2
          go_wp2
          go_ret
          exact ⟨rfl, HE.out⟩
set_option maxHeartbeats 16000000 in
set_option maxRecDepth 100000 in
theorem ties_high (n : Int) (hn : 9007199254740992 < n) (s : ByteArray) (hs : s.size ≤ 2000) (A : Option Addr) (c : Nat) (xs : List S42) (hx : xs.length ≤ 60) (hc : xs.length ≤ c) (ht : total xs ≤ 2000000000000) (w : World) (hC : Kd.C k42 w A xs.length xs) (hP : Pow w) :
    Calls Tryd.prog 4 #[.int .i64 n, .string s, .slice A xs.length c] w fun e w' => e = .returned (.bool true) ∧ Below w.heap.size w w' := by
  have hu42 := Tryd.underlying42
  have t1 : decide ((s.size : Int) > 2000) = false := decide_eq_false (by omega)
  have t2 : decide ((xs.length : Int) > 60) = false := decide_eq_false (by omega)
  have t3 : decide (n ≥ 0) = true := decide_eq_true (by omega)
  have t4 : decide (n ≤ 9007199254740992) = false := decide_eq_false (by omega)
  have PB := Aside0.mk (Lib.tabBelow_of_tabIs hP : PowB w.heap.size w)
  have HC := Aside0.mk hC
  obtain ⟨q, hq⟩ : ∃ q : Bool, (Int.tmod n 2 == 0) = q := ⟨_, rfl⟩
  clear hC hP
  go_enter Tryd.func4, Tryd.ntmps4
  go_wp2_with fail
  refine (awake_calls w PB.out.here).mono ?_
  rintro e w1 ⟨rfl, b1⟩
  have k0 := (kat_new w.heap.size w1 b1.size)
  have hz1 := b1.size
  have B2 := Aside0.mk (b1.alloc b1.size (.cells #[.slice none 0 0] TK))
  have K2 := Aside0.mk k0
  clear b1 k0
  go_wp2_with fail
  refine (new_calls w1).mono ?_
  rintro e w2 ⟨rfl, rfl⟩
  obtain ⟨g, hg⟩ : ∃ g, w1.heap.size = g := ⟨_, rfl⟩
  rw [hg] at K2
  have gz : w.heap.size ≤ g := by rw [← hg]; exact hz1
  go_wp2_with fail
  clear hg
  generalize w1.alloc (.cells #[.slice none 0 0] TK) = W2 at *
  refine (number_bad g n (by omega) W2).mono ?_
  rintro e w3 ⟨rfl, rfl⟩
  go_wp2_with fail
  obtain ⟨p, hp0⟩ : ∃ p, (⟨#[]⟩ : ByteArray) = p := ⟨_, rfl⟩
  rw [hp0]
  obtain ⟨P, hPP⟩ : ∃ P, ([] : List UInt8) = P := ⟨_, rfl⟩
  have hP1 : P.length ≤ 21 := by rw [← hPP]; simp
  have HPP : Aside0 (str P = p) := ⟨by rw [← hPP, ← hp0]; rfl⟩
  have hpz : p.size ≤ 21 := by rw [← HPP.out, str_size]; exact hP1
  rw [hPP] at K2
  clear hp0 hPP t3 t4 hn
  refine (text_calls w.heap.size g P [g] s (by omega) (by omega) w3 K2.out (PB.out.on B2.out)).mono ?_
  rintro e w5 ⟨rfl, hp⟩
  have bb := KPut.belowB K2.out hp
  obtain ⟨S5, k5, -, -⟩ := hp
  have B5 := Aside0.mk (B2.out.trans bb)
  have K5 := Aside0.mk k5
  clear bb k5 B2 K2
  have hts : (textT s).length ≤ 2030 := by have := textT_len s (by omega); omega
  go_wp2_with fail
  refine (mark_calls w.heap.size g (P ++ textT s) S5 q (by rw [List.length_append]; omega) w5 K5.out).mono ?_
  rintro e w6 ⟨rfl, hp⟩
  have bb := KPut.belowB K5.out hp
  obtain ⟨S6, k6, -, -⟩ := hp
  have B6 := Aside0.mk (B5.out.trans bb)
  have K6 := Aside0.mk k6
  clear bb k6 B5 K5
  have hfl := flatS_len xs (by omega)
  have hnl := numT_len xs.length (by omega)
  have hml : (markT q).length = 1 := by cases q <;> rfl
  go_wp2_with fail
  refine (tuples_calls w A c xs HC.out hc g (P ++ textT s ++ markT q) S6 (by omega) (by rw [List.length_append, List.length_append]; omega) w6 B6.out K6.out (PB.out.on B6.out)).mono ?_
  rintro e w7 ⟨rfl, hp⟩
  have bb := KPut.belowB K6.out hp
  obtain ⟨S7, k7, -, -⟩ := hp
  have B7 := Aside0.mk (B6.out.trans bb)
  have K7 := Aside0.mk k7
  clear bb k7 B6 K6
  obtain ⟨u1, hu1⟩ : ∃ u, u = str (textT s) := ⟨_, rfl⟩
  obtain ⟨u2, hu2⟩ : ∃ u, u = str (markT q) := ⟨_, rfl⟩
  obtain ⟨u3, hu3⟩ : ∃ u, u = str (tuplesT xs) := ⟨_, rfl⟩
  have hz1 : u1.size ≤ 2030 := by rw [hu1, str_size]; exact hts
  have hz2 : u2.size = 1 := by rw [hu2, str_size]; exact hml
  have hz3 : u3.size ≤ 3000000000000 := by rw [hu3, str_size]; unfold tuplesT; rw [List.length_append]; omega
  have F1 := Aside0.mk (show stileref04_Text.f 20 s = some u1 by rw [hu1]; exact text_f s (by omega))
  have F2 := Aside0.mk (show stileref04_Mark.f q = some u2 by rw [hu2]; exact mark_f q)
  have F3 := Aside0.mk (show stileref04_Tuples.f (21 + xs.length) xs = some u3 by rw [hu3]; exact tups_f xs (by omega) (by omega))
  obtain ⟨L0, hL0⟩ : ∃ L0, P ++ textT s ++ markT q ++ tuplesT xs = L0 := ⟨_, rfl⟩
  have hLz : L0.length ≤ 3000000003000 := by
    rw [← hL0, List.length_append, List.length_append, List.length_append]
    rw [hu3, str_size] at hz3
    omega
  have hLpos : 1 ≤ L0.length := by
    rw [← hL0, List.length_append, List.length_append, hml]
    omega
  have HW := Aside0.mk (show p ++ ((u1 ++ u2) ++ u3) = str L0 by rw [← HPP.out, hu1, hu2, hu3, str_append, str_append, str_append, ← hL0]; simp only [List.append_assoc])
  have K7' : Aside0 (KAt w.heap.size w7 g L0 S7) := ⟨by rw [← hL0]; exact K7.out⟩
  have j1 : (9223372036854775807 < u1.size + u2.size) = False := eq_false (by omega)
  have j2 : (9223372036854775807 < u1.size + u2.size + u3.size) = False := eq_false (by omega)
  have j3 : (9223372036854775807 < p.size + (u1.size + u2.size + u3.size)) = False := eq_false (by omega)
  clear K7 hu1 hu2 hu3 hL0 HPP hfl hnl hml hts
  go_wp2_with fail
  refine (stileref04_Text.calls 20 s u1 w7 F1.out).mono ?_
  rintro e w8 ⟨rfl, b8⟩
  have B8 := Aside0.mk (B7.out.trans (b8.mono B7.out.size))
  have K8 := Aside0.mk (K7'.out.below b8)
  clear b8 B7 K7' F1
  go_wp2_with fail
  refine (stileref04_Mark.calls q u2 w8 F2.out).mono ?_
  rintro e w9 ⟨rfl, b9⟩
  have b9 : Below w8.heap.size w8 w9 := b9.below
  have B9 := Aside0.mk (B8.out.trans (b9.mono B8.out.size))
  have K9 := Aside0.mk (K8.out.below b9)
  clear b9 B8 K8 F2
  go_wp2_with fail
  refine (stileref04_Tuples.calls (21 + xs.length) A c xs u3 w9 (Kd.C_below HC.out B9.out) hc F3.out).mono ?_
  rintro e w10 ⟨rfl, b10⟩
  have B10 := Aside0.mk (B9.out.trans (b10.mono B9.out.size))
  have K10 := Aside0.mk (K9.out.below b10)
  clear b10 B9 K9 F3
  go_wp2_with fail
  obtain ⟨z0, hz0⟩ : ∃ z0, p ++ ((u1 ++ u2) ++ u3) = z0 := ⟨_, rfl⟩
  rw [hz0]
  have HW0 := HW.out
  rw [hz0] at HW0
  have HZ0 := Aside0.mk HW0
  have hll := loopT_len xs (by omega)
  clear HW HW0 hz0 j1 j2 j3 hz1 hz2 hz3 hpz hP1 hq
  go_loopw [8, 78] (fun v8 v78 wr => ∃ (i : Int) (z : ByteArray), v78 = .int .i64 i ∧ v8 = .string z ∧ 0 ≤ i ∧ i ≤ (xs.length : Int) ∧ Aside0 (z = str (L0 ++ loopT (xs.take i.toNat))) ∧ Aside0 (∃ S1, KAt w.heap.size wr g (L0 ++ loopT (xs.take i.toNat)) S1) ∧ Aside0 (Below w.heap.size w wr)) (fun _ v78 _ => xs.length - (intOf v78).toNat)
  case atStart => exact ⟨0, z0, rfl, rfl, by omega, by omega, ⟨by simpa [loopT] using HZ0.out⟩, ⟨S7, by simpa [loopT] using K10.out⟩, B10⟩
  case round =>
    clear HZ0 K10 B10
    obtain ⟨i, z, rfl, rfl, hi0, hin, hz, hk, hb⟩ := hrel
    have hlt := loopT_take_len xs i.toNat
    by_cases hi : i < (xs.length : Int)
    · have c1 : decide (i < (xs.length : Int)) = true := decide_eq_true hi
      obtain ⟨hit, hrd⟩ := rd_at xs i hi0 hi
      obtain ⟨ad, eA, hx0, hx1, hx2, hx3, hx4, hx5⟩ := at_T42 HC.out i hi0 hi
      cases eA
      obtain ⟨S1, k1⟩ := hk.out
      have hbr := hb.out
      replace hx0 := (hbr.cell (World.block_lt_of_cell? w _ hx0)).trans hx0
      replace hx1 := (hbr.cell (World.block_lt_of_cell? w _ hx1)).trans hx1
      replace hx2 := (hbr.cell (World.block_lt_of_cell? w _ hx2)).trans hx2
      replace hx3 := (hbr.cell (World.block_lt_of_cell? w _ hx3)).trans hx3
      replace hx4 := (hbr.cell (World.block_lt_of_cell? w _ hx4)).trans hx4
      replace hx5 := (hbr.cell (World.block_lt_of_cell? w _ hx5)).trans hx5
      have hsx := size_at xs i.toNat hit
      have hft := loopT_take xs i.toNat hit
      rw [← hrd] at hft hsx
      generalize hxx : rd_T42 xs i = x at *
      have hls := sub3_len x (by omega)
      have hlu := tupS_len x (by omega)
      have hsum := hsx
      unfold sizeS sum6 at hsum
      obtain ⟨W, hW⟩ : ∃ W, wr.alloc (.cells #[.string x.f0, .string x.f1, .string x.f2, .string x.f3.f0, .string x.f3.f1, .string x.f3.f2] 42) = W := ⟨_, rfl⟩
      have b0 : Below wr.heap.size wr W := by rw [← hW]; exact (Below.refl _ _).alloc (Nat.le_refl _) _
      have RW : Blk W wr.heap.size 42 #[.string x.f0, .string x.f1, .string x.f2, .string x.f3.f0, .string x.f3.f1, .string x.f3.f2] := by rw [← hW]; exact Blk.new _ _ _
      have hbs := k1.base
      have T0 : ∀ j, j ∈ [wr.heap.size] → j < W.heap.size ∧ j ∉ S1 := fun j hj => by
        obtain rfl := List.mem_singleton.1 hj
        exact ⟨RW.lt, fun hm => Nat.lt_irrefl _ (hbs _ hm).2⟩
      have HT0 := Aside0.mk T0
      have RW0 := Aside0.mk RW
      have y3 := RW.cell 3
      have y4 := RW.cell 4
      have y5 := RW.cell 5
      have ylt := RW.lt
      have KW := Aside0.mk (k1.below b0)
      have BW := Aside0.mk (hb.out.trans (b0.mono hb.out.size))
      have HF := Aside0.mk hft
      have p0 := eq_true hi0
      have p1 := eq_true hi
      obtain ⟨Li, hLi⟩ : ∃ Li, L0 ++ loopT (xs.take i.toNat) = Li := ⟨_, rfl⟩
      rw [hLi] at KW hz
      have hLiz : Li.length ≤ 7000000100000 := by rw [← hLi, List.length_append]; omega
      have HLi := Aside0.mk hLi
      clear hk k1 hb hbr b0 RW T0 hbs hft hrd hxx hlt hLi
      go_wp2_with fail
      refine (subject_calls w.heap.size g Li S1 x.f3.f0 x.f3.f1 x.f3.f2 (by omega) W KW.out (PB.out.on BW.out)).mono ?_
      rintro e wa ⟨rfl, hp⟩
      have bb := KPut.belowB KW.out hp
      obtain ⟨S2, k2, o2, -, tt⟩ := hp.take [wr.heap.size] HT0.out
      have RA := RW0.out.only o2 (HT0.out _ (by simp)).2
      have RA0 := Aside0.mk RA
      have BA := Aside0.mk (BW.out.trans bb)
      have KA := Aside0.mk k2
      have HTA := Aside0.mk tt
      clear y3 y4 y5 ylt hW hx0 hx1 hx2 hx3 hx4 hx5 k2 o2 tt bb hp KW BW HT0 RW0
      have y0 := RA.cell 0
      have y1 := RA.cell 1
      have y2 := RA.cell 2
      have y3 := RA.cell 3
      have y4 := RA.cell 4
      have y5 := RA.cell 5
      have ylt := RA.lt
      clear RA
      go_wp2_with fail
      refine (tuple_calls w.heap.size g (Li ++ subT x.f3.f0 x.f3.f1 x.f3.f2) S2 x.f0 x.f1 x.f2 x.f3.f0 x.f3.f1 x.f3.f2 (by unfold sum6; rw [List.length_append]; omega) wa KA.out (PB.out.on BA.out)).mono ?_
      rintro e wb ⟨rfl, hp⟩
      have bb := KPut.belowB KA.out hp
      obtain ⟨S3, k3, o3, -, tt⟩ := hp.take [wr.heap.size] HTA.out
      have RB0 := Aside0.mk (RA0.out.only o3 (HTA.out _ (by simp)).2)
      have BB := Aside0.mk (BA.out.trans bb)
      have KB := Aside0.mk k3
      clear y0 y1 y2 y3 y4 y5 ylt k3 o3 tt bb hp KA BA HTA RA0
      go_wp2_with fail
      obtain ⟨v1, hv1⟩ : ∃ v, v = str (subT x.f3.f0 x.f3.f1 x.f3.f2) := ⟨_, rfl⟩
      obtain ⟨v2, hv2⟩ : ∃ v, v = str (tupS x) := ⟨_, rfl⟩
      have F4 := Aside0.mk (show stileref04_Subject.f 20 x.f3.f0 x.f3.f1 x.f3.f2 = some v1 by rw [hv1]; exact sub_f _ _ _ (by omega) (by omega) (by omega))
      have F5 := Aside0.mk (show stileref04_Tuple.f 20 x.f0 x.f1 x.f2 x.f3.f0 x.f3.f1 x.f3.f2 = some v2 by rw [hv2]; exact tup_f x (by omega))
      have z1 : v1.size ≤ 3000000000000 := by rw [hv1, str_size]; omega
      have z2 : v2.size ≤ 3000000000000 := by rw [hv2, str_size]; omega
      have z3 : z.size ≤ 7000000100000 := by rw [hz.out, str_size]; exact hLiz
      have HZZ := Aside0.mk (show z ++ (v1 ++ v2) = str (Li ++ (subT x.f3.f0 x.f3.f1 x.f3.f2 ++ tupS x)) by rw [hz.out, hv1, hv2, str_append, str_append])
      have j4 : (9223372036854775807 < v1.size + v2.size) = False := eq_false (by omega)
      have j5 : (9223372036854775807 < z.size + (v1.size + v2.size)) = False := eq_false (by omega)
      clear hv1 hv2 z1 z2 z3 hz hls hlu hsum hsx
      refine Qt.wp_region_all (fun w' => Below wb.heap.size wb w') (by kernel_rfl) (by kernel_rfl) (Below.refl _ _).drew ?_
      ((first | (with_reducible refine Qt.q_val' rfl ?_) | ((with_reducible refine Qg.on_val' ?_); apply Exists.intro; apply Exists.intro; apply Exists.intro; refine ⟨?_, ?_, ?_, ?_⟩; (focus rfl); (focus rfl); (focus rfl))); apply Exists.intro; refine ⟨?_, ?_⟩; (focus (intro w' hw'; skip; go_simp; (first | done | (with_reducible rfl)))); intro K hK; go_simp; refine hK _ ?_; clear hK K)
      ((first | (with_reducible refine Qt.q_val' rfl ?_) | ((with_reducible refine Qg.on_val' ?_); apply Exists.intro; apply Exists.intro; apply Exists.intro; refine ⟨?_, ?_, ?_, ?_⟩; (focus rfl); (focus rfl); (focus rfl))); apply Exists.intro; refine ⟨?_, ?_⟩; (focus (intro w' hw'; have l0 := (RB0.out.below hw').lt; go_simp; (first | done | (with_reducible rfl)))); intro K hK; go_simp; refine hK _ ?_; clear hK K)
      ((first | (with_reducible refine Qt.q_val' rfl ?_) | ((with_reducible refine Qg.on_val' ?_); apply Exists.intro; apply Exists.intro; apply Exists.intro; refine ⟨?_, ?_, ?_, ?_⟩; (focus rfl); (focus rfl); (focus rfl))); apply Exists.intro; refine ⟨?_, ?_⟩; (focus (intro w' hw'; have y3 := (RB0.out.below hw').cell 3; have y4 := (RB0.out.below hw').cell 4; have y5 := (RB0.out.below hw').cell 5; go_simp; (first | done | (with_reducible rfl)))); intro K hK; go_simp; refine hK _ ?_; clear hK K)
      ((first | (with_reducible refine Qt.q_call' rfl ?_) | ((with_reducible refine Qg.on_call' ?_); apply Exists.intro; apply Exists.intro; apply Exists.intro; refine ⟨?_, ?_, ?_, ?_⟩; (focus rfl); (focus rfl); (focus rfl))); apply Exists.intro; apply Exists.intro; refine ⟨?_, ?_⟩; (focus (intro w'; go_simp; (first | rfl | exact ⟨rfl, rfl⟩))); apply Exists.intro; refine ⟨?_, ?_⟩; (focus (intro w' hw'; first | with_reducible exact Qt.under hw' (stileref04_Subject.calls 20 x.f3.f0 x.f3.f1 x.f3.f2 v1 _ F4.out))); intro K hK; go_simp; refine hK _ ?_; clear hK K)
      ((first | (with_reducible refine Qt.q_val' rfl ?_) | ((with_reducible refine Qg.on_val' ?_); apply Exists.intro; apply Exists.intro; apply Exists.intro; refine ⟨?_, ?_, ?_, ?_⟩; (focus rfl); (focus rfl); (focus rfl))); apply Exists.intro; refine ⟨?_, ?_⟩; (focus (intro w' hw'; have y0 := (RB0.out.below hw').cell 0; have y1 := (RB0.out.below hw').cell 1; have y2 := (RB0.out.below hw').cell 2; have y3 := (RB0.out.below hw').cell 3; have y4 := (RB0.out.below hw').cell 4; have y5 := (RB0.out.below hw').cell 5; go_simp; (first | done | (with_reducible rfl)))); intro K hK; go_simp; refine hK _ ?_; clear hK K)
      ((first | (with_reducible refine Qt.q_call' rfl ?_) | ((with_reducible refine Qg.on_call' ?_); apply Exists.intro; apply Exists.intro; apply Exists.intro; refine ⟨?_, ?_, ?_, ?_⟩; (focus rfl); (focus rfl); (focus rfl))); apply Exists.intro; apply Exists.intro; refine ⟨?_, ?_⟩; (focus (intro w'; go_simp; (first | rfl | exact ⟨rfl, rfl⟩))); apply Exists.intro; refine ⟨?_, ?_⟩; (focus (intro w' hw'; first | with_reducible exact Qt.under hw' (stileref04_Tuple.calls 20 x.f0 x.f1 x.f2 x.f3.f0 x.f3.f1 x.f3.f2 v2 _ F5.out))); intro K hK; go_simp; refine hK _ ?_; clear hK K)
      iterate 3 ((first | (with_reducible refine Qt.q_val' rfl ?_) | ((with_reducible refine Qg.on_val' ?_); apply Exists.intro; apply Exists.intro; apply Exists.intro; refine ⟨?_, ?_, ?_, ?_⟩; (focus rfl); (focus rfl); (focus rfl))); apply Exists.intro; refine ⟨?_, ?_⟩; (focus (intro w' hw'; skip; go_simp; (first | done | (with_reducible rfl)))); intro K hK; go_simp; refine hK _ ?_; clear hK K)
      (refine wpQuiet_nil ?_; intro w' hw')
      have HBE := Aside0.mk (BB.out.trans (hw'.mono BB.out.size))
      have HKE := Aside0.mk (KB.out.below hw')
      have hi1 : (i + 1).toNat = i.toNat + 1 := by omega
      have hw : IntKind.i64.wrap (i + 1) = i + 1 := IntWalk.i64_in _ (by omega)
      have HL2 : Aside0 (L0 ++ loopT (xs.take (i.toNat + 1)) = Li ++ (subT x.f3.f0 x.f3.f1 x.f3.f2 ++ tupS x)) := ⟨by rw [HF.out, ← List.append_assoc, HLi.out]⟩
      have HK2 : Aside0 (KAt w.heap.size w' g (Li ++ (subT x.f3.f0 x.f3.f1 x.f3.f2 ++ tupS x)) S3) := ⟨by rw [← List.append_assoc]; exact HKE.out⟩
      clear hw' BB KB RB0 HF HLi HKE F4 F5
      go_wp2
      go_roundw
      case rel => exact ⟨i + 1, z ++ (v1 ++ v2), by first | rfl | (rw [hw]) | simp [hw], rfl, by omega, by omega, ⟨by rw [hi1, HL2.out]; exact HZZ.out⟩, ⟨S3, by rw [hi1, HL2.out]; exact HK2.out⟩, HBE⟩
      case measure => simp [intOf, hw]; omega
    · have c1 : decide (i < (xs.length : Int)) = false := decide_eq_false hi
      obtain ⟨we, rfl⟩ : ∃ we : World, we = wr := ⟨_, rfl⟩
      have e1 : i.toNat = xs.length := by omega
      rw [e1, List.take_length] at hz hk
      obtain ⟨S1, k1⟩ := hk.out
      obtain ⟨L, hL⟩ : ∃ L, L0 ++ loopT xs = L := ⟨_, rfl⟩
      rw [hL] at hz k1
      have hLn : L.length ≤ 8000000000000 := by rw [← hL, List.length_append]; omega
      have hLp : 1 ≤ L.length := by rw [← hL, List.length_append]; omega
      have KE := Aside0.mk k1
      have BE := Aside0.mk hb.out
      have HKB := Aside0.mk k1.base
      have HZ := Aside0.mk hz.out
      clear hk hz k1 hb hlt hL
      go_wp2_with fail
      refine (bytes_calls w.heap.size g L S1 (by omega) we KE.out).mono ?_
      rintro e wc ⟨vc, rfl, oc, bc⟩
      have hcv := oc.string
      have KC := Aside0.mk (KE.out.below bc)
      have BC := Aside0.mk bc
      have e0 : nums .u8 (L.map fun b => (b.toNat : Int)) = Lib.byteCells L := by simp [nums, Lib.byteCells]
      have eln : (L.map fun b => (b.toNat : Int)).length = L.length := List.length_map ..
      have row : wc.ownsRow we.heap.size TU 1 vc L.length (nums .u8 (L.map fun b => (b.toNat : Int))) := by rw [e0]; exact oc
      obtain ⟨g2, c2, rfl⟩ : ∃ g2 c2, vc = .slice (some ⟨g2, 0, none⟩) L.length c2 := by
        rcases row.2 with ⟨_, h0⟩ | ⟨g2, c2, _, h2, _⟩
        · omega
        · exact ⟨g2, c2, h2⟩
      have hg2 : we.heap.size ≤ g2 := own_base row g2 rfl
      have ROW := Aside0.mk row
      rw [← HZ.out] at hcv
      obtain ⟨N, hN⟩ : ∃ N, L.length = N := ⟨_, rfl⟩
      rw [hN] at hcv ROW eln
      rw [hN]
      have HN := Aside0.mk hN
      have hN1 : N ≤ 8000000000000 := by rw [← hN]; exact hLn
      clear oc bc e0 row KE hN
      go_wp2_with fail
      clear hcv
      go_loopw [106] (fun v106 wr => ∃ (j : Int) (ys : List Int), v106 = .int .i64 j ∧ 0 ≤ j ∧ j ≤ (N : Int) ∧ Aside0 (wr.ownsRow we.heap.size TU 1 (.slice (some ⟨g2, 0, none⟩) N c2) N (nums .u8 ys)) ∧ Aside0 (Below we.heap.size we wr) ∧ Aside0 (KAt w.heap.size wr g L S1)) (fun v106 _ => N - (intOf v106).toNat)
      case atStart => exact ⟨0, _, rfl, by omega, by omega, ROW, BC, KC⟩
      case round =>
        clear ROW BC KC
        obtain ⟨j, ys, rfl, hj0, hjn, hrow, hb2, hk2⟩ := hrel
        by_cases hj : j < (N : Int)
        · have d1 : decide (j < (N : Int)) = true := decide_eq_true hj
          obtain ⟨q1, q2⟩ := own_at hrow.out j hj0 hj
          have hgl : g2 < wr.heap.size := own_lt hrow.out g2 rfl
          have p0 := eq_true hj0
          have p1 := eq_true hj
          have hw : IntKind.i64.wrap (j + 1) = j + 1 := IntWalk.i64_in _ (by omega)
          have hbs := hk2.out.base
          have hg2S : ∀ u, KAt w.heap.size (wr.setCell ⟨g2, j.toNat, none⟩ u) g L S1 := fun u => hk2.out.only (S1 := [g2]) ((Only.refl _ _).setCell (.inl (by simp)) u) (fun k hk hm => by
            have h1 := (HKB.out k hk).2
            rw [List.mem_singleton.1 hm] at h1
            omega)
          have HS := Aside0.mk hg2S
          clear hk2 hbs hg2S
          go_wp2
          go_roundw
          case rel => exact ⟨j + 1, _, by first | rfl | (rw [hw]) | simp [hw], by omega, by omega, ⟨(own_store hrow.out j _).1⟩, ⟨hb2.out.setCell (p := ⟨g2, j.toNat, none⟩) hg2 _⟩, ⟨HS.out _⟩⟩
          case measure => simp [intOf, hw]; omega
        · have d1 : decide (j < (N : Int)) = false := decide_eq_false hj
          clear hrow
          go_wp2_with fail
          refine (bytes_calls w.heap.size g L S1 (by rw [HN.out]; omega) wr hk2.out).mono ?_
          rintro e wd ⟨vd, rfl, od, bd⟩
          have hcv := od.string
          rw [← HZ.out] at hcv
          have HE := Aside0.mk (BE.out.trans ((hb2.out.mono BE.out.size).trans (bd.mono (Nat.le_trans BE.out.size hb2.out.size))))
          obtain ⟨Ad, nd, cd, rfl⟩ := od.some
          clear od bd hk2 hb2
          go_wp2
          go_ret
          exact ⟨rfl, HE.out⟩
set_option maxHeartbeats 4000000 in
theorem lawTies_calls (n : Int) (s : ByteArray) (A : Option Addr) (c : Nat) (xs : List S42) (hc : xs.length ≤ c) (ht : total xs ≤ 2000000000000) (w : World) (hC : Kd.C k42 w A xs.length xs) (hP : Pow w) :
    Calls Tryd.prog 4 #[.int .i64 n, .string s, .slice A xs.length c] w fun e w' => e = .returned (.bool true) ∧ Below w.heap.size w w' := by
  by_cases hsm : s.size ≤ 2000 ∧ xs.length ≤ 60
  · by_cases h0 : n < 0
    · exact ties_low n h0 s hsm.1 A c xs hsm.2 hc ht w hC hP
    · by_cases h1 : 9007199254740992 < n
      · exact ties_high n h1 s hsm.1 A c xs hsm.2 hc ht w hC hP
      · obtain ⟨m, rfl⟩ : ∃ m : Nat, n = (m : Int) := ⟨n.toNat, by omega⟩
        exact ties_good m (by omega) s hsm.1 A c xs hsm.2 hc ht w hC hP
  have big : decide ((s.size : Int) > 2000) = true ∨ (decide ((s.size : Int) > 2000) = false ∧ decide ((xs.length : Int) > 60) = true) := by
    simp only [decide_eq_true_eq, decide_eq_false_iff_not]
    omega
  have PB := Aside0.mk (Lib.tabBelow_of_tabIs hP : PowB w.heap.size w)
  clear hP hC hsm
  have HB0 := Aside0.mk (Below.refl w.heap.size w)
  rcases big with t1 | ⟨t1, t2⟩
  all_goals
    go_enter Tryd.func4, Tryd.ntmps4
    (go_wp2_with fail; refine (awake_calls w PB.out.here).mono ?_; rintro e w1 ⟨rfl, hb1⟩; have HB1 := Aside0.mk (HB0.out.trans (hb1.mono HB0.out.size)); clear hb1)
    (go_wp2_with fail; refine (awake_calls w1 (PB.out.on HB1.out).here).mono ?_; rintro e w2 ⟨rfl, hb2⟩; have HB2 := Aside0.mk (HB1.out.trans (hb2.mono HB1.out.size)); clear hb2)
    go_wp2
    go_ret
    exact ⟨rfl, HB2.out⟩
end Go.Proofs.YtmilpfccgggmkaaDoor.Knt
