/- The law WhoSplits: its walk. -/
import Derived.Test.YtejbcbplipfefaaDoorWlt
namespace Go.Proofs.YtejbcbplipfefaaDoor.Who
open Go.RowKit Go.Proofs.YtejbcbplipfefaaDoorW.PrintWords Go.Proofs.YtejbcbplipfefaaDoor.Utf Go.Proofs.YtejbcbplipfefaaDoor.Arr Go.Proofs.YtejbcbplipfefaaDoor.Gly Go.Proofs.YtejbcbplipfefaaDoor.Glr
set_option linter.unusedVariables false
set_option linter.unusedSimpArgs false

theorem rgood_as (b : Bool) (t i : ByteArray) (hb : goodB t i = b) (ht : t.size ≤ 9223372036854775807) (hi : i.size ≤ 100000000) (w : World) :
    Calls Tryd.prog 14 #[.agg #[.string t, .string i]] w fun e w' => e = .returned (.bool b) ∧ Below w.heap.size w w' := by
  subst hb
  exact ref_good_calls t i ht hi w
theorem good_kind (t i : ByteArray) (h : goodB t i = true) : kindV t i ⟨#[]⟩ = 1 := by
  unfold goodB at h
  rw [Bool.and_eq_true] at h
  unfold kindV
  rw [h.1, if_pos rfl]
  cases hs : (i.toList == [42]) with
  | true => have := star_no_id i hs; rw [h.2] at this; cases this
  | false => rw [if_neg (by decide), h.2, if_pos rfl, nil_list]; rfl
theorem name_nil : nameB ⟨#[]⟩ = false := by decide +kernel
theorem rel_ne (rel : ByteArray) (h : nameB rel = true) : rel.toList ≠ [] := fun e => by
  have : rel = ⟨#[]⟩ := (empty_iff rel).1 (by rw [e]; rfl)
  rw [this, name_nil] at h
  cases h

set_option maxHeartbeats 8000000 in
set_option maxRecDepth 100000 in
theorem lawSplits_calls (t i r : ByteArray) (hs : t.size + i.size + r.size ≤ 10000000) (w : World) (hT : Tabs w) :
    Calls Tryd.prog 5 #[.agg #[.string t, .string i], .string r] w fun e w' => e = .returned (.bool true) ∧ Below w.heap.size w w' := by
  have HB := Aside0.mk (box_below w #[.string t, .string i] 31)
  have B0 := Aside0.mk (Blk.new w 31 #[.string t, .string i])
  have HT := Aside0.mk (Tabs.below hT HB.out)
  clear hT
  cases hg : goodB t i with
  | false =>
    have HG := Aside0.mk hg
    clear hg
    go_enter Tryd.func5, Tryd.ntmps5
    go_wp2_with fail
    refine (awake_calls _ HT.out).mono ?_
    rintro e w1 ⟨rfl, hb1⟩
    have B1 := B0.out.below hb1
    have c0 := B1.cell 0
    have c1 := B1.cell 1
    go_wp2_with fail
    refine (rgood_as false t i HG.out (by omega) (by omega) _).mono ?_
    rintro e w2 ⟨rfl, hb2⟩
    clear B1 c0 c1
    go_wp2_with fail
    refine (awake_calls _ (Tabs.below (Tabs.below HT.out hb1) hb2)).mono ?_
    rintro e w3 ⟨rfl, hb3⟩
    go_wp2
    go_ret
    exact ⟨rfl, HB.out.trans (((hb1.trans (hb2.mono hb1.size)).trans (hb3.mono (Nat.le_trans hb1.size hb2.size))).mono HB.out.size)⟩
  | true =>
  have HG := Aside0.mk hg
  have hk := good_kind t i hg
  clear hg
  by_cases hbig : 100 < r.size
  · have t1 : decide ((r.size : Int) > 100) = true := decide_eq_true (by omega)
    clear hk
    go_enter Tryd.func5, Tryd.ntmps5
    go_wp2_with fail
    refine (awake_calls _ HT.out).mono ?_
    rintro e w1 ⟨rfl, hb1⟩
    have B1 := B0.out.below hb1
    have c0 := B1.cell 0
    have c1 := B1.cell 1
    go_wp2_with fail
    refine (rgood_as true t i HG.out (by omega) (by omega) _).mono ?_
    rintro e w2 ⟨rfl, hb2⟩
    clear B1 c0 c1
    go_wp2_with fail
    refine (awake_calls _ (Tabs.below (Tabs.below HT.out hb1) hb2)).mono ?_
    rintro e w3 ⟨rfl, hb3⟩
    go_wp2
    go_ret
    exact ⟨rfl, HB.out.trans (((hb1.trans (hb2.mono hb1.size)).trans (hb3.mono (Nat.le_trans hb1.size hb2.size))).mono HB.out.size)⟩
  have t1 : decide ((r.size : Int) > 100) = false := decide_eq_false (by omega)
  obtain ⟨p1, p2, p3⟩ := text_parts t i ⟨#[]⟩ (by rw [hk]; decide)
  obtain ⟨p4, p5⟩ := text_reads t i ⟨#[]⟩ (by rw [hk]; decide)
  rw [hk] at p5
  have p6 := text_le t i ⟨#[]⟩
  have z0 : (⟨#[]⟩ : ByteArray).size = 0 := rfl
  rw [z0] at p6
  have C1 := Aside0.mk (text_calls t i ⟨#[]⟩ (by rw [z0]; omega))
  have C2 := Aside0.mk (text_calls t i r (by omega))
  have hset : setB t i r = nameB r := by unfold setB; rw [HG.out, Bool.true_and]
  have hT1 : nameB r = true → (textV t i r) = (textV t i ⟨#[]⟩ ++ ⟨#[35]⟩) ++ r := fun h => by
    unfold textV
    rw [if_neg (rel_ne r h), if_pos nil_list, ByteArray.append_assoc (b := (⟨#[35]⟩ : ByteArray))]
    rfl
  have HT1 := Aside0.mk hT1
  have HS := Aside0.mk hset
  clear hT1 hset
  generalize textV t i ⟨#[]⟩ = T at *
  generalize textV t i r = T2 at *
  have b1 : ¬ 9223372036854775807 < T.size + 1 := by omega
  have b2 : ¬ 9223372036854775807 < T.size + 1 + r.size := by omega
  have C3 := Aside0.mk (robj_as true T t i (by omega) p5 p1 p2)
  clear hk p1 p2 p3 p4 p5 z0
  go_enter Tryd.func5, Tryd.ntmps5
  go_wp2_with fail
  refine (awake_calls _ HT.out).mono ?_
  rintro e w1 ⟨rfl, hb1⟩
  have B1 := Aside0.mk (B0.out.below hb1)
  have HB1 := Aside0.mk (HB.out.trans (hb1.mono HB.out.size))
  have TT1 := Aside0.mk (Tabs.below HT.out hb1)
  clear B0 HB HT hb1
  have c0 := B1.out.cell 0
  have c1 := B1.out.cell 1
  go_wp2_with fail
  refine (rgood_as true t i HG.out (by omega) (by omega) _).mono ?_
  rintro e w2 ⟨rfl, hb2⟩
  have B2 := Aside0.mk (B1.out.below hb2)
  have HB2 := Aside0.mk (HB1.out.trans (hb2.mono HB1.out.size))
  have TT2 := Aside0.mk (Tabs.below TT1.out hb2)
  clear B1 HB1 TT1 hb2 c0 c1
  have c0 := B2.out.cell 0
  have c1 := B2.out.cell 1
  go_wp2_with fail
  refine (of_calls t i ⟨#[]⟩ _).mono ?_
  rintro e w3 ⟨rfl, hb3⟩
  have B3' := Aside0.mk (B2.out.below hb3)
  have B3 := Aside0.mk ((B2.out.below hb3).alloc (.cells #[.string t, .string i, .string ⟨#[]⟩] 23))
  have X3 := Aside0.mk (Blk.new w3 23 #[.string t, .string i, .string ⟨#[]⟩])
  have hh3 := HB2.out.trans (hb3.mono HB2.out.size)
  have HB3 := Aside0.mk (hh3.alloc hh3.size (.cells #[.string t, .string i, .string ⟨#[]⟩] 23))
  have TT3 := Aside0.mk (Tabs.below (Tabs.below TT2.out hb3) (box_below w3 #[.string t, .string i, .string ⟨#[]⟩] 23))
  clear B2 HB2 TT2 hb3 hh3 c0 c1
  have c0 := B3'.out.cell 0
  have c1 := B3'.out.cell 1
  have hl := B3'.out.lt
  go_wp2_with fail
  refine (of_calls t i r _).mono ?_
  rintro e w4 ⟨rfl, hb4⟩
  have B4 := Aside0.mk ((B3.out.below hb4).alloc (.cells #[.string t, .string i, .string r] 23))
  have X4 := Aside0.mk ((X3.out.below hb4).alloc (.cells #[.string t, .string i, .string r] 23))
  have Y4 := Aside0.mk (Blk.new w4 23 #[.string t, .string i, .string r])
  have X4' := Aside0.mk (X3.out.below hb4)
  have hh4 := HB3.out.trans (hb4.mono HB3.out.size)
  have HB4 := Aside0.mk (hh4.alloc hh4.size (.cells #[.string t, .string i, .string r] 23))
  have TT4 := Aside0.mk (Tabs.below (Tabs.below TT3.out hb4) (box_below w4 #[.string t, .string i, .string r] 23))
  clear B3' B3 X3 HB3 TT3 hb4 hh4 c0 c1 hl
  have c0 := X4'.out.cell 0
  have c1 := X4'.out.cell 1
  have c2 := X4'.out.cell 2
  have hl := X4'.out.lt
  go_wp2_with fail
  refine (C1.out _).mono ?_
  rintro e w5 ⟨rfl, hb5⟩
  have B5 := Aside0.mk (B4.out.below hb5)
  have X5 := Aside0.mk (X4.out.below hb5)
  have Y5 := Aside0.mk (Y4.out.below hb5)
  have HB5 := Aside0.mk (HB4.out.trans (hb5.mono HB4.out.size))
  have TT5 := Aside0.mk (Tabs.below TT4.out hb5)
  clear B4 X4 Y4 X4' HB4 TT4 hb5 c0 c1 c2 hl
  go_wp2_with fail
  refine (C3.out _ TT5.out).mono ?_
  simp only [if_true]
  rintro e w6 ⟨rfl, hb6⟩
  have B6 := Aside0.mk ((B5.out.below hb6).alloc (.cells #[.string t, .string i] 31))
  have X6 := Aside0.mk ((X5.out.below hb6).alloc (.cells #[.string t, .string i] 31))
  have Y6 := Aside0.mk ((Y5.out.below hb6).alloc (.cells #[.string t, .string i] 31))
  have O6 := Aside0.mk (Blk.new w6 31 #[.string t, .string i])
  have hh6 := HB5.out.trans (hb6.mono HB5.out.size)
  have HB6 := Aside0.mk (hh6.alloc hh6.size (.cells #[.string t, .string i] 31))
  have TT6 := Aside0.mk (Tabs.below (Tabs.below TT5.out hb6) (box_below w6 #[.string t, .string i] 31))
  clear B5 X5 Y5 HB5 TT5 hb6 hh6
  go_wp2_with fail
  obtain ⟨wo, hwo⟩ : ∃ wo, wo = w6.alloc (.cells #[.string t, .string i] 31) := ⟨_, rfl⟩
  rw [← hwo] at B6 X6 Y6 O6 HB6 TT6
  rw [← hwo]
  refine Qt.wp_region_all (fun w' => Below wo.heap.size wo w') (by kernel_rfl) (by kernel_rfl) (Below.refl _ _).drew ?_
  iterate 3 ((first | (with_reducible refine Qt.q_val' rfl ?_) | ((with_reducible refine Qg.on_val' ?_); apply Exists.intro; apply Exists.intro; apply Exists.intro; refine ⟨?_, ?_, ?_, ?_⟩; (focus rfl); (focus rfl); (focus rfl))); apply Exists.intro; refine ⟨?_, ?_⟩; (focus (intro w' hw'; skip; go_simp; (first | done | (with_reducible rfl)))); intro K hK; go_simp; refine hK _ ?_; clear hK K)
  iterate 2 ((first | (with_reducible refine Qt.q_val' rfl ?_) | ((with_reducible refine Qg.on_val' ?_); apply Exists.intro; apply Exists.intro; apply Exists.intro; refine ⟨?_, ?_, ?_, ?_⟩; (focus rfl); (focus rfl); (focus rfl))); apply Exists.intro; refine ⟨?_, ?_⟩; (focus (intro w' hw'; have b0 := (B6.out.below hw').cell 0; have b1 := (B6.out.below hw').cell 1; have y0 := (O6.out.below hw').cell 0; have y1 := (O6.out.below hw').cell 1; go_simp; (first | done | (with_reducible rfl)))); intro K hK; go_simp; refine hK _ ?_; clear hK K)
  iterate 3 ((first | (with_reducible refine Qt.q_val' rfl ?_) | ((with_reducible refine Qg.on_val' ?_); apply Exists.intro; apply Exists.intro; apply Exists.intro; refine ⟨?_, ?_, ?_, ?_⟩; (focus rfl); (focus rfl); (focus rfl))); apply Exists.intro; refine ⟨?_, ?_⟩; (focus (intro w' hw'; skip; go_simp; (first | done | (with_reducible rfl)))); intro K hK; go_simp; refine hK _ ?_; clear hK K)
  ((first | (with_reducible refine Qt.q_val' rfl ?_) | ((with_reducible refine Qg.on_val' ?_); apply Exists.intro; apply Exists.intro; apply Exists.intro; refine ⟨?_, ?_, ?_, ?_⟩; (focus rfl); (focus rfl); (focus rfl))); apply Exists.intro; refine ⟨?_, ?_⟩; (focus (intro w' hw'; have b0 := (Y6.out.below hw').cell 0; have b1 := (Y6.out.below hw').cell 1; have b2 := (Y6.out.below hw').cell 2; go_simp; (first | done | (with_reducible rfl)))); intro K hK; go_simp; refine hK _ ?_; clear hK K)
  ((first | (with_reducible refine Qt.q_call' rfl ?_) | ((with_reducible refine Qg.on_call' ?_); apply Exists.intro; apply Exists.intro; apply Exists.intro; refine ⟨?_, ?_, ?_, ?_⟩; (focus rfl); (focus rfl); (focus rfl))); apply Exists.intro; apply Exists.intro; refine ⟨?_, ?_⟩; (focus (intro w'; go_simp; (first | rfl | exact ⟨rfl, rfl⟩))); apply Exists.intro; refine ⟨?_, ?_⟩; (focus (intro w' hw'; first | with_reducible exact Qt.under hw' (object_calls t i r _))); intro K hK; go_simp; refine hK _ ?_; clear hK K)
  ((first | (with_reducible refine Qt.q_val' rfl ?_) | ((with_reducible refine Qg.on_val' ?_); apply Exists.intro; apply Exists.intro; apply Exists.intro; refine ⟨?_, ?_, ?_, ?_⟩; (focus rfl); (focus rfl); (focus rfl))); apply Exists.intro; refine ⟨?_, ?_⟩; (focus (intro w' hw'; have b0 := (B6.out.below hw').cell 0; have b1 := (B6.out.below hw').cell 1; go_simp; (first | done | (with_reducible rfl)))); intro K hK; go_simp; refine hK _ ?_; clear hK K)
  iterate 2 ((first | (with_reducible refine Qt.q_val' rfl ?_) | ((with_reducible refine Qg.on_val' ?_); apply Exists.intro; apply Exists.intro; apply Exists.intro; refine ⟨?_, ?_, ?_, ?_⟩; (focus rfl); (focus rfl); (focus rfl))); apply Exists.intro; refine ⟨?_, ?_⟩; (focus (intro w' hw'; skip; go_simp; (first | done | (with_reducible rfl)))); intro K hK; go_simp; refine hK _ ?_; clear hK K)
  (refine wpQuiet_nil ?_; intro w' hw')
  have X7 := Aside0.mk (X6.out.below hw')
  have Y7 := Aside0.mk (Y6.out.below hw')
  have HB7 := Aside0.mk (HB6.out.trans (hw'.mono HB6.out.size))
  have TT7 := Aside0.mk (Tabs.below TT6.out hw')
  clear B6 X6 Y6 O6 HB6 TT6 hwo hw'
  go_wp2_with fail
  cases hn : nameB r with
  | false =>
    have S1 := Aside0.mk (set_as false t i r (by rw [HS.out, hn]) (by omega) (by omega) (by omega))
    clear hn
    refine Qt.wp_region_all (fun z => Below w'.heap.size w' z) (by kernel_rfl) (by kernel_rfl) (Below.refl _ _).drew ?_
    ((first | (with_reducible refine Qt.q_val' rfl ?_) | ((with_reducible refine Qg.on_val' ?_); apply Exists.intro; apply Exists.intro; apply Exists.intro; refine ⟨?_, ?_, ?_, ?_⟩; (focus rfl); (focus rfl); (focus rfl))); apply Exists.intro; refine ⟨?_, ?_⟩; (focus (intro w' hw'; have b0 := (Y7.out.below hw').cell 0; have b1 := (Y7.out.below hw').cell 1; have b2 := (Y7.out.below hw').cell 2; go_simp; (first | done | (with_reducible rfl)))); intro K hK; go_simp; refine hK _ ?_; clear hK K)
    ((first | (with_reducible refine Qt.q_call' rfl ?_) | ((with_reducible refine Qg.on_call' ?_); apply Exists.intro; apply Exists.intro; apply Exists.intro; refine ⟨?_, ?_, ?_, ?_⟩; (focus rfl); (focus rfl); (focus rfl))); apply Exists.intro; apply Exists.intro; refine ⟨?_, ?_⟩; (focus (intro w'; go_simp; (first | rfl | exact ⟨rfl, rfl⟩))); apply Exists.intro; refine ⟨?_, ?_⟩; (focus (intro w' hw'; first | with_reducible exact Qt.under hw' (S1.out _ (Tabs.below TT7.out hw')))); intro K hK; go_simp; refine hK _ ?_; clear hK K)
    iterate 2 ((first | (with_reducible refine Qt.q_val' rfl ?_) | ((with_reducible refine Qg.on_val' ?_); apply Exists.intro; apply Exists.intro; apply Exists.intro; refine ⟨?_, ?_, ?_, ?_⟩; (focus rfl); (focus rfl); (focus rfl))); apply Exists.intro; refine ⟨?_, ?_⟩; (focus (intro w' hw'; skip; go_simp; (first | done | (with_reducible rfl)))); intro K hK; go_simp; refine hK _ ?_; clear hK K)
    iterate 8 ((first | ((with_reducible refine Qg.off' ?_); apply Exists.intro; apply Exists.intro; apply Exists.intro; refine ⟨?_, ?_, ?_, ?_⟩; (focus rfl); (focus rfl); (focus rfl)) | ((with_reducible refine Qg.never' ?_); apply Exists.intro; apply Exists.intro; apply Exists.intro; refine ⟨?_, ?_, ?_, ?_⟩; (focus rfl); (focus rfl); (focus rfl))); intro K hK; go_simp; refine hK _ ?_; clear hK K)
    iterate 2 ((first | (with_reducible refine Qt.q_val' rfl ?_) | ((with_reducible refine Qg.on_val' ?_); apply Exists.intro; apply Exists.intro; apply Exists.intro; refine ⟨?_, ?_, ?_, ?_⟩; (focus rfl); (focus rfl); (focus rfl))); apply Exists.intro; refine ⟨?_, ?_⟩; (focus (intro w' hw'; skip; go_simp; (first | done | (with_reducible rfl)))); intro K hK; go_simp; refine hK _ ?_; clear hK K)
    refine wpQuiet_nil ?_
    intro z hz
    have HE := HB7.out.trans (hz.mono HB7.out.size)
    go_wp2
    go_ret
    exact ⟨rfl, HE⟩
  | true =>
    have S1 := Aside0.mk (set_as true t i r (by rw [HS.out, hn]) (by omega) (by omega) (by omega))
    have hE := HT1.out hn
    subst hE
    clear hn
    refine Qt.wp_region_all (fun z => Below w'.heap.size w' z) (by kernel_rfl) (by kernel_rfl) (Below.refl _ _).drew ?_
    ((first | (with_reducible refine Qt.q_val' rfl ?_) | ((with_reducible refine Qg.on_val' ?_); apply Exists.intro; apply Exists.intro; apply Exists.intro; refine ⟨?_, ?_, ?_, ?_⟩; (focus rfl); (focus rfl); (focus rfl))); apply Exists.intro; refine ⟨?_, ?_⟩; (focus (intro w' hw'; have b0 := (Y7.out.below hw').cell 0; have b1 := (Y7.out.below hw').cell 1; have b2 := (Y7.out.below hw').cell 2; go_simp; (first | done | (with_reducible rfl)))); intro K hK; go_simp; refine hK _ ?_; clear hK K)
    ((first | (with_reducible refine Qt.q_call' rfl ?_) | ((with_reducible refine Qg.on_call' ?_); apply Exists.intro; apply Exists.intro; apply Exists.intro; refine ⟨?_, ?_, ?_, ?_⟩; (focus rfl); (focus rfl); (focus rfl))); apply Exists.intro; apply Exists.intro; refine ⟨?_, ?_⟩; (focus (intro w'; go_simp; (first | rfl | exact ⟨rfl, rfl⟩))); apply Exists.intro; refine ⟨?_, ?_⟩; (focus (intro w' hw'; first | with_reducible exact Qt.under hw' (S1.out _ (Tabs.below TT7.out hw')))); intro K hK; go_simp; refine hK _ ?_; clear hK K)
    iterate 2 ((first | (with_reducible refine Qt.q_val' rfl ?_) | ((with_reducible refine Qg.on_val' ?_); apply Exists.intro; apply Exists.intro; apply Exists.intro; refine ⟨?_, ?_, ?_, ?_⟩; (focus rfl); (focus rfl); (focus rfl))); apply Exists.intro; refine ⟨?_, ?_⟩; (focus (intro w' hw'; skip; go_simp; (first | done | (with_reducible rfl)))); intro K hK; go_simp; refine hK _ ?_; clear hK K)
    ((first | (with_reducible refine Qt.q_val' rfl ?_) | ((with_reducible refine Qg.on_val' ?_); apply Exists.intro; apply Exists.intro; apply Exists.intro; refine ⟨?_, ?_, ?_, ?_⟩; (focus rfl); (focus rfl); (focus rfl))); apply Exists.intro; refine ⟨?_, ?_⟩; (focus (intro w' hw'; have b0 := (Y7.out.below hw').cell 0; have b1 := (Y7.out.below hw').cell 1; have b2 := (Y7.out.below hw').cell 2; go_simp; (first | done | (with_reducible rfl)))); intro K hK; go_simp; refine hK _ ?_; clear hK K)
    ((first | (with_reducible refine Qt.q_call' rfl ?_) | ((with_reducible refine Qg.on_call' ?_); apply Exists.intro; apply Exists.intro; apply Exists.intro; refine ⟨?_, ?_, ?_, ?_⟩; (focus rfl); (focus rfl); (focus rfl))); apply Exists.intro; apply Exists.intro; refine ⟨?_, ?_⟩; (focus (intro w'; go_simp; (first | rfl | exact ⟨rfl, rfl⟩))); apply Exists.intro; refine ⟨?_, ?_⟩; (focus (intro w' hw'; first | with_reducible exact Qt.under hw' (C2.out _))); intro K hK; go_simp; refine hK _ ?_; clear hK K)
    ((first | (with_reducible refine Qt.q_val' rfl ?_) | ((with_reducible refine Qg.on_val' ?_); apply Exists.intro; apply Exists.intro; apply Exists.intro; refine ⟨?_, ?_, ?_, ?_⟩; (focus rfl); (focus rfl); (focus rfl))); apply Exists.intro; refine ⟨?_, ?_⟩; (focus (intro w' hw'; have b0 := (X7.out.below hw').cell 0; have b1 := (X7.out.below hw').cell 1; have b2 := (X7.out.below hw').cell 2; go_simp; (first | done | (with_reducible rfl)))); intro K hK; go_simp; refine hK _ ?_; clear hK K)
    ((first | (with_reducible refine Qt.q_call' rfl ?_) | ((with_reducible refine Qg.on_call' ?_); apply Exists.intro; apply Exists.intro; apply Exists.intro; refine ⟨?_, ?_, ?_, ?_⟩; (focus rfl); (focus rfl); (focus rfl))); apply Exists.intro; apply Exists.intro; refine ⟨?_, ?_⟩; (focus (intro w'; go_simp; (first | rfl | exact ⟨rfl, rfl⟩))); apply Exists.intro; refine ⟨?_, ?_⟩; (focus (intro w' hw'; first | with_reducible exact Qt.under hw' (C1.out _))); intro K hK; go_simp; refine hK _ ?_; clear hK K)
    iterate 6 ((first | (with_reducible refine Qt.q_val' rfl ?_) | ((with_reducible refine Qg.on_val' ?_); apply Exists.intro; apply Exists.intro; apply Exists.intro; refine ⟨?_, ?_, ?_, ?_⟩; (focus rfl); (focus rfl); (focus rfl))); apply Exists.intro; refine ⟨?_, ?_⟩; (focus (intro w' hw'; skip; go_simp; (first | done | (with_reducible rfl)))); intro K hK; go_simp; refine hK _ ?_; clear hK K)
    refine wpQuiet_nil ?_
    intro z hz
    have HE := HB7.out.trans (hz.mono HB7.out.size)
    go_wp2
    go_ret
    exact ⟨rfl, HE⟩
end Go.Proofs.YtejbcbplipfefaaDoor.Who
