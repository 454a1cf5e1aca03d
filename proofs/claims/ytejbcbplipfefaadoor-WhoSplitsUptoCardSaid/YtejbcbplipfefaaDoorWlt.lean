/- The law WhoTexts: its walk. -/
import Derived.Test.YtejbcbplipfefaaDoorWlr
import Derived.Test.YtejbcbplipfefaaDoorQg
namespace Go.Proofs.YtejbcbplipfefaaDoor.Who
open Go.RowKit Go.Proofs.YtejbcbplipfefaaDoorW.PrintWords Go.Proofs.YtejbcbplipfefaaDoor.Utf Go.Proofs.YtejbcbplipfefaaDoor.Arr Go.Proofs.YtejbcbplipfefaaDoor.Gly Go.Proofs.YtejbcbplipfefaaDoor.Glr
set_option linter.unusedVariables false
set_option linter.unusedSimpArgs false

theorem kind_id (t i r : ByteArray) (h : kindV t i r ≠ 0) : nameB t = true ∧ (∀ j, j < i.size → gb i j ≠ 35) := by
  unfold kindV at h
  cases hn : nameB t with
  | false => rw [hn] at h; exact absurd rfl h
  | true =>
    refine ⟨rfl, ?_⟩
    rw [hn, if_pos rfl] at h
    cases hs : (i.toList == [42]) with
    | true =>
      have h1 : i.toList = [42] := by simpa using hs
      rw [Lib.toList_data] at h1
      have h3 : i = ⟨#[42]⟩ := by
        cases i with
        | mk d => congr 1; exact Array.ext' h1
      subst h3
      intro j hj
      have : j = 0 := by have : (⟨#[42]⟩ : ByteArray).size = 1 := rfl; omega
      subst this
      decide
    | false =>
      rw [hs, if_neg (by decide)] at h
      cases hd : idB i with
      | false => rw [hd, if_neg (by decide)] at h; exact absurd rfl h
      | true => exact id_ne i hd 35 (by decide) (by decide)
theorem text_parts (t i r : ByteArray) (h : kindV t i r ≠ 0) : cutA (textV t i r) 58 = t ∧ cutA (cutB (textV t i r) 58) 35 = i ∧ cutB (cutB (textV t i r) 58) 35 = r := by
  obtain ⟨h1, h2⟩ := kind_id t i r h
  have e58 : (58 : UInt8).toNat = 58 := rfl
  have e35 : (35 : UInt8).toNat = 35 := rfl
  have n58 : ∀ j, j < t.size → gb t j ≠ (58 : UInt8).toNat := name_ne t h1 58 (by omega)
  unfold textV
  by_cases hr : r.toList = []
  · rw [if_pos hr]
    obtain ⟨a, b, _⟩ := cut_append t i 58 n58
    rw [e58] at a b
    obtain ⟨c, d, _⟩ := cut_absent i 35 h2
    rw [a, b, c, d]
    exact ⟨rfl, rfl, ((empty_iff r).1 (by rw [hr]; rfl)).symm⟩
  · rw [if_neg hr, show ((t ++ one 58) ++ i) ++ (one 35 ++ r) = (t ++ one 58) ++ ((i ++ one 35) ++ r) by simp only [ByteArray.append_assoc]]
    obtain ⟨a, b, _⟩ := cut_append t ((i ++ one 35) ++ r) 58 n58
    rw [e58] at a b
    obtain ⟨c, d, _⟩ := cut_append i r 35 h2
    rw [e35] at c d
    rw [a, b, c, d]
    exact ⟨rfl, rfl, rfl⟩
theorem text_reads (t i r : ByteArray) (h : kindV t i r ≠ 0) : readOk (textV t i r) = true ∧ robjOk (textV t i r) = (kindV t i r == 1) := by
  obtain ⟨a, b, c⟩ := text_parts t i r h
  have h1 : readOk (textV t i r) = true := by
    unfold readOk
    rw [a, b, c, subj_kind]
    simpa using h
  refine ⟨h1, ?_⟩
  unfold robjOk
  rw [h1, a, b, c, one_kind, Bool.true_and]
theorem text_le (t i r : ByteArray) : (textV t i r).size ≤ t.size + i.size + r.size + 2 := by
  unfold textV
  split <;> simp only [ByteArray.size_append, one_size] <;> omega

theorem robj_as (b : Bool) (s t i : ByteArray) (hs : s.size ≤ 1000000000000) (hb : robjOk s = b) (ht : cutA s 58 = t) (hi : cutA (cutB s 58) 35 = i) (w : World) (hT : Tabs w) :
    Calls Tryd.prog 10 #[.string s] w fun e w' => e = .returned (.tuple #[.agg (if b = true then #[.string t, .string i] else noObj), .int .i64 (if b = true then 0 else 2)]) ∧ Below w.heap.size w w' := by
  have := robj_calls s hs w hT
  rwa [hb, ht, hi] at this

set_option maxHeartbeats 4000000 in
set_option maxRecDepth 100000 in
theorem lawTexts_calls (t i r : ByteArray) (hs : t.size + i.size + r.size ≤ 10000000) (w : World) (hT : Tabs w) :
    Calls Tryd.prog 3 #[.agg #[.string t, .string i, .string r]] w fun e w' => e = .returned (.bool true) ∧ Below w.heap.size w w' := by
  have HB := Aside0.mk (box_below w #[.string t, .string i, .string r] 23)
  have B0 := Aside0.mk (Blk.new w 23 #[.string t, .string i, .string r])
  have HT := Aside0.mk (Tabs.below hT HB.out)
  clear hT
  obtain ⟨k, hk⟩ : ∃ k, kindV t i r = k := ⟨_, rfl⟩
  have HK := Aside0.mk hk
  by_cases h0 : k = 0
  · subst h0
    clear hk
    go_enter Tryd.func3, Tryd.ntmps3
    go_wp2_with fail
    refine (awake_calls _ HT.out).mono ?_
    rintro e w1 ⟨rfl, hb1⟩
    have B1 := B0.out.below hb1
    have c0 := B1.cell 0
    have c1 := B1.cell 1
    have c2 := B1.cell 2
    go_wp2_with fail
    refine (kind_as 0 t i r HK.out (by omega) (by omega) (by omega) _).mono ?_
    rintro e w2 ⟨rfl, hb2⟩
    clear B1 c0 c1 c2
    go_wp2_with fail
    refine (awake_calls _ (Tabs.below (Tabs.below HT.out hb1) hb2)).mono ?_
    rintro e w3 ⟨rfl, hb3⟩
    go_wp2
    go_ret
    exact ⟨rfl, HB.out.trans (((hb1.trans (hb2.mono hb1.size)).trans (hb3.mono (Nat.le_trans hb1.size hb2.size))).mono HB.out.size)⟩
  have t0 : ((k : Int) == 0) = false := beq_eq_false_iff_ne.2 (by omega)
  obtain ⟨p1, p2, p3⟩ := text_parts t i r (by rw [hk]; exact h0)
  obtain ⟨p4, p5⟩ := text_reads t i r (by rw [hk]; exact h0)
  rw [hk] at p5
  have p6 := text_le t i r
  have C1 := text_calls t i r (by omega)
  have C2 := ref_text_calls t i r (by omega)
  obtain ⟨b, hb⟩ : ∃ b, (k == 1) = b := ⟨_, rfl⟩
  have t1 : ((k : Int) == 1) = b := by rw [← hb, Bool.eq_iff_iff, beq_iff_eq, beq_iff_eq]; omega
  rw [hb] at p5
  generalize textV t i r = T at *
  have C3 := Aside0.mk (read_yes T t i r (by omega) p4 p1 p2 p3)
  have C4 := Aside0.mk (robj_as b T t i (by omega) p5 p1 p2)
  have C1 := Aside0.mk C1
  have C2 := Aside0.mk C2
  clear hk hb p1 p2 p3 p4 p5
  go_enter Tryd.func3, Tryd.ntmps3
  go_wp2_with fail
  refine (awake_calls _ HT.out).mono ?_
  rintro e w1 ⟨rfl, hb1⟩
  have B1 := Aside0.mk (B0.out.below hb1)
  have HB1 := Aside0.mk (HB.out.trans (hb1.mono HB.out.size))
  have HT1 := Aside0.mk (Tabs.below HT.out hb1)
  clear B0 HB HT hb1
  have c0 := B1.out.cell 0
  have c1 := B1.out.cell 1
  have c2 := B1.out.cell 2
  go_wp2_with fail
  refine (kind_as k t i r HK.out (by omega) (by omega) (by omega) _).mono ?_
  rintro e w2 ⟨rfl, hb2⟩
  have B2 := Aside0.mk (B1.out.below hb2)
  have HB2 := Aside0.mk (HB1.out.trans (hb2.mono HB1.out.size))
  have HT2 := Aside0.mk (Tabs.below HT1.out hb2)
  clear B1 HB1 HT1 hb2 c0 c1 c2
  have c0 := B2.out.cell 0
  have c1 := B2.out.cell 1
  have c2 := B2.out.cell 2
  go_wp2_with fail
  refine (C1.out _).mono ?_
  rintro e w3 ⟨rfl, hb3⟩
  have B3 := Aside0.mk (B2.out.below hb3)
  have HB3 := Aside0.mk (HB2.out.trans (hb3.mono HB2.out.size))
  have HT3 := Aside0.mk (Tabs.below HT2.out hb3)
  clear B2 HB2 HT2 hb3 c0 c1 c2
  go_wp2_with fail
  refine (C3.out _ HT3.out).mono ?_
  rintro e w4 ⟨rfl, hb4⟩
  have B4 := Aside0.mk ((B3.out.below hb4).alloc (.cells #[.string t, .string i, .string r] 23))
  have X4 := Aside0.mk (Blk.new w4 23 #[.string t, .string i, .string r])
  have hh4 := HB3.out.trans (hb4.mono HB3.out.size)
  have HB4 := Aside0.mk (hh4.alloc hh4.size (.cells #[.string t, .string i, .string r] 23))
  have HT4 := Aside0.mk (Tabs.below (Tabs.below HT3.out hb4) (box_below w4 #[.string t, .string i, .string r] 23))
  clear B3 HB3 HT3 hb4 hh4
  go_wp2_with fail
  refine (C4.out _ HT4.out).mono ?_
  cases b with
  | false =>
    simp only [Bool.false_eq_true, if_false]
    rintro e w5 ⟨rfl, hb5⟩
    have B5 := Aside0.mk ((B4.out.below hb5).alloc (.cells noObj 31))
    have X5 := Aside0.mk ((X4.out.below hb5).alloc (.cells noObj 31))
    have Y5 := Aside0.mk (Blk.new w5 31 noObj)
    have hh5 := HB4.out.trans (hb5.mono HB4.out.size)
    have HB5 := Aside0.mk (hh5.alloc hh5.size (.cells noObj 31))
    have B5' := B4.out.below hb5
    have c0 := B5'.cell 0
    have c1 := B5'.cell 1
    have c2 := B5'.cell 2
    have hl := B5'.lt
    clear B4 X4 HB4 HT4 hb5 hh5
    go_wp2_with fail
    refine (kind_as k t i r HK.out (by omega) (by omega) (by omega) _).mono ?_
    rintro e w6 ⟨rfl, hb6⟩
    have B6 := Aside0.mk (B5.out.below hb6)
    have X6 := Aside0.mk (X5.out.below hb6)
    have Y6 := Aside0.mk (Y5.out.below hb6)
    have HB6 := Aside0.mk (HB5.out.trans (hb6.mono HB5.out.size))
    clear B5 X5 Y5 HB5 hb6 B5' c0 c1 c2 hl
    go_wp2_with fail
    refine Qt.wp_region_all (fun w' => Below w6.heap.size w6 w') (by kernel_rfl) (by kernel_rfl) (Below.refl _ _).drew ?_
    repeat (first
      | ((first | ((with_reducible refine Qg.off' ?_); apply Exists.intro; apply Exists.intro; apply Exists.intro; refine ⟨?_, ?_, ?_, ?_⟩; (focus rfl); (focus rfl); (focus rfl)) | ((with_reducible refine Qg.never' ?_); apply Exists.intro; apply Exists.intro; apply Exists.intro; refine ⟨?_, ?_, ?_, ?_⟩; (focus rfl); (focus rfl); (focus rfl))); intro K hK; go_simp; refine hK _ ?_; clear hK K)
        | ((first | (with_reducible refine Qt.q_val' rfl ?_) | ((with_reducible refine Qg.on_val' ?_); apply Exists.intro; apply Exists.intro; apply Exists.intro; refine ⟨?_, ?_, ?_, ?_⟩; (focus rfl); (focus rfl); (focus rfl))); apply Exists.intro; refine ⟨?_, ?_⟩; (focus (intro w' hw'; skip; go_simp; (first | done | (with_reducible rfl)))); intro K hK; go_simp; refine hK _ ?_; clear hK K)
        | ((first | (with_reducible refine Qt.q_val' rfl ?_) | ((with_reducible refine Qg.on_val' ?_); apply Exists.intro; apply Exists.intro; apply Exists.intro; refine ⟨?_, ?_, ?_, ?_⟩; (focus rfl); (focus rfl); (focus rfl))); apply Exists.intro; refine ⟨?_, ?_⟩; (focus (intro w' hw'; have b0 := (B6.out.below hw').cell 0; have b1 := (B6.out.below hw').cell 1; have b2 := (B6.out.below hw').cell 2; have x0 := (X6.out.below hw').cell 0; have x1 := (X6.out.below hw').cell 1; have x2 := (X6.out.below hw').cell 2; have y0 := (Y6.out.below hw').cell 0; have y1 := (Y6.out.below hw').cell 1; go_simp; (first | done | (with_reducible rfl)))); intro K hK; go_simp; refine hK _ ?_; clear hK K)
      | ((first | (with_reducible refine Qt.q_call' rfl ?_) | ((with_reducible refine Qg.on_call' ?_); apply Exists.intro; apply Exists.intro; apply Exists.intro; refine ⟨?_, ?_, ?_, ?_⟩; (focus rfl); (focus rfl); (focus rfl))); apply Exists.intro; apply Exists.intro; refine ⟨?_, ?_⟩; (focus (intro w'; go_simp; (first | rfl | exact ⟨rfl, rfl⟩))); apply Exists.intro; refine ⟨?_, ?_⟩; (focus (intro w' hw'; first | with_reducible exact Qt.under hw' (C2.out _) | with_reducible exact Qt.under hw' (object_calls t i r _))); intro K hK; go_simp; refine hK _ ?_; clear hK K))
    (refine wpQuiet_nil ?_; intro w' hw')
    have HE := HB6.out.trans (hw'.mono HB6.out.size)
    go_wp2
    go_ret
    exact ⟨rfl, HE⟩
  | true =>
    simp only [if_true]
    rintro e w5 ⟨rfl, hb5⟩
    have B5 := Aside0.mk ((B4.out.below hb5).alloc (.cells #[.string t, .string i] 31))
    have X5 := Aside0.mk ((X4.out.below hb5).alloc (.cells #[.string t, .string i] 31))
    have Y5 := Aside0.mk (Blk.new w5 31 #[.string t, .string i])
    have hh5 := HB4.out.trans (hb5.mono HB4.out.size)
    have HB5 := Aside0.mk (hh5.alloc hh5.size (.cells #[.string t, .string i] 31))
    have B5' := B4.out.below hb5
    have c0 := B5'.cell 0
    have c1 := B5'.cell 1
    have c2 := B5'.cell 2
    have hl := B5'.lt
    clear B4 X4 HB4 HT4 hb5 hh5
    go_wp2_with fail
    refine (kind_as k t i r HK.out (by omega) (by omega) (by omega) _).mono ?_
    rintro e w6 ⟨rfl, hb6⟩
    have B6 := Aside0.mk (B5.out.below hb6)
    have X6 := Aside0.mk (X5.out.below hb6)
    have Y6 := Aside0.mk (Y5.out.below hb6)
    have HB6 := Aside0.mk (HB5.out.trans (hb6.mono HB5.out.size))
    clear B5 X5 Y5 HB5 hb6 B5' c0 c1 c2 hl
    go_wp2_with fail
    refine Qt.wp_region_all (fun w' => Below w6.heap.size w6 w') (by kernel_rfl) (by kernel_rfl) (Below.refl _ _).drew ?_
    repeat (first
      | ((first | ((with_reducible refine Qg.off' ?_); apply Exists.intro; apply Exists.intro; apply Exists.intro; refine ⟨?_, ?_, ?_, ?_⟩; (focus rfl); (focus rfl); (focus rfl)) | ((with_reducible refine Qg.never' ?_); apply Exists.intro; apply Exists.intro; apply Exists.intro; refine ⟨?_, ?_, ?_, ?_⟩; (focus rfl); (focus rfl); (focus rfl))); intro K hK; go_simp; refine hK _ ?_; clear hK K)
        | ((first | (with_reducible refine Qt.q_val' rfl ?_) | ((with_reducible refine Qg.on_val' ?_); apply Exists.intro; apply Exists.intro; apply Exists.intro; refine ⟨?_, ?_, ?_, ?_⟩; (focus rfl); (focus rfl); (focus rfl))); apply Exists.intro; refine ⟨?_, ?_⟩; (focus (intro w' hw'; skip; go_simp; (first | done | (with_reducible rfl)))); intro K hK; go_simp; refine hK _ ?_; clear hK K)
        | ((first | (with_reducible refine Qt.q_val' rfl ?_) | ((with_reducible refine Qg.on_val' ?_); apply Exists.intro; apply Exists.intro; apply Exists.intro; refine ⟨?_, ?_, ?_, ?_⟩; (focus rfl); (focus rfl); (focus rfl))); apply Exists.intro; refine ⟨?_, ?_⟩; (focus (intro w' hw'; have b0 := (B6.out.below hw').cell 0; have b1 := (B6.out.below hw').cell 1; have b2 := (B6.out.below hw').cell 2; have x0 := (X6.out.below hw').cell 0; have x1 := (X6.out.below hw').cell 1; have x2 := (X6.out.below hw').cell 2; have y0 := (Y6.out.below hw').cell 0; have y1 := (Y6.out.below hw').cell 1; go_simp; (first | done | (with_reducible rfl)))); intro K hK; go_simp; refine hK _ ?_; clear hK K)
      | ((first | (with_reducible refine Qt.q_call' rfl ?_) | ((with_reducible refine Qg.on_call' ?_); apply Exists.intro; apply Exists.intro; apply Exists.intro; refine ⟨?_, ?_, ?_, ?_⟩; (focus rfl); (focus rfl); (focus rfl))); apply Exists.intro; apply Exists.intro; refine ⟨?_, ?_⟩; (focus (intro w'; go_simp; (first | rfl | exact ⟨rfl, rfl⟩))); apply Exists.intro; refine ⟨?_, ?_⟩; (focus (intro w' hw'; first | with_reducible exact Qt.under hw' (C2.out _) | with_reducible exact Qt.under hw' (object_calls t i r _))); intro K hK; go_simp; refine hK _ ?_; clear hK K))
    (refine wpQuiet_nil ?_; intro w' hw')
    have HE := HB6.out.trans (hw'.mono HB6.out.size)
    go_wp2
    go_ret
    exact ⟨rfl, HE⟩
end Go.Proofs.YtejbcbplipfefaaDoor.Who
