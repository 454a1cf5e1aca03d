/- The program's layer bond: object, Good, Text; the reference's Good, Text. -/
import Derived.Test.YtogafnocejpmdaaDoorBnp
import Derived.Test.YtogafnocejpmdaaDoorQg
namespace Go.Proofs.YtogafnocejpmdaaDoor.Bnd
open Go.RowKit Go.Proofs.YtogafnocejpmdaaDoorW.PrintWords Go.Proofs.YtogafnocejpmdaaDoor.Utf Go.Proofs.YtogafnocejpmdaaDoor.Arr Go.Proofs.YtogafnocejpmdaaDoor.Gly Go.Proofs.YtogafnocejpmdaaDoor.Glr Go.Proofs.YtogafnocejpmdaaDoor.Who
set_option linter.unusedVariables false
set_option linter.unusedSimpArgs false

/-- A tuple's cells. -/
abbrev tup (t i r a b c : ByteArray) : Array Value := #[.string t, .string i, .string r, .string a, .string b, .string c]
set_option maxHeartbeats 1000000 in
theorem object_calls (t i r a b c : ByteArray) (w : World) :
    Calls Tryd.prog 20 #[.agg (tup t i r a b c)] w fun e w' => e = .returned (.agg #[.string t, .string i]) ∧ Below w.heap.size w w' := by
  go_enter Tryd.func20, Tryd.ntmps20
  go_wp2
  exact bodyPost_ret (v := .agg #[.string t, .string i]) (by simp [results, Tryd.results20, go_sem]) rfl ⟨rfl, ((Below.refl _ _).alloc (Nat.le_refl _) _).alloc (by simp) _⟩

structure Sz (t i r a b c : ByteArray) (n : Nat) : Prop where mk ::
  t : t.size ≤ n
  i : i.size ≤ n
  r : r.size ≤ n
  a : a.size ≤ n
  b : b.size ≤ n
  c : c.size ≤ n

set_option maxHeartbeats 4000000 in
set_option maxRecDepth 100000 in
theorem tgood_calls (t i r a b c : ByteArray) (z : Sz t i r a b c 9223372036854775807) (w : World) (hT : Tabs w) :
    Calls Tryd.prog 12 #[.agg (tup t i r a b c)] w fun e w' => e = .returned (.bool (tupGood t i r a b c)) ∧ Below w.heap.size w w' := by
  have HB := Aside0.mk (box_below w (tup t i r a b c) 25)
  have B0 := Aside0.mk (Blk.new w 25 (tup t i r a b c))
  have HT := Aside0.mk (Tabs.below hT HB.out)
  have Z := Aside0.mk z
  clear hT z
  unfold tupGood
  obtain ⟨g, hg⟩ : ∃ g, goodB t i = g := ⟨_, rfl⟩
  have HG := Aside0.mk hg
  rw [hg]
  clear hg
  obtain ⟨n, hn⟩ : ∃ n, nameB r = n := ⟨_, rfl⟩
  have HN := Aside0.mk hn
  rw [hn]
  clear hn
  obtain ⟨s, hs⟩ : ∃ s, subjB a b c = s := ⟨_, rfl⟩
  have HS := Aside0.mk hs
  rw [hs]
  clear hs
  go_enter Tryd.func12, Tryd.ntmps12
  go_wp2_with fail
  refine (object_calls t i r a b c _).mono ?_
  rintro e w1 ⟨rfl, hb1⟩
  have B1 := Aside0.mk (B0.out.below hb1)
  have HB1 := Aside0.mk (HB.out.trans (hb1.mono HB.out.size))
  have HT1 := Aside0.mk (Tabs.below HT.out hb1)
  clear B0 HB HT hb1
  go_wp2_with fail
  refine (good_as g t i HG.out Z.out.t Z.out.i _ HT1.out).mono ?_
  rintro e w2 ⟨rfl, hb2⟩
  have B2 := Aside0.mk (B1.out.below hb2)
  have HB2 := Aside0.mk (HB1.out.trans (hb2.mono HB1.out.size))
  have HT2 := Aside0.mk (Tabs.below HT1.out hb2)
  clear B1 HB1 HT1 hb2
  cases g with
  | false =>
    go_wp2
    go_ret
    exact ⟨rfl, HB2.out⟩
  | true =>
    have c2 := B2.out.cell 2
    go_wp2_with fail
    refine (name_as n r HN.out Z.out.r _).mono ?_
    rintro e w3 ⟨rfl, hb3⟩
    have B3 := Aside0.mk (B2.out.below hb3)
    have HB3 := Aside0.mk (HB2.out.trans (hb3.mono HB2.out.size))
    have HT3 := Aside0.mk (Tabs.below HT2.out hb3)
    clear B2 HB2 HT2 hb3 c2
    cases n with
    | false =>
      go_wp2
      go_ret
      exact ⟨rfl, HB3.out⟩
    | true =>
      have c3 := B3.out.cell 3
      have c4 := B3.out.cell 4
      have c5 := B3.out.cell 5
      go_wp2_with fail
      refine (subject_as s a b c HS.out Z.out.a Z.out.b Z.out.c _ HT3.out).mono ?_
      rintro e w4 ⟨rfl, hb4⟩
      have HB4 := HB3.out.trans (hb4.mono HB3.out.size)
      clear c3 c4 c5
      go_wp2
      go_ret
      exact ⟨by cases s <;> rfl, HB4⟩
theorem tgood_as (g : Bool) (t i r a b c : ByteArray) (hg : tupGood t i r a b c = g) (z : Sz t i r a b c 9223372036854775807) (w : World) (hT : Tabs w) :
    Calls Tryd.prog 12 #[.agg (tup t i r a b c)] w fun e w' => e = .returned (.bool g) ∧ Below w.heap.size w w' := by
  subst hg
  exact tgood_calls t i r a b c z w hT

set_option maxHeartbeats 4000000 in
set_option maxRecDepth 100000 in
theorem rtgood_calls (t i r a b c : ByteArray) (z : Sz t i r a b c 100000000) (w : World) :
    Calls Tryd.prog 7 #[.agg (tup t i r a b c)] w fun e w' => e = .returned (.bool (tupGood t i r a b c)) ∧ Below w.heap.size w w' := by
  have HB := Aside0.mk (box_below w (tup t i r a b c) 25)
  have B0 := Aside0.mk (Blk.new w 25 (tup t i r a b c))
  have z1 := z.t
  have z2 := z.i
  have z3 := z.r
  have z4 := z.a
  have z5 := z.b
  have z6 := z.c
  clear z
  have hT2 : tupGood t i r a b c = (nameB t && (idB i && (nameB r && (kindV a b c != 0)))) := by
    unfold tupGood goodB
    rw [subj_kind]
    cases nameB t <;> cases idB i <;> cases nameB r <;> rfl
  rw [hT2]
  clear hT2
  obtain ⟨g, hg⟩ : ∃ g, nameB t = g := ⟨_, rfl⟩
  have HG := Aside0.mk hg
  rw [hg]
  clear hg
  obtain ⟨d, hd⟩ : ∃ d, idB i = d := ⟨_, rfl⟩
  have HD := Aside0.mk hd
  rw [hd]
  clear hd
  obtain ⟨n, hn⟩ : ∃ n, nameB r = n := ⟨_, rfl⟩
  have HN := Aside0.mk hn
  rw [hn]
  clear hn
  obtain ⟨k, hk⟩ : ∃ k, kindV a b c = k := ⟨_, rfl⟩
  have HK := Aside0.mk hk
  rw [hk]
  clear hk
  have hkk : (k != 0) = decide (0 < k) := by
    rw [Bool.eq_iff_iff]
    simp
    omega
  have HKK := Aside0.mk hkk
  clear hkk
  go_enter Tryd.func7, Tryd.ntmps7
  go_wp2_with fail
  refine (rname_as g t HG.out (by omega) _).mono ?_
  rintro e w1 ⟨rfl, hb1⟩
  have B1 := Aside0.mk (B0.out.below hb1)
  have HB1 := Aside0.mk (HB.out.trans (hb1.mono HB.out.size))
  clear B0 HB hb1
  cases g with
  | false =>
    go_wp2
    go_ret
    exact ⟨rfl, HB1.out⟩
  | true =>
    have c1 := B1.out.cell 1
    go_wp2_with fail
    refine (rid_as d i HD.out (by omega) _).mono ?_
    rintro e w2 ⟨rfl, hb2⟩
    have B2 := Aside0.mk (B1.out.below hb2)
    have HB2 := Aside0.mk (HB1.out.trans (hb2.mono HB1.out.size))
    clear B1 HB1 hb2 c1
    cases d with
    | false =>
      go_wp2
      go_ret
      exact ⟨rfl, HB2.out⟩
    | true =>
      have c2 := B2.out.cell 2
      go_wp2_with fail
      refine (rname_as n r HN.out (by omega) _).mono ?_
      rintro e w3 ⟨rfl, hb3⟩
      have B3 := Aside0.mk (B2.out.below hb3)
      have HB3 := Aside0.mk (HB2.out.trans (hb3.mono HB2.out.size))
      clear B2 HB2 hb3 c2
      cases n with
      | false =>
        go_wp2
        go_ret
        exact ⟨rfl, HB3.out⟩
      | true =>
        have c3 := B3.out.cell 3
        have c4 := B3.out.cell 4
        have c5 := B3.out.cell 5
        go_wp2_with fail
        refine (kind_as k a b c HK.out (by omega) (by omega) (by omega) _).mono ?_
        rintro e w4 ⟨rfl, hb4⟩
        have HB4 := HB3.out.trans (hb4.mono HB3.out.size)
        clear c3 c4 c5
        go_wp2
        go_ret
        exact ⟨ret_bool (by rw [HKK.out]; simp), HB4⟩

set_option maxHeartbeats 4000000 in
set_option maxRecDepth 100000 in
theorem ttext_calls (t i r a b c : ByteArray) (z : Sz t i r a b c 1000000000000) (w : World) :
    Calls Tryd.prog 8 #[.agg (tup t i r a b c)] w fun e w' => e = .returned (.string (textT t i r a b c)) ∧ Below w.heap.size w w' := by
  have HB := Aside0.mk (box_below w (tup t i r a b c) 25)
  have B0 := Aside0.mk (Blk.new w 25 (tup t i r a b c))
  have z1 := z.t
  have z2 := z.i
  have z3 := z.r
  have z4 := z.a
  have z5 := z.b
  have z6 := z.c
  clear z
  have l1 := text_le t i r
  have l2 := text_le a b c
  have C1 := Aside0.mk (text_calls t i r (by omega))
  have C2 := Aside0.mk (text_calls a b c (by omega))
  unfold textT
  generalize textV t i r = X at *
  generalize textV a b c = Y at *
  have y1 : (X ++ one 64).size = X.size + 1 := by rw [ByteArray.size_append, one_size]
  unfold one at y1
  have b1 : ¬ 9223372036854775807 < X.size + 1 := by omega
  have b2 : ¬ 9223372036854775807 < X.size + 1 + Y.size := by omega
  go_enter Tryd.func8, Tryd.ntmps8
  go_wp2_with fail
  obtain ⟨wo, hwo⟩ : ∃ wo, wo = w.alloc (.cells (tup t i r a b c) 25) := ⟨_, rfl⟩
  rw [← hwo] at B0 HB
  rw [← hwo]
  refine Qt.wp_region_all (fun w' => Below wo.heap.size wo w') (by kernel_rfl) (by kernel_rfl) (Below.refl _ _).drew ?_
  ((first | (with_reducible refine Qt.q_val' rfl ?_) | ((with_reducible refine Qg.on_val' ?_); apply Exists.intro; apply Exists.intro; apply Exists.intro; refine ⟨?_, ?_, ?_, ?_⟩; (focus rfl); (focus rfl); (focus rfl))); apply Exists.intro; refine ⟨?_, ?_⟩; (focus (intro w' hw'; have b0 := (B0.out.below hw').cell 0; have b1 := (B0.out.below hw').cell 1; have b2 := (B0.out.below hw').cell 2; have b3 := (B0.out.below hw').cell 3; have b4 := (B0.out.below hw').cell 4; have b5 := (B0.out.below hw').cell 5; go_simp; (first | done | (with_reducible rfl)))); intro K hK; go_simp; refine hK _ ?_; clear hK K)
  ((first | (with_reducible refine Qt.q_call' rfl ?_) | ((with_reducible refine Qg.on_call' ?_); apply Exists.intro; apply Exists.intro; apply Exists.intro; refine ⟨?_, ?_, ?_, ?_⟩; (focus rfl); (focus rfl); (focus rfl))); apply Exists.intro; apply Exists.intro; refine ⟨?_, ?_⟩; (focus (intro w'; go_simp; (first | rfl | exact ⟨rfl, rfl⟩))); apply Exists.intro; refine ⟨?_, ?_⟩; (focus (intro w' hw'; first | with_reducible exact Qt.under hw' (object_calls t i r a b c _))); intro K hK; go_simp; refine hK _ ?_; clear hK K)
  ((first | (with_reducible refine Qt.q_val' rfl ?_) | ((with_reducible refine Qg.on_val' ?_); apply Exists.intro; apply Exists.intro; apply Exists.intro; refine ⟨?_, ?_, ?_, ?_⟩; (focus rfl); (focus rfl); (focus rfl))); apply Exists.intro; refine ⟨?_, ?_⟩; (focus (intro w' hw'; skip; go_simp; (first | done | (with_reducible rfl)))); intro K hK; go_simp; refine hK _ ?_; clear hK K)
  ((first | (with_reducible refine Qt.q_val' rfl ?_) | ((with_reducible refine Qg.on_val' ?_); apply Exists.intro; apply Exists.intro; apply Exists.intro; refine ⟨?_, ?_, ?_, ?_⟩; (focus rfl); (focus rfl); (focus rfl))); apply Exists.intro; refine ⟨?_, ?_⟩; (focus (intro w' hw'; have b2 := (B0.out.below hw').cell 2; go_simp; (first | done | (with_reducible rfl)))); intro K hK; go_simp; refine hK _ ?_; clear hK K)
  ((first | (with_reducible refine Qt.q_call' rfl ?_) | ((with_reducible refine Qg.on_call' ?_); apply Exists.intro; apply Exists.intro; apply Exists.intro; refine ⟨?_, ?_, ?_, ?_⟩; (focus rfl); (focus rfl); (focus rfl))); apply Exists.intro; apply Exists.intro; refine ⟨?_, ?_⟩; (focus (intro w'; go_simp; (first | rfl | exact ⟨rfl, rfl⟩))); apply Exists.intro; refine ⟨?_, ?_⟩; (focus (intro w' hw'; first | with_reducible exact Qt.under hw' (of_calls t i r _))); intro K hK; go_simp; refine hK _ ?_; clear hK K)
  ((first | (with_reducible refine Qt.q_call' rfl ?_) | ((with_reducible refine Qg.on_call' ?_); apply Exists.intro; apply Exists.intro; apply Exists.intro; refine ⟨?_, ?_, ?_, ?_⟩; (focus rfl); (focus rfl); (focus rfl))); apply Exists.intro; apply Exists.intro; refine ⟨?_, ?_⟩; (focus (intro w'; go_simp; (first | rfl | exact ⟨rfl, rfl⟩))); apply Exists.intro; refine ⟨?_, ?_⟩; (focus (intro w' hw'; first | with_reducible exact Qt.under hw' (C1.out _))); intro K hK; go_simp; refine hK _ ?_; clear hK K)
  iterate 2 ((first | (with_reducible refine Qt.q_val' rfl ?_) | ((with_reducible refine Qg.on_val' ?_); apply Exists.intro; apply Exists.intro; apply Exists.intro; refine ⟨?_, ?_, ?_, ?_⟩; (focus rfl); (focus rfl); (focus rfl))); apply Exists.intro; refine ⟨?_, ?_⟩; (focus (intro w' hw'; skip; go_simp; (first | done | (with_reducible rfl)))); intro K hK; go_simp; refine hK _ ?_; clear hK K)
  ((first | (with_reducible refine Qt.q_val' rfl ?_) | ((with_reducible refine Qg.on_val' ?_); apply Exists.intro; apply Exists.intro; apply Exists.intro; refine ⟨?_, ?_, ?_, ?_⟩; (focus rfl); (focus rfl); (focus rfl))); apply Exists.intro; refine ⟨?_, ?_⟩; (focus (intro w' hw'; have b3 := (B0.out.below hw').cell 3; have b4 := (B0.out.below hw').cell 4; have b5 := (B0.out.below hw').cell 5; go_simp; (first | done | (with_reducible rfl)))); intro K hK; go_simp; refine hK _ ?_; clear hK K)
  ((first | (with_reducible refine Qt.q_call' rfl ?_) | ((with_reducible refine Qg.on_call' ?_); apply Exists.intro; apply Exists.intro; apply Exists.intro; refine ⟨?_, ?_, ?_, ?_⟩; (focus rfl); (focus rfl); (focus rfl))); apply Exists.intro; apply Exists.intro; refine ⟨?_, ?_⟩; (focus (intro w'; go_simp; (first | rfl | exact ⟨rfl, rfl⟩))); apply Exists.intro; refine ⟨?_, ?_⟩; (focus (intro w' hw'; first | with_reducible exact Qt.under hw' (C2.out _))); intro K hK; go_simp; refine hK _ ?_; clear hK K)
  iterate 2 ((first | (with_reducible refine Qt.q_val' rfl ?_) | ((with_reducible refine Qg.on_val' ?_); apply Exists.intro; apply Exists.intro; apply Exists.intro; refine ⟨?_, ?_, ?_, ?_⟩; (focus rfl); (focus rfl); (focus rfl))); apply Exists.intro; refine ⟨?_, ?_⟩; (focus (intro w' hw'; skip; go_simp; (first | done | (with_reducible rfl)))); intro K hK; go_simp; refine hK _ ?_; clear hK K)
  (refine wpQuiet_nil ?_; intro w' hw')
  have HE := HB.out.trans (hw'.mono HB.out.size)
  go_wp2
  go_ret
  exact ⟨rfl, HE⟩
set_option maxHeartbeats 4000000 in
set_option maxRecDepth 100000 in
theorem rttext_calls (t i r a b c : ByteArray) (z : Sz t i r a b c 1000000000000) (hr : r.toList ≠ []) (w : World) :
    Calls Tryd.prog 10 #[.agg (tup t i r a b c)] w fun e w' => e = .returned (.string (textT t i r a b c)) ∧ Below w.heap.size w w' := by
  have HB := Aside0.mk (box_below w (tup t i r a b c) 25)
  have B0 := Aside0.mk (Blk.new w 25 (tup t i r a b c))
  have z1 := z.t
  have z2 := z.i
  have z3 := z.r
  have z4 := z.a
  have z5 := z.b
  have z6 := z.c
  clear z
  have l2 := text_le a b c
  have C2 := Aside0.mk (ref_text_calls a b c (by omega))
  have hE : textT t i r a b c = (((((t ++ one 58) ++ i) ++ one 35) ++ r) ++ one 64) ++ textV a b c := by
    unfold textT
    congr 2
    unfold textV
    rw [if_neg hr]
    simp only [ByteArray.append_assoc]
  rw [hE]
  clear hE hr
  generalize textV a b c = Y at *
  have y1 : (t ++ one 58).size = t.size + 1 := by rw [ByteArray.size_append, one_size]
  have y2 : ((t ++ one 58) ++ i).size = t.size + 1 + i.size := by rw [ByteArray.size_append, y1]
  have y3 : (((t ++ one 58) ++ i) ++ one 35).size = t.size + 1 + i.size + 1 := by rw [ByteArray.size_append, y2, one_size]
  have y4 : ((((t ++ one 58) ++ i) ++ one 35) ++ r).size = t.size + 1 + i.size + 1 + r.size := by rw [ByteArray.size_append, y3]
  have y5 : (((((t ++ one 58) ++ i) ++ one 35) ++ r) ++ one 64).size = t.size + 1 + i.size + 1 + r.size + 1 := by rw [ByteArray.size_append, y4, one_size]
  unfold one at y1 y2 y3 y4 y5
  have b1 : ¬ 9223372036854775807 < t.size + 1 := by omega
  have b2 : ¬ 9223372036854775807 < t.size + 1 + i.size := by omega
  have b3 : ¬ 9223372036854775807 < t.size + 1 + i.size + 1 := by omega
  have b4 : ¬ 9223372036854775807 < t.size + 1 + i.size + 1 + r.size := by omega
  have b5 : ¬ 9223372036854775807 < t.size + 1 + i.size + 1 + r.size + 1 := by omega
  have b6 : ¬ 9223372036854775807 < t.size + 1 + i.size + 1 + r.size + 1 + Y.size := by omega
  go_enter Tryd.func10, Tryd.ntmps10
  go_wp2_with fail
  obtain ⟨wo, hwo⟩ : ∃ wo, wo = w.alloc (.cells (tup t i r a b c) 25) := ⟨_, rfl⟩
  rw [← hwo] at B0 HB
  rw [← hwo]
  refine Qt.wp_region_all (fun w' => Below wo.heap.size wo w') (by kernel_rfl) (by kernel_rfl) (Below.refl _ _).drew ?_
  ((first | (with_reducible refine Qt.q_val' rfl ?_) | ((with_reducible refine Qg.on_val' ?_); apply Exists.intro; apply Exists.intro; apply Exists.intro; refine ⟨?_, ?_, ?_, ?_⟩; (focus rfl); (focus rfl); (focus rfl))); apply Exists.intro; refine ⟨?_, ?_⟩; (focus (intro w' hw'; skip; go_simp; (first | done | (with_reducible rfl)))); intro K hK; go_simp; refine hK _ ?_; clear hK K)
  ((first | (with_reducible refine Qt.q_val' rfl ?_) | ((with_reducible refine Qg.on_val' ?_); apply Exists.intro; apply Exists.intro; apply Exists.intro; refine ⟨?_, ?_, ?_, ?_⟩; (focus rfl); (focus rfl); (focus rfl))); apply Exists.intro; refine ⟨?_, ?_⟩; (focus (intro w' hw'; have b0 := (B0.out.below hw').cell 0; go_simp; (first | done | (with_reducible rfl)))); intro K hK; go_simp; refine hK _ ?_; clear hK K)
  iterate 2 ((first | (with_reducible refine Qt.q_val' rfl ?_) | ((with_reducible refine Qg.on_val' ?_); apply Exists.intro; apply Exists.intro; apply Exists.intro; refine ⟨?_, ?_, ?_, ?_⟩; (focus rfl); (focus rfl); (focus rfl))); apply Exists.intro; refine ⟨?_, ?_⟩; (focus (intro w' hw'; skip; go_simp; (first | done | (with_reducible rfl)))); intro K hK; go_simp; refine hK _ ?_; clear hK K)
  ((first | (with_reducible refine Qt.q_val' rfl ?_) | ((with_reducible refine Qg.on_val' ?_); apply Exists.intro; apply Exists.intro; apply Exists.intro; refine ⟨?_, ?_, ?_, ?_⟩; (focus rfl); (focus rfl); (focus rfl))); apply Exists.intro; refine ⟨?_, ?_⟩; (focus (intro w' hw'; have b0 := (B0.out.below hw').cell 1; go_simp; (first | done | (with_reducible rfl)))); intro K hK; go_simp; refine hK _ ?_; clear hK K)
  iterate 3 ((first | (with_reducible refine Qt.q_val' rfl ?_) | ((with_reducible refine Qg.on_val' ?_); apply Exists.intro; apply Exists.intro; apply Exists.intro; refine ⟨?_, ?_, ?_, ?_⟩; (focus rfl); (focus rfl); (focus rfl))); apply Exists.intro; refine ⟨?_, ?_⟩; (focus (intro w' hw'; skip; go_simp; (first | done | (with_reducible rfl)))); intro K hK; go_simp; refine hK _ ?_; clear hK K)
  ((first | (with_reducible refine Qt.q_val' rfl ?_) | ((with_reducible refine Qg.on_val' ?_); apply Exists.intro; apply Exists.intro; apply Exists.intro; refine ⟨?_, ?_, ?_, ?_⟩; (focus rfl); (focus rfl); (focus rfl))); apply Exists.intro; refine ⟨?_, ?_⟩; (focus (intro w' hw'; have b0 := (B0.out.below hw').cell 2; go_simp; (first | done | (with_reducible rfl)))); intro K hK; go_simp; refine hK _ ?_; clear hK K)
  iterate 3 ((first | (with_reducible refine Qt.q_val' rfl ?_) | ((with_reducible refine Qg.on_val' ?_); apply Exists.intro; apply Exists.intro; apply Exists.intro; refine ⟨?_, ?_, ?_, ?_⟩; (focus rfl); (focus rfl); (focus rfl))); apply Exists.intro; refine ⟨?_, ?_⟩; (focus (intro w' hw'; skip; go_simp; (first | done | (with_reducible rfl)))); intro K hK; go_simp; refine hK _ ?_; clear hK K)
  ((first | (with_reducible refine Qt.q_val' rfl ?_) | ((with_reducible refine Qg.on_val' ?_); apply Exists.intro; apply Exists.intro; apply Exists.intro; refine ⟨?_, ?_, ?_, ?_⟩; (focus rfl); (focus rfl); (focus rfl))); apply Exists.intro; refine ⟨?_, ?_⟩; (focus (intro w' hw'; have b3 := (B0.out.below hw').cell 3; have b4 := (B0.out.below hw').cell 4; have b5 := (B0.out.below hw').cell 5; go_simp; (first | done | (with_reducible rfl)))); intro K hK; go_simp; refine hK _ ?_; clear hK K)
  ((first | (with_reducible refine Qt.q_call' rfl ?_) | ((with_reducible refine Qg.on_call' ?_); apply Exists.intro; apply Exists.intro; apply Exists.intro; refine ⟨?_, ?_, ?_, ?_⟩; (focus rfl); (focus rfl); (focus rfl))); apply Exists.intro; apply Exists.intro; refine ⟨?_, ?_⟩; (focus (intro w'; go_simp; (first | rfl | exact ⟨rfl, rfl⟩))); apply Exists.intro; refine ⟨?_, ?_⟩; (focus (intro w' hw'; first | with_reducible exact Qt.under hw' (C2.out _))); intro K hK; go_simp; refine hK _ ?_; clear hK K)
  iterate 2 ((first | (with_reducible refine Qt.q_val' rfl ?_) | ((with_reducible refine Qg.on_val' ?_); apply Exists.intro; apply Exists.intro; apply Exists.intro; refine ⟨?_, ?_, ?_, ?_⟩; (focus rfl); (focus rfl); (focus rfl))); apply Exists.intro; refine ⟨?_, ?_⟩; (focus (intro w' hw'; skip; go_simp; (first | done | (with_reducible rfl)))); intro K hK; go_simp; refine hK _ ?_; clear hK K)
  (refine wpQuiet_nil ?_; intro w' hw')
  have HE := HB.out.trans (hw'.mono HB.out.size)
  go_wp2
  go_ret
  exact ⟨rfl, HE⟩
end Go.Proofs.YtogafnocejpmdaaDoor.Bnd
