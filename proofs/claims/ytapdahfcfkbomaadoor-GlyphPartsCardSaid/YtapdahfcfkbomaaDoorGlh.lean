/- The law GlyphParts: its walk. -/
import Derived.Test.YtapdahfcfkbomaaDoorGlk
import Derived.Test.YtapdahfcfkbomaaDoorQg
import Derived.IntWalk
namespace Go.Proofs.YtapdahfcfkbomaaDoor.Quo
open Go.RowKit Go.Proofs.YtapdahfcfkbomaaDoorW.PrintWords Go.Proofs.YtapdahfcfkbomaaDoor.Arr Go.Proofs.YtapdahfcfkbomaaDoor.Utf Go.Proofs.YtapdahfcfkbomaaDoor.Gly Go.Proofs.YtapdahfcfkbomaaDoor.Glr Go.Proofs.YtapdahfcfkbomaaDoor.Hex Go.Proofs.YtapdahfcfkbomaaDoor.Prn
set_option linter.unusedVariables false
set_option linter.unusedSimpArgs false

theorem piece_len (s : ByteArray) (p : Nat) : (piece s p).length ≤ 14 := by
  unfold piece
  have hl := dec_le s p
  split
  · have := hexV_size (gb s p) 2 (by omega) (by have := gb_lt s p; omega)
    have hz : (hexV (gb s p) 2).data.toList.length = (hexV (gb s p) 2).size := by rw [Array.length_toList]; rfl
    simp only [List.length_append, List.length_cons, List.length_nil]
    omega
  split
  · have h4 := Lib.runeCells_le ((Utf8.decode s p).1 : Int)
    have : (Lib.byteCells (Lib.encodeRune ((Utf8.decode s p).1 : Int))).length ≤ 4 := by rw [Lib.byteCells_encodeRune]; exact h4.2
    rw [Lib.byteCells_length] at this
    omega
  · have := hexV_size (Utf8.decode s p).1 1 (by omega) (by omega)
    have hz : (hexV (Utf8.decode s p).1 1).data.toList.length = (hexV (Utf8.decode s p).1 1).size := by rw [Array.length_toList]; rfl
    simp only [List.length_append, List.length_cons, List.length_nil]
    omega
theorem quoteT_len (s : ByteArray) : ∀ p, (quoteT s p).length ≤ 14 * (s.size - p) := by
  refine tail_ind s _ ?_ ?_
  · intro p h
    rw [quoteT_end s p h]
    exact Nat.zero_le _
  · intro p h ih
    have hw := dec_w s p h
    have := piece_len s p
    rw [quoteT_step s p h, List.length_append]
    omega
/-- A text's quote. -/
def quoteV (s : ByteArray) : ByteArray := ⟨(34 :: (quoteT s 0 ++ [34])).toArray⟩
theorem quoteV_size (s : ByteArray) : (quoteV s).size = (quoteT s 0).length + 2 := by simp [quoteV, ByteArray.size]
theorem quote_text (s : ByteArray) (hs : s.size ≤ 1000000) (w : World) (hT : Tabs w) (hD : Deb w) :
    Calls Tryd.prog 22 #[.string s] w fun e w' => e = .returned (.string (quoteV s)) ∧ Below w.heap.size w w' := quote_calls s hs w hT hD
theorem extract_list (s : ByteArray) (a b : Nat) : (s.extract a b).data.toList = (s.data.toList.take b).drop a := by
  rw [ByteArray.data_extract]
  simp [List.drop_take]
theorem join_quotes (a b c : List UInt8) (h : a ++ b = c) : ((⟨(34 :: (a ++ [34])).toArray⟩ : ByteArray).extract 0 (a.length + 1)) ++ ((⟨(34 :: (b ++ [34])).toArray⟩ : ByteArray).extract 1 (b.length + 2)) = ⟨(34 :: (c ++ [34])).toArray⟩ := by
  subst h
  apply ByteArray.ext
  apply Array.toList_inj.1
  rw [ByteArray.data_append, Array.toList_append, extract_list, extract_list]
  simp
  exact List.take_of_length_le (by simp)
theorem quoteV_join (s : ByteArray) (q : Nat) (hq : q ≤ s.size) (h : quoteT (s.extract 0 q) 0 ++ quoteT s q = quoteT s 0) :
    (quoteV (s.extract 0 q)).extract 0 ((quoteV (s.extract 0 q)).size - 1) ++ (quoteV (s.extract q s.size)).extract 1 (quoteV (s.extract q s.size)).size = quoteV s := by
  have hb := (behind s q hq 0).2.2
  rw [quoteV_size, quoteV_size]
  unfold quoteV
  rw [show (quoteT (s.extract 0 q) 0).length + 2 - 1 = (quoteT (s.extract 0 q) 0).length + 1 by omega]
  exact join_quotes _ _ _ (by rw [hb]; exact h)

set_option maxHeartbeats 4000000 in
set_option maxRecDepth 100000 in
theorem lawParts_calls (s : ByteArray) (hs : s.size ≤ 9223372036854775807) (n : Nat) (hn : n < 256) (w : World) (hT : Tabs w) (hD : Deb w) :
    Calls Tryd.prog 7 #[.string s, .int .u8 (n : Int)] w fun e w' => e = .returned (.bool true) ∧ Below w.heap.size w w' := by
  have HT := Aside0.mk hT
  have HD := Aside0.mk hD
  clear hT hD
  have HB0 := Aside0.mk (Below.refl w.heap.size w)
  by_cases hbig : 1000 < s.size
  · have t1 : decide ((s.size : Int) > 1000) = true := decide_eq_true (by omega)
    go_enter Tryd.func7, Tryd.ntmps7
    (go_wp2_with fail; refine (awake_calls _ HT.out HD.out).mono ?_; rintro e w1 ⟨rfl, hb1⟩; have HB1 := Aside0.mk (HB0.out.trans (hb1.mono HB0.out.size)); clear hb1)
    (go_wp2_with fail; refine (awake_calls _ (HT.out.below HB1.out) (HD.out.below HB1.out)).mono ?_; rintro e w2 ⟨rfl, hb2⟩; have HB2 := Aside0.mk (HB1.out.trans (hb2.mono HB1.out.size)); clear hb2)
    go_wp2
    go_ret
    exact ⟨rfl, HB2.out⟩
  have t1 : decide ((s.size : Int) > 1000) = false := decide_eq_false (by omega)
  have C0 := valid_calls s (by omega)
  rcases (Bool.eq_false_or_eq_true (validB s)).symm with hv | hv
  · rw [hv] at C0
    have K0 := Aside0.mk C0
    clear C0 hv
    go_enter Tryd.func7, Tryd.ntmps7
    (go_wp2_with fail; refine (awake_calls _ HT.out HD.out).mono ?_; rintro e w1 ⟨rfl, hb1⟩; have HB1 := Aside0.mk (HB0.out.trans (hb1.mono HB0.out.size)); clear hb1)
    (go_wp2_with fail; refine (K0.out _ (HT.out.below HB1.out)).mono ?_; rintro e w2 ⟨rfl, hb2⟩; have HB2 := Aside0.mk (HB1.out.trans (hb2.mono HB1.out.size)); clear hb2)
    (go_wp2_with fail; refine (awake_calls _ (HT.out.below HB2.out) (HD.out.below HB2.out)).mono ?_; rintro e w3 ⟨rfl, hb3⟩; have HB3 := Aside0.mk (HB2.out.trans (hb3.mono HB2.out.size)); clear hb3)
    go_wp2
    go_ret
    exact ⟨rfl, HB3.out⟩
  rw [hv] at C0
  have K0 := Aside0.mk C0
  obtain ⟨q, hq⟩ : ∃ q, q = clipT s n 0 := ⟨_, rfl⟩
  have hle := clipT_le s n 0 (by omega)
  rw [← hq] at hle
  have hcf := clip_facts s n 0 q hv (by omega) hq
  have hbe := behind s q hle.2 0
  have hcl := cnt_le s
  have K1 := Aside0.mk (count_good s (by omega) hv)
  have K2 := Aside0.mk (clip_good s (by omega) n (by omega) hv q hq)
  have hsz := size_pre s q hle.2
  have hsz2 : (s.extract q s.size).size = s.size - q := by rw [ByteArray.size_extract]; omega
  have hj := quoteV_join s q hle.2 hcf.2.2.1
  have l1 := quoteT_len (s.extract 0 q) 0
  have l2 := quoteT_len (s.extract q s.size) 0
  have z1 := quoteV_size (s.extract 0 q)
  have z2 := quoteV_size (s.extract q s.size)
  have K3 := Aside0.mk (count_good (s.extract 0 q) (by rw [hsz]; omega) hcf.1)
  have K4 := Aside0.mk (count_good (s.extract q s.size) (by rw [hsz2]; omega) (by show validT _ 0 = true; rw [hbe.1]; exact hcf.2.2.2.2))
  have K5 := Aside0.mk (quote_text (s.extract 0 q) (by rw [hsz]; omega))
  have K6 := Aside0.mk (quote_text (s.extract q s.size) (by rw [hsz2]; omega))
  have K7 := Aside0.mk (quote_text s (by omega))
  have hsum : cnt (s.extract 0 q) + cnt (s.extract q s.size) = cnt s := by
    have h1 := hcf.2.2.2.1
    have h2 := hbe.2.1
    unfold cnt
    rw [h2]
    exact h1
  have hq1 : (0 : Int) ≤ (q : Int) := by omega
  have hq2 : (q : Int) ≤ (s.size : Int) := by omega
  rw [hsz] at l1
  rw [hsz2] at l2
  obtain ⟨a, ha⟩ : ∃ a, s.extract 0 q = a := ⟨_, rfl⟩
  obtain ⟨b, hb⟩ : ∃ b, s.extract q s.size = b := ⟨_, rfl⟩
  obtain ⟨P, hP⟩ : ∃ P, quoteV a = P := ⟨_, rfl⟩
  obtain ⟨Q, hQ⟩ : ∃ Q, quoteV b = Q := ⟨_, rfl⟩
  obtain ⟨R, hR⟩ : ∃ R, quoteV s = R := ⟨_, rfl⟩
  have haq : a.size = q := by rw [← ha]; exact hsz
  rw [ha] at K2 K3 K5 hj l1 z1 hsum
  rw [hb] at K4 K6 hj l2 z2 hsum
  rw [hP] at K5 hj z1
  rw [hQ] at K6 hj z2
  rw [hR] at K7 hj
  generalize cnt s = cs at *
  generalize cnt a = ca at *
  generalize cnt b = cb at *
  have hPz : P.size ≤ 20000 := by omega
  have hQz : Q.size ≤ 20000 := by omega
  have hPz0 : 2 ≤ P.size := by omega
  have hQz0 : 2 ≤ Q.size := by omega
  have hcs : IntKind.i64.wrap ((ca : Int) + (cb : Int)) = (cs : Int) := by rw [IntWalk.i64_in _ (by omega)]; omega
  obtain ⟨k, hk⟩ : ∃ k, P.size - 1 = k := ⟨_, rfl⟩
  rw [hk] at hj
  have hk1 : IntKind.i64.wrap ((P.size : Int) - 1) = (k : Int) := by rw [IntWalk.i64_in _ (by omega)]; omega
  have HK1 := Aside0.mk hk1
  have hk2 : (0 : Int) ≤ (k : Int) := by omega
  have hk3 : (k : Int) ≤ (P.size : Int) := by omega
  have hk4 : (1 : Int) ≤ (Q.size : Int) := by omega
  have hk5 : ¬ 9223372036854775807 < min k P.size + (Q.size - 1) := by omega
  have HJ := Aside0.mk hj
  have HCS := Aside0.mk hcs
  have HA := Aside0.mk haq
  have HBE := Aside0.mk hb
  have HQ1 := Aside0.mk hq
  clear hk1 hk hbig hv C0 hle hcf hbe hcl hsz hsz2 hj l1 l2 z1 z2 ha hb hP hQ hR hcs hsum haq hq
  go_enter Tryd.func7, Tryd.ntmps7
  (go_wp2_with fail; refine (awake_calls _ HT.out HD.out).mono ?_; rintro e w1 ⟨rfl, hb1⟩; have HB1 := Aside0.mk (HB0.out.trans (hb1.mono HB0.out.size)); clear hb1)
  (go_wp2_with fail; refine (K0.out _ (HT.out.below HB1.out)).mono ?_; rintro e w2 ⟨rfl, hb2⟩; have HB2 := Aside0.mk (HB1.out.trans (hb2.mono HB1.out.size)); clear hb2)
  (go_wp2_with fail; refine (K1.out _ (HT.out.below HB2.out)).mono ?_; rintro e w3 ⟨rfl, hb3⟩; have HB3 := Aside0.mk (HB2.out.trans (hb3.mono HB2.out.size)); clear hb3)
  (go_wp2_with fail; refine (K2.out _ (HT.out.below HB3.out)).mono ?_; rintro e w4 ⟨rfl, hb4⟩; have HB4 := Aside0.mk (HB3.out.trans (hb4.mono HB3.out.size)); clear hb4)
  have hb := HBE.out
  have haq := HA.out
  clear HBE HA
  (go_wp2_with fail; refine (K3.out _ (HT.out.below HB4.out)).mono ?_; rintro e w5 ⟨rfl, hb5⟩; have HB5 := Aside0.mk (HB4.out.trans (hb5.mono HB4.out.size)); clear hb5)
  (go_wp2_with fail; refine (K4.out _ (HT.out.below HB5.out)).mono ?_; rintro e w6 ⟨rfl, hb6⟩; have HB6 := Aside0.mk (HB5.out.trans (hb6.mono HB5.out.size)); clear hb6)
  (go_wp2_with fail; refine (K5.out _ (HT.out.below HB6.out) (HD.out.below HB6.out)).mono ?_; rintro e w7 ⟨rfl, hb7⟩; have HB7 := Aside0.mk (HB6.out.trans (hb7.mono HB6.out.size)); clear hb7)
  (go_wp2_with fail; refine (K6.out _ (HT.out.below HB7.out) (HD.out.below HB7.out)).mono ?_; rintro e w8 ⟨rfl, hb8⟩; have HB8 := Aside0.mk (HB7.out.trans (hb8.mono HB7.out.size)); clear hb8)
  clear hb haq
  go_wp2_with fail
  have T8 := Aside0.mk (HT.out.below HB8.out)
  have D8 := Aside0.mk (HD.out.below HB8.out)
  clear HT HD K0 K1 K2 K3 K4 K5 K6 HB0 HB1 HB2 HB3 HB4 HB5 HB6 HB7
  have hj := HJ.out
  have hcs := HCS.out
  have hk1 := HK1.out
  refine Qt.wp_region_all (fun w' => Below w8.heap.size w8 w') (by kernel_rfl) (by kernel_rfl) (Below.refl _ _).drew ?_
  repeat (first
    | ((first | (with_reducible refine Qt.q_val' rfl ?_) | ((with_reducible refine Qg.on_val' ?_); apply Exists.intro; apply Exists.intro; apply Exists.intro; refine ⟨?_, ?_, ?_, ?_⟩; (focus rfl); (focus rfl); (focus rfl))); apply Exists.intro; refine ⟨?_, ?_⟩; (focus (intro w' hw'; skip; go_simp; (first | done | (with_reducible rfl)))); intro K hK; go_simp; refine hK _ ?_; clear hK K)
    | ((first | (with_reducible refine Qt.q_call' rfl ?_) | ((with_reducible refine Qg.on_call' ?_); apply Exists.intro; apply Exists.intro; apply Exists.intro; refine ⟨?_, ?_, ?_, ?_⟩; (focus rfl); (focus rfl); (focus rfl))); apply Exists.intro; apply Exists.intro; refine ⟨?_, ?_⟩; (focus (intro w'; go_simp; (first | rfl | exact ⟨rfl, rfl⟩))); apply Exists.intro; refine ⟨?_, ?_⟩; (focus (intro w' hw'; first | with_reducible exact Qt.under hw' (K7.out _ (Tabs.below T8.out hw') (Deb.below D8.out hw')))); intro K hK; go_simp; refine hK _ ?_; clear hK K))
  (refine wpQuiet_nil ?_; intro w' hw')
  have HE := HB8.out.trans (hw'.mono HB8.out.size)
  go_wp2
  go_ret
  exact ⟨rfl, HE⟩
end Go.Proofs.YtapdahfcfkbomaaDoor.Quo
