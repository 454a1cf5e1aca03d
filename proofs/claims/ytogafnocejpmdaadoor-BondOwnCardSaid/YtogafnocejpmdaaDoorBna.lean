/- The fixed fact of chapter 3's laws. -/
import Derived.Test.YtogafnocejpmdaaDoorBnm
namespace Go.Proofs.YtogafnocejpmdaaDoor.Bnd
open Go.RowKit Go.Proofs.YtogafnocejpmdaaDoorW.PrintWords Go.Proofs.YtogafnocejpmdaaDoor.Utf Go.Proofs.YtogafnocejpmdaaDoor.Arr Go.Proofs.YtogafnocejpmdaaDoor.Gly Go.Proofs.YtogafnocejpmdaaDoor.Glr Go.Proofs.YtogafnocejpmdaaDoor.Who
set_option linter.unusedVariables false
set_option linter.unusedSimpArgs false

theorem ok_data (s : ByteArray) : readOk s = (cutOk s 58 && ((if nameB (cutA s 58) = true then
    (if ((cutA (cutB s 58) 35).data.toList == [42]) = true then (if (cutB (cutB s 58) 35).data.toList.isEmpty = true then 3 else 0)
     else if idB (cutA (cutB s 58) 35) = true then (if (cutB (cutB s 58) 35).data.toList.isEmpty = true then 1 else if nameB (cutB (cutB s 58) 35) = true then 2 else 0) else 0)
  else 0) != 0 && (cutOk (cutB s 58) 35 == !(cutB (cutB s 58) 35).data.toList.isEmpty))) := by
  rw [read_same]
  unfold refOk kindV
  simp only [Lib.toList_data]
def S1 : ByteArray := ⟨#[100, 111, 99, 58, 114, 101, 97, 100, 109, 101, 35, 118, 105, 101, 119, 101, 114, 64, 103, 114, 111, 117, 112, 58, 101, 110, 103, 35, 109, 101, 109, 98, 101, 114]⟩
theorem S1_cut : cutOk S1 64 = true := by decide +kernel
theorem S1_a : readOk (cutA S1 64) = true := by rw [ok_data]; decide +kernel
theorem S1_b : readOk (cutB S1 64) = true := by rw [ok_data]; decide +kernel
theorem S1_set : setB (rt (cutA S1 64)) (ri (cutA S1 64)) (rr (cutA S1 64)) = true := by
  unfold rt ri rr
  rw [S1_a, if_pos rfl, if_pos rfl, if_pos rfl]
  unfold setB
  decide +kernel
theorem S1_t : (rt (cutA S1 64)).toList = [100, 111, 99] := by
  unfold rt
  rw [S1_a, if_pos rfl, Lib.toList_data]
  decide +kernel
theorem S1_u : (rt (cutB S1 64)).toList = [103, 114, 111, 117, 112] := by
  unfold rt
  rw [S1_b, if_pos rfl, Lib.toList_data]
  decide +kernel
theorem S1_c : (rr (cutB S1 64)).toList = [109, 101, 109, 98, 101, 114] := by
  unfold rr
  rw [S1_b, if_pos rfl, Lib.toList_data]
  decide +kernel
def six6 (t i r a b c : ByteArray) (k : Nat) : ByteArray := [t, i, r, a, b, c].getD k ⟨#[]⟩
theorem match_as (g : Bool) (p q u v x y t i r a b c : ByteArray) (bare : Bool) (hg : matchB (six6 p q u v x y) (six6 t i r a b c) bare = g) (w : World) :
    Calls Tryd.prog 14 #[.agg (flt p q u v x y bare), .agg (tup t i r a b c)] w fun e w' => e = .returned (.bool g) ∧ Below w.heap.size w w' := by
  subst hg
  exact match_calls (six6 p q u v x y) (six6 t i r a b c) bare w
theorem match_cst (t i r a b c : ByteArray) (ht : t.toList = [100, 111, 99]) (ha : a.toList = [103, 114, 111, 117, 112]) : matchB (six6 ⟨#[100, 111, 99]⟩ ⟨#[]⟩ ⟨#[]⟩ ⟨#[103, 114, 111, 117, 112]⟩ ⟨#[]⟩ ⟨#[]⟩) (six6 t i r a b c) false = true := by
  unfold matchB
  rw [Bool.not_false, Bool.true_or, Bool.and_true, List.all_eq_true]
  intro k hk
  have hk : k < 6 := by simpa using hk
  have : k = 0 ∨ k = 1 ∨ k = 2 ∨ k = 3 ∨ k = 4 ∨ k = 5 := by omega
  rcases this with rfl | rfl | rfl | rfl | rfl | rfl <;> simp [passK, six6, ht, ha, Lib.toList_data]
/-- What a text's two halves give, named. -/
theorem halves (s : ByteArray) : Halves s (rt (cutA s 64)) (ri (cutA s 64)) (rr (cutA s 64)) (rt (cutB s 64)) (ri (cutB s 64)) (rr (cutB s 64)) (readOk (cutA s 64)) (readOk (cutB s 64)) (setB (rt (cutA s 64)) (ri (cutA s 64)) (rr (cutA s 64))) :=
  ⟨rfl, rfl, rfl, rfl, rfl, rfl, rfl, rfl, rfl⟩
theorem bread_yes (s t i r a b c : ByteArray) (hs : s.size ≤ 1000000000000) (h : tOk s = true) (ht : rt (cutA s 64) = t) (hi : ri (cutA s 64) = i) (hr : rr (cutA s 64) = r) (ha : rt (cutB s 64) = a) (hb : ri (cutB s 64) = b) (hc : rr (cutB s 64) = c) (w : World) (hT : Tabs w) :
    Calls Tryd.prog 9 #[.string s] w fun e w' => e = .returned (.tuple #[.agg (tup t i r a b c), .int .i64 0]) ∧ Below w.heap.size w w' := by
  subst ht hi hr ha hb hc
  have := bread_walk s _ _ _ _ _ _ _ _ _ (cutOk s 64) _ hs (halves s) rfl h.symm w hT
  rwa [if_pos rfl, if_pos rfl] at this
theorem bread_no (s : ByteArray) (hs : s.size ≤ 1000000000000) (h : tOk s = false) (w : World) (hT : Tabs w) :
    Calls Tryd.prog 9 #[.string s] w fun e w' => e = .returned (.tuple #[.agg tup0, .int .i64 2]) ∧ Below w.heap.size w w' := by
  have := bread_walk s _ _ _ _ _ _ _ _ _ (cutOk s 64) _ hs (halves s) rfl h.symm w hT
  rwa [if_neg (by decide), if_neg (by decide)] at this
theorem rread_yes (s t i r a b c : ByteArray) (hs : s.size ≤ 100000000) (h : tOk s = true) (ht : rt (cutA s 64) = t) (hi : ri (cutA s 64) = i) (hr : rr (cutA s 64) = r) (ha : rt (cutB s 64) = a) (hb : ri (cutB s 64) = b) (hc : rr (cutB s 64) = c) (w : World) :
    Calls Tryd.prog 11 #[.string s] w fun e w' => e = .returned (.tuple #[.agg (tup t i r a b c), .bool true]) ∧ Below w.heap.size w w' := by
  subst ht hi hr ha hb hc
  have := rread_walk s _ _ _ _ _ _ _ _ _ (cutOk s 64) _ hs (halves s) rfl h.symm w
  rwa [if_pos rfl] at this
theorem rread_no (s : ByteArray) (hs : s.size ≤ 100000000) (h : tOk s = false) (w : World) :
    Calls Tryd.prog 11 #[.string s] w fun e w' => e = .returned (.tuple #[.agg tup0, .bool false]) ∧ Below w.heap.size w w' := by
  have := rread_walk s _ _ _ _ _ _ _ _ _ (cutOk s 64) _ hs (halves s) rfl h.symm w
  rwa [if_neg (by decide)] at this
theorem S1_ok : tOk S1 = true := by unfold tOk; rw [S1_cut, S1_a, S1_b, S1_set]; rfl

set_option maxHeartbeats 4000000 in
set_option maxRecDepth 100000 in
theorem awake_calls (w : World) (hT : Tabs w) :
    Calls Tryd.prog 6 #[] w fun e w' => e = .returned (.bool true) ∧ Below w.heap.size w w' := by
  obtain ⟨t, ht⟩ : ∃ t, rt (cutA S1 64) = t := ⟨_, rfl⟩
  obtain ⟨i, hi⟩ : ∃ i, ri (cutA S1 64) = i := ⟨_, rfl⟩
  obtain ⟨r, hr⟩ : ∃ r, rr (cutA S1 64) = r := ⟨_, rfl⟩
  obtain ⟨a, ha⟩ : ∃ a, rt (cutB S1 64) = a := ⟨_, rfl⟩
  obtain ⟨b, hb⟩ : ∃ b, ri (cutB S1 64) = b := ⟨_, rfl⟩
  obtain ⟨c, hc⟩ : ∃ c, rr (cutB S1 64) = c := ⟨_, rfl⟩
  have C1 := bread_yes S1 t i r a b c (by decide) S1_ok ht hi hr ha hb hc
  have C2 := match_as true _ _ _ _ _ _ t i r a b c false (match_cst t i r a b c (by rw [← ht]; exact S1_t) (by rw [← ha]; exact S1_u))
  have q1 : c.toList = [109, 101, 109, 98, 101, 114] := by rw [← hc]; exact S1_c
  unfold S1 at C1
  have K1 := Aside0.mk C1
  have K2 := Aside0.mk C2
  have HT := Aside0.mk hT
  clear C1 C2 hT ht hi hr ha hb hc
  go_enter Tryd.func6, Tryd.ntmps6
  go_wp2_with fail
  refine (K1.out _ HT.out).mono ?_
  rintro e w1 ⟨rfl, hb1⟩
  have HB1 := Aside0.mk (hb1.alloc hb1.size (.cells (tup t i r a b c) 25))
  clear HT hb1
  go_wp2_with fail
  refine (K2.out _).mono ?_
  rintro e w2 ⟨rfl, hb2⟩
  have HB2 := HB1.out.trans (hb2.mono HB1.out.size)
  clear HB1 hb2
  go_wp2
  go_ret
  exact ⟨rfl, HB2⟩
end Go.Proofs.YtogafnocejpmdaaDoor.Bnd
