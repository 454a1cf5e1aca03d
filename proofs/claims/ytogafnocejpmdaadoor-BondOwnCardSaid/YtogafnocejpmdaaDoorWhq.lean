/- The reference's layer who: Cut, Text, Kind, Good, Read. -/
import Derived.Test.YtogafnocejpmdaaDoorWhr
import Derived.Test.YtogafnocejpmdaaDoorGlq
namespace Go.Proofs.YtogafnocejpmdaaDoor.Who
open Go.RowKit Go.Proofs.YtogafnocejpmdaaDoorW.PrintWords Go.Proofs.YtogafnocejpmdaaDoor.Utf Go.Proofs.YtogafnocejpmdaaDoor.Arr Go.Proofs.YtogafnocejpmdaaDoor.Gly Go.Proofs.YtogafnocejpmdaaDoor.Glr
set_option linter.unusedVariables false
set_option linter.unusedSimpArgs false

theorem cut_l0 (s : ByteArray) (c : Nat) (hs : s.size ≤ 9223372036854775806) : ∀ (d k p : Nat), s.size - p ≤ d → p ≤ s.size → d + 1 ≤ k → (∀ j, j < p → gb s j ≠ c) → Prn.stileref02_Cut.l0 k s (c : Int) (p : Int) = some (cutA s c, cutB s c, cutOk s c) := by
  intro d
  induction d with
  | zero =>
    intro k p h0 h1 hk hno
    obtain ⟨k, rfl⟩ : ∃ m, k = m + 1 := ⟨k - 1, by omega⟩
    obtain ⟨a, b, e⟩ := cut_absent s c (fun j hj => hno j (by omega))
    simp only [Prn.stileref02_Cut.l0]
    rw [if_neg (by omega), a, b, e]
  | succ d ih =>
    intro k p h0 h1 hk hno
    obtain ⟨k, rfl⟩ : ∃ m, k = m + 1 := ⟨k - 1, by omega⟩
    by_cases hp : p < s.size
    · simp only [Prn.stileref02_Cut.l0]
      rw [if_pos (by omega), if_pos (by omega), bt_gb s p hp, w64 ((p : Int) + 1) (by omega) (by omega)]
      by_cases hc : gb s p = c
      · have hix := ix_hit s c p hp hc hno
        rw [if_pos (by omega), if_pos (by omega), if_pos (by omega), if_pos (by omega)]
        unfold cutA cutB cutOk
        rw [hix, if_pos hp, if_pos hp, decide_eq_true hp, Int.toNat_natCast, show ((p : Int) + 1).toNat = p + 1 by omega]
      · rw [if_neg (by omega), show ((p : Int) + 1) = ((p + 1 : Nat) : Int) by omega]
        refine ih k _ (by omega) (by omega) (by omega) (fun j hj => ?_)
        by_cases h : j = p
        · subst h; exact hc
        · exact hno j (by omega)
    · obtain ⟨a, b, e⟩ := cut_absent s c (fun j hj => hno j (by omega))
      simp only [Prn.stileref02_Cut.l0]
      rw [if_neg (by omega), a, b, e]
theorem ref_cut_calls (s : ByteArray) (hs : s.size ≤ 9223372036854775806) (c : Int) (n : Nat) (hcn : c = n) (w : World) :
    Calls Tryd.prog 24 #[.string s, .int .u8 c] w fun e w' => e = .returned (.tuple #[.string (cutA s n), .string (cutB s n), .bool (cutOk s n)]) ∧ Below w.heap.size w w' := by
  subst hcn
  refine (Prn.stileref02_Cut.calls (s.size + 1) s (n : Int) _ _ _ w (by unfold Prn.stileref02_Cut.f; exact cut_l0 s n hs s.size _ 0 (by omega) (by omega) (by omega) (fun j h => absurd h (Nat.not_lt_zero _)))).mono ?_
  rintro e w' ⟨h1, h2⟩
  exact ⟨h1, h2.below⟩

set_option maxHeartbeats 2000000 in
set_option maxRecDepth 100000 in
theorem ref_text_calls (t i r : ByteArray) (hs : t.size + i.size + r.size ≤ 1000000000000000000) (w : World) :
    Calls Tryd.prog 23 #[.agg #[.string t, .string i, .string r]] w fun e w' => e = .returned (.string (textV t i r)) ∧ Below w.heap.size w w' := by
  have z1 : (t ++ one 58).size = t.size + 1 := by rw [ByteArray.size_append, one_size]
  have z2 : ((t ++ one 58) ++ i).size = t.size + 1 + i.size := by rw [ByteArray.size_append, z1]
  have z3 : (((t ++ one 58) ++ i) ++ one 35).size = t.size + 1 + i.size + 1 := by rw [ByteArray.size_append, z2, one_size]
  unfold one at z1 z2 z3
  have b1 : ¬ 9223372036854775807 < t.size + 1 := by omega
  have b2 : ¬ 9223372036854775807 < t.size + 1 + i.size := by omega
  have b3 : ¬ 9223372036854775807 < t.size + 1 + i.size + 1 := by omega
  have b4 : ¬ 9223372036854775807 < t.size + 1 + i.size + 1 + r.size := by omega
  unfold textV
  by_cases h : r.toList = []
  · have h2 : r.toList.isEmpty = true := by rw [h]; rfl
    rw [if_pos h]
    have H := Aside0.mk h
    go_enter Tryd.func23, Tryd.ntmps23
    go_wp2
    go_ret
    exact ⟨rfl, box_below _ _ _⟩
  · have h2 : r.toList.isEmpty = false := isEmpty_of h
    rw [if_neg h]
    go_enter Tryd.func23, Tryd.ntmps23
    go_wp2
    go_ret
    exact ⟨ret_str (by rw [← ByteArray.append_assoc]; rfl), box_below _ _ _⟩

def kindV (t i r : ByteArray) : Nat :=
  if nameB t = true then
    (if (i.toList == [42]) = true then (if r.toList.isEmpty = true then 3 else 0)
     else if idB i = true then (if r.toList.isEmpty = true then 1 else if nameB r = true then 2 else 0) else 0)
  else 0
theorem rname_as (b : Bool) (s : ByteArray) (hb : nameB s = b) (hs : s.size ≤ 9223372036854775807) (w : World) :
    Calls Tryd.prog 15 #[.string s] w fun e w' => e = .returned (.bool b) ∧ Below w.heap.size w w' := by
  subst hb
  exact ref_name_calls s hs w
theorem rid_as (b : Bool) (s : ByteArray) (hb : idB s = b) (hs : s.size ≤ 100000000) (w : World) :
    Calls Tryd.prog 16 #[.string s] w fun e w' => e = .returned (.bool b) ∧ Below w.heap.size w w' := by
  subst hb
  exact ref_id_calls s hs w
set_option maxHeartbeats 4000000 in
set_option maxRecDepth 100000 in
theorem ref_kind_calls (t i r : ByteArray) (ht : t.size ≤ 9223372036854775807) (hi : i.size ≤ 100000000) (hr : r.size ≤ 9223372036854775807) (w : World) :
    Calls Tryd.prog 17 #[.agg #[.string t, .string i, .string r]] w fun e w' => e = .returned (.int .i64 (kindV t i r : Int)) ∧ Below w.heap.size w w' := by
  have B0 := Blk.new w 23 #[.string t, .string i, .string r]
  have hb0 := box_below w #[.string t, .string i, .string r] 23
  unfold kindV
  cases hn : nameB t with
  | false =>
    have HN := Aside0.mk hn
    clear hn B0
    rw [if_neg (by decide)]
    go_enter Tryd.func17, Tryd.ntmps17
    go_wp2_with (go_at_call 15; refine (rname_as false t HN.out ht _).mono ?_; rintro e w1 ⟨rfl, hb1⟩)
    go_ret
    exact ⟨rfl, hb0.trans (hb1.mono hb0.size)⟩
  | true =>
    have HN := Aside0.mk hn
    clear hn
    rw [if_pos rfl]
    cases hs : (i.toList == [42]) with
    | true =>
      rw [if_pos rfl]
      cases hre : r.toList.isEmpty with
      | true =>
        rw [if_pos rfl]
        go_enter Tryd.func17, Tryd.ntmps17
        go_wp2_with (go_at_call 15; refine (rname_as true t HN.out ht _).mono ?_; rintro e w1 ⟨rfl, hb1⟩; have c1 := (B0.below hb1).cell 1; have c2 := (B0.below hb1).cell 2)
        go_ret
        exact ⟨rfl, hb0.trans (hb1.mono hb0.size)⟩
      | false =>
        rw [if_neg (by decide)]
        go_enter Tryd.func17, Tryd.ntmps17
        go_wp2_with (go_at_call 15; refine (rname_as true t HN.out ht _).mono ?_; rintro e w1 ⟨rfl, hb1⟩; have c1 := (B0.below hb1).cell 1; have c2 := (B0.below hb1).cell 2)
        go_ret
        exact ⟨rfl, hb0.trans (hb1.mono hb0.size)⟩
    | false =>
      rw [if_neg (by decide)]
      cases hd : idB i with
      | false =>
        have HD := Aside0.mk hd
        clear hd
        rw [if_neg (by decide)]
        go_enter Tryd.func17, Tryd.ntmps17
        go_wp2_with (first
          | (go_at_call 15; refine (rname_as true t HN.out ht _).mono ?_; rintro e w1 ⟨rfl, hb1⟩; have c1 := (B0.below hb1).cell 1; have c2 := (B0.below hb1).cell 2)
          | (go_at_call 16; refine (rid_as false i HD.out hi _).mono ?_; rintro e w2 ⟨rfl, hb2⟩))
        go_ret
        exact ⟨rfl, hb0.trans ((hb1.trans (hb2.mono hb1.size)).mono hb0.size)⟩
      | true =>
        have HD := Aside0.mk hd
        clear hd
        rw [if_pos rfl]
        cases hre : r.toList.isEmpty with
        | true =>
          rw [if_pos rfl]
          go_enter Tryd.func17, Tryd.ntmps17
          go_wp2_with (first
            | (go_at_call 15; refine (rname_as true t HN.out ht _).mono ?_; rintro e w1 ⟨rfl, hb1⟩; have c1 := (B0.below hb1).cell 1; have c2 := (B0.below hb1).cell 2)
            | (go_at_call 16; refine (rid_as true i HD.out hi _).mono ?_; rintro e w2 ⟨rfl, hb2⟩; have d2 := ((B0.below hb1).below hb2).cell 2))
          go_ret
          exact ⟨rfl, hb0.trans ((hb1.trans (hb2.mono hb1.size)).mono hb0.size)⟩
        | false =>
          rw [if_neg (by decide)]
          cases hnr : nameB r with
          | _ =>
            have HNR := Aside0.mk hnr
            clear hnr
            have tok : True := trivial
            go_enter Tryd.func17, Tryd.ntmps17
            go_wp2_with (first
              | (go_at_call 15; have _t := tok; refine (rname_as true t HN.out ht _).mono ?_; rintro e w1 ⟨rfl, hb1⟩; have c1 := (B0.below hb1).cell 1; have c2 := (B0.below hb1).cell 2; clear _t tok)
              | (go_at_call 16; refine (rid_as true i HD.out hi _).mono ?_; rintro e w2 ⟨rfl, hb2⟩; have d2 := ((B0.below hb1).below hb2).cell 2)
              | (go_at_call 15; refine (rname_as _ r HNR.out hr _).mono ?_; rintro e w3 ⟨rfl, hb3⟩))
            go_ret
            exact ⟨rfl, hb0.trans (((hb1.trans (hb2.mono hb1.size)).trans (hb3.mono (Nat.le_trans hb1.size hb2.size))).mono hb0.size)⟩
end Go.Proofs.YtogafnocejpmdaaDoor.Who
