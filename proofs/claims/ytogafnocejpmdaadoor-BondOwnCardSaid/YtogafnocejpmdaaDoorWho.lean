/- The program's layer who: split, Good, One, Set, All, Subject, Of, Object, Text. -/
import Derived.Test.YtogafnocejpmdaaDoorGlz
import Derived.Test.YtogafnocejpmdaaDoorWhp
import Derived.Test.YtogafnocejpmdaaDoorRow
import Derived.Test.YtogafnocejpmdaaDoorPrn
namespace Go.Proofs.YtogafnocejpmdaaDoor.Who
open Go.RowKit Go.Proofs.YtogafnocejpmdaaDoorW.PrintWords Go.Proofs.YtogafnocejpmdaaDoor.Utf Go.Proofs.YtogafnocejpmdaaDoor.Arr Go.Proofs.YtogafnocejpmdaaDoor.Gly
set_option linter.unusedVariables false
set_option linter.unusedSimpArgs false

abbrev big (n : Nat) : Prop := n ≤ 1000000000

set_option maxHeartbeats 4000000 in
set_option maxRecDepth 100000 in
theorem split_calls (s : ByteArray) (hs : s.size ≤ 9223372036854775806) (c : Int) (n : Nat) (hcn : c = n) (hn : n < 128) (w : World) :
    Calls Tryd.prog 33 #[.string s, .int .i32 c] w fun e w' => e = .returned (.tuple #[.string (cutA s n), .string (cutB s n)]) ∧ Below w.heap.size w w' := by
  subst hcn
  go_enter Tryd.func33, Tryd.ntmps33
  go_wp2
  go_loopw [10] (fun v10 wr => ∃ pos : Nat, wr.heap[w.heap.size]? = some (.stringIter s pos) ∧ Aside0 (∀ j, j < pos → gb s j ≠ n) ∧ Below w.heap.size w wr) (fun _ wr => s.size - wr.iterPos w.heap.size)
  case atStart => exact ⟨0, World.iter_heap w s 0, ⟨fun j h => absurd h (Nat.not_lt_zero _)⟩, (Below.refl _ _).alloc (Nat.le_refl _) _⟩
  case round =>
    obtain ⟨pos, hit, hv, hb⟩ := hrel
    have hpos := iterPos_of hit
    by_cases hp : pos < s.size
    · have hnx : ∀ ty, (Instr.next (.pointer (some ⟨w.heap.size, 0, none⟩)) true ty).run Tryd.prog wr = _ := fun ty => Lib.run_next_any_at wr w.heap.size s pos ty hit hp
      have hw := dec_w s pos hp
      have hit2 := Lib.iterAt_heap wr w.heap.size s pos (pos + (Utf8.decode s pos).2) hit
      have hb2 := Lib.below_iterAt hb (Nat.le_refl _) s (pos + (Utf8.decode s pos).2)
      have hyes := fun h => ix_hit s n pos hp ((dec_is s pos n hn).1 h) hv.out
      have hno := dec_not s pos n hn
      have HV := Aside0.mk hv.out
      have HP := Aside0.mk hpos
      have HI := Aside0.mk hit2
      have HW := Aside0.mk hw
      clear hv hpos hit hit2 hw
      generalize (Utf8.decode s pos).1 = r at *
      generalize (Utf8.decode s pos).2 = m at *
      by_cases hr : r = n
      · have hix := hyes hr
        have eA : cutA s n = s.extract 0 pos := by unfold cutA; rw [hix, if_pos hp]
        have eB : cutB s n = s.extract (pos + 1) s.size := by unfold cutB; rw [hix, if_pos hp]
        have EA := Aside0.mk eA
        have EB := Aside0.mk eB
        have t0 : ((r : Int) == (n : Int)) = true := beq_iff_eq.2 (by omega)
        clear hyes hno hr hix eA eB
        have p0 : (0 : Int) ≤ (pos : Int) := by omega
        have p1 : (pos : Int) ≤ (s.size : Int) := by omega
        have p2 : IntKind.i64.wrap ((pos : Int) + 1) = (pos : Int) + 1 := IntWalk.i64_in _ (by omega)
        have p3 : (0 : Int) ≤ (pos : Int) + 1 := by omega
        have p4 : (pos : Int) + 1 ≤ (s.size : Int) := by omega
        have p5 : ((pos : Int) + 1).toNat = pos + 1 := by omega
        go_wp2
        go_quiet (fail)
        go_wp2
        go_ret2
        exact ⟨by rw [EA.out, EB.out]; rfl, below_drewN hb2 _⟩
      · have hz : ∀ j, j < pos + m → gb s j ≠ n := fun j hj => by
          by_cases h : j < pos
          · exact HV.out j h
          · exact hno hr j (by omega) hj
        have HZ := Aside0.mk hz
        have t0 : ((r : Int) == (n : Int)) = false := beq_eq_false_iff_ne.2 (by omega)
        clear hyes hno hr hz
        go_wp2
        go_roundw
        case rel => exact ⟨_, HI.out, HZ, hb2⟩
        case measure =>
          have := HW.out
          rw [iterPos_of HI.out, HP.out]
          omega
    · have hnx : ∀ ty, (Instr.next (.pointer (some ⟨w.heap.size, 0, none⟩)) true ty).run Tryd.prog wr = _ := fun ty => Lib.run_next_end_at wr w.heap.size s pos ty hit hp
      have hix := ix_none s n (fun j hj => hv.out j (by omega))
      have eA : cutA s n = s := by unfold cutA; rw [hix, if_neg (Nat.lt_irrefl _)]
      have eB : cutB s n = ⟨#[]⟩ := by unfold cutB; rw [hix, if_neg (Nat.lt_irrefl _)]
      have EA := Aside0.mk eA
      have EB := Aside0.mk eB
      clear hv hit hpos hix eA eB
      go_wp2
      go_ret2
      exact ⟨by rw [EA.out, EB.out]; rfl, hb⟩

/-! ### objects -/
theorem name_as (b : Bool) (s : ByteArray) (hb : nameB s = b) (hs : s.size ≤ 9223372036854775807) (w : World) :
    Calls Tryd.prog 27 #[.string s] w fun e w' => e = .returned (.bool b) ∧ Below w.heap.size w w' := by
  subst hb
  exact name_calls s hs w
theorem id_as (b : Bool) (s : ByteArray) (hb : idB s = b) (hs : s.size ≤ 9223372036854775807) (w : World) (hT : Tabs w) :
    Calls Tryd.prog 30 #[.string s] w fun e w' => e = .returned (.bool b) ∧ Below w.heap.size w w' := by
  subst hb
  exact id_calls s hs w hT
def goodB (t i : ByteArray) : Bool := nameB t && idB i
set_option maxHeartbeats 2000000 in
set_option maxRecDepth 100000 in
theorem good_calls (t i : ByteArray) (ht : t.size ≤ 9223372036854775807) (hi : i.size ≤ 9223372036854775807) (w : World) (hT : Tabs w) :
    Calls Tryd.prog 26 #[.agg #[.string t, .string i]] w fun e w' => e = .returned (.bool (goodB t i)) ∧ Below w.heap.size w w' := by
  have B0 := Blk.new w 44 #[.string t, .string i]
  have hb0 : Below w.heap.size w (w.alloc (.cells #[.string t, .string i] 44)) := (Below.refl _ _).alloc (Nat.le_refl _) _
  have HT := Aside0.mk (Tabs.below hT hb0)
  clear hT
  obtain ⟨W0, hW0⟩ : ∃ W0, W0 = w.alloc (.cells #[.string t, .string i] 44) := ⟨_, rfl⟩
  unfold goodB
  cases hn : nameB t with
  | false =>
    have HN := Aside0.mk hn
    clear hn B0
    rw [Bool.false_and]
    go_enter Tryd.func26, Tryd.ntmps26
    go_wp2_with (go_at_call 27; refine (name_as false t HN.out ht _).mono ?_; rintro e w1 ⟨rfl, hb1⟩)
    go_ret
    exact ⟨rfl, hb0.trans (hb1.mono hb0.size)⟩
  | true =>
    have HN := Aside0.mk hn
    clear hn
    rw [Bool.true_and]
    cases hd : idB i with
    | _ =>
      have HD := Aside0.mk hd
      clear hd
      go_enter Tryd.func26, Tryd.ntmps26
      go_wp2_with (first
        | (go_at_call 27; refine (name_as true t HN.out ht _).mono ?_; rintro e w1 ⟨rfl, hb1⟩; have c1 := (B0.below hb1).cell 1)
        | (go_at_call 30; refine (id_as _ i HD.out hi _ (Tabs.below HT.out hb1)).mono ?_; rintro e w2 ⟨rfl, hb2⟩))
      go_ret
      exact ⟨rfl, hb0.trans ((hb1.trans (hb2.mono hb1.size)).mono hb0.size)⟩

/-! ### subjects -/
theorem good_as (b : Bool) (t i : ByteArray) (hb : goodB t i = b) (ht : t.size ≤ 9223372036854775807) (hi : i.size ≤ 9223372036854775807) (w : World) (hT : Tabs w) :
    Calls Tryd.prog 26 #[.agg #[.string t, .string i]] w fun e w' => e = .returned (.bool b) ∧ Below w.heap.size w w' := by
  subst hb
  exact good_calls t i ht hi w hT
set_option maxHeartbeats 1000000 in
theorem object_calls (t i r : ByteArray) (w : World) :
    Calls Tryd.prog 34 #[.agg #[.string t, .string i, .string r]] w fun e w' => e = .returned (.agg #[.string t, .string i]) ∧ Below w.heap.size w w' := by
  go_enter Tryd.func34, Tryd.ntmps34
  go_wp2
  exact bodyPost_ret (v := .agg #[.string t, .string i]) (by simp [results, Tryd.results34, go_sem]) rfl ⟨rfl, ((Below.refl _ _).alloc (Nat.le_refl _) _).alloc (by simp) _⟩
def oneB (t i r : ByteArray) : Bool := goodB t i && r.toList.isEmpty
def setB (t i r : ByteArray) : Bool := goodB t i && nameB r
def allB (t i r : ByteArray) : Bool := nameB t && (i.toList == [42]) && r.toList.isEmpty
def subjB (t i r : ByteArray) : Bool := oneB t i r || setB t i r || allB t i r
theorem box_below (w : World) (cs : Array Value) (T : TypeId) : Below w.heap.size w (w.alloc (.cells cs T)) := (Below.refl _ _).alloc (Nat.le_refl _) _
set_option maxHeartbeats 2000000 in
set_option maxRecDepth 100000 in
theorem one_calls (t i r : ByteArray) (ht : t.size ≤ 9223372036854775807) (hi : i.size ≤ 9223372036854775807) (w : World) (hT : Tabs w) :
    Calls Tryd.prog 36 #[.agg #[.string t, .string i, .string r]] w fun e w' => e = .returned (.bool (oneB t i r)) ∧ Below w.heap.size w w' := by
  have B0 := Blk.new w 23 #[.string t, .string i, .string r]
  have hb0 := box_below w #[.string t, .string i, .string r] 23
  have HT := Aside0.mk (Tabs.below hT hb0)
  clear hT
  unfold oneB
  cases hg : goodB t i with
  | false =>
    have HG := Aside0.mk hg
    clear hg B0
    rw [Bool.false_and]
    go_enter Tryd.func36, Tryd.ntmps36
    go_wp2_with (first
      | (go_at_call 34; refine (object_calls t i r _).mono ?_; rintro e w1 ⟨rfl, hb1⟩)
      | (go_at_call 26; refine (good_as false t i HG.out ht hi _ (Tabs.below HT.out hb1)).mono ?_; rintro e w2 ⟨rfl, hb2⟩))
    go_ret
    exact ⟨rfl, hb0.trans ((hb1.trans (hb2.mono hb1.size)).mono hb0.size)⟩
  | true =>
    have HG := Aside0.mk hg
    clear hg
    rw [Bool.true_and]
    go_enter Tryd.func36, Tryd.ntmps36
    go_wp2_with (first
      | (go_at_call 34; refine (object_calls t i r _).mono ?_; rintro e w1 ⟨rfl, hb1⟩)
      | (go_at_call 26; refine (good_as true t i HG.out ht hi _ (Tabs.below HT.out hb1)).mono ?_; rintro e w2 ⟨rfl, hb2⟩; have c2 := ((B0.below hb1).below hb2).cell 2))
    go_ret
    exact ⟨rfl, hb0.trans ((hb1.trans (hb2.mono hb1.size)).mono hb0.size)⟩
set_option maxHeartbeats 2000000 in
set_option maxRecDepth 100000 in
theorem set_calls (t i r : ByteArray) (ht : t.size ≤ 9223372036854775807) (hi : i.size ≤ 9223372036854775807) (hr : r.size ≤ 9223372036854775807) (w : World) (hT : Tabs w) :
    Calls Tryd.prog 22 #[.agg #[.string t, .string i, .string r]] w fun e w' => e = .returned (.bool (setB t i r)) ∧ Below w.heap.size w w' := by
  have B0 := Blk.new w 23 #[.string t, .string i, .string r]
  have hb0 := box_below w #[.string t, .string i, .string r] 23
  have HT := Aside0.mk (Tabs.below hT hb0)
  clear hT
  unfold setB
  cases hg : goodB t i with
  | false =>
    have HG := Aside0.mk hg
    clear hg B0
    rw [Bool.false_and]
    go_enter Tryd.func22, Tryd.ntmps22
    go_wp2_with (first
      | (go_at_call 34; refine (object_calls t i r _).mono ?_; rintro e w1 ⟨rfl, hb1⟩)
      | (go_at_call 26; refine (good_as false t i HG.out ht hi _ (Tabs.below HT.out hb1)).mono ?_; rintro e w2 ⟨rfl, hb2⟩))
    go_ret
    exact ⟨rfl, hb0.trans ((hb1.trans (hb2.mono hb1.size)).mono hb0.size)⟩
  | true =>
    have HG := Aside0.mk hg
    clear hg
    rw [Bool.true_and]
    go_enter Tryd.func22, Tryd.ntmps22
    go_wp2_with (first
      | (go_at_call 34; refine (object_calls t i r _).mono ?_; rintro e w1 ⟨rfl, hb1⟩)
      | (go_at_call 26; refine (good_as true t i HG.out ht hi _ (Tabs.below HT.out hb1)).mono ?_; rintro e w2 ⟨rfl, hb2⟩; have c2 := ((B0.below hb1).below hb2).cell 2)
      | (go_at_call 27; refine (name_as _ r rfl hr _).mono ?_; rintro e w3 ⟨rfl, hb3⟩))
    go_ret
    exact ⟨rfl, hb0.trans (((hb1.trans (hb2.mono hb1.size)).trans (hb3.mono (Nat.le_trans hb1.size hb2.size))).mono hb0.size)⟩
set_option maxHeartbeats 2000000 in
set_option maxRecDepth 100000 in
theorem all_calls (t i r : ByteArray) (ht : t.size ≤ 9223372036854775807) (w : World) :
    Calls Tryd.prog 37 #[.agg #[.string t, .string i, .string r]] w fun e w' => e = .returned (.bool (allB t i r)) ∧ Below w.heap.size w w' := by
  have B0 := Blk.new w 23 #[.string t, .string i, .string r]
  have hb0 := box_below w #[.string t, .string i, .string r] 23
  unfold allB
  cases hn : nameB t with
  | false =>
    have HN := Aside0.mk hn
    clear hn B0
    rw [Bool.false_and, Bool.false_and]
    go_enter Tryd.func37, Tryd.ntmps37
    go_wp2_with (go_at_call 27; refine (name_as false t HN.out ht _).mono ?_; rintro e w1 ⟨rfl, hb1⟩)
    go_ret
    exact ⟨rfl, hb0.trans (hb1.mono hb0.size)⟩
  | true =>
    have HN := Aside0.mk hn
    clear hn
    rw [Bool.true_and]
    cases hs : (i.toList == [42]) with
    | false =>
      rw [Bool.false_and]
      go_enter Tryd.func37, Tryd.ntmps37
      go_wp2_with (go_at_call 27; refine (name_as true t HN.out ht _).mono ?_; rintro e w1 ⟨rfl, hb1⟩; have c1 := (B0.below hb1).cell 1)
      go_ret
      exact ⟨rfl, hb0.trans (hb1.mono hb0.size)⟩
    | true =>
      rw [Bool.true_and]
      go_enter Tryd.func37, Tryd.ntmps37
      go_wp2_with (go_at_call 27; refine (name_as true t HN.out ht _).mono ?_; rintro e w1 ⟨rfl, hb1⟩; have c1 := (B0.below hb1).cell 1; have c2 := (B0.below hb1).cell 2)
      go_ret
      exact ⟨rfl, hb0.trans (hb1.mono hb0.size)⟩
theorem one_as (b : Bool) (t i r : ByteArray) (hb : oneB t i r = b) (ht : t.size ≤ 9223372036854775807) (hi : i.size ≤ 9223372036854775807) (w : World) (hT : Tabs w) :
    Calls Tryd.prog 36 #[.agg #[.string t, .string i, .string r]] w fun e w' => e = .returned (.bool b) ∧ Below w.heap.size w w' := by
  subst hb
  exact one_calls t i r ht hi w hT
theorem set_as (b : Bool) (t i r : ByteArray) (hb : setB t i r = b) (ht : t.size ≤ 9223372036854775807) (hi : i.size ≤ 9223372036854775807) (hr : r.size ≤ 9223372036854775807) (w : World) (hT : Tabs w) :
    Calls Tryd.prog 22 #[.agg #[.string t, .string i, .string r]] w fun e w' => e = .returned (.bool b) ∧ Below w.heap.size w w' := by
  subst hb
  exact set_calls t i r ht hi hr w hT
theorem all_as (b : Bool) (t i r : ByteArray) (hb : allB t i r = b) (ht : t.size ≤ 9223372036854775807) (w : World) :
    Calls Tryd.prog 37 #[.agg #[.string t, .string i, .string r]] w fun e w' => e = .returned (.bool b) ∧ Below w.heap.size w w' := by
  subst hb
  exact all_calls t i r ht w
set_option maxHeartbeats 2000000 in
set_option maxRecDepth 100000 in
theorem subject_calls (t i r : ByteArray) (ht : t.size ≤ 9223372036854775807) (hi : i.size ≤ 9223372036854775807) (hr : r.size ≤ 9223372036854775807) (w : World) (hT : Tabs w) :
    Calls Tryd.prog 28 #[.agg #[.string t, .string i, .string r]] w fun e w' => e = .returned (.bool (subjB t i r)) ∧ Below w.heap.size w w' := by
  have B0 := Blk.new w 23 #[.string t, .string i, .string r]
  have hb0 := box_below w #[.string t, .string i, .string r] 23
  have HT := Aside0.mk (Tabs.below hT hb0)
  clear hT
  unfold subjB
  cases h1 : oneB t i r with
  | true =>
    have H1 := Aside0.mk h1
    clear h1 B0
    rw [Bool.true_or, Bool.true_or]
    go_enter Tryd.func28, Tryd.ntmps28
    go_wp2_with (go_at_call 36; refine (one_as true t i r H1.out ht hi _ HT.out).mono ?_; rintro e w1 ⟨rfl, hb1⟩)
    go_ret
    exact ⟨rfl, hb0.trans (hb1.mono hb0.size)⟩
  | false =>
    have H1 := Aside0.mk h1
    clear h1
    rw [Bool.false_or]
    cases h2 : setB t i r with
    | true =>
      have H2 := Aside0.mk h2
      clear h2
      rw [Bool.true_or]
      go_enter Tryd.func28, Tryd.ntmps28
      go_wp2_with (first
        | (go_at_call 36; refine (one_as false t i r H1.out ht hi _ HT.out).mono ?_; rintro e w1 ⟨rfl, hb1⟩; have c0 := (B0.below hb1).cell 0; have c1 := (B0.below hb1).cell 1; have c2 := (B0.below hb1).cell 2)
        | (go_at_call 22; refine (set_as true t i r H2.out ht hi hr _ (Tabs.below HT.out hb1)).mono ?_; rintro e w2 ⟨rfl, hb2⟩))
      go_ret
      exact ⟨rfl, hb0.trans ((hb1.trans (hb2.mono hb1.size)).mono hb0.size)⟩
    | false =>
      have H2 := Aside0.mk h2
      clear h2
      rw [Bool.false_or]
      go_enter Tryd.func28, Tryd.ntmps28
      go_wp2_with (first
        | (go_at_call 36; refine (one_as false t i r H1.out ht hi _ HT.out).mono ?_; rintro e w1 ⟨rfl, hb1⟩; have c0 := (B0.below hb1).cell 0; have c1 := (B0.below hb1).cell 1; have c2 := (B0.below hb1).cell 2)
        | (go_at_call 22; refine (set_as false t i r H2.out ht hi hr _ (Tabs.below HT.out hb1)).mono ?_; rintro e w2 ⟨rfl, hb2⟩; have d0 := ((B0.below hb1).below hb2).cell 0; have d1 := ((B0.below hb1).below hb2).cell 1; have d2 := ((B0.below hb1).below hb2).cell 2)
        | (go_at_call 37; refine (all_as _ t i r rfl ht _).mono ?_; rintro e w3 ⟨rfl, hb3⟩))
      go_ret
      exact ⟨rfl, hb0.trans (((hb1.trans (hb2.mono hb1.size)).trans (hb3.mono (Nat.le_trans hb1.size hb2.size))).mono hb0.size)⟩
theorem subject_as (b : Bool) (t i r : ByteArray) (hb : subjB t i r = b) (ht : t.size ≤ 9223372036854775807) (hi : i.size ≤ 9223372036854775807) (hr : r.size ≤ 9223372036854775807) (w : World) (hT : Tabs w) :
    Calls Tryd.prog 28 #[.agg #[.string t, .string i, .string r]] w fun e w' => e = .returned (.bool b) ∧ Below w.heap.size w w' := by
  subst hb
  exact subject_calls t i r ht hi hr w hT
end Go.Proofs.YtogafnocejpmdaaDoor.Who
