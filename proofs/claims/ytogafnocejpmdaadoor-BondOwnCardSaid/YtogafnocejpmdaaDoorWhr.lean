/- The program's layer who: Text, Of, Read, ReadObject. -/
import Derived.Test.YtogafnocejpmdaaDoorWho
namespace Go.Proofs.YtogafnocejpmdaaDoor.Who
open Go.RowKit Go.Proofs.YtogafnocejpmdaaDoorW.PrintWords Go.Proofs.YtogafnocejpmdaaDoor.Utf Go.Proofs.YtogafnocejpmdaaDoor.Arr Go.Proofs.YtogafnocejpmdaaDoor.Gly
set_option linter.unusedVariables false
set_option linter.unusedSimpArgs false

def textV (t i r : ByteArray) : ByteArray := if r.toList = [] then (t ++ one 58) ++ i else ((t ++ one 58) ++ i) ++ (one 35 ++ r)
theorem ret_str {a b : ByteArray} (h : a = b) : Ending.returned (.string a) = .returned (.string b) := by rw [h]
theorem isEmpty_of {l : List UInt8} (h : l ≠ []) : l.isEmpty = false := by
  cases l with
  | nil => exact absurd rfl h
  | cons _ _ => rfl
set_option maxHeartbeats 2000000 in
set_option maxRecDepth 100000 in
theorem text_calls (t i r : ByteArray) (hs : t.size + i.size + r.size ≤ 1000000000000000000) (w : World) :
    Calls Tryd.prog 18 #[.agg #[.string t, .string i, .string r]] w fun e w' => e = .returned (.string (textV t i r)) ∧ Below w.heap.size w w' := by
  have z1 : (t ++ one 58).size = t.size + 1 := by rw [ByteArray.size_append, one_size]
  have z2 : ((t ++ one 58) ++ i).size = t.size + 1 + i.size := by rw [ByteArray.size_append, z1]
  have z3 : (one 35 ++ r).size = 1 + r.size := by rw [ByteArray.size_append, one_size]
  unfold one at z1 z2 z3
  have b1 : ¬ 9223372036854775807 < t.size + 1 := by omega
  have b2 : ¬ 9223372036854775807 < t.size + 1 + i.size := by omega
  have b3 : ¬ 9223372036854775807 < 1 + r.size := by omega
  have b4 : ¬ 9223372036854775807 < t.size + 1 + i.size + (1 + r.size) := by omega
  unfold textV
  by_cases h : r.toList = []
  · have h2 : r.toList.isEmpty = true := by rw [h]; rfl
    rw [if_pos h]
    have H := Aside0.mk h
    go_enter Tryd.func18, Tryd.ntmps18
    go_wp2
    go_ret
    exact ⟨rfl, box_below _ _ _⟩
  · have h2 : r.toList.isEmpty = false := isEmpty_of h
    rw [if_neg h]
    go_enter Tryd.func18, Tryd.ntmps18
    go_wp2
    go_ret
    exact ⟨rfl, box_below _ _ _⟩

def readOk (s : ByteArray) : Bool := subjB (cutA s 58) (cutA (cutB s 58) 35) (cutB (cutB s 58) 35) && ((textV (cutA s 58) (cutA (cutB s 58) 35) (cutB (cutB s 58) 35)).toList == s.toList)
theorem list_ne {a b : List UInt8} (h : (a == b) = false) : (a != b) = true := by simp [bne, h]
theorem list_eq {a b : List UInt8} (h : (a == b) = true) : (a != b) = false := by simp [bne, h]
/-- The empty subject, as a block's cells. -/
abbrev noCells : Array Value := #[.string ⟨#[]⟩, .string ⟨#[]⟩, .string ⟨#[]⟩]

/-- The road up to the test. -/
structure Road (s t q i r : ByteArray) : Prop where mk ::
  cut1 : ∀ w : World, Calls Tryd.prog 33 #[.string s, .int .i32 58] w fun e w' => e = .returned (.tuple #[.string t, .string q]) ∧ Below w.heap.size w w'
  cut2 : ∀ w : World, Calls Tryd.prog 33 #[.string q, .int .i32 35] w fun e w' => e = .returned (.tuple #[.string i, .string r]) ∧ Below w.heap.size w w'
  szT : t.size ≤ 1000000000000
  szI : i.size ≤ 1000000000000
  szR : r.size ≤ 1000000000000
theorem road (s : ByteArray) (hs : s.size ≤ 1000000000000) : Road s (cutA s 58) (cutB s 58) (cutA (cutB s 58) 35) (cutB (cutB s 58) 35) := by
  have s1 := cutA_size s 58
  have s2 := cutB_size s 58
  have s3 := cutA_size (cutB s 58) 35
  have s4 := cutB_size (cutB s 58) 35
  exact ⟨split_calls s (by omega) 58 58 rfl (by decide), split_calls (cutB s 58) (by omega) 35 35 rfl (by decide), by omega, by omega, by omega⟩

set_option maxHeartbeats 4000000 in
set_option maxRecDepth 100000 in
theorem read_walk (s t q i r : ByteArray) (R : Road s t q i r) (b1 b2 ok : Bool) (h1 : subjB t i r = b1) (h2 : b1 = true → ((textV t i r).toList == s.toList) = b2) (hok : ok = (b1 && b2)) (w : World) (hT : Tabs w) :
    Calls Tryd.prog 21 #[.string s] w fun e w' => e = .returned (.tuple #[.agg (if ok = true then #[.string t, .string i, .string r] else noCells), .int .i64 (if ok = true then 0 else 2)]) ∧ Below w.heap.size w w' := by
  have HT := Aside0.mk hT
  have H1 := Aside0.mk h1
  have H2 := Aside0.mk h2
  have RR := Aside0.mk R
  have z1 := R.szT
  have z2 := R.szI
  have z3 := R.szR
  clear hT h1 h2 R
  go_enter Tryd.func21, Tryd.ntmps21
  go_wp2_with fail
  have hb0 : Below w.heap.size w ((w.alloc (.cells noCells 23)).alloc (.cells noCells 23)) := ((Below.refl _ _).alloc (Nat.le_refl _) _).alloc (by simp) _
  have R1 : Blk ((w.alloc (.cells noCells 23)).alloc (.cells noCells 23)) w.heap.size 23 noCells := (Blk.new w _ _).alloc _
  have G1 : Blk ((w.alloc (.cells noCells 23)).alloc (.cells noCells 23)) (w.heap.size + 1) 23 noCells := Blk.newAt (by simp)
  have RA := Aside0.mk R1
  have GA := Aside0.mk G1
  have HB := Aside0.mk hb0
  clear R1 G1 hb0
  refine (RR.out.cut1 _).mono ?_
  rintro e w1 ⟨rfl, hb1⟩
  have RB := Aside0.mk (RA.out.below hb1)
  have GB := Aside0.mk (GA.out.below hb1)
  have HB1 := Aside0.mk (HB.out.trans (hb1.mono HB.out.size))
  clear RA GA HB hb1
  have c0 := GB.out.cell 0
  have f0 := GB.out.frozen 0
  go_wp2_with fail
  have hb2 : Below w.heap.size w (w1.setCell ⟨w.heap.size + 1, 0, none⟩ (.string t)) := HB1.out.setCell (by simp) _
  have RC := Aside0.mk (RB.out.far (p := ⟨w.heap.size + 1, 0, none⟩) (by simp) (.string t))
  have GC := Aside0.mk (GB.out.set 0 (.string t))
  have HB2 := Aside0.mk hb2
  clear hb2 RB GB HB1 c0 f0
  refine (RR.out.cut2 _).mono ?_
  rintro e w2 ⟨rfl, hb3⟩
  have RD := Aside0.mk (RC.out.below hb3)
  have GD := Aside0.mk (GC.out.below hb3)
  have HB3 := Aside0.mk (HB2.out.trans (hb3.mono HB2.out.size))
  clear RC GC HB2 hb3
  have c1 := GD.out.cell 1
  have f1 := GD.out.frozen 1
  have GE := Aside0.mk (GD.out.set 1 (.string i))
  have c2 := GE.out.cell 2
  have f2 := GE.out.frozen 2
  have d0 := (GE.out.set 2 (.string r)).cell 0
  have d1 := (GE.out.set 2 (.string r)).cell 1
  have d2 := (GE.out.set 2 (.string r)).cell 2
  go_wp2_with fail
  obtain ⟨w3, hw3⟩ : ∃ w3, w3 = (w2.setCell ⟨w.heap.size + 1, 1, none⟩ (.string i)).setCell ⟨w.heap.size + 1, 2, none⟩ (.string r) := ⟨_, rfl⟩
  have GF : Blk w3 (w.heap.size + 1) 23 #[.string t, .string i, .string r] := by rw [hw3]; exact GE.out.set 2 (.string r)
  have RF : Blk w3 w.heap.size 23 noCells := by rw [hw3]; exact (RD.out.far (p := ⟨w.heap.size + 1, 1, none⟩) (by simp) (.string i)).far (p := ⟨w.heap.size + 1, 2, none⟩) (by simp) (.string r)
  have HBF : Below w.heap.size w w3 := by rw [hw3]; exact (HB3.out.setCell (by simp) _).setCell (by simp) _
  rw [← hw3]
  have G := Aside0.mk GF
  have R := Aside0.mk RF
  have HB := Aside0.mk HBF
  clear c1 f1 GE c2 f2 d0 d1 d2 GD RD HB3 hw3 GF RF HBF RR w2 w1
  refine (subject_as b1 t i r H1.out (by omega) (by omega) (by omega) _ (Tabs.below HT.out HB.out)).mono ?_
  rintro e w4 ⟨rfl, hb4⟩
  have G4 := Aside0.mk (G.out.below hb4)
  have R4 := Aside0.mk (R.out.below hb4)
  have HB4 := Aside0.mk (HB.out.trans (hb4.mono HB.out.size))
  clear G R HB hb4
  cases b1 with
  | false =>
    rw [Bool.false_and] at hok
    subst hok
    have c0 := R4.out.cell 0
    have c1 := R4.out.cell 1
    have c2 := R4.out.cell 2
    have f0 := R4.out.frozen 0
    have f1 := R4.out.frozen 1
    have f2 := R4.out.frozen 2
    go_wp2
    have E := ((R4.out.set 0 (.string ⟨#[]⟩)).set 1 (.string ⟨#[]⟩)).set 2 (.string ⟨#[]⟩)
    have e0 := E.cell 0
    have e1 := E.cell 1
    have e2 := E.cell 2
    exact bodyPost_ret (v := .tuple #[.agg noCells, .int .i64 2]) (by simp [results, Tryd.results21, go_sem, e0, e1, e2]) rfl ⟨rfl, ((HB4.out.setCell (by simp) _).setCell (by simp) _).setCell (by simp) _⟩
  | true =>
    rw [Bool.true_and] at hok
    subst hok
    have k2 := H2.out rfl
    have K2 := Aside0.mk k2
    have c0 := G4.out.cell 0
    have c1 := G4.out.cell 1
    have c2 := G4.out.cell 2
    clear k2 H2
    go_wp2_with fail
    refine (text_calls t i r (by omega) _).mono ?_
    rintro e w5 ⟨rfl, hb5⟩
    have G5 := Aside0.mk (G4.out.below hb5)
    have R5 := Aside0.mk (R4.out.below hb5)
    have HB5 := Aside0.mk (HB4.out.trans (hb5.mono HB4.out.size))
    clear G4 R4 HB4 hb5 c0 c1 c2
    have c0 := R5.out.cell 0
    have c1 := R5.out.cell 1
    have c2 := R5.out.cell 2
    have f0 := R5.out.frozen 0
    have f1 := R5.out.frozen 1
    have f2 := R5.out.frozen 2
    cases ok with
    | false =>
      have t1 := K2.out
      have t2 := list_ne K2.out
      go_wp2
      have E := ((R5.out.set 0 (.string ⟨#[]⟩)).set 1 (.string ⟨#[]⟩)).set 2 (.string ⟨#[]⟩)
      have e0 := E.cell 0
      have e1 := E.cell 1
      have e2 := E.cell 2
      exact bodyPost_ret (v := .tuple #[.agg noCells, .int .i64 2]) (by simp [results, Tryd.results21, go_sem, e0, e1, e2]) rfl ⟨rfl, ((HB5.out.setCell (by simp) _).setCell (by simp) _).setCell (by simp) _⟩
    | true =>
      have t1 := K2.out
      have t2 := list_eq K2.out
      have g0 := G5.out.cell 0
      have g1 := G5.out.cell 1
      have g2 := G5.out.cell 2
      go_wp2
      have E := ((R5.out.set 0 (.string t)).set 1 (.string i)).set 2 (.string r)
      have e0 := E.cell 0
      have e1 := E.cell 1
      have e2 := E.cell 2
      exact bodyPost_ret (v := .tuple #[.agg #[.string t, .string i, .string r], .int .i64 0]) (by simp [results, Tryd.results21, go_sem, e0, e1, e2]) rfl ⟨rfl, ((HB5.out.setCell (by simp) _).setCell (by simp) _).setCell (by simp) _⟩
theorem read_calls (s : ByteArray) (hs : s.size ≤ 1000000000000) (w : World) (hT : Tabs w) :
    Calls Tryd.prog 21 #[.string s] w fun e w' => e = .returned (.tuple #[.agg (if readOk s = true then #[.string (cutA s 58), .string (cutA (cutB s 58) 35), .string (cutB (cutB s 58) 35)] else noCells), .int .i64 (if readOk s = true then 0 else 2)]) ∧ Below w.heap.size w w' :=
  read_walk s _ _ _ _ (road s hs) _ _ _ rfl (fun _ => rfl) rfl w hT
theorem read_yes (s t i r : ByteArray) (hs : s.size ≤ 1000000000000) (h : readOk s = true) (ht : cutA s 58 = t) (hi : cutA (cutB s 58) 35 = i) (hr : cutB (cutB s 58) 35 = r) (w : World) (hT : Tabs w) :
    Calls Tryd.prog 21 #[.string s] w fun e w' => e = .returned (.tuple #[.agg #[.string t, .string i, .string r], .int .i64 0]) ∧ Below w.heap.size w w' := by
  have := read_calls s hs w hT
  rwa [h, if_pos rfl, if_pos rfl, ht, hi, hr] at this
theorem read_no (s : ByteArray) (hs : s.size ≤ 1000000000000) (h : readOk s = false) (w : World) (hT : Tabs w) :
    Calls Tryd.prog 21 #[.string s] w fun e w' => e = .returned (.tuple #[.agg noCells, .int .i64 2]) ∧ Below w.heap.size w w' := by
  have := read_calls s hs w hT
  rwa [h, if_neg (by decide), if_neg (by decide)] at this

set_option maxHeartbeats 2000000 in
set_option maxRecDepth 100000 in
theorem of_calls (t i r : ByteArray) (w : World) :
    Calls Tryd.prog 19 #[.agg #[.string t, .string i], .string r] w fun e w' => e = .returned (.agg #[.string t, .string i, .string r]) ∧ Below w.heap.size w w' := by
  go_enter Tryd.func19, Tryd.ntmps19
  go_wp2
  exact bodyPost_ret (v := .agg #[.string t, .string i, .string r]) (by simp [results, Tryd.results19, go_sem]) rfl ⟨rfl, ((Below.refl _ _).alloc (Nat.le_refl _) _).alloc (by simp) _⟩
end Go.Proofs.YtogafnocejpmdaaDoor.Who
