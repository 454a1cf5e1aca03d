/- The reference's Read of a subject. -/
import Derived.Test.YtogafnocejpmdaaDoorWhs
namespace Go.Proofs.YtogafnocejpmdaaDoor.Who
open Go.RowKit Go.Proofs.YtogafnocejpmdaaDoorW.PrintWords Go.Proofs.YtogafnocejpmdaaDoor.Utf Go.Proofs.YtogafnocejpmdaaDoor.Arr Go.Proofs.YtogafnocejpmdaaDoor.Gly Go.Proofs.YtogafnocejpmdaaDoor.Glr
set_option linter.unusedVariables false
set_option linter.unusedSimpArgs false

structure RRoad (s t q i r : ByteArray) (o1 o2 : Bool) : Prop where mk ::
  cut1 : ∀ w : World, Calls Tryd.prog 24 #[.string s, .int .u8 58] w fun e w' => e = .returned (.tuple #[.string t, .string q, .bool o1]) ∧ Below w.heap.size w w'
  cut2 : ∀ w : World, Calls Tryd.prog 24 #[.string q, .int .u8 35] w fun e w' => e = .returned (.tuple #[.string i, .string r, .bool o2]) ∧ Below w.heap.size w w'
  szT : t.size ≤ 100000000
  szI : i.size ≤ 100000000
  szR : r.size ≤ 100000000
theorem rroad (s : ByteArray) (hs : s.size ≤ 100000000) : RRoad s (cutA s 58) (cutB s 58) (cutA (cutB s 58) 35) (cutB (cutB s 58) 35) (cutOk s 58) (cutOk (cutB s 58) 35) := by
  have s1 := cutA_size s 58
  have s2 := cutB_size s 58
  have s3 := cutA_size (cutB s 58) 35
  have s4 := cutB_size (cutB s 58) 35
  exact ⟨ref_cut_calls s (by omega) 58 58 rfl, ref_cut_calls (cutB s 58) (by omega) 35 35 rfl, by omega, by omega, by omega⟩
theorem kind_as (k : Nat) (t i r : ByteArray) (hk : kindV t i r = k) (ht : t.size ≤ 9223372036854775807) (hi : i.size ≤ 100000000) (hr : r.size ≤ 9223372036854775807) (w : World) :
    Calls Tryd.prog 17 #[.agg #[.string t, .string i, .string r]] w fun e w' => e = .returned (.int .i64 (k : Int)) ∧ Below w.heap.size w w' := by
  subst hk
  exact ref_kind_calls t i r ht hi hr w

set_option maxHeartbeats 4000000 in
set_option maxRecDepth 100000 in
theorem ref_read_walk (s t q i r : ByteArray) (o1 o2 e2 ok : Bool) (R : RRoad s t q i r o1 o2) (k : Nat) (hk : kindV t i r = k) (he : r.toList.isEmpty = e2) (hok : ok = (o1 && (k != 0 && (o2 == !e2)))) (w : World) :
    Calls Tryd.prog 25 #[.string s] w fun e w' => e = .returned (.tuple #[.agg (if ok = true then #[.string t, .string i, .string r] else noCells), .bool ok]) ∧ Below w.heap.size w w' := by
  have HB := Aside0.mk (box_below w noCells 23)
  have RA := Aside0.mk (Blk.new w 23 noCells)
  have HK := Aside0.mk hk
  have RR := Aside0.mk R
  have z1 := R.szT
  have z2 := R.szI
  have z3 := R.szR
  clear R hk
  go_enter Tryd.func25, Tryd.ntmps25
  go_wp2_with fail
  refine (RR.out.cut1 _).mono ?_
  rintro e w1 ⟨rfl, hb1⟩
  have R1 := Aside0.mk (RA.out.below hb1)
  have HB1 := Aside0.mk (HB.out.trans (hb1.mono HB.out.size))
  clear RA HB hb1
  go_wp2_with fail
  refine (RR.out.cut2 _).mono ?_
  rintro e w2 ⟨rfl, hb2⟩
  have R2 := Aside0.mk (R1.out.below hb2)
  have HB2 := Aside0.mk (HB1.out.trans (hb2.mono HB1.out.size))
  have hlt := R2.out.lt
  clear R1 HB1 hb2
  cases o1 with
  | false =>
    rw [Bool.false_and] at hok
    subst hok
    have c0 := R2.out.cell 0
    have c1 := R2.out.cell 1
    have c2 := R2.out.cell 2
    have f0 := R2.out.frozen 0
    have f1 := R2.out.frozen 1
    have f2 := R2.out.frozen 2
    go_wp2
    have E := (((R2.out.set 0 (.string ⟨#[]⟩)).set 1 (.string ⟨#[]⟩)).set 2 (.string ⟨#[]⟩)).alloc (.cells #[.string t, .string i, .string r] 23)
    have e0 := E.cell 0
    have e1 := E.cell 1
    have e2 := E.cell 2
    have HE : Below w.heap.size w (((w2.setCell ⟨w.heap.size, 0, none⟩ (.string ⟨#[]⟩)).setCell ⟨w.heap.size, 1, none⟩ (.string ⟨#[]⟩)).setCell ⟨w.heap.size, 2, none⟩ (.string ⟨#[]⟩)) := ((HB2.out.setCell (by simp) _).setCell (by simp) _).setCell (by simp) _
    exact bodyPost_ret (v := .tuple #[.agg noCells, .bool false]) (by simp [results, Tryd.results25, go_sem, e0, e1, e2]) rfl ⟨rfl, HE.alloc HE.size _⟩
  | true =>
    rw [Bool.true_and] at hok
    have G2 := Aside0.mk (Blk.new w2 23 #[.string t, .string i, .string r])
    have R3 := Aside0.mk (R2.out.alloc (.cells #[.string t, .string i, .string r] 23))
    have HB3 := Aside0.mk (HB2.out.alloc HB2.out.size (.cells #[.string t, .string i, .string r] 23))
    go_wp2_with fail
    refine (kind_as k t i r HK.out (by omega) (by omega) (by omega) _).mono ?_
    rintro e w3 ⟨rfl, hb3⟩
    have G4 := Aside0.mk (G2.out.below hb3)
    have R4 := Aside0.mk (R3.out.below hb3)
    have HB4 := Aside0.mk (HB3.out.trans (hb3.mono HB3.out.size))
    clear G2 R2 R3 HB2 HB3 hb3 hlt
    have c0 := R4.out.cell 0
    have c1 := R4.out.cell 1
    have c2 := R4.out.cell 2
    have f0 := R4.out.frozen 0
    have f1 := R4.out.frozen 1
    have f2 := R4.out.frozen 2
    have g0 := G4.out.cell 0
    have g1 := G4.out.cell 1
    have g2 := G4.out.cell 2
    cases ok with
    | false =>
      have ht : (k = 0) ∨ (k ≠ 0 ∧ o2 = e2) := by
        by_cases h : k = 0
        · exact .inl h
        · refine .inr ⟨h, ?_⟩
          have h2 : (k != 0) = true := by simpa using h
          rw [h2, Bool.true_and] at hok
          revert hok
          clear he
          cases o2 <;> cases e2 <;> simp
      clear hok
      rcases ht with rfl | ⟨h, rfl⟩
      · go_wp2
        have E := ((R4.out.set 0 (.string ⟨#[]⟩)).set 1 (.string ⟨#[]⟩)).set 2 (.string ⟨#[]⟩)
        have e0 := E.cell 0
        have e1 := E.cell 1
        have e2 := E.cell 2
        exact bodyPost_ret (v := .tuple #[.agg noCells, .bool false]) (by simp [results, Tryd.results25, go_sem, e0, e1, e2]) rfl ⟨rfl, ((HB4.out.setCell (by simp) _).setCell (by simp) _).setCell (by simp) _⟩
      · have t0 : ((k : Int) == 0) = false := beq_eq_false_iff_ne.2 (by omega)
        cases o2 with
        | _ =>
          go_wp2
          have E := ((R4.out.set 0 (.string ⟨#[]⟩)).set 1 (.string ⟨#[]⟩)).set 2 (.string ⟨#[]⟩)
          have e0 := E.cell 0
          have e1 := E.cell 1
          have e2 := E.cell 2
          exact bodyPost_ret (v := .tuple #[.agg noCells, .bool false]) (by simp [results, Tryd.results25, go_sem, e0, e1, e2]) rfl ⟨rfl, ((HB4.out.setCell (by simp) _).setCell (by simp) _).setCell (by simp) _⟩
    | true =>
      have ht : k ≠ 0 ∧ o2 = !e2 := by
        simp at hok
        exact ⟨hok.1, hok.2⟩
      clear hok
      obtain ⟨h, rfl⟩ := ht
      have t0 : ((k : Int) == 0) = false := beq_eq_false_iff_ne.2 (by omega)
      cases e2 with
      | _ =>
        go_wp2
        have E := ((R4.out.set 0 (.string t)).set 1 (.string i)).set 2 (.string r)
        have e0 := E.cell 0
        have e1 := E.cell 1
        have e2 := E.cell 2
        exact bodyPost_ret (v := .tuple #[.agg #[.string t, .string i, .string r], .bool true]) (by simp [results, Tryd.results25, go_sem, e0, e1, e2]) rfl ⟨rfl, ((HB4.out.setCell (by simp) _).setCell (by simp) _).setCell (by simp) _⟩
theorem ref_read_calls (s : ByteArray) (hs : s.size ≤ 100000000) (w : World) :
    Calls Tryd.prog 25 #[.string s] w fun e w' => e = .returned (.tuple #[.agg (if readOk s = true then #[.string (cutA s 58), .string (cutA (cutB s 58) 35), .string (cutB (cutB s 58) 35)] else noCells), .bool (readOk s)]) ∧ Below w.heap.size w w' := by
  rw [read_same]
  exact ref_read_walk s _ _ _ _ _ _ _ _ (rroad s hs) _ rfl rfl rfl w
end Go.Proofs.YtogafnocejpmdaaDoor.Who
