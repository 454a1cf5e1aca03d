/- The law KnotFails: its walk. -/
import Derived.Test.YtmilpfccgggmkaaDoorKfb
import Derived.ArgAppend
import Derived.Deep.Upon
namespace Go.Proofs.YtmilpfccgggmkaaDoor.Knt
open Go.RowKit Go.Proofs.YtmilpfccgggmkaaDoorW.PrintWords Go.Proofs.YtmilpfccgggmkaaDoor.Arr
set_option linter.unusedVariables false
set_option linter.unusedSimpArgs false

theorem numP_x (most : Int) (m : List UInt8) : numP most ([120] ++ m) = none := by
  show numR _ most (120 :: m) 0 0 = none
  unfold numR
  rw [if_neg (fun h => absurd h.1 (by decide)), if_pos (.inr (.inl (by decide)))]
section
variable {ops : Array Oper} {rest : List Oper} {o : Oper} {a : Act} {Q : Exit → Act → World → Prop} {w : World}
/-- append(s, x...), s one byte without room, wherever it lies. -/
theorem wp_put_one (hgd : o.guard = none) (sl x : Operand)
    (ho : o.op = .call { callee := .builtin .append, args := #[sl, x], argTypes := #[TB, TB] })
    (g : Nat) (c0 : UInt8) (m l : List UInt8) (hcm : [c0] ++ m = l) (A : Option Addr) (c : Nat) (hs : a.eval sl = .slice (some ⟨g, 0, none⟩) 1 1) (hx : a.eval x = .slice A m.length c)
    (hg : w.cell? ⟨g, 0, none⟩ = some (.int .u8 (c0.toNat : Int))) (hr : ReadsInt w .u8 A m.length (m.map fun b => (b.toNat : Int))) (hbytes : 1 + m.length ≤ 140737488355328)
    (h : ∀ A' c' w', ReadsInt w' .u8 A' l.length (l.map fun b => (b.toNat : Int)) → Below w.heap.size w w' → wpList Tryd.prog ops Q rest (a.put o.dst (.slice A' l.length c')) w') : wpList Tryd.prog ops Q (o :: rest) a w := by
  subst hcm
  obtain ⟨i0, hi, hzz⟩ := Option.map_eq_some_iff.1 infoB
  simp only [Prod.mk.injEq] at hzz
  have e0 : ∀ q : List UInt8, nums .u8 (q.map fun b => (b.toNat : Int)) = Lib.byteCells q := fun q => by simp [nums, Lib.byteCells]
  by_cases hm : m = []
  · subst hm
    have hsrc : Src Tryd.prog i0.size TB (.slice A 0 c) 0 [] w := by
      cases A with
      | none => exact Src.ofNil _ Tryd.underlying27 c
      | some ad => exact Src.ofSlice _ Tryd.underlying27 ad 0 c [] (by simp) (fun j u hj => by simp at hj) (fun u hu => by cases hu)
    have hrun := run_append_nothing (P := Tryd.prog) w TB TB o.type TU i0 Tryd.underlying27 hi (some ⟨g, 0, none⟩) 1 1 (Nat.le_refl _) (.slice A 0 c) hsrc
    refine wpList_plain hgd fun K hK' => ?_
    have hx0 : a.eval x = .slice A 0 c := hx
    unfold Oper.wp
    simp [execOp, ho, resolve, invoke, builtin, hs, hx0, hrun, Result.andThen]
    refine hK' _ _ (h (some ⟨g, 0, none⟩) 1 w ?_ (Below.refl _ _))
    refine ⟨rfl, by simp, fun _ => ⟨_, rfl, fun j hj => ?_⟩⟩
    obtain rfl : j = 0 := by have : j < 1 := hj; omega
    rw [add_plain]
    exact hg
  · have hpos : 0 < m.length := List.length_pos_iff.2 hm
    obtain ⟨ad, hA, hcell⟩ := hr.2.2 hpos
    subst hA
    have hl : (Lib.byteCells m).length = m.length := Lib.byteCells_length m
    refine wpList_append_grows (P := Tryd.prog) w hgd sl x TB ho TU i0 (.int .u8 0) 1 1 Tryd.underlying27 hi hzz.1 hzz.2.1 hzz.2.2 rfl (by omega) (some ⟨g, 0, none⟩) 1 1 [.int .u8 (c0.toNat : Int)] hs (fun h => by cases h) rfl
      (fun b hb j u hj => by
        obtain rfl : (⟨g, 0, none⟩ : Addr) = b := Option.some.inj hb
        have hj1 : j < 1 := (List.getElem?_eq_some_iff.1 hj).1
        obtain rfl : j = 0 := by omega
        rw [add_plain]
        simp at hj
        subst hj
        exact hg) ad m.length c (Lib.byteCells m) hx (by rw [hl, Nat.mul_one])
      (fun j u hj => by
        have hj1 : j < m.length := by rw [← hl]; exact (List.getElem?_eq_some_iff.1 hj).1
        rw [hcell j hj1]
        simp [Lib.byteCells, hj1] at hj
        subst hj
        simp [hj1])
      (fun u hu => by
        obtain ⟨b, _, rfl⟩ := List.mem_map.1 hu
        rfl) (by omega) (by simp only [maxLen]; omega) (by omega) ?_
    intro v1 w1 h1 h2
    have h3 : w1.ownsRow w.heap.size TU 1 v1 (1 + m.length) (nums .u8 (([c0] ++ m).map fun b => (b.toNat : Int))) := by
      rw [e0]
      exact h1
    have e1 : 1 + m.length = (([c0] ++ m).map fun b => (b.toNat : Int)).length := by simp; omega
    rw [e1] at h3
    obtain ⟨A2, c2, rfl, hr2⟩ := own_reads h3
    have e2 : (([c0] ++ m).map fun b => (b.toNat : Int)).length = ([c0] ++ m).length := by rw [List.length_map]
    rw [e2] at hr2
    rw [e2]
    exact h A2 c2 w1 hr2 ⟨h2.os, h2.tape, h2.output, h2.size, fun k hk => h2.block k hk (by simp)⟩
end
set_option maxHeartbeats 16000000 in
set_option maxRecDepth 100000 in
theorem fails_small (A : Option Addr) (c : Nat) (m : List UInt8) (hm : m.length ≤ 3000) (w : World) (hr : ReadsInt w .u8 A m.length (m.map fun b => (b.toNat : Int))) (hP : Pow w) :
    Calls Tryd.prog 5 #[.slice A m.length c] w fun e w' => e = .returned (.bool true) ∧ Below w.heap.size w w' := by
  have t1 : decide ((m.length : Int) > 3000) = false := decide_eq_false (by omega)
  have HR := Aside0.mk hr
  clear hr
  obtain ⟨l, hl⟩ : ∃ l, [120] ++ m = l := ⟨_, rfl⟩
  have hlen : l.length ≤ 140737488355328 := by rw [← hl]; simp; omega
  have HL := Aside0.mk hl
  have NX := Aside0.mk (numP_x 9007199254740992 m)
  rw [hl] at NX
  clear hl
  go_enter Tryd.func5, Tryd.ntmps5
  go_wp2_with fail
  refine (awake_calls w hP).mono ?_
  rintro e w1 ⟨rfl, b1⟩
  have HR1 := Aside0.mk (HR.out.below b1)
  have HB1 := Aside0.mk b1
  clear b1 HR hP
  have kc := Go.Joins.run_convert_bytes_const_at (P := Tryd.prog) w1 TB TU #[.int .u8 120] 1 1 w1.heap.size rfl Tryd.underlying27 Tryd.underlying5
  have hcx : (w1.alloc (.cells #[.int .u8 120] TU (#[Value.int .u8 120].size, #[Value.int .u8 120].size + 1))).cell? ⟨w1.heap.size, 0, none⟩ = some (.int .u8 120) := by
    rw [World.cell?_alloc_mark]
    rfl
  have hbx : Below w1.heap.size w1 (w1.alloc (.cells #[.int .u8 120] TU (#[Value.int .u8 120].size, #[Value.int .u8 120].size + 1))) := (Below.refl _ _).alloc (Nat.le_refl _) _
  have HRX := Aside0.mk (HR1.out.below hbx)
  have HBX := Aside0.mk (HB1.out.trans (hbx.mono HB1.out.size))
  have HCX := Aside0.mk hcx
  clear hcx hbx
  generalize w1.alloc (.cells #[.int .u8 120] TU (#[Value.int .u8 120].size, #[Value.int .u8 120].size + 1)) = wx at *
  go_wp2_with (at_builtin; refine wp_put_one rfl _ _ rfl w1.heap.size 120 m l HL.out A c rfl rfl HCX.out HRX.out (by omega) ?_)
  intro A2 c2 w2 hr2 hb2
  have HB2 := Aside0.mk (HBX.out.trans (hb2.mono HBX.out.size))
  have HR2 := Aside0.mk hr2
  clear hb2 hr2 HB1 HR1 HBX HRX HCX kc
  obtain ⟨n, hn⟩ : ∃ n, l.length = n := ⟨_, rfl⟩
  have KO := Aside0.mk (open_calls A2 c2 l w2 HR2.out)
  rw [hn] at KO
  rw [hn] at hlen
  have HN := Aside0.mk hn
  rw [hn]
  clear HR2 hn
  go_wp2_with fail
  refine KO.out.mono ?_
  rintro e w3 ⟨rfl, rfl⟩
  obtain ⟨g, hg⟩ : ∃ g, w2.heap.size = g := ⟨_, rfl⟩
  have I3 := Aside0.mk (show IBlk (w2.alloc (.cells #[.string (str l), .bool false] TI)) g l false from Blk.newAt hg.symm)
  have HB3 := Aside0.mk (HB2.out.alloc HB2.out.size (.cells #[.string (str l), .bool false] TI))
  have hg2 : w.heap.size ≤ g := by rw [← hg]; exact HB2.out.size
  have HG := Aside0.mk hg
  clear KO HB2
  go_wp2_with fail
  clear HG hg
  generalize w2.alloc (.cells #[.string (str l), .bool false] TI) = w3 at *
  have KN := inum_calls g l (by rw [HN.out]; exact hlen) false 9007199254740992 w3 I3.out
  rw [NX.out] at KN
  refine KN.mono ?_
  rintro e w4 ⟨rfl, i4, o4⟩
  have H4 := Aside0.mk i4
  have HB4 := Aside0.mk (HB3.out.trans (o4.below (B := w.heap.size) HB3.out.size (fun k hk => by simp at hk; omega)))
  clear i4 o4 KN I3 HB3 NX HN
  go_wp2_with fail
  refine (numF_calls g 9007199254740992 w4 H4.out).mono ?_
  rintro e w5 ⟨rfl, hb5⟩
  have H5 := Aside0.mk (H4.out.below hb5)
  have HB5 := Aside0.mk (HB4.out.trans (hb5.mono HB4.out.size))
  clear hb5 H4 HB4
  go_wp2_with fail
  refine (textF_calls g 100 w5 H5.out).mono ?_
  rintro e w6 ⟨rfl, hb6⟩
  have H6 := Aside0.mk (H5.out.below hb6)
  have HB6 := Aside0.mk (HB5.out.trans (hb6.mono HB5.out.size))
  clear hb6 H5 HB5
  go_wp2_with fail
  refine (markF_calls g w6 H6.out).mono ?_
  rintro e w7 ⟨rfl, hb7⟩
  have H7 := Aside0.mk (H6.out.below hb7)
  have HB7 := Aside0.mk (HB6.out.trans (hb7.mono HB6.out.size))
  clear hb7 H6 HB6
  go_wp2_with fail
  refine (subjectF_calls g w7 H7.out).mono ?_
  rintro e w8 ⟨rfl, hb8⟩
  have H8 := Aside0.mk (H7.out.below hb8)
  have HB8 := Aside0.mk (HB7.out.trans (hb8.mono HB7.out.size))
  clear hb8 H7 HB7
  go_wp2_with fail
  refine (tupleF_calls g w8 H8.out).mono ?_
  rintro e w9 ⟨rfl, hb9⟩
  have H9 := Aside0.mk (H8.out.below hb9)
  have HB9 := Aside0.mk (HB8.out.trans (hb9.mono HB8.out.size))
  clear hb9 H8 HB8
  go_wp2_with fail
  refine (tuplesF_calls g 9 w9 H9.out).mono ?_
  rintro e w10 ⟨rfl, hb10⟩
  have H10 := Aside0.mk (H9.out.below hb10)
  have HB10 := Aside0.mk (HB9.out.trans (hb10.mono HB9.out.size))
  clear hb10 H9 HB9
  go_wp2_with fail
  refine (leftF_calls g w10 H10.out).mono ?_
  rintro e w11 ⟨rfl, hb11⟩
  have H11 := Aside0.mk (H10.out.below hb11)
  have HB11 := Aside0.mk (HB10.out.trans (hb11.mono HB10.out.size))
  clear hb11 H10 HB10
  go_wp2_with fail
  refine (endF_calls g w11 H11.out).mono ?_
  rintro e w12 ⟨rfl, hb12⟩
  have H12 := Aside0.mk (H11.out.below hb12)
  have HB12 := Aside0.mk (HB11.out.trans (hb12.mono HB11.out.size))
  clear hb12 H11 HB11
  go_wp2
  go_ret
  exact ⟨rfl, HB12.out⟩
set_option maxHeartbeats 4000000 in
theorem lawFails_calls (A : Option Addr) (c : Nat) (m : List UInt8) (w : World) (hr : ReadsInt w .u8 A m.length (m.map fun b => (b.toNat : Int))) (hP : Pow w) :
    Calls Tryd.prog 5 #[.slice A m.length c] w fun e w' => e = .returned (.bool true) ∧ Below w.heap.size w w' := by
  by_cases hm : m.length ≤ 3000
  · exact fails_small A c m hm w hr hP
  have t1 : decide ((m.length : Int) > 3000) = true := decide_eq_true (by omega)
  have PB := Aside0.mk (Lib.tabBelow_of_tabIs hP : PowB w.heap.size w)
  clear hr hP hm
  have HB0 := Aside0.mk (Below.refl w.heap.size w)
  go_enter Tryd.func5, Tryd.ntmps5
  (go_wp2_with fail; refine (awake_calls w PB.out.here).mono ?_; rintro e w1 ⟨rfl, hb1⟩; have HB1 := Aside0.mk (HB0.out.trans (hb1.mono HB0.out.size)); clear hb1)
  (go_wp2_with fail; refine (awake_calls w1 (PB.out.on HB1.out).here).mono ?_; rintro e w2 ⟨rfl, hb2⟩; have HB2 := Aside0.mk (HB1.out.trans (hb2.mono HB1.out.size)); clear hb2)
  go_wp2
  go_ret
  exact ⟨rfl, HB2.out⟩
theorem bytes_of_ints {l : List Int} (hb : ∀ x ∈ l, 0 ≤ x ∧ x < 256) : ∃ m : List UInt8, m.length = l.length ∧ (m.map fun b => (b.toNat : Int)) = l := by
  induction l with
  | nil => exact ⟨[], rfl, rfl⟩
  | cons x l ih =>
    obtain ⟨m, h1, h2⟩ := ih fun y hy => hb y (List.mem_cons_of_mem _ hy)
    obtain ⟨h3, h4⟩ := hb x (List.mem_cons_self ..)
    refine ⟨UInt8.ofNat x.toNat :: m, by simp [h1], ?_⟩
    simp only [List.map_cons, h2, List.cons.injEq, and_true]
    rw [UInt8.toNat_ofNat']
    omega
theorem lawFails_bytes (A : Option Addr) (c : Nat) (l : List Int) (w : World) (hr : ReadsInt w .u8 A l.length l) (hb : ∀ x ∈ l, 0 ≤ x ∧ x < 256) (hP : Pow w) :
    Calls Tryd.prog 5 #[.slice A l.length c] w fun e w' => e = .returned (.bool true) ∧ Below w.heap.size w w' := by
  obtain ⟨m, h1, h2⟩ := bytes_of_ints hb
  rw [← h1]
  refine lawFails_calls A c m w ?_ hP
  rw [h2, h1]
  exact hr
end Go.Proofs.YtmilpfccgggmkaaDoor.Knt
