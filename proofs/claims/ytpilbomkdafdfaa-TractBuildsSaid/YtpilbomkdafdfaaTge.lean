/- The program's tract: Good. -/
import Derived.Test.YtpilbomkdafdfaaTgd
namespace Go.Proofs.Ytpilbomkdafdfaa.Tra
open Go.RowKit Go.Proofs.YtpilbomkdafdfaaW.PrintWords Go.Proofs.YtpilbomkdafdfaaW.PrintLast Go.Proofs.YtpilbomkdafdfaaW.PrintMore Go.Proofs.Ytpilbomkdafdfaa.Arr Go.Proofs.Ytpilbomkdafdfaa.Utf Go.Proofs.Ytpilbomkdafdfaa.PTractRefs
set_option linter.unusedVariables false
set_option linter.unusedSimpArgs false

def okAt (n0 : Int) (j : Nat) (s : ByteArray) : Bool := if (j : Int) < n0 then wordB s else noB s
def pr (a b : ByteArray) (j : Nat) : ByteArray := if j = 0 then a else b
def upOk (n0 : Int) (a b : ByteArray) : Nat → Bool
  | 0 => true
  | j + 1 => upOk n0 a b j && okAt n0 j (pr a b j)
theorem upOk_bad (n0 : Int) (a b : ByteArray) (j : Nat) (hj : j < 2) (h : okAt n0 j (pr a b j) = false) : upOk n0 a b 2 = false := by
  match j, hj with
  | 0, _ => simp [upOk, h]
  | 1, _ => simp [upOk, h]
theorem pr_index (a b : ByteArray) (j : Nat) (hj : j < 2) : ∀ w, (Instr.index 64 (.agg #[.string a, .string b]) (.int .i64 (j : Int))).run Try.prog w = .ok (.string (pr a b j)) w := by
  match j, hj with
  | 0, _ => intro w; rfl
  | 1, _ => intro w; rfl
def preB (n0 l0 m0 : Int) (ok0 : Bool) (x : S24) : Bool := ok0 && (decide (l0 ≤ (x.f3.length : Int)) && (decide ((x.f3.length : Int) ≤ m0) && (upOk n0 x.f1 x.f2 2 && goodL x.f3)))
theorem empty_of (s : ByteArray) : (noB s = true ∧ s.toList = [] ∧ s.toList.isEmpty = true) ∨ (noB s = false ∧ ¬ s.toList = [] ∧ s.toList.isEmpty = false) := by
  unfold noB
  cases h : s.toList with
  | nil => exact .inl ⟨rfl, rfl, rfl⟩
  | cons c l => exact .inr ⟨rfl, by simp, rfl⟩
set_option maxHeartbeats 8000000 in
set_option maxRecDepth 100000 in
theorem good_walk (x : S24) (hx : ∀ y, y ∈ x.f3 → GoodAt y) (ha : x.f1.size ≤ 9223372036854775807) (hb : x.f2.size ≤ 9223372036854775807) (n0 l0 m0 : Int) (ok0 : Bool) (k : Nat) (hn : tract_names.f k x.f0 = some (n0, l0, m0, ok0))
    (A : Option Addr) (c : Nat) (w : World) (hC : Kd.C k24 w A x.f3.length x.f3) (hc : x.f3.length ≤ c) :
    Calls Try.prog 17 #[.agg (nodeA x A c)] w fun e w' => e = .returned (.bool (preB n0 l0 m0 ok0 x)) ∧ Below w.heap.size w w' := by
  have b0 : Below w.heap.size w (w.alloc (.cells (nodeA x A c) TN)) := (Below.refl _ _).alloc (Nat.le_refl _) _
  have B0 := Aside0.mk b0
  obtain ⟨W0, hW0⟩ : ∃ W0, w.alloc (.cells (nodeA x A c) TN) = W0 := ⟨_, rfl⟩
  have hR : Blk W0 w.heap.size TN (nodeA x A c) := by rw [← hW0]; exact Blk.new _ _ _
  rw [hW0] at B0
  have R0 := Aside0.mk hR
  have HC := Aside0.mk hC
  have HX := Aside0.mk hx
  have HN := Aside0.mk hn
  have HA := Aside0.mk ha
  have HB := Aside0.mk hb
  have HPRE := Aside0.mk (rfl : preB n0 l0 m0 ok0 x = preB n0 l0 m0 ok0 x)
  obtain ⟨res, hres⟩ : ∃ res, preB n0 l0 m0 ok0 x = res := ⟨_, rfl⟩
  rw [hres]
  have HRES := Aside0.mk hres
  have c0 := hR.cell 0
  have cl := hR.lt
  clear hC hx hn ha hb hR hres b0
  go_enter Try.func17, Try.ntmps17
  go_wp2_with fail
  clear hW0 c0
  refine (tract_names.calls k x.f0 n0 l0 m0 ok0 W0 HN.out).mono ?_
  rintro e w1 ⟨rfl, nd, rfl⟩
  have R1 := R0.out.drewN nd
  have R1' := Aside0.mk R1
  have B1 := Aside0.mk (pw_below_drewN B0.out nd)
  have c3 := R1.cell 3
  have c1 := R1.cell 1
  have c2 := R1.cell 2
  have cl1 := R1.lt
  clear R1 cl
  cases ok0 with
  | false =>
    have hr : res = false := by rw [← HRES.out]; rfl
    subst hr
    go_wp2
    go_ret
    exact ⟨rfl, B1.out⟩
  | true =>
    by_cases h1 : (x.f3.length : Int) < l0
    · have hr : res = false := by rw [← HRES.out]; unfold preB; rw [decide_eq_false (by omega)]; rfl
      subst hr
      have t1 : decide ((x.f3.length : Int) < l0) = true := decide_eq_true h1
      go_wp2
      go_ret
      exact ⟨rfl, B1.out⟩
    have t1 : decide ((x.f3.length : Int) < l0) = false := decide_eq_false h1
    by_cases h2 : (x.f3.length : Int) > m0
    · have hr : res = false := by rw [← HRES.out]; unfold preB; rw [decide_eq_false (show ¬ (x.f3.length : Int) ≤ m0 by omega)]; simp
      subst hr
      have t2 : decide ((x.f3.length : Int) > m0) = true := decide_eq_true h2
      go_wp2
      go_ret
      exact ⟨rfl, B1.out⟩
    have t2 : decide ((x.f3.length : Int) > m0) = false := decide_eq_false h2
    have HE := Aside0.mk (show (upOk n0 x.f1 x.f2 2 && goodL x.f3) = res by rw [← HRES.out]; unfold preB; rw [decide_eq_true (show l0 ≤ (x.f3.length : Int) by omega), decide_eq_true (show (x.f3.length : Int) ≤ m0 by omega)]; rfl)
    go_wp2
    clear c1 c2 c3 cl1 t1 t2
    go_loopw [38] (fun v38 wr => ∃ j : Nat, v38 = .int .i64 (j : Int) ∧ Aside0 (j ≤ 2) ∧ Aside0 (upOk n0 x.f1 x.f2 j = true) ∧ Aside0 (Blk wr w.heap.size TN (nodeA x A c)) ∧ Aside0 (Below w.heap.size w wr)) (fun v38 _ => 2 - (intOf v38).toNat)
    case atStart => exact ⟨0, rfl, ⟨by omega⟩, ⟨rfl⟩, R1', B1⟩
    case round =>
      clear R1' B1
      obtain ⟨j, rfl, hj, hup, hR, hb⟩ := hrel
      by_cases hj2 : j < 2
      · have d1 : decide ((j : Int) < 2) = true := decide_eq_true (by omega)
        have hix := pr_index x.f1 x.f2 j hj2
        have hbad := upOk_bad n0 x.f1 x.f2 j hj2
        have hgo : upOk n0 x.f1 x.f2 (j + 1) = okAt n0 j (pr x.f1 x.f2 j) := by simp only [upOk]; rw [hup.out]; rfl
        have hps : (pr x.f1 x.f2 j).size ≤ 9223372036854775807 := by unfold pr; split; exact HA.out; exact HB.out
        obtain ⟨s, hs⟩ : ∃ s, pr x.f1 x.f2 j = s := ⟨_, rfl⟩
        rw [hs] at hix hbad hgo hps
        have HBAD := Aside0.mk hbad
        have HGO := Aside0.mk hgo
        have hw : IntKind.i64.wrap ((j : Int) + 1) = ((j + 1 : Nat) : Int) := by rw [show ((j : Int) + 1) = ((j + 1 : Nat) : Int) by omega]; exact IntWalk.i64_in _ (by omega)
        clear hbad hgo hs
        by_cases hjn : (j : Int) < n0
        · have d2 : decide ((j : Int) < n0) = true := decide_eq_true hjn
          have d3 : decide ((j : Int) ≥ n0) = false := decide_eq_false (by omega)
          have hok : okAt n0 j s = wordB s := if_pos hjn
          cases hwd : wordB s with
          | false =>
            have hr : res = false := by rw [← HE.out, HBAD.out (by rw [hok, hwd])]; rfl
            subst hr
            have KW := Aside0.mk (word_as false s hwd hps wr)
            clear hok hwd
            go_wp2_with fail
            refine KW.out.mono ?_
            rintro e w2 ⟨rfl, b2⟩
            have B2 := Aside0.mk (hb.out.trans (b2.mono hb.out.size))
            clear b2 KW
            go_wp2
            go_ret
            exact ⟨rfl, B2.out⟩
          | true =>
            have HU := Aside0.mk (show upOk n0 x.f1 x.f2 (j + 1) = true by rw [HGO.out, hok, hwd])
            have KW := Aside0.mk (word_as true s hwd hps wr)
            clear hok hwd
            go_wp2_with fail
            refine KW.out.mono ?_
            rintro e w2 ⟨rfl, b2⟩
            have B2 := Aside0.mk (hb.out.trans (b2.mono hb.out.size))
            have R2 := Aside0.mk (hR.out.below b2)
            clear b2 KW
            go_wp2
            go_roundw
            case rel => exact ⟨j + 1, by first | rfl | (rw [hw]) | go_num | simp [hw], ⟨by omega⟩, HU, R2, B2⟩
            case measure => simp [intOf, hw]; omega
        · have d2 : decide ((j : Int) < n0) = false := decide_eq_false hjn
          have d3 : decide ((j : Int) ≥ n0) = true := decide_eq_true (by omega)
          have hok : okAt n0 j s = noB s := if_neg hjn
          rcases empty_of s with ⟨hwd, s1, s2⟩ | ⟨hwd, s1, s2⟩
          · have HU := Aside0.mk (show upOk n0 x.f1 x.f2 (j + 1) = true by rw [HGO.out, hok, hwd])
            have s3 : (!s.toList.isEmpty) = false := by rw [s2]; rfl
            clear hok hwd
            go_wp2
            go_roundw
            case rel => exact ⟨j + 1, by first | rfl | (rw [hw]) | go_num | simp [hw], ⟨by omega⟩, HU, hR, hb⟩
            case measure => simp [intOf, hw]; omega
          · have hr : res = false := by rw [← HE.out, HBAD.out (by rw [hok, hwd])]; rfl
            subst hr
            have s3 : (!s.toList.isEmpty) = true := by rw [s2]; rfl
            clear hok hwd
            go_wp2
            go_ret
            exact ⟨rfl, hb.out⟩
      · have d1 : decide ((j : Int) < 2) = false := decide_eq_false (by omega)
        have e1 : j = 2 := by have := hj.out; omega
        subst e1
        have hr : goodL x.f3 = res := by have := HE.out; rw [hup.out] at this; exact this
        have HR2 := Aside0.mk hr
        have c3 := hR.out.cell 3
        have cl := hR.out.lt
        have KC := Aside0.mk (contains_calls x.f3 HX.out A c wr (Kd.C_below HC.out hb.out) hc)
        rw [hr] at KC
        clear hr
        go_wp2_with fail
        refine KC.out.mono ?_
        rintro e w2 ⟨rfl, b2⟩
        have B2 := Aside0.mk (hb.out.trans (b2.mono hb.out.size))
        clear b2 KC
        go_wp2
        go_ret
        exact ⟨by first | rfl | simp, B2.out⟩
theorem names_f (k : Int) : ∃ n0 l0 m0 ok0, tract_names.f 1 k = some (n0, l0, m0, ok0) ∧
    ∀ (a b : ByteArray) (l : List S24), l.length ≤ 1073741824 → preB n0 l0 m0 ok0 ⟨k, a, b, l⟩ = goodB ⟨k, a, b, l⟩ := by
  have e0 : ∀ l : List S24, decide ((l.length : Int) ≤ 0) = (l.length == 0) := fun l => by rw [Bool.eq_iff_iff]; simp
  have e1 : ∀ l : List S24, decide ((0 : Int) ≤ (l.length : Int)) = true := fun l => decide_eq_true (by omega)
  by_cases h1 : k = 1
  · subst h1
    refine ⟨0, 0, 0, true, rfl, fun a b l hl => ?_⟩
    simp only [preB, goodB, shapeB, upOk, okAt, pr, e0, e1]
    simp
    cases goodL l <;> cases noB a <;> cases noB b <;> simp
  by_cases h2 : k = 2
  · subst h2
    refine ⟨1, 0, 0, true, rfl, fun a b l hl => ?_⟩
    simp only [preB, goodB, shapeB, upOk, okAt, pr, e0, e1]
    simp
    cases goodL l <;> cases wordB a <;> cases noB b <;> simp
  by_cases h3 : k = 3
  · subst h3
    refine ⟨2, 0, 0, true, rfl, fun a b l hl => ?_⟩
    simp only [preB, goodB, shapeB, upOk, okAt, pr, e0, e1]
    simp
    cases goodL l <;> cases wordB a <;> cases wordB b <;> simp
  by_cases h45 : k = 4 ∨ k = 5
  · refine ⟨0, 2, 1073741824, true, ?_, fun a b l hl => ?_⟩
    · rcases h45 with rfl | rfl <;> rfl
    have e3 : decide ((2 : Int) ≤ (l.length : Int)) = decide (2 ≤ l.length) := by rw [decide_eq_decide]; omega
    have e4 : decide ((l.length : Int) ≤ 1073741824) = true := decide_eq_true (by omega)
    simp only [preB, goodB, shapeB, upOk, okAt, pr, e3, e4]
    rw [if_neg h1, if_neg h2, if_neg h3, if_pos h45]
    simp
    cases goodL l <;> cases noB a <;> cases noB b <;> simp
  by_cases h6 : k = 6
  · subst h6
    refine ⟨0, 2, 2, true, rfl, fun a b l hl => ?_⟩
    have e3 : (decide ((2 : Int) ≤ (l.length : Int)) && decide ((l.length : Int) ≤ 2)) = (l.length == 2) := by rw [Bool.eq_iff_iff]; simp; omega
    simp only [preB, goodB, shapeB, upOk, okAt, pr]
    rw [← Bool.and_assoc (decide _) (decide _), e3]
    simp
    cases goodL l <;> cases noB a <;> cases noB b <;> simp
  · refine ⟨0, 0, 0, false, ?_, fun a b l hl => ?_⟩
    · have e4 : ¬ k = 4 := fun h => h45 (.inl h)
      have e5 : (k == 5) = false := beq_eq_false_iff_ne.2 fun h => h45 (.inr h)
      unfold tract_names.f
      rw [if_neg h1, if_neg h2, if_neg h3, if_neg e4, e5]
      show (if false = true then some ((0 : Int), (2 : Int), (1073741824 : Int), true) else if k = 6 then some (0, 2, 2, true) else some (0, 0, 0, false)) = _
      rw [if_neg (by decide), if_neg h6]
    simp only [preB, goodB, shapeB]
    rw [if_neg h1, if_neg h2, if_neg h3, if_neg h45, if_neg h6]
    simp
theorem good_at (x : S24) : sz x ≤ 1000000 → strs x ≤ 9223372036854775807 → GoodAt x := by
  refine S24_ind (P := fun x => sz x ≤ 1000000 → strs x ≤ 9223372036854775807 → GoodAt x) (fun x ih => ?_) x
  obtain ⟨k, a, b, l⟩ := x
  simp only [sz, strs] at *
  intro hs ht A c w hC hc
  have hll := szL_length l
  obtain ⟨n0, l0, m0, ok0, hn, he⟩ := names_f k
  rw [← he a b l (by omega)]
  refine good_walk ⟨k, a, b, l⟩ (fun y hy => ih y hy ?_ ?_) ?_ ?_ n0 l0 m0 ok0 1 hn A c w hC hc
  · have := szL_mem (l := l) hy; omega
  · have := strsL_mem (l := l) hy; omega
  · simp only; omega
  · simp only; omega
end Go.Proofs.Ytpilbomkdafdfaa.Tra
