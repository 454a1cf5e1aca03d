/- The program's bond.empty, bond.Right. -/
import Derived.Test.YtogafnocejpmdaaDoorBna
namespace Go.Proofs.YtogafnocejpmdaaDoor.Bnd
open Go.RowKit Go.Proofs.YtogafnocejpmdaaDoorW.PrintWords Go.Proofs.YtogafnocejpmdaaDoor.Utf Go.Proofs.YtogafnocejpmdaaDoor.Arr Go.Proofs.YtogafnocejpmdaaDoor.Gly Go.Proofs.YtogafnocejpmdaaDoor.Glr Go.Proofs.YtogafnocejpmdaaDoor.Who
set_option linter.unusedVariables false
set_option linter.unusedSimpArgs false

theorem isEmpty_eq {l : List UInt8} (h : l.isEmpty = true) : l = [] := by simpa using h
theorem isEmpty_ne {l : List UInt8} (h : l.isEmpty = false) : l ≠ [] := by intro e; rw [e] at h; cases h
set_option maxHeartbeats 4000000 in
set_option maxRecDepth 100000 in
theorem emptyN_calls (s : ByteArray) (hs : s.size ≤ 9223372036854775807) (h : (s.toList.isEmpty || nameB s) = true) (w : World) :
    Calls Tryd.prog 29 #[.string s, .func (Fn.func 27) #[] #[]] w fun e w' => e = .returned (.bool true) ∧ Below w.heap.size w w' := by
  cases he : s.toList.isEmpty with
  | true =>
    have h1 := isEmpty_eq he
    clear h
    go_enter Tryd.func29, Tryd.ntmps29
    go_wp2
    go_ret
    exact ⟨rfl, Below.refl _ _⟩
  | false =>
    have h1 := isEmpty_ne he
    rw [he, Bool.false_or] at h
    have H := Aside0.mk h
    clear h
    go_enter Tryd.func29, Tryd.ntmps29
    go_wp2_with fail
    refine (name_as true s H.out hs _).mono ?_
    rintro e w1 ⟨rfl, hb1⟩
    go_wp2
    go_ret
    exact ⟨rfl, hb1⟩
set_option maxHeartbeats 4000000 in
set_option maxRecDepth 100000 in
theorem emptyI_calls (s : ByteArray) (hs : s.size ≤ 9223372036854775807) (h : (s.toList.isEmpty || idB s) = true) (w : World) (hT : Tabs w) :
    Calls Tryd.prog 29 #[.string s, .func (Fn.func 30) #[] #[]] w fun e w' => e = .returned (.bool true) ∧ Below w.heap.size w w' := by
  have HT := Aside0.mk hT
  clear hT
  cases he : s.toList.isEmpty with
  | true =>
    have h1 := isEmpty_eq he
    clear h
    go_enter Tryd.func29, Tryd.ntmps29
    go_wp2
    go_ret
    exact ⟨rfl, Below.refl _ _⟩
  | false =>
    have h1 := isEmpty_ne he
    rw [he, Bool.false_or] at h
    have H := Aside0.mk h
    clear h
    go_enter Tryd.func29, Tryd.ntmps29
    go_wp2_with fail
    refine (id_as true s H.out hs _ HT.out).mono ?_
    rintro e w1 ⟨rfl, hb1⟩
    go_wp2
    go_ret
    exact ⟨rfl, hb1⟩

/-- What a good filter keeps. -/
structure Fit (p q u a b c : ByteArray) (bare : Bool) : Prop where mk ::
  hp : (p.toList.isEmpty || nameB p) = true
  hu : (u.toList.isEmpty || nameB u) = true
  ha : (a.toList.isEmpty || nameB a) = true
  hc : (c.toList.isEmpty || nameB c) = true
  hq : (q.toList.isEmpty || idB q) = true
  hb : ((b.toList == [42]) || (b.toList.isEmpty || idB b)) = true
  hpq : p.toList.isEmpty = true → q.toList.isEmpty = true
  habc : a.toList.isEmpty = true → b.toList.isEmpty = true ∧ c.toList.isEmpty = true ∧ bare = false
  hbare : bare = true → c.toList.isEmpty = true
theorem Fit.waysP {p q u a b c : ByteArray} {bare : Bool} (h : Fit p q u a b c bare) : (p.toList = [] ∧ q.toList = []) ∨ p.toList ≠ [] := by
  cases he : p.toList.isEmpty with
  | true => exact .inl ⟨isEmpty_eq he, isEmpty_eq (h.hpq he)⟩
  | false => exact .inr (isEmpty_ne he)
theorem Fit.waysA {p q u a b c : ByteArray} {bare : Bool} (h : Fit p q u a b c bare) : (a.toList = [] ∧ b.toList = [] ∧ c.toList = [] ∧ bare = false) ∨ (a.toList ≠ [] ∧ bare = false) ∨ (a.toList ≠ [] ∧ c.toList = [] ∧ bare = true) := by
  cases he : a.toList.isEmpty with
  | true =>
    obtain ⟨h1, h2, h3⟩ := h.habc he
    exact .inl ⟨isEmpty_eq he, isEmpty_eq h1, isEmpty_eq h2, h3⟩
  | false =>
    cases hb : bare with
    | false => exact .inr (.inl ⟨isEmpty_ne he, rfl⟩)
    | true => exact .inr (.inr ⟨isEmpty_ne he, isEmpty_eq (h.hbare hb), rfl⟩)
theorem fit_list {p q u a b c : ByteArray} {bare : Bool} (h : Fit p q u a b c bare) (k : Nat) (hk : k < 4) (f : ByteArray) (hf : [p, u, a, c].getD k ⟨#[]⟩ = f) : (f.toList.isEmpty || nameB f) = true := by
  subst hf
  have : k = 0 ∨ k = 1 ∨ k = 2 ∨ k = 3 := by omega
  rcases this with rfl | rfl | rfl | rfl
  · exact h.hp
  · exact h.hu
  · exact h.ha
  · exact h.hc
theorem index_four (p u a c : ByteArray) (k : Nat) (hk : k < 4) (f : ByteArray) (hf : [p, u, a, c].getD k ⟨#[]⟩ = f) (w : World) : (Instr.index 54 (.agg #[.string p, .string u, .string a, .string c]) (.int .i64 (k : Int))).run Tryd.prog w = .ok (.string f) w := by
  subst hf
  have : k = 0 ∨ k = 1 ∨ k = 2 ∨ k = 3 := by omega
  rcases this with rfl | rfl | rfl | rfl <;> rfl
theorem four_size {n : Nat} {p u a c : ByteArray} (hp : p.size ≤ n) (hu : u.size ≤ n) (ha : a.size ≤ n) (hc : c.size ≤ n) (k : Nat) (hk : k < 4) (f : ByteArray) (hf : [p, u, a, c].getD k ⟨#[]⟩ = f) : f.size ≤ n := by
  subst hf
  have : k = 0 ∨ k = 1 ∨ k = 2 ∨ k = 3 := by omega
  rcases this with rfl | rfl | rfl | rfl <;> assumption

set_option maxHeartbeats 8000000 in
set_option maxRecDepth 100000 in
theorem right_calls (p q u a b c : ByteArray) (bare : Bool) (z : Sz p q u a b c 9223372036854775807) (h : Fit p q u a b c bare) (w : World) (hT : Tabs w) :
    Calls Tryd.prog 13 #[.agg (flt p q u a b c bare)] w fun e w' => e = .returned (.bool true) ∧ Below w.heap.size w w' := by
  have HB := Aside0.mk (box_below w (flt p q u a b c bare) 36)
  have X := Aside0.mk (Blk.new w 36 (flt p q u a b c bare))
  have HT := Aside0.mk (Tabs.below hT HB.out)
  have Z := Aside0.mk z
  have H := Aside0.mk h
  clear hT z h
  obtain ⟨W0, hW0⟩ : ∃ W0, W0 = w.alloc (.cells (flt p q u a b c bare) 36) := ⟨_, rfl⟩
  rw [← hW0] at HB X HT
  have HW := Aside0.mk hW0
  clear hW0
  go_enter Tryd.func13, Tryd.ntmps13
  go_wp2
  rw [← HW.out]
  go_loopw [14] (fun v14 wr => ∃ k : Nat, v14 = .int .i64 (k : Int) ∧ k ≤ 4 ∧ Aside0 (Below W0.heap.size W0 wr)) (fun v14 _ => 4 - (intOf v14).toNat)
  case atStart => exact ⟨0, rfl, by omega, ⟨Below.refl _ _⟩⟩
  case round =>
    obtain ⟨k, rfl, hk, hb⟩ := hrel
    have HT1 := Aside0.mk (Tabs.below HT.out hb.out)
    have X1 := Aside0.mk (X.out.below hb.out)
    by_cases hk4 : k < 4
    · have l0 : decide ((k : Int) < 4) = true := decide_eq_true (by omega)
      obtain ⟨f, hf⟩ : ∃ f, [p, u, a, c].getD k ⟨#[]⟩ = f := ⟨_, rfl⟩
      have hix := index_four p u a c k hk4 f hf
      have FE := Aside0.mk (fit_list H.out k hk4 f hf)
      have FS := Aside0.mk (four_size Z.out.t Z.out.r Z.out.a Z.out.c k hk4 f hf)
      have p2 : IntKind.i64.wrap ((k : Int) + 1) = (k : Int) + 1 := IntWalk.i64_in _ (by omega)
      clear hf
      go_wp2_with fail
      refine (emptyN_calls f FS.out FE.out _).mono ?_
      rintro e w1 ⟨rfl, hb1⟩
      go_wp2
      go_roundw
      case rel => exact ⟨k + 1, rfl, by omega, ⟨hb.out.trans (hb1.mono hb.out.size)⟩⟩
      case measure => simp [intOf]; omega
    · have l0 : decide ((k : Int) < 4) = false := decide_eq_false (by omega)
      have HB1 := Aside0.mk (HB.out.trans (hb.out.mono (by have := HB.out.size; omega)))
      have x1 := X1.out.cell 1
      go_wp2_with fail
      refine (emptyI_calls q Z.out.i H.out.hq _ HT1.out).mono ?_
      rintro e w1 ⟨rfl, hb1⟩
      have X2 := Aside0.mk (X1.out.below hb1)
      have HT2 := Aside0.mk (Tabs.below HT1.out hb1)
      have HB2 := Aside0.mk (HB1.out.trans (hb1.mono HB1.out.size))
      clear X1 HT1 HB1 x1 hb hb1
      have x0 := X2.out.cell 0
      have x1 := X2.out.cell 1
      have x3 := X2.out.cell 3
      have x4 := X2.out.cell 4
      have x5 := X2.out.cell 5
      have x6 := X2.out.cell 6
      cases hS : (b.toList == [42]) with
      | true =>
        have hS2 := list_eq hS
        have hne : b.toList ≠ [] := by intro e; rw [e] at hS; cases hS
        rcases H.out.waysA with ⟨a1, a2, a3, rfl⟩ | ⟨a1, rfl⟩ | ⟨a1, a2, rfl⟩
        · exact absurd a2 hne
        · rcases H.out.waysP with ⟨b1, b2⟩ | b1
          all_goals
            go_wp2
            go_ret
            exact ⟨rfl, HB2.out⟩
        · rcases H.out.waysP with ⟨b1, b2⟩ | b1
          all_goals
            go_wp2
            go_ret
            exact ⟨rfl, HB2.out⟩
      | false =>
        have hS2 := list_ne hS
        have hE : (b.toList.isEmpty || idB b) = true := by
          have := H.out.hb
          rwa [hS, Bool.false_or] at this
        have HE := Aside0.mk hE
        clear hE
        go_wp2_with fail
        refine (emptyI_calls b Z.out.b HE.out _ HT2.out).mono ?_
        rintro e w2 ⟨rfl, hb2⟩
        have X3 := Aside0.mk (X2.out.below hb2)
        have HB3 := Aside0.mk (HB2.out.trans (hb2.mono HB2.out.size))
        clear X2 HT2 HB2 x0 x1 x3 x4 x5 x6 hb2
        have x0 := X3.out.cell 0
        have x1 := X3.out.cell 1
        have x3 := X3.out.cell 3
        have x4 := X3.out.cell 4
        have x5 := X3.out.cell 5
        have x6 := X3.out.cell 6
        rcases H.out.waysA with ⟨a1, a2, a3, rfl⟩ | ⟨a1, rfl⟩ | ⟨a1, a2, rfl⟩
        all_goals
          rcases H.out.waysP with ⟨b1, b2⟩ | b1
          all_goals
            go_wp2
            go_ret
            exact ⟨rfl, HB3.out⟩
end Go.Proofs.YtogafnocejpmdaaDoor.Bnd
