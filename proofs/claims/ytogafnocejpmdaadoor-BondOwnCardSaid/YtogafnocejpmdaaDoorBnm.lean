/- The program's bond.Match. -/
import Derived.Test.YtogafnocejpmdaaDoorBnr
namespace Go.Proofs.YtogafnocejpmdaaDoor.Bnd
open Go.RowKit Go.Proofs.YtogafnocejpmdaaDoorW.PrintWords Go.Proofs.YtogafnocejpmdaaDoor.Utf Go.Proofs.YtogafnocejpmdaaDoor.Arr Go.Proofs.YtogafnocejpmdaaDoor.Gly Go.Proofs.YtogafnocejpmdaaDoor.Glr Go.Proofs.YtogafnocejpmdaaDoor.Who
set_option linter.unusedVariables false
set_option linter.unusedSimpArgs false

/-- A filter's cells. -/
abbrev flt (t i r a b c : ByteArray) (bare : Bool) : Array Value := #[.string t, .string i, .string r, .string a, .string b, .string c, .bool bare]
def passK (F T : Nat → ByteArray) (k : Nat) : Bool := (F k).toList.isEmpty || ((F k).toList == (T k).toList)
def matchB (F T : Nat → ByteArray) (bare : Bool) : Bool := (List.range 6).all (passK F T) && (!bare || (T 5).toList.isEmpty)
abbrev pairs (F T : Nat → ByteArray) : Array Value := #[.string (F 0), .string (T 0), .string (F 1), .string (T 1), .string (F 2), .string (T 2), .string (F 3), .string (T 3), .string (F 4), .string (T 4), .string (F 5), .string (T 5)]
theorem index_pair (F T : Nat → ByteArray) (k : Nat) (hk : k < 6) (w : World) : (Instr.index 57 (.agg (pairs F T)) (.int .i64 (k : Int))).run Tryd.prog w = .ok (.agg #[.string (F k), .string (T k)]) w := by
  have : k = 0 ∨ k = 1 ∨ k = 2 ∨ k = 3 ∨ k = 4 ∨ k = 5 := by omega
  rcases this with rfl | rfl | rfl | rfl | rfl | rfl <;> rfl
theorem index_of {F T : Nat → ByteArray} {k : Nat} (hk : k < 6) {v : Int} (hv : v = k) (w : World) : (Instr.index 57 (.agg (pairs F T)) (.int .i64 v)).run Tryd.prog w = .ok (.agg #[.string (F k), .string (T k)]) w := by
  subst hv
  exact index_pair F T k hk w

set_option maxHeartbeats 8000000 in
set_option maxRecDepth 100000 in
theorem match_calls (F T : Nat → ByteArray) (bare : Bool) (w : World) :
    Calls Tryd.prog 14 #[.agg (flt (F 0) (F 1) (F 2) (F 3) (F 4) (F 5) bare), .agg (tup (T 0) (T 1) (T 2) (T 3) (T 4) (T 5))] w fun e w' => e = .returned (.bool (matchB F T bare)) ∧ Below w.heap.size w w' := by
  obtain ⟨W0, hW0⟩ : ∃ W0, W0 = ((w.alloc (.cells (flt (F 0) (F 1) (F 2) (F 3) (F 4) (F 5) bare) 36)).alloc (.cells (tup (T 0) (T 1) (T 2) (T 3) (T 4) (T 5)) 25)).alloc (.cells #[.string (T 3), .string (T 4), .string (T 5)] 23) := ⟨_, rfl⟩
  have hsz : W0.heap.size = w.heap.size + 3 := by rw [hW0]; simp
  have X0 : Blk W0 w.heap.size 36 (flt (F 0) (F 1) (F 2) (F 3) (F 4) (F 5) bare) := by rw [hW0]; exact ((Blk.new w _ _).alloc _).alloc _
  have Y0 : Blk W0 (w.heap.size + 2) 23 #[.string (T 3), .string (T 4), .string (T 5)] := by rw [hW0]; exact Blk.newAt (by simp)
  have HB0 : Below w.heap.size w W0 := by rw [hW0]; exact (((Below.refl _ _).alloc (Nat.le_refl _) _).alloc (by simp) _).alloc (by simp; omega) _
  have X := Aside0.mk X0
  have Y := Aside0.mk Y0
  have HB := Aside0.mk HB0
  have HW := Aside0.mk hW0
  clear X0 Y0 HB0 hW0
  go_enter Tryd.func14, Tryd.ntmps14
  go_wp2
  rw [← HW.out]
  go_loopw [41] (fun v41 wr => ∃ k : Nat, v41 = .int .i64 (k : Int) ∧ k ≤ 6 ∧ Aside0 (∀ j, j < k → passK F T j = true) ∧ Aside0 (Below W0.heap.size W0 wr)) (fun v41 _ => 6 - (intOf v41).toNat)
  case atStart => exact ⟨0, rfl, by omega, ⟨fun j h => absurd h (Nat.not_lt_zero _)⟩, ⟨Below.refl _ _⟩⟩
  case round =>
    obtain ⟨k, rfl, hk, hv, hb⟩ := hrel
    by_cases hk6 : k < 6
    · have l0 : decide ((k : Int) < 6) = true := decide_eq_true (by omega)
      have hix := index_pair F T k hk6
      have p2 : IntKind.i64.wrap ((k : Int) + 1) = (k : Int) + 1 := IntWalk.i64_in _ (by omega)
      cases hE : (F k).toList.isEmpty with
      | true =>
        have hE2 : (F k).toList = [] := by simpa using hE
        have hp : passK F T k = true := by unfold passK; rw [hE]; rfl
        have hn : ∀ j, j < k + 1 → passK F T j = true := fun j hj => by
          by_cases h : j < k
          · exact hv.out j h
          · obtain rfl : j = k := by omega
            exact hp
        have HN := Aside0.mk hn
        clear hn hp hv
        go_wp2
        go_roundw
        case rel => exact ⟨k + 1, rfl, by omega, HN, ⟨hb.out.alloc hb.out.size _⟩⟩
        case measure => simp [intOf]; omega
      | false =>
        have hE2 : (F k).toList ≠ [] := by intro h; rw [h] at hE; cases hE
        have hE3 : (F k).toList.isEmpty = false := hE
        cases hQ : ((F k).toList == (T k).toList) with
        | true =>
          have hQ2 := list_eq hQ
          have hp : passK F T k = true := by unfold passK; rw [hE, hQ]; rfl
          have hn : ∀ j, j < k + 1 → passK F T j = true := fun j hj => by
            by_cases h : j < k
            · exact hv.out j h
            · obtain rfl : j = k := by omega
              exact hp
          have HN := Aside0.mk hn
          clear hn hp hv
          go_wp2
          go_roundw
          case rel => exact ⟨k + 1, rfl, by omega, HN, ⟨hb.out.alloc hb.out.size _⟩⟩
          case measure => simp [intOf]; omega
        | false =>
          have hQ2 := list_ne hQ
          have hp : matchB F T bare = false := by
            have h1 : passK F T k = false := by unfold passK; rw [hE, hQ]; rfl
            have h2 : (List.range 6).all (passK F T) = false := by
              rw [List.all_eq_false]
              exact ⟨k, by simpa using hk6, by rw [h1]; decide⟩
            unfold matchB
            rw [h2]
            rfl
          have HN := Aside0.mk hp
          clear hp hv
          go_wp2
          go_ret
          exact ⟨by rw [HN.out]; rfl, HB.out.trans ((hb.out.alloc hb.out.size _).mono (by omega))⟩
    · have l0 : decide ((k : Int) < 6) = false := decide_eq_false (by omega)
      have hp : matchB F T bare = (!bare || (T 5).toList.isEmpty) := by
        unfold matchB
        have h2 : (List.range 6).all (passK F T) = true := by
          rw [List.all_eq_true]
          intro j hj
          exact hv.out j (by have : j < 6 := by simpa using hj
                             omega)
        rw [h2]
        rfl
      have x6 := (X.out.below hb.out).cell 6
      have y2 := (Y.out.below hb.out).cell 2
      have HN := Aside0.mk hp
      clear hp hv
      have HBE := Aside0.mk (HB.out.trans (hb.out.mono (by omega)))
      cases bare with
      | false =>
        go_wp2
        go_ret
        exact ⟨by rw [HN.out]; rfl, HBE.out⟩
      | true =>
        cases hE : (T 5).toList.isEmpty with
        | true =>
          have hE2 : (T 5).toList = [] := by simpa using hE
          go_wp2
          go_ret
          exact ⟨by rw [HN.out, hE]; rfl, HBE.out⟩
        | false =>
          have hE2 : (T 5).toList ≠ [] := by intro h; rw [h] at hE; cases hE
          go_wp2
          go_ret
          exact ⟨by rw [HN.out, hE]; rfl, HBE.out⟩
end Go.Proofs.YtogafnocejpmdaaDoor.Bnd
