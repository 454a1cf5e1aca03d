/- Trees of keys: Get, Rank. -/
import Derived.Test.YtcgfdnhocdcfjaaHcu
namespace Go.Proofs.Ytcgfdnhocdcfjaa.Hed
open Go.RowKit Go.Proofs.YtcgfdnhocdcfjaaW.PrintWords Go.Proofs.Ytcgfdnhocdcfjaa.Arr Go.Proofs.Ytcgfdnhocdcfjaa.Utf T
set_option linter.unusedVariables false
set_option linter.unusedSimpArgs false

/-- A measure of a tree by its root's own count. -/
def mz (w : World) : Value → Nat
  | .pointer (some a) => match w.cell? ⟨a.block, 3, none⟩ with
    | some (.int _ n) => n.toNat
    | _ => 0
  | _ => 0
theorem mz_ptr {w : World} {t : T} (h : At w t) : mz w t.ptr = t.size := by
  cases t with
  | nil => rfl
  | node g k v wt l r =>
    have := h.1.cell 3
    simp only [ptr_node, mz]
    rw [this]
    simp [cells, T.size]
    omega
def codeG (o : Option Int) : Int := if o.isSome then 0 else 19
set_option maxHeartbeats 4000000 in
set_option maxRecDepth 100000 in
theorem get_calls (h : Nat) (t : T) (key : ByteArray) (w : World) (H : HAt w h t) :
    Calls Try.prog 14 #[.pointer (some ⟨h, 0, none⟩), .string key] w fun e w' => e = .returned (.tuple #[.int .i64 ((getT t key).getD 0), .int .i64 (codeG (getT t key))]) ∧ Below w.heap.size w w' := by
  obtain ⟨p, hp⟩ := ptr_open t
  have c0 : w.cell? ⟨h, 0, none⟩ = some (.pointer p) := by rw [← hp]; exact H.blk.cell 0
  have cl := H.blk.lt
  have HA := Aside0.mk H.at_
  have HP := Aside0.mk hp
  obtain ⟨g0, hg0⟩ : ∃ g0, getT t key = g0 := ⟨_, rfl⟩
  have HG := Aside0.mk hg0
  rw [hg0]
  clear H hp hg0
  go_enter Try.func14, Try.ntmps14
  go_wp2
  clear c0 cl
  go_loopw [6] (fun v6 wr => ∃ s : T, v6 = s.ptr ∧ Aside0 (At wr s) ∧ Aside0 (getT s key = g0) ∧ Aside0 (Below w.heap.size w wr)) (fun v6 wr => mz wr v6)
  case atStart => exact ⟨t, HP.out.symm, HA, HG, ⟨Below.refl _ _⟩⟩
  case round =>
    obtain ⟨s, rfl, hA, hG, hb⟩ := hrel
    cases s with
    | nil =>
      rw [ptr_nil]
      have e1 : g0 = none := hG.out.symm
      subst e1
      go_wp2
      go_ret2
      exact ⟨rfl, hb.out⟩
    | node g k v wt l r =>
      obtain ⟨hB, hL, hR⟩ := hA.out
      have c0 : wr.cell? ⟨g, 0, none⟩ = some (.string k) := hB.cell 0
      have cl := hB.lt
      have HB := Aside0.mk hB
      have HL := Aside0.mk hL
      have HR := Aside0.mk hR
      have hfl := cmpL_flip (bl k 0) (bl key 0)
      have hG' := hG.out
      simp only [getT] at hG'
      have HMZ := Aside0.mk (mz_ptr hA.out)
      rw [ptr_node] at HMZ ⊢
      obtain ⟨lp, hlp⟩ := ptr_open l
      obtain ⟨rp, hrp⟩ := ptr_open r
      have HLP := Aside0.mk hlp
      have HRP := Aside0.mk hrp
      have e1 : T.lt key k = decide (cmpB key k < 0) := rfl
      have e2 : T.lt k key = decide (cmpB key k > 0) := by
        unfold T.lt cmpB
        rw [hfl, decide_eq_decide]
        omega
      rw [e1, e2] at hG'
      obtain ⟨cc, hcc⟩ : ∃ cc, cmpB key k = cc := ⟨_, rfl⟩
      have KC := Aside0.mk (fun w => compare_calls key k w)
      rw [hcc] at hG' KC
      clear hB hL hR hA hG hfl hlp hrp e1 e2 hcc
      go_wp2_with fail
      refine (KC.out _).mono ?_
      rintro e w1 ⟨rfl, rfl⟩
      clear c0
      by_cases h1 : cc < 0
      · have t1 : decide (cc < 0) = true := decide_eq_true h1
        rw [t1] at hG'
        simp only [if_true] at hG'
        have HG' := Aside0.mk hG'
        have c4 : w1.cell? ⟨g, 4, none⟩ = some (.pointer lp) := by rw [← HLP.out]; exact HB.out.cell 4
        clear hG'
        go_wp2
        go_roundw
        case rel => exact ⟨l, HLP.out.symm, HL, HG', hb⟩
        case measure => rw [HMZ.out, ← HLP.out, mz_ptr HL.out]; simp only [T.size]; omega
      · have t1 : decide (cc < 0) = false := decide_eq_false h1
        rw [t1] at hG'
        simp only [Bool.false_eq_true, if_false] at hG'
        by_cases h2 : cc > 0
        · have t2 : decide (cc > 0) = true := decide_eq_true h2
          rw [t2] at hG'
          simp only [if_true] at hG'
          have HG' := Aside0.mk hG'
          have c5 : w1.cell? ⟨g, 5, none⟩ = some (.pointer rp) := by rw [← HRP.out]; exact HB.out.cell 5
          clear hG'
          go_wp2
          go_roundw
          case rel => exact ⟨r, HRP.out.symm, HR, HG', hb⟩
          case measure => rw [HMZ.out, ← HRP.out, mz_ptr HR.out]; simp only [T.size]; omega
        · have t2 : decide (cc > 0) = false := decide_eq_false h2
          rw [t2] at hG'
          simp only [Bool.false_eq_true, if_false] at hG'
          subst hG'
          have c1 : w1.cell? ⟨g, 1, none⟩ = some (.int .i64 v) := HB.out.cell 1
          go_wp2
          go_ret2
          exact ⟨rfl, hb.out⟩
set_option maxHeartbeats 4000000 in
set_option maxRecDepth 100000 in
theorem rank_calls (h : Nat) (t : T) (key : ByteArray) (hz : t.size ≤ 1000000) (w : World) (H : HAt w h t) :
    Calls Try.prog 12 #[.pointer (some ⟨h, 0, none⟩), .string key] w fun e w' => e = .returned (.int .i64 (rankT t key : Int)) ∧ Below w.heap.size w w' := by
  obtain ⟨p, hp⟩ := ptr_open t
  have c0 : w.cell? ⟨h, 0, none⟩ = some (.pointer p) := by rw [← hp]; exact H.blk.cell 0
  have cl := H.blk.lt
  have HA := Aside0.mk H.at_
  have HP := Aside0.mk hp
  obtain ⟨g0, hg0⟩ : ∃ g0, rankT t key = g0 := ⟨_, rfl⟩
  have HG := Aside0.mk (show 0 + rankT t key = g0 by omega)
  rw [hg0]
  clear H hp hg0
  go_enter Try.func12, Try.ntmps12
  go_wp2
  clear c0 cl
  go_loopw [5, 6] (fun v5 v6 wr => ∃ (s : T) (n : Nat), v5 = .int .i64 (n : Int) ∧ v6 = s.ptr ∧ Aside0 (At wr s) ∧ Aside0 (n + rankT s key = g0) ∧ Aside0 (n + s.size ≤ 1000000) ∧ Aside0 (Below w.heap.size w wr)) (fun _ v6 wr => mz wr v6)
  case atStart => exact ⟨t, 0, rfl, HP.out.symm, HA, HG, ⟨by omega⟩, ⟨Below.refl _ _⟩⟩
  case round =>
    obtain ⟨s, n, rfl, rfl, hA, hG, hN, hb⟩ := hrel
    cases s with
    | nil =>
      rw [ptr_nil]
      have e1 : n = g0 := hG.out
      subst e1
      go_wp2
      go_ret
      exact ⟨rfl, hb.out⟩
    | node g k v wt l r =>
      obtain ⟨hB, hL, hR⟩ := hA.out
      have c0 : wr.cell? ⟨g, 0, none⟩ = some (.string k) := hB.cell 0
      have cl := hB.lt
      have HB := Aside0.mk hB
      have HL := Aside0.mk hL
      have HR := Aside0.mk hR
      have hG' := hG.out
      have hn' := hN.out
      simp only [rankT, T.size] at hG' hn'
      have HMZ := Aside0.mk (mz_ptr hA.out)
      rw [ptr_node] at HMZ ⊢
      obtain ⟨lp, hlp⟩ := ptr_open l
      obtain ⟨rp, hrp⟩ := ptr_open r
      have HLP := Aside0.mk hlp
      have HRP := Aside0.mk hrp
      have e1 : T.lt k key = decide (cmpB k key < 0) := rfl
      rw [e1] at hG'
      obtain ⟨cc, hcc⟩ : ∃ cc, cmpB k key = cc := ⟨_, rfl⟩
      have KC := Aside0.mk (fun w => compare_calls k key w)
      rw [hcc] at hG' KC
      clear hB hL hR hA hG hN hlp hrp e1 hcc
      go_wp2_with fail
      refine (KC.out _).mono ?_
      rintro e w1 ⟨rfl, rfl⟩
      clear c0
      by_cases h1 : cc < 0
      · have t1 : decide (cc < 0) = true := decide_eq_true h1
        rw [t1] at hG'
        simp only [if_true] at hG'
        have HG' := Aside0.mk hG'
        have c4 : w1.cell? ⟨g, 4, none⟩ = some (.pointer lp) := by rw [← HLP.out]; exact HB.out.cell 4
        have K4 := Aside0.mk (count_calls l w1 HL.out)
        rw [HLP.out] at K4
        have s1 : IntKind.i64.wrap ((l.size : Int) + 1) = ((l.size + 1 : Nat) : Int) := by rw [show (l.size : Int) + 1 = ((l.size + 1 : Nat) : Int) by omega]; exact IntWalk.i64_in _ (by omega)
        have s2 : IntKind.i64.wrap ((n : Int) + ((l.size + 1 : Nat) : Int)) = ((n + l.size + 1 : Nat) : Int) := by rw [show (n : Int) + ((l.size + 1 : Nat) : Int) = ((n + l.size + 1 : Nat) : Int) by omega]; exact IntWalk.i64_in _ (by omega)
        have HS := Aside0.mk (And.intro s1 s2)
        clear hG' s1 s2
        go_wp2_with fail
        refine K4.out.mono ?_
        rintro e w2 ⟨rfl, rfl⟩
        clear c4
        have c5 : w2.cell? ⟨g, 5, none⟩ = some (.pointer rp) := by rw [← HRP.out]; exact HB.out.cell 5
        obtain ⟨s1, s2⟩ := HS.out
        go_wp2
        go_roundw
        case rel => exact ⟨r, n + l.size + 1, by first | rfl | simp [s1, s2] | (simp; omega), HRP.out.symm, HR, ⟨by have := HG'.out; omega⟩, ⟨by omega⟩, hb⟩
        case measure => rw [HMZ.out, ← HRP.out, mz_ptr HR.out]; simp only [T.size]; omega
      · have t1 : decide (cc < 0) = false := decide_eq_false h1
        rw [t1] at hG'
        simp only [Bool.false_eq_true, if_false] at hG'
        have HG' := Aside0.mk hG'
        have c4 : w1.cell? ⟨g, 4, none⟩ = some (.pointer lp) := by rw [← HLP.out]; exact HB.out.cell 4
        clear hG'
        go_wp2
        go_roundw
        case rel => exact ⟨l, n, rfl, HLP.out.symm, HL, HG', ⟨by omega⟩, hb⟩
        case measure => rw [HMZ.out, ← HLP.out, mz_ptr HL.out]; simp only [T.size]; omega
end Go.Proofs.Ytcgfdnhocdcfjaa.Hed
