/- The law SpoolKeeps: its row. -/
import Derived.Test.YtddhngalokmdoaaRows
import Derived.Test.YtddhngalokmdoaaMgKeeps5
import Derived.Test.YtddhngalokmdoaaMgKeeps6
import Derived.Lib.LaidU8T
import Derived.ChangeMaps5
import GoSem.PinnedTables
import Derived.WalkKit
import Derived.ProofKit
import Derived.OpenShut
import Derived.ChangeOld
import Derived.SizedLaws
import Derived.Carry
import Derived.Deep.DeepHandedRow
import Derived.Lib.LaidTab
import Derived.LaidSub
namespace Go.Proofs.Ytddhngalokmdoaa.spoolKeeps
open Go.ChangeShapes Go.WideShapes Go.ChangeAt Go.RowKit Go.Proofs.YtddhngalokmdoaaW.PrintWords Go.Proofs.Ytddhngalokmdoaa.Arr Go.Proofs.Ytddhngalokmdoaa.Spo Go.Proofs.Ytddhngalokmdoaa.PSpoolPlays
set_option linter.unusedVariables false
set_option linter.unusedSimpArgs false
theorem own : ownKnob Try.prog.godebug = none := by kernel_rfl
theorem laidOut : laidOutB Try.prog = true := by kernel_rfl
theorem u8_lo {x : Int} (h : (Lit.int .u8 x).wf = true) : 0 ≤ x := by
  have : (decide ((0 : Int) ≤ x) && decide (x ≤ 255)) = true := h
  simp at this; omega
theorem u8_hi {x : Int} (h : (Lit.int .u8 x).wf = true) : x < 256 := by
  have : (decide ((0 : Int) ≤ x) && decide (x ≤ 255)) = true := h
  simp at this; omega
theorem tables {W : World} (h : laidMetH Try.prog Rows.spoolKeepsRow.laid W) : True := trivial
theorem lt_of_trod {H : Type} {enc : TypeId × Value → H} {W : World} {base : Nat} {sp : Nat → Bool} {held : Bool} {t : TypeId} {v : Value} {d : DataW H} {ps : List MemPlace} (h : DataW.Trod enc Try.prog W base sp held t v d ps) : ∀ x ∈ ps, x.block < W.heap.size := by
  obtain ⟨m, hm⟩ := h
  exact DataW.trod_lt m _ _ _ hm

set_option maxRecDepth 100000 in
theorem contract (H : Type) (enc : TypeId × Value → H) (W : World) (base : Nat) (args : Array Value) (ds gs : List (DataW H)) (before : List MemPlace)
    (hval : ∀ (j : Nat) t v, Try.f7.params[j]? = some t → args[j]? = some v → Value.okWide Try.prog W .any base t v)
    (hW : DataW.Whole enc Try.prog Try.f7.params.toList Rows.spoolKeepsSpec.vars false W args.toList ds gs before) (hL : laidMetH Try.prog Rows.spoolKeepsRow.laid W) :
    Calls Try.prog 7 args W fun e W' => ∃ v, e = .returned v ∧ Rows.spoolKeepsSpec.post enc Try.prog Try.f7 false true false false W args v W' := by
  have hW' := hW
  obtain ⟨p, q, hA0, hV, rfl, hfz, hnd⟩ := hW
  have hA : DataW.TrodAll enc Try.prog W 0 (fun _ => true) true Try.f7.params.toList args.toList ds p := hA0
  rw [Try.params7] at hA hval
  obtain ⟨v0, vs0, d0, ds0, p0, q0, hargs, rfl, rfl, h0, r0⟩ := trodAll_cons hA
  obtain ⟨v1, vs1, d1, ds1, p1, q1, rfl, rfl, rfl, h1, r1⟩ := trodAll_cons r0
  obtain ⟨rfl, rfl, rfl⟩ := trodAll_nil r1
  obtain rfl : args = #[v0, v1] := by cases args; simp_all
  obtain ⟨rfl, rfl⟩ := trodVars_none hV
  have k0 := h0
  have lt0 := lt_of_trod h0
  obtain ⟨n0, rfl, rfl, rfl, m0⟩ := open_int Try.underlying5 (hval 0 5 v0 rfl rfl) h0
  have k1 := h1
  have lt1 := lt_of_trod h1
  obtain ⟨A1, c1, x1, rfl, hc1, hl1, hC1, hb1⟩ := open_kacts (hval 1 55 v1 rfl rfl) h1
  clear hA0
  obtain - := tables hL
  refine (lawKeeps_calls n0 (u8_lo m0) (u8_hi m0) x1 hb1 hl1 A1 c1 W hC1 hc1).mono fun e W' ⟨he, bel⟩ => ?_
  subst he
  exact ⟨_, rfl, _, _, _, [], _, [], hW', trodAll_mk1 (shut_bool Try.underlying4 _), trodAll_cons_mk (Below.trod laidOut (by kernel_rfl) (of_decide_eq_true (by kernel_rfl)) k0 bel lt0) (trodAll_cons_mk (Below.trod laidOut (by kernel_rfl) (of_decide_eq_true (by kernel_rfl)) k1 bel lt1) trodAll_mk0), rfl, bel.frame _, fun h => by cases h⟩
/-- A world for the witness: the settled one. -/
noncomputable def laidWorld (os : Os) : World := World.holding Try.prog os ⟨#[], #[], []⟩
set_option maxRecDepth 100000 in
theorem laid_met (os : Os) : laidMet Try.prog Rows.spoolKeepsRow.laid ((laidWorld os).forCall (fun _ _ => 0) ⟨#[], #[.int .u8 0, .slice none 0 0], []⟩).memory :=
  laidMet_of_run' 8 (by kernel_rfl) (by kernel_rfl)
theorem reads (os : Os) {H : Type} (enc : TypeId × Value → H) : ∃ places, DataW.whole enc Try.prog ((laidWorld os).forCall (fun _ _ => 0) ⟨#[], #[.int .u8 0, .slice none 0 0], []⟩).memory Try.f7.params.toList Rows.spoolKeepsSpec.vars false (#[(.int .u8 0 : Value), (.slice none 0 0 : Value)]).toList 8 = some ([.lit (.int .u8 0), .nil], [], places) :=
  ⟨[], by kernel_rfl⟩

set_option maxRecDepth 100000 in
theorem lifted (os : Os) (started : os.Started) (H : Type) (enc : TypeId × Value → H) (F : Stop.Interp) :
    ReturnsInHanded {} Try.checked os 7 .any ((OpenSpec.ofChange Rows.spoolKeepsSpec).preRow enc Try.prog Try.f7 Rows.spoolKeepsRow.domain false Rows.spoolKeepsRow.laid) (((OpenSpec.ofChange Rows.spoolKeepsSpec).at F).post enc Try.prog Try.f7 false true false false) := by
  obtain ⟨places, hx⟩ := reads os enc
  refine returnsInHanded_of_row (C := Try.checked) (s := OpenSpec.ofChange Rows.spoolKeepsSpec) own started (by kernel_rfl) Try.func7
    (witness_row_at (enc := enc) (C := Try.checked) false (laidWorld os) #[.int .u8 0, .slice none 0 0] rfl (by kernel_rfl) (by kernel_rfl) (by kernel_rfl)
      (OpenSpec.preRow_of_cond 8 hx (by kernel_rfl) (fun k hk => by cases hk) (by kernel_rfl) (laid_met os))) ?_
  intro W base args ds gs before hval hW _ hcond _ hL _ _
  exact contract H enc W base args ds gs before hval hW hL
theorem said : Rows.SpoolKeepsSaid :=
  OpenClaim.holds_of_cond 7 Try.f7 rfl rfl rfl rfl rfl rfl rfl ⟨rfl, rfl, rfl, rfl, rfl⟩ rfl rfl rfl rfl rfl (by kernel_rfl) Try.func7 (by kernel_rfl)
    (of_decide_eq_true (by kernel_rfl)) (by unfold Func.isWrapper; first | (rw [if_pos (by decide +kernel)]; kernel_rfl) | (rw [if_neg (by decide +kernel)]; exact ⟨rfl, rfl⟩))
    (fun os started H enc _ F => by rw [OpenClaim.pre_eq_preRow]; exact lifted os started H enc F)
#print axioms said
end Go.Proofs.Ytddhngalokmdoaa.spoolKeeps
namespace Go.Proofs.Ytddhngalokmdoaa
/-- The row, under a short name, for the claim. -/
theorem spoolKeeps_holds : Rows.SpoolKeepsSaid := spoolKeeps.said
end Go.Proofs.Ytddhngalokmdoaa
