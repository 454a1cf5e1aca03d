/- The law SealSame: its card. -/
import Derived.Test.YtlhapohpedihjaaDoorCards
import Derived.Test.YtlhapohpedihjaaDoorTie
import Derived.Test.YtlhapohpedihjaaDoorShaLawSame
import Derived.Test.YtlhapohpedihjaaDoorOpb
import Derived.WalkKit
import Derived.ProofKit
import Derived.OpenShut
import Derived.ChangeOld
import Derived.SizedLaws
import Derived.Carry
import Derived.Deep.DeepHandedRow
import Derived.Lib.LaidTab
import Derived.LaidSub
namespace Go.Proofs.YtlhapohpedihjaaDoor.sealSame
open Go.ChangeShapes Go.WideShapes Go.ChangeAt Go.RowKit Go.Proofs.YtlhapohpedihjaaDoorW.PrintWords Go.Proofs.YtlhapohpedihjaaDoor.Arr Go.Proofs.YtlhapohpedihjaaDoor.Sha
set_option linter.unusedVariables false
theorem own : ownKnob Tryd.prog.godebug = none := by kernel_rfl
theorem laidOut : laidOutB Tryd.prog = true := by kernel_rfl
theorem gRound : Tryd.prog.globalNamed "stile/seal.round" = some 1 := by kernel_rfl
theorem gStart : Tryd.prog.globalNamed "stile/seal.start" = some 0 := by kernel_rfl
theorem tRound : (Tryd.prog.globals[1]?).map (·.type) = some 44 := by kernel_rfl
theorem tStart : (Tryd.prog.globals[0]?).map (·.type) = some 34 := by kernel_rfl
theorem cells64 : Tryd.prog.cellsOf 44 = 64 := by kernel_rfl
theorem cells8 : Tryd.prog.cellsOf 34 = 8 := by kernel_rfl
theorem cellsU : Tryd.prog.cellsOf 32 = 1 := by kernel_rfl
theorem cells_of_tab {W : World} {name : String} {zs : List Int} {g : Nat} (hg : Tryd.prog.globalNamed name = some g) (h : Lib.TabIs Tryd.prog W name .u32 zs) : Cells W g (numsA .u32 zs) := by
  refine ⟨fun j v hj => ?_⟩
  have hl : j < zs.length := by
    have := (Array.getElem?_eq_some_iff.1 hj).1
    simpa [numsA_size] using this
  rw [numsA_get _ _ _ hl] at hj
  have := h.cell hg j hl
  rw [← Option.some.inj hj]
  simpa [List.getD, List.getElem?_eq_getElem hl] using this
theorem tables {W : World} (h : laidMetH Tryd.prog Rows.sealSameRow.laid W) : Cells W 0 (numsA .u32 Sha.start.list) ∧ Cells W 1 (numsA .u32 keysI) ∧ 2 ≤ W.heap.size := by
  have h1 : laidMet Tryd.prog Rows.sealSameRow.laid W := h
  have t1 : Lib.TabIs Tryd.prog W "stile/seal.round" .u32 keysI := Lib.tabIs_of_head (rest := [("stile/seal.start", Rows.laid_stile_seal_start)]) gRound tRound Tryd.underlying44 Tryd.underlying32 cellsU cells64 h1
  have h2 := h1.filter (fun x => x.1 == "stile/seal.start")
  have t2 : Lib.TabIs Tryd.prog W "stile/seal.start" .u32 Sha.start.list := Lib.tabIs_of_head (rest := []) gStart tStart Tryd.underlying34 Tryd.underlying32 cellsU cells8 h2
  have c1 := cells_of_tab gRound t1
  have c2 := cells_of_tab gStart t2
  refine ⟨c2, c1, ?_⟩
  have := World.block_lt_of_cell? W _ (c1.out 0 _ (numsA_get _ _ 0 (by decide)))
  exact this

theorem lt_of_trod {H : Type} {enc : TypeId × Value → H} {W : World} {base : Nat} {sp : Nat → Bool} {held : Bool} {t : TypeId} {v : Value} {d : DataW H} {ps : List MemPlace} (h : DataW.Trod enc Tryd.prog W base sp held t v d ps) : ∀ x ∈ ps, x.block < W.heap.size := by
  obtain ⟨m, hm⟩ := h
  exact DataW.trod_lt m _ _ _ hm

theorem contract (H : Type) (enc : TypeId × Value → H) (W : World) (base : Nat) (args : Array Value) (ds gs : List (DataW H)) (before : List MemPlace)
    (hval : ∀ (j : Nat) t v, Tryd.f6.params[j]? = some t → args[j]? = some v → Value.okWide Tryd.prog W .any base t v)
    (hW : DataW.Whole enc Tryd.prog Tryd.f6.params.toList Rows.sealSameSpec.vars false W args.toList ds gs before) (hL : laidMetH Tryd.prog Rows.sealSameRow.laid W) :
    Calls Tryd.prog 6 args W fun e W' => ∃ v, e = .returned v ∧ Rows.sealSameSpec.post enc Tryd.prog Tryd.f6 false true false false W args v W' := by
  have hW' := hW
  obtain ⟨p, q, hA0, hV, rfl, hfz, hnd⟩ := hW
  have hA : DataW.TrodAll enc Tryd.prog W 0 (fun _ => true) true Tryd.f6.params.toList args.toList ds p := hA0
  rw [Tryd.params6] at hA hval
  obtain ⟨v0, vs0, d0, ds0, p0, q0, hargs, rfl, rfl, h0, r0⟩ := trodAll_cons hA
  obtain ⟨v1, vs1, d1, ds1, p1, q1, rfl, rfl, rfl, h1, r1⟩ := trodAll_cons r0
  obtain ⟨v2, vs2, d2, ds2, p2, q2, rfl, rfl, rfl, h2, r2⟩ := trodAll_cons r1
  obtain ⟨rfl, rfl, rfl⟩ := trodAll_nil r2
  obtain rfl : args = #[v0, v1, v2] := by cases args; simp_all
  obtain ⟨rfl, rfl⟩ := trodVars_none hV
  have k0 := h0
  have lt0 := lt_of_trod h0
  obtain ⟨A0, cap0, l0, rfl, hc0, hm0, hr0, hb0⟩ := Opb.open_bytes Tryd.underlying22 Tryd.underlying5 cells1 (hval 0 22 v0 rfl rfl) h0
  have k1 := h1
  have lt1 := lt_of_trod h1
  obtain ⟨A1, cap1, l1, rfl, hc1, hm1, hr1, hb1⟩ := Opb.open_bytes Tryd.underlying22 Tryd.underlying5 cells1 (hval 1 22 v1 rfl rfl) h1
  have k2 := h2
  have lt2 := lt_of_trod h2
  obtain ⟨a2, rfl, rfl, rfl, w2⟩ := open_int Tryd.underlying3 (hval 2 3 v2 rfl rfl) h2
  clear hA0
  obtain ⟨c0, c1, hg⟩ := tables hL
  refine (lawSame_calls A0 cap0 l0 hb0 hc0 A1 cap1 l1 hb1 hc1 a2 W hr0 hr1 hg c0 c1).mono fun e W' ⟨he, bel⟩ => ?_
  subst he
  exact ⟨_, rfl, _, _, _, [], _, [], hW', trodAll_mk1 (shut_bool Tryd.underlying4 _), trodAll_cons_mk (Below.trod laidOut (by kernel_rfl) (of_decide_eq_true (by kernel_rfl)) k0 bel lt0) (trodAll_cons_mk (Below.trod laidOut (by kernel_rfl) (of_decide_eq_true (by kernel_rfl)) k1 bel lt1) (trodAll_cons_mk (Below.trod laidOut (by kernel_rfl) (of_decide_eq_true (by kernel_rfl)) k2 bel lt2) trodAll_mk0)), rfl, bel.frame _, fun h => by cases h⟩
def layCells (cs : Array Value) : Obj → Obj
  | .cells _ t frozen => .cells cs t frozen
  | o => o
/-- A world for the witness: the settled one, the two tables laid. -/
noncomputable def laidWorld (os : Os) : World :=
  { World.holding Tryd.prog os ⟨#[], #[], []⟩ with heap := ((World.holding Tryd.prog os ⟨#[], #[], []⟩).heap.modify 0 (layCells (numsA .u32 Sha.start.list))).modify 1 (layCells (numsA .u32 keysI)) }

theorem laid_met (os : Os) : laidMet Tryd.prog Rows.sealSameRow.laid ((laidWorld os).forCall (fun _ _ => 0) ⟨#[], #[.slice none 0 0, .slice none 0 0, .int .i64 0], []⟩).memory :=
  laidMet_of_run' 8 (by kernel_rfl) (by kernel_rfl)
theorem reads (os : Os) {H : Type} (enc : TypeId × Value → H) : ∃ places, DataW.whole enc Tryd.prog ((laidWorld os).forCall (fun _ _ => 0) ⟨#[], #[.slice none 0 0, .slice none 0 0, .int .i64 0], []⟩).memory Tryd.f6.params.toList Rows.sealSameSpec.vars false (#[(.slice none 0 0 : Value), (.slice none 0 0 : Value), (.int .i64 0 : Value)]).toList 8 = some ([.nil, .nil, .lit (.int .i64 0)], [], places) :=
  ⟨[], by kernel_rfl⟩

set_option maxRecDepth 100000 in
theorem lifted (os : Os) (started : os.Started) (H : Type) (enc : TypeId × Value → H) (F : Stop.Interp) :
    ReturnsInHanded {} Tryd.checked os 6 .any ((OpenSpec.ofChange Rows.sealSameSpec).preRow enc Tryd.prog Tryd.f6 Rows.sealSameRow.domain false Rows.sealSameRow.laid) (((OpenSpec.ofChange Rows.sealSameSpec).at F).post enc Tryd.prog Tryd.f6 false true false false) := by
  obtain ⟨places, hx⟩ := reads os enc
  refine returnsInHanded_of_row (C := Tryd.checked) (s := OpenSpec.ofChange Rows.sealSameSpec) own started (by kernel_rfl) Tryd.func6
    (witness_row_at (enc := enc) (C := Tryd.checked) false (laidWorld os) #[.slice none 0 0, .slice none 0 0, .int .i64 0] rfl (by kernel_rfl) (by kernel_rfl) (by kernel_rfl)
      (OpenSpec.preRow_of_cond 8 hx (by kernel_rfl) (fun k hk => by cases hk) (by kernel_rfl) (laid_met os))) ?_
  intro W base args ds gs before hval hW _ _ _ hL _ _
  exact contract H enc W base args ds gs before hval hW hL
theorem said : Rows.SealSameSaid :=
  OpenClaim.holds_of_cond 6 Tryd.f6 rfl rfl rfl rfl rfl rfl rfl ⟨rfl, rfl, rfl, rfl, rfl⟩ rfl rfl rfl rfl rfl (by kernel_rfl) Tryd.func6 (by kernel_rfl)
    (of_decide_eq_true (by kernel_rfl)) (by unfold Func.isWrapper; first | (rw [if_pos (by decide +kernel)]; kernel_rfl) | (rw [if_neg (by decide +kernel)]; exact ⟨rfl, rfl⟩))
    (fun os started H enc _ F => by rw [OpenClaim.pre_eq_preRow]; exact lifted os started H enc F)
theorem plain (f : FuncId) (fn : Func) (hf : Tryd.pinned.checked.prog.funcNamed "stile/stilelaw18.SealSame" = some f) (hfn : Tryd.pinned.checked.prog.funcs[f]? = some fn) :
    false = Tryd.pinned.checked.prog.looks [] ∧ ∀ (j : Nat) t, fn.params[j]? = some t → Tryd.pinned.checked.prog.wantsStandIn t = false := by
  obtain rfl : f = 6 := Option.some.inj ((show Tryd.prog.funcNamed "stile/stilelaw18.SealSame" = some 6 by kernel_rfl).symm.trans hf) |>.symm
  obtain rfl : fn = Tryd.f6 := (Option.some.inj (Tryd.func6.symm.trans hfn)).symm
  refine ⟨by kernel_rfl, fun j t ht => ?_⟩
  rw [Tryd.params6] at ht
  have hm : t = 22 ∨ t = 3 := by simpa using Array.mem_of_getElem? ht
  rcases hm with rfl | rfl
  · exact (show Tryd.prog.wantsStandIn 22 = false by kernel_rfl)
  · exact (show Tryd.prog.wantsStandIn 3 = false by kernel_rfl)
theorem card : Rows.SealSameCardSaid :=
  Claim7.holds_tied_plain_at .later [] _ _ _ _ said (fun _ h => by cases h) (by kernel_rfl) (fun _ h => by cases h) sealSame_row_tie rfl ⟨rfl, rfl⟩ (by kernel_rfl) rfl plain (by kernel_rfl)
#print axioms card
end Go.Proofs.YtlhapohpedihjaaDoor.sealSame
namespace Go.Proofs.YtlhapohpedihjaaDoor
/-- The card, under a short name, for the claim. -/
theorem sealSame_holds : Rows.SealSameCardSaid := sealSame.card
end Go.Proofs.YtlhapohpedihjaaDoor
