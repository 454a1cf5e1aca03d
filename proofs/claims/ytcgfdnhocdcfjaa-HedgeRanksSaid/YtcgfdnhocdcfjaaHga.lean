/- Trees of keys: what walk's visitor does: gather$1. -/
import Derived.Test.YtcgfdnhocdcfjaaHwa
import Derived.Test.YtcgfdnhocdcfjaaPHedgePlaysx0
namespace Go.Proofs.Ytcgfdnhocdcfjaa.Hed
open Go.RowKit Go.Proofs.YtcgfdnhocdcfjaaW.PrintWords Go.Proofs.YtcgfdnhocdcfjaaW.PrintLast Go.Proofs.YtcgfdnhocdcfjaaW.PrintMore Go.Proofs.Ytcgfdnhocdcfjaa.Arr Go.Proofs.Ytcgfdnhocdcfjaa.Utf Go.Proofs.Ytcgfdnhocdcfjaa.PHedgePlays T
set_option linter.unusedVariables false
set_option linter.unusedSimpArgs false

abbrev TEn : TypeId := 32
abbrev TEs : TypeId := 27
abbrev TFn : TypeId := 69
abbrev TI : TypeId := 3
theorem infoEn : (Try.prog.info? TEn).map (fun i => (i.zero, i.size, i.bytes)) = some (some (.agg #[.string ⟨#[]⟩, .int .i64 0]), 2, 24) := by kernel_rfl
def toS (e : Ent) : S32 := ⟨e.1, e.2⟩
def okG (most : Int) (rt : ByteArray → Bool) (out : List Ent) (e : Ent) : Bool := decide ((out.length : Int) < most) && rt e.1
/-- The visitor's variables. -/
def StG (B g gm gr : Nat) (most : Int) (rv : Value) (Cond : World → Prop) (out : List Ent) (w : World) : Prop :=
  ∃ vo, Blk w g TEs #[vo] ∧ Kd.R k32 TEn w B (fun _ => True) vo (out.map toS) ∧ Blk w gm TI #[.int .i64 most] ∧ Blk w gr TFn #[rv] ∧ B ≤ g ∧ B ≤ w.heap.size ∧ Cond w
section
variable {B g gm gr : Nat} {most : Int} {rv : Value} {Cond : World → Prop}
theorem stG_below (hC : ∀ w w', Cond w → Below B w w' → Cond w') (out : List Ent) (w w' : World) (h : StG B g gm gr most rv Cond out w) (hb : Below w.heap.size w w') : StG B g gm gr most rv Cond out w' := by
  obtain ⟨vo, h1, h2, h3, h4, h5, h6, h7⟩ := h
  exact ⟨vo, h1.below hb, Kd.R_below h2 hb, h3.below hb, h4.below hb, h5, Nat.le_trans h6 hb.size, hC _ _ h7 (hb.mono h6)⟩
set_option maxHeartbeats 8000000 in
theorem vis_gather (hC : ∀ w w', Cond w → Below B w w' → Cond w') {N2 : FuncId} {caps2 : Array Value} {rt : ByteArray → Bool} (hcf : ∀ args w, Sem.run Try.prog (callFunc N2 args) w = Result.ok (.enter N2 args) w)
    (hr : ∀ key w, Cond w → Calls Try.prog N2 (#[.string key] ++ caps2) w fun e w' => e = .returned (.bool (rt key)) ∧ Below w.heap.size w w') :
    VisAt (okG most rt) (StG B g gm gr most (.func (Fn.func N2) #[] caps2) Cond) B 39 #[.pointer (some ⟨g, 0, none⟩), .pointer (some ⟨gm, 0, none⟩), .pointer (some ⟨gr, 0, none⟩)] := by
  intro k v out w hS hBw hlen
  have hS0 := hS
  obtain ⟨vo, h1, h2, h3, h4, h5, h6, h7⟩ := hS
  obtain ⟨Ao, co, rfl⟩ := Kd.R_slice h2
  rw [List.length_map] at h1 h2
  show Calls Try.prog 39 #[.agg #[.string k, .int .i64 v], .pointer (some ⟨g, 0, none⟩), .pointer (some ⟨gm, 0, none⟩), .pointer (some ⟨gr, 0, none⟩)] w _
  obtain ⟨W, hW⟩ : ∃ W, w.alloc (.cells #[.string k, .int .i64 v] TEn) = W := ⟨_, rfl⟩
  have bb : Below w.heap.size w W := by rw [← hW]; exact (Below.refl _ _).alloc (Nat.le_refl _) _
  have hE : Blk W w.heap.size TEn #[.string k, .int .i64 v] := by rw [← hW]; exact Blk.new _ _ _
  have g1 := h1.below bb
  have g3 := h3.below bb
  have g4 := h4.below bb
  have c1 := g1.cell 0
  have l1 := g1.lt
  have c3 := g3.cell 0
  have l3 := g3.lt
  have c4 := g4.cell 0
  have l4 := g4.lt
  have ce := hE.cell 0
  have le := hE.lt
  have S0 := Aside0.mk (stG_below hC out w W hS0 bb)
  have HS := Aside0.mk hS0
  have BB := Aside0.mk bb
  have HE := Aside0.mk hE
  have G1 := Aside0.mk g1
  have G3 := Aside0.mk g3
  have G4 := Aside0.mk g4
  have HR := Aside0.mk (Kd.R_below h2 bb)
  have H7 := Aside0.mk (hC _ _ h7 (bb.mono h6))
  have RR := Aside0.mk hr
  have CC := Aside0.mk hC
  have bB := Aside0.mk (bb.mono h6)
  clear hS0 h1 h2 h3 h4 h7 bb hE g1 g3 g4 hr hC
  by_cases hm : (out.length : Int) < most
  case neg =>
    have e1 : okG most rt out (k, v) = false := by unfold okG; rw [decide_eq_false hm]; rfl
    rw [e1]
    simp only [Bool.false_eq_true, if_false]
    have t1 : decide ((out.length : Int) ≥ most) = true := decide_eq_true (by omega)
    clear e1 hm
    go_enter Try.func39, Try.ntmps39
    go_wp2
    go_ret
    exact ⟨rfl, S0.out, bB.out⟩
  have t1 : decide ((out.length : Int) ≥ most) = false := decide_eq_false (by omega)
  have e1 : okG most rt out (k, v) = rt k := by unfold okG; rw [decide_eq_true hm]; rfl
  rw [e1]
  have KR := Aside0.mk (fun w' (h : Cond w') => RR.out k w' h)
  cases hrt : rt k with
  | false =>
    rw [hrt] at KR
    simp only [Bool.false_eq_true, if_false]
    clear hrt e1 hm
    go_enter Try.func39, Try.ntmps39
    go_wp2_with fail
    refine (KR.out W H7.out).mono ?_
    rintro e w2 ⟨rfl, b2⟩
    have S2 := Aside0.mk (stG_below CC.out out W w2 S0.out b2)
    have B2 := Aside0.mk (bB.out.trans (b2.mono (Nat.le_trans h6 BB.out.size)))
    clear b2
    go_wp2
    go_ret
    exact ⟨rfl, S2.out, B2.out⟩
  | true =>
    rw [hrt] at KR
    simp only [if_true]
    clear hrt e1 hm
    go_enter Try.func39, Try.ntmps39
    go_wp2_with fail
    refine (KR.out W H7.out).mono ?_
    rintro e w2 ⟨rfl, b2⟩
    have hg2 := G1.out.below b2
    have he2 := HE.out.below b2
    have d1 := hg2.cell 0
    have d2 := he2.cell 0
    have d3 := he2.cell 1
    have m1 := hg2.lt
    have m2 := he2.lt
    have R2 := Aside0.mk (Kd.R_below HR.out b2)
    have Q1 := Aside0.mk hg2
    have Q3 := Aside0.mk (G3.out.below b2)
    have Q4 := Aside0.mk (G4.out.below b2)
    have hBW : B ≤ w2.heap.size := Nat.le_trans h6 (Nat.le_trans BB.out.size b2.size)
    have C2 := Aside0.mk (CC.out _ _ H7.out (b2.mono (Nat.le_trans h6 BB.out.size)))
    have B2 := Aside0.mk (bB.out.trans (b2.mono (Nat.le_trans h6 BB.out.size)))
    have hl1 : ((out.map toS).length + 1) * 24 ≤ 140737488355328 := by rw [List.length_map]; omega
    clear b2 hg2 he2 c1 l1 c3 l3 c4 l4 ce le
    go_wp2_with (at_builtin; refine Kd.R_append k32 (w0 := w2) B rfl (.tmp 17) (.tmp 19) TEs TEn (.agg #[.string ⟨#[]⟩, .int .i64 0]) 24 rfl Try.underlying27 infoEn rfl (by decide) (by decide) _ (out.map toS) (toS (k, v)) [.string k, .int .i64 v] (fun _ => True) (fun _ => False) rfl rfl (k32_mkM w2 B _ _) (fun _ hk => hk.elim) (fun _ _ => trivial) R2.out (Below.refl _ _) hBW hl1 ?_)
    intro v1 w3 hR3 hb3 hg3 hat3
    obtain ⟨A1, k1, e1⟩ := Kd.R_slice hR3
    obtain ⟨n9, hn9⟩ : ∃ n9, (out.map toS ++ [toS (k, v)]).length = n9 := ⟨_, rfl⟩
    rw [hn9] at e1
    clear hn9
    subst e1
    have n1 := Kd.R_ne R2.out Q1.out.out (by decide)
    have n3 := Kd.R_ne R2.out Q3.out.out (by decide)
    have n4 := Kd.R_ne R2.out Q4.out.out (by decide)
    have g1 : Blk w3 g TEs #[.slice Ao out.length co] := ⟨(hg3.block g Q1.out.lt n1).trans Q1.out.out⟩
    have g3 : Blk w3 gm TI #[.int .i64 most] := ⟨(hg3.block gm Q3.out.lt n3).trans Q3.out.out⟩
    have g4 : Blk w3 gr TFn #[.func (Fn.func N2) #[] caps2] := ⟨(hg3.block gr Q4.out.lt n4).trans Q4.out.out⟩
    have x3 : gm ≠ g := Blk.ne g3 g1 (by decide)
    have x4 : gr ≠ g := Blk.ne g4 g1 (by decide)
    have hS4 : StG B g gm gr most (.func (Fn.func N2) #[] caps2) Cond (out ++ [(k, v)]) (w3.setCell ⟨g, 0, none⟩ (.slice A1 n9 k1)) :=
      ⟨.slice A1 n9 k1, g1.set 0 _, by rw [List.map_append]; exact Kd.R_set hR3 g1.out (by decide) 0 _, g3.far (p := ⟨g, 0, none⟩) x3 _, g4.far (p := ⟨g, 0, none⟩) x4 _, h5, by simp only [World.setCell, Array.size_modify]; exact Nat.le_trans hBW hb3.size, CC.out _ _ C2.out (hb3.setCell (p := ⟨g, 0, none⟩) h5 _)⟩
    have hB4 := (B2.out.trans hb3).setCell (p := ⟨g, 0, none⟩) h5 (.slice A1 n9 k1)
    have S4 := Aside0.mk hS4
    have B4 := Aside0.mk hB4
    have y1 := g1.cell 0
    have y2 := g1.frozen 0
    have y3 := g1.lt
    clear hR3 hb3 hg3 hat3 n1 n3 n4 g1 g3 g4 x3 x4 hS4 hB4 d1 d2 d3
    go_wp2
    go_ret
    exact ⟨rfl, S4.out, B4.out⟩
end
end Go.Proofs.Ytcgfdnhocdcfjaa.Hed
