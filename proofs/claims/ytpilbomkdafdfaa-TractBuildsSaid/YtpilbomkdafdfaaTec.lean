/- The program's tract: Refs, Direct, Plain. -/
import Derived.Test.YtpilbomkdafdfaaTeb
namespace Go.Proofs.Ytpilbomkdafdfaa.Tra
open Go.RowKit Go.Proofs.YtpilbomkdafdfaaW.PrintWords Go.Proofs.YtpilbomkdafdfaaW.PrintLast Go.Proofs.YtpilbomkdafdfaaW.PrintMore Go.Proofs.Ytpilbomkdafdfaa.Arr Go.Proofs.Ytpilbomkdafdfaa.Utf Go.Proofs.Ytpilbomkdafdfaa.PTractRefs
set_option linter.unusedVariables false
set_option linter.unusedSimpArgs false

abbrev TR : TypeId := 42
abbrev TRs : TypeId := 36
theorem infoR : (Try.prog.info? TR).map (fun i => (i.zero, i.size, i.bytes)) = some (some (.agg #[.string ⟨#[]⟩, .string ⟨#[]⟩, .bool false]), 3, 40) := by kernel_rfl
def ownR (x : S24) (odd : Bool) : List S41 := if x.f0 = 2 then [⟨e0, x.f1, odd⟩] else if x.f0 = 3 then [⟨x.f1, x.f2, odd⟩] else []
def stepR (x : S24) (odd : Bool) (out : List S41) : List S41 := out ++ ownR x odd
def StR (B g : Nat) (w0 : World) (w : World) (out : List S41) (S : Nat → Prop) : Prop :=
  ∃ vo, Blk w g TRs #[vo] ∧ Kd.R k41 TR w B (fun _ => True) vo out ∧ S = (fun k => k = g ∨ some k = vo.ownBlock) ∧ B ≤ g ∧ B ≤ w.heap.size ∧ Below B w0 w
theorem StR_ok (B g : Nat) (w0 : World) : StOk (StR B g w0) := by
  refine ⟨?_, ?_⟩
  · rintro w w' s S ⟨vo, h1, h2, h3, h4, h5, h6⟩ hb
    exact ⟨vo, h1.below hb, Kd.R_below h2 hb, h3, h4, Nat.le_trans h5 hb.size, h6.trans (hb.mono h5)⟩
  · rintro w s S ⟨vo, h1, h2, rfl, h4, h5, h6⟩ k hk
    rcases hk with rfl | hk
    · exact h1.lt
    · exact Kd.R_lt h2 k hk.symm
/-- Behind an append and its store. -/
theorem StR_put {B g : Nat} {w0 w W w2 : World} {out ys : List S41} {vo v1 : Value}
    (h1 : Blk w g TRs #[vo]) (h2 : Kd.R k41 TR w B (fun _ => True) vo out) (h4 : B ≤ g) (h5 : B ≤ w.heap.size) (h6 : Below B w0 w)
    (hb : Below w.heap.size w W) (hR : Kd.R k41 TR w2 B (fun _ => True) v1 ys) (hg : W.grownBy w2 vo.ownBlock) (hat : v1.ownBlock = vo.ownBlock ∨ ∃ b, v1.ownBlock = some b ∧ W.heap.size ≤ b) (hb2 : Below B W w2) :
    StR B g w0 (w2.setCell ⟨g, 0, none⟩ v1) ys (fun k => k = g ∨ some k = v1.ownBlock) ∧ Wr (fun k => k = g ∨ some k = vo.ownBlock) w (w2.setCell ⟨g, 0, none⟩ v1) (fun k => k = g ∨ some k = v1.ownBlock) := by
  have hgW : Blk W g TRs #[vo] := h1.below hb
  have hne : some g ≠ vo.ownBlock := Kd.R_ne h2 h1.out (by decide)
  have hg2 : Blk w2 g TRs #[vo] := ⟨(hg.block g hgW.lt hne).trans hgW.out⟩
  have hs : w2.heap.size = (w2.setCell ⟨g, 0, none⟩ v1).heap.size := by simp [World.setCell]
  refine ⟨⟨v1, hg2.set 0 v1, Kd.R_set hR hg2.out (by decide) 0 v1, rfl, h4, ?_, ?_⟩, ?_, ?_, ?_⟩
  · rw [← hs]; exact Nat.le_trans h5 (Nat.le_trans hb.size hg.size)
  · exact ((h6.trans (hb.mono h5)).trans hb2).setCell (p := ⟨g, 0, none⟩) h4 v1
  · rw [← hs]; exact Nat.le_trans hb.size hg.size
  · intro k hk hn
    have hkg : k ≠ g := fun e => hn (.inl e)
    have hko : some k ≠ vo.ownBlock := fun e => hn (.inr e)
    rw [Below.heap_setCell w2 ⟨g, 0, none⟩ v1 k hkg, hg.block k (Nat.lt_of_lt_of_le hk hb.size) hko]
    exact hb.block k hk
  · intro k hk
    rcases hk with rfl | hk
    · exact .inl (.inl rfl)
    · rcases hat with h | ⟨b, h, h'⟩
      · exact .inl (.inr (by rw [← h]; exact hk))
      · rw [h] at hk
        injection hk with hk
        exact .inr (by have := hb.size; omega)
set_option maxHeartbeats 16000000 in
set_option maxRecDepth 100000 in
theorem visR (ok : Nat → Prop) (B g : Nat) (w0 : World) : VisAt stepR ok (StR B g w0) List.length 1000000 28 #[.pointer (some ⟨g, 0, none⟩)] := by
  intro x v odd w S out hk hM hA
  obtain ⟨k, a, b, l⟩ := x
  simp only at hk
  obtain ⟨vo, h1, h2, rfl, h4, h5, h6⟩ := hA.st
  have hE := hA.er
  have ST := Aside0.mk hA.st
  obtain ⟨Ao, co, rfl⟩ := Kd.R_slice h2
  show Calls Try.prog 28 #[v, .bool odd, .pointer (some ⟨g, 0, none⟩)] w _
  have other : (k ≠ 2 ∧ k ≠ 3) → (∀ w, (Instr.typeAssert v TE TComp true).run Try.prog w = .ok (.tuple #[.agg #[.string ⟨#[]⟩], .bool false]) w) → (∀ w, (Instr.typeAssert v TE TArr true).run Try.prog w = .ok (.tuple #[.agg #[.string ⟨#[]⟩, .string ⟨#[]⟩], .bool false]) w) →
      Calls Try.prog 28 #[v, .bool odd, .pointer (some ⟨g, 0, none⟩)] w (EPost (StR B g w0) w (fun k => k = g ∨ some k = (Value.slice Ao out.length co).ownBlock) (stepR ⟨k, a, b, l⟩ odd out)) := by
    intro hk2 a1 a2
    have e1 : stepR ⟨k, a, b, l⟩ odd out = out := by unfold stepR ownR; simp only; rw [if_neg hk2.1, if_neg hk2.2, List.append_nil]
    rw [e1]
    have bb : Below w.heap.size w ((w.alloc (.cells #[.string ⟨#[]⟩] TComp)).alloc (.cells #[.string ⟨#[]⟩, .string ⟨#[]⟩] TArr)) := ((Below.refl _ _).alloc (Nat.le_refl _) _).alloc (by simp) _
    have BB := Aside0.mk bb
    clear hE h1 h2 h4 h5 h6 hA bb hk hk2 hM e1
    go_enter Try.func28, Try.ntmps28
    go_wp2
    go_end0
    exact ⟨rfl, _, (StR_ok B g w0).below _ _ _ _ ST.out BB.out, Wr.of_below BB.out _⟩
  by_cases k2 : k = 2
  · subst k2
    obtain rfl : v = .iface TComp (.agg #[.string a]) := by simpa [ER] using hE
    have a1 := as_Comp_Comp a
    have a2 := as_Comp_Arr a
    obtain ⟨W, hW⟩ : ∃ W, w.alloc (.cells #[.string a] TComp) = W := ⟨_, rfl⟩
    have bb : Below w.heap.size w W := by rw [← hW]; exact (Below.refl _ _).alloc (Nat.le_refl _) _
    have hR : Blk W w.heap.size TComp #[.string a] := by rw [← hW]; exact Blk.new _ _ _
    have hg1 := h1.below bb
    have c0 := hg1.cell 0
    have cl := hg1.lt
    have q0 := hR.cell 0
    have ql := hR.lt
    have H1 := Aside0.mk h1
    have H2 := Aside0.mk h2
    have HR := Aside0.mk (Kd.R_below h2 bb)
    have H6 := Aside0.mk h6
    have BB := Aside0.mk bb
    have hbW : B ≤ W.heap.size := Nat.le_trans h5 bb.size
    have hlt : (out.length + 1) * 40 ≤ 140737488355328 := by omega
    clear hE h1 h2 h6 hA bb hR hg1 other hk ST
    go_enter Try.func28, Try.ntmps28
    go_wp2_with (at_builtin; refine Kd.R_append k41 (w0 := W) B rfl (.tmp 15) (.tmp 20) TRs TR (.agg #[.string ⟨#[]⟩, .string ⟨#[]⟩, .bool false]) 40 rfl Try.underlying36 infoR rfl (by decide) (by decide) _ out ⟨e0, a, odd⟩ [.string e0, .string a, .bool odd] (fun _ => True) (fun _ => False) rfl rfl (k41_mkM W B _ _) (fun _ hk => hk.elim) (fun _ _ => trivial) HR.out (Below.refl _ _) hbW hlt ?_)
    intro v1 w2 hR2 hb2 hg2 hat2
    obtain ⟨ys, hys⟩ : ∃ ys, out ++ [(⟨e0, a, odd⟩ : S41)] = ys := ⟨_, rfl⟩
    rw [hys] at hR2
    have HYS := Aside0.mk hys
    clear hys
    obtain ⟨hS3, hW3⟩ := StR_put H1.out H2.out h4 h5 H6.out BB.out hR2 hg2 hat2 hb2
    have hgb : Blk w2 g TRs #[.slice Ao out.length co] := ⟨(hg2.block g (H1.out.below BB.out).lt (Kd.R_ne H2.out H1.out.out (by decide))).trans (H1.out.below BB.out).out⟩
    obtain ⟨A1, c1, rfl⟩ := Kd.R_slice hR2
    have S3 := Aside0.mk hS3
    have W3 := Aside0.mk hW3
    have g0 := hgb.cell 0
    have gf := hgb.frozen 0
    have gl := hgb.lt
    clear hR2 hb2 hg2 hat2 hS3 hW3 hgb c0 cl q0 ql HR
    go_wp2
    go_end0
    have e1 : stepR ⟨2, a, b, l⟩ odd out = ys := HYS.out
    rw [e1]
    have bb2 : Below (w2.setCell ⟨g, 0, none⟩ (.slice A1 ys.length c1)).heap.size (w2.setCell ⟨g, 0, none⟩ (.slice A1 ys.length c1)) ((w2.setCell ⟨g, 0, none⟩ (.slice A1 ys.length c1)).alloc (.cells #[.string ⟨#[]⟩, .string ⟨#[]⟩] TArr)) := (Below.refl _ _).alloc (Nat.le_refl _) _
    exact ⟨rfl, _, (StR_ok B g w0).below _ _ _ _ S3.out bb2, W3.out.trans (Wr.of_below bb2 _)⟩
  by_cases k3 : k = 3
  · subst k3
    obtain rfl : v = .iface TArr (.agg #[.string a, .string b]) := by simpa [ER] using hE
    have a1 := as_Arr_Comp a b
    have a2 := as_Arr_Arr a b
    obtain ⟨W, hW⟩ : ∃ W, (w.alloc (.cells #[.string ⟨#[]⟩] TComp)).alloc (.cells #[.string a, .string b] TArr) = W := ⟨_, rfl⟩
    obtain ⟨nx, hnx⟩ : ∃ nx, (w.alloc (.cells #[.string ⟨#[]⟩] TComp)).heap.size = nx := ⟨_, rfl⟩
    have hnx' : w.heap.size + 1 = nx := by rw [← hnx]; simp
    have bb : Below w.heap.size w W := by rw [← hW]; exact ((Below.refl _ _).alloc (Nat.le_refl _) _).alloc (by simp) _
    have hR : Blk W (w.heap.size + 1) TArr #[.string a, .string b] := by rw [hnx', ← hW]; exact Blk.newAt hnx.symm
    have hg1 := h1.below bb
    have c0 := hg1.cell 0
    have cl := hg1.lt
    have q0 := hR.cell 0
    have q1 := hR.cell 1
    have ql := hR.lt
    have H1 := Aside0.mk h1
    have H2 := Aside0.mk h2
    have HR := Aside0.mk (Kd.R_below h2 bb)
    have H6 := Aside0.mk h6
    have BB := Aside0.mk bb
    have hbW : B ≤ W.heap.size := Nat.le_trans h5 bb.size
    have hlt : (out.length + 1) * 40 ≤ 140737488355328 := by omega
    clear hE h1 h2 h6 hA bb hR hg1 other hk ST hnx hnx' k2
    go_enter Try.func28, Try.ntmps28
    go_wp2_with (at_builtin; refine Kd.R_append k41 (w0 := W) B rfl (.tmp 28) (.tmp 35) TRs TR (.agg #[.string ⟨#[]⟩, .string ⟨#[]⟩, .bool false]) 40 rfl Try.underlying36 infoR rfl (by decide) (by decide) _ out ⟨a, b, odd⟩ [.string a, .string b, .bool odd] (fun _ => True) (fun _ => False) rfl rfl (k41_mkM W B _ _) (fun _ hk => hk.elim) (fun _ _ => trivial) HR.out (Below.refl _ _) hbW hlt ?_)
    intro v1 w2 hR2 hb2 hg2 hat2
    obtain ⟨ys, hys⟩ : ∃ ys, out ++ [(⟨a, b, odd⟩ : S41)] = ys := ⟨_, rfl⟩
    rw [hys] at hR2
    have HYS := Aside0.mk hys
    clear hys
    obtain ⟨hS3, hW3⟩ := StR_put H1.out H2.out h4 h5 H6.out BB.out hR2 hg2 hat2 hb2
    have hgb : Blk w2 g TRs #[.slice Ao out.length co] := ⟨(hg2.block g (H1.out.below BB.out).lt (Kd.R_ne H2.out H1.out.out (by decide))).trans (H1.out.below BB.out).out⟩
    obtain ⟨A1, c1, rfl⟩ := Kd.R_slice hR2
    have S3 := Aside0.mk hS3
    have W3 := Aside0.mk hW3
    have g0 := hgb.cell 0
    have gf := hgb.frozen 0
    have gl := hgb.lt
    clear hR2 hb2 hg2 hat2 hS3 hW3 hgb c0 cl q0 q1 ql HR
    go_wp2
    go_end0
    have e1 : stepR ⟨3, a, b, l⟩ odd out = ys := HYS.out
    rw [e1]
    exact ⟨rfl, _, S3.out, W3.out⟩
  · rcases hk with rfl | rfl | rfl | rfl | rfl | rfl
    · obtain rfl : v = .iface TThis (.agg #[]) := by simpa [ER] using hE
      exact other ⟨by decide, by decide⟩ as_This_Comp as_This_Arr
    · exact absurd rfl k2
    · exact absurd rfl k3
    · obtain ⟨r, vs, rfl, hr, hl⟩ : ∃ r vs, v = .iface TUni (.agg #[r]) ∧ RowV ok w r vs ∧ ERL ok w l vs := by simpa [ER] using hE
      exact other ⟨by decide, by decide⟩ (as_Uni_Comp r) (as_Uni_Arr r)
    · obtain ⟨r, vs, rfl, hr, hl⟩ : ∃ r vs, v = .iface TMee (.agg #[r]) ∧ RowV ok w r vs ∧ ERL ok w l vs := by simpa [ER] using hE
      exact other ⟨by decide, by decide⟩ (as_Mee_Comp r) (as_Mee_Arr r)
    · obtain ⟨x, y, rfl, hl⟩ : ∃ x y, v = .iface TExc (.agg #[x, y]) ∧ ERL ok w l [x, y] := by simpa [ER] using hE
      exact other ⟨by decide, by decide⟩ (as_Exc_Comp x y) (as_Exc_Arr x y)
theorem eachR (x : S24) : goodB x = true → ∀ odd out, eachS stepR x odd out = out ++ refs x odd := by
  refine S24_ind (P := fun x => goodB x = true → ∀ odd out, eachS stepR x odd out = out ++ refs x odd) (fun x ih => ?_) x
  intro hg
  obtain ⟨hk, hl⟩ := good_kinds x hg
  have hlf := good_leaf x hg
  obtain ⟨k, a, b, l⟩ := x
  simp only at *
  have H : ∀ (m : List S24), (∀ y, y ∈ m → y ∈ l) → ∀ odd i out, eachL stepR k m odd i out = out ++ refsL k m odd i := by
    intro m
    induction m with
    | nil => intro _ odd i out; simp [eachL, refsL]
    | cons y m ihm =>
      intro hm odd i out
      simp only [eachL, refsL]
      rw [ih y (hm y (by simp)) (goodL_all _ hl y (hm y (by simp))), ihm (fun z hz => hm z (by simp [hz])), List.append_assoc]
  intro odd out
  simp only [eachS, refs]
  rw [H l (fun y hy => hy)]
  unfold stepR ownR
  simp only
  by_cases k2 : k = 2
  · rw [if_pos k2, if_pos k2, hlf (by omega)]; simp [refsL]
  rw [if_neg k2, if_neg k2]
  by_cases k3 : k = 3
  · rw [if_pos k3, if_pos k3, hlf (by omega)]; simp [refsL]
  · rw [if_neg k3, if_neg k3, List.append_nil]
def RefsPost (x : S24) (w : World) (e : Ending) (w' : World) : Prop := ∃ vo, e = .returned vo ∧ Kd.R k41 TR w' w.heap.size (fun _ => True) vo (refs x false) ∧ Below w.heap.size w w'
theorem cfR : ∀ args w, Sem.run Try.prog (callFunc 28 args) w = Result.ok (.enter 28 args) w := fun _ _ => rfl
theorem cfD : ∀ args w, Sem.run Try.prog (callFunc 29 args) w = Result.ok (.enter 29 args) w := fun _ _ => rfl
theorem stepR_len (x : S24) (odd : Bool) (s : List S41) : (stepR x odd s).length ≤ s.length + 1 := by
  unfold stepR ownR
  rw [List.length_append]
  split
  · simp
  · split <;> simp
set_option maxHeartbeats 8000000 in
set_option maxRecDepth 100000 in
theorem refsP_calls (ok : Nat → Prop) (x : S24) (hs : sz x ≤ 100000) (hg : goodB x = true) (v : Value) (w : World) (hE : ER ok w x v) (hok : ∀ k, ok k → k < w.heap.size) :
    Calls Try.prog 11 #[v] w (RefsPost x w) := by
  obtain ⟨W, hW⟩ : ∃ W, w.alloc (.cells #[.slice none 0 0] TRs) = W := ⟨_, rfl⟩
  have bb : Below w.heap.size w W := by rw [← hW]; exact (Below.refl _ _).alloc (Nat.le_refl _) _
  have hB : Blk W w.heap.size TRs #[.slice none 0 0] := by rw [← hW]; exact Blk.new _ _ _
  have hA : At ok (StR w.heap.size w.heap.size w) x v W (fun k => k = w.heap.size ∨ some k = (Value.slice none 0 0).ownBlock) [] := by
    refine ⟨ER_keep (Keep.of_below bb) hE, fun k hk h => ?_, fun k hk => Nat.lt_of_lt_of_le (hok k hk) bb.size, ⟨_, hB, Kd.R_nil _ _ _ _ _, rfl, Nat.le_refl _, bb.size, bb⟩⟩
    rcases h with rfl | h
    · exact Nat.lt_irrefl _ (hok _ hk)
    · simp [Value.ownBlock] at h
  have KE := Aside0.mk (each_at (M := 1000000) cfR stepR_len (StR_ok w.heap.size w.heap.size w) (visR ok w.heap.size w.heap.size w) x (by omega) hg v false W _ [] (by simp; omega) hA)
  rw [eachR x hg, List.nil_append] at KE
  obtain ⟨tt, uu, rfl⟩ := ER_iface hE
  clear hE hok hA bb hB
  go_enter Try.func11, Try.ntmps11
  go_wp2_with fail
  clear hW
  refine KE.out.mono ?_
  rintro e w1 ⟨rfl, S', ⟨vo, h1, h2, rfl, h4, h5, h6⟩, hw⟩
  obtain ⟨Ao, co, rfl⟩ := Kd.R_slice h2
  have c0 := h1.cell 0
  have cl := h1.lt
  have H2 := Aside0.mk h2
  have H6 := Aside0.mk h6
  clear KE h1 h2 h6 hw
  go_wp2
  go_ret
  exact ⟨_, rfl, H2.out, H6.out⟩

/-! ### Plain, Direct -/
theorem plain_calls (ok : Nat → Prop) (x : S24) (hk : x.f0 = 1 ∨ x.f0 = 2 ∨ x.f0 = 3 ∨ x.f0 = 4 ∨ x.f0 = 5 ∨ x.f0 = 6) (v : Value) (w : World) (h : ER ok w x v) :
    Calls Try.prog 15 #[v] w fun e w' => e = .returned (.bool (x.f0 == 1)) ∧ Below w.heap.size w w' := by
  have key : ∀ q : Bool, (∀ w, (Instr.typeAssert v TE TThis true).run Try.prog w = .ok (.tuple #[.agg #[], .bool q]) w) → Calls Try.prog 15 #[v] w fun e w' => e = .returned (.bool q) ∧ Below w.heap.size w w' := by
    intro q a1
    clear h
    go_enter Try.func15, Try.ntmps15
    go_wp2
    go_ret
    exact ⟨rfl, (Below.refl _ _).alloc (Nat.le_refl _) _⟩
  obtain ⟨k, a, b, l⟩ := x
  simp only at hk ⊢
  rcases hk with rfl | rfl | rfl | rfl | rfl | rfl
  · obtain rfl : v = .iface TThis (.agg #[]) := by simpa [ER] using h
    exact key true as_This_This
  · obtain rfl : v = .iface TComp (.agg #[.string a]) := by simpa [ER] using h
    exact key false (as_Comp_This a)
  · obtain rfl : v = .iface TArr (.agg #[.string a, .string b]) := by simpa [ER] using h
    exact key false (as_Arr_This a b)
  · obtain ⟨r, vs, rfl, hr, hl⟩ : ∃ r vs, v = .iface TUni (.agg #[r]) ∧ RowV ok w r vs ∧ ERL ok w l vs := by simpa [ER] using h
    exact key false (as_Uni_This r)
  · obtain ⟨r, vs, rfl, hr, hl⟩ : ∃ r vs, v = .iface TMee (.agg #[r]) ∧ RowV ok w r vs ∧ ERL ok w l vs := by simpa [ER] using h
    exact key false (as_Mee_This r)
  · obtain ⟨x, y, rfl, hl⟩ : ∃ x y, v = .iface TExc (.agg #[x, y]) ∧ ERL ok w l [x, y] := by simpa [ER] using h
    exact key false (as_Exc_This x y)
abbrev TBo : TypeId := 4
def stepD (o0 : Bool) (x : S24) (o : Bool) (f : Bool) : Bool := f || (o == o0 && x.f0 == 1)
def StD (B gf go : Nat) (o0 : Bool) (w0 : World) (w : World) (f : Bool) (S : Nat → Prop) : Prop :=
  Blk w gf TBo #[.bool f] ∧ Blk w go TBo #[.bool o0] ∧ gf ≠ go ∧ S = (fun k => k = gf) ∧ B ≤ gf ∧ B ≤ w.heap.size ∧ Below B w0 w
theorem StD_ok (B gf go : Nat) (o0 : Bool) (w0 : World) : StOk (StD B gf go o0 w0) := by
  refine ⟨?_, ?_⟩
  · rintro w w' s S ⟨h1, h2, h3, h4, h5, h6, h7⟩ hb
    exact ⟨h1.below hb, h2.below hb, h3, h4, h5, Nat.le_trans h6 hb.size, h7.trans (hb.mono h6)⟩
  · rintro w s S ⟨h1, h2, h3, rfl, h5⟩ k hk
    have : k = gf := hk
    subst this
    exact h1.lt
theorem StD_set {B gf go : Nat} {o0 f f' : Bool} {w0 w : World} {S : Nat → Prop} (h : StD B gf go o0 w0 w f S) : StD B gf go o0 w0 (w.setCell ⟨gf, 0, none⟩ (.bool f')) f' S ∧ Wr S w (w.setCell ⟨gf, 0, none⟩ (.bool f')) S := by
  obtain ⟨h1, h2, h3, rfl, h5, h6, h7⟩ := h
  have hs : w.heap.size = (w.setCell ⟨gf, 0, none⟩ (.bool f')).heap.size := by simp [World.setCell]
  refine ⟨⟨h1.set 0 _, h2.far (p := ⟨gf, 0, none⟩) (Ne.symm h3) _, h3, rfl, h5, by rw [← hs]; exact h6, h7.setCell (p := ⟨gf, 0, none⟩) h5 _⟩, Nat.le_of_eq hs, fun k _ hn => Below.heap_setCell w ⟨gf, 0, none⟩ _ k hn, fun k h => .inl h⟩
end Go.Proofs.Ytpilbomkdafdfaa.Tra
