/- The nodes of expressions: kids, Node. -/
import Derived.Test.YtpilbomkdafdfaaTsm
import Derived.Test.YtpilbomkdafdfaaTec
namespace Go.Proofs.Ytpilbomkdafdfaa.Tra
open Go.RowKit Go.Proofs.YtpilbomkdafdfaaW.PrintWords Go.Proofs.YtpilbomkdafdfaaW.PrintLast Go.Proofs.YtpilbomkdafdfaaW.PrintMore Go.Proofs.Ytpilbomkdafdfaa.Arr Go.Proofs.Ytpilbomkdafdfaa.Utf Go.Proofs.Ytpilbomkdafdfaa.PTractRefs
set_option linter.unusedVariables false
set_option linter.unusedSimpArgs false

abbrev TNs : TypeId := 22
/-- What a node's node is: its own, its rows new. -/
def NodePost (x : S24) (w : World) (e : Ending) (w' : World) : Prop :=
  ∃ v, e = .returned (.agg #[.int .i64 x.f0, .string x.f1, .string x.f2, v]) ∧ Kd.R k24 TN w' w.heap.size (fun k => w.heap.size ≤ k) v x.f3 ∧ Below w.heap.size w w'
/-- The function that gives a type's node. -/
def nodeF (t : TypeId) : FuncId := if t = TThis then 59 else if t = TComp then 58 else if t = TArr then 57 else if t = TUni then 60 else if t = TMee then 62 else 63
def NodeAt (x : S24) : Prop := ∀ (t : TypeId) (u : Value) (w : World), ER (fun k => k < w.heap.size) w x (.iface t u) → Calls Try.prog (nodeF t) #[u] w (NodePost x w)
/-- Which function a call of Node enters. -/
def Enters (t : TypeId) (u : Value) : Prop := ∃ N v, (∀ w, (method 196 t u "Node").run Try.prog w = .ok (N, v) w) ∧ ∀ w, (callFunc N #[v]).run Try.prog w = .ok (.enter (nodeF t) #[u]) w
theorem ent_this (u : Value) : Enters TThis u := ⟨_, _, fun _ => rfl, fun _ => rfl⟩
theorem ent_comp (u : Value) : Enters TComp u := ⟨_, _, fun _ => rfl, fun _ => rfl⟩
theorem ent_arr (u : Value) : Enters TArr u := ⟨_, _, fun _ => rfl, fun _ => rfl⟩
theorem ent_uni (u : Value) : Enters TUni u := ⟨_, _, fun _ => rfl, fun _ => rfl⟩
theorem ent_mee (u : Value) : Enters TMee u := ⟨_, _, fun _ => rfl, fun _ => rfl⟩
theorem ent_exc (u : Value) : Enters TExc u := ⟨_, _, fun _ => rfl, fun _ => rfl⟩
theorem enters {ok : Nat → Prop} {w : World} {x : S24} {t : TypeId} {u : Value} (h : ER ok w x (.iface t u)) : Enters t u := by
  obtain ⟨k, a, b, l⟩ := x
  simp only [ER] at h
  split at h
  · injection h with h1 h2; subst h1; exact ent_this _
  · split at h
    · injection h with h1 h2; subst h1; exact ent_comp _
    · split at h
      · injection h with h1 h2; subst h1; exact ent_arr _
      · split at h
        · obtain ⟨x, y, e, _⟩ := h; injection e with h1 h2; subst h1; exact ent_exc _
        · obtain ⟨r, vs, e, _⟩ := h
          injection e with h1 h2
          subst h1
          by_cases h4 : k = 4
          · rw [if_pos h4]; exact ent_uni _
          · rw [if_neg h4]; exact ent_mee _
theorem infoN : (Try.prog.info? TN).map (fun i => (i.zero, i.size, i.bytes)) = some (some (.agg #[.int .i64 0, .string ⟨#[]⟩, .string ⟨#[]⟩, .slice none 0 0]), 4, 64) := by kernel_rfl
set_option maxHeartbeats 16000000 in
set_option maxRecDepth 100000 in
theorem kids_calls (l : List S24) (hx : ∀ y, y ∈ l → NodeAt y) (hlen : l.length ≤ 1000000) (r : Value) (vs : List Value) (w : World) (hrow : RowV (fun k => k < w.heap.size) w r vs) (her : ERL (fun k => k < w.heap.size) w l vs) :
    Calls Try.prog 61 #[r] w fun e w' => ∃ v, e = .returned v ∧ Kd.R k24 TN w' w.heap.size (fun k => w.heap.size ≤ k) v l ∧ Below w.heap.size w w' := by
  have hvl := ERL_len l vs her
  obtain ⟨A, c, rfl, hcell⟩ : ∃ A c, r = .slice A vs.length c ∧ ∀ i (h : i < vs.length), ∃ g, A = some ⟨g, 0, none⟩ ∧ g < w.heap.size ∧ w.cell? ⟨g, i, none⟩ = some vs[i] := by
    rcases hrow with ⟨rfl, rfl⟩ | ⟨g, c, cur, rfl, h2, h3, h4, h5, h6⟩
    · exact ⟨none, 0, rfl, fun i h => absurd h (by simp)⟩
    · exact ⟨_, c, rfl, fun i h => ⟨g, rfl, h5.lt, (h5.cell i).trans (h6 i h)⟩⟩
  have HX := Aside0.mk hx
  have HER := Aside0.mk her
  have HCL := Aside0.mk hcell
  have HVL := Aside0.mk hvl
  rw [hvl]
  clear hx her hcell hrow hvl
  go_enter Try.func61, Try.ntmps61
  go_wp2
  go_loopw [3, 8] (fun v3 v8 wr => ∃ (i : Nat), v8 = .int .i64 (i : Int) ∧ Aside0 (i ≤ l.length) ∧ Aside0 (Kd.R k24 TN wr w.heap.size (fun k => w.heap.size ≤ k) v3 (l.take i)) ∧ Aside0 (Below w.heap.size w wr)) (fun _ v8 _ => l.length - (intOf v8).toNat)
  case atStart => exact ⟨0, rfl, ⟨Nat.zero_le _⟩, ⟨by rw [List.take_zero]; exact Kd.R_nil _ _ _ _ _⟩, ⟨Below.refl _ _⟩⟩
  case round =>
    obtain ⟨i, rfl, hin, hR, hb⟩ := hrel
    by_cases hi : i < l.length
    · have t1 : decide ((i : Int) < (l.length : Int)) = true := decide_eq_true (by omega)
      have h0 : (0 : Int) ≤ (i : Int) := by omega
      have h1 : (i : Int) < (l.length : Int) := by omega
      have hiv : i < vs.length := by rw [HVL.out]; exact hi
      obtain ⟨g, eA, hg, hc⟩ := HCL.out i hiv
      cases eA
      have hE := ERL_get l vs HER.out i hi hiv
      obtain ⟨tt, uu, ev⟩ := ER_iface hE
      rw [ev] at hE hc
      have hc' : wr.cell? ⟨g, i, none⟩ = some (.iface tt uu) := (hb.out.cell (p := ⟨g, i, none⟩) hg).trans hc
      obtain ⟨N, v', hm1, hm2⟩ := enters hE
      have KN := Aside0.mk (HX.out l[i] (List.getElem_mem hi) tt uu wr (ER_up (fun k hk hlt => hb.out.block k hk) (fun k hk _ => Nat.lt_of_lt_of_le hk hb.out.size) _ _ hE))
      have p0 := eq_true h0
      have p1 := eq_true h1
      have HCC := Aside0.mk hc
      have HEE := Aside0.mk hE
      have HEV := Aside0.mk ev
      clear hc hE ev HCC HEE HEV
      go_wp2_with fail
      refine KN.out.mono ?_
      rintro e w1 ⟨v, rfl, hv, b1⟩
      have htk := List.take_append_getElem hi
      generalize hxx : l[i] = y at *
      have own1 := Aside0.mk (Kd.R_below hR.out b1)
      have B1 := Aside0.mk (hb.out.trans (b1.mono hb.out.size))
      have hbz := B1.out.size
      have hl1 : ((l.take i).length + 1) * 64 ≤ 140737488355328 := by rw [List.length_take]; omega
      have hM := k24_mkM w1 w.heap.size (fun k => w.heap.size ≤ k ∧ some k ≠ u3.ownBlock) y (Kd.R_lower (Kd.R_mono (Kd.R_bound hv) (fun k hk => ⟨Nat.le_trans hb.out.size hk.1, fun e => by obtain ⟨_, inner, ho, _⟩ := hR.out; have h2 := own_lt ho k e.symm; have h3 := hk.1; omega⟩)) hb.out.size)
      have HM := Aside0.mk hM
      clear hM hv b1 KN hR hb hc'
      go_wp2_with (at_builtin; refine Kd.R_append k24 (w0 := w1) w.heap.size rfl (.tmp 12) (.tmp 15) TNs TN (.agg #[.int .i64 0, .string ⟨#[]⟩, .string ⟨#[]⟩, .slice none 0 0]) 64 rfl Try.underlying22 infoN rfl (by decide) (by decide) _ (l.take i) y [.int .i64 y.f0, .string y.f1, .string y.f2, v] (fun k => w.heap.size ≤ k) (fun k => w.heap.size ≤ k ∧ some k ≠ u3.ownBlock) rfl rfl HM.out (fun _ hk => hk) (fun k hk => Nat.le_trans hbz hk) own1.out (Below.refl _ _) hbz hl1 ?_)
      intro v1 w2 hR2 hb2 hg2 hat2
      have R2 := Aside0.mk hR2
      have B2 := Aside0.mk (B1.out.trans hb2)
      have hw : IntKind.i64.wrap ((i : Int) + 1) = ((i + 1 : Nat) : Int) := by rw [show ((i : Int) + 1) = ((i + 1 : Nat) : Int) by omega]; exact IntWalk.i64_in _ (by omega)
      clear hR2 hb2 hg2 hat2 htk own1 B1 HM hbz hl1 hm1 hm2
      go_wp2
      go_roundw
      case rel => exact ⟨i + 1, by first | rfl | (rw [hw]) | go_num | simp [hw], ⟨by omega⟩, R2, B2⟩
      case measure => simp [intOf, hw]; omega
    · have t1 : decide ((i : Int) < (l.length : Int)) = false := decide_eq_false (by omega)
      have e1 : i = l.length := by have := hin.out; omega
      subst e1
      have hR' := hR.out
      rw [List.take_length] at hR'
      have HR := Aside0.mk hR'
      clear hR' hR
      go_wp2
      go_ret
      exact ⟨_, rfl, HR.out, hb.out⟩
/-- An expression's node is the node that it was built of. -/
def shapeN (x : S24) : Prop := (x.f0 = 1 ∧ x.f1 = e0 ∧ x.f2 = e0 ∧ x.f3 = []) ∨ (x.f0 = 2 ∧ x.f2 = e0 ∧ x.f3 = []) ∨ (x.f0 = 3 ∧ x.f3 = []) ∨ ((x.f0 = 4 ∨ x.f0 = 5) ∧ x.f1 = e0 ∧ x.f2 = e0) ∨ (x.f0 = 6 ∧ x.f1 = e0 ∧ x.f2 = e0 ∧ x.f3.length = 2)
theorem noB_nil {s : ByteArray} (h : noB s = true) : s = e0 := by
  unfold noB at h
  rw [beq_iff_eq, Lib.toList_data] at h
  obtain ⟨⟨d⟩⟩ := s
  simp at h
  subst h
  rfl
theorem shape_of_good (x : S24) (h : goodB x = true) : shapeN x := by
  obtain ⟨k, a, b, l⟩ := x
  simp only [goodB, Bool.and_eq_true] at h
  have hs := h.2
  unfold shapeB at hs
  unfold shapeN
  simp only
  by_cases k1 : k = 1
  · rw [if_pos k1] at hs
    simp only [Bool.and_eq_true, beq_iff_eq] at hs
    exact .inl ⟨k1, noB_nil hs.1, noB_nil hs.2.1, List.eq_nil_of_length_eq_zero hs.2.2⟩
  rw [if_neg k1] at hs
  by_cases k2 : k = 2
  · rw [if_pos k2] at hs
    simp only [Bool.and_eq_true, beq_iff_eq] at hs
    exact .inr (.inl ⟨k2, noB_nil hs.2.1, List.eq_nil_of_length_eq_zero hs.2.2⟩)
  rw [if_neg k2] at hs
  by_cases k3 : k = 3
  · rw [if_pos k3] at hs
    simp only [Bool.and_eq_true, beq_iff_eq] at hs
    exact .inr (.inr (.inl ⟨k3, List.eq_nil_of_length_eq_zero hs.2.2⟩))
  rw [if_neg k3] at hs
  by_cases k45 : k = 4 ∨ k = 5
  · rw [if_pos k45] at hs
    simp only [Bool.and_eq_true] at hs
    exact .inr (.inr (.inr (.inl ⟨k45, noB_nil hs.1, noB_nil hs.2.1⟩)))
  rw [if_neg k45] at hs
  by_cases k6 : k = 6
  · rw [if_pos k6] at hs
    simp only [Bool.and_eq_true, beq_iff_eq] at hs
    exact .inr (.inr (.inr (.inr ⟨k6, noB_nil hs.1, noB_nil hs.2.1, hs.2.2⟩)))
  · rw [if_neg k6] at hs
    exact absurd hs (by decide)
end Go.Proofs.Ytpilbomkdafdfaa.Tra
