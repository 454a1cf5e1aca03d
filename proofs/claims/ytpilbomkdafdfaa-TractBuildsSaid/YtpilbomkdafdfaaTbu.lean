/- The program's tract: build, Build. What an expression is in memory. -/
import Derived.Test.YtpilbomkdafdfaaTge
namespace Go.Proofs.Ytpilbomkdafdfaa.Tra
open Go.RowKit Go.Proofs.YtpilbomkdafdfaaW.PrintWords Go.Proofs.YtpilbomkdafdfaaW.PrintLast Go.Proofs.YtpilbomkdafdfaaW.PrintMore Go.Proofs.Ytpilbomkdafdfaa.Arr Go.Proofs.Ytpilbomkdafdfaa.Utf Go.Proofs.Ytpilbomkdafdfaa.PTractRefs
set_option linter.unusedVariables false
set_option linter.unusedSimpArgs false

abbrev TThis : TypeId := 59
abbrev TComp : TypeId := 55
abbrev TArr : TypeId := 33
abbrev TUni : TypeId := 68
abbrev TMee : TypeId := 69
abbrev TExc : TypeId := 71
abbrev TE : TypeId := 28
abbrev TEs : TypeId := 66
/-- A row of values, its block ok. -/
def RowV (ok : Nat → Prop) (w : World) (v : Value) (vs : List Value) : Prop :=
  (v = .slice none 0 0 ∧ vs = []) ∨ ∃ g c cur, v = .slice (some ⟨g, 0, none⟩) vs.length c ∧ ok g ∧ vs.length ≤ c ∧ vs.length ≤ 1000000 ∧ Blk w g TE cur ∧ ∀ i (h : i < vs.length), cur[i]? = some vs[i]
mutual
def ER (ok : Nat → Prop) (w : World) : S24 → Value → Prop
  | ⟨k, a, b, l⟩, v =>
    if k = 1 then v = .iface TThis (.agg #[]) else if k = 2 then v = .iface TComp (.agg #[.string a]) else if k = 3 then v = .iface TArr (.agg #[.string a, .string b])
    else if k = 6 then ∃ x y, v = .iface TExc (.agg #[x, y]) ∧ ERL ok w l [x, y]
    else ∃ r vs, v = .iface (if k = 4 then TUni else TMee) (.agg #[r]) ∧ RowV ok w r vs ∧ ERL ok w l vs
def ERL (ok : Nat → Prop) (w : World) : List S24 → List Value → Prop
  | [], vs => vs = []
  | x :: l, vs => ∃ v vs', vs = v :: vs' ∧ ER ok w x v ∧ ERL ok w l vs'
end
section
variable {ok ok' : Nat → Prop} {w w' : World}
theorem RowV.up {v : Value} {vs : List Value} (h : RowV ok w v vs) (hk : ∀ k, ok k → k < w.heap.size → w'.heap[k]? = w.heap[k]?) (hm : ∀ k, ok k → k < w.heap.size → ok' k) : RowV ok' w' v vs := by
  rcases h with ⟨h1, h2⟩ | ⟨g, c, cur, h1, h2, h3, h4, h5, h6⟩
  · exact .inl ⟨h1, h2⟩
  · exact .inr ⟨g, c, cur, h1, hm g h2 h5.lt, h3, h4, ⟨(hk g h2 h5.lt).trans h5.out⟩, h6⟩
theorem ER_up (hk : ∀ k, ok k → k < w.heap.size → w'.heap[k]? = w.heap[k]?) (hm : ∀ k, ok k → k < w.heap.size → ok' k) (x : S24) : ∀ v, ER ok w x v → ER ok' w' x v := by
  refine S24_ind (P := fun x => ∀ v, ER ok w x v → ER ok' w' x v) (fun x ih => ?_) x
  obtain ⟨k, a, b, l⟩ := x
  simp only at ih
  have H : ∀ vs, ERL ok w l vs → ERL ok' w' l vs := by
    induction l with
    | nil => intro vs h; exact h
    | cons y l ih2 =>
      intro vs h
      simp only [ERL] at h ⊢
      obtain ⟨v, vs', e, h1, h2⟩ := h
      exact ⟨v, vs', e, ih y (by simp) v h1, ih2 (fun z hz => ih z (by simp [hz])) vs' h2⟩
  intro v h
  simp only [ER] at h ⊢
  by_cases k1 : k = 1
  · rw [if_pos k1] at h ⊢; exact h
  rw [if_neg k1] at h ⊢
  by_cases k2 : k = 2
  · rw [if_pos k2] at h ⊢; exact h
  rw [if_neg k2] at h ⊢
  by_cases k3 : k = 3
  · rw [if_pos k3] at h ⊢; exact h
  rw [if_neg k3] at h ⊢
  by_cases k6 : k = 6
  · rw [if_pos k6] at h ⊢
    obtain ⟨x, y, e, hl⟩ := h
    exact ⟨x, y, e, H _ hl⟩
  · rw [if_neg k6] at h ⊢
    obtain ⟨r, vs, e, hr, hl⟩ := h
    exact ⟨r, vs, e, hr.up hk hm, H _ hl⟩
theorem ERL_up (hk : ∀ k, ok k → k < w.heap.size → w'.heap[k]? = w.heap[k]?) (hm : ∀ k, ok k → k < w.heap.size → ok' k) : ∀ (l : List S24) (vs : List Value), ERL ok w l vs → ERL ok' w' l vs
  | [], vs, h => h
  | x :: l, vs, h => by
    simp only [ERL] at h ⊢
    obtain ⟨v, vs', e, h1, h2⟩ := h
    exact ⟨v, vs', e, ER_up hk hm x v h1, ERL_up hk hm l vs' h2⟩
theorem ERL_len : ∀ (l : List S24) (vs : List Value), ERL ok w l vs → vs.length = l.length
  | [], vs, h => by simp only [ERL] at h; rw [h]; rfl
  | x :: l, vs, h => by
    simp only [ERL] at h
    obtain ⟨v, vs', rfl, h1, h2⟩ := h
    rw [List.length_cons, List.length_cons, ERL_len l vs' h2]
theorem ERL_snoc {x : S24} {v : Value} (hx : ER ok w x v) : ∀ (l : List S24) (vs : List Value), ERL ok w l vs → ERL ok w (l ++ [x]) (vs ++ [v])
  | [], vs, h => by simp only [ERL] at h; rw [h]; exact ⟨v, [], rfl, hx, rfl⟩
  | y :: l, vs, h => by
    simp only [ERL] at h
    obtain ⟨u, vs', rfl, h1, h2⟩ := h
    exact ⟨u, vs' ++ [v], rfl, h1, ERL_snoc hx l vs' h2⟩
theorem ERL_get : ∀ (l : List S24) (vs : List Value), ERL ok w l vs → ∀ i (h : i < l.length) (h' : i < vs.length), ER ok w l[i] vs[i]
  | [], vs, h, i, hi, _ => absurd hi (by simp)
  | x :: l, vs, h, i, hi, hv => by
    simp only [ERL] at h
    obtain ⟨v, vs', rfl, h1, h2⟩ := h
    cases i with
    | zero => exact h1
    | succ i => exact ERL_get l vs' h2 i (by simpa using hi) (by simpa using hv)
/-- An expression is an interface value that is not nil. -/
theorem ER_iface {x : S24} {v : Value} (h : ER ok w x v) : ∃ t u, v = .iface t u := by
  obtain ⟨k, a, b, l⟩ := x
  simp only [ER] at h
  split at h
  · exact ⟨_, _, h⟩
  · split at h
    · exact ⟨_, _, h⟩
    · split at h
      · exact ⟨_, _, h⟩
      · split at h
        · obtain ⟨x, y, e, _⟩ := h; exact ⟨_, _, e⟩
        · obtain ⟨r, vs, e, _⟩ := h; exact ⟨_, _, e⟩
theorem ER_one {x : S24} {v : Value} (h : ER ok w x v) : v.oneCell' = true := by
  obtain ⟨t, u, rfl⟩ := ER_iface h
  rfl
end
theorem rowV_of_own {w : World} {base : Nat} {v : Value} {vs : List Value} (h : w.ownsRow base TE 1 v vs.length vs) (hn : vs.length ≤ 1000000) : RowV (fun k => some k = v.ownBlock) w v vs := by
  rcases h.2 with ⟨rfl, h2⟩ | ⟨g, cap, cur, rfl, hg, hh, r⟩
  · exact .inl ⟨rfl, List.eq_nil_of_length_eq_zero h2⟩
  · have hB : Blk w g TE cur := ⟨hh⟩
    refine .inr ⟨g, cap, cur, rfl, rfl, own_le h, hn, hB, fun i hi => ?_⟩
    have h' : w.ownsRow base TE 1 (.slice (some ⟨g, 0, none⟩) vs.length cap) vs.length (encs (fun v : Value => v) vs) := by
      have e : encs (fun v : Value => v) vs = vs := by simp [encs]
      rw [e]; exact h
    have := (own_at_of (d := undef) h' (i : Int) (by omega) (by omega)).1
    rw [← hB.cell i]
    simpa [rdOf, List.getD, hi] using this
theorem infoE : (Try.prog.info? TE).map (fun i => (i.zero, i.size, i.bytes)) = some (some .nilIface, 1, 16) := by kernel_rfl
def BuildPost (x : S24) (w : World) (e : Ending) (w' : World) : Prop := ∃ v, e = .returned v ∧ ER (fun k => w.heap.size ≤ k) w' x v ∧ Below w.heap.size w w'
def BuildAt (x : S24) : Prop := ∀ (A : Option Addr) (c : Nat) (w : World), Kd.C k24 w A x.f3.length x.f3 → x.f3.length ≤ c → Calls Try.prog 24 #[.agg (nodeA x A c)] w (BuildPost x w)
theorem good_kinds (x : S24) (h : goodB x = true) : (x.f0 = 1 ∨ x.f0 = 2 ∨ x.f0 = 3 ∨ x.f0 = 4 ∨ x.f0 = 5 ∨ (x.f0 = 6 ∧ x.f3.length = 2)) ∧ goodL x.f3 = true := by
  obtain ⟨k, a, b, l⟩ := x
  simp only [goodB, Bool.and_eq_true] at h
  refine ⟨?_, h.1⟩
  have hs := h.2
  unfold shapeB at hs
  simp only
  by_cases k1 : k = 1
  · exact .inl k1
  rw [if_neg k1] at hs
  by_cases k2 : k = 2
  · exact .inr (.inl k2)
  rw [if_neg k2] at hs
  by_cases k3 : k = 3
  · exact .inr (.inr (.inl k3))
  rw [if_neg k3] at hs
  by_cases k45 : k = 4 ∨ k = 5
  · omega
  rw [if_neg k45] at hs
  by_cases k6 : k = 6
  · rw [if_pos k6] at hs
    simp only [Bool.and_eq_true, beq_iff_eq] at hs
    omega
  · rw [if_neg k6] at hs
    exact absurd hs (by decide)
theorem goodL_all (l : List S24) (h : goodL l = true) : ∀ y, y ∈ l → goodB y = true := by
  induction l with
  | nil => intro y hy; cases hy
  | cons x l ih =>
    simp only [goodL, Bool.and_eq_true] at h
    intro y hy
    rcases List.mem_cons.1 hy with rfl | hy
    · exact h.1
    · exact ih h.2 y hy
set_option maxHeartbeats 16000000 in
set_option maxRecDepth 100000 in
theorem build_walk (x : S24) (hx : ∀ y, y ∈ x.f3 → BuildAt y) (hlen : x.f3.length ≤ 1000000) (hk : x.f0 = 1 ∨ x.f0 = 2 ∨ x.f0 = 3 ∨ x.f0 = 4 ∨ x.f0 = 5 ∨ (x.f0 = 6 ∧ x.f3.length = 2)) : BuildAt x := by
  intro A c w hC hc
  have hu24 := Try.underlying24
  obtain ⟨k, a, b, l⟩ := x
  simp only at hx hk hlen hC hc
  obtain ⟨W0, hW0⟩ : ∃ W0, w.alloc (.cells #[.int .i64 k, .string a, .string b, .slice A l.length c] TN) = W0 := ⟨_, rfl⟩
  have b0 : Below w.heap.size w W0 := by rw [← hW0]; exact (Below.refl _ _).alloc (Nat.le_refl _) _
  have hR : Blk W0 w.heap.size TN #[.int .i64 k, .string a, .string b, .slice A l.length c] := by rw [← hW0]; exact Blk.new _ _ _
  have R0 := Aside0.mk hR
  have B0 := Aside0.mk b0
  have HC := Aside0.mk hC
  have HX := Aside0.mk hx
  have HK := Aside0.mk hk
  have hwz := b0.size
  have c3 := hR.cell 3
  have cl := hR.lt
  clear hC hx hk hR b0
  go_enter Try.func24, Try.ntmps24
  go_wp2
  clear hW0
  go_loopw [3, 9] (fun v3 v9 wr => ∃ (i : Nat) (vs : List Value), v9 = .int .i64 (i : Int) ∧ Aside0 (i ≤ l.length) ∧ Aside0 (wr.ownsRow w.heap.size TE 1 v3 i vs ∧ vs.length = i) ∧ Aside0 (ERL (fun k => w.heap.size ≤ k ∧ some k ≠ v3.ownBlock) wr (l.take i) vs) ∧ Aside0 (Blk wr w.heap.size TN #[.int .i64 k, .string a, .string b, .slice A l.length c]) ∧ Aside0 (Below w.heap.size w wr)) (fun _ v9 _ => l.length - (intOf v9).toNat)
  case atStart => exact ⟨0, [], rfl, ⟨Nat.zero_le _⟩, ⟨own_nil _ _ _ _, rfl⟩, ⟨rfl⟩, R0, B0⟩
  case round =>
    clear R0 B0 c3 cl hwz
    obtain ⟨i, vs, rfl, hin, hown, her, hR, hb⟩ := hrel
    by_cases hi : i < l.length
    · have t1 : decide ((i : Int) < (l.length : Int)) = true := decide_eq_true (by omega)
      have h0 : (0 : Int) ≤ (i : Int) := by omega
      have h1 : (i : Int) < (l.length : Int) := by omega
      obtain ⟨ad, A3, c3, eA, x0, x1, x2, x3, l3, g3⟩ := at_T24 (Kd.C_below HC.out hb.out) (i : Int) h0 h1
      cases eA
      have hrd := rd_at l i hi
      have hgx := HX.out l[i] (List.getElem_mem hi)
      have htk := List.take_append_getElem hi
      rw [hrd] at x0 x1 x2 x3 l3 g3
      rw [Int.toNat_natCast] at x0 x1 x2 x3
      generalize hxx : l[i] = y at *
      obtain ⟨W, hW⟩ : ∃ W, wr.alloc (.cells (nodeA y A3 c3) TN) = W := ⟨_, rfl⟩
      have b0 : Below wr.heap.size wr W := by rw [← hW]; exact (Below.refl _ _).alloc (Nat.le_refl _) _
      have RW : Blk W wr.heap.size TN (nodeA y A3 c3) := by rw [← hW]; exact Blk.new _ _ _
      have y0 := RW.cell 0
      have y1 := RW.cell 1
      have y2 := RW.cell 2
      have y3 := RW.cell 3
      have ylt := RW.lt
      have KB := Aside0.mk (hgx A3 c3 W (Kd.C_below g3 b0) l3)
      have BW := Aside0.mk b0
      have p0 := eq_true h0
      have p1 := eq_true h1
      have HTK := Aside0.mk htk
      clear hrd hgx htk hxx g3 l3 RW b0
      go_wp2_with fail
      clear x0 x1 x2 x3 hW
      refine KB.out.mono ?_
      rintro e w1 ⟨v, rfl, hv, b1⟩
      obtain ⟨tt, uu, rfl⟩ := ER_iface hv
      clear y0 y1 y2 y3 ylt
      have bb := BW.out.trans (b1.mono BW.out.size)
      have hl1 : (i + 1) * 16 ≤ 140737488355328 := by omega
      have own1 := Aside0.mk (show w1.ownsRow w.heap.size TE 1 _ i vs from pw_own_below hown.out.1 bb)
      have hv1 := ER_one hv
      have ER1 := Aside0.mk (ERL_snoc (ER_up (ok' := fun k => w.heap.size ≤ k ∧ some k ≠ Value.ownBlock _) (fun k _ _ => rfl) (fun k hk hlt => ⟨by have h2 := hb.out.size; have h3 := BW.out.size; omega, fun e => by have h2 := own_lt hown.out.1 k e.symm; have h3 := BW.out.size; omega⟩) y _ hv) (l.take i) vs (ERL_up (fun k _ hlt => bb.block k hlt) (fun k hk _ => hk) _ _ her.out))
      have R1 := Aside0.mk (hR.out.below bb)
      have B1 := Aside0.mk (hb.out.trans (bb.mono hb.out.size))
      have hbz := B1.out.size
      have HONE := Aside0.mk (show ∀ u, u ∈ [Value.iface tt uu] → u.oneCell' = true from fun u hu => by rw [List.mem_singleton.1 hu]; exact hv1)
      have HVL := Aside0.mk hown.out.2
      clear KB BW b1 bb hv hv1 her hown hR hb
      go_wp2_with (at_builtin; refine print_append_cells (w0 := w1) w.heap.size rfl (.tmp 13) (.tmp 16) TEs TE .nilIface 1 16 rfl Try.underlying66 infoE rfl (by decide) (by decide) _ i vs [Value.iface tt uu] rfl rfl rfl HONE.out own1.out (Below.refl _ _) hbz hl1 ?_)
      intro v1 w2 hown2 hb2 hg2 hat2
      have hlt2 := hbz
      have hER2 : ERL (fun k => w.heap.size ≤ k ∧ some k ≠ v1.ownBlock) w2 (l.take (i + 1)) (vs ++ [Value.iface tt uu]) := by
        rw [← HTK.out]
        refine ERL_up (fun k hk hlt => hg2.block k hlt hk.2) (fun k hk hlt => ⟨hk.1, fun e => ?_⟩) _ _ ER1.out
        rcases hat2 with h | ⟨b, h, h'⟩
        · exact hk.2 (by rw [← h]; exact e)
        · rw [h] at e
          injection e with e
          omega
      have hR2 : Blk w2 w.heap.size TN #[.int .i64 k, .string a, .string b, .slice (some ad) l.length c] := ⟨(hg2.block _ R1.out.lt (own_ne own1.out R1.out.out (by decide))).trans R1.out.out⟩
      have own3 := Aside0.mk (And.intro hown2 (show (vs ++ [Value.iface tt uu]).length = i + 1 by rw [List.length_append, HVL.out]; rfl))
      have B3 := Aside0.mk (B1.out.trans hb2)
      have R3 := Aside0.mk hR2
      have ER3 := Aside0.mk hER2
      have hw : IntKind.i64.wrap ((i : Int) + 1) = ((i + 1 : Nat) : Int) := by rw [show ((i : Int) + 1) = ((i + 1 : Nat) : Int) by omega]; exact IntWalk.i64_in _ (by omega)
      clear hown2 hb2 hg2 hat2 hER2 hR2 own1 ER1 R1 B1 hlt2 hbz hl1
      go_wp2
      go_roundw
      case rel => exact ⟨i + 1, vs ++ [Value.iface tt uu], by first | rfl | (rw [hw]) | go_num | simp [hw], ⟨by omega⟩, own3, ER3, R3, B3⟩
      case measure => simp [intOf, hw]; omega
    · have t1 : decide ((i : Int) < (l.length : Int)) = false := decide_eq_false (by omega)
      have e1 : i = l.length := by have := hin.out; omega
      subst e1
      have her' := her.out
      rw [List.take_length] at her'
      obtain ⟨own, hvl⟩ := hown.out
      obtain ⟨Au, cu, rfl⟩ := own_slice own
      have hbz := hb.out.size
      have hRV : RowV (fun k => w.heap.size ≤ k) wr (.slice Au l.length cu) vs := by
        have h1 : wr.ownsRow w.heap.size TE 1 (.slice Au l.length cu) vs.length vs := by rw [hvl]; exact own
        exact (rowV_of_own h1 (by omega)).up (fun k _ _ => rfl) (fun k hk _ => own_base own k hk.symm)
      have hEL : ERL (fun k => w.heap.size ≤ k) wr l vs := ERL_up (fun k _ _ => rfl) (fun k hk _ => hk.1) _ _ her'
      have HRV := Aside0.mk hRV
      have HEL := Aside0.mk hEL
      have hRR := hR.out
      have c0 := hRR.cell 0
      have c1 := hRR.cell 1
      have c2 := hRR.cell 2
      have cl := hRR.lt
      clear her her' own hvl hown hRV hEL hRR hR
      have hk := HK.out
      rcases hk with rfl | rfl | rfl | rfl | rfl | ⟨rfl, hl2⟩
      · clear HRV HEL
        go_wp2
        go_ret
        exact ⟨_, rfl, by simp [ER], hb.out⟩
      · clear HRV HEL
        go_wp2
        go_ret
        exact ⟨_, rfl, by simp [ER], hb.out⟩
      · clear HRV HEL
        go_wp2
        go_ret
        exact ⟨_, rfl, by simp [ER], hb.out⟩
      · go_wp2
        go_ret
        exact ⟨_, rfl, by simp only [ER]; exact ⟨_, vs, rfl, HRV.out, HEL.out⟩, hb.out⟩
      · go_wp2
        go_ret
        exact ⟨_, rfl, by simp only [ER]; exact ⟨_, vs, rfl, HRV.out, HEL.out⟩, hb.out⟩
      · have hRV := HRV.out
        have hEL := HEL.out
        have hv2 := ERL_len l vs hEL
        rcases hRV with ⟨h1, h2⟩ | ⟨g, c', cur, h1, h2, h3, h4, h5, h6⟩
        · rw [h2] at hv2; simp at hv2; omega
        obtain ⟨v0, v1, rfl⟩ : ∃ v0 v1, vs = [v0, v1] := by
          match vs, hv2, hl2 with
          | [a, b], _, _ => exact ⟨a, b, rfl⟩
          | [], h, h' => simp at h; omega
          | [a], h, h' => simp at h; omega
          | a :: b :: c :: r, h, h' => simp at h; omega
        injection h1 with hA1 hn1 hc1
        subst hA1
        have q0 : wr.cell? ⟨g, 0, none⟩ = some v0 := (h5.cell 0).trans (h6 0 (by simp))
        have q1 : wr.cell? ⟨g, 1, none⟩ = some v1 := (h5.cell 1).trans (h6 1 (by simp))
        have hll : (0 : Int) < (l.length : Int) := by omega
        have hll' : (1 : Int) < (l.length : Int) := by omega
        have n0 : 0 < l.length := by omega
        have n1 : 1 < l.length := by omega
        obtain ⟨ta, ua, rfl⟩ := ER_iface (ERL_get l [v0, v1] hEL 0 (by omega) (by simp))
        obtain ⟨tb, ub, rfl⟩ := ER_iface (ERL_get l [.iface ta ua, v1] hEL 1 (by omega) (by simp))
        have HBW := Aside0.mk hb.out
        have HEL2 := Aside0.mk hEL
        have hgl := h5.lt
        have BK := Aside0.mk h5
        have e0 := Aside0.mk (h6 0 (by simp))
        have e1 := Aside0.mk (h6 1 (by simp))
        clear hEL hv2 h2 h3 h4 h5 h6 hn1 hc1 HRV HEL hb
        go_wp2_with fail
        refine Qt.wp_region_all (fun w' => Below wr.heap.size wr w') (by kernel_rfl) (by kernel_rfl) (Below.refl _ _).drew ?_
        iterate 9 ((first | (with_reducible refine Qt.q_val' rfl ?_) | ((with_reducible refine Qg.on_val' ?_); apply Exists.intro; apply Exists.intro; apply Exists.intro; refine ⟨?_, ?_, ?_, ?_⟩; (focus rfl); (focus rfl); (focus rfl))); apply Exists.intro; refine ⟨?_, ?_⟩; (focus (intro w' hw'; have q0 := (hw'.cell (p := ⟨g, 0, none⟩) hgl).trans q0; have q1 := (hw'.cell (p := ⟨g, 1, none⟩) hgl).trans q1; go_simp; (first | done | (with_reducible rfl)))); intro K hK; go_simp; refine hK _ ?_; clear hK K)
        (refine wpQuiet_nil ?_; intro w' hw')
        have HB := Aside0.mk (HBW.out.trans (hw'.mono HBW.out.size))
        have HE := Aside0.mk (ERL_up (ok' := fun k => w.heap.size ≤ k) (fun k _ hlt => hw'.block k hlt) (fun k hk _ => hk) _ _ HEL2.out)
        clear hw' q0 q1
        go_wp2
        go_ret
        exact ⟨_, rfl, by simp only [ER]; exact ⟨_, _, rfl, HE.out⟩, HB.out⟩
theorem build_at (x : S24) : sz x ≤ 1000000 → goodB x = true → BuildAt x := by
  refine S24_ind (P := fun x => sz x ≤ 1000000 → goodB x = true → BuildAt x) (fun x ih => ?_) x
  intro hs hg
  obtain ⟨hk, hl⟩ := good_kinds x hg
  have hsz : szL x.f3 + 1 ≤ 1000000 := by cases x; simpa [sz] using hs
  have hll := szL_length x.f3
  refine build_walk x (fun y hy => ih y hy (by have := szL_mem hy; omega) (goodL_all _ hl y hy)) (by omega) hk
end Go.Proofs.Ytpilbomkdafdfaa.Tra
