/- The nodes of expressions: Node. -/
import Derived.Test.YtpilbomkdafdfaaTkd
namespace Go.Proofs.Ytpilbomkdafdfaa.Tra
open Go.RowKit Go.Proofs.YtpilbomkdafdfaaW.PrintWords Go.Proofs.YtpilbomkdafdfaaW.PrintLast Go.Proofs.YtpilbomkdafdfaaW.PrintMore Go.Proofs.Ytpilbomkdafdfaa.Arr Go.Proofs.Ytpilbomkdafdfaa.Utf Go.Proofs.Ytpilbomkdafdfaa.PTractRefs
set_option linter.unusedVariables false
set_option linter.unusedSimpArgs false

theorem nil_row (w : World) (base : Nat) (ok : Nat → Prop) : Kd.R k24 TN w base ok (.slice none 0 0) [] := Kd.R_nil _ _ _ _ _
theorem node_this (u : Value) (hu : u = .agg #[]) (w : World) : Calls Try.prog 59 #[u] w (NodePost ⟨1, e0, e0, []⟩ w) := by
  subst hu
  have B0 := Aside0.mk ((((Below.refl w.heap.size w).alloc (Nat.le_refl _) (.cells #[] TThis))).alloc (by simp) (.cells #[.int .i64 1, .string ⟨#[]⟩, .string ⟨#[]⟩, .slice none 0 0] TN))
  go_enter Try.func59, Try.ntmps59
  go_wp2
  refine bodyPost_ret (v := .agg #[.int .i64 1, .string ⟨#[]⟩, .string ⟨#[]⟩, .slice none 0 0]) (by simp [results, Try.results59, go_sem]) rfl ⟨_, rfl, nil_row _ _ _, ?_⟩
  exact B0.out
theorem node_comp (a : ByteArray) (w : World) : Calls Try.prog 58 #[.agg #[.string a]] w (NodePost ⟨2, a, e0, []⟩ w) := by
  have B0 := Aside0.mk ((((Below.refl w.heap.size w).alloc (Nat.le_refl _) (.cells #[.string a] TComp))).alloc (by simp) (.cells #[.int .i64 2, .string a, .string ⟨#[]⟩, .slice none 0 0] TN))
  go_enter Try.func58, Try.ntmps58
  go_wp2
  refine bodyPost_ret (v := .agg #[.int .i64 2, .string a, .string ⟨#[]⟩, .slice none 0 0]) (by simp [results, Try.results58, go_sem]) rfl ⟨_, rfl, nil_row _ _ _, ?_⟩
  exact B0.out
theorem node_arr (a b : ByteArray) (w : World) : Calls Try.prog 57 #[.agg #[.string a, .string b]] w (NodePost ⟨3, a, b, []⟩ w) := by
  have B0 := Aside0.mk ((((Below.refl w.heap.size w).alloc (Nat.le_refl _) (.cells #[.string a, .string b] TArr))).alloc (by simp) (.cells #[.int .i64 3, .string a, .string b, .slice none 0 0] TN))
  go_enter Try.func57, Try.ntmps57
  go_wp2
  refine bodyPost_ret (v := .agg #[.int .i64 3, .string a, .string b, .slice none 0 0]) (by simp [results, Try.results57, go_sem]) rfl ⟨_, rfl, nil_row _ _ _, ?_⟩
  exact B0.out
set_option maxHeartbeats 4000000 in
theorem node_uni (l : List S24) (hx : ∀ y, y ∈ l → NodeAt y) (hlen : l.length ≤ 1000000) (r : Value) (vs : List Value) (w : World) (hrow : RowV (fun k => k < w.heap.size) w r vs) (her : ERL (fun k => k < w.heap.size) w l vs) :
    Calls Try.prog 60 #[.agg #[r]] w (NodePost ⟨4, e0, e0, l⟩ w) := by
  obtain ⟨A, c, rfl⟩ : ∃ A c, r = .slice A vs.length c := by
    rcases hrow with ⟨rfl, rfl⟩ | ⟨g, c, cur, rfl, h2, h3, h4, h5, h6⟩
    · exact ⟨none, 0, rfl⟩
    · exact ⟨_, c, rfl⟩
  obtain ⟨W, hW⟩ : ∃ W, (w.alloc (.cells #[.slice A vs.length c] TUni)).alloc (.cells #[.int .i64 0, .string ⟨#[]⟩, .string ⟨#[]⟩, .slice none 0 0] TN) = W := ⟨_, rfl⟩
  have b0 : Below w.heap.size w W := by rw [← hW]; exact ((Below.refl w.heap.size w).alloc (Nat.le_refl _) _).alloc (by simp) _
  have kU : Blk W w.heap.size TUni #[.slice A vs.length c] := by rw [← hW]; exact (Blk.new _ _ _).alloc _
  have kN : Blk W (w.heap.size + 1) TN #[.int .i64 0, .string ⟨#[]⟩, .string ⟨#[]⟩, .slice none 0 0] := by rw [← hW]; exact Blk.newAt (by simp)
  have KK := Aside0.mk (kids_calls l hx hlen (.slice A vs.length c) vs W (hrow.up (fun k hk _ => b0.block k hk) (fun k hk _ => Nat.lt_of_lt_of_le hk b0.size)) (ERL_up (fun k hk _ => b0.block k hk) (fun k hk _ => Nat.lt_of_lt_of_le hk b0.size) _ _ her))
  have B0 := Aside0.mk b0
  have KN := Aside0.mk kN
  have c0 := kU.cell 0
  have cl := kU.lt
  clear hx hrow her b0 kN kU
  go_enter Try.func60, Try.ntmps60
  go_wp2_with fail
  clear hW c0 cl
  refine KK.out.mono ?_
  rintro e w1 ⟨v, rfl, hR, b1⟩
  obtain ⟨A1, k1, rfl⟩ := Kd.R_slice hR
  have hN1 := KN.out.below b1
  have hz := KN.out.lt
  have B1 := Aside0.mk (B0.out.trans (b1.mono B0.out.size))
  have N1 := Aside0.mk hN1
  have R1 := Aside0.mk hR
  have HZ := Aside0.mk hz
  have c0 := hN1.cell 0
  have c1 := hN1.cell 1
  have c2 := hN1.cell 2
  have c3 := hN1.cell 3
  have z0 := hN1.frozen 0
  have z1 := hN1.frozen 1
  have z2 := hN1.frozen 2
  have z3 := hN1.frozen 3
  have cl := hN1.lt
  clear hN1 b1 hR hz KK KN
  go_wp2
  have hK := (((N1.out.set 0 (.int .i64 4)).set 1 (.string ⟨#[]⟩)).set 2 (.string ⟨#[]⟩)).set 3 (.slice A1 l.length k1)
  have hB := (((B1.out.setCell (p := ⟨w.heap.size + 1, 0, none⟩) (Nat.le_succ _) (.int .i64 4)).setCell (p := ⟨w.heap.size + 1, 1, none⟩) (Nat.le_succ _) (.string ⟨#[]⟩)).setCell (p := ⟨w.heap.size + 1, 2, none⟩) (Nat.le_succ _) (.string ⟨#[]⟩)).setCell (p := ⟨w.heap.size + 1, 3, none⟩) (Nat.le_succ _) (.slice A1 l.length k1)
  have hRR := Kd.R_far (p := ⟨w.heap.size + 1, 3, none⟩) (Kd.R_far (p := ⟨w.heap.size + 1, 2, none⟩) (Kd.R_far (p := ⟨w.heap.size + 1, 1, none⟩) (Kd.R_far (p := ⟨w.heap.size + 1, 0, none⟩) R1.out (fun k hk => by have := HZ.out; simp only; omega) (.int .i64 4)) (fun k hk => by have := HZ.out; simp only; omega) (.string ⟨#[]⟩)) (fun k hk => by have := HZ.out; simp only; omega) (.string ⟨#[]⟩)) (fun k hk => by have := HZ.out; simp only; omega) (.slice A1 l.length k1)
  have hRL := Kd.R_mono (Kd.R_lower hRR B0.out.size) (ok' := fun k => w.heap.size ≤ k) (fun k hk => Nat.le_trans B0.out.size hk)
  refine bodyPost_ret (v := .agg #[.int .i64 4, .string ⟨#[]⟩, .string ⟨#[]⟩, .slice A1 l.length k1]) ?_ rfl ⟨_, rfl, hRL, hB⟩
  have d0 := hK.cell 0
  have d1 := hK.cell 1
  have d2 := hK.cell 2
  have d3 := hK.cell 3
  clear c0 c1 c2 c3
  simp [results, Try.results60, go_sem, d0, d1, d2, d3]
set_option maxHeartbeats 4000000 in
theorem node_mee (l : List S24) (hx : ∀ y, y ∈ l → NodeAt y) (hlen : l.length ≤ 1000000) (r : Value) (vs : List Value) (w : World) (hrow : RowV (fun k => k < w.heap.size) w r vs) (her : ERL (fun k => k < w.heap.size) w l vs) :
    Calls Try.prog 62 #[.agg #[r]] w (NodePost ⟨5, e0, e0, l⟩ w) := by
  obtain ⟨A, c, rfl⟩ : ∃ A c, r = .slice A vs.length c := by
    rcases hrow with ⟨rfl, rfl⟩ | ⟨g, c, cur, rfl, h2, h3, h4, h5, h6⟩
    · exact ⟨none, 0, rfl⟩
    · exact ⟨_, c, rfl⟩
  obtain ⟨W, hW⟩ : ∃ W, (w.alloc (.cells #[.slice A vs.length c] TMee)).alloc (.cells #[.int .i64 0, .string ⟨#[]⟩, .string ⟨#[]⟩, .slice none 0 0] TN) = W := ⟨_, rfl⟩
  have b0 : Below w.heap.size w W := by rw [← hW]; exact ((Below.refl w.heap.size w).alloc (Nat.le_refl _) _).alloc (by simp) _
  have kU : Blk W w.heap.size TMee #[.slice A vs.length c] := by rw [← hW]; exact (Blk.new _ _ _).alloc _
  have kN : Blk W (w.heap.size + 1) TN #[.int .i64 0, .string ⟨#[]⟩, .string ⟨#[]⟩, .slice none 0 0] := by rw [← hW]; exact Blk.newAt (by simp)
  have KK := Aside0.mk (kids_calls l hx hlen (.slice A vs.length c) vs W (hrow.up (fun k hk _ => b0.block k hk) (fun k hk _ => Nat.lt_of_lt_of_le hk b0.size)) (ERL_up (fun k hk _ => b0.block k hk) (fun k hk _ => Nat.lt_of_lt_of_le hk b0.size) _ _ her))
  have B0 := Aside0.mk b0
  have KN := Aside0.mk kN
  have c0 := kU.cell 0
  have cl := kU.lt
  clear hx hrow her b0 kN kU
  go_enter Try.func62, Try.ntmps62
  go_wp2_with fail
  clear hW c0 cl
  refine KK.out.mono ?_
  rintro e w1 ⟨v, rfl, hR, b1⟩
  obtain ⟨A1, k1, rfl⟩ := Kd.R_slice hR
  have hN1 := KN.out.below b1
  have hz := KN.out.lt
  have B1 := Aside0.mk (B0.out.trans (b1.mono B0.out.size))
  have N1 := Aside0.mk hN1
  have R1 := Aside0.mk hR
  have HZ := Aside0.mk hz
  have c0 := hN1.cell 0
  have c1 := hN1.cell 1
  have c2 := hN1.cell 2
  have c3 := hN1.cell 3
  have z0 := hN1.frozen 0
  have z1 := hN1.frozen 1
  have z2 := hN1.frozen 2
  have z3 := hN1.frozen 3
  have cl := hN1.lt
  clear hN1 b1 hR hz KK KN
  go_wp2
  have hK := (((N1.out.set 0 (.int .i64 5)).set 1 (.string ⟨#[]⟩)).set 2 (.string ⟨#[]⟩)).set 3 (.slice A1 l.length k1)
  have hB := (((B1.out.setCell (p := ⟨w.heap.size + 1, 0, none⟩) (Nat.le_succ _) (.int .i64 5)).setCell (p := ⟨w.heap.size + 1, 1, none⟩) (Nat.le_succ _) (.string ⟨#[]⟩)).setCell (p := ⟨w.heap.size + 1, 2, none⟩) (Nat.le_succ _) (.string ⟨#[]⟩)).setCell (p := ⟨w.heap.size + 1, 3, none⟩) (Nat.le_succ _) (.slice A1 l.length k1)
  have hRR := Kd.R_far (p := ⟨w.heap.size + 1, 3, none⟩) (Kd.R_far (p := ⟨w.heap.size + 1, 2, none⟩) (Kd.R_far (p := ⟨w.heap.size + 1, 1, none⟩) (Kd.R_far (p := ⟨w.heap.size + 1, 0, none⟩) R1.out (fun k hk => by have := HZ.out; simp only; omega) (.int .i64 5)) (fun k hk => by have := HZ.out; simp only; omega) (.string ⟨#[]⟩)) (fun k hk => by have := HZ.out; simp only; omega) (.string ⟨#[]⟩)) (fun k hk => by have := HZ.out; simp only; omega) (.slice A1 l.length k1)
  have hRL := Kd.R_mono (Kd.R_lower hRR B0.out.size) (ok' := fun k => w.heap.size ≤ k) (fun k hk => Nat.le_trans B0.out.size hk)
  refine bodyPost_ret (v := .agg #[.int .i64 5, .string ⟨#[]⟩, .string ⟨#[]⟩, .slice A1 l.length k1]) ?_ rfl ⟨_, rfl, hRL, hB⟩
  have d0 := hK.cell 0
  have d1 := hK.cell 1
  have d2 := hK.cell 2
  have d3 := hK.cell 3
  clear c0 c1 c2 c3
  simp [results, Try.results62, go_sem, d0, d1, d2, d3]
set_option maxHeartbeats 4000000 in
theorem node_exc (l : List S24) (hx : ∀ y, y ∈ l → NodeAt y) (hlen : l.length ≤ 1000000) (va vb : Value) (w : World) (her : ERL (fun k => k < w.heap.size) w l [va, vb]) :
    Calls Try.prog 63 #[.agg #[va, vb]] w (NodePost ⟨6, e0, e0, l⟩ w) := by
  have hl2 := ERL_len l _ her
  obtain ⟨ta, ua, rfl⟩ := ER_iface (ERL_get l [va, vb] her 0 (by simp at hl2; omega) (by simp))
  obtain ⟨tb, ub, rfl⟩ := ER_iface (ERL_get l [.iface ta ua, vb] her 1 (by simp at hl2; omega) (by simp))
  obtain ⟨W, hW⟩ : ∃ W, ((w.alloc (.cells #[.iface ta ua, .iface tb ub] TExc)).alloc (.cells #[.int .i64 0, .string ⟨#[]⟩, .string ⟨#[]⟩, .slice none 0 0] TN)).alloc (.cells #[.iface ta ua, .iface tb ub] TE) = W := ⟨_, rfl⟩
  have b0 : Below w.heap.size w W := by rw [← hW]; exact (((Below.refl w.heap.size w).alloc (Nat.le_refl _) _).alloc (by simp) _).alloc (by simp; omega) _
  have kN : Blk W (w.heap.size + 1) TN #[.int .i64 0, .string ⟨#[]⟩, .string ⟨#[]⟩, .slice none 0 0] := by rw [← hW]; exact (Blk.newAt (by simp)).alloc _
  have kS : Blk W (w.heap.size + 2) TE #[.iface ta ua, .iface tb ub] := by rw [← hW]; exact Blk.newAt (by simp)
  have hrow : RowV (fun k => k < W.heap.size) W (.slice (some ⟨w.heap.size + 2, 0, none⟩) 2 2) [.iface ta ua, .iface tb ub] := .inr ⟨w.heap.size + 2, 2, _, rfl, kS.lt, by simp, by simp, kS, fun i hi => by
    match i, hi with
    | 0, _ => rfl
    | 1, _ => rfl
    | i + 2, h => simp at h; omega⟩
  have KK := Aside0.mk (kids_calls l hx hlen _ _ W hrow (ERL_up (fun k hk _ => b0.block k hk) (fun k hk _ => Nat.lt_of_lt_of_le hk b0.size) _ _ her))
  have B0 := Aside0.mk b0
  have KN := Aside0.mk kN
  clear hx hrow her b0 kN kS hl2
  go_enter Try.func63, Try.ntmps63
  go_wp2_with fail
  clear hW
  refine KK.out.mono ?_
  rintro e w1 ⟨v, rfl, hR, b1⟩
  obtain ⟨A1, k1, rfl⟩ := Kd.R_slice hR
  have hN1 := KN.out.below b1
  have hz := KN.out.lt
  have B1 := Aside0.mk (B0.out.trans (b1.mono B0.out.size))
  have N1 := Aside0.mk hN1
  have R1 := Aside0.mk hR
  have HZ := Aside0.mk hz
  have c0 := hN1.cell 0
  have c1 := hN1.cell 1
  have c2 := hN1.cell 2
  have c3 := hN1.cell 3
  have z0 := hN1.frozen 0
  have z1 := hN1.frozen 1
  have z2 := hN1.frozen 2
  have z3 := hN1.frozen 3
  have cl := hN1.lt
  clear hN1 b1 hR hz KK KN
  go_wp2
  have hK := (((N1.out.set 0 (.int .i64 6)).set 1 (.string ⟨#[]⟩)).set 2 (.string ⟨#[]⟩)).set 3 (.slice A1 l.length k1)
  have hB := (((B1.out.setCell (p := ⟨w.heap.size + 1, 0, none⟩) (Nat.le_succ _) (.int .i64 6)).setCell (p := ⟨w.heap.size + 1, 1, none⟩) (Nat.le_succ _) (.string ⟨#[]⟩)).setCell (p := ⟨w.heap.size + 1, 2, none⟩) (Nat.le_succ _) (.string ⟨#[]⟩)).setCell (p := ⟨w.heap.size + 1, 3, none⟩) (Nat.le_succ _) (.slice A1 l.length k1)
  have hRR := Kd.R_far (p := ⟨w.heap.size + 1, 3, none⟩) (Kd.R_far (p := ⟨w.heap.size + 1, 2, none⟩) (Kd.R_far (p := ⟨w.heap.size + 1, 1, none⟩) (Kd.R_far (p := ⟨w.heap.size + 1, 0, none⟩) R1.out (fun k hk => by have := HZ.out; simp only; omega) (.int .i64 6)) (fun k hk => by have := HZ.out; simp only; omega) (.string ⟨#[]⟩)) (fun k hk => by have := HZ.out; simp only; omega) (.string ⟨#[]⟩)) (fun k hk => by have := HZ.out; simp only; omega) (.slice A1 l.length k1)
  have hRL := Kd.R_mono (Kd.R_lower hRR B0.out.size) (ok' := fun k => w.heap.size ≤ k) (fun k hk => Nat.le_trans B0.out.size hk)
  refine bodyPost_ret (v := .agg #[.int .i64 6, .string ⟨#[]⟩, .string ⟨#[]⟩, .slice A1 l.length k1]) ?_ rfl ⟨_, rfl, hRL, hB⟩
  have d0 := hK.cell 0
  have d1 := hK.cell 1
  have d2 := hK.cell 2
  have d3 := hK.cell 3
  clear c0 c1 c2 c3
  simp [results, Try.results63, go_sem, d0, d1, d2, d3]
theorem node_at (x : S24) : sz x ≤ 1000000 → goodB x = true → NodeAt x := by
  refine S24_ind (P := fun x => sz x ≤ 1000000 → goodB x = true → NodeAt x) (fun x ih => ?_) x
  intro hs hg
  have hsh := shape_of_good x hg
  obtain ⟨hk, hl⟩ := good_kinds x hg
  have hsz : szL x.f3 + 1 ≤ 1000000 := by cases x; simpa [sz] using hs
  have hlen := szL_length x.f3
  have hx : ∀ y, y ∈ x.f3 → NodeAt y := fun y hy => ih y hy (by have := szL_mem hy; omega) (goodL_all _ hl y hy)
  intro t u w hE
  obtain ⟨k, a, b, l⟩ := x
  simp only [shapeN] at hsh
  simp only [ER] at hE
  simp only at hsz hlen hx
  rcases hsh with ⟨rfl, rfl, rfl, rfl⟩ | ⟨rfl, rfl, rfl⟩ | ⟨rfl, rfl⟩ | ⟨h45, rfl, rfl⟩ | ⟨rfl, rfl, rfl, hl2⟩
  · simp at hE
    obtain ⟨rfl, rfl⟩ := hE
    exact node_this _ rfl w
  · simp at hE
    obtain ⟨rfl, rfl⟩ := hE
    exact node_comp a w
  · simp at hE
    obtain ⟨rfl, rfl⟩ := hE
    exact node_arr a b w
  · rcases h45 with rfl | rfl
    · simp at hE
      obtain ⟨r, ⟨rfl, rfl⟩, vs, h1, h2⟩ := hE
      exact node_uni l hx (by omega) r vs w h1 h2
    · simp at hE
      obtain ⟨r, ⟨rfl, rfl⟩, vs, h1, h2⟩ := hE
      exact node_mee l hx (by omega) r vs w h1 h2
  · simp at hE
    obtain ⟨va, vb, ⟨rfl, rfl⟩, h2⟩ := hE
    exact node_exc l hx (by omega) va vb w h2
end Go.Proofs.Ytpilbomkdafdfaa.Tra
