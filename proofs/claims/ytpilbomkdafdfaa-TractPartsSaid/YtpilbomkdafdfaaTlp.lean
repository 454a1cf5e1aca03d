/- The law TractParts: its walk. -/
import Derived.Test.YtpilbomkdafdfaaTlr
namespace Go.Proofs.Ytpilbomkdafdfaa.Tra
open Go.RowKit Go.Proofs.YtpilbomkdafdfaaW.PrintWords Go.Proofs.YtpilbomkdafdfaaW.PrintLast Go.Proofs.YtpilbomkdafdfaaW.PrintMore Go.Proofs.Ytpilbomkdafdfaa.Arr Go.Proofs.Ytpilbomkdafdfaa.Utf Go.Proofs.Ytpilbomkdafdfaa.PTractRefs
set_option linter.unusedVariables false
set_option linter.unusedSimpArgs false

theorem pair_C {w : World} {r : Nat} {xa xb : S24} {A B : Option Addr} {ca cb : Nat} (h : Blk w r TN #[.int .i64 xa.f0, .string xa.f1, .string xa.f2, .slice A xa.f3.length ca, .int .i64 xb.f0, .string xb.f1, .string xb.f2, .slice B xb.f3.length cb])
    (hA : Kd.C k24 w A xa.f3.length xa.f3) (hca : xa.f3.length ≤ ca) (hB : Kd.C k24 w B xb.f3.length xb.f3) (hcb : xb.f3.length ≤ cb) : Kd.C k24 w (some ⟨r, 0, none⟩) [xa, xb].length [xa, xb] := by
  refine ⟨rfl, by simp, fun _ => ⟨⟨r, 0, none⟩, rfl, fun j p hj => ?_⟩⟩
  match j, hj with
  | 0, hj =>
    simp at hj
    subst hj
    refine ⟨_, rfl, k24_mk w xa hca hA, fun i u hi => ?_⟩
    have hi4 : i < 4 := (List.getElem?_eq_some_iff.1 hi).1
    rw [show (⟨r, 0, none⟩ : Addr).add (0 * k24.sz + i) = ⟨r, i, none⟩ by show Addr.add _ (0 * 4 + i) = _; unfold Addr.add; by_cases h0 : i = 0 <;> simp [h0]]
    rw [h.cell i, ← hi]
    match i, hi4 with
    | 0, _ => rfl
    | 1, _ => rfl
    | 2, _ => rfl
    | 3, _ => rfl
  | 1, hj =>
    simp at hj
    subst hj
    refine ⟨_, rfl, k24_mk w xb hcb hB, fun i u hi => ?_⟩
    have hi4 : i < 4 := (List.getElem?_eq_some_iff.1 hi).1
    rw [show (⟨r, 0, none⟩ : Addr).add (1 * k24.sz + i) = ⟨r, 4 + i, none⟩ by show Addr.add _ (1 * 4 + i) = _; unfold Addr.add; simp]
    rw [h.cell (4 + i), ← hi]
    match i, hi4 with
    | 0, _ => rfl
    | 1, _ => rfl
    | 2, _ => rfl
    | 3, _ => rfl
  | j + 2, hj => simp at hj
theorem uni_good (k : Int) (hk : k = 4 ∨ k = 5) (xa xb : S24) (ga : goodB xa = true) (gb : goodB xb = true) : goodB ⟨k, e0, e0, [xa, xb]⟩ = true := by
  have h0 : noB e0 = true := by unfold noB e0; rw [Lib.toList_data]; rfl
  rcases hk with rfl | rfl <;> simp [goodB, goodL, shapeB, ga, gb, h0]
theorem uni_sz (k : Int) (xa xb : S24) : sz ⟨k, e0, e0, [xa, xb]⟩ = 1 + sz xa + sz xb := by simp only [sz, szL]; omega
theorem uni_dep (k : Int) (xa xb : S24) : dep ⟨k, e0, e0, [xa, xb]⟩ = 1 + max (dep xa) (dep xb) := by simp only [dep, depL]; omega
theorem uni_refs (k : Int) (hk : k = 4 ∨ k = 5) (xa xb : S24) : refs ⟨k, e0, e0, [xa, xb]⟩ false = refs xa false ++ refs xb false := by
  rcases hk with rfl | rfl <;> simp [refs, refsL, flip]
theorem uni_dir (k : Int) (hk : k = 4 ∨ k = 5) (xa xb : S24) : dir ⟨k, e0, e0, [xa, xb]⟩ true false = (dir xa true false || dir xb true false) := by
  rcases hk with rfl | rfl <;> simp [dir, dirL, flip]
theorem uni_strs (k : Int) (xa xb : S24) (m : Nat) (ha : strs xa ≤ m) (hb : strs xb ≤ m) : strs ⟨k, e0, e0, [xa, xb]⟩ ≤ m := by
  have : e0.size = 0 := rfl
  simp only [strs, strsL]
  omega
theorem parts_code (xn xa xb : S24) (h : codeV xn = 0) (hs : sz xn = 1 + sz xa + sz xb) (hd : dep xn = 1 + max (dep xa) (dep xb)) (ga : goodB xa = true) (gb : goodB xb = true) : codeV xa = 0 ∧ codeV xb = 0 := by
  have h24 := code_sz xn h
  have h8 : dep xn ≤ 8 := by
    unfold codeV at h
    rw [if_neg (by rw [code_good xn h]; decide), if_neg (by omega)] at h
    by_cases h8 : 8 < dep xn
    · rw [if_pos h8] at h; exact absurd h (by decide)
    · omega
  unfold codeV
  rw [ga, gb, if_neg (by decide), if_neg (by omega), if_neg (by omega), if_neg (by decide), if_neg (by omega), if_neg (by omega)]
  exact ⟨rfl, rfl⟩
theorem bad_code (x : S24) (hg : goodB x = true) (h : codeV x ≠ 0) : codeV x = 3 ∨ codeV x = 12 := by
  unfold codeV at h ⊢
  rw [hg, if_neg (by decide)] at h ⊢
  split
  · exact .inl rfl
  · split
    · exact .inr rfl
    · rename_i h1 h2
      rw [if_neg h1, if_neg h2] at h
      exact absurd rfl h
set_option maxHeartbeats 16000000 in
set_option maxRecDepth 100000 in
theorem lawParts_calls (xa xb : S24) (hta : strs xa ≤ 9223372036854775807) (htb : strs xb ≤ 9223372036854775807) (A B : Option Addr) (ca cb : Nat) (meet : Bool) (w : World) (hCa : Kd.C k24 w A xa.f3.length xa.f3) (hca : xa.f3.length ≤ ca) (hCb : Kd.C k24 w B xb.f3.length xb.f3) (hcb : xb.f3.length ≤ cb) :
    Calls Try.prog 5 #[.agg (nodeA xa A ca), .agg (nodeA xb B cb), .bool meet] w fun e w' => e = .returned (.bool true) ∧ Below w.heap.size w w' := by
  obtain ⟨ka, hka⟩ := few_f xa
  obtain ⟨kb, hkb⟩ := few_f xb
  have HFA := Aside0.mk hka
  have HFB := Aside0.mk hkb
  obtain ⟨W0, hW0⟩ : ∃ W0, (w.alloc (.cells (nodeA xa A ca) TN)).alloc (.cells (nodeA xb B cb) TN) = W0 := ⟨_, rfl⟩
  obtain ⟨nx, hnx⟩ : ∃ nx, (w.alloc (.cells (nodeA xa A ca) TN)).heap.size = nx := ⟨_, rfl⟩
  have hnx' : w.heap.size + 1 = nx := by rw [← hnx]; simp
  have b0 : Below w.heap.size w W0 := by rw [← hW0]; exact ((Below.refl _ _).alloc (Nat.le_refl _) _).alloc (by simp) _
  have hRa : Blk W0 w.heap.size TN (nodeA xa A ca) := by rw [← hW0]; exact (Blk.new w TN (nodeA xa A ca)).alloc _
  have hRb : Blk W0 (w.heap.size + 1) TN (nodeA xb B cb) := by rw [hnx', ← hW0]; exact Blk.newAt hnx.symm
  have HCA := Aside0.mk hCa
  have HCB := Aside0.mk hCb
  have RA0 := Aside0.mk hRa
  have RB0 := Aside0.mk hRb
  have B0 := Aside0.mk b0
  have HW := Aside0.mk hW0
  clear hCa hCb hRa hRb b0 hka hkb hnx hnx' hW0
  go_enter Try.func5, Try.ntmps5
  go_wp2_with fail
  rw [HW.out]
  clear HW
  refine (awake_calls W0).mono ?_
  rintro e w1 ⟨rfl, b1⟩
  have B1 := Aside0.mk (B0.out.trans (b1.mono B0.out.size))
  have RA1 := Aside0.mk (RA0.out.below b1)
  have RB1 := Aside0.mk (RB0.out.below b1)
  clear b1 RA0 RB0 B0 
  have c0 := RA1.out.cell 0
  have c1 := RA1.out.cell 1
  have c2 := RA1.out.cell 2
  have c3 := RA1.out.cell 3
  have cl := RA1.out.lt
  go_wp2_with fail
  clear c0 c1 c2 c3 cl
  refine (stilelaw05_Few.calls ka xa.f0 xa.f1 xa.f2 A ca xa.f3 (fewB xa) w1 (Kd.C_below HCA.out B1.out) hca HFA.out).mono ?_
  rintro e w2 ⟨rfl, b2⟩
  have B2 := Aside0.mk (B1.out.trans (b2.mono B1.out.size))
  have RA2 := Aside0.mk (RA1.out.below b2)
  have RB2 := Aside0.mk (RB1.out.below b2)
  clear b2 RA1 RB1 B1 
  by_cases hsa : ¬ sz xa ≤ 300
  · have hf : fewB xa = false := decide_eq_false hsa
    rw [hf]
    clear hf hsa
    go_wp2_with fail
    refine (awake_calls w2).mono ?_
    rintro e w52 ⟨rfl, b52⟩
    have B52 := Aside0.mk (B2.out.trans (b52.mono B2.out.size))
    clear b52
    go_wp2
    go_ret
    exact ⟨rfl, B52.out⟩
  have hsa : sz xa ≤ 300 := Classical.not_not.1 hsa
  rw [show fewB xa = true from decide_eq_true hsa]
  have c0 := RB2.out.cell 0
  have c1 := RB2.out.cell 1
  have c2 := RB2.out.cell 2
  have c3 := RB2.out.cell 3
  have cl := RB2.out.lt
  go_wp2_with fail
  clear c0 c1 c2 c3 cl
  refine (stilelaw05_Few.calls kb xb.f0 xb.f1 xb.f2 B cb xb.f3 (fewB xb) w2 (Kd.C_below HCB.out B2.out) hcb HFB.out).mono ?_
  rintro e w3 ⟨rfl, b3⟩
  have B3 := Aside0.mk (B2.out.trans (b3.mono B2.out.size))
  have RA3 := Aside0.mk (RA2.out.below b3)
  have RB3 := Aside0.mk (RB2.out.below b3)
  clear b3 RA2 RB2 B2 
  by_cases hsb : ¬ sz xb ≤ 300
  · have hf : fewB xb = false := decide_eq_false hsb
    rw [hf]
    clear hf hsb
    go_wp2_with fail
    refine (awake_calls w3).mono ?_
    rintro e w53 ⟨rfl, b53⟩
    have B53 := Aside0.mk (B3.out.trans (b53.mono B3.out.size))
    clear b53
    go_wp2
    go_ret
    exact ⟨rfl, B53.out⟩
  have hsb : sz xb ≤ 300 := Classical.not_not.1 hsb
  rw [show fewB xb = true from decide_eq_true hsb]
  obtain ⟨ga, hga⟩ := (ev_good xa (by omega) hta).rounds
  obtain ⟨gb, hgb⟩ := (ev_good xb (by omega) htb).rounds
  have HGA := Aside0.mk (show stileref05_Good.f ga xa.f0 xa.f1 xa.f2 xa.f3 = some (goodB xa) from hga)
  have HGB := Aside0.mk (show stileref05_Good.f gb xb.f0 xb.f1 xb.f2 xb.f3 = some (goodB xb) from hgb)
  clear hga hgb
  have c0 := RA3.out.cell 0
  have c1 := RA3.out.cell 1
  have c2 := RA3.out.cell 2
  have c3 := RA3.out.cell 3
  have cl := RA3.out.lt
  go_wp2_with fail
  clear c0 c1 c2 c3 cl
  refine (stileref05_Good.calls ga xa.f0 xa.f1 xa.f2 A ca xa.f3 (goodB xa) w3 (Kd.C_below HCA.out B3.out) hca HGA.out).mono ?_
  rintro e w4 ⟨rfl, b4⟩
  have B4 := Aside0.mk (B3.out.trans (b4.mono B3.out.size))
  have RA4 := Aside0.mk (RA3.out.below b4)
  have RB4 := Aside0.mk (RB3.out.below b4)
  clear b4 RA3 RB3 B3 
  cases hgda : goodB xa
  case false =>
    go_wp2_with fail
    refine (awake_calls w4).mono ?_
    rintro e w54 ⟨rfl, b54⟩
    have B54 := Aside0.mk (B4.out.trans (b54.mono B4.out.size))
    clear b54
    go_wp2
    go_ret
    exact ⟨rfl, B54.out⟩
  have c0 := RB4.out.cell 0
  have c1 := RB4.out.cell 1
  have c2 := RB4.out.cell 2
  have c3 := RB4.out.cell 3
  have cl := RB4.out.lt
  go_wp2_with fail
  clear c0 c1 c2 c3 cl
  refine (stileref05_Good.calls gb xb.f0 xb.f1 xb.f2 B cb xb.f3 (goodB xb) w4 (Kd.C_below HCB.out B4.out) hcb HGB.out).mono ?_
  rintro e w5 ⟨rfl, b5⟩
  have B5 := Aside0.mk (B4.out.trans (b5.mono B4.out.size))
  have RA5 := Aside0.mk (RA4.out.below b5)
  have RB5 := Aside0.mk (RB4.out.below b5)
  clear b5 RA4 RB4 B4 
  cases hgdb : goodB xb
  case false =>
    clear hgda
    go_wp2_with fail
    refine (awake_calls w5).mono ?_
    rintro e w55 ⟨rfl, b55⟩
    have B55 := Aside0.mk (B5.out.trans (b55.mono B5.out.size))
    clear b55
    go_wp2
    go_ret
    exact ⟨rfl, B55.out⟩
  have GA := Aside0.mk hgda
  have GB := Aside0.mk hgdb
  clear hgda hgdb
  have c0 := RA5.out.cell 0
  have c1 := RA5.out.cell 1
  have c2 := RA5.out.cell 2
  have c3 := RA5.out.cell 3
  have cl := RA5.out.lt
  have d0 := RB5.out.cell 0
  have d1 := RB5.out.cell 1
  have d2 := RB5.out.cell 2
  have d3 := RB5.out.cell 3
  have dl := RB5.out.lt
  cases meet
  case true =>
    have hk : (5 : Int) = 4 ∨ (5 : Int) = 5 := by decide
    obtain ⟨r, hr⟩ : ∃ r, w5.heap.size = r := ⟨_, rfl⟩
    obtain ⟨W, hW⟩ : ∃ W, (w5.alloc (.cells #[.int .i64 xa.f0, .string xa.f1, .string xa.f2, .slice A xa.f3.length ca, .int .i64 xb.f0, .string xb.f1, .string xb.f2, .slice B xb.f3.length cb] TN)).alloc (.cells #[.int .i64 5, .string ⟨#[]⟩, .string ⟨#[]⟩, .slice (some ⟨w5.heap.size, 0, none⟩) 2 2] TN) = W := ⟨_, rfl⟩
    have bW : Below w5.heap.size w5 W := by rw [← hW]; exact ((Below.refl _ _).alloc (Nat.le_refl _) _).alloc (by simp) _
    have hRow : Blk W r TN #[.int .i64 xa.f0, .string xa.f1, .string xa.f2, .slice A xa.f3.length ca, .int .i64 xb.f0, .string xb.f1, .string xb.f2, .slice B xb.f3.length cb] := by rw [← hW]; exact (Blk.newAt hr.symm).alloc _
    have hN : Blk W (r + 1) TN #[.int .i64 5, .string ⟨#[]⟩, .string ⟨#[]⟩, .slice (some ⟨r, 0, none⟩) 2 2] := by rw [← hW, hr]; exact Blk.newAt (by simp [hr])
    have B6 := Aside0.mk (B5.out.trans (bW.mono B5.out.size))
    have RA6 := Aside0.mk (RA5.out.below bW)
    have RB6 := Aside0.mk (RB5.out.below bW)
    have RN6 := Aside0.mk hN
    have CW := Aside0.mk (pair_C hRow (Kd.C_below HCA.out B6.out) hca (Kd.C_below HCB.out B6.out) hcb)
    have HW := Aside0.mk hW
    have HR := Aside0.mk hr
    have gn := uni_good 5 hk xa xb GA.out GB.out
    have sn := uni_sz 5 xa xb
    have dn := uni_dep 5 xa xb
    have tn := uni_strs 5 xa xb 9223372036854775807 hta htb
    have hds := dep_le_sz xa
    have hdb := dep_le_sz xb
    have CWw : ∀ w', Below W.heap.size W w' → Kd.C k24 w' (some ⟨r, 0, none⟩) [xa, xb].length [xa, xb] := fun w' hw' => Kd.C_below CW.out hw'
    have CAw : ∀ w', Below W.heap.size W w' → Kd.C k24 w' A xa.f3.length xa.f3 := fun w' hw' => Kd.C_below HCA.out (B6.out.trans (hw'.mono B6.out.size))
    have CBw : ∀ w', Below W.heap.size W w' → Kd.C k24 w' B xb.f3.length xb.f3 := fun w' hw' => Kd.C_below HCB.out (B6.out.trans (hw'.mono B6.out.size))
    have D1 := Aside0.mk (show ∀ w', Below W.heap.size W w' → Calls Try.prog 17 #[.agg #[.int .i64 5, .string ⟨#[]⟩, .string ⟨#[]⟩, .slice (some ⟨r, 0, none⟩) 2 2]] w' fun e w'' => e = .returned (.bool true) ∧ Below w'.heap.size w' w'' from fun w' hw' => by rw [← gn]; exact good_at (⟨5, e0, e0, [xa, xb]⟩ : S24) (by omega) tn (some ⟨r, 0, none⟩) 2 w' (CWw w' hw') (Nat.le_refl _))
    obtain ⟨k1, hk1⟩ := (ev_size (⟨5, e0, e0, [xa, xb]⟩ : S24) (by omega)).rounds
    obtain ⟨k2, hk2⟩ := (ev_size xa (by omega)).rounds
    obtain ⟨k3, hk3⟩ := (ev_size xb (by omega)).rounds
    obtain ⟨k4, hk4⟩ := (ev_dep (⟨5, e0, e0, [xa, xb]⟩ : S24) (by omega)).rounds
    obtain ⟨k5, hk5⟩ := (ev_dep xa (by omega)).rounds
    obtain ⟨k6, hk6⟩ := (ev_dep xb (by omega)).rounds
    have D2 := Aside0.mk (show ∀ w', Below W.heap.size W w' → Calls Try.prog 18 #[.agg #[.int .i64 5, .string ⟨#[]⟩, .string ⟨#[]⟩, .slice (some ⟨r, 0, none⟩) 2 2]] w' fun e w'' => e = .returned (.int .i64 (sz (⟨5, e0, e0, [xa, xb]⟩ : S24) : Int)) ∧ Below w'.heap.size w' w'' from fun w' hw' => tract_Size.calls k1 5 e0 e0 (some ⟨r, 0, none⟩) 2 [xa, xb] _ w' (CWw w' hw') (Nat.le_refl _) hk1)
    have D3 := Aside0.mk (show ∀ w', Below W.heap.size W w' → Calls Try.prog 18 #[.agg (nodeA xa A ca)] w' fun e w'' => e = .returned (.int .i64 (sz xa : Int)) ∧ Below w'.heap.size w' w'' from fun w' hw' => tract_Size.calls k2 xa.f0 xa.f1 xa.f2 A ca xa.f3 _ w' (CAw w' hw') hca hk2)
    have D4 := Aside0.mk (show ∀ w', Below W.heap.size W w' → Calls Try.prog 18 #[.agg (nodeA xb B cb)] w' fun e w'' => e = .returned (.int .i64 (sz xb : Int)) ∧ Below w'.heap.size w' w'' from fun w' hw' => tract_Size.calls k3 xb.f0 xb.f1 xb.f2 B cb xb.f3 _ w' (CBw w' hw') hcb hk3)
    have D5 := Aside0.mk (show ∀ w', Below W.heap.size W w' → Calls Try.prog 19 #[.agg #[.int .i64 5, .string ⟨#[]⟩, .string ⟨#[]⟩, .slice (some ⟨r, 0, none⟩) 2 2]] w' fun e w'' => e = .returned (.int .i64 (dep (⟨5, e0, e0, [xa, xb]⟩ : S24) : Int)) ∧ Below w'.heap.size w' w'' from fun w' hw' => tract_Depth.calls k4 5 e0 e0 (some ⟨r, 0, none⟩) 2 [xa, xb] _ w' (CWw w' hw') (Nat.le_refl _) hk4)
    have D6 := Aside0.mk (show ∀ w', Below W.heap.size W w' → Calls Try.prog 19 #[.agg (nodeA xa A ca)] w' fun e w'' => e = .returned (.int .i64 (dep xa : Int)) ∧ Below w'.heap.size w' w'' from fun w' hw' => tract_Depth.calls k5 xa.f0 xa.f1 xa.f2 A ca xa.f3 _ w' (CAw w' hw') hca hk5)
    have D7 := Aside0.mk (show ∀ w', Below W.heap.size W w' → Calls Try.prog 19 #[.agg (nodeA xb B cb)] w' fun e w'' => e = .returned (.int .i64 (dep xb : Int)) ∧ Below w'.heap.size w' w'' from fun w' hw' => tract_Depth.calls k6 xb.f0 xb.f1 xb.f2 B cb xb.f3 _ w' (CBw w' hw') hcb hk6)
    have q1 : IntKind.i64.wrap (1 + (sz xa : Int)) = 1 + (sz xa : Int) := IntWalk.i64_in _ (by omega)
    have q2 : IntKind.i64.wrap (1 + (sz xa : Int) + (sz xb : Int)) = 1 + (sz xa : Int) + (sz xb : Int) := IntWalk.i64_in _ (by omega)
    have q3 : ((sz (⟨5, e0, e0, [xa, xb]⟩ : S24) : Int) != 1 + (sz xa : Int) + (sz xb : Int)) = false := bne_eq_false_iff_eq.2 (by omega)
    obtain ⟨mm, hmm⟩ : ∃ mm : Int, mm = ((max (dep xa) (dep xb) : Nat) : Int) := ⟨_, rfl⟩
    have hmx : (if dep xa < dep xb then (dep xb : Int) else (dep xa : Int)) = mm := by rw [hmm]; split <;> omega
    have q4 : IntKind.i64.wrap (1 + mm) = 1 + mm := IntWalk.i64_in _ (by rw [hmm]; omega)
    have q5 : ((dep (⟨5, e0, e0, [xa, xb]⟩ : S24) : Int) != 1 + mm) = false := bne_eq_false_iff_eq.2 (by rw [hmm]; omega)
    clear hmm
    have SN := Aside0.mk sn
    have DN := Aside0.mk dn
    have GN := Aside0.mk gn
    have TN' := Aside0.mk tn
    have CWW := Aside0.mk CWw
    have CAW := Aside0.mk CAw
    have CBW := Aside0.mk CBw
    clear hk1 hk2 hk3 hk4 hk5 hk6 gn tn sn dn hds hdb CWw CAw CBw hRow hN bW hW hr CW
    go_wp2_with fail
    rw [HW.out, HR.out]
    clear RA5 RB5 B5 HW HR c0 c1 c2 c3 cl d0 d1 d2 d3 dl
    refine Qt.wp_region_all (fun w' => Below W.heap.size W w') (by kernel_rfl) (by kernel_rfl) (Below.refl _ _).drew ?_
    ((first | (with_reducible refine Qt.q_val' rfl ?_) | ((with_reducible refine Qg.on_val' ?_); apply Exists.intro; apply Exists.intro; apply Exists.intro; refine ⟨?_, ?_, ?_, ?_⟩; (focus rfl); (focus rfl); (focus rfl))); apply Exists.intro; refine ⟨?_, ?_⟩; (focus (intro w' hw'; have hRn := RN6.out.below hw'; have n0 := hRn.cell 0; have n1 := hRn.cell 1; have n2 := hRn.cell 2; have n3 := hRn.cell 3; have nl := hRn.lt; go_simp; (first | done | (with_reducible rfl)))); intro K hK; go_simp; refine hK _ ?_; clear hK K)
    ((first | (with_reducible refine Qt.q_call' rfl ?_) | ((with_reducible refine Qg.on_call' ?_); apply Exists.intro; apply Exists.intro; apply Exists.intro; refine ⟨?_, ?_, ?_, ?_⟩; (focus rfl); (focus rfl); (focus rfl))); apply Exists.intro; apply Exists.intro; refine ⟨?_, ?_⟩; (focus (intro w'; go_simp; (first | rfl | exact ⟨rfl, rfl⟩))); apply Exists.intro; refine ⟨?_, ?_⟩; (focus (intro w' hw'; first | exact Qt.under hw' (D1.out _ hw'))); intro K hK; go_simp; refine hK _ ?_; clear hK K)
    iterate 2 ((first | (with_reducible refine Qt.q_val' rfl ?_) | ((with_reducible refine Qg.on_val' ?_); apply Exists.intro; apply Exists.intro; apply Exists.intro; refine ⟨?_, ?_, ?_, ?_⟩; (focus rfl); (focus rfl); (focus rfl))); apply Exists.intro; refine ⟨?_, ?_⟩; (focus (intro w' hw'; skip; go_simp; (first | done | (with_reducible rfl)))); intro K hK; go_simp; refine hK _ ?_; clear hK K)
    ((first | (with_reducible refine Qt.q_val' rfl ?_) | ((with_reducible refine Qg.on_val' ?_); apply Exists.intro; apply Exists.intro; apply Exists.intro; refine ⟨?_, ?_, ?_, ?_⟩; (focus rfl); (focus rfl); (focus rfl))); apply Exists.intro; refine ⟨?_, ?_⟩; (focus (intro w' hw'; have hRn := RN6.out.below hw'; have n0 := hRn.cell 0; have n1 := hRn.cell 1; have n2 := hRn.cell 2; have n3 := hRn.cell 3; have nl := hRn.lt; go_simp; (first | done | (with_reducible rfl)))); intro K hK; go_simp; refine hK _ ?_; clear hK K)
    ((first | (with_reducible refine Qt.q_call' rfl ?_) | ((with_reducible refine Qg.on_call' ?_); apply Exists.intro; apply Exists.intro; apply Exists.intro; refine ⟨?_, ?_, ?_, ?_⟩; (focus rfl); (focus rfl); (focus rfl))); apply Exists.intro; apply Exists.intro; refine ⟨?_, ?_⟩; (focus (intro w'; go_simp; (first | rfl | exact ⟨rfl, rfl⟩))); apply Exists.intro; refine ⟨?_, ?_⟩; (focus (intro w' hw'; first | exact Qt.under hw' (D2.out _ hw'))); intro K hK; go_simp; refine hK _ ?_; clear hK K)
    ((first | (with_reducible refine Qt.q_val' rfl ?_) | ((with_reducible refine Qg.on_val' ?_); apply Exists.intro; apply Exists.intro; apply Exists.intro; refine ⟨?_, ?_, ?_, ?_⟩; (focus rfl); (focus rfl); (focus rfl))); apply Exists.intro; refine ⟨?_, ?_⟩; (focus (intro w' hw'; have hRn := RA6.out.below hw'; have n0 := hRn.cell 0; have n1 := hRn.cell 1; have n2 := hRn.cell 2; have n3 := hRn.cell 3; have nl := hRn.lt; go_simp; (first | done | (with_reducible rfl)))); intro K hK; go_simp; refine hK _ ?_; clear hK K)
    ((first | (with_reducible refine Qt.q_call' rfl ?_) | ((with_reducible refine Qg.on_call' ?_); apply Exists.intro; apply Exists.intro; apply Exists.intro; refine ⟨?_, ?_, ?_, ?_⟩; (focus rfl); (focus rfl); (focus rfl))); apply Exists.intro; apply Exists.intro; refine ⟨?_, ?_⟩; (focus (intro w'; go_simp; (first | rfl | exact ⟨rfl, rfl⟩))); apply Exists.intro; refine ⟨?_, ?_⟩; (focus (intro w' hw'; first | exact Qt.under hw' (D3.out _ hw'))); intro K hK; go_simp; refine hK _ ?_; clear hK K)
    ((first | (with_reducible refine Qt.q_val' rfl ?_) | ((with_reducible refine Qg.on_val' ?_); apply Exists.intro; apply Exists.intro; apply Exists.intro; refine ⟨?_, ?_, ?_, ?_⟩; (focus rfl); (focus rfl); (focus rfl))); apply Exists.intro; refine ⟨?_, ?_⟩; (focus (intro w' hw'; skip; go_simp; (first | done | (with_reducible rfl)))); intro K hK; go_simp; refine hK _ ?_; clear hK K)
    ((first | (with_reducible refine Qt.q_val' rfl ?_) | ((with_reducible refine Qg.on_val' ?_); apply Exists.intro; apply Exists.intro; apply Exists.intro; refine ⟨?_, ?_, ?_, ?_⟩; (focus rfl); (focus rfl); (focus rfl))); apply Exists.intro; refine ⟨?_, ?_⟩; (focus (intro w' hw'; have hRn := RB6.out.below hw'; have n0 := hRn.cell 0; have n1 := hRn.cell 1; have n2 := hRn.cell 2; have n3 := hRn.cell 3; have nl := hRn.lt; go_simp; (first | done | (with_reducible rfl)))); intro K hK; go_simp; refine hK _ ?_; clear hK K)
    ((first | (with_reducible refine Qt.q_call' rfl ?_) | ((with_reducible refine Qg.on_call' ?_); apply Exists.intro; apply Exists.intro; apply Exists.intro; refine ⟨?_, ?_, ?_, ?_⟩; (focus rfl); (focus rfl); (focus rfl))); apply Exists.intro; apply Exists.intro; refine ⟨?_, ?_⟩; (focus (intro w'; go_simp; (first | rfl | exact ⟨rfl, rfl⟩))); apply Exists.intro; refine ⟨?_, ?_⟩; (focus (intro w' hw'; first | exact Qt.under hw' (D4.out _ hw'))); intro K hK; go_simp; refine hK _ ?_; clear hK K)
    iterate 4 ((first | (with_reducible refine Qt.q_val' rfl ?_) | ((with_reducible refine Qg.on_val' ?_); apply Exists.intro; apply Exists.intro; apply Exists.intro; refine ⟨?_, ?_, ?_, ?_⟩; (focus rfl); (focus rfl); (focus rfl))); apply Exists.intro; refine ⟨?_, ?_⟩; (focus (intro w' hw'; skip; go_simp; (first | done | (with_reducible rfl)))); intro K hK; go_simp; refine hK _ ?_; clear hK K)
    ((first | (with_reducible refine Qt.q_val' rfl ?_) | ((with_reducible refine Qg.on_val' ?_); apply Exists.intro; apply Exists.intro; apply Exists.intro; refine ⟨?_, ?_, ?_, ?_⟩; (focus rfl); (focus rfl); (focus rfl))); apply Exists.intro; refine ⟨?_, ?_⟩; (focus (intro w' hw'; have hRn := RN6.out.below hw'; have n0 := hRn.cell 0; have n1 := hRn.cell 1; have n2 := hRn.cell 2; have n3 := hRn.cell 3; have nl := hRn.lt; go_simp; (first | done | (with_reducible rfl)))); intro K hK; go_simp; refine hK _ ?_; clear hK K)
    ((first | (with_reducible refine Qt.q_call' rfl ?_) | ((with_reducible refine Qg.on_call' ?_); apply Exists.intro; apply Exists.intro; apply Exists.intro; refine ⟨?_, ?_, ?_, ?_⟩; (focus rfl); (focus rfl); (focus rfl))); apply Exists.intro; apply Exists.intro; refine ⟨?_, ?_⟩; (focus (intro w'; go_simp; (first | rfl | exact ⟨rfl, rfl⟩))); apply Exists.intro; refine ⟨?_, ?_⟩; (focus (intro w' hw'; first | exact Qt.under hw' (D5.out _ hw'))); intro K hK; go_simp; refine hK _ ?_; clear hK K)
    ((first | (with_reducible refine Qt.q_val' rfl ?_) | ((with_reducible refine Qg.on_val' ?_); apply Exists.intro; apply Exists.intro; apply Exists.intro; refine ⟨?_, ?_, ?_, ?_⟩; (focus rfl); (focus rfl); (focus rfl))); apply Exists.intro; refine ⟨?_, ?_⟩; (focus (intro w' hw'; have hRn := RA6.out.below hw'; have n0 := hRn.cell 0; have n1 := hRn.cell 1; have n2 := hRn.cell 2; have n3 := hRn.cell 3; have nl := hRn.lt; go_simp; (first | done | (with_reducible rfl)))); intro K hK; go_simp; refine hK _ ?_; clear hK K)
    ((first | (with_reducible refine Qt.q_call' rfl ?_) | ((with_reducible refine Qg.on_call' ?_); apply Exists.intro; apply Exists.intro; apply Exists.intro; refine ⟨?_, ?_, ?_, ?_⟩; (focus rfl); (focus rfl); (focus rfl))); apply Exists.intro; apply Exists.intro; refine ⟨?_, ?_⟩; (focus (intro w'; go_simp; (first | rfl | exact ⟨rfl, rfl⟩))); apply Exists.intro; refine ⟨?_, ?_⟩; (focus (intro w' hw'; first | exact Qt.under hw' (D6.out _ hw'))); intro K hK; go_simp; refine hK _ ?_; clear hK K)
    ((first | (with_reducible refine Qt.q_val' rfl ?_) | ((with_reducible refine Qg.on_val' ?_); apply Exists.intro; apply Exists.intro; apply Exists.intro; refine ⟨?_, ?_, ?_, ?_⟩; (focus rfl); (focus rfl); (focus rfl))); apply Exists.intro; refine ⟨?_, ?_⟩; (focus (intro w' hw'; have hRn := RB6.out.below hw'; have n0 := hRn.cell 0; have n1 := hRn.cell 1; have n2 := hRn.cell 2; have n3 := hRn.cell 3; have nl := hRn.lt; go_simp; (first | done | (with_reducible rfl)))); intro K hK; go_simp; refine hK _ ?_; clear hK K)
    ((first | (with_reducible refine Qt.q_call' rfl ?_) | ((with_reducible refine Qg.on_call' ?_); apply Exists.intro; apply Exists.intro; apply Exists.intro; refine ⟨?_, ?_, ?_, ?_⟩; (focus rfl); (focus rfl); (focus rfl))); apply Exists.intro; apply Exists.intro; refine ⟨?_, ?_⟩; (focus (intro w'; go_simp; (first | rfl | exact ⟨rfl, rfl⟩))); apply Exists.intro; refine ⟨?_, ?_⟩; (focus (intro w' hw'; first | exact Qt.under hw' (D7.out _ hw'))); intro K hK; go_simp; refine hK _ ?_; clear hK K)
    iterate 4 ((first | (with_reducible refine Qt.q_val' rfl ?_) | ((with_reducible refine Qg.on_val' ?_); apply Exists.intro; apply Exists.intro; apply Exists.intro; refine ⟨?_, ?_, ?_, ?_⟩; (focus rfl); (focus rfl); (focus rfl))); apply Exists.intro; refine ⟨?_, ?_⟩; (focus (intro w' hw'; skip; go_simp; (first | done | (with_reducible rfl)))); intro K hK; go_simp; refine hK _ ?_; clear hK K)
    (refine wpQuiet_nil ?_; intro w' hw')
    have B7 := Aside0.mk (B6.out.trans (hw'.mono B6.out.size))
    have RA7 := Aside0.mk (RA6.out.below hw')
    have RB7 := Aside0.mk (RB6.out.below hw')
    have hRN := RN6.out.below hw'
    have n0 := hRN.cell 0
    have n1 := hRN.cell 1
    have n2 := hRN.cell 2
    have n3 := hRN.cell 3
    have nl := hRN.lt
    have KB := Aside0.mk (buildR_calls (⟨5, e0, e0, [xa, xb]⟩ : S24) (by rw [SN.out]; omega) TN'.out (some ⟨r, 0, none⟩) 2 w' (CWW.out w' hw') (Nat.le_refl _))
    have HW7 := Aside0.mk hw'
    clear hw' q1 q2 q3 q4 q5 hRN hmx
    go_wp2_with fail
    clear n0 n1 n2 n3 nl
    refine KB.out.mono ?_
    rintro e w8 ⟨vn, rfl, hv0, hv1, b8⟩
    have B8 := Aside0.mk (B7.out.trans (b8.mono B7.out.size))
    have RA8 := RA7.out.below b8
    have RB8 := Aside0.mk (RB7.out.below b8)
    by_cases hcd : codeV (⟨5, e0, e0, [xa, xb]⟩ : S24) = 0
    case neg =>
      obtain rfl := hv1 hcd
      have hb := bad_code _ GN.out hcd
      clear hv0 hv1 b8 KB hcd RA8
      rcases hb with hb | hb
      all_goals
        rw [hb]
        clear hb
        go_wp2
        go_ret
        exact ⟨rfl, B8.out⟩
    have hE := ER_bound (hv0 hcd)
    obtain ⟨hca0, hcb0⟩ := parts_code _ xa xb hcd SN.out DN.out GA.out GB.out
    have hzn := code_sz _ hcd
    rw [hcd]
    obtain ⟨tn, un, rfl⟩ := ER_iface hE
    have E8 := Aside0.mk hE
    have HCA0 := Aside0.mk hca0
    have HCB0 := Aside0.mk hcb0
    have KA := Aside0.mk (buildR_calls xa (by omega) hta A ca w8 (Kd.C_below HCA.out B8.out) hca)
    have n0 := RA8.cell 0
    have n1 := RA8.cell 1
    have n2 := RA8.cell 2
    have n3 := RA8.cell 3
    have nl := RA8.lt
    clear hv0 hv1 b8 KB hcd hE hca0 hcb0 RA8
    go_wp2_with fail
    clear n0 n1 n2 n3 nl
    refine KA.out.mono ?_
    rintro e w9 ⟨va, rfl, hv0, -, b9⟩
    have hEa := ER_bound (hv0 HCA0.out)
    rw [HCA0.out]
    obtain ⟨ta, ua, rfl⟩ := ER_iface hEa
    have B9 := Aside0.mk (B8.out.trans (b9.mono B8.out.size))
    have E9 := Aside0.mk (ER_bound (ER_keep (Keep.of_below b9) E8.out))
    have EA9 := Aside0.mk hEa
    have RB9 := RB8.out.below b9
    have KBb := Aside0.mk (buildR_calls xb (by omega) htb B cb w9 (Kd.C_below HCB.out B9.out) hcb)
    have n0 := RB9.cell 0
    have n1 := RB9.cell 1
    have n2 := RB9.cell 2
    have n3 := RB9.cell 3
    have nl := RB9.lt
    clear hv0 b9 KA hEa E8 B8 RB9
    go_wp2_with fail
    clear n0 n1 n2 n3 nl
    refine KBb.out.mono ?_
    rintro e w10 ⟨vb, rfl, hv0, -, b10⟩
    have hEb := ER_bound (hv0 HCB0.out)
    rw [HCB0.out]
    obtain ⟨tb, ub, rfl⟩ := ER_iface hEb
    obtain ⟨N, hN⟩ : ∃ N, w10.heap.size = N := ⟨_, rfl⟩
    have B10 := Aside0.mk (B9.out.trans (b10.mono B9.out.size))
    have E10 := Aside0.mk (show ER (fun k => k < N) w10 _ _ by rw [← hN]; exact ER_bound (ER_keep (Keep.of_below b10) E9.out))
    have EA10 := Aside0.mk (show ER (fun k => k < N) w10 _ _ by rw [← hN]; exact ER_bound (ER_keep (Keep.of_below b10) EA9.out))
    have EB10 := Aside0.mk (show ER (fun k => k < N) w10 _ _ by rw [← hN]; exact hEb)
    have HN := Aside0.mk hN
    have ERN := Aside0.mk (show ∀ (x : S24) (v : Value) (w' : World), ER (fun k => k < N) w10 x v → Below N w10 w' → ER (fun k => k < N) w' x v from fun x v w' h hb => ER_up (fun k hk _ => hb.block k hk) (fun _ hk _ => hk) x v h)
    clear hv0 b10 KBb hEb E9 EA9 B9 hN
    go_wp2_with fail
    refine (refsP_calls _ xa (by omega) GA.out (.iface ta ua) w10 EA10.out (fun k hk => by rw [HN.out]; exact hk)).mono ?_
    rintro e w11 ⟨vra, rfl, r11, b11⟩
    obtain ⟨Ara, cra, rfl⟩ := Kd.R_slice r11
    rw [HN.out] at r11 b11
    have hs11 := b11.size
    have B11 := Aside0.mk b11
    have R11 := Aside0.mk r11
    clear r11 b11
    go_wp2_with fail
    refine (refsP_calls _ xb (by omega) GB.out (.iface tb ub) w11 (ERN.out _ _ _ EB10.out B11.out) (fun k hk => by have := HN.out; have : k < N := hk; omega)).mono ?_
    rintro e w12 ⟨vrb, rfl, r12, b12⟩
    obtain ⟨Arb, crb, rfl⟩ := Kd.R_slice r12
    have hs12 := b12.size
    have R12 := Aside0.mk (Kd.R_below R11.out b12)
    have C12 := Aside0.mk (Kd.R_reads' r12).2.2
    have B12 := Aside0.mk (B11.out.trans (b12.mono (by have := HN.out; omega)))
    have hbase : N ≤ w12.heap.size := by have := HN.out; omega
    have hla := refs_len xa false
    have hlb := refs_len xb false
    have hlen : ((refs xa false).length + (refs xb false).length) * 40 ≤ 140737488355328 := by omega
    have hur := uni_refs 5 (by decide) xa xb
    have HUR := Aside0.mk hur
    have HKM := Aside0.mk (show ∀ (x : S41) (cs : List Value), k41.K w12 x cs → k41.M w12 N (fun _ => False) x cs from fun x cs h => by obtain rfl := k41_open h; exact k41_mkM w12 N _ x)
    obtain ⟨la, hlae⟩ : ∃ la, refs xa false = la := ⟨_, rfl⟩
    obtain ⟨lb, hlbe⟩ : ∃ lb, refs xb false = lb := ⟨_, rfl⟩
    rw [hlae] at R12 hlen HUR
    rw [hlbe] at C12 hlen HUR
    rw [hlae, hlbe]
    clear r12 b12 R11 B11 hla hlb hur hlae hlbe
    go_wp2_with (at_builtin; refine Kd.R_append_rows k41 (Rr := k41.K w12) (w0 := w12) N rfl (.tmp 101) (.tmp 103) TRs TR (.agg #[.string ⟨#[]⟩, .string ⟨#[]⟩, .bool false]) 40 rfl Try.underlying36 infoR rfl (by decide) (by decide) _ la lb Arb lb.length crb (fun _ => True) (fun _ => False) rfl rfl R12.out C12.out HKM.out (fun _ hk => hk.elim) (fun _ _ => trivial) (Below.refl _ _) hbase hlen ?_)
    intro v13 w13 r13 b13 g13 at13
    rw [← HUR.out] at r13
    obtain ⟨A13, c13, rfl⟩ := Kd.R_slice r13
    have hs13 := b13.size
    have B13 := Aside0.mk (B12.out.trans b13)
    have R13 := Aside0.mk r13
    clear r13 b13 g13 at13 R12 C12 B12 hlen HKM
    go_wp2_with fail
    refine (refsP_calls _ _ (by omega) GN.out (.iface tn un) w13 (ERN.out _ _ _ E10.out B13.out) (fun k hk => by have := HN.out; have : k < N := hk; omega)).mono ?_
    rintro e w14 ⟨v14, rfl, r14, b14⟩
    obtain ⟨A14, c14, rfl⟩ := Kd.R_slice r14
    have hs14 := b14.size
    have C13 := Aside0.mk (Kd.C_below (Kd.R_reads' R13.out).2.2 b14)
    have C14 := Aside0.mk (Kd.R_reads' r14).2.2
    have B14 := Aside0.mk (B13.out.trans (b14.mono (by have := HN.out; omega)))
    have hrl := refs_len (⟨5, e0, e0, [xa, xb]⟩ : S24) false
    have hnr24 : (refs (⟨5, e0, e0, [xa, xb]⟩ : S24) false).length ≤ 24 := by omega
    obtain ⟨rs, hrs⟩ : ∃ rs, refs (⟨5, e0, e0, [xa, xb]⟩ : S24) false = rs := ⟨_, rfl⟩
    rw [hrs] at C13 C14 hnr24
    rw [hrs]
    obtain ⟨nr, hnr⟩ : ∃ nr, rs.length = nr := ⟨_, rfl⟩
    rw [hnr] at C13 C14 hnr24
    rw [hnr]
    clear r14 b14 R13 B13 hrl hrs hnr HUR
    go_wp2
    go_loopw [114] (fun v114 wr => ∃ i : Nat, v114 = .int .i64 (i : Int) ∧ Aside0 (i ≤ nr) ∧ Aside0 (Below w14.heap.size w14 wr)) (fun v114 _ => nr - (intOf v114).toNat)
    case atStart => exact ⟨0, rfl, ⟨Nat.zero_le _⟩, ⟨Below.refl _ _⟩⟩
    case round =>
      obtain ⟨i, rfl, hin, hb⟩ := hrel
      by_cases hi : i < nr
      · have t1 : decide ((i : Int) < (nr : Int)) = true := decide_eq_true (by omega)
        have h0 : (0 : Int) ≤ (i : Int) := by omega
        have h1 : (i : Int) < (nr : Int) := by omega
        obtain ⟨ad, eA, x0, x1, x2⟩ := at_T41 (Kd.C_below C13.out hb.out) (i : Int) h0 h1
        obtain ⟨ad', eA', z0, z1, z2⟩ := at_T41 (Kd.C_below C14.out hb.out) (i : Int) h0 h1
        cases eA
        cases eA'
        rw [Int.toNat_natCast] at x0 x1 x2 z0 z1 z2
        generalize rd_T41 rs (i : Int) = y at *
        have p0 := eq_true h0
        have p1 := eq_true h1
        have hw : IntKind.i64.wrap ((i : Int) + 1) = ((i + 1 : Nat) : Int) := by rw [show ((i : Int) + 1) = ((i + 1 : Nat) : Int) by omega]; exact IntWalk.i64_in _ (by omega)
        go_wp2_with fail
        refine Qt.wp_region_all (fun w' => Below wr.heap.size wr w') (by kernel_rfl) (by kernel_rfl) (Below.refl _ _).drew ?_
        iterate 9 ((first | (with_reducible refine Qt.q_val' rfl ?_) | ((with_reducible refine Qg.on_val' ?_); apply Exists.intro; apply Exists.intro; apply Exists.intro; refine ⟨?_, ?_, ?_, ?_⟩; (focus rfl); (focus rfl); (focus rfl))); apply Exists.intro; refine ⟨?_, ?_⟩; (focus (intro w' hw'; have xw0 := (hw'.cell (World.block_lt_of_cell? wr _ x0)).trans x0; have xw1 := (hw'.cell (World.block_lt_of_cell? wr _ x1)).trans x1; have xw2 := (hw'.cell (World.block_lt_of_cell? wr _ x2)).trans x2; have zw0 := (hw'.cell (World.block_lt_of_cell? wr _ z0)).trans z0; have zw1 := (hw'.cell (World.block_lt_of_cell? wr _ z1)).trans z1; have zw2 := (hw'.cell (World.block_lt_of_cell? wr _ z2)).trans z2; go_simp; (first | done | (with_reducible rfl)))); intro K hK; go_simp; refine hK _ ?_; clear hK K)
        (refine wpQuiet_nil ?_; intro w' hw')
        have HB := Aside0.mk (hb.out.trans (hw'.mono hb.out.size))
        clear hw' x0 x1 x2 z0 z1 z2
        go_wp2
        go_roundw
        case rel => exact ⟨i + 1, by first | rfl | (rw [hw]) | go_num | simp [hw], ⟨by omega⟩, HB⟩
        case measure => simp [intOf, hw]; omega
      · have t1 : decide ((i : Int) < (nr : Int)) = false := decide_eq_false (by omega)
        have BR := Aside0.mk (B14.out.trans (hb.out.mono (by have := HN.out; omega)))
        have hsr := hb.out.size
        have hud := uni_dir 5 (by decide) xa xb
        have HUD := Aside0.mk hud
        clear hb hud
        go_wp2_with fail
        refine (directP_calls _ _ (by omega) GN.out true (.iface tn un) wr (ERN.out _ _ _ E10.out BR.out) (fun k hk => by have := HN.out; have : k < N := hk; omega)).mono ?_
        rintro e w15 ⟨rfl, b15⟩
        have hs15 := b15.size
        have B15 := Aside0.mk (BR.out.trans (b15.mono (by have := HN.out; omega)))
        rw [HUD.out]
        clear b15
        go_wp2_with fail
        refine (directP_calls _ xa (by omega) GA.out true (.iface ta ua) w15 (ERN.out _ _ _ EA10.out B15.out) (fun k hk => by have := HN.out; have : k < N := hk; omega)).mono ?_
        rintro e w16 ⟨rfl, b16⟩
        have hs16 := b16.size
        have B16 := Aside0.mk (B15.out.trans (b16.mono (by have := HN.out; omega)))
        clear b16
        obtain ⟨da, hda⟩ : ∃ d, dir xa true false = d := ⟨_, rfl⟩
        rw [hda]
        cases da with
        | true =>
          have HE := Aside0.mk (B10.out.trans (B16.out.mono (by have := HN.out; have := B10.out.size; omega)))
          clear hda
          go_wp2
          go_ret
          exact ⟨by first | rfl | simp, HE.out⟩
        | false =>
          clear hda
          go_wp2_with fail
          refine (directP_calls _ xb (by omega) GB.out true (.iface tb ub) w16 (ERN.out _ _ _ EB10.out B16.out) (fun k hk => by have := HN.out; have : k < N := hk; omega)).mono ?_
          rintro e w17 ⟨rfl, b17⟩
          have HE := Aside0.mk (B10.out.trans ((B16.out.trans (b17.mono (by have := HN.out; omega))).mono (by have := HN.out; have := B10.out.size; omega)))
          obtain ⟨db, hdb⟩ : ∃ d, dir xb true false = d := ⟨_, rfl⟩
          rw [hdb]
          clear b17 hdb
          go_wp2
          go_ret
          exact ⟨by first | rfl | simp, HE.out⟩
  case false =>
    have hk : (4 : Int) = 4 ∨ (4 : Int) = 5 := by decide
    obtain ⟨r, hr⟩ : ∃ r, w5.heap.size = r := ⟨_, rfl⟩
    obtain ⟨W, hW⟩ : ∃ W, (w5.alloc (.cells #[.int .i64 xa.f0, .string xa.f1, .string xa.f2, .slice A xa.f3.length ca, .int .i64 xb.f0, .string xb.f1, .string xb.f2, .slice B xb.f3.length cb] TN)).alloc (.cells #[.int .i64 4, .string ⟨#[]⟩, .string ⟨#[]⟩, .slice (some ⟨w5.heap.size, 0, none⟩) 2 2] TN) = W := ⟨_, rfl⟩
    have bW : Below w5.heap.size w5 W := by rw [← hW]; exact ((Below.refl _ _).alloc (Nat.le_refl _) _).alloc (by simp) _
    have hRow : Blk W r TN #[.int .i64 xa.f0, .string xa.f1, .string xa.f2, .slice A xa.f3.length ca, .int .i64 xb.f0, .string xb.f1, .string xb.f2, .slice B xb.f3.length cb] := by rw [← hW]; exact (Blk.newAt hr.symm).alloc _
    have hN : Blk W (r + 1) TN #[.int .i64 4, .string ⟨#[]⟩, .string ⟨#[]⟩, .slice (some ⟨r, 0, none⟩) 2 2] := by rw [← hW, hr]; exact Blk.newAt (by simp [hr])
    have B6 := Aside0.mk (B5.out.trans (bW.mono B5.out.size))
    have RA6 := Aside0.mk (RA5.out.below bW)
    have RB6 := Aside0.mk (RB5.out.below bW)
    have RN6 := Aside0.mk hN
    have CW := Aside0.mk (pair_C hRow (Kd.C_below HCA.out B6.out) hca (Kd.C_below HCB.out B6.out) hcb)
    have HW := Aside0.mk hW
    have HR := Aside0.mk hr
    have gn := uni_good 4 hk xa xb GA.out GB.out
    have sn := uni_sz 4 xa xb
    have dn := uni_dep 4 xa xb
    have tn := uni_strs 4 xa xb 9223372036854775807 hta htb
    have hds := dep_le_sz xa
    have hdb := dep_le_sz xb
    have CWw : ∀ w', Below W.heap.size W w' → Kd.C k24 w' (some ⟨r, 0, none⟩) [xa, xb].length [xa, xb] := fun w' hw' => Kd.C_below CW.out hw'
    have CAw : ∀ w', Below W.heap.size W w' → Kd.C k24 w' A xa.f3.length xa.f3 := fun w' hw' => Kd.C_below HCA.out (B6.out.trans (hw'.mono B6.out.size))
    have CBw : ∀ w', Below W.heap.size W w' → Kd.C k24 w' B xb.f3.length xb.f3 := fun w' hw' => Kd.C_below HCB.out (B6.out.trans (hw'.mono B6.out.size))
    have D1 := Aside0.mk (show ∀ w', Below W.heap.size W w' → Calls Try.prog 17 #[.agg #[.int .i64 4, .string ⟨#[]⟩, .string ⟨#[]⟩, .slice (some ⟨r, 0, none⟩) 2 2]] w' fun e w'' => e = .returned (.bool true) ∧ Below w'.heap.size w' w'' from fun w' hw' => by rw [← gn]; exact good_at (⟨4, e0, e0, [xa, xb]⟩ : S24) (by omega) tn (some ⟨r, 0, none⟩) 2 w' (CWw w' hw') (Nat.le_refl _))
    obtain ⟨k1, hk1⟩ := (ev_size (⟨4, e0, e0, [xa, xb]⟩ : S24) (by omega)).rounds
    obtain ⟨k2, hk2⟩ := (ev_size xa (by omega)).rounds
    obtain ⟨k3, hk3⟩ := (ev_size xb (by omega)).rounds
    obtain ⟨k4, hk4⟩ := (ev_dep (⟨4, e0, e0, [xa, xb]⟩ : S24) (by omega)).rounds
    obtain ⟨k5, hk5⟩ := (ev_dep xa (by omega)).rounds
    obtain ⟨k6, hk6⟩ := (ev_dep xb (by omega)).rounds
    have D2 := Aside0.mk (show ∀ w', Below W.heap.size W w' → Calls Try.prog 18 #[.agg #[.int .i64 4, .string ⟨#[]⟩, .string ⟨#[]⟩, .slice (some ⟨r, 0, none⟩) 2 2]] w' fun e w'' => e = .returned (.int .i64 (sz (⟨4, e0, e0, [xa, xb]⟩ : S24) : Int)) ∧ Below w'.heap.size w' w'' from fun w' hw' => tract_Size.calls k1 4 e0 e0 (some ⟨r, 0, none⟩) 2 [xa, xb] _ w' (CWw w' hw') (Nat.le_refl _) hk1)
    have D3 := Aside0.mk (show ∀ w', Below W.heap.size W w' → Calls Try.prog 18 #[.agg (nodeA xa A ca)] w' fun e w'' => e = .returned (.int .i64 (sz xa : Int)) ∧ Below w'.heap.size w' w'' from fun w' hw' => tract_Size.calls k2 xa.f0 xa.f1 xa.f2 A ca xa.f3 _ w' (CAw w' hw') hca hk2)
    have D4 := Aside0.mk (show ∀ w', Below W.heap.size W w' → Calls Try.prog 18 #[.agg (nodeA xb B cb)] w' fun e w'' => e = .returned (.int .i64 (sz xb : Int)) ∧ Below w'.heap.size w' w'' from fun w' hw' => tract_Size.calls k3 xb.f0 xb.f1 xb.f2 B cb xb.f3 _ w' (CBw w' hw') hcb hk3)
    have D5 := Aside0.mk (show ∀ w', Below W.heap.size W w' → Calls Try.prog 19 #[.agg #[.int .i64 4, .string ⟨#[]⟩, .string ⟨#[]⟩, .slice (some ⟨r, 0, none⟩) 2 2]] w' fun e w'' => e = .returned (.int .i64 (dep (⟨4, e0, e0, [xa, xb]⟩ : S24) : Int)) ∧ Below w'.heap.size w' w'' from fun w' hw' => tract_Depth.calls k4 4 e0 e0 (some ⟨r, 0, none⟩) 2 [xa, xb] _ w' (CWw w' hw') (Nat.le_refl _) hk4)
    have D6 := Aside0.mk (show ∀ w', Below W.heap.size W w' → Calls Try.prog 19 #[.agg (nodeA xa A ca)] w' fun e w'' => e = .returned (.int .i64 (dep xa : Int)) ∧ Below w'.heap.size w' w'' from fun w' hw' => tract_Depth.calls k5 xa.f0 xa.f1 xa.f2 A ca xa.f3 _ w' (CAw w' hw') hca hk5)
    have D7 := Aside0.mk (show ∀ w', Below W.heap.size W w' → Calls Try.prog 19 #[.agg (nodeA xb B cb)] w' fun e w'' => e = .returned (.int .i64 (dep xb : Int)) ∧ Below w'.heap.size w' w'' from fun w' hw' => tract_Depth.calls k6 xb.f0 xb.f1 xb.f2 B cb xb.f3 _ w' (CBw w' hw') hcb hk6)
    have q1 : IntKind.i64.wrap (1 + (sz xa : Int)) = 1 + (sz xa : Int) := IntWalk.i64_in _ (by omega)
    have q2 : IntKind.i64.wrap (1 + (sz xa : Int) + (sz xb : Int)) = 1 + (sz xa : Int) + (sz xb : Int) := IntWalk.i64_in _ (by omega)
    have q3 : ((sz (⟨4, e0, e0, [xa, xb]⟩ : S24) : Int) != 1 + (sz xa : Int) + (sz xb : Int)) = false := bne_eq_false_iff_eq.2 (by omega)
    obtain ⟨mm, hmm⟩ : ∃ mm : Int, mm = ((max (dep xa) (dep xb) : Nat) : Int) := ⟨_, rfl⟩
    have hmx : (if dep xa < dep xb then (dep xb : Int) else (dep xa : Int)) = mm := by rw [hmm]; split <;> omega
    have q4 : IntKind.i64.wrap (1 + mm) = 1 + mm := IntWalk.i64_in _ (by rw [hmm]; omega)
    have q5 : ((dep (⟨4, e0, e0, [xa, xb]⟩ : S24) : Int) != 1 + mm) = false := bne_eq_false_iff_eq.2 (by rw [hmm]; omega)
    clear hmm
    have SN := Aside0.mk sn
    have DN := Aside0.mk dn
    have GN := Aside0.mk gn
    have TN' := Aside0.mk tn
    have CWW := Aside0.mk CWw
    have CAW := Aside0.mk CAw
    have CBW := Aside0.mk CBw
    clear hk1 hk2 hk3 hk4 hk5 hk6 gn tn sn dn hds hdb CWw CAw CBw hRow hN bW hW hr CW
    go_wp2_with fail
    rw [HW.out, HR.out]
    clear RA5 RB5 B5 HW HR c0 c1 c2 c3 cl d0 d1 d2 d3 dl
    refine Qt.wp_region_all (fun w' => Below W.heap.size W w') (by kernel_rfl) (by kernel_rfl) (Below.refl _ _).drew ?_
    ((first | (with_reducible refine Qt.q_val' rfl ?_) | ((with_reducible refine Qg.on_val' ?_); apply Exists.intro; apply Exists.intro; apply Exists.intro; refine ⟨?_, ?_, ?_, ?_⟩; (focus rfl); (focus rfl); (focus rfl))); apply Exists.intro; refine ⟨?_, ?_⟩; (focus (intro w' hw'; have hRn := RN6.out.below hw'; have n0 := hRn.cell 0; have n1 := hRn.cell 1; have n2 := hRn.cell 2; have n3 := hRn.cell 3; have nl := hRn.lt; go_simp; (first | done | (with_reducible rfl)))); intro K hK; go_simp; refine hK _ ?_; clear hK K)
    ((first | (with_reducible refine Qt.q_call' rfl ?_) | ((with_reducible refine Qg.on_call' ?_); apply Exists.intro; apply Exists.intro; apply Exists.intro; refine ⟨?_, ?_, ?_, ?_⟩; (focus rfl); (focus rfl); (focus rfl))); apply Exists.intro; apply Exists.intro; refine ⟨?_, ?_⟩; (focus (intro w'; go_simp; (first | rfl | exact ⟨rfl, rfl⟩))); apply Exists.intro; refine ⟨?_, ?_⟩; (focus (intro w' hw'; first | exact Qt.under hw' (D1.out _ hw'))); intro K hK; go_simp; refine hK _ ?_; clear hK K)
    iterate 2 ((first | (with_reducible refine Qt.q_val' rfl ?_) | ((with_reducible refine Qg.on_val' ?_); apply Exists.intro; apply Exists.intro; apply Exists.intro; refine ⟨?_, ?_, ?_, ?_⟩; (focus rfl); (focus rfl); (focus rfl))); apply Exists.intro; refine ⟨?_, ?_⟩; (focus (intro w' hw'; skip; go_simp; (first | done | (with_reducible rfl)))); intro K hK; go_simp; refine hK _ ?_; clear hK K)
    ((first | (with_reducible refine Qt.q_val' rfl ?_) | ((with_reducible refine Qg.on_val' ?_); apply Exists.intro; apply Exists.intro; apply Exists.intro; refine ⟨?_, ?_, ?_, ?_⟩; (focus rfl); (focus rfl); (focus rfl))); apply Exists.intro; refine ⟨?_, ?_⟩; (focus (intro w' hw'; have hRn := RN6.out.below hw'; have n0 := hRn.cell 0; have n1 := hRn.cell 1; have n2 := hRn.cell 2; have n3 := hRn.cell 3; have nl := hRn.lt; go_simp; (first | done | (with_reducible rfl)))); intro K hK; go_simp; refine hK _ ?_; clear hK K)
    ((first | (with_reducible refine Qt.q_call' rfl ?_) | ((with_reducible refine Qg.on_call' ?_); apply Exists.intro; apply Exists.intro; apply Exists.intro; refine ⟨?_, ?_, ?_, ?_⟩; (focus rfl); (focus rfl); (focus rfl))); apply Exists.intro; apply Exists.intro; refine ⟨?_, ?_⟩; (focus (intro w'; go_simp; (first | rfl | exact ⟨rfl, rfl⟩))); apply Exists.intro; refine ⟨?_, ?_⟩; (focus (intro w' hw'; first | exact Qt.under hw' (D2.out _ hw'))); intro K hK; go_simp; refine hK _ ?_; clear hK K)
    ((first | (with_reducible refine Qt.q_val' rfl ?_) | ((with_reducible refine Qg.on_val' ?_); apply Exists.intro; apply Exists.intro; apply Exists.intro; refine ⟨?_, ?_, ?_, ?_⟩; (focus rfl); (focus rfl); (focus rfl))); apply Exists.intro; refine ⟨?_, ?_⟩; (focus (intro w' hw'; have hRn := RA6.out.below hw'; have n0 := hRn.cell 0; have n1 := hRn.cell 1; have n2 := hRn.cell 2; have n3 := hRn.cell 3; have nl := hRn.lt; go_simp; (first | done | (with_reducible rfl)))); intro K hK; go_simp; refine hK _ ?_; clear hK K)
    ((first | (with_reducible refine Qt.q_call' rfl ?_) | ((with_reducible refine Qg.on_call' ?_); apply Exists.intro; apply Exists.intro; apply Exists.intro; refine ⟨?_, ?_, ?_, ?_⟩; (focus rfl); (focus rfl); (focus rfl))); apply Exists.intro; apply Exists.intro; refine ⟨?_, ?_⟩; (focus (intro w'; go_simp; (first | rfl | exact ⟨rfl, rfl⟩))); apply Exists.intro; refine ⟨?_, ?_⟩; (focus (intro w' hw'; first | exact Qt.under hw' (D3.out _ hw'))); intro K hK; go_simp; refine hK _ ?_; clear hK K)
    ((first | (with_reducible refine Qt.q_val' rfl ?_) | ((with_reducible refine Qg.on_val' ?_); apply Exists.intro; apply Exists.intro; apply Exists.intro; refine ⟨?_, ?_, ?_, ?_⟩; (focus rfl); (focus rfl); (focus rfl))); apply Exists.intro; refine ⟨?_, ?_⟩; (focus (intro w' hw'; skip; go_simp; (first | done | (with_reducible rfl)))); intro K hK; go_simp; refine hK _ ?_; clear hK K)
    ((first | (with_reducible refine Qt.q_val' rfl ?_) | ((with_reducible refine Qg.on_val' ?_); apply Exists.intro; apply Exists.intro; apply Exists.intro; refine ⟨?_, ?_, ?_, ?_⟩; (focus rfl); (focus rfl); (focus rfl))); apply Exists.intro; refine ⟨?_, ?_⟩; (focus (intro w' hw'; have hRn := RB6.out.below hw'; have n0 := hRn.cell 0; have n1 := hRn.cell 1; have n2 := hRn.cell 2; have n3 := hRn.cell 3; have nl := hRn.lt; go_simp; (first | done | (with_reducible rfl)))); intro K hK; go_simp; refine hK _ ?_; clear hK K)
    ((first | (with_reducible refine Qt.q_call' rfl ?_) | ((with_reducible refine Qg.on_call' ?_); apply Exists.intro; apply Exists.intro; apply Exists.intro; refine ⟨?_, ?_, ?_, ?_⟩; (focus rfl); (focus rfl); (focus rfl))); apply Exists.intro; apply Exists.intro; refine ⟨?_, ?_⟩; (focus (intro w'; go_simp; (first | rfl | exact ⟨rfl, rfl⟩))); apply Exists.intro; refine ⟨?_, ?_⟩; (focus (intro w' hw'; first | exact Qt.under hw' (D4.out _ hw'))); intro K hK; go_simp; refine hK _ ?_; clear hK K)
    iterate 4 ((first | (with_reducible refine Qt.q_val' rfl ?_) | ((with_reducible refine Qg.on_val' ?_); apply Exists.intro; apply Exists.intro; apply Exists.intro; refine ⟨?_, ?_, ?_, ?_⟩; (focus rfl); (focus rfl); (focus rfl))); apply Exists.intro; refine ⟨?_, ?_⟩; (focus (intro w' hw'; skip; go_simp; (first | done | (with_reducible rfl)))); intro K hK; go_simp; refine hK _ ?_; clear hK K)
    ((first | (with_reducible refine Qt.q_val' rfl ?_) | ((with_reducible refine Qg.on_val' ?_); apply Exists.intro; apply Exists.intro; apply Exists.intro; refine ⟨?_, ?_, ?_, ?_⟩; (focus rfl); (focus rfl); (focus rfl))); apply Exists.intro; refine ⟨?_, ?_⟩; (focus (intro w' hw'; have hRn := RN6.out.below hw'; have n0 := hRn.cell 0; have n1 := hRn.cell 1; have n2 := hRn.cell 2; have n3 := hRn.cell 3; have nl := hRn.lt; go_simp; (first | done | (with_reducible rfl)))); intro K hK; go_simp; refine hK _ ?_; clear hK K)
    ((first | (with_reducible refine Qt.q_call' rfl ?_) | ((with_reducible refine Qg.on_call' ?_); apply Exists.intro; apply Exists.intro; apply Exists.intro; refine ⟨?_, ?_, ?_, ?_⟩; (focus rfl); (focus rfl); (focus rfl))); apply Exists.intro; apply Exists.intro; refine ⟨?_, ?_⟩; (focus (intro w'; go_simp; (first | rfl | exact ⟨rfl, rfl⟩))); apply Exists.intro; refine ⟨?_, ?_⟩; (focus (intro w' hw'; first | exact Qt.under hw' (D5.out _ hw'))); intro K hK; go_simp; refine hK _ ?_; clear hK K)
    ((first | (with_reducible refine Qt.q_val' rfl ?_) | ((with_reducible refine Qg.on_val' ?_); apply Exists.intro; apply Exists.intro; apply Exists.intro; refine ⟨?_, ?_, ?_, ?_⟩; (focus rfl); (focus rfl); (focus rfl))); apply Exists.intro; refine ⟨?_, ?_⟩; (focus (intro w' hw'; have hRn := RA6.out.below hw'; have n0 := hRn.cell 0; have n1 := hRn.cell 1; have n2 := hRn.cell 2; have n3 := hRn.cell 3; have nl := hRn.lt; go_simp; (first | done | (with_reducible rfl)))); intro K hK; go_simp; refine hK _ ?_; clear hK K)
    ((first | (with_reducible refine Qt.q_call' rfl ?_) | ((with_reducible refine Qg.on_call' ?_); apply Exists.intro; apply Exists.intro; apply Exists.intro; refine ⟨?_, ?_, ?_, ?_⟩; (focus rfl); (focus rfl); (focus rfl))); apply Exists.intro; apply Exists.intro; refine ⟨?_, ?_⟩; (focus (intro w'; go_simp; (first | rfl | exact ⟨rfl, rfl⟩))); apply Exists.intro; refine ⟨?_, ?_⟩; (focus (intro w' hw'; first | exact Qt.under hw' (D6.out _ hw'))); intro K hK; go_simp; refine hK _ ?_; clear hK K)
    ((first | (with_reducible refine Qt.q_val' rfl ?_) | ((with_reducible refine Qg.on_val' ?_); apply Exists.intro; apply Exists.intro; apply Exists.intro; refine ⟨?_, ?_, ?_, ?_⟩; (focus rfl); (focus rfl); (focus rfl))); apply Exists.intro; refine ⟨?_, ?_⟩; (focus (intro w' hw'; have hRn := RB6.out.below hw'; have n0 := hRn.cell 0; have n1 := hRn.cell 1; have n2 := hRn.cell 2; have n3 := hRn.cell 3; have nl := hRn.lt; go_simp; (first | done | (with_reducible rfl)))); intro K hK; go_simp; refine hK _ ?_; clear hK K)
    ((first | (with_reducible refine Qt.q_call' rfl ?_) | ((with_reducible refine Qg.on_call' ?_); apply Exists.intro; apply Exists.intro; apply Exists.intro; refine ⟨?_, ?_, ?_, ?_⟩; (focus rfl); (focus rfl); (focus rfl))); apply Exists.intro; apply Exists.intro; refine ⟨?_, ?_⟩; (focus (intro w'; go_simp; (first | rfl | exact ⟨rfl, rfl⟩))); apply Exists.intro; refine ⟨?_, ?_⟩; (focus (intro w' hw'; first | exact Qt.under hw' (D7.out _ hw'))); intro K hK; go_simp; refine hK _ ?_; clear hK K)
    iterate 4 ((first | (with_reducible refine Qt.q_val' rfl ?_) | ((with_reducible refine Qg.on_val' ?_); apply Exists.intro; apply Exists.intro; apply Exists.intro; refine ⟨?_, ?_, ?_, ?_⟩; (focus rfl); (focus rfl); (focus rfl))); apply Exists.intro; refine ⟨?_, ?_⟩; (focus (intro w' hw'; skip; go_simp; (first | done | (with_reducible rfl)))); intro K hK; go_simp; refine hK _ ?_; clear hK K)
    (refine wpQuiet_nil ?_; intro w' hw')
    have B7 := Aside0.mk (B6.out.trans (hw'.mono B6.out.size))
    have RA7 := Aside0.mk (RA6.out.below hw')
    have RB7 := Aside0.mk (RB6.out.below hw')
    have hRN := RN6.out.below hw'
    have n0 := hRN.cell 0
    have n1 := hRN.cell 1
    have n2 := hRN.cell 2
    have n3 := hRN.cell 3
    have nl := hRN.lt
    have KB := Aside0.mk (buildR_calls (⟨4, e0, e0, [xa, xb]⟩ : S24) (by rw [SN.out]; omega) TN'.out (some ⟨r, 0, none⟩) 2 w' (CWW.out w' hw') (Nat.le_refl _))
    have HW7 := Aside0.mk hw'
    clear hw' q1 q2 q3 q4 q5 hRN hmx
    go_wp2_with fail
    clear n0 n1 n2 n3 nl
    refine KB.out.mono ?_
    rintro e w8 ⟨vn, rfl, hv0, hv1, b8⟩
    have B8 := Aside0.mk (B7.out.trans (b8.mono B7.out.size))
    have RA8 := RA7.out.below b8
    have RB8 := Aside0.mk (RB7.out.below b8)
    by_cases hcd : codeV (⟨4, e0, e0, [xa, xb]⟩ : S24) = 0
    case neg =>
      obtain rfl := hv1 hcd
      have hb := bad_code _ GN.out hcd
      clear hv0 hv1 b8 KB hcd RA8
      rcases hb with hb | hb
      all_goals
        rw [hb]
        clear hb
        go_wp2
        go_ret
        exact ⟨rfl, B8.out⟩
    have hE := ER_bound (hv0 hcd)
    obtain ⟨hca0, hcb0⟩ := parts_code _ xa xb hcd SN.out DN.out GA.out GB.out
    have hzn := code_sz _ hcd
    rw [hcd]
    obtain ⟨tn, un, rfl⟩ := ER_iface hE
    have E8 := Aside0.mk hE
    have HCA0 := Aside0.mk hca0
    have HCB0 := Aside0.mk hcb0
    have KA := Aside0.mk (buildR_calls xa (by omega) hta A ca w8 (Kd.C_below HCA.out B8.out) hca)
    have n0 := RA8.cell 0
    have n1 := RA8.cell 1
    have n2 := RA8.cell 2
    have n3 := RA8.cell 3
    have nl := RA8.lt
    clear hv0 hv1 b8 KB hcd hE hca0 hcb0 RA8
    go_wp2_with fail
    clear n0 n1 n2 n3 nl
    refine KA.out.mono ?_
    rintro e w9 ⟨va, rfl, hv0, -, b9⟩
    have hEa := ER_bound (hv0 HCA0.out)
    rw [HCA0.out]
    obtain ⟨ta, ua, rfl⟩ := ER_iface hEa
    have B9 := Aside0.mk (B8.out.trans (b9.mono B8.out.size))
    have E9 := Aside0.mk (ER_bound (ER_keep (Keep.of_below b9) E8.out))
    have EA9 := Aside0.mk hEa
    have RB9 := RB8.out.below b9
    have KBb := Aside0.mk (buildR_calls xb (by omega) htb B cb w9 (Kd.C_below HCB.out B9.out) hcb)
    have n0 := RB9.cell 0
    have n1 := RB9.cell 1
    have n2 := RB9.cell 2
    have n3 := RB9.cell 3
    have nl := RB9.lt
    clear hv0 b9 KA hEa E8 B8 RB9
    go_wp2_with fail
    clear n0 n1 n2 n3 nl
    refine KBb.out.mono ?_
    rintro e w10 ⟨vb, rfl, hv0, -, b10⟩
    have hEb := ER_bound (hv0 HCB0.out)
    rw [HCB0.out]
    obtain ⟨tb, ub, rfl⟩ := ER_iface hEb
    obtain ⟨N, hN⟩ : ∃ N, w10.heap.size = N := ⟨_, rfl⟩
    have B10 := Aside0.mk (B9.out.trans (b10.mono B9.out.size))
    have E10 := Aside0.mk (show ER (fun k => k < N) w10 _ _ by rw [← hN]; exact ER_bound (ER_keep (Keep.of_below b10) E9.out))
    have EA10 := Aside0.mk (show ER (fun k => k < N) w10 _ _ by rw [← hN]; exact ER_bound (ER_keep (Keep.of_below b10) EA9.out))
    have EB10 := Aside0.mk (show ER (fun k => k < N) w10 _ _ by rw [← hN]; exact hEb)
    have HN := Aside0.mk hN
    have ERN := Aside0.mk (show ∀ (x : S24) (v : Value) (w' : World), ER (fun k => k < N) w10 x v → Below N w10 w' → ER (fun k => k < N) w' x v from fun x v w' h hb => ER_up (fun k hk _ => hb.block k hk) (fun _ hk _ => hk) x v h)
    clear hv0 b10 KBb hEb E9 EA9 B9 hN
    go_wp2_with fail
    refine (refsP_calls _ xa (by omega) GA.out (.iface ta ua) w10 EA10.out (fun k hk => by rw [HN.out]; exact hk)).mono ?_
    rintro e w11 ⟨vra, rfl, r11, b11⟩
    obtain ⟨Ara, cra, rfl⟩ := Kd.R_slice r11
    rw [HN.out] at r11 b11
    have hs11 := b11.size
    have B11 := Aside0.mk b11
    have R11 := Aside0.mk r11
    clear r11 b11
    go_wp2_with fail
    refine (refsP_calls _ xb (by omega) GB.out (.iface tb ub) w11 (ERN.out _ _ _ EB10.out B11.out) (fun k hk => by have := HN.out; have : k < N := hk; omega)).mono ?_
    rintro e w12 ⟨vrb, rfl, r12, b12⟩
    obtain ⟨Arb, crb, rfl⟩ := Kd.R_slice r12
    have hs12 := b12.size
    have R12 := Aside0.mk (Kd.R_below R11.out b12)
    have C12 := Aside0.mk (Kd.R_reads' r12).2.2
    have B12 := Aside0.mk (B11.out.trans (b12.mono (by have := HN.out; omega)))
    have hbase : N ≤ w12.heap.size := by have := HN.out; omega
    have hla := refs_len xa false
    have hlb := refs_len xb false
    have hlen : ((refs xa false).length + (refs xb false).length) * 40 ≤ 140737488355328 := by omega
    have hur := uni_refs 4 (by decide) xa xb
    have HUR := Aside0.mk hur
    have HKM := Aside0.mk (show ∀ (x : S41) (cs : List Value), k41.K w12 x cs → k41.M w12 N (fun _ => False) x cs from fun x cs h => by obtain rfl := k41_open h; exact k41_mkM w12 N _ x)
    obtain ⟨la, hlae⟩ : ∃ la, refs xa false = la := ⟨_, rfl⟩
    obtain ⟨lb, hlbe⟩ : ∃ lb, refs xb false = lb := ⟨_, rfl⟩
    rw [hlae] at R12 hlen HUR
    rw [hlbe] at C12 hlen HUR
    rw [hlae, hlbe]
    clear r12 b12 R11 B11 hla hlb hur hlae hlbe
    go_wp2_with (at_builtin; refine Kd.R_append_rows k41 (Rr := k41.K w12) (w0 := w12) N rfl (.tmp 101) (.tmp 103) TRs TR (.agg #[.string ⟨#[]⟩, .string ⟨#[]⟩, .bool false]) 40 rfl Try.underlying36 infoR rfl (by decide) (by decide) _ la lb Arb lb.length crb (fun _ => True) (fun _ => False) rfl rfl R12.out C12.out HKM.out (fun _ hk => hk.elim) (fun _ _ => trivial) (Below.refl _ _) hbase hlen ?_)
    intro v13 w13 r13 b13 g13 at13
    rw [← HUR.out] at r13
    obtain ⟨A13, c13, rfl⟩ := Kd.R_slice r13
    have hs13 := b13.size
    have B13 := Aside0.mk (B12.out.trans b13)
    have R13 := Aside0.mk r13
    clear r13 b13 g13 at13 R12 C12 B12 hlen HKM
    go_wp2_with fail
    refine (refsP_calls _ _ (by omega) GN.out (.iface tn un) w13 (ERN.out _ _ _ E10.out B13.out) (fun k hk => by have := HN.out; have : k < N := hk; omega)).mono ?_
    rintro e w14 ⟨v14, rfl, r14, b14⟩
    obtain ⟨A14, c14, rfl⟩ := Kd.R_slice r14
    have hs14 := b14.size
    have C13 := Aside0.mk (Kd.C_below (Kd.R_reads' R13.out).2.2 b14)
    have C14 := Aside0.mk (Kd.R_reads' r14).2.2
    have B14 := Aside0.mk (B13.out.trans (b14.mono (by have := HN.out; omega)))
    have hrl := refs_len (⟨4, e0, e0, [xa, xb]⟩ : S24) false
    have hnr24 : (refs (⟨4, e0, e0, [xa, xb]⟩ : S24) false).length ≤ 24 := by omega
    obtain ⟨rs, hrs⟩ : ∃ rs, refs (⟨4, e0, e0, [xa, xb]⟩ : S24) false = rs := ⟨_, rfl⟩
    rw [hrs] at C13 C14 hnr24
    rw [hrs]
    obtain ⟨nr, hnr⟩ : ∃ nr, rs.length = nr := ⟨_, rfl⟩
    rw [hnr] at C13 C14 hnr24
    rw [hnr]
    clear r14 b14 R13 B13 hrl hrs hnr HUR
    go_wp2
    go_loopw [114] (fun v114 wr => ∃ i : Nat, v114 = .int .i64 (i : Int) ∧ Aside0 (i ≤ nr) ∧ Aside0 (Below w14.heap.size w14 wr)) (fun v114 _ => nr - (intOf v114).toNat)
    case atStart => exact ⟨0, rfl, ⟨Nat.zero_le _⟩, ⟨Below.refl _ _⟩⟩
    case round =>
      obtain ⟨i, rfl, hin, hb⟩ := hrel
      by_cases hi : i < nr
      · have t1 : decide ((i : Int) < (nr : Int)) = true := decide_eq_true (by omega)
        have h0 : (0 : Int) ≤ (i : Int) := by omega
        have h1 : (i : Int) < (nr : Int) := by omega
        obtain ⟨ad, eA, x0, x1, x2⟩ := at_T41 (Kd.C_below C13.out hb.out) (i : Int) h0 h1
        obtain ⟨ad', eA', z0, z1, z2⟩ := at_T41 (Kd.C_below C14.out hb.out) (i : Int) h0 h1
        cases eA
        cases eA'
        rw [Int.toNat_natCast] at x0 x1 x2 z0 z1 z2
        generalize rd_T41 rs (i : Int) = y at *
        have p0 := eq_true h0
        have p1 := eq_true h1
        have hw : IntKind.i64.wrap ((i : Int) + 1) = ((i + 1 : Nat) : Int) := by rw [show ((i : Int) + 1) = ((i + 1 : Nat) : Int) by omega]; exact IntWalk.i64_in _ (by omega)
        go_wp2_with fail
        refine Qt.wp_region_all (fun w' => Below wr.heap.size wr w') (by kernel_rfl) (by kernel_rfl) (Below.refl _ _).drew ?_
        iterate 9 ((first | (with_reducible refine Qt.q_val' rfl ?_) | ((with_reducible refine Qg.on_val' ?_); apply Exists.intro; apply Exists.intro; apply Exists.intro; refine ⟨?_, ?_, ?_, ?_⟩; (focus rfl); (focus rfl); (focus rfl))); apply Exists.intro; refine ⟨?_, ?_⟩; (focus (intro w' hw'; have xw0 := (hw'.cell (World.block_lt_of_cell? wr _ x0)).trans x0; have xw1 := (hw'.cell (World.block_lt_of_cell? wr _ x1)).trans x1; have xw2 := (hw'.cell (World.block_lt_of_cell? wr _ x2)).trans x2; have zw0 := (hw'.cell (World.block_lt_of_cell? wr _ z0)).trans z0; have zw1 := (hw'.cell (World.block_lt_of_cell? wr _ z1)).trans z1; have zw2 := (hw'.cell (World.block_lt_of_cell? wr _ z2)).trans z2; go_simp; (first | done | (with_reducible rfl)))); intro K hK; go_simp; refine hK _ ?_; clear hK K)
        (refine wpQuiet_nil ?_; intro w' hw')
        have HB := Aside0.mk (hb.out.trans (hw'.mono hb.out.size))
        clear hw' x0 x1 x2 z0 z1 z2
        go_wp2
        go_roundw
        case rel => exact ⟨i + 1, by first | rfl | (rw [hw]) | go_num | simp [hw], ⟨by omega⟩, HB⟩
        case measure => simp [intOf, hw]; omega
      · have t1 : decide ((i : Int) < (nr : Int)) = false := decide_eq_false (by omega)
        have BR := Aside0.mk (B14.out.trans (hb.out.mono (by have := HN.out; omega)))
        have hsr := hb.out.size
        have hud := uni_dir 4 (by decide) xa xb
        have HUD := Aside0.mk hud
        clear hb hud
        go_wp2_with fail
        refine (directP_calls _ _ (by omega) GN.out true (.iface tn un) wr (ERN.out _ _ _ E10.out BR.out) (fun k hk => by have := HN.out; have : k < N := hk; omega)).mono ?_
        rintro e w15 ⟨rfl, b15⟩
        have hs15 := b15.size
        have B15 := Aside0.mk (BR.out.trans (b15.mono (by have := HN.out; omega)))
        rw [HUD.out]
        clear b15
        go_wp2_with fail
        refine (directP_calls _ xa (by omega) GA.out true (.iface ta ua) w15 (ERN.out _ _ _ EA10.out B15.out) (fun k hk => by have := HN.out; have : k < N := hk; omega)).mono ?_
        rintro e w16 ⟨rfl, b16⟩
        have hs16 := b16.size
        have B16 := Aside0.mk (B15.out.trans (b16.mono (by have := HN.out; omega)))
        clear b16
        obtain ⟨da, hda⟩ : ∃ d, dir xa true false = d := ⟨_, rfl⟩
        rw [hda]
        cases da with
        | true =>
          have HE := Aside0.mk (B10.out.trans (B16.out.mono (by have := HN.out; have := B10.out.size; omega)))
          clear hda
          go_wp2
          go_ret
          exact ⟨by first | rfl | simp, HE.out⟩
        | false =>
          clear hda
          go_wp2_with fail
          refine (directP_calls _ xb (by omega) GB.out true (.iface tb ub) w16 (ERN.out _ _ _ EB10.out B16.out) (fun k hk => by have := HN.out; have : k < N := hk; omega)).mono ?_
          rintro e w17 ⟨rfl, b17⟩
          have HE := Aside0.mk (B10.out.trans ((B16.out.trans (b17.mono (by have := HN.out; omega))).mono (by have := HN.out; have := B10.out.size; omega)))
          obtain ⟨db, hdb⟩ : ∃ d, dir xb true false = d := ⟨_, rfl⟩
          rw [hdb]
          clear b17 hdb
          go_wp2
          go_ret
          exact ⟨by first | rfl | simp, HE.out⟩
end Go.Proofs.Ytpilbomkdafdfaa.Tra
