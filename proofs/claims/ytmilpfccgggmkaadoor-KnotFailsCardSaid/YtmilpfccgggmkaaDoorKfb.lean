/- A failed In: Subject, Tuple, Tuples. -/
import Derived.Test.YtmilpfccgggmkaaDoorKfa
import Derived.Test.YtmilpfccgggmkaaDoorQn
namespace Go.Proofs.YtmilpfccgggmkaaDoor.Knt
open Go.RowKit Go.Proofs.YtmilpfccgggmkaaDoorW.PrintWords Go.Proofs.YtmilpfccgggmkaaDoor.Arr
set_option linter.unusedVariables false
set_option linter.unusedSimpArgs false

abbrev e3 : Array Value := #[ee, ee, ee]
abbrev e6 : Array Value := #[ee, ee, ee, ee, ee, ee]
set_option maxHeartbeats 2000000 in
theorem infoT : (Tryd.prog.info? TT).map (·.size) = some 6 := by kernel_rfl
set_option maxHeartbeats 2000000 in
theorem subjectF_calls (g : Nat) (w : World) (h : IBlk w g [] true) :
    Calls Tryd.prog 27 #[.pointer (some ⟨g, 0, none⟩)] w fun e w' => e = .returned (.agg e3) ∧ Below w.heap.size w w' := by
  have HB0 := Aside0.mk ((Below.refl w.heap.size w).alloc (Nat.le_refl _) (.cells e3 TS))
  have R0 := Aside0.mk (Blk.new w TS e3)
  have H0 := Aside0.mk (h.alloc (.cells e3 TS))
  clear h
  go_enter Tryd.func27, Tryd.ntmps27
  go_wp2_with fail
  refine (partsF_calls g _ H0.out).mono ?_
  rintro e w1 ⟨rfl, hb1⟩
  have HB1 := Aside0.mk ((HB0.out.trans (hb1.mono HB0.out.size)).alloc (HB0.out.trans (hb1.mono HB0.out.size)).size (.cells e3 TS))
  have R1 := Aside0.mk ((R0.out.below hb1).alloc (.cells e3 TS))
  have H1 := Aside0.mk ((H0.out.below hb1).alloc (.cells e3 TS))
  have c1 := (H0.out.below hb1).cell 1
  have lt1 := (H0.out.below hb1).lt
  clear hb1
  go_wp2_with fail
  refine (failF_calls g _ H1.out).mono ?_
  rintro e w2 ⟨rfl, hb2⟩
  have R2 := R1.out.below hb2
  have HB2 := Aside0.mk (HB1.out.trans (hb2.mono HB1.out.size))
  have R3 := Aside0.mk R2
  have f0 := R2.frozen 0
  have f1 := R2.frozen 1
  have f2 := R2.frozen 2
  have d0 := R2.cell 0
  have d1 := R2.cell 1
  have d2 := R2.cell 2
  have l0 := R2.lt
  clear hb2 R2 c1 lt1
  go_wp2
  have E := three_blk R3.out ee ee ee
  have e0 := E.cell 0
  have e1 := E.cell 1
  have e2 := E.cell 2
  exact bodyPost_ret (v := .agg e3) (by simp [results, Tryd.results27, go_sem, e0, e1, e2]) rfl ⟨rfl, three_below HB2.out (Nat.le_refl _) ee ee ee⟩
set_option maxHeartbeats 2000000 in
theorem tuplesF_calls (g : Nat) (most : Int) (w : World) (h : IBlk w g [] true) :
    Calls Tryd.prog 29 #[.pointer (some ⟨g, 0, none⟩), .int .i64 most] w fun e w' => e = .returned (.slice none 0 0) ∧ Below w.heap.size w w' := by
  have H := Aside0.mk h
  clear h
  have HB0 := Aside0.mk (Below.refl w.heap.size w)
  go_enter Tryd.func29, Tryd.ntmps29
  (go_wp2_with fail; refine (numF_calls g most w H.out).mono ?_; rintro e w1 ⟨rfl, hb1⟩; have HB1 := Aside0.mk (HB0.out.trans (hb1.mono HB0.out.size)); clear hb1)
  have c1 := (H.out.below HB1.out).cell 1
  have lt1 := (H.out.below HB1.out).lt
  go_wp2
  go_loopw [6] (fun v6 wr => v6 = .int .i64 0 ∧ wr = w1) (fun _ _ => 0)
  case atStart => exact ⟨rfl, rfl⟩
  case round =>
    obtain ⟨rfl, rfl⟩ := hrel
    go_wp2
    go_ret
    exact ⟨rfl, HB1.out⟩
set_option maxHeartbeats 4000000 in
set_option maxRecDepth 100000 in
theorem tupleF_calls (g : Nat) (w : World) (h : IBlk w g [] true) :
    Calls Tryd.prog 28 #[.pointer (some ⟨g, 0, none⟩)] w fun e w' => e = .returned (.agg e6) ∧ Below w.heap.size w w' := by
  have HB0 := Aside0.mk ((Below.refl w.heap.size w).alloc (Nat.le_refl _) (.cells e6 TT))
  have R0 := Aside0.mk (Blk.new w TT e6)
  have H0 := Aside0.mk (h.alloc (.cells e6 TT))
  clear h
  go_enter Tryd.func28, Tryd.ntmps28
  go_wp2_with fail
  refine (partsF_calls g _ H0.out).mono ?_
  rintro e w1 ⟨rfl, hb1⟩
  obtain ⟨n, hn⟩ : ∃ n, w1.heap.size = n := ⟨_, rfl⟩
  have HB1 := Aside0.mk ((HB0.out.trans (hb1.mono HB0.out.size)).alloc (HB0.out.trans (hb1.mono HB0.out.size)).size (.cells e3 TS))
  have R1 := Aside0.mk ((R0.out.below hb1).alloc (.cells e3 TS))
  have H1 := Aside0.mk ((H0.out.below hb1).alloc (.cells e3 TS))
  have O1 := Aside0.mk (show Blk (w1.alloc (.cells e3 TS)) n TS e3 from Blk.newAt hn.symm)
  clear hb1
  go_wp2_with fail
  generalize w1.alloc (.cells e3 TS) = W1 at *
  clear R0 H0 HB0
  have HST : Qw.Stb (fun w' => IBlk w' g [] true ∧ Blk w' n TS e3 ∧ Blk w' w.heap.size TT e6 ∧ Below w.heap.size w w') := fun w1 w2 h hb => ⟨h.1.below hb, h.2.1.below hb, h.2.2.1.below hb, h.2.2.2.trans (hb.mono h.2.2.2.size)⟩
  have HE0 : IBlk W1.drew g [] true ∧ Blk W1.drew n TS e3 ∧ Blk W1.drew w.heap.size TT e6 ∧ Below w.heap.size w W1.drew := ⟨H1.out.drew, O1.out.drew, R1.out.drew, HB1.out.drew⟩
  clear R1 H1 O1 HB1
  refine Qw.wp_region_tail (fun f args u w' => u = .agg e3) _ HST 10 (by kernel_rfl) (by kernel_rfl) HE0 ?_
  clear HST HE0
  simp only [List.take_succ_cons, List.take_zero, List.drop_succ_cons, List.drop_zero]
  iterate 7 ((first | (with_reducible refine Qw.w_val ⟨fun _ _ _ hF h w' h1 h2 => h w' h1 fun k => hF k _ (h2 k)⟩ ?_ (Qw.wanted_none rfl) ?_) | ((with_reducible refine Qw.w_val ⟨fun _ _ _ hF h w' h1 h2 => h w' h1 fun k => hF k _ (h2 k)⟩ ?_ ?_ ?_); (focus (exact fun _ => trivial)); (focus (exact Qg.wanted_on rfl rfl rfl)))); (try (focus (exact fun _ => trivial))); apply Exists.intro; refine ⟨?_, ?_⟩; (focus (intro w' hw' hp'; have c0 := hw'.2.1.cell 0; have c1 := hw'.2.1.cell 1; have c2 := hw'.2.1.cell 2; have l0 := hw'.2.1.lt; go_simp; (first | done | (with_reducible rfl)))); intro K hK; go_simp; refine hK _ ?_; clear hK K)
  ((with_reducible refine Qw.w_call ?_ ?_); (first | (focus (exact Qw.wanted_none rfl)) | (focus (exact Qg.wanted_on rfl rfl rfl))); apply Exists.intro; apply Exists.intro; refine ⟨?_, ?_, ?_, ?_⟩; (focus (intro w'; go_simp; (first | rfl | exact ⟨rfl, rfl⟩))); (focus (exact fun u w1 w2 h hb => h)); (focus (intro w' hw' hp'; refine (subjectF_calls g w' hw'.1).mono ?_; rintro e w8 ⟨rfl, b8⟩; exact ⟨_, rfl, b8, rfl⟩)); rintro u8 ⟨wv8, -, -, rfl⟩; intro K hK; go_simp; refine hK _ ?_; clear hK K)
  ((first | (with_reducible refine Qw.w_val ⟨fun _ _ _ hF h w' h1 h2 => h w' h1 fun k => hF k _ (h2 k)⟩ ?_ (Qw.wanted_none rfl) ?_) | ((with_reducible refine Qw.w_val ⟨fun _ _ _ hF h w' h1 h2 => h w' h1 fun k => hF k _ (h2 k)⟩ ?_ ?_ ?_); (focus (exact fun _ => trivial)); (focus (exact Qg.wanted_on rfl rfl rfl)))); (try (focus (exact fun _ => trivial))); apply Exists.intro; refine ⟨?_, ?_⟩; (focus (intro w' hw' hp'; skip; go_simp; (first | done | (with_reducible rfl)))); intro K hK; go_simp; refine hK _ ?_; clear hK K)
  obtain ⟨R, hR⟩ : ∃ R : Value → World → Prop, R = fun u w' => ∃ m, u = .pointer (some ⟨m, 0, none⟩) ∧ w.heap.size < m ∧ Blk w' m TT e6 := ⟨_, rfl⟩
  have HSN : ∀ u, Qw.Stb (R u) := by
    subst hR
    intro u w1 w2 h hb
    obtain ⟨m, e, h1, h2⟩ := h
    exact ⟨m, e, h1, h2.below hb⟩
  have hR' : ∀ u w', R u w' ↔ ∃ m, u = .pointer (some ⟨m, 0, none⟩) ∧ w.heap.size < m ∧ Blk w' m TT e6 := fun u w' => by rw [hR]
  clear hR
  with_reducible refine Qw.w_new R HSN (Qw.wanted_none rfl) ⟨?_, ?_⟩
  · intro w' hw'
    refine ⟨.pointer (some ⟨w'.heap.size, 0, none⟩), w'.alloc (.cells e6 TT), ?_, (Below.refl _ _).alloc (Nat.le_refl _) _, (hR' _ _).2 ⟨w'.heap.size, rfl, hw'.2.2.1.lt, Blk.new _ _ _⟩⟩
    go_simp
  rintro u9 ⟨wv9, -, -, hu9⟩
  obtain ⟨m, rfl, hm, -⟩ := (hR' _ _).1 hu9
  clear hu9 wv9
  intro K hK
  go_simp
  refine hK _ ?_
  clear hK K
  ((with_reducible refine Qw.w_nil ?_); intro w' hw' hf')
  obtain ⟨m', e9, -, M2⟩ : ∃ m', Value.pointer (some ⟨m, 0, none⟩) = .pointer (some ⟨m', 0, none⟩) ∧ w.heap.size < m' ∧ Blk w' m' TT e6 := (hR' _ _).1 (hf' 9)
  clear hf' hR' HSN R
  obtain rfl : m = m' := by injection e9 with e9; injection e9 with e9; injection e9 with e9
  have hgm : g ≠ m := hw'.1.ne M2 (by decide)
  refine wpList_store_blk rfl TT _ _ rfl m e6 rfl rfl infoT rfl (by first | kernel_rfl | decide +kernel | simp [Value.oneCell']) M2 rfl ?_
  have I2 := Aside0.mk (hw'.1.rowFar hgm e6)
  have R2 := Aside0.mk (hw'.2.2.1.rowFar (show w.heap.size ≠ m by omega) e6)
  have B2 := Aside0.mk (below_setRow hw'.2.2.2 (show w.heap.size ≤ m by omega) e6)
  clear hw' M2
  generalize w'.setRow m e6 = W5 at *
  have i1 := I2.out.cell 1
  have ilt := I2.out.lt
  go_wp2_with fail
  clear i1 ilt
  refine (failF_calls g _ I2.out).mono ?_
  rintro e w2 ⟨rfl, hb2⟩
  have R4 := Aside0.mk (R2.out.below hb2)
  have B4 := Aside0.mk (B2.out.trans (hb2.mono B2.out.size))
  have f0 := R4.out.frozen 0
  have f1 := R4.out.frozen 1
  have f2 := R4.out.frozen 2
  have f3 := R4.out.frozen 3
  have f4 := R4.out.frozen 4
  have f5 := R4.out.frozen 5
  have d0 := R4.out.cell 0
  have d1 := R4.out.cell 1
  have d2 := R4.out.cell 2
  have d3 := R4.out.cell 3
  have d4 := R4.out.cell 4
  have d5 := R4.out.cell 5
  have l0 := R4.out.lt
  clear hb2 I2 R2 B2
  go_wp2
  have E := (((((R4.out.set 0 ee).set 1 ee).set 2 ee).set 3 ee).set 4 ee).set 5 ee
  have e0 := E.cell 0
  have e1 := E.cell 1
  have e2 := E.cell 2
  have e3 := E.cell 3
  have e4 := E.cell 4
  have e5 := E.cell 5
  have hg := Nat.le_refl w.heap.size
  exact bodyPost_ret (v := .agg e6) (by simp [results, Tryd.results28, go_sem, e0, e1, e2, e3, e4, e5]) rfl ⟨rfl, (((((B4.out.setCell (by simp) _).setCell (by simp) _).setCell (by simp) _).setCell (by simp) _).setCell (by simp) _).setCell (by simp) _⟩
end Go.Proofs.YtmilpfccgggmkaaDoor.Knt
