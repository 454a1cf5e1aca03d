/- The law TractBuilds: its walk. -/
import Derived.Test.YtpilbomkdafdfaaTlr
import Derived.Test.YtpilbomkdafdfaaTke
namespace Go.Proofs.Ytpilbomkdafdfaa.Tra
open Go.RowKit Go.Proofs.YtpilbomkdafdfaaW.PrintWords Go.Proofs.YtpilbomkdafdfaaW.PrintLast Go.Proofs.YtpilbomkdafdfaaW.PrintMore Go.Proofs.Ytpilbomkdafdfaa.Arr Go.Proofs.Ytpilbomkdafdfaa.Utf Go.Proofs.Ytpilbomkdafdfaa.PTractRefs
set_option linter.unusedVariables false
set_option linter.unusedSimpArgs false

/-- The block of a row of nodes that is one's own. -/
theorem own_row4 {w : World} {base : Nat} {ok : Nat → Prop} {A : Option Addr} {n c : Nat} {l : List S24} (h : Kd.R k24 TN w base ok (.slice A n c) l) (hn : 0 < l.length) :
    ∃ g cur, A = some ⟨g, 0, none⟩ ∧ base ≤ g ∧ Blk w g TN cur ∧ l.length * 4 ≤ cur.size := by
  obtain ⟨h0, inner, ho, hr⟩ := h
  rcases ho.2 with ⟨e, h2⟩ | ⟨g, cap, cur, e, hg, hh, r⟩
  · omega
  · injection e with e1 e2 e3
    subst e1
    refine ⟨g, cur, rfl, hg, ⟨hh⟩, ?_⟩
    obtain ⟨r1, r2, r3, r4⟩ := r
    have : (24 : Nat) = 24 := rfl
    have h4 : k24.sz = 4 := rfl
    rw [r3, h4]
    exact Nat.mul_le_mul_right 4 r1
theorem zero_row {w0 w : World} {B g xb i : Nat} {cur xs : Array Value} (hb : Below B w0 w) (hB : Blk w g TN cur) (hX : Blk w xb TN xs) (hne : g ≠ xb) (hg : B ≤ g) (v0 v1 v2 v3 : Value) :
    ∃ W, (((w.setCell ⟨g, i * 4, none⟩ v0).setCell ⟨g, i * 4 + 1, none⟩ v1).setCell ⟨g, i * 4 + 2, none⟩ v2).setCell ⟨g, i * 4 + 3, none⟩ v3 = W ∧ Below B w0 W ∧ Blk W xb TN xs ∧ ∃ cur', Blk W g TN cur' ∧ cur'.size = cur.size := by
  refine ⟨_, rfl, ?_, ?_, ?_⟩
  · have k0 := hb.setCell (p := ⟨g, i * 4, none⟩) hg v0
    have k1 := k0.setCell (p := ⟨g, i * 4 + 1, none⟩) hg v1
    have k2 := k1.setCell (p := ⟨g, i * 4 + 2, none⟩) hg v2
    exact k2.setCell (p := ⟨g, i * 4 + 3, none⟩) hg v3
  · exact (((hX.far (p := ⟨g, i * 4, none⟩) (Ne.symm hne) v0).far (p := ⟨g, i * 4 + 1, none⟩) (Ne.symm hne) v1).far (p := ⟨g, i * 4 + 2, none⟩) (Ne.symm hne) v2).far (p := ⟨g, i * 4 + 3, none⟩) (Ne.symm hne) v3
  · exact ⟨_, (((hB.set (i * 4) v0).set (i * 4 + 1) v1).set (i * 4 + 2) v2).set (i * 4 + 3) v3, by simp⟩
/-- What the last region's calls return. -/
def Sb (x : S24) (f : FuncId) (args : Array Value) (u : Value) (w : World) : Prop :=
  args.size = 1 → ∀ A c, u = .agg #[.int .i64 x.f0, .string x.f1, .string x.f2, .slice A x.f3.length c] → x.f3.length ≤ c ∧ Kd.C k24 w A x.f3.length x.f3
theorem sb_stb (x : S24) (f : FuncId) (args : Array Value) (u : Value) : Qy.Stb (fun w w' => Below w.heap.size w w') (Sb x f args u) := fun w w' h hb h1 A c e =>
  ⟨(h h1 A c e).1, Kd.C_below (h h1 A c e).2 hb⟩
def SVb (x : S24) (f : FuncId) (args : Array Value) (u : Value) : Prop :=
  match args.size with
  | 1 => ∃ A c, u = .agg #[.int .i64 x.f0, .string x.f1, .string x.f2, .slice A x.f3.length c]
  | _ => u = .bool true
set_option maxHeartbeats 16000000 in
set_option maxRecDepth 100000 in
theorem lawBuilds_calls (x : S24) (ht : strs x ≤ 9223372036854775807) (A : Option Addr) (c : Nat) (w : World) (hC : Kd.C k24 w A x.f3.length x.f3) (hc : x.f3.length ≤ c) :
    Calls Try.prog 6 #[.agg (nodeA x A c)] w fun e w' => e = .returned (.bool true) ∧ Below w.heap.size w w' := by
  have hu24 := Try.underlying24
  obtain ⟨kf, hkf⟩ := few_f x
  have HF := Aside0.mk hkf
  obtain ⟨W0, hW0⟩ : ∃ W0, w.alloc (.cells (nodeA x A c) TN) = W0 := ⟨_, rfl⟩
  have b0 : Below w.heap.size w W0 := by rw [← hW0]; exact (Below.refl _ _).alloc (Nat.le_refl _) _
  have hR : Blk W0 w.heap.size TN (nodeA x A c) := by rw [← hW0]; exact Blk.new _ _ _
  have HC := Aside0.mk hC
  have R0 := Aside0.mk hR
  have B0 := Aside0.mk b0
  clear hC hR b0 hkf
  go_enter Try.func6, Try.ntmps6
  go_wp2_with fail
  clear hW0
  refine (awake_calls W0).mono ?_
  rintro e w1 ⟨rfl, b1⟩
  have hR1 := R0.out.below b1
  have B1 := Aside0.mk (B0.out.trans (b1.mono B0.out.size))
  have R1 := Aside0.mk hR1
  have c0 := hR1.cell 0
  have c1 := hR1.cell 1
  have c2 := hR1.cell 2
  have c3 := hR1.cell 3
  have cl := hR1.lt
  clear b1 hR1 R0 B0
  go_wp2_with fail
  clear c0 c1 c2 c3 cl
  refine (stilelaw05_Few.calls kf x.f0 x.f1 x.f2 A c x.f3 (fewB x) w1 (Kd.C_below HC.out B1.out) hc HF.out).mono ?_
  rintro e w2 ⟨rfl, b2⟩
  have hR2 := R1.out.below b2
  have B2 := Aside0.mk (B1.out.trans (b2.mono B1.out.size))
  have R2 := Aside0.mk hR2
  clear b2 R1 B1
  by_cases hs : ¬ sz x ≤ 300
  · have hf : fewB x = false := decide_eq_false hs
    rw [hf]
    clear hR2 hf hs
    go_wp2_with fail
    refine (awake_calls w2).mono ?_
    rintro e w3 ⟨rfl, b3⟩
    have B3 := Aside0.mk (B2.out.trans (b3.mono B2.out.size))
    clear b3 R2 B2
    go_wp2
    go_ret
    exact ⟨rfl, B3.out⟩
  have hs : sz x ≤ 300 := Classical.not_not.1 hs
  have hf : fewB x = true := decide_eq_true hs
  rw [hf]
  have KB := Aside0.mk (buildR_calls x (by omega) ht A c w2 (Kd.C_below HC.out B2.out) hc)
  have c0 := hR2.cell 0
  have c1 := hR2.cell 1
  have c2 := hR2.cell 2
  have c3 := hR2.cell 3
  have cl := hR2.lt
  clear hR2 hf
  go_wp2_with fail
  clear c0 c1 c2 c3 cl
  refine KB.out.mono ?_
  rintro e w3 ⟨v, rfl, hv0, hv1, b3⟩
  have B3 := Aside0.mk (B2.out.trans (b3.mono B2.out.size))
  have R3 := Aside0.mk (R2.out.below b3)
  obtain ⟨kq, hkq⟩ := (ev_fits x (by omega) ht).rounds
  have HKQ := Aside0.mk (show stileref05_Fits.f kq x.f0 x.f1 x.f2 x.f3 = some (codeV x) from hkq)
  by_cases hcd : codeV x = 0
  case neg =>
    obtain rfl := hv1 hcd
    have hb := code_bne x hcd
    obtain ⟨cd, hcc⟩ : ∃ cd, codeV x = cd := ⟨_, rfl⟩
    rw [hcc] at hb hcd HKQ ⊢
    have hR3 := R3.out
    have c0 := hR3.cell 0
    have c1 := hR3.cell 1
    have c2 := hR3.cell 2
    have c3 := hR3.cell 3
    have cl := hR3.lt
    have q0 : (cd == 0) = false := by simp [hcd]
    clear hv0 hv1 b3 KB R2 B2 hcc hkq hR3
    go_wp2_with fail
    clear c0 c1 c2 c3 cl
    refine (stileref05_Fits.calls kq x.f0 x.f1 x.f2 A c x.f3 cd w3 (Kd.C_below HC.out B3.out) hc HKQ.out).mono ?_
    rintro e w4 ⟨rfl, b4⟩
    have B4 := Aside0.mk (B3.out.trans (b4.mono B3.out.size))
    clear b4 B3 R3
    go_wp2
    go_ret
    exact ⟨by first | rfl | simp [hb] | simp [hcd], B4.out⟩
  have hE := ER_bound (hv0 hcd)
  have hg := code_good x hcd
  have hz := code_sz x hcd
  obtain ⟨tt, uu, rfl⟩ := ER_iface hE
  obtain ⟨NF, nv, hm1, hm2⟩ := enters hE
  rw [hcd] at HKQ ⊢
  have hR3 := R3.out
  have c0 := hR3.cell 0
  have c1 := hR3.cell 1
  have c2 := hR3.cell 2
  have c3 := hR3.cell 3
  have cl := hR3.lt
  have E3 := Aside0.mk hE
  have HG := Aside0.mk hg
  have HM1 := Aside0.mk hm1
  have HM2 := Aside0.mk hm2
  clear hv0 hv1 b3 KB R2 B2 hkq hR3 hE hg hcd hm1 hm2
  go_wp2_with fail
  clear c0 c1 c2 c3 cl
  refine (stileref05_Fits.calls kq x.f0 x.f1 x.f2 A c x.f3 0 w3 (Kd.C_below HC.out B3.out) hc HKQ.out).mono ?_
  rintro e w4 ⟨rfl, b4⟩
  have B4 := Aside0.mk (B3.out.trans (b4.mono B3.out.size))
  have R4 := Aside0.mk (R3.out.below b4)
  have E4 := Aside0.mk (ER_bound (ER_keep (Keep.of_below b4) E3.out))
  clear b4 R3 B3 E3
  have hm1 := HM1.out
  have hm2 := HM2.out
  go_wp2_with fail
  clear hm1 hm2
  refine (node_at x (by omega) HG.out tt uu w4 E4.out).mono ?_
  rintro e w5 ⟨v5, rfl, hR5, b5⟩
  obtain ⟨A5, k5, rfl⟩ := Kd.R_slice hR5
  obtain ⟨-, hc5, hC5⟩ := Kd.R_reads' hR5
  obtain ⟨W5, hW5⟩ : ∃ W5, w5.alloc (.cells #[.int .i64 x.f0, .string x.f1, .string x.f2, .slice A5 x.f3.length k5] TN) = W5 := ⟨_, rfl⟩
  have b5' : Below w5.heap.size w5 W5 := by rw [← hW5]; exact (Below.refl _ _).alloc (Nat.le_refl _) _
  have B5 := Aside0.mk (b5.trans (b5'.mono b5.size))
  have X5 : Blk W5 w5.heap.size TN #[.int .i64 x.f0, .string x.f1, .string x.f2, .slice A5 x.f3.length k5] := by rw [← hW5]; exact Blk.new _ _ _
  have R5 := R4.out.below B5.out
  have c0 := R5.cell 0
  have c1 := R5.cell 1
  have c2 := R5.cell 2
  have c3 := R5.cell 3
  have cl := R5.lt
  have d0 := X5.cell 0
  have d1 := X5.cell 1
  have d2 := X5.cell 2
  have d3 := X5.cell 3
  have dl := X5.lt
  have RR5 := Aside0.mk R5
  have XX5 := Aside0.mk X5
  have HR5 := Aside0.mk (Kd.R_below hR5 b5')
  have HC5 := Aside0.mk (Kd.C_below hC5 b5')
  have OR5 := Aside0.mk hR5
  have B55 := Aside0.mk b5'
  obtain ⟨ks, hks⟩ := (ev_same x (by omega)).rounds
  have HKS := Aside0.mk (show stileref05_Same.f ks x.f0 x.f1 x.f2 x.f3 x.f0 x.f1 x.f2 x.f3 = some true from hks)
  clear R5 X5 hR5 hC5 b5 b5' hks
  go_wp2_with fail
  clear c0 c1 c2 c3 cl d0 d1 d2 d3 dl hW5
  refine (stileref05_Same.calls ks x.f0 x.f1 x.f2 A5 k5 x.f3 x.f0 x.f1 x.f2 A c x.f3 true W5 HC5.out hc5 (Kd.C_below HC.out (B4.out.trans (B5.out.mono B4.out.size))) hc HKS.out).mono ?_
  rintro e w6 ⟨rfl, b6⟩
  have B6 := Aside0.mk (B5.out.trans (b6.mono B5.out.size))
  have X6 := Aside0.mk (XX5.out.below b6)
  have HR6 := Aside0.mk (Kd.R_below HR5.out b6)
  have B56 := Aside0.mk (B55.out.trans (b6.mono B55.out.size))
  clear b6 B5 XX5 HR5 HC5 RR5
  obtain ⟨g, hgg⟩ : ∃ g, 0 < x.f3.length → A5 = some ⟨g, 0, none⟩ ∧ w4.heap.size ≤ g ∧ g < w5.heap.size ∧ ∃ cur, Blk w6 g TN cur ∧ x.f3.length * 4 ≤ cur.size := by
    by_cases h0 : 0 < x.f3.length
    · obtain ⟨g, cur, h1, h2, h3, h4⟩ := own_row4 OR5.out h0
      exact ⟨g, fun _ => ⟨h1, h2, h3.lt, cur, h3.below B56.out, h4⟩⟩
    · exact ⟨0, fun h => absurd h h0⟩
  obtain ⟨n, hn⟩ : ∃ n, x.f3.length = n := ⟨_, rfl⟩
  have HN := Aside0.mk hn
  have hx6 := X6.out
  have hn24 : n ≤ 24 := by have h1 := szL_length x.f3; have h2 : szL x.f3 + 1 ≤ 24 := (by obtain ⟨_, _, _, l⟩ := x; simpa [sz] using hz); omega
  rw [hn] at hgg hx6 ⊢
  have HGG := Aside0.mk hgg
  clear X6
  have X6 := Aside0.mk hx6
  clear hn hgg hx6 OR5 B55 B56
  have x3 := X6.out.cell 3
  have xl := X6.out.lt
  go_wp2_with fail
  go_region
  · obtain ⟨W7, hW7⟩ : ∃ W7, (w6.alloc (.cells #[.bool false] 4)).drew = W7 := ⟨_, rfl⟩
    rw [hW7]
    have b7 : Below w6.heap.size w6 W7 := by rw [← hW7]; exact ((Below.refl _ _).alloc (Nat.le_refl _) _).drew
    have X7 := Aside0.mk (X6.out.below b7)
    have B7 := Aside0.mk (B6.out.trans (b7.mono B6.out.size))
    have HG7 : Aside0 (0 < n → A5 = some ⟨g, 0, none⟩ ∧ w4.heap.size ≤ g ∧ g < w5.heap.size ∧ ∃ cur, Blk W7 g TN cur ∧ n * 4 ≤ cur.size) := ⟨fun h => by obtain ⟨h1, h2, h3, cur, h4, h5⟩ := HGG.out h; exact ⟨h1, h2, h3, cur, h4.below b7, h5⟩⟩
    clear x3 xl hW7 X6 B6 HGG b7 HR6
    have x3 := X7.out.cell 3
    have xl := X7.out.lt
    go_wp2_with fail
    clear x3 xl
    go_loopw [7, 55] (fun v7 v55 wr => ∃ i : Nat, v55 = .int .i64 (i : Int) ∧ Aside0 (i ≤ n) ∧ Aside0 (Below w4.heap.size w4 wr) ∧ Aside0 (Blk wr w5.heap.size TN #[.int .i64 x.f0, .string x.f1, .string x.f2, .slice A5 n k5]) ∧ Aside0 (0 < n → A5 = some ⟨g, 0, none⟩ ∧ w4.heap.size ≤ g ∧ g < w5.heap.size ∧ ∃ cur, Blk wr g TN cur ∧ n * 4 ≤ cur.size)) (fun _ v55 _ => n - (intOf v55).toNat)
    case atStart => exact ⟨0, rfl, ⟨Nat.zero_le _⟩, B7, X7, HG7⟩
    case round =>
      obtain ⟨i, rfl, hin, hb, hX, hG⟩ := hrel
      by_cases hi : i < n
      · have t1 : decide ((i : Int) < (n : Int)) = true := decide_eq_true (by omega)
        obtain ⟨rfl, hg4, hg5, cur, hB, hcur⟩ := hG.out (by omega)
        have h0 : (0 : Int) ≤ (i : Int) := by omega
        have h1 : (i : Int) < (n : Int) := by omega
        have p0 := eq_true h0
        have p1 := eq_true h1
        have x3 := hX.out.cell 3
        have xl := hX.out.lt
        have y0 := (hB.cell (i * 4)).trans (Array.getElem?_eq_getElem (show i * 4 < cur.size by omega))
        have y1 := (hB.cell (i * 4 + 1)).trans (Array.getElem?_eq_getElem (show i * 4 + 1 < cur.size by omega))
        have y2 := (hB.cell (i * 4 + 2)).trans (Array.getElem?_eq_getElem (show i * 4 + 2 < cur.size by omega))
        have y3 := (hB.cell (i * 4 + 3)).trans (Array.getElem?_eq_getElem (show i * 4 + 3 < cur.size by omega))
        have z0 := hB.frozen (i * 4)
        have z1 := hB.frozen (i * 4 + 1)
        have z2 := hB.frozen (i * 4 + 2)
        have z3 := hB.frozen (i * 4 + 3)
        have yl := hB.lt
        generalize cur[i * 4]'(by omega) = q0 at y0
        generalize cur[i * 4 + 1]'(by omega) = q1 at y1
        generalize cur[i * 4 + 2]'(by omega) = q2 at y2
        generalize cur[i * 4 + 3]'(by omega) = q3 at y3
        have HB := Aside0.mk hB
        clear hB
        obtain ⟨W9, hW9, b9, X9, cur9, K9, z9⟩ := zero_row (i := i) hb.out HB.out hX.out (by omega) hg4 (.int .i64 0) (.string ⟨#[]⟩) (.string ⟨#[]⟩) (.slice none 0 0)
        have HW9 := Aside0.mk hW9
        have B9 := Aside0.mk b9
        have XX9 := Aside0.mk X9
        have KK9 := Aside0.mk K9
        clear hW9 b9 X9 K9
        go_wp2
        rw [HW9.out]
        refine ⟨⟨i + 1, by simp, ⟨by omega⟩, B9, XX9, ⟨fun _ => ⟨trivial, hg4, hg5, cur9, KK9.out, by omega⟩⟩⟩, ?_⟩
        simp [intOf]; omega
      · have t1 : decide ((i : Int) < (n : Int)) = false := decide_eq_false (by omega)
        go_wp2_with fail
        have R8 := Aside0.mk (R4.out.below (hb.out.mono (Nat.le_refl _)))
        have E8 := Aside0.mk (ER_bound (ER_keep (Keep.of_below hb.out) E4.out))
        have BW8 := Aside0.mk (B4.out.trans (hb.out.mono B4.out.size))
        have hm1 := HM1.out
        have hm2 := HM2.out
        clear hX hG hb
        refine Qy.wp_region_all (fun w w' => Below w.heap.size w w') (Sb x) (SVb x) (fun p w' => Below wr.heap.size wr w') [] (by kernel_rfl) (by kernel_rfl) (Below.refl _ _).drew ?_
        ((with_reducible refine Qy.y_val ⟨fun _ _ _ hF h w' h1 h2 => h w' h1 fun k => hF k _ (h2 k)⟩ ?_ ?_ ?_ ?_ ?_); (focus (first | exact fun _ => Only.refl _ _ | exact fun _ => Below.refl _ _)); (focus (exact fun _ => trivial)); (focus (first | rfl | decide)); (first | (focus (exact Qy.wanted_none rfl)) | (focus (exact Qg.wanted_on rfl rfl rfl))); apply Exists.intro; refine ⟨?_, ?_⟩; (focus (intro p' w' hw' hp'; skip; go_simp; (first | done | (with_reducible rfl)))); intro K hK; go_simp; refine hK _ ?_; clear hK K)
        ((with_reducible refine Qy.y_call ?_ ?_ ?_); (focus (first | rfl | decide)); (first | (focus (exact Qy.wanted_none rfl)) | (focus (exact Qg.wanted_on rfl rfl rfl))); apply Exists.intro; apply Exists.intro; refine ⟨?_, ?_, ?_, ?_, ?_⟩; (focus (intro w'; go_simp; (first | rfl | exact ⟨rfl, rfl⟩))); (focus (exact ⟨.agg #[.int .i64 x.f0, .string x.f1, .string x.f2, .slice none x.f3.length 0], _, _, rfl⟩)); (focus (exact fun u => sb_stb _ _ _ u)); (focus (intro p' w' hw' hp'; refine (node_at x (by omega) HG.out tt uu w' (ER_bound (ER_keep (Keep.of_below hw') E8.out))).mono ?_; rintro e w8 ⟨v, rfl, r8, b8⟩; obtain ⟨A8, c8, rfl⟩ := Kd.R_slice r8; obtain ⟨-, hc8, hC8⟩ := Kd.R_reads' r8; exact ⟨_, rfl, b8, hw'.trans (b8.mono hw'.size), ⟨A8, c8, rfl⟩, fun _ A c e => by injection e with e; injection e with e; injection e with _ e; injection e with _ e; injection e with _ e; injection e with e _; injection e with e1 _ e2; subst e1; subst e2; exact ⟨hc8, hC8⟩⟩)); rintro u1 ⟨A1, c1, rfl⟩; intro K hK; go_simp; refine hK _ ?_; clear hK K)
        ((with_reducible refine Qy.y_val ⟨fun _ _ _ hF h w' h1 h2 => h w' h1 fun k => hF k _ (h2 k)⟩ ?_ ?_ ?_ ?_ ?_); (focus (first | exact fun _ => Only.refl _ _ | exact fun _ => Below.refl _ _)); (focus (exact fun _ => trivial)); (focus (first | rfl | decide)); (first | (focus (exact Qy.wanted_none rfl)) | (focus (exact Qg.wanted_on rfl rfl rfl))); apply Exists.intro; refine ⟨?_, ?_⟩; (focus (intro p' w' hw' hp'; have hRw := R8.out.below hw'; have q0 := hRw.cell 0; have q1 := hRw.cell 1; have q2 := hRw.cell 2; have q3 := hRw.cell 3; have ql := hRw.lt; go_simp; (first | done | (with_reducible rfl)))); intro K hK; go_simp; refine hK _ ?_; clear hK K)
        ((with_reducible refine Qy.y_call ?_ ?_ ?_); (focus (first | rfl | decide)); (first | (focus (exact Qy.wanted_none rfl)) | (focus (exact Qg.wanted_on rfl rfl rfl))); apply Exists.intro; apply Exists.intro; refine ⟨?_, ?_, ?_, ?_, ?_⟩; (focus (intro w'; go_simp; (first | rfl | exact ⟨rfl, rfl⟩))); (focus (exact ⟨.bool true, rfl⟩)); (focus (exact fun u => sb_stb _ _ _ u)); (focus (intro p' w' hw' hp'; have h8 := (Qy.fact hp' 1 rfl : Sb x _ _ _ w') rfl A1 c1 rfl; refine (stileref05_Same.calls ks x.f0 x.f1 x.f2 A1 c1 x.f3 x.f0 x.f1 x.f2 A c x.f3 true w' h8.2 h8.1 (Kd.C_below HC.out (BW8.out.trans (hw'.mono BW8.out.size))) hc HKS.out).mono ?_; rintro e w8 ⟨rfl, b8⟩; exact ⟨_, rfl, b8, hw'.trans (b8.mono hw'.size), rfl, (fun h => by cases h)⟩)); rintro u3 rfl; intro K hK; go_simp; refine hK _ ?_; clear hK K)
        ((with_reducible refine Qy.y_val ⟨fun _ _ _ hF h w' h1 h2 => h w' h1 fun k => hF k _ (h2 k)⟩ ?_ ?_ ?_ ?_ ?_); (focus (first | exact fun _ => Only.refl _ _ | exact fun _ => Below.refl _ _)); (focus (exact fun _ => trivial)); (focus (first | rfl | decide)); (first | (focus (exact Qy.wanted_none rfl)) | (focus (exact Qg.wanted_on rfl rfl rfl))); apply Exists.intro; refine ⟨?_, ?_⟩; (focus (intro p' w' hw' hp'; skip; go_simp; (first | done | (with_reducible rfl)))); intro K hK; go_simp; refine hK _ ?_; clear hK K)
        ((with_reducible refine Qy.y_nil ?_); intro w' hw' hf')
        have HB := Aside0.mk (BW8.out.trans (hw'.mono BW8.out.size))
        clear hw' hf'
        go_wp2
        go_ret
        exact ⟨by first | rfl | simp, HB.out⟩
  · obtain ⟨W7, hW7⟩ : ∃ W7, (w6.alloc (.cells #[.bool true] 4)).drew = W7 := ⟨_, rfl⟩
    rw [hW7]
    have b7 : Below w6.heap.size w6 W7 := by rw [← hW7]; exact ((Below.refl _ _).alloc (Nat.le_refl _) _).drew
    have X7 := Aside0.mk (X6.out.below b7)
    have B7 := Aside0.mk (B6.out.trans (b7.mono B6.out.size))
    have HG7 : Aside0 (0 < n → A5 = some ⟨g, 0, none⟩ ∧ w4.heap.size ≤ g ∧ g < w5.heap.size ∧ ∃ cur, Blk W7 g TN cur ∧ n * 4 ≤ cur.size) := ⟨fun h => by obtain ⟨h1, h2, h3, cur, h4, h5⟩ := HGG.out h; exact ⟨h1, h2, h3, cur, h4.below b7, h5⟩⟩
    clear x3 xl hW7 X6 B6 HGG b7 HR6
    have x3 := X7.out.cell 3
    have xl := X7.out.lt
    by_cases h0n : n = 0
    · subst h0n
      go_wp2_with fail
      clear x3 xl
      obtain ⟨wr, rfl⟩ : ∃ wr, wr = W7 := ⟨_, rfl⟩
      have hb := B7
      have hX := X7
      have hG := HG7
      have R8 := Aside0.mk (R4.out.below (hb.out.mono (Nat.le_refl _)))
      have E8 := Aside0.mk (ER_bound (ER_keep (Keep.of_below hb.out) E4.out))
      have BW8 := Aside0.mk (B4.out.trans (hb.out.mono B4.out.size))
      have hm1 := HM1.out
      have hm2 := HM2.out
      clear hX hG hb
      refine Qy.wp_region_all (fun w w' => Below w.heap.size w w') (Sb x) (SVb x) (fun p w' => Below wr.heap.size wr w') [] (by kernel_rfl) (by kernel_rfl) (Below.refl _ _).drew ?_
      ((with_reducible refine Qy.y_val ⟨fun _ _ _ hF h w' h1 h2 => h w' h1 fun k => hF k _ (h2 k)⟩ ?_ ?_ ?_ ?_ ?_); (focus (first | exact fun _ => Only.refl _ _ | exact fun _ => Below.refl _ _)); (focus (exact fun _ => trivial)); (focus (first | rfl | decide)); (first | (focus (exact Qy.wanted_none rfl)) | (focus (exact Qg.wanted_on rfl rfl rfl))); apply Exists.intro; refine ⟨?_, ?_⟩; (focus (intro p' w' hw' hp'; skip; go_simp; (first | done | (with_reducible rfl)))); intro K hK; go_simp; refine hK _ ?_; clear hK K)
      ((with_reducible refine Qy.y_call ?_ ?_ ?_); (focus (first | rfl | decide)); (first | (focus (exact Qy.wanted_none rfl)) | (focus (exact Qg.wanted_on rfl rfl rfl))); apply Exists.intro; apply Exists.intro; refine ⟨?_, ?_, ?_, ?_, ?_⟩; (focus (intro w'; go_simp; (first | rfl | exact ⟨rfl, rfl⟩))); (focus (exact ⟨.agg #[.int .i64 x.f0, .string x.f1, .string x.f2, .slice none x.f3.length 0], _, _, rfl⟩)); (focus (exact fun u => sb_stb _ _ _ u)); (focus (intro p' w' hw' hp'; refine (node_at x (by omega) HG.out tt uu w' (ER_bound (ER_keep (Keep.of_below hw') E8.out))).mono ?_; rintro e w8 ⟨v, rfl, r8, b8⟩; obtain ⟨A8, c8, rfl⟩ := Kd.R_slice r8; obtain ⟨-, hc8, hC8⟩ := Kd.R_reads' r8; exact ⟨_, rfl, b8, hw'.trans (b8.mono hw'.size), ⟨A8, c8, rfl⟩, fun _ A c e => by injection e with e; injection e with e; injection e with _ e; injection e with _ e; injection e with _ e; injection e with e _; injection e with e1 _ e2; subst e1; subst e2; exact ⟨hc8, hC8⟩⟩)); rintro u1 ⟨A1, c1, rfl⟩; intro K hK; go_simp; refine hK _ ?_; clear hK K)
      ((with_reducible refine Qy.y_val ⟨fun _ _ _ hF h w' h1 h2 => h w' h1 fun k => hF k _ (h2 k)⟩ ?_ ?_ ?_ ?_ ?_); (focus (first | exact fun _ => Only.refl _ _ | exact fun _ => Below.refl _ _)); (focus (exact fun _ => trivial)); (focus (first | rfl | decide)); (first | (focus (exact Qy.wanted_none rfl)) | (focus (exact Qg.wanted_on rfl rfl rfl))); apply Exists.intro; refine ⟨?_, ?_⟩; (focus (intro p' w' hw' hp'; have hRw := R8.out.below hw'; have q0 := hRw.cell 0; have q1 := hRw.cell 1; have q2 := hRw.cell 2; have q3 := hRw.cell 3; have ql := hRw.lt; go_simp; (first | done | (with_reducible rfl)))); intro K hK; go_simp; refine hK _ ?_; clear hK K)
      ((with_reducible refine Qy.y_call ?_ ?_ ?_); (focus (first | rfl | decide)); (first | (focus (exact Qy.wanted_none rfl)) | (focus (exact Qg.wanted_on rfl rfl rfl))); apply Exists.intro; apply Exists.intro; refine ⟨?_, ?_, ?_, ?_, ?_⟩; (focus (intro w'; go_simp; (first | rfl | exact ⟨rfl, rfl⟩))); (focus (exact ⟨.bool true, rfl⟩)); (focus (exact fun u => sb_stb _ _ _ u)); (focus (intro p' w' hw' hp'; have h8 := (Qy.fact hp' 1 rfl : Sb x _ _ _ w') rfl A1 c1 rfl; refine (stileref05_Same.calls ks x.f0 x.f1 x.f2 A1 c1 x.f3 x.f0 x.f1 x.f2 A c x.f3 true w' h8.2 h8.1 (Kd.C_below HC.out (BW8.out.trans (hw'.mono BW8.out.size))) hc HKS.out).mono ?_; rintro e w8 ⟨rfl, b8⟩; exact ⟨_, rfl, b8, hw'.trans (b8.mono hw'.size), rfl, (fun h => by cases h)⟩)); rintro u3 rfl; intro K hK; go_simp; refine hK _ ?_; clear hK K)
      ((with_reducible refine Qy.y_val ⟨fun _ _ _ hF h w' h1 h2 => h w' h1 fun k => hF k _ (h2 k)⟩ ?_ ?_ ?_ ?_ ?_); (focus (first | exact fun _ => Only.refl _ _ | exact fun _ => Below.refl _ _)); (focus (exact fun _ => trivial)); (focus (first | rfl | decide)); (first | (focus (exact Qy.wanted_none rfl)) | (focus (exact Qg.wanted_on rfl rfl rfl))); apply Exists.intro; refine ⟨?_, ?_⟩; (focus (intro p' w' hw' hp'; skip; go_simp; (first | done | (with_reducible rfl)))); intro K hK; go_simp; refine hK _ ?_; clear hK K)
      ((with_reducible refine Qy.y_nil ?_); intro w' hw' hf')
      have HB := Aside0.mk (BW8.out.trans (hw'.mono BW8.out.size))
      clear hw' hf'
      go_wp2
      go_ret
      exact ⟨by first | rfl | simp, HB.out⟩
    · obtain ⟨rfl, hg4, hg5, -⟩ := HG7.out (by omega)
      have tn : ((n : Int) == 0) = false := by simpa using h0n
      go_wp2_with fail
      clear x3 xl
      go_loopw [47] (fun v47 wr => ∃ i : Nat, v47 = .int .i64 (i : Int) ∧ Aside0 (i ≤ n) ∧ Aside0 (Below w4.heap.size w4 wr) ∧ Aside0 (Blk wr w5.heap.size TN #[.int .i64 x.f0, .string x.f1, .string x.f2, .slice (some ⟨g, 0, none⟩) n k5]) ∧ Aside0 (0 < n → ∃ cur, Blk wr g TN cur ∧ n * 4 ≤ cur.size)) (fun v47 _ => n - (intOf v47).toNat)
      case atStart => exact ⟨0, rfl, ⟨Nat.zero_le _⟩, B7, X7, ⟨fun h => (HG7.out h).2.2.2⟩⟩
      case round =>
        obtain ⟨i, rfl, hin, hb, hX, hG⟩ := hrel
        by_cases hi : i < n
        · have t1 : decide ((i : Int) < (n : Int)) = true := decide_eq_true (by omega)
          obtain ⟨cur, hB, hcur⟩ := hG.out (by omega)
          have h0 : (0 : Int) ≤ (i : Int) := by omega
          have h1 : (i : Int) < (n : Int) := by omega
          have p0 := eq_true h0
          have p1 := eq_true h1
          have y0 := (hB.cell (i * 4)).trans (Array.getElem?_eq_getElem (show i * 4 < cur.size by omega))
          have y1 := (hB.cell (i * 4 + 1)).trans (Array.getElem?_eq_getElem (show i * 4 + 1 < cur.size by omega))
          have y2 := (hB.cell (i * 4 + 2)).trans (Array.getElem?_eq_getElem (show i * 4 + 2 < cur.size by omega))
          have y3 := (hB.cell (i * 4 + 3)).trans (Array.getElem?_eq_getElem (show i * 4 + 3 < cur.size by omega))
          have z0 := hB.frozen (i * 4)
          have z1 := hB.frozen (i * 4 + 1)
          have z2 := hB.frozen (i * 4 + 2)
          have z3 := hB.frozen (i * 4 + 3)
          have yl := hB.lt
          generalize cur[i * 4]'(by omega) = q0 at y0
          generalize cur[i * 4 + 1]'(by omega) = q1 at y1
          generalize cur[i * 4 + 2]'(by omega) = q2 at y2
          generalize cur[i * 4 + 3]'(by omega) = q3 at y3
          have HB := Aside0.mk hB
          clear hB
          obtain ⟨W9, hW9, b9, X9, cur9, K9, z9⟩ := zero_row (i := i) hb.out HB.out hX.out (by omega) hg4 (.int .i64 0) (.string ⟨#[]⟩) (.string ⟨#[]⟩) (.slice none 0 0)
          have HW9 := Aside0.mk hW9
          have B9 := Aside0.mk b9
          have XX9 := Aside0.mk X9
          have KK9 := Aside0.mk K9
          clear hW9 b9 X9 K9
          go_wp2
          rw [HW9.out]
          refine ⟨⟨i + 1, by simp, ⟨by omega⟩, B9, XX9, ⟨fun _ => ⟨cur9, KK9.out, by omega⟩⟩⟩, ?_⟩
          simp [intOf]; omega
        · have t1 : decide ((i : Int) < (n : Int)) = false := decide_eq_false (by omega)
          go_wp2_with fail
          have R8 := Aside0.mk (R4.out.below (hb.out.mono (Nat.le_refl _)))
          have E8 := Aside0.mk (ER_bound (ER_keep (Keep.of_below hb.out) E4.out))
          have BW8 := Aside0.mk (B4.out.trans (hb.out.mono B4.out.size))
          have hm1 := HM1.out
          have hm2 := HM2.out
          clear hX hG hb
          refine Qy.wp_region_all (fun w w' => Below w.heap.size w w') (Sb x) (SVb x) (fun p w' => Below wr.heap.size wr w') [] (by kernel_rfl) (by kernel_rfl) (Below.refl _ _).drew ?_
          ((with_reducible refine Qy.y_val ⟨fun _ _ _ hF h w' h1 h2 => h w' h1 fun k => hF k _ (h2 k)⟩ ?_ ?_ ?_ ?_ ?_); (focus (first | exact fun _ => Only.refl _ _ | exact fun _ => Below.refl _ _)); (focus (exact fun _ => trivial)); (focus (first | rfl | decide)); (first | (focus (exact Qy.wanted_none rfl)) | (focus (exact Qg.wanted_on rfl rfl rfl))); apply Exists.intro; refine ⟨?_, ?_⟩; (focus (intro p' w' hw' hp'; skip; go_simp; (first | done | (with_reducible rfl)))); intro K hK; go_simp; refine hK _ ?_; clear hK K)
          ((with_reducible refine Qy.y_call ?_ ?_ ?_); (focus (first | rfl | decide)); (first | (focus (exact Qy.wanted_none rfl)) | (focus (exact Qg.wanted_on rfl rfl rfl))); apply Exists.intro; apply Exists.intro; refine ⟨?_, ?_, ?_, ?_, ?_⟩; (focus (intro w'; go_simp; (first | rfl | exact ⟨rfl, rfl⟩))); (focus (exact ⟨.agg #[.int .i64 x.f0, .string x.f1, .string x.f2, .slice none x.f3.length 0], _, _, rfl⟩)); (focus (exact fun u => sb_stb _ _ _ u)); (focus (intro p' w' hw' hp'; refine (node_at x (by omega) HG.out tt uu w' (ER_bound (ER_keep (Keep.of_below hw') E8.out))).mono ?_; rintro e w8 ⟨v, rfl, r8, b8⟩; obtain ⟨A8, c8, rfl⟩ := Kd.R_slice r8; obtain ⟨-, hc8, hC8⟩ := Kd.R_reads' r8; exact ⟨_, rfl, b8, hw'.trans (b8.mono hw'.size), ⟨A8, c8, rfl⟩, fun _ A c e => by injection e with e; injection e with e; injection e with _ e; injection e with _ e; injection e with _ e; injection e with e _; injection e with e1 _ e2; subst e1; subst e2; exact ⟨hc8, hC8⟩⟩)); rintro u1 ⟨A1, c1, rfl⟩; intro K hK; go_simp; refine hK _ ?_; clear hK K)
          ((with_reducible refine Qy.y_val ⟨fun _ _ _ hF h w' h1 h2 => h w' h1 fun k => hF k _ (h2 k)⟩ ?_ ?_ ?_ ?_ ?_); (focus (first | exact fun _ => Only.refl _ _ | exact fun _ => Below.refl _ _)); (focus (exact fun _ => trivial)); (focus (first | rfl | decide)); (first | (focus (exact Qy.wanted_none rfl)) | (focus (exact Qg.wanted_on rfl rfl rfl))); apply Exists.intro; refine ⟨?_, ?_⟩; (focus (intro p' w' hw' hp'; have hRw := R8.out.below hw'; have q0 := hRw.cell 0; have q1 := hRw.cell 1; have q2 := hRw.cell 2; have q3 := hRw.cell 3; have ql := hRw.lt; go_simp; (first | done | (with_reducible rfl)))); intro K hK; go_simp; refine hK _ ?_; clear hK K)
          ((with_reducible refine Qy.y_call ?_ ?_ ?_); (focus (first | rfl | decide)); (first | (focus (exact Qy.wanted_none rfl)) | (focus (exact Qg.wanted_on rfl rfl rfl))); apply Exists.intro; apply Exists.intro; refine ⟨?_, ?_, ?_, ?_, ?_⟩; (focus (intro w'; go_simp; (first | rfl | exact ⟨rfl, rfl⟩))); (focus (exact ⟨.bool true, rfl⟩)); (focus (exact fun u => sb_stb _ _ _ u)); (focus (intro p' w' hw' hp'; have h8 := (Qy.fact hp' 1 rfl : Sb x _ _ _ w') rfl A1 c1 rfl; refine (stileref05_Same.calls ks x.f0 x.f1 x.f2 A1 c1 x.f3 x.f0 x.f1 x.f2 A c x.f3 true w' h8.2 h8.1 (Kd.C_below HC.out (BW8.out.trans (hw'.mono BW8.out.size))) hc HKS.out).mono ?_; rintro e w8 ⟨rfl, b8⟩; exact ⟨_, rfl, b8, hw'.trans (b8.mono hw'.size), rfl, (fun h => by cases h)⟩)); rintro u3 rfl; intro K hK; go_simp; refine hK _ ?_; clear hK K)
          ((with_reducible refine Qy.y_val ⟨fun _ _ _ hF h w' h1 h2 => h w' h1 fun k => hF k _ (h2 k)⟩ ?_ ?_ ?_ ?_ ?_); (focus (first | exact fun _ => Only.refl _ _ | exact fun _ => Below.refl _ _)); (focus (exact fun _ => trivial)); (focus (first | rfl | decide)); (first | (focus (exact Qy.wanted_none rfl)) | (focus (exact Qg.wanted_on rfl rfl rfl))); apply Exists.intro; refine ⟨?_, ?_⟩; (focus (intro p' w' hw' hp'; skip; go_simp; (first | done | (with_reducible rfl)))); intro K hK; go_simp; refine hK _ ?_; clear hK K)
          ((with_reducible refine Qy.y_nil ?_); intro w' hw' hf')
          have HB := Aside0.mk (BW8.out.trans (hw'.mono BW8.out.size))
          clear hw' hf'
          go_wp2
          go_ret
          exact ⟨by first | rfl | simp, HB.out⟩
end Go.Proofs.Ytpilbomkdafdfaa.Tra
