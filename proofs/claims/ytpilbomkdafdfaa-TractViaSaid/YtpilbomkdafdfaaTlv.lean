/- The law TractVia: its walk. -/
import Derived.Test.YtpilbomkdafdfaaTlr
import Derived.Test.YtpilbomkdafdfaaTva
namespace Go.Proofs.Ytpilbomkdafdfaa.Tra
open Go.RowKit Go.Proofs.YtpilbomkdafdfaaW.PrintWords Go.Proofs.YtpilbomkdafdfaaW.PrintLast Go.Proofs.YtpilbomkdafdfaaW.PrintMore Go.Proofs.Ytpilbomkdafdfaa.Arr Go.Proofs.Ytpilbomkdafdfaa.Utf Go.Proofs.Ytpilbomkdafdfaa.PTractRefs
set_option linter.unusedVariables false
set_option linter.unusedSimpArgs false

theorem ER_arrow {ok : Nat → Prop} {w : World} {x : S24} {v : Value} (h : ER ok w x v) (hk : x.f0 = 3) : v = .iface 33 (.agg #[.string x.f1, .string x.f2]) := by
  obtain ⟨k, a, b, l⟩ := x
  simp only [ER] at h hk
  subst hk
  simpa using h
theorem ER_other {ok : Nat → Prop} {w : World} {x : S24} {v : Value} (h : ER ok w x v) (hk : ¬ x.f0 = 3) : ∃ t u, v = .iface t u ∧ t ≠ 33 := by
  obtain ⟨k, a, b, l⟩ := x
  simp only [ER] at h hk
  rw [if_neg hk] at h
  split at h
  · exact ⟨_, _, h, by decide⟩
  · split at h
    · exact ⟨_, _, h, by decide⟩
    · split at h
      · obtain ⟨x, y, e, _⟩ := h; exact ⟨_, _, e, by decide⟩
      · obtain ⟨r, vs, e, _⟩ := h
        refine ⟨_, _, e, ?_⟩
        by_cases h4 : k = 4
        · rw [if_pos h4]; decide
        · rw [if_neg h4]; decide
set_option maxHeartbeats 16000000 in
set_option maxRecDepth 100000 in
theorem lawVia_calls (x : S24) (ht : strs x ≤ 9223372036854775807) (A : Option Addr) (c : Nat) (w : World) (hC : Kd.C k24 w A x.f3.length x.f3) (hc : x.f3.length ≤ c) :
    Calls Try.prog 3 #[.agg (nodeA x A c)] w fun e w' => e = .returned (.bool true) ∧ Below w.heap.size w w' := by
  have hu24 := Try.underlying24
  obtain ⟨kf, hkf⟩ := few_f x
  have HF := Aside0.mk hkf
  obtain ⟨W0, hW0⟩ : ∃ W0, w.alloc (.cells (nodeA x A c) TN) = W0 := ⟨_, rfl⟩
  have b0 : Below w.heap.size w W0 := by rw [← hW0]; exact (Below.refl _ _).alloc (Nat.le_refl _) _
  have hR : Blk W0 w.heap.size TN (nodeA x A c) := by rw [← hW0]; exact Blk.new _ _ _
  have HC := Aside0.mk hC
  have R0 := Aside0.mk hR
  have B0 := Aside0.mk b0
  clear hC hR b0 hkf
  go_enter Try.func3, Try.ntmps3
  go_wp2_with fail
  clear hW0
  refine (awake_calls W0).mono ?_
  rintro e w1 ⟨rfl, b1⟩
  have hR1 := R0.out.below b1
  have B1 := Aside0.mk (B0.out.trans (b1.mono B0.out.size))
  have R1 := Aside0.mk hR1
  have c0 := hR1.cell 0
  have c1 := hR1.cell 1
  have c2 := hR1.cell 2
  have c3 := hR1.cell 3
  have cl := hR1.lt
  clear b1 hR1 R0 B0
  go_wp2_with fail
  clear c0 c1 c2 c3 cl
  refine (stilelaw05_Few.calls kf x.f0 x.f1 x.f2 A c x.f3 (fewB x) w1 (Kd.C_below HC.out B1.out) hc HF.out).mono ?_
  rintro e w2 ⟨rfl, b2⟩
  have hR2 := R1.out.below b2
  have B2 := Aside0.mk (B1.out.trans (b2.mono B1.out.size))
  have R2 := Aside0.mk hR2
  clear b2 R1 B1
  by_cases hs : ¬ sz x ≤ 300
  · have hf : fewB x = false := decide_eq_false hs
    rw [hf]
    clear hR2 hf hs
    go_wp2_with fail
    refine (awake_calls w2).mono ?_
    rintro e w3 ⟨rfl, b3⟩
    have B3 := Aside0.mk (B2.out.trans (b3.mono B2.out.size))
    clear b3 R2 B2
    go_wp2
    go_ret
    exact ⟨rfl, B3.out⟩
  have hs : sz x ≤ 300 := Classical.not_not.1 hs
  have hf : fewB x = true := decide_eq_true hs
  rw [hf]
  have KB := Aside0.mk (buildR_calls x (by omega) ht A c w2 (Kd.C_below HC.out B2.out) hc)
  have c0 := hR2.cell 0
  have c1 := hR2.cell 1
  have c2 := hR2.cell 2
  have c3 := hR2.cell 3
  have cl := hR2.lt
  clear hR2 hf
  go_wp2_with fail
  clear c0 c1 c2 c3 cl
  refine KB.out.mono ?_
  rintro e w3 ⟨v, rfl, hv0, hv1, b3⟩
  have B3 := Aside0.mk (B2.out.trans (b3.mono B2.out.size))
  have R3 := Aside0.mk (R2.out.below b3)
  by_cases hcd : codeV x = 0
  case neg =>
    obtain rfl := hv1 hcd
    have hb := code_bne x hcd
    obtain ⟨cd, hcc⟩ : ∃ cd, codeV x = cd := ⟨_, rfl⟩
    rw [hcc] at hb hcd ⊢
    clear hv0 hv1 b3 KB R2 B2 hcc R3
    go_wp2
    go_ret
    exact ⟨by first | rfl | simp [hb] | simp [hcd], B3.out⟩
  have hE := ER_bound (hv0 hcd)
  rw [hcd]
  by_cases hk : x.f0 = 3
  · obtain rfl := ER_arrow hE hk
    clear hv0 hv1 b3 KB R2 B2 hcd hE
    go_wp2_with fail
    refine (asks_arrow x.f1 x.f2 w3).mono ?_
    rintro e w4 ⟨rfl, b4⟩
    have B4 := Aside0.mk (B3.out.trans (b4.mono B3.out.size))
    have hR4 := R3.out.below b4
    have c0 := hR4.cell 0
    have c1 := hR4.cell 1
    have c2 := hR4.cell 2
    have c3 := hR4.cell 3
    have cl := hR4.lt
    clear hR4 b4 B3 R3
    go_wp2
    go_ret
    exact ⟨rfl, B4.out.alloc B4.out.size _⟩
  · obtain ⟨t, u, rfl, ht⟩ := ER_other hE hk
    clear hv0 hv1 b3 KB R2 B2 hcd hE
    go_wp2_with fail
    refine (asks_other t u ht w3).mono ?_
    rintro e w4 ⟨rfl, b4⟩
    have B4 := Aside0.mk (B3.out.trans (b4.mono B3.out.size))
    have hR4 := R3.out.below b4
    have c0 := hR4.cell 0
    have c1 := hR4.cell 1
    have c2 := hR4.cell 2
    have c3 := hR4.cell 3
    have cl := hR4.lt
    clear hR4 b4 B3 R3
    go_wp2
    go_ret
    exact ⟨rfl, B4.out.alloc B4.out.size _⟩
end Go.Proofs.Ytpilbomkdafdfaa.Tra
