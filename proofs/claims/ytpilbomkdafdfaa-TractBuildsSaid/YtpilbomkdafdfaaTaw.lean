/- The laws' awake. -/
import Derived.Test.YtpilbomkdafdfaaTed
namespace Go.Proofs.Ytpilbomkdafdfaa.Tra
open Go.RowKit Go.Proofs.YtpilbomkdafdfaaW.PrintWords Go.Proofs.YtpilbomkdafdfaaW.PrintLast Go.Proofs.YtpilbomkdafdfaaW.PrintMore Go.Proofs.Ytpilbomkdafdfaa.Arr Go.Proofs.Ytpilbomkdafdfaa.Utf Go.Proofs.Ytpilbomkdafdfaa.PTractRefs
set_option linter.unusedVariables false
set_option linter.unusedSimpArgs false

def sA : ByteArray := ⟨#[97]⟩
def sP : ByteArray := ⟨#[112]⟩
def sB : ByteArray := ⟨#[98]⟩
def exL : List S24 := [⟨4, e0, e0, [⟨1, e0, e0, []⟩, ⟨2, sA, e0, []⟩]⟩, ⟨3, sP, sB, []⟩]
def exN : S24 := ⟨6, e0, e0, exL⟩
theorem toList_one (c : UInt8) : (ByteArray.mk #[c]).toList = [c] := by rw [Lib.toList_data]
theorem word_one (c : UInt8) (h1 : nmR 0 c.toNat = true) : wordB ⟨#[c]⟩ = true := by
  have hn : nameB ⟨#[c]⟩ = true := by
    have hz : (ByteArray.mk #[c]).size = 1 := rfl
    have hg : gb ⟨#[c]⟩ 0 = c.toNat := rfl
    unfold nameB
    rw [nmAll_step _ 0 (by rw [hz]; decide), nmAll_end _ 1 (by rw [hz]; decide), hg, h1, hz]
    rfl
  unfold wordB
  rw [hn, toList_one]
  simp
theorem ex_sz : sz exN = 5 := rfl
theorem ex_dep : dep exN = 3 := rfl
theorem ex_good : goodB exN = true := by
  have h1 := word_one 97 (by decide)
  have h2 := word_one 112 (by decide)
  have h3 := word_one 98 (by decide)
  have h0 : noB e0 = true := by unfold noB e0; rw [Lib.toList_data]; rfl
  have h1 : wordB sA = true := h1
  have h2 : wordB sP = true := h2
  have h3 : wordB sB = true := h3
  simp [exN, exL, goodB, goodL, shapeB, h0, h1, h2, h3]
theorem ex_code : codeV exN = 0 := by
  unfold codeV
  rw [if_neg (by rw [ex_good]; decide), ex_sz, ex_dep, if_neg (by decide), if_neg (by decide)]
theorem ex_refs : refs exN false = [⟨e0, sA, false⟩, ⟨sP, sB, true⟩] := rfl
theorem ER_bound {ok : Nat → Prop} {w : World} {x : S24} {v : Value} (h : ER ok w x v) : ER (fun k => k < w.heap.size) w x v := ER_up (fun _ _ _ => rfl) (fun _ _ hlt => hlt) x v h
set_option maxHeartbeats 16000000 in
set_option maxRecDepth 100000 in
theorem awake_calls (w : World) : Calls Try.prog 7 #[] w fun e w' => e = .returned (.bool true) ∧ Below w.heap.size w w' := by
  obtain ⟨ks, hks⟩ := (ev_size exN (by rw [ex_sz]; decide)).rounds
  obtain ⟨kd, hkd⟩ := (ev_dep exN (by rw [ex_sz]; decide)).rounds
  have HS := Aside0.mk (show tract_Size.f ks 6 e0 e0 exL = some 5 from hks)
  have HD := Aside0.mk (show tract_Depth.f kd 6 e0 e0 exL = some 3 from hkd)
  clear hks hkd
  go_enter Try.func7, Try.ntmps7
  go_wp2_with fail
  refine (stilelaw05_example.calls 6 e0 e0 exL w rfl).mono ?_
  rintro e w1 ⟨v3, rfl, hN, b1⟩
  obtain ⟨A, c, rfl, hc, hC⟩ := Kd.N_reads hN
  obtain ⟨l, hl⟩ : ∃ l, exL = l := ⟨_, rfl⟩
  have hx : (⟨6, e0, e0, l⟩ : S24) = exN := by rw [← hl]; rfl
  rw [hl] at HS HD hc hC
  rw [hl]
  obtain ⟨n1, hn1⟩ : ∃ n, w1.heap.size = n := ⟨_, rfl⟩
  obtain ⟨W, hW⟩ : ∃ W, w1.alloc (.cells (nodeA ⟨6, e0, e0, l⟩ A c) TN) = W := ⟨_, rfl⟩
  have bW : Below w1.heap.size w1 W := by rw [← hW]; exact (Below.refl _ _).alloc (Nat.le_refl _) _
  have hR : Blk W n1 TN (nodeA ⟨6, e0, e0, l⟩ A c) := by rw [← hW]; exact Blk.newAt hn1.symm
  have HW := Aside0.mk hW
  have HX := Aside0.mk hx
  have B1 := Aside0.mk (b1.trans (bW.mono b1.size))
  have CW := Aside0.mk (Kd.C_below hC bW)
  have R1 := Aside0.mk hR
  have KB := Aside0.mk (buildR_calls ⟨6, e0, e0, l⟩ (by rw [hx, ex_sz]; decide) (by rw [hx]; decide +kernel) A c W CW.out hc)
  clear hN b1 hC hl hx hW bW hR
  go_wp2_with fail
  rw [HW.out]
  clear HW hn1
  refine KB.out.mono ?_
  rintro e w2 ⟨v, rfl, hv0, -, b2⟩
  have hcode : codeV ⟨6, e0, e0, l⟩ = 0 := by rw [HX.out]; exact ex_code
  have hE := hv0 hcode
  rw [hcode]
  obtain ⟨tt, uu, rfl⟩ := ER_iface hE
  have hE2 := ER_bound hE
  have B2 := Aside0.mk (B1.out.trans (b2.mono B1.out.size))
  have C2 := Aside0.mk (Kd.C_below CW.out b2)
  have E2 := Aside0.mk hE2
  have hR2 := R1.out.below b2
  have R2 := Aside0.mk hR2
  have c0 := hR2.cell 0
  have c1 := hR2.cell 1
  have c2 := hR2.cell 2
  have c3 := hR2.cell 3
  have cl := hR2.lt
  clear KB hv0 hcode hE hE2 b2 hR2 R1 CW B1
  go_wp2_with fail
  clear c0 c1 c2 c3 cl
  refine (tract_Size.calls ks 6 e0 e0 A c l 5 w2 C2.out hc HS.out).mono ?_
  rintro e w3 ⟨rfl, b3⟩
  have B3 := Aside0.mk (B2.out.trans (b3.mono B2.out.size))
  have C3 := Aside0.mk (Kd.C_below C2.out b3)
  have E3 := Aside0.mk (ER_keep (Keep.of_below b3) E2.out)
  have hsz3 := b3.size
  have hR2 := R2.out.below b3
  have R3 := Aside0.mk hR2
  have c0 := hR2.cell 0
  have c1 := hR2.cell 1
  have c2 := hR2.cell 2
  have c3 := hR2.cell 3
  have cl := hR2.lt
  clear b3 hR2 R2 C2 B2 E2
  go_wp2_with fail
  clear c0 c1 c2 c3 cl
  refine (tract_Depth.calls kd 6 e0 e0 A c l 3 w3 C3.out hc HD.out).mono ?_
  rintro e w4 ⟨rfl, b4⟩
  have B4 := Aside0.mk (B3.out.trans (b4.mono B3.out.size))
  have E4 := Aside0.mk (ER_bound (ER_keep (Keep.of_below b4) E3.out))
  clear b4 R3 C3 B3 E3
  go_wp2_with fail
  have KR := refsP_calls _ ⟨6, e0, e0, l⟩ (by rw [HX.out, ex_sz]; decide) (by rw [HX.out]; exact ex_good) (.iface tt uu) w4 E4.out (fun k hk => hk)
  refine KR.mono ?_
  rintro e w5 ⟨vo, rfl, hR5, b5⟩
  rw [HX.out, ex_refs] at hR5
  obtain ⟨g, cap, rfl, hg1, hg2, -⟩ := Kd.R_form hR5 (by decide)
  obtain ⟨-, -, hC5⟩ := Kd.R_reads' hR5
  obtain ⟨ad, eA, x0, x1, x2⟩ := at_T41 hC5 0 (by decide) (by decide)
  obtain ⟨ad', eA', y0, y1, y2⟩ := at_T41 hC5 1 (by decide) (by decide)
  cases eA
  cases eA'
  simp [rd_T41, Addr.add, e0, sA, sP, sB] at x0 x1 x2 y0 y1 y2
  have B5 := Aside0.mk (B4.out.trans (b5.mono B4.out.size))
  clear KR hR5 hC5 b5 hg1 B4 E4
  go_wp2
  go_ret
  exact ⟨rfl, B5.out⟩
end Go.Proofs.Ytpilbomkdafdfaa.Tra
