/- The program's tract: Direct. The law's awake. -/
import Derived.Test.YtpilbomkdafdfaaTec
namespace Go.Proofs.Ytpilbomkdafdfaa.Tra
open Go.RowKit Go.Proofs.YtpilbomkdafdfaaW.PrintWords Go.Proofs.YtpilbomkdafdfaaW.PrintLast Go.Proofs.YtpilbomkdafdfaaW.PrintMore Go.Proofs.Ytpilbomkdafdfaa.Arr Go.Proofs.Ytpilbomkdafdfaa.Utf Go.Proofs.Ytpilbomkdafdfaa.PTractRefs
set_option linter.unusedVariables false
set_option linter.unusedSimpArgs false

set_option maxHeartbeats 16000000 in
set_option maxRecDepth 100000 in
theorem visD (ok : Nat → Prop) (B gf go : Nat) (o0 : Bool) (w0 : World) : VisAt (stepD o0) ok (StD B gf go o0 w0) (fun _ => 0) 1000000 29 #[.pointer (some ⟨gf, 0, none⟩), .pointer (some ⟨go, 0, none⟩)] := by
  intro x v odd w S f hk hM hA
  have ST := Aside0.mk hA.st
  obtain ⟨h1, h2, hne, -, -, -, -⟩ := hA.st
  show Calls Try.prog 29 #[v, .bool odd, .pointer (some ⟨gf, 0, none⟩), .pointer (some ⟨go, 0, none⟩)] w _
  have c0 := h1.cell 0
  have f0 := h1.frozen 0
  have l0 := h1.lt
  have d0 := h2.cell 0
  have dl := h2.lt
  have KP := Aside0.mk (plain_calls ok x hk v w hA.er)
  cases f with
  | true =>
    have e1 : stepD o0 x odd true = true := rfl
    rw [e1]
    have R := Aside0.mk (StD_set (f' := true) ST.out)
    clear h1 h2 hA KP hk e1 hM ST
    go_enter Try.func29, Try.ntmps29
    go_wp2
    go_end0
    exact ⟨rfl, S, R.out.1, R.out.2⟩
  | false =>
    by_cases ho : odd = o0
    · subst ho
      have e1 : stepD odd x odd false = (x.f0 == 1) := by unfold stepD; simp
      rw [e1]
      obtain ⟨p, hp⟩ : ∃ p, (x.f0 == 1) = p := ⟨_, rfl⟩
      rw [hp] at KP ⊢
      have tb : (odd == odd) = true := beq_self_eq_true odd
      clear h1 h2 hA hk e1 hM hp
      cases odd
      all_goals
        go_enter Try.func29, Try.ntmps29
        go_wp2_with fail
        clear c0 f0 l0 d0 dl
        refine KP.out.mono ?_
        rintro e w1 ⟨rfl, b1⟩
        have S1 := Aside0.mk ((StD_ok B gf go _ w0).below _ _ _ _ ST.out b1)
        have W1 := Aside0.mk (Wr.of_below b1 S)
        obtain ⟨h1, -⟩ := S1.out
        have f0 := h1.frozen 0
        have l0 := h1.lt
        have c0 := h1.cell 0
        have R := Aside0.mk (StD_set (f' := p) S1.out)
        clear h1 KP b1
        go_wp2
        go_end0
        exact ⟨rfl, S, R.out.1, W1.out.trans R.out.2⟩
    · have e1 : stepD o0 x odd false = false := by unfold stepD; simp [ho]
      rw [e1]
      have R := Aside0.mk (StD_set (f' := false) ST.out)
      clear h1 h2 hA KP hk e1 hM ST
      cases odd <;> cases o0 <;> first | exact absurd rfl ho | skip
      all_goals
        clear ho
        go_enter Try.func29, Try.ntmps29
        go_wp2
        go_end0
        exact ⟨rfl, S, R.out.1, R.out.2⟩
theorem eachD (o0 : Bool) (x : S24) : goodB x = true → ∀ odd f, eachS (stepD o0) x odd f = (f || dir x o0 odd) := by
  refine S24_ind (P := fun x => goodB x = true → ∀ odd f, eachS (stepD o0) x odd f = (f || dir x o0 odd)) (fun x ih => ?_) x
  intro hg
  obtain ⟨hk, hl⟩ := good_kinds x hg
  obtain ⟨k, a, b, l⟩ := x
  simp only at *
  have H : ∀ (m : List S24), (∀ y, y ∈ m → y ∈ l) → ∀ odd i f, eachL (stepD o0) k m odd i f = (f || dirL k m o0 odd i) := by
    intro m
    induction m with
    | nil => intro _ odd i f; simp [eachL, dirL]
    | cons y m ihm =>
      intro hm odd i f
      simp only [eachL, dirL]
      rw [ih y (hm y (by simp)) (goodL_all _ hl y (hm y (by simp))), ihm (fun z hz => hm z (by simp [hz])), Bool.or_assoc]
  intro odd f
  simp only [eachS, dir]
  rw [H l (fun y hy => hy)]
  unfold stepD
  simp only
  have e : (odd == o0 && k == 1) = (k == 1 && o0 == odd) := by
    rw [Bool.and_comm]
    cases odd <;> cases o0 <;> rfl
  rw [e]
  cases f <;> cases (k == 1 && o0 == odd) <;> simp
set_option maxHeartbeats 8000000 in
set_option maxRecDepth 100000 in
theorem directP_calls (ok : Nat → Prop) (x : S24) (hs : sz x ≤ 100000) (hg : goodB x = true) (o0 : Bool) (v : Value) (w : World) (hE : ER ok w x v) (hok : ∀ k, ok k → k < w.heap.size) :
    Calls Try.prog 13 #[v, .bool o0] w fun e w' => e = .returned (.bool (dir x o0 false)) ∧ Below w.heap.size w w' := by
  obtain ⟨W, hW⟩ : ∃ W, (w.alloc (.cells #[.bool o0] TBo)).alloc (.cells #[.bool false] TBo) = W := ⟨_, rfl⟩
  obtain ⟨nx, hnx⟩ : ∃ nx, (w.alloc (.cells #[.bool o0] TBo)).heap.size = nx := ⟨_, rfl⟩
  have hnx' : w.heap.size + 1 = nx := by rw [← hnx]; simp
  have bb : Below w.heap.size w W := by rw [← hW]; exact ((Below.refl _ _).alloc (Nat.le_refl _) _).alloc (by simp) _
  have hB : Blk W (w.heap.size + 1) TBo #[.bool false] := by rw [hnx', ← hW]; exact Blk.newAt hnx.symm
  have hO : Blk W w.heap.size TBo #[.bool o0] := by rw [← hW]; exact (Blk.new w TBo #[.bool o0]).alloc _
  have hA : At ok (StD w.heap.size (w.heap.size + 1) w.heap.size o0 w) x v W (fun k => k = w.heap.size + 1) false := by
    refine ⟨ER_keep (Keep.of_below bb) hE, fun k hk h => ?_, fun k hk => Nat.lt_of_lt_of_le (hok k hk) bb.size, ⟨hB, hO, by omega, rfl, by omega, bb.size, bb⟩⟩
    have := hok k hk
    omega
  have KE := Aside0.mk (each_at (step := stepD o0) (len := fun _ => 0) (M := 1000000) cfD (fun _ _ _ => Nat.zero_le _) (StD_ok w.heap.size (w.heap.size + 1) w.heap.size o0 w) (visD ok w.heap.size (w.heap.size + 1) w.heap.size o0 w) x (by omega) hg v false W _ false (by simp; omega) hA)
  rw [eachD o0 x hg, Bool.false_or] at KE
  obtain ⟨tt, uu, rfl⟩ := ER_iface hE
  have HW := Aside0.mk hW
  clear hE hok hA bb hB hO hnx hnx' hW
  go_enter Try.func13, Try.ntmps13
  go_wp2_with fail
  rw [HW.out]
  clear HW
  refine KE.out.mono ?_
  rintro e w1 ⟨rfl, S', ⟨h1, h2, -, -, -, -, h7⟩, hw⟩
  have c0 := h1.cell 0
  have cl := h1.lt
  have H7 := Aside0.mk h7
  clear KE h1 h2 h7 hw
  go_wp2
  go_ret
  exact ⟨rfl, H7.out⟩
end Go.Proofs.Ytpilbomkdafdfaa.Tra
