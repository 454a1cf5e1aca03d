/- Trees of keys: walk. -/
import Derived.Test.YtcgfdnhocdcfjaaHpq
namespace Go.Proofs.Ytcgfdnhocdcfjaa.Hed
open Go.RowKit Go.Proofs.YtcgfdnhocdcfjaaW.PrintWords Go.Proofs.Ytcgfdnhocdcfjaa.Arr Go.Proofs.Ytcgfdnhocdcfjaa.Utf T
set_option linter.unusedVariables false
set_option linter.unusedSimpArgs false

section
variable (ok : List Ent → Ent → Bool)
/-- Entries are gathered as long as they are right. -/
def runL : List Ent → List Ent → List Ent × Bool
  | [], out => (out, true)
  | e :: l, out => if ok out e then runL l (out ++ [e]) else (out, false)
theorem runL_append (l m out : List Ent) : runL ok (l ++ m) out = if (runL ok l out).2 then runL ok m (runL ok l out).1 else ((runL ok l out).1, false) := by
  induction l generalizing out with
  | nil => rfl
  | cons e l ih =>
    simp only [List.cons_append, runL]
    split
    · exact ih _
    · rfl
theorem runL_len (l out : List Ent) : (runL ok l out).1.length ≤ out.length + l.length := by
  induction l generalizing out with
  | nil => exact Nat.le_refl _
  | cons e l ih =>
    simp only [runL]
    split
    · have := ih (out ++ [e])
      simp only [List.length_append, List.length_cons, List.length_nil] at this ⊢
      omega
    · simp
end
theorem from_len (t : T) (key : ByteArray) : (from_ t key).length ≤ t.size := by
  induction t with
  | nil => exact Nat.le_refl _
  | node g k v wt l r ihl ihr =>
    simp only [from_, T.size]
    split
    · omega
    · simp only [List.length_append, List.length_cons]; omega
section
variable (ok : List Ent → Ent → Bool) (St : List Ent → World → Prop) (B N : Nat) (caps : Array Value)
/-- What is visited is gathered, if it is right. -/
def VisAt : Prop := ∀ (k : ByteArray) (v : Int) (out : List Ent) (w : World), St out w → B ≤ w.heap.size → out.length < 1000000 →
  Calls Try.prog N (#[.agg #[.string k, .int .i64 v]] ++ caps) w fun e w' => e = .returned (.bool (ok out (k, v))) ∧ St (if ok out (k, v) then out ++ [(k, v)] else out) w' ∧ Below B w w'
def WalkPost (t : T) (key : ByteArray) (out : List Ent) (w : World) (e : Ending) (w' : World) : Prop :=
  e = .returned (.bool (runL ok (from_ t key) out).2) ∧ St (runL ok (from_ t key) out).1 w' ∧ Below B w w'
variable {ok St B N caps}
set_option maxHeartbeats 8000000 in
theorem walk_calls (hcf : ∀ args w, Sem.run Try.prog (callFunc N args) w = Result.ok (.enter N args) w) (hst : ∀ out w w', St out w → Below w.heap.size w w' → St out w') (hv : VisAt ok St B N caps) (t : T) (key : ByteArray) :
    ∀ (out : List Ent) (w : World), out.length + t.size ≤ 1000000 → (∀ k, k ∈ t.blocks → k < B) → At w t → St out w → B ≤ w.heap.size →
      Calls Try.prog 38 #[t.ptr, .string key, .func (Fn.func N) #[] caps] w (WalkPost ok St B t key out w) := by
  induction t with
  | nil =>
    intro out w _ _ _ hS hB
    rw [ptr_nil]
    have HS := Aside0.mk hS
    clear hS
    go_enter Try.func38, Try.ntmps38
    go_wp2
    go_ret
    exact ⟨rfl, HS.out, Below.refl _ _⟩
  | node g k v wt l r ihl ihr =>
    intro out w hz hlt hA hS hB
    rw [ptr_node]
    simp only [T.size] at hz
    obtain ⟨hb, hL, hR⟩ := hA
    have hll : ∀ j, j ∈ l.blocks → j < B := fun j hj => hlt j (by simp [blocks, hj])
    have hrl : ∀ j, j ∈ r.blocks → j < B := fun j hj => hlt j (by simp [blocks, hj])
    have hgB : g < B := hlt g (by simp [blocks])
    have HS := Aside0.mk hS
    have HB := Aside0.mk hb
    have HL := Aside0.mk hL
    have HR := Aside0.mk hR
    have HLL := Aside0.mk hll
    have HRL := Aside0.mk hrl
    obtain ⟨lp, hlp⟩ := ptr_open l
    obtain ⟨rp, hrp⟩ := ptr_open r
    have HLP := Aside0.mk hlp
    have HRP := Aside0.mk hrp
    have IL := Aside0.mk ihl
    have IR := Aside0.mk ihr
    have VV := Aside0.mk hv
    have SS := Aside0.mk hst
    have c0 : w.cell? ⟨g, 0, none⟩ = some (.string k) := hb.cell 0
    have cl := hb.lt
    have KC := Aside0.mk (fun w => compare_calls k key w)
    have fl := from_len l key
    unfold WalkPost
    simp only [from_]
    have e1 : T.lt k key = decide (cmpB k key < 0) := rfl
    rw [e1]
    obtain ⟨cc, hcc⟩ : ∃ cc, cmpB k key = cc := ⟨_, rfl⟩
    rw [hcc] at KC ⊢
    clear ihl ihr hS hlt hL hR hb hll hrl hlp hrp hv hst hcc e1
    by_cases h1 : cc < 0
    · have t1 : decide (cc < 0) = true := decide_eq_true h1
      rw [t1]
      simp only [if_true]
      have c5 : w.cell? ⟨g, 5, none⟩ = some (.pointer rp) := by rw [← HRP.out]; exact HB.out.cell 5
      have K := IR.out out w (by omega) HRL.out HR.out HS.out hB
      rw [HRP.out] at K
      unfold WalkPost at K
      have K' := Aside0.mk K
      obtain ⟨res, hres⟩ : ∃ res, runL ok (from_ r key) out = res := ⟨_, rfl⟩
      obtain ⟨o2, b2⟩ := res
      rw [hres] at K' ⊢
      clear K hres
      go_enter Try.func38, Try.ntmps38
      go_wp2_with fail
      refine (KC.out _).mono ?_
      rintro e w1 ⟨rfl, rfl⟩
      clear c0
      go_wp2_with fail
      refine K'.out.mono ?_
      rintro e w2 ⟨rfl, hS2, hb2⟩
      have S2 := Aside0.mk hS2
      have B2 := Aside0.mk hb2
      clear hS2 hb2 c5
      go_wp2
      go_ret
      exact ⟨rfl, S2.out, B2.out⟩
    · have t1 : decide (cc < 0) = false := decide_eq_false h1
      rw [t1]
      simp only [Bool.false_eq_true, if_false]
      rw [runL_append]
      have c4 : w.cell? ⟨g, 4, none⟩ = some (.pointer lp) := by rw [← HLP.out]; exact HB.out.cell 4
      have K := IL.out out w (by omega) HLL.out HL.out HS.out hB
      rw [HLP.out] at K
      unfold WalkPost at K
      have hlen := runL_len ok (from_ l key) out
      obtain ⟨o1, b1⟩ : ∃ o1, (runL ok (from_ l key) out).1 = o1 := ⟨_, rfl⟩
      obtain ⟨q1, hq1⟩ : ∃ q1, (runL ok (from_ l key) out).2 = q1 := ⟨_, rfl⟩
      rw [b1, hq1] at K ⊢
      rw [b1] at hlen
      have K' := Aside0.mk K
      clear K b1 hq1
      cases q1 with
      | false =>
        simp only [Bool.false_eq_true, if_false]
        go_enter Try.func38, Try.ntmps38
        go_wp2_with fail
        refine (KC.out _).mono ?_
        rintro e w1 ⟨rfl, rfl⟩
        clear c0
        go_wp2_with fail
        refine K'.out.mono ?_
        rintro e w2 ⟨rfl, hS2, hb2⟩
        have S2 := Aside0.mk hS2
        have B2 := Aside0.mk hb2
        clear hS2 hb2 c4
        go_wp2
        go_ret
        exact ⟨rfl, S2.out, B2.out⟩
      | true =>
        simp only [if_true, runL]
        have VK := Aside0.mk (fun w' (h1 : St o1 w') (h2 : B ≤ w'.heap.size) => VV.out k v o1 w' h1 h2 (by omega))
        obtain ⟨qo, hqo⟩ : ∃ qo, ok o1 (k, v) = qo := ⟨_, rfl⟩
        rw [hqo] at VK ⊢
        clear hqo
        cases qo with
        | false =>
          simp only [Bool.false_eq_true, if_false] at VK ⊢
          go_enter Try.func38, Try.ntmps38
          go_wp2_with fail
          refine (KC.out _).mono ?_
          rintro e w1 ⟨rfl, rfl⟩
          clear c0
          go_wp2_with fail
          refine K'.out.mono ?_
          rintro e w2 ⟨rfl, hS2, hb2⟩
          have hB2 := HB.out.below' hb2 hgB
          have c0 : w2.cell? ⟨g, 0, none⟩ = some (.string k) := hB2.cell 0
          have c1 : w2.cell? ⟨g, 1, none⟩ = some (.int .i64 v) := hB2.cell 1
          have gl := hB2.lt
          have S2 := Aside0.mk hS2
          have B2 := Aside0.mk hb2
          have z2 := hb2.size
          clear hS2 hb2 c4 hB2
          go_wp2_with fail
          refine (VK.out w2 S2.out (by omega)).mono ?_
          rintro e w3 ⟨rfl, hS3, hb3⟩
          have S3 := Aside0.mk hS3
          have B3 := Aside0.mk (B2.out.trans hb3)
          have z3 := hb3.size
          clear hS3 hb3 c0 c1 gl
          go_wp2
          go_ret
          exact ⟨rfl, S3.out, B3.out⟩
        | true =>
          simp only [if_true] at VK ⊢
          have K6 := Aside0.mk (fun w' (h1 : At w' r) (h2 : St (o1 ++ [(k, v)]) w') (h3 : B ≤ w'.heap.size) => IR.out (o1 ++ [(k, v)]) w' (by simp only [List.length_append, List.length_cons, List.length_nil]; omega) HRL.out h1 h2 h3)
          unfold WalkPost at K6
          rw [HRP.out] at K6
          obtain ⟨o3, hn3⟩ : ∃ o3, o1 ++ [(k, v)] = o3 := ⟨_, rfl⟩
          rw [hn3] at VK K6 ⊢
          obtain ⟨o4, ho4⟩ : ∃ o4, (runL ok (from_ r key) o3).1 = o4 := ⟨_, rfl⟩
          obtain ⟨q4, hq4⟩ : ∃ q4, (runL ok (from_ r key) o3).2 = q4 := ⟨_, rfl⟩
          rw [ho4, hq4] at K6 ⊢
          clear hn3 ho4 hq4
          go_enter Try.func38, Try.ntmps38
          go_wp2_with fail
          refine (KC.out _).mono ?_
          rintro e w1 ⟨rfl, rfl⟩
          clear c0
          go_wp2_with fail
          refine K'.out.mono ?_
          rintro e w2 ⟨rfl, hS2, hb2⟩
          have hB2 := HB.out.below' hb2 hgB
          have c0 : w2.cell? ⟨g, 0, none⟩ = some (.string k) := hB2.cell 0
          have c1 : w2.cell? ⟨g, 1, none⟩ = some (.int .i64 v) := hB2.cell 1
          have gl := hB2.lt
          have S2 := Aside0.mk hS2
          have B2 := Aside0.mk hb2
          have z2 := hb2.size
          clear hS2 hb2 c4 hB2
          go_wp2_with fail
          refine (VK.out w2 S2.out (by omega)).mono ?_
          rintro e w3 ⟨rfl, hS3, hb3⟩
          have S3 := Aside0.mk hS3
          have B3 := Aside0.mk (B2.out.trans hb3)
          have z3 := hb3.size
          clear hS3 hb3 c0 c1 gl
          have hB3 := HB.out.below' B3.out hgB
          have c5 : w3.cell? ⟨g, 5, none⟩ = some (.pointer rp) := by rw [← HRP.out]; exact hB3.cell 5
          have gl := hB3.lt
          clear hB3
          go_wp2_with fail
          refine (K6.out w3 (HR.out.keep fun j hj => B3.out.block j (HRL.out j hj)) S3.out (by omega)).mono ?_
          rintro e w4 ⟨rfl, hS4, hb4⟩
          have S4 := Aside0.mk hS4
          have B4 := Aside0.mk (B3.out.trans hb4)
          clear hS4 hb4 c5 gl
          go_wp2
          go_ret
          exact ⟨rfl, S4.out, B4.out⟩
end
end Go.Proofs.Ytcgfdnhocdcfjaa.Hed
