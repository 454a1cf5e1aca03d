/- Trees of keys: split, join. -/
import Derived.Test.YtcgfdnhocdcfjaaHtm
namespace Go.Proofs.Ytcgfdnhocdcfjaa.Hed
open Go.RowKit Go.Proofs.YtcgfdnhocdcfjaaW.PrintWords Go.Proofs.Ytcgfdnhocdcfjaa.Arr Go.Proofs.Ytcgfdnhocdcfjaa.Utf T
set_option linter.unusedVariables false
set_option linter.unusedSimpArgs false

def SplitPost (t : T) (key : ByteArray) (w : World) (e : Ending) (w' : World) : Prop :=
  e = .returned (.tuple #[(splitT t key).1.ptr, (splitT t key).2.ptr]) ∧ At w' (splitT t key).1 ∧ At w' (splitT t key).2 ∧ Only t.blocks w w'
set_option maxHeartbeats 8000000 in
theorem split_calls (t : T) : t.size ≤ 1000000 → ∀ (key : ByteArray) (w : World), At w t → t.blocks.Nodup → Calls Try.prog 36 #[t.ptr, .string key] w (SplitPost t key w) := by
  induction t with
  | nil =>
    intro _ key w _ _
    go_enter Try.func36, Try.ntmps36
    simp only [ptr_nil, ptr_node]
    go_wp2
    go_ret2
    exact ⟨rfl, trivial, trivial, Only.refl _ _⟩
  | node g k v wt l r ihl ihr =>
    intro hz key w hA hN
    simp only [T.size] at hz
    simp only [blocks, List.nodup_cons, List.nodup_append] at hN
    obtain ⟨hg, hnl, hnr, hdj'⟩ := hN
    have hdj : ∀ j, j ∈ l.blocks → j ∈ r.blocks → False := fun j h1 h2 => hdj' j h1 j h2 rfl
    obtain ⟨hB, hAl, hAr⟩ := hA
    have HB := Aside0.mk hB
    have HAL := Aside0.mk hAl
    have HAR := Aside0.mk hAr
    clear hB hAl hAr hdj'
    unfold SplitPost
    cases hlt : lt k key with
    | true =>
      have hIH := ihr (by omega) key
      have hnd1 : g ∉ r.blocks := fun h => hg (by simp [h])
      have hnd2 : g ∉ l.blocks := fun h => hg (by simp [h])
      have hmem : ∀ j, j ∈ (splitT r key).1.blocks ∨ j ∈ (splitT r key).2.blocks → j ∈ r.blocks := fun j hj => (split_blocks r key).mem_iff.1 (by simpa using hj)
      have hss := split_size r key
      have HIH := Aside0.mk (fun w' (h' : At w' r) => hIH w' h' hnr)
      have HM := Aside0.mk hmem
      have HND := Aside0.mk (And.intro hnd1 hnd2)
      have HDJ := Aside0.mk hdj
      have HLT := Aside0.mk hlt
      simp only [splitT, hlt, if_true, Bool.false_eq_true, if_false]
      simp only [ptr_nil, ptr_node]
      obtain ⟨lp, hlp⟩ := ptr_open l
      obtain ⟨rp, hrp⟩ := ptr_open r
      obtain ⟨ap, hap⟩ := ptr_open (splitT r key).1
      obtain ⟨bp, hbp⟩ := ptr_open (splitT r key).2
      have c0 : w.cell? ⟨g, 0, none⟩ = some (.string k) := HB.out.cell 0
      have cl := HB.out.lt
      have HAP := Aside0.mk hap
      have HBP := Aside0.mk hbp
      have HLP := Aside0.mk hlp
      have HRP := Aside0.mk hrp
      have HSS := Aside0.mk hss
      have t1 : decide (cmpB k key < 0) = true := hlt
      have HT1 := Aside0.mk t1
      rw [hbp]
      clear hIH hnd1 hnd2 hmem hss hdj hlt hlp hrp hap hbp t1 ihl ihr hnl hnr hg
      go_enter Try.func36, Try.ntmps36
      go_wp2_with fail
      refine (compare_calls k key w).mono ?_
      rintro e w1 ⟨rfl, rfl⟩
      have t1 := HT1.out
      obtain ⟨cc, hcc⟩ : ∃ cc, cmpB k key = cc := ⟨_, rfl⟩
      rw [hcc] at t1 ⊢
      clear c0 hcc
      have c5 : w1.cell? ⟨g, 5, none⟩ = some (.pointer rp) := by rw [← HRP.out]; exact HB.out.cell 5
      go_wp2_with fail
      clear c5
      rw [← HRP.out]
      refine (HIH.out w1 HAR.out).mono ?_
      rintro e w2 ⟨rfl, ha, hb, ho⟩
      rw [HAP.out, HBP.out]
      have hB2 := HB.out.only ho HND.out.1
      have hO2 := HAL.out.only ho (fun j hj hj' => HDJ.out j hj hj')
      have z5 := hB2.frozen 5
      have c5 : w2.cell? ⟨g, 5, none⟩ = some (.pointer rp) := by rw [← HRP.out]; exact hB2.cell 5
      have gl := hB2.lt
      have B2 := Aside0.mk hB2
      have O2 := Aside0.mk hO2
      have A2 := Aside0.mk ha
      have A2' := Aside0.mk hb
      have N2 := Aside0.mk ho
      clear ha hb ho hB2 hO2
      go_wp2_with fail
      clear z5 c5 gl
      obtain ⟨w3, hw3⟩ : ∃ w3, w2.setCell ⟨g, 5, none⟩ (.pointer ap) = w3 := ⟨_, rfl⟩
      have ng : ∀ t : T, g ∉ t.blocks → At w2 t → At w3 t := fun t hg ht => ht.keep fun j hj => by rw [← hw3]; exact Below.heap_setCell _ _ _ _ (fun e => hg ((show j = g from e) ▸ hj))
      have hB3 : Blk w3 g TNd (cells k v wt ((l.size + r.size + 1 : Nat) : Int) l.ptr (splitT r key).1.ptr) := by
        rw [← hw3, HAP.out]; exact B2.out.set 5 _
      have hO3 : Only [g] w2 w3 := by rw [← hw3]; exact (Only.refl [g] w2).setCell (p := ⟨g, 5, none⟩) (.inl (by simp)) _
      have ga : g ∉ (splitT r key).1.blocks := fun h => HND.out.1 (HM.out g (.inl h))
      have gb : g ∉ (splitT r key).2.blocks := fun h => HND.out.1 (HM.out g (.inr h))
      have K3 := fix_calls g k v wt _ l (splitT r key).1 w3 hB3 (ng l HND.out.2 O2.out) (ng _ ga A2.out) (by have := HSS.out; omega)
      rw [hw3]
      refine K3.mono ?_
      rintro e w4 ⟨rfl, hB4, hO4⟩
      have keep : ∀ t : T, g ∉ t.blocks → At w2 t → At w4 t := fun t hg ht => (ng t hg ht).only hO4 (fun j hj hj' => hg (by simpa using (List.mem_singleton.1 hj') ▸ hj))
      have F1 : At w4 (node g k v wt l (splitT r key).1) := ⟨hB4, keep l HND.out.2 O2.out, keep _ ga A2.out⟩
      have F2 := keep (splitT r key).2 gb A2'.out
      have F3 : Only (node g k v wt l r).blocks w1 w4 := ((N2.out.mono (S' := (node g k v wt l r).blocks) (fun j hj => .inl (by simp [blocks, hj]))).trans hO3 (fun j hj => .inl (by simp [blocks] at hj ⊢; exact .inl hj))).trans hO4 (fun j hj => .inl (by simp [blocks] at hj ⊢; exact .inl hj))
      have F := Aside0.mk (And.intro F1 (And.intro F2 F3))
      clear hw3 ng hB3 hO3 ga gb K3 hB4 hO4 keep F1 F2 F3
      go_wp2
      go_ret2
      exact ⟨rfl, F.out.1, F.out.2.1, F.out.2.2⟩
    | false =>
      have hIH := ihl (by omega) key
      have hnd1 : g ∉ l.blocks := fun h => hg (by simp [h])
      have hnd2 : g ∉ r.blocks := fun h => hg (by simp [h])
      have hmem : ∀ j, j ∈ (splitT l key).1.blocks ∨ j ∈ (splitT l key).2.blocks → j ∈ l.blocks := fun j hj => (split_blocks l key).mem_iff.1 (by simpa using hj)
      have hss := split_size l key
      have HIH := Aside0.mk (fun w' (h' : At w' l) => hIH w' h' hnl)
      have HM := Aside0.mk hmem
      have HND := Aside0.mk (And.intro hnd1 hnd2)
      have HDJ := Aside0.mk hdj
      have HLT := Aside0.mk hlt
      simp only [splitT, hlt, if_true, Bool.false_eq_true, if_false]
      simp only [ptr_nil, ptr_node]
      obtain ⟨lp, hlp⟩ := ptr_open l
      obtain ⟨rp, hrp⟩ := ptr_open r
      obtain ⟨ap, hap⟩ := ptr_open (splitT l key).1
      obtain ⟨bp, hbp⟩ := ptr_open (splitT l key).2
      have c0 : w.cell? ⟨g, 0, none⟩ = some (.string k) := HB.out.cell 0
      have cl := HB.out.lt
      have HAP := Aside0.mk hap
      have HBP := Aside0.mk hbp
      have HLP := Aside0.mk hlp
      have HRP := Aside0.mk hrp
      have HSS := Aside0.mk hss
      have t1 : decide (cmpB k key < 0) = false := hlt
      have HT1 := Aside0.mk t1
      rw [hap]
      clear hIH hnd1 hnd2 hmem hss hdj hlt hlp hrp hap hbp t1 ihl ihr hnl hnr hg
      go_enter Try.func36, Try.ntmps36
      go_wp2_with fail
      refine (compare_calls k key w).mono ?_
      rintro e w1 ⟨rfl, rfl⟩
      have t1 := HT1.out
      obtain ⟨cc, hcc⟩ : ∃ cc, cmpB k key = cc := ⟨_, rfl⟩
      rw [hcc] at t1 ⊢
      clear c0 hcc
      have c5 : w1.cell? ⟨g, 4, none⟩ = some (.pointer lp) := by rw [← HLP.out]; exact HB.out.cell 4
      go_wp2_with fail
      clear c5
      rw [← HLP.out]
      refine (HIH.out w1 HAL.out).mono ?_
      rintro e w2 ⟨rfl, ha, hb, ho⟩
      rw [HAP.out, HBP.out]
      have hB2 := HB.out.only ho HND.out.1
      have hO2 := HAR.out.only ho (fun j hj hj' => HDJ.out j hj' hj)
      have z5 := hB2.frozen 4
      have c5 : w2.cell? ⟨g, 4, none⟩ = some (.pointer lp) := by rw [← HLP.out]; exact hB2.cell 4
      have gl := hB2.lt
      have B2 := Aside0.mk hB2
      have O2 := Aside0.mk hO2
      have A2 := Aside0.mk ha
      have A2' := Aside0.mk hb
      have N2 := Aside0.mk ho
      clear ha hb ho hB2 hO2
      go_wp2_with fail
      clear z5 c5 gl
      obtain ⟨w3, hw3⟩ : ∃ w3, w2.setCell ⟨g, 4, none⟩ (.pointer bp) = w3 := ⟨_, rfl⟩
      have ng : ∀ t : T, g ∉ t.blocks → At w2 t → At w3 t := fun t hg ht => ht.keep fun j hj => by rw [← hw3]; exact Below.heap_setCell _ _ _ _ (fun e => hg ((show j = g from e) ▸ hj))
      have hB3 : Blk w3 g TNd (cells k v wt ((l.size + r.size + 1 : Nat) : Int) (splitT l key).2.ptr r.ptr) := by
        rw [← hw3, HBP.out]; exact B2.out.set 4 _
      have hO3 : Only [g] w2 w3 := by rw [← hw3]; exact (Only.refl [g] w2).setCell (p := ⟨g, 4, none⟩) (.inl (by simp)) _
      have ga : g ∉ (splitT l key).1.blocks := fun h => HND.out.1 (HM.out g (.inl h))
      have gb : g ∉ (splitT l key).2.blocks := fun h => HND.out.1 (HM.out g (.inr h))
      have K3 := fix_calls g k v wt _ (splitT l key).2 r w3 hB3 (ng _ gb A2'.out) (ng r HND.out.2 O2.out) (by have := HSS.out; omega)
      rw [hw3]
      refine K3.mono ?_
      rintro e w4 ⟨rfl, hB4, hO4⟩
      have keep : ∀ t : T, g ∉ t.blocks → At w2 t → At w4 t := fun t hg ht => (ng t hg ht).only hO4 (fun j hj hj' => hg (by simpa using (List.mem_singleton.1 hj') ▸ hj))
      have F1 : At w4 (node g k v wt (splitT l key).2 r) := ⟨hB4, keep _ gb A2'.out, keep r HND.out.2 O2.out⟩
      have F2 := keep (splitT l key).1 ga A2.out
      have F3 : Only (node g k v wt l r).blocks w1 w4 := ((N2.out.mono (S' := (node g k v wt l r).blocks) (fun j hj => .inl (by simp [blocks, hj]))).trans hO3 (fun j hj => .inl (by simp [blocks] at hj ⊢; exact .inl hj))).trans hO4 (fun j hj => .inl (by simp [blocks] at hj ⊢; exact .inl hj))
      have F := Aside0.mk (And.intro F1 (And.intro F2 F3))
      clear hw3 ng hB3 hO3 ga gb K3 hB4 hO4 keep F1 F2 F3
      go_wp2
      go_ret2
      exact ⟨rfl, F.out.2.1, F.out.1, F.out.2.2⟩
end Go.Proofs.Ytcgfdnhocdcfjaa.Hed
