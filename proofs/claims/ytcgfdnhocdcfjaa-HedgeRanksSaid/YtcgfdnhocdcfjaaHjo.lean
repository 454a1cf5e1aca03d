/- Trees of keys: join. -/
import Derived.Test.YtcgfdnhocdcfjaaHsp
namespace Go.Proofs.Ytcgfdnhocdcfjaa.Hed
open Go.RowKit Go.Proofs.YtcgfdnhocdcfjaaW.PrintWords Go.Proofs.Ytcgfdnhocdcfjaa.Arr Go.Proofs.Ytcgfdnhocdcfjaa.Utf T
set_option linter.unusedVariables false
set_option linter.unusedSimpArgs false

def JoinPost (a b : T) (w : World) (e : Ending) (w' : World) : Prop := e = .returned (joinT a b).ptr ∧ At w' (joinT a b) ∧ Only (a.blocks ++ b.blocks) w w'
set_option maxHeartbeats 8000000 in
theorem join_ind (n : Nat) : ∀ (a b : T), a.size + b.size = n → a.size + b.size ≤ 1000000 → ∀ w : World, At w a → At w b → (a.blocks ++ b.blocks).Nodup → Calls Try.prog 28 #[a.ptr, b.ptr] w (JoinPost a b w) := by
  induction n using Nat.strongRecOn with
  | _ n ih =>
  intro a b hn hz w hA hB hN
  cases a with
  | nil =>
    have hJ : joinT nil b = b := by rw [joinT]
    unfold JoinPost
    rw [hJ]
    obtain ⟨bp, hbp⟩ := ptr_open b
    have HB := Aside0.mk hB
    rw [ptr_nil, hbp]
    clear hJ hbp ih hA hB hN
    go_enter Try.func28, Try.ntmps28
    go_wp2
    go_ret
    exact ⟨rfl, HB.out, Only.refl _ _⟩
  | node g k v wt l r =>
  cases b with
  | nil =>
    have hJ : joinT (node g k v wt l r) nil = node g k v wt l r := by rw [joinT]
    unfold JoinPost
    rw [hJ, ptr_nil, ptr_node]
    have HA := Aside0.mk hA
    clear hJ ih hA hB hN
    go_enter Try.func28, Try.ntmps28
    go_wp2
    go_ret
    exact ⟨rfl, HA.out, Only.refl _ _⟩
  | node g' k' v' wt' l' r' =>
  obtain ⟨hna, hnb, hdj⟩ := List.nodup_append.1 hN
  have hN1 := hna
  have hN2 := hnb
  simp only [blocks, List.nodup_cons, List.nodup_append] at hN1 hN2
  obtain ⟨hg, hnl, hnr, hlr⟩ := hN1
  obtain ⟨hg', hnl', hnr', hlr'⟩ := hN2
  have HBA := Aside0.mk hA.1
  have HBB := Aside0.mk hB.1
  have HA := Aside0.mk hA
  have HB := Aside0.mk hB
  clear hA hB hN
  unfold JoinPost
  cases hlt : heavy wt k wt' k' with
  | true =>
    have hIH := ih _ (by simp only [T.size] at hz hn ⊢; omega) r (node g' k' v' wt' l' r') rfl (by simp only [T.size] at hz ⊢; omega)
    have hJ : joinT (node g k v wt l r) (node g' k' v' wt' l' r') = (node g k v wt l (joinT r (node g' k' v' wt' l' r'))) := by rw [joinT, hlt]; simp
    have hperm := join_blocks r (node g' k' v' wt' l' r')
    have hsz := join_size r (node g' k' v' wt' l' r')
    have hgj : g ∉ (joinT r (node g' k' v' wt' l' r')).blocks := fun h => by
      have h := hperm.mem_iff.1 h
      simp only [blocks, List.mem_append, List.mem_cons] at h
      rcases h with h | h | h | h
      · exact hg (by simp [h])
      · exact hdj g (by simp [blocks]) g' (by simp [blocks]) h
      · exact hdj g (by simp [blocks]) g (by simp [blocks, h]) rfl
      · exact hdj g (by simp [blocks]) g (by simp [blocks, h]) rfl
    have hgo : g ∉ l.blocks := fun h => hg (by simp [h])
    have hgx : g ∉ r.blocks ++ (node g' k' v' wt' l' r').blocks := fun h => hgj (hperm.mem_iff.2 h)
    have hox : ∀ j, j ∈ l.blocks → j ∉ r.blocks ++ (node g' k' v' wt' l' r').blocks := fun j hj h => by
      rcases List.mem_append.1 h with h | h
      · exact hlr j hj j h rfl
      · exact hdj j (by simp [blocks, hj]) j h rfl
    have hnd : (r.blocks ++ (node g' k' v' wt' l' r').blocks).Nodup := by
      refine List.nodup_append.2 ⟨hnr, hnb, fun j h1 j2 h2 e => ?_⟩
      exact hdj j (by simp [blocks, h1]) j2 h2 e
    have HIH := Aside0.mk (fun w' (h1 : At w' r) (h2 : At w' (node g' k' v' wt' l' r')) => hIH w' h1 h2 hnd)
    obtain ⟨jp, hjp⟩ := ptr_open (joinT r (node g' k' v' wt' l' r'))
    obtain ⟨mp, hmp⟩ := ptr_open r
    have HJP := Aside0.mk hjp
    have HMP := Aside0.mk hmp
    have HSZ := Aside0.mk hsz
    have HGG := Aside0.mk (And.intro hgj (And.intro hgo (And.intro hgx hox)))
    have HZ := Aside0.mk hz
    rw [hJ, ptr_node]
    simp only [ptr_node]
    have HH := Aside0.mk (heavier_calls g g' k k' v v' wt wt' _ _ _ _ _ _ w HBA.out HBB.out)
    rw [hlt] at HH
    clear hIH hJ hperm hsz hgj hgo hgx hox hnd hjp hmp ih hdj hg hg' hnl hnr hnl' hnr' hlr hlr' hna hnb hlt hz hn
    go_enter Try.func28, Try.ntmps28
    go_wp2_with fail
    refine HH.out.mono ?_
    rintro e w1 ⟨rfl, b1⟩
    have B1 := Aside0.mk b1
    have HA1 := Aside0.mk (HA.out.below b1)
    have HB1 := Aside0.mk (HB.out.below b1)
    have hN1 := HBA.out.below b1
    have c5 : w1.cell? ⟨g, 5, none⟩ = some (.pointer mp) := by rw [← HMP.out]; exact hN1.cell 5
    have gl := hN1.lt
    have N1 := Aside0.mk hN1
    clear b1 hN1 HH
    go_wp2_with fail
    clear c5 gl
    rw [← HMP.out]; have e2 : (.pointer (some ⟨g', 0, none⟩) : Value) = (node g' k' v' wt' l' r').ptr := rfl; rw [e2]
    refine (HIH.out w1 HA1.out.2.2 HB1.out).mono ?_
    rintro e w2 ⟨rfl, hj2, ho2⟩
    have hN2 := N1.out.only ho2 HGG.out.2.2.1
    have hO2 := (HA1.out.2.1 : At w1 l).only ho2 HGG.out.2.2.2
    rw [HJP.out]
    have z5 := hN2.frozen 5
    have c5 : w2.cell? ⟨g, 5, none⟩ = some (.pointer mp) := by rw [← HMP.out]; exact hN2.cell 5
    have gl := hN2.lt
    have N2 := Aside0.mk hN2
    have O2 := Aside0.mk hO2
    have J2 := Aside0.mk hj2
    have OO2 := Aside0.mk ho2
    clear hj2 ho2 hN2 hO2
    go_wp2_with fail
    clear z5 c5 gl
    obtain ⟨w3, hw3⟩ : ∃ w3, w2.setCell ⟨g, 5, none⟩ (.pointer jp) = w3 := ⟨_, rfl⟩
    have ng : ∀ t : T, g ∉ t.blocks → At w2 t → At w3 t := fun t hg ht => ht.keep fun j hj => by rw [← hw3]; exact Below.heap_setCell _ _ _ _ (fun e => hg ((show j = g from e) ▸ hj))
    have hB3 : Blk w3 g TNd (cells k v wt ((l.size + r.size + 1 : Nat) : Int) l.ptr (joinT r (node g' k' v' wt' l' r')).ptr) := by
      rw [← hw3, HJP.out]; exact N2.out.set 5 _
    have hO3 : Only [g] w2 w3 := by rw [← hw3]; exact (Only.refl [g] w2).setCell (p := ⟨g, 5, none⟩) (.inl (by simp)) _
    have K3 := fix_calls g k v wt _ l (joinT r (node g' k' v' wt' l' r')) w3 hB3 (ng l HGG.out.2.1 O2.out) (ng _ HGG.out.1 J2.out) (by have h1 := HSZ.out; have h2 := HZ.out; simp only [T.size] at h1 h2; omega)
    rw [hw3]
    refine K3.mono ?_
    rintro e w4 ⟨rfl, hB4, hO4⟩
    have keep : ∀ t : T, g ∉ t.blocks → At w2 t → At w4 t := fun t hg ht => (ng t hg ht).only hO4 (fun j hj hj' => hg (by simpa using (List.mem_singleton.1 hj') ▸ hj))
    have F1 : At w4 (node g k v wt l (joinT r (node g' k' v' wt' l' r'))) := ⟨hB4, keep l HGG.out.2.1 O2.out, keep _ HGG.out.1 J2.out⟩
    have F3 : Only ((node g k v wt l r).blocks ++ (node g' k' v' wt' l' r').blocks) w w4 := (((Only.of_below B1.out _).trans OO2.out (fun j hj => .inl (by simp [blocks] at hj ⊢; rcases hj with h | h | h | h <;> simp [h]))).trans hO3 (fun j hj => .inl (by simp [blocks] at hj ⊢; simp [hj]))).trans hO4 (fun j hj => .inl (by simp [blocks] at hj ⊢; simp [hj]))
    have F := Aside0.mk (And.intro F1 F3)
    clear hw3 ng hB3 hO3 K3 hB4 hO4 keep F1 F3
    go_wp2
    go_ret
    exact ⟨rfl, F.out⟩
  | false =>
    have hIH := ih _ (by simp only [T.size] at hz hn ⊢; omega) (node g k v wt l r) l' rfl (by simp only [T.size] at hz ⊢; omega)
    have hJ : joinT (node g k v wt l r) (node g' k' v' wt' l' r') = (node g' k' v' wt' (joinT (node g k v wt l r) l') r') := by rw [joinT, hlt]; simp
    have hperm := join_blocks (node g k v wt l r) l'
    have hsz := join_size (node g k v wt l r) l'
    have hgj : g' ∉ (joinT (node g k v wt l r) l').blocks := fun h => by
      have h := hperm.mem_iff.1 h
      simp only [blocks, List.mem_append, List.mem_cons] at h
      rcases h with (h | h | h) | h
      · exact hdj g (by simp [blocks]) g' (by simp [blocks]) h.symm
      · exact hdj g' (by simp [blocks, h]) g' (by simp [blocks]) rfl
      · exact hdj g' (by simp [blocks, h]) g' (by simp [blocks]) rfl
      · exact hg' (by simp [h])
    have hgo : g' ∉ r'.blocks := fun h => hg' (by simp [h])
    have hgx : g' ∉ (node g k v wt l r).blocks ++ l'.blocks := fun h => hgj (hperm.mem_iff.2 h)
    have hox : ∀ j, j ∈ r'.blocks → j ∉ (node g k v wt l r).blocks ++ l'.blocks := fun j hj h => by
      rcases List.mem_append.1 h with h | h
      · exact hdj j h j (by simp [blocks, hj]) rfl
      · exact hlr' j h j hj rfl
    have hnd : ((node g k v wt l r).blocks ++ l'.blocks).Nodup := by
      refine List.nodup_append.2 ⟨hna, hnl', fun j h1 j2 h2 e => ?_⟩
      exact hdj j h1 j2 (by simp [blocks, h2]) e
    have HIH := Aside0.mk (fun w' (h1 : At w' (node g k v wt l r)) (h2 : At w' l') => hIH w' h1 h2 hnd)
    obtain ⟨jp, hjp⟩ := ptr_open (joinT (node g k v wt l r) l')
    obtain ⟨mp, hmp⟩ := ptr_open l'
    have HJP := Aside0.mk hjp
    have HMP := Aside0.mk hmp
    have HSZ := Aside0.mk hsz
    have HGG := Aside0.mk (And.intro hgj (And.intro hgo (And.intro hgx hox)))
    have HZ := Aside0.mk hz
    rw [hJ, ptr_node]
    simp only [ptr_node]
    have HH := Aside0.mk (heavier_calls g g' k k' v v' wt wt' _ _ _ _ _ _ w HBA.out HBB.out)
    rw [hlt] at HH
    clear hIH hJ hperm hsz hgj hgo hgx hox hnd hjp hmp ih hdj hg hg' hnl hnr hnl' hnr' hlr hlr' hna hnb hlt hz hn
    go_enter Try.func28, Try.ntmps28
    go_wp2_with fail
    refine HH.out.mono ?_
    rintro e w1 ⟨rfl, b1⟩
    have B1 := Aside0.mk b1
    have HA1 := Aside0.mk (HA.out.below b1)
    have HB1 := Aside0.mk (HB.out.below b1)
    have hN1 := HBB.out.below b1
    have c5 : w1.cell? ⟨g', 4, none⟩ = some (.pointer mp) := by rw [← HMP.out]; exact hN1.cell 4
    have gl := hN1.lt
    have N1 := Aside0.mk hN1
    clear b1 hN1 HH
    go_wp2_with fail
    clear c5 gl
    rw [← HMP.out]; have e2 : (.pointer (some ⟨g, 0, none⟩) : Value) = (node g k v wt l r).ptr := rfl; rw [e2]
    refine (HIH.out w1 HA1.out HB1.out.2.1).mono ?_
    rintro e w2 ⟨rfl, hj2, ho2⟩
    have hN2 := N1.out.only ho2 HGG.out.2.2.1
    have hO2 := (HB1.out.2.2 : At w1 r').only ho2 HGG.out.2.2.2
    rw [HJP.out]
    have z5 := hN2.frozen 4
    have c5 : w2.cell? ⟨g', 4, none⟩ = some (.pointer mp) := by rw [← HMP.out]; exact hN2.cell 4
    have gl := hN2.lt
    have N2 := Aside0.mk hN2
    have O2 := Aside0.mk hO2
    have J2 := Aside0.mk hj2
    have OO2 := Aside0.mk ho2
    clear hj2 ho2 hN2 hO2
    go_wp2_with fail
    clear z5 c5 gl
    obtain ⟨w3, hw3⟩ : ∃ w3, w2.setCell ⟨g', 4, none⟩ (.pointer jp) = w3 := ⟨_, rfl⟩
    have ng : ∀ t : T, g' ∉ t.blocks → At w2 t → At w3 t := fun t hg ht => ht.keep fun j hj => by rw [← hw3]; exact Below.heap_setCell _ _ _ _ (fun e => hg ((show j = g' from e) ▸ hj))
    have hB3 : Blk w3 g' TNd (cells k' v' wt' ((l'.size + r'.size + 1 : Nat) : Int) (joinT (node g k v wt l r) l').ptr r'.ptr) := by
      rw [← hw3, HJP.out]; exact N2.out.set 4 _
    have hO3 : Only [g'] w2 w3 := by rw [← hw3]; exact (Only.refl [g'] w2).setCell (p := ⟨g', 4, none⟩) (.inl (by simp)) _
    have K3 := fix_calls g' k' v' wt' _ (joinT (node g k v wt l r) l') r' w3 hB3 (ng _ HGG.out.1 J2.out) (ng r' HGG.out.2.1 O2.out) (by have h1 := HSZ.out; have h2 := HZ.out; simp only [T.size] at h1 h2; omega)
    rw [hw3]
    refine K3.mono ?_
    rintro e w4 ⟨rfl, hB4, hO4⟩
    have keep : ∀ t : T, g' ∉ t.blocks → At w2 t → At w4 t := fun t hg ht => (ng t hg ht).only hO4 (fun j hj hj' => hg (by simpa using (List.mem_singleton.1 hj') ▸ hj))
    have F1 : At w4 (node g' k' v' wt' (joinT (node g k v wt l r) l') r') := ⟨hB4, keep _ HGG.out.1 J2.out, keep r' HGG.out.2.1 O2.out⟩
    have F3 : Only ((node g k v wt l r).blocks ++ (node g' k' v' wt' l' r').blocks) w w4 := (((Only.of_below B1.out _).trans OO2.out (fun j hj => .inl (by simp [blocks] at hj ⊢; rcases hj with h | h | h | h <;> simp [h]))).trans hO3 (fun j hj => .inl (by simp [blocks] at hj ⊢; simp [hj]))).trans hO4 (fun j hj => .inl (by simp [blocks] at hj ⊢; simp [hj]))
    have F := Aside0.mk (And.intro F1 F3)
    clear hw3 ng hB3 hO3 K3 hB4 hO4 keep F1 F3
    go_wp2
    go_ret
    exact ⟨rfl, F.out⟩
theorem join_calls (a b : T) (hz : a.size + b.size ≤ 1000000) (w : World) (hA : At w a) (hB : At w b) (hN : (a.blocks ++ b.blocks).Nodup) : Calls Try.prog 28 #[a.ptr, b.ptr] w (JoinPost a b w) := join_ind _ a b rfl hz w hA hB hN
end Go.Proofs.Ytcgfdnhocdcfjaa.Hed
