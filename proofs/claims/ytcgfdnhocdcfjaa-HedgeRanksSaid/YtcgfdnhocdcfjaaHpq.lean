/- Trees of keys: Put. -/
import Derived.Test.YtcgfdnhocdcfjaaHpp
namespace Go.Proofs.Ytcgfdnhocdcfjaa.Hed
open Go.RowKit Go.Proofs.YtcgfdnhocdcfjaaW.PrintWords Go.Proofs.Ytcgfdnhocdcfjaa.Arr Go.Proofs.Ytcgfdnhocdcfjaa.Utf T
set_option linter.unusedVariables false
set_option linter.unusedSimpArgs false

def PutPost (h : Nat) (t : T) (key : ByteArray) (v : Int) (w : World) (e : Ending) (w' : World) : Prop :=
  ∃ g wt, e = .returned (.bool (isNil (cutT t key).2.1)) ∧ HAt w' h (putT t g wt key v) ∧ Only (h :: t.blocks) w w' ∧ ∀ j, j ∈ (putT t g wt key v).blocks → j ∈ t.blocks ∨ w.heap.size ≤ j
theorem mid_size (b : T) (g : Nat) (wt : Int) (key : ByteArray) (v : Int) : (midT b g wt key v).size ≤ b.size + 1 := by
  cases b <;> simp [midT, T.size]
set_option maxHeartbeats 8000000 in
theorem put_calls (h : Nat) (t : T) (key : ByteArray) (v : Int) (hz : t.size + 1 ≤ 1000000) (hk : key.size ≤ 1000000) (w : World) (H : HAt w h t) :
    Calls Try.prog 9 #[.pointer (some ⟨h, 0, none⟩), .string key, .int .i64 v] w (PutPost h t key v w) := by
  have hnd := cut_apart t key H.nd
  have hmem := cut_mem t key
  have hsz := cut_size t key
  have hap := H.apart
  have htl := H.at_.lt
  have K := Aside0.mk (cut_calls h t key (by omega) hk w H)
  unfold CutPost at K
  unfold PutPost putT
  obtain ⟨a, ha⟩ : ∃ a, (cutT t key).1 = a := ⟨_, rfl⟩
  obtain ⟨b, hb⟩ : ∃ b, (cutT t key).2.1 = b := ⟨_, rfl⟩
  obtain ⟨c, hc⟩ : ∃ c, (cutT t key).2.2 = c := ⟨_, rfl⟩
  rw [ha, hb, hc] at hnd hsz K
  rw [hb, hc]
  rw [ha]
  have hmem' : ∀ j, (j ∈ a.blocks ∨ j ∈ b.blocks ∨ j ∈ c.blocks) → j ∈ t.blocks := fun j hj => hmem j (by rw [ha, hb, hc]; exact hj)
  have HM := Aside0.mk hmem'
  have HAP := Aside0.mk hap
  have HND := Aside0.mk hnd
  have HTL := Aside0.mk htl
  have hhl := H.blk.lt
  have HHL := Aside0.mk hhl
  have KW := Aside0.mk (fun w => weigh_calls key hk w)
  obtain ⟨pt, hpt⟩ := ptr_open t
  obtain ⟨pa, hpa⟩ := ptr_open a
  obtain ⟨pb, hpb⟩ := ptr_open b
  obtain ⟨pc, hpc⟩ := ptr_open c
  rw [hpa, hpb, hpc, hpt] at K
  have HPA := Aside0.mk hpa
  have HPC := Aside0.mk hpc
  have hpt2 := ptr_test b pb hpb
  clear H hnd hmem hap htl ha hb hc hmem' hpt hpa hpb hpc hhl
  rcases hpt2 with ⟨rfl, rfl⟩ | ⟨gb, kb, vb, wb, lb, rb, rfl, rfl⟩
  · simp only [isNil, midT]
    go_enter Try.func9, Try.ntmps9
    go_wp2_with fail
    refine K.out.mono ?_
    rintro e w1 ⟨rfl, ha1, hb1, hc1, hh1, ho1⟩
    have A1 := Aside0.mk ha1
    have C1 := Aside0.mk hc1
    have H1 := Aside0.mk hh1
    have O1 := Aside0.mk ho1
    clear ha1 hb1 hc1 hh1 ho1
    go_wp2_with fail
    refine (KW.out w1).mono ?_
    rintro e w2 ⟨n, rfl, b2⟩
    obtain ⟨w3, hw3⟩ : ∃ w3, w2.alloc (.cells #[.string key, .int .i64 0, .int .u64 n, .int .i64 0, .pointer none, .pointer none] TNd) = w3 := ⟨_, rfl⟩
    have b3' : Below w2.heap.size w2 w3 := by rw [← hw3]; exact (Below.refl _ _).alloc (Nat.le_refl _) _
    have b3 := b2.trans (b3'.mono b2.size)
    have hN3 : Blk w3 w2.heap.size TNd (cells key 0 n 0 T.nil.ptr T.nil.ptr) := by rw [← hw3]; exact Blk.new _ _ _
    have K3 := Aside0.mk (fix_calls w2.heap.size key 0 n 0 T.nil T.nil w3 hN3 trivial trivial (by simp [T.size]))
    have hg2 : w1.heap.size ≤ w2.heap.size := b2.size
    have hg1 : w.heap.size ≤ w2.heap.size := Nat.le_trans O1.out.size hg2
    have HG1 := Aside0.mk hg1
    have HG2 := Aside0.mk hg2
    have B3 := Aside0.mk b3
    clear b2 b3' b3 hN3 hg1 hg2
    go_wp2_with fail
    clear hw3
    refine K3.out.mono ?_
    rintro e w4 ⟨rfl, hb4, ho4⟩
    have c1 : w4.cell? ⟨w2.heap.size, 1, none⟩ = some (.int .i64 0) := hb4.cell 1
    have z1 := hb4.frozen 1
    have gl := hb4.lt
    have B4 := Aside0.mk hb4
    have O4 := Aside0.mk ho4
    clear hb4 ho4
    go_wp2_with fail
    clear c1 z1 gl
    obtain ⟨w5, hw5⟩ : ∃ w5, w4.setCell ⟨w2.heap.size, 1, none⟩ (.int .i64 v) = w5 := ⟨_, rfl⟩
    rw [hw5]
    have o45 : Only [w2.heap.size] w4 w5 := by rw [← hw5]; exact (Only.refl _ w4).setCell (p := ⟨w2.heap.size, 1, none⟩) (.inl (by simp)) _
    have o35 := O4.out.trans o45 (fun j hj => .inl hj)
    have o15 : Only [] w1 w5 := (Only.of_below B3.out []).trans o35 (fun j hj => .inr (by rw [List.mem_singleton.1 hj]; exact HG2.out))
    have b15 := o15.nil
    have M5 : Aside0 (At w5 (node w2.heap.size key v n nil nil)) := ⟨by rw [← hw5]; exact ⟨B4.out.set 1 _, trivial, trivial⟩⟩
    have A5 := Aside0.mk (A1.out.below b15)
    have C5 := Aside0.mk (C1.out.below b15)
    have H5 := Aside0.mk (H1.out.below b15)
    have O5 : Aside0 (Only (h :: t.blocks) w w5) := ⟨(O1.out.mono (fun k hk => .inl (by simp [hk]))).step b15⟩
    have MB : Aside0 (∀ j, j ∈ (node w2.heap.size key v n nil nil).blocks → j ∈ t.blocks ∨ w.heap.size ≤ j) := ⟨fun j hj => .inr (by simp [blocks] at hj; rw [hj]; exact HG1.out)⟩
    have N5 : Aside0 (a.blocks ++ ((node w2.heap.size key v n nil nil).blocks ++ c.blocks)).Nodup := ⟨by
      have h0 := HND.out
      simp only [blocks, List.nil_append] at h0
      refine (List.perm_middle (a := w2.heap.size) (l₁ := a.blocks) (l₂ := c.blocks)).nodup_iff.2 (List.nodup_cons.2 ⟨fun hm => ?_, h0⟩)
      have h1 : w2.heap.size ∈ t.blocks := HM.out _ (by simp at hm; rcases hm with h | h <;> simp [h])
      have h2 := HTL.out _ h1
      have h3 := HG1.out
      omega⟩
    clear hw5 o45 o35 o15 b15
    have hnd5 := N5.out
    obtain ⟨hna, hnmc, hd1⟩ := List.nodup_append.1 hnd5
    obtain ⟨hnm, hnc, hd2⟩ := List.nodup_append.1 hnmc
    have ham : (a.blocks ++ (node w2.heap.size key v n nil nil).blocks).Nodup := List.nodup_append.2 ⟨hna, hnm, fun j h1 k h2 => hd1 j h1 k (List.mem_append.2 (.inl h2))⟩
    have hjb := join_blocks a (node w2.heap.size key v n nil nil)
    have hjs := join_size a (node w2.heap.size key v n nil nil)
    have hmc : ((joinT a (node w2.heap.size key v n nil nil)).blocks ++ c.blocks).Nodup := List.nodup_append.2 ⟨hjb.nodup_iff.2 ham, hnc, fun j h1 k h2 => by
      rcases List.mem_append.1 (hjb.mem_iff.1 h1) with h1 | h1
      · exact hd1 j h1 k (List.mem_append.2 (.inr h2))
      · exact hd2 j h1 k h2⟩
    have hc2 : ∀ j, j ∈ c.blocks → j ∉ a.blocks ++ (node w2.heap.size key v n nil nil).blocks := fun j hj hm => by
      rcases List.mem_append.1 hm with h1 | h1
      · exact hd1 j h1 j (List.mem_append.2 (.inr hj)) rfl
      · exact hd2 j h1 j hj rfl
    have K5 := join_calls a (node w2.heap.size key v n nil nil) (by simp only [T.size] at hsz ⊢; omega) w5 A5.out M5.out ham
    unfold JoinPost at K5
    have hJM : ∀ j, j ∈ (joinT (joinT a (node w2.heap.size key v n nil nil)) c).blocks → j ∈ t.blocks ∨ w.heap.size ≤ j := fun j hj => by
      rcases List.mem_append.1 ((join_blocks _ c).mem_iff.1 hj) with h1 | h1
      · rcases List.mem_append.1 (hjb.mem_iff.1 h1) with h1 | h1
        · exact .inl (HM.out j (.inl h1))
        · exact MB.out j h1
      · exact .inl (HM.out j (.inr (.inr h1)))
    have hJN := (join_blocks (joinT a (node w2.heap.size key v n nil nil)) c).nodup_iff.2 hmc
    obtain ⟨pj, hpj⟩ := ptr_open (joinT a (node w2.heap.size key v n nil nil))
    obtain ⟨pf, hpf⟩ := ptr_open (joinT (joinT a (node w2.heap.size key v n nil nil)) c)
    have HPF := Aside0.mk hpf
    have HPJ := Aside0.mk hpj
    have HJM := Aside0.mk hJM
    have HJN := Aside0.mk hJN
    have HC2 := Aside0.mk hc2
    have HJB := Aside0.mk hjb
    have K6 := Aside0.mk (fun w' (h1 : At w' (joinT a (node w2.heap.size key v n nil nil))) (h2 : At w' c) => join_calls (joinT a (node w2.heap.size key v n nil nil)) c (by simp only [T.size] at hsz hjs ⊢; omega) w' h1 h2 hmc)
    unfold JoinPost at K6
    rw [hpj, HPC.out, hpf] at K6
    rw [hpj, HPA.out, ptr_node] at K5
    clear hnd5 hna hnmc hd1 hnm hnc hd2 ham hjb hjs hmc hc2 hJM hJN hpj hpf
    refine K5.mono ?_
    rintro e w6 ⟨rfl, hj6, ho6⟩
    have C6 := Aside0.mk (C5.out.only ho6 HC2.out)
    have J6 := Aside0.mk hj6
    have H6 := Aside0.mk (H5.out.only ho6 (fun hm => by rcases List.mem_append.1 hm with h1 | h1; exact HAP.out (HM.out _ (.inl h1)); exact (MB.out _ h1).elim HAP.out (fun h2 => by have := HHL.out; omega)))
    have O6 := Aside0.mk (O5.out.trans ho6 (fun k hk => by rcases List.mem_append.1 hk with h1 | h1; exact .inl (by simp [HM.out k (.inl h1)]); exact (MB.out _ h1).imp (fun h2 => by simp [h2]) id))
    clear hj6 ho6
    go_wp2_with fail
    refine (K6.out w6 J6.out C6.out).mono ?_
    rintro e w7 ⟨rfl, hj7, ho7⟩
    have hh7 := H6.out.only ho7 (fun hm => by
      rcases List.mem_append.1 hm with h1 | h1
      · rcases List.mem_append.1 (HJB.out.mem_iff.1 h1) with h1 | h1
        · exact HAP.out (HM.out _ (.inl h1))
        · exact (MB.out _ h1).elim HAP.out (fun h2 => by have := HHL.out; omega)
      · exact HAP.out (HM.out _ (.inr (.inr h1))))
    have O7 := Aside0.mk (O6.out.trans ho7 (fun k hk => by
      rcases List.mem_append.1 hk with h1 | h1
      · rcases List.mem_append.1 (HJB.out.mem_iff.1 h1) with h1 | h1
        · exact .inl (by simp [HM.out k (.inl h1)])
        · exact (MB.out _ h1).imp (fun h2 => by simp [h2]) id
      · exact .inl (by simp [HM.out k (.inr (.inr h1))])))
    have c0 : w7.cell? ⟨h, 0, none⟩ = some (.pointer pt) := hh7.cell 0
    have z0 := hh7.frozen 0
    have hl := hh7.lt
    have J7 := Aside0.mk hj7
    have H7 := Aside0.mk hh7
    clear hj7 ho7 hh7
    go_wp2
    go_ret
    refine ⟨w2.heap.size, n, rfl, ⟨by rw [HPF.out]; exact H7.out.set 0 _, J7.out.keep fun k hk => Below.heap_setCell _ _ _ _ (fun e => (HJM.out k hk).elim (fun h2 => HAP.out ((show k = h from e) ▸ h2)) (fun h2 => by have h3 := HHL.out; have h4 : k = h := e; omega)), HJN.out⟩, O7.out.setCell (p := ⟨h, 0, none⟩) (.inl (by simp)) _, HJM.out⟩
  · simp only [isNil, midT]
    go_enter Try.func9, Try.ntmps9
    go_wp2_with fail
    refine K.out.mono ?_
    rintro e w1 ⟨rfl, ha1, hb1, hc1, hh1, ho1⟩
    have A1 := Aside0.mk ha1
    have C1 := Aside0.mk hc1
    have H1 := Aside0.mk hh1
    have O1 := Aside0.mk ho1
    obtain ⟨hbb, hbl, hbr⟩ := hb1
    have BB := Aside0.mk hbb
    have BL := Aside0.mk hbl
    have BR := Aside0.mk hbr
    have hgt : gb ∈ t.blocks := HM.out _ (by simp [blocks])
    have hnd0 := HND.out
    simp only [blocks] at hnd0
    obtain ⟨-, hx, hax⟩ := List.nodup_append.1 hnd0
    obtain ⟨hy, -, hbc⟩ := List.nodup_append.1 hx
    have hgl := (List.nodup_cons.1 hy).1
    have ga : gb ∉ a.blocks := fun h1 => hax gb h1 gb (by simp) rfl
    have gc : gb ∉ c.blocks := fun h1 => hbc gb (by simp) gb h1 rfl
    have gll : gb ∉ lb.blocks := fun h1 => hgl (by simp [h1])
    have grr : gb ∉ rb.blocks := fun h1 => hgl (by simp [h1])
    have GG := Aside0.mk (And.intro hgt (And.intro ga (And.intro gc (And.intro gll grr))))
    have c1 : w1.cell? ⟨gb, 1, none⟩ = some (.int .i64 vb) := hbb.cell 1
    have z1 := hbb.frozen 1
    have gl := hbb.lt
    clear ha1 hbb hbl hbr hc1 hh1 ho1 hgt hnd0 hx hax hy hbc hgl ga gc gll grr
    go_wp2_with fail
    clear c1 z1 gl
    obtain ⟨w5, hw5⟩ : ∃ w5, w1.setCell ⟨gb, 1, none⟩ (.int .i64 v) = w5 := ⟨_, rfl⟩
    rw [hw5]
    have ng : ∀ t : T, gb ∉ t.blocks → At w1 t → At w5 t := fun t hg ht => ht.keep fun j hj => by rw [← hw5]; exact Below.heap_setCell _ _ _ _ (fun e => hg ((show j = gb from e) ▸ hj))
    have hne : h ≠ gb := fun e => HAP.out (e ▸ GG.out.1)
    have M5 : Aside0 (At w5 (node gb kb v wb lb rb)) := ⟨⟨by rw [← hw5]; exact BB.out.set 1 _, ng lb GG.out.2.2.2.1 BL.out, ng rb GG.out.2.2.2.2 BR.out⟩⟩
    have A5 := Aside0.mk (ng a GG.out.2.1 A1.out)
    have C5 := Aside0.mk (ng c GG.out.2.2.1 C1.out)
    have H5 : Aside0 (Blk w5 h TH #[.pointer pt]) := ⟨by rw [← hw5]; exact H1.out.far (p := ⟨gb, 1, none⟩) hne _⟩
    have O5 : Aside0 (Only (h :: t.blocks) w w5) := ⟨by rw [← hw5]; exact (O1.out.mono (fun k hk => .inl (by simp [hk]))).setCell (p := ⟨gb, 1, none⟩) (.inl (by simp [GG.out.1])) _⟩
    have MB : Aside0 (∀ j, j ∈ (node gb kb v wb lb rb).blocks → j ∈ t.blocks ∨ w.heap.size ≤ j) := ⟨fun j hj => .inl (HM.out j (.inr (.inl (by simpa [blocks] using hj))))⟩
    have N5 : Aside0 (a.blocks ++ ((node gb kb v wb lb rb).blocks ++ c.blocks)).Nodup := ⟨by have h0 := HND.out; simpa only [blocks] using h0⟩
    clear hw5 ng hne
    have hnd5 := N5.out
    obtain ⟨hna, hnmc, hd1⟩ := List.nodup_append.1 hnd5
    obtain ⟨hnm, hnc, hd2⟩ := List.nodup_append.1 hnmc
    have ham : (a.blocks ++ (node gb kb v wb lb rb).blocks).Nodup := List.nodup_append.2 ⟨hna, hnm, fun j h1 k h2 => hd1 j h1 k (List.mem_append.2 (.inl h2))⟩
    have hjb := join_blocks a (node gb kb v wb lb rb)
    have hjs := join_size a (node gb kb v wb lb rb)
    have hmc : ((joinT a (node gb kb v wb lb rb)).blocks ++ c.blocks).Nodup := List.nodup_append.2 ⟨hjb.nodup_iff.2 ham, hnc, fun j h1 k h2 => by
      rcases List.mem_append.1 (hjb.mem_iff.1 h1) with h1 | h1
      · exact hd1 j h1 k (List.mem_append.2 (.inr h2))
      · exact hd2 j h1 k h2⟩
    have hc2 : ∀ j, j ∈ c.blocks → j ∉ a.blocks ++ (node gb kb v wb lb rb).blocks := fun j hj hm => by
      rcases List.mem_append.1 hm with h1 | h1
      · exact hd1 j h1 j (List.mem_append.2 (.inr hj)) rfl
      · exact hd2 j h1 j hj rfl
    have K5 := join_calls a (node gb kb v wb lb rb) (by simp only [T.size] at hsz ⊢; omega) w5 A5.out M5.out ham
    unfold JoinPost at K5
    have hJM : ∀ j, j ∈ (joinT (joinT a (node gb kb v wb lb rb)) c).blocks → j ∈ t.blocks ∨ w.heap.size ≤ j := fun j hj => by
      rcases List.mem_append.1 ((join_blocks _ c).mem_iff.1 hj) with h1 | h1
      · rcases List.mem_append.1 (hjb.mem_iff.1 h1) with h1 | h1
        · exact .inl (HM.out j (.inl h1))
        · exact MB.out j h1
      · exact .inl (HM.out j (.inr (.inr h1)))
    have hJN := (join_blocks (joinT a (node gb kb v wb lb rb)) c).nodup_iff.2 hmc
    obtain ⟨pj, hpj⟩ := ptr_open (joinT a (node gb kb v wb lb rb))
    obtain ⟨pf, hpf⟩ := ptr_open (joinT (joinT a (node gb kb v wb lb rb)) c)
    have HPF := Aside0.mk hpf
    have HPJ := Aside0.mk hpj
    have HJM := Aside0.mk hJM
    have HJN := Aside0.mk hJN
    have HC2 := Aside0.mk hc2
    have HJB := Aside0.mk hjb
    have K6 := Aside0.mk (fun w' (h1 : At w' (joinT a (node gb kb v wb lb rb))) (h2 : At w' c) => join_calls (joinT a (node gb kb v wb lb rb)) c (by simp only [T.size] at hsz hjs ⊢; omega) w' h1 h2 hmc)
    unfold JoinPost at K6
    rw [hpj, HPC.out, hpf] at K6
    rw [hpj, HPA.out, ptr_node] at K5
    clear hnd5 hna hnmc hd1 hnm hnc hd2 ham hjb hjs hmc hc2 hJM hJN hpj hpf
    refine K5.mono ?_
    rintro e w6 ⟨rfl, hj6, ho6⟩
    have C6 := Aside0.mk (C5.out.only ho6 HC2.out)
    have J6 := Aside0.mk hj6
    have H6 := Aside0.mk (H5.out.only ho6 (fun hm => by rcases List.mem_append.1 hm with h1 | h1; exact HAP.out (HM.out _ (.inl h1)); exact (MB.out _ h1).elim HAP.out (fun h2 => by have := HHL.out; omega)))
    have O6 := Aside0.mk (O5.out.trans ho6 (fun k hk => by rcases List.mem_append.1 hk with h1 | h1; exact .inl (by simp [HM.out k (.inl h1)]); exact (MB.out _ h1).imp (fun h2 => by simp [h2]) id))
    clear hj6 ho6
    go_wp2_with fail
    refine (K6.out w6 J6.out C6.out).mono ?_
    rintro e w7 ⟨rfl, hj7, ho7⟩
    have hh7 := H6.out.only ho7 (fun hm => by
      rcases List.mem_append.1 hm with h1 | h1
      · rcases List.mem_append.1 (HJB.out.mem_iff.1 h1) with h1 | h1
        · exact HAP.out (HM.out _ (.inl h1))
        · exact (MB.out _ h1).elim HAP.out (fun h2 => by have := HHL.out; omega)
      · exact HAP.out (HM.out _ (.inr (.inr h1))))
    have O7 := Aside0.mk (O6.out.trans ho7 (fun k hk => by
      rcases List.mem_append.1 hk with h1 | h1
      · rcases List.mem_append.1 (HJB.out.mem_iff.1 h1) with h1 | h1
        · exact .inl (by simp [HM.out k (.inl h1)])
        · exact (MB.out _ h1).imp (fun h2 => by simp [h2]) id
      · exact .inl (by simp [HM.out k (.inr (.inr h1))])))
    have c0 : w7.cell? ⟨h, 0, none⟩ = some (.pointer pt) := hh7.cell 0
    have z0 := hh7.frozen 0
    have hl := hh7.lt
    have J7 := Aside0.mk hj7
    have H7 := Aside0.mk hh7
    clear hj7 ho7 hh7
    go_wp2
    go_ret
    refine ⟨0, 0, rfl, ⟨by rw [HPF.out]; exact H7.out.set 0 _, J7.out.keep fun k hk => Below.heap_setCell _ _ _ _ (fun e => (HJM.out k hk).elim (fun h2 => HAP.out ((show k = h from e) ▸ h2)) (fun h2 => by have h3 := HHL.out; have h4 : k = h := e; omega)), HJN.out⟩, O7.out.setCell (p := ⟨h, 0, none⟩) (.inl (by simp)) _, HJM.out⟩
end Go.Proofs.Ytcgfdnhocdcfjaa.Hed
