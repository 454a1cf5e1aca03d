/- Texts of this claim, merged: Sre. -/
import Derived.Test.YtddhngalokmdoaaMgBase10
/- The record at a number. -/
namespace Go.Proofs.Ytddhngalokmdoaa.Spo
open Go.RowKit Go.Proofs.YtddhngalokmdoaaW.PrintWords Go.Proofs.YtddhngalokmdoaaW.PrintLast Go.Proofs.YtddhngalokmdoaaW.PrintMore Go.Proofs.Ytddhngalokmdoaa.Arr Go.Proofs.Ytddhngalokmdoaa.PSpoolPlays
set_option linter.unusedVariables false
set_option linter.unusedSimpArgs false

def headOk (V : TrayV) (S : SpoolV) (n : Int) : Bool := hereV V S n && decide ((atV V S n).at_ = 0) && decide ((atV V S n).of ≤ S.count)
def followV (V : TrayV) (S : SpoolV) (n : Int) (i : Nat) : Bool := hereV V S (n + i) && decide ((atV V S (n + i)).at_ = i) && decide ((atV V S (n + i)).of = (atV V S n).of) && decide ((atV V S (n + i)).epoch = (atV V S n).epoch)
def bodyR (V : TrayV) (S : SpoolV) (n : Int) : Nat → List Int
  | 0 => []
  | k + 1 => bodyR V S n k ++ (atV V S (n + k)).b
def recOk (V : TrayV) (S : SpoolV) (n : Int) : Bool := headOk V S n && (List.range ((atV V S n).of.toNat - 1)).all fun j => followV V S n (j + 1)
/-- What record returns. -/
def RecPost (V : TrayV) (S : SpoolV) (n : Int) (w : World) (e : Ending) (w' : World) : Prop :=
  Below w.heap.size w w' ∧ ((recOk V S n = true ∧ ∃ v, e = .returned (.tuple #[v, .int .i64 (atV V S n).epoch, .int .i64 (atV V S n).of]) ∧ Row w' w.heap.size TU8 .u8 v (bodyR V S n (atV V S n).of.toNat)) ∨
    (recOk V S n = false ∧ e = .returned (.tuple #[.slice none 0 0, .int .i64 0, .int .i64 0])))
theorem okV_facts {bs : List Int} (h : okV bs = true) (hl : bs.length = 128) : (pieceV bs).b.length ≤ 108 ∧ (pieceV bs).at_ < (pieceV bs).of := by
  unfold okV at h
  simp only [Bool.and_eq_true, decide_eq_true_eq, Bool.not_eq_true', Bool.or_eq_false_iff, decide_eq_false_iff_not] at h
  refine ⟨?_, by omega⟩
  show ((bs.drop 16).take (sizeV bs).toNat).length ≤ 108
  rw [List.length_take, List.length_drop, hl]
  omega
theorem here_facts {V : TrayV} {S : SpoolV} {n : Int} (h : hereV V S n = true) (hl : (secV V S n).length = 128) : (atV V S n).b.length ≤ 108 ∧ (atV V S n).at_ < (atV V S n).of := by
  unfold hereV at h
  rw [Bool.and_eq_true] at h
  exact okV_facts h.1 hl
theorem bodyR_length {V : TrayV} {S : SpoolV} {n : Int} : ∀ (k : Nat), (∀ i, i < k → (atV V S (n + (i : Nat))).b.length ≤ 108) → (bodyR V S n k).length ≤ 108 * k
  | 0, _ => by simp [bodyR]
  | k + 1, h => by
    have h1 := bodyR_length k (fun i hi => h i (by omega))
    have h2 := h k (by omega)
    rw [bodyR, List.length_append]
    omega
theorem rec_bad {V : TrayV} {S : SpoolV} {n : Int} {i : Nat} (h1 : 1 ≤ i) (h2 : (i : Int) < (atV V S n).of) (h : followV V S n i = false) : recOk V S n = false := by
  unfold recOk
  rw [Bool.and_eq_false_iff]
  refine .inr ?_
  rw [List.all_eq_false]
  refine ⟨i - 1, List.mem_range.2 (by omega), ?_⟩
  rw [show i - 1 + 1 = i by omega, h]
  decide
theorem rec_good {V : TrayV} {S : SpoolV} {n : Int} {i : Nat} (h0 : headOk V S n = true) (h2 : (atV V S n).of ≤ (i : Int)) (h : ∀ j, 1 ≤ j → j < i → followV V S n j = true) : recOk V S n = true := by
  unfold recOk
  rw [Bool.and_eq_true]
  refine ⟨h0, ?_⟩
  rw [List.all_eq_true]
  intro j hj
  have := List.mem_range.1 hj
  exact h (j + 1) (by omega) (by omega)
set_option maxHeartbeats 16000000 in
set_option maxRecDepth 100000 in
theorem record_calls (P : Nat → Prop) (s t : Nat) (V : TrayV) (S : SpoolV) (n : Int) (w : World) (H : TAt P w t V) (hS : Sound V) (hcl : V.cache.length ≤ 1000000000) (hB : BytesT V) (hF : Fit S) (hR : S.first + S.count ≤ V.kept.length)
    (HS : Blk w s TSp (spoolC t S)) (hn : 0 ≤ n) (hn2 : n ≤ 140737488000000) :
    Calls Try.prog 47 #[ptrT s, .int .i64 n] w (RecPost V S n w) := by
  have KP := Aside0.mk (fun (k : Int) (hk : 0 ≤ k ∧ k ≤ 140737488355328) w' (hb : Below w.heap.size w w') => piece_calls P s t V S k w' (H.below hb) hS hcl hB hF hR (HS.below hb) hk.1 hk.2)
  have KL := Aside0.mk (fun (k : Int) (hk : 0 ≤ k) => show (secV V S k).length = 128 from hS.read (on_has hF hR k hk))
  have HS := Aside0.mk HS
  have HC := Aside0.mk hF.count
  have HN := Aside0.mk (⟨hn, hn2⟩ : _ ∧ _)
  have K0 := Aside0.mk (KP.out n ⟨hn, by omega⟩ w (Below.refl _ _))
  clear H hS hcl hB hF hR hn hn2
  have h94 := Try.underlying94
  go_enter Try.func47, Try.ntmps47
  go_wp2_with fail
  refine K0.out.mono ?_
  rintro e w1 ⟨b1, p, A, c, rfl, hp⟩
  have HP := Aside0.mk hp
  have B1 := Aside0.mk b1
  have S1 := Aside0.mk (HS.out.below b1)
  clear b1 hp K0
  go_upto_region 2 with fail
  obtain ⟨W2, hW2⟩ : ∃ W2, w1.alloc (.cells (pieceC p A c) TPi) = W2 := ⟨_, rfl⟩
  have hE2 : Blk W2 w1.heap.size TPi (pieceC p A c) := by rw [← hW2]; exact Blk.new _ _ _
  have hb2 : Below w1.heap.size w1 W2 := by rw [← hW2]; exact (Below.refl _ _).alloc (Nat.le_refl _) _
  have hs2 := S1.out.below hb2
  have HE0 : (fun w' => Blk w' s TSp (spoolC t S) ∧ Blk w' w1.heap.size TPi (pieceC p A c) ∧ Below w1.heap.size w1 w') W2.drew := ⟨hs2.drew, hE2.drew, hb2.drew⟩
  rw [hW2]
  clear hE2 hb2 hs2 hW2
  obtain ⟨hv, hhv⟩ : ∃ hv, hereV V S n = hv := ⟨_, rfl⟩
  rw [hhv]
  have HV := Aside0.mk hhv
  have HP := Aside0.mk (by have := HP.out; rwa [hhv] at this : hv = true → _)
  clear hhv
  by_cases hbad : hv = true ∧ p.at_ = 0 ∧ p.of ≤ S.count
  case neg =>
   have HBad : Aside0 (recOk V S n = false) := ⟨by
    unfold recOk headOk
    rw [HV.out]
    cases hv with
    | false => rfl
    | true =>
      obtain ⟨h1, -⟩ := HP.out rfl
      rw [← h1]
      have : (decide (p.at_ = 0) && decide (p.of ≤ S.count)) = false := by
        rw [← Bool.decide_and, decide_eq_false_iff_not]
        exact fun h => hbad ⟨rfl, h⟩
      simp only [Bool.true_and] at *
      rw [this]
      rfl⟩
   cases hv with
   | false =>
    clear hbad
    refine Qt.wp_region_all (fun w' => Blk w' s TSp (spoolC t S) ∧ Blk w' w1.heap.size TPi (pieceC p A c) ∧ Below w1.heap.size w1 w') (by kernel_rfl) (by kernel_rfl) HE0 ?_
    clear HE0
    iterate 3 ((first | (with_reducible refine Qt.q_val' rfl ?_) | ((with_reducible refine Qg.on_val' ?_); apply Exists.intro; apply Exists.intro; apply Exists.intro; refine ⟨?_, ?_, ?_, ?_⟩; (focus rfl); (focus rfl); (focus rfl))); apply Exists.intro; refine ⟨?_, ?_⟩; (focus (intro w' hw'; have hEw := hw'.2.1; have c0 := hEw.cell 0; have c1 := hEw.cell 1; have c2 := hEw.cell 2; have c3 := hEw.cell 3; have c4 := hEw.cell 4; have l0 := hEw.lt; have hSw := hw'.1; have d1 := hSw.cell 1; have l1 := hSw.lt; go_simp; (first | done | (with_reducible rfl)))); intro K hK; go_simp; (first | (with_reducible refine hK _ ?_) | (refine hK _ ?_)); clear hK K)
    iterate 3 ((first | ((with_reducible refine Qg.off' ?_); apply Exists.intro; apply Exists.intro; apply Exists.intro; refine ⟨?_, ?_, ?_, ?_⟩; (focus rfl); (focus rfl); (focus rfl)) | ((with_reducible refine Qg.never' ?_); apply Exists.intro; apply Exists.intro; apply Exists.intro; refine ⟨?_, ?_, ?_, ?_⟩; (focus rfl); (focus rfl); (focus rfl))); intro K hK; go_simp; (first | (with_reducible refine hK _ ?_) | (refine hK _ ?_)); clear hK K)
    iterate 2 ((first | (with_reducible refine Qt.q_val' rfl ?_) | ((with_reducible refine Qg.on_val' ?_); apply Exists.intro; apply Exists.intro; apply Exists.intro; refine ⟨?_, ?_, ?_, ?_⟩; (focus rfl); (focus rfl); (focus rfl))); apply Exists.intro; refine ⟨?_, ?_⟩; (focus (intro w' hw'; have hEw := hw'.2.1; have c0 := hEw.cell 0; have c1 := hEw.cell 1; have c2 := hEw.cell 2; have c3 := hEw.cell 3; have c4 := hEw.cell 4; have l0 := hEw.lt; have hSw := hw'.1; have d1 := hSw.cell 1; have l1 := hSw.lt; go_simp; (first | done | (with_reducible rfl)))); intro K hK; go_simp; (first | (with_reducible refine hK _ ?_) | (refine hK _ ?_)); clear hK K)
    iterate 8 ((first | ((with_reducible refine Qg.off' ?_); apply Exists.intro; apply Exists.intro; apply Exists.intro; refine ⟨?_, ?_, ?_, ?_⟩; (focus rfl); (focus rfl); (focus rfl)) | ((with_reducible refine Qg.never' ?_); apply Exists.intro; apply Exists.intro; apply Exists.intro; refine ⟨?_, ?_, ?_, ?_⟩; (focus rfl); (focus rfl); (focus rfl))); intro K hK; go_simp; (first | (with_reducible refine hK _ ?_) | (refine hK _ ?_)); clear hK K)
    iterate 1 ((first | (with_reducible refine Qt.q_val' rfl ?_) | ((with_reducible refine Qg.on_val' ?_); apply Exists.intro; apply Exists.intro; apply Exists.intro; refine ⟨?_, ?_, ?_, ?_⟩; (focus rfl); (focus rfl); (focus rfl))); apply Exists.intro; refine ⟨?_, ?_⟩; (focus (intro w' hw'; have hEw := hw'.2.1; have c0 := hEw.cell 0; have c1 := hEw.cell 1; have c2 := hEw.cell 2; have c3 := hEw.cell 3; have c4 := hEw.cell 4; have l0 := hEw.lt; have hSw := hw'.1; have d1 := hSw.cell 1; have l1 := hSw.lt; go_simp; (first | done | (with_reducible rfl)))); intro K hK; go_simp; (first | (with_reducible refine hK _ ?_) | (refine hK _ ?_)); clear hK K)
    (refine wpQuiet_nil ?_; intro w' hw')
    have BE := Aside0.mk (B1.out.trans (hw'.2.2.mono B1.out.size))
    clear hw'
    go_wp2
    go_ret3
    exact ⟨BE.out, .inr ⟨HBad.out, rfl⟩⟩
   | true =>
   by_cases ha : p.at_ = 0
   · have t1 : decide (p.at_ = 0) = true := decide_eq_true ha
     have t2 : (p.at_ != 0) = false := by simp [ha]
     have t3 : (p.at_ == 0) = true := by simp [ha]
     have t4 : decide (p.of > S.count) = true := decide_eq_true (Int.not_le.1 fun h => hbad ⟨rfl, ha, h⟩)
     clear hbad ha
     refine Qt.wp_region_all (fun w' => Blk w' s TSp (spoolC t S) ∧ Blk w' w1.heap.size TPi (pieceC p A c) ∧ Below w1.heap.size w1 w') (by kernel_rfl) (by kernel_rfl) HE0 ?_
     clear HE0
     iterate 3 ((first | (with_reducible refine Qt.q_val' rfl ?_) | ((with_reducible refine Qg.on_val' ?_); apply Exists.intro; apply Exists.intro; apply Exists.intro; refine ⟨?_, ?_, ?_, ?_⟩; (focus rfl); (focus rfl); (focus rfl))); apply Exists.intro; refine ⟨?_, ?_⟩; (focus (intro w' hw'; have hEw := hw'.2.1; have c0 := hEw.cell 0; have c1 := hEw.cell 1; have c2 := hEw.cell 2; have c3 := hEw.cell 3; have c4 := hEw.cell 4; have l0 := hEw.lt; have hSw := hw'.1; have d1 := hSw.cell 1; have l1 := hSw.lt; go_simp; (first | done | (with_reducible rfl)))); intro K hK; go_simp; (first | (with_reducible refine hK _ ?_) | (refine hK _ ?_)); clear hK K)
     iterate 3 ((first | (with_reducible refine Qt.q_val' rfl ?_) | ((with_reducible refine Qg.on_val' ?_); apply Exists.intro; apply Exists.intro; apply Exists.intro; refine ⟨?_, ?_, ?_, ?_⟩; (focus rfl); (focus rfl); (focus rfl))); apply Exists.intro; refine ⟨?_, ?_⟩; (focus (intro w' hw'; have hEw := hw'.2.1; have c0 := hEw.cell 0; have c1 := hEw.cell 1; have c2 := hEw.cell 2; have c3 := hEw.cell 3; have c4 := hEw.cell 4; have l0 := hEw.lt; have hSw := hw'.1; have d1 := hSw.cell 1; have l1 := hSw.lt; go_simp; (first | done | (with_reducible rfl)))); intro K hK; go_simp; (first | (with_reducible refine hK _ ?_) | (refine hK _ ?_)); clear hK K)
     iterate 2 ((first | (with_reducible refine Qt.q_val' rfl ?_) | ((with_reducible refine Qg.on_val' ?_); apply Exists.intro; apply Exists.intro; apply Exists.intro; refine ⟨?_, ?_, ?_, ?_⟩; (focus rfl); (focus rfl); (focus rfl))); apply Exists.intro; refine ⟨?_, ?_⟩; (focus (intro w' hw'; have hEw := hw'.2.1; have c0 := hEw.cell 0; have c1 := hEw.cell 1; have c2 := hEw.cell 2; have c3 := hEw.cell 3; have c4 := hEw.cell 4; have l0 := hEw.lt; have hSw := hw'.1; have d1 := hSw.cell 1; have l1 := hSw.lt; go_simp; (first | done | (with_reducible rfl)))); intro K hK; go_simp; (first | (with_reducible refine hK _ ?_) | (refine hK _ ?_)); clear hK K)
     iterate 8 ((first | (with_reducible refine Qt.q_val' rfl ?_) | ((with_reducible refine Qg.on_val' ?_); apply Exists.intro; apply Exists.intro; apply Exists.intro; refine ⟨?_, ?_, ?_, ?_⟩; (focus rfl); (focus rfl); (focus rfl))); apply Exists.intro; refine ⟨?_, ?_⟩; (focus (intro w' hw'; have hEw := hw'.2.1; have c0 := hEw.cell 0; have c1 := hEw.cell 1; have c2 := hEw.cell 2; have c3 := hEw.cell 3; have c4 := hEw.cell 4; have l0 := hEw.lt; have hSw := hw'.1; have d1 := hSw.cell 1; have l1 := hSw.lt; go_simp; (first | done | (with_reducible rfl)))); intro K hK; go_simp; (first | (with_reducible refine hK _ ?_) | (refine hK _ ?_)); clear hK K)
     iterate 1 ((first | (with_reducible refine Qt.q_val' rfl ?_) | ((with_reducible refine Qg.on_val' ?_); apply Exists.intro; apply Exists.intro; apply Exists.intro; refine ⟨?_, ?_, ?_, ?_⟩; (focus rfl); (focus rfl); (focus rfl))); apply Exists.intro; refine ⟨?_, ?_⟩; (focus (intro w' hw'; have hEw := hw'.2.1; have c0 := hEw.cell 0; have c1 := hEw.cell 1; have c2 := hEw.cell 2; have c3 := hEw.cell 3; have c4 := hEw.cell 4; have l0 := hEw.lt; have hSw := hw'.1; have d1 := hSw.cell 1; have l1 := hSw.lt; go_simp; (first | done | (with_reducible rfl)))); intro K hK; go_simp; (first | (with_reducible refine hK _ ?_) | (refine hK _ ?_)); clear hK K)
     (refine wpQuiet_nil ?_; intro w' hw')
     have BE := Aside0.mk (B1.out.trans (hw'.2.2.mono B1.out.size))
     clear hw'
     go_wp2
     go_ret3
     exact ⟨BE.out, .inr ⟨HBad.out, rfl⟩⟩
   · have t1 : decide (p.at_ = 0) = false := decide_eq_false ha
     have t2 : (p.at_ != 0) = true := by simpa using ha
     have t3 : (p.at_ == 0) = false := by simpa using ha
     clear hbad ha
     refine Qt.wp_region_all (fun w' => Blk w' s TSp (spoolC t S) ∧ Blk w' w1.heap.size TPi (pieceC p A c) ∧ Below w1.heap.size w1 w') (by kernel_rfl) (by kernel_rfl) HE0 ?_
     clear HE0
     iterate 3 ((first | (with_reducible refine Qt.q_val' rfl ?_) | ((with_reducible refine Qg.on_val' ?_); apply Exists.intro; apply Exists.intro; apply Exists.intro; refine ⟨?_, ?_, ?_, ?_⟩; (focus rfl); (focus rfl); (focus rfl))); apply Exists.intro; refine ⟨?_, ?_⟩; (focus (intro w' hw'; have hEw := hw'.2.1; have c0 := hEw.cell 0; have c1 := hEw.cell 1; have c2 := hEw.cell 2; have c3 := hEw.cell 3; have c4 := hEw.cell 4; have l0 := hEw.lt; have hSw := hw'.1; have d1 := hSw.cell 1; have l1 := hSw.lt; go_simp; (first | done | (with_reducible rfl)))); intro K hK; go_simp; (first | (with_reducible refine hK _ ?_) | (refine hK _ ?_)); clear hK K)
     iterate 3 ((first | (with_reducible refine Qt.q_val' rfl ?_) | ((with_reducible refine Qg.on_val' ?_); apply Exists.intro; apply Exists.intro; apply Exists.intro; refine ⟨?_, ?_, ?_, ?_⟩; (focus rfl); (focus rfl); (focus rfl))); apply Exists.intro; refine ⟨?_, ?_⟩; (focus (intro w' hw'; have hEw := hw'.2.1; have c0 := hEw.cell 0; have c1 := hEw.cell 1; have c2 := hEw.cell 2; have c3 := hEw.cell 3; have c4 := hEw.cell 4; have l0 := hEw.lt; have hSw := hw'.1; have d1 := hSw.cell 1; have l1 := hSw.lt; go_simp; (first | done | (with_reducible rfl)))); intro K hK; go_simp; (first | (with_reducible refine hK _ ?_) | (refine hK _ ?_)); clear hK K)
     iterate 2 ((first | (with_reducible refine Qt.q_val' rfl ?_) | ((with_reducible refine Qg.on_val' ?_); apply Exists.intro; apply Exists.intro; apply Exists.intro; refine ⟨?_, ?_, ?_, ?_⟩; (focus rfl); (focus rfl); (focus rfl))); apply Exists.intro; refine ⟨?_, ?_⟩; (focus (intro w' hw'; have hEw := hw'.2.1; have c0 := hEw.cell 0; have c1 := hEw.cell 1; have c2 := hEw.cell 2; have c3 := hEw.cell 3; have c4 := hEw.cell 4; have l0 := hEw.lt; have hSw := hw'.1; have d1 := hSw.cell 1; have l1 := hSw.lt; go_simp; (first | done | (with_reducible rfl)))); intro K hK; go_simp; (first | (with_reducible refine hK _ ?_) | (refine hK _ ?_)); clear hK K)
     iterate 8 ((first | ((with_reducible refine Qg.off' ?_); apply Exists.intro; apply Exists.intro; apply Exists.intro; refine ⟨?_, ?_, ?_, ?_⟩; (focus rfl); (focus rfl); (focus rfl)) | ((with_reducible refine Qg.never' ?_); apply Exists.intro; apply Exists.intro; apply Exists.intro; refine ⟨?_, ?_, ?_, ?_⟩; (focus rfl); (focus rfl); (focus rfl))); intro K hK; go_simp; (first | (with_reducible refine hK _ ?_) | (refine hK _ ?_)); clear hK K)
     iterate 1 ((first | (with_reducible refine Qt.q_val' rfl ?_) | ((with_reducible refine Qg.on_val' ?_); apply Exists.intro; apply Exists.intro; apply Exists.intro; refine ⟨?_, ?_, ?_, ?_⟩; (focus rfl); (focus rfl); (focus rfl))); apply Exists.intro; refine ⟨?_, ?_⟩; (focus (intro w' hw'; have hEw := hw'.2.1; have c0 := hEw.cell 0; have c1 := hEw.cell 1; have c2 := hEw.cell 2; have c3 := hEw.cell 3; have c4 := hEw.cell 4; have l0 := hEw.lt; have hSw := hw'.1; have d1 := hSw.cell 1; have l1 := hSw.lt; go_simp; (first | done | (with_reducible rfl)))); intro K hK; go_simp; (first | (with_reducible refine hK _ ?_) | (refine hK _ ?_)); clear hK K)
     (refine wpQuiet_nil ?_; intro w' hw')
     have BE := Aside0.mk (B1.out.trans (hw'.2.2.mono B1.out.size))
     clear hw'
     go_wp2
     go_ret3
     exact ⟨BE.out, .inr ⟨HBad.out, rfl⟩⟩
  case pos =>
    obtain ⟨rfl, ha, ho⟩ := hbad
    have t1 : decide (p.at_ = 0) = true := decide_eq_true ha
    have t2 : (p.at_ != 0) = false := by simp [ha]
    have t3 : (p.at_ == 0) = true := by simp [ha]
    have t4 : decide (p.of > S.count) = false := decide_eq_false (by omega)
    have HA := Aside0.mk (⟨ha, ho⟩ : _ ∧ _)
    clear ha ho
    refine Qt.wp_region_all (fun w' => Blk w' s TSp (spoolC t S) ∧ Blk w' w1.heap.size TPi (pieceC p A c) ∧ Below w1.heap.size w1 w') (by kernel_rfl) (by kernel_rfl) HE0 ?_
    clear HE0
    iterate 3 ((first | (with_reducible refine Qt.q_val' rfl ?_) | ((with_reducible refine Qg.on_val' ?_); apply Exists.intro; apply Exists.intro; apply Exists.intro; refine ⟨?_, ?_, ?_, ?_⟩; (focus rfl); (focus rfl); (focus rfl))); apply Exists.intro; refine ⟨?_, ?_⟩; (focus (intro w' hw'; have hEw := hw'.2.1; have c0 := hEw.cell 0; have c1 := hEw.cell 1; have c2 := hEw.cell 2; have c3 := hEw.cell 3; have c4 := hEw.cell 4; have l0 := hEw.lt; have hSw := hw'.1; have d1 := hSw.cell 1; have l1 := hSw.lt; go_simp; (first | done | (with_reducible rfl)))); intro K hK; go_simp; (first | (with_reducible refine hK _ ?_) | (refine hK _ ?_)); clear hK K)
    iterate 3 ((first | (with_reducible refine Qt.q_val' rfl ?_) | ((with_reducible refine Qg.on_val' ?_); apply Exists.intro; apply Exists.intro; apply Exists.intro; refine ⟨?_, ?_, ?_, ?_⟩; (focus rfl); (focus rfl); (focus rfl))); apply Exists.intro; refine ⟨?_, ?_⟩; (focus (intro w' hw'; have hEw := hw'.2.1; have c0 := hEw.cell 0; have c1 := hEw.cell 1; have c2 := hEw.cell 2; have c3 := hEw.cell 3; have c4 := hEw.cell 4; have l0 := hEw.lt; have hSw := hw'.1; have d1 := hSw.cell 1; have l1 := hSw.lt; go_simp; (first | done | (with_reducible rfl)))); intro K hK; go_simp; (first | (with_reducible refine hK _ ?_) | (refine hK _ ?_)); clear hK K)
    iterate 2 ((first | (with_reducible refine Qt.q_val' rfl ?_) | ((with_reducible refine Qg.on_val' ?_); apply Exists.intro; apply Exists.intro; apply Exists.intro; refine ⟨?_, ?_, ?_, ?_⟩; (focus rfl); (focus rfl); (focus rfl))); apply Exists.intro; refine ⟨?_, ?_⟩; (focus (intro w' hw'; have hEw := hw'.2.1; have c0 := hEw.cell 0; have c1 := hEw.cell 1; have c2 := hEw.cell 2; have c3 := hEw.cell 3; have c4 := hEw.cell 4; have l0 := hEw.lt; have hSw := hw'.1; have d1 := hSw.cell 1; have l1 := hSw.lt; go_simp; (first | done | (with_reducible rfl)))); intro K hK; go_simp; (first | (with_reducible refine hK _ ?_) | (refine hK _ ?_)); clear hK K)
    iterate 8 ((first | (with_reducible refine Qt.q_val' rfl ?_) | ((with_reducible refine Qg.on_val' ?_); apply Exists.intro; apply Exists.intro; apply Exists.intro; refine ⟨?_, ?_, ?_, ?_⟩; (focus rfl); (focus rfl); (focus rfl))); apply Exists.intro; refine ⟨?_, ?_⟩; (focus (intro w' hw'; have hEw := hw'.2.1; have c0 := hEw.cell 0; have c1 := hEw.cell 1; have c2 := hEw.cell 2; have c3 := hEw.cell 3; have c4 := hEw.cell 4; have l0 := hEw.lt; have hSw := hw'.1; have d1 := hSw.cell 1; have l1 := hSw.lt; go_simp; (first | done | (with_reducible rfl)))); intro K hK; go_simp; (first | (with_reducible refine hK _ ?_) | (refine hK _ ?_)); clear hK K)
    iterate 1 ((first | (with_reducible refine Qt.q_val' rfl ?_) | ((with_reducible refine Qg.on_val' ?_); apply Exists.intro; apply Exists.intro; apply Exists.intro; refine ⟨?_, ?_, ?_, ?_⟩; (focus rfl); (focus rfl); (focus rfl))); apply Exists.intro; refine ⟨?_, ?_⟩; (focus (intro w' hw'; have hEw := hw'.2.1; have c0 := hEw.cell 0; have c1 := hEw.cell 1; have c2 := hEw.cell 2; have c3 := hEw.cell 3; have c4 := hEw.cell 4; have l0 := hEw.lt; have hSw := hw'.1; have d1 := hSw.cell 1; have l1 := hSw.lt; go_simp; (first | done | (with_reducible rfl)))); intro K hK; go_simp; (first | (with_reducible refine hK _ ?_) | (refine hK _ ?_)); clear hK K)
    (refine wpQuiet_nil ?_; intro w' hw')
    obtain ⟨hp1, hp2, hp3, hp4⟩ := HP.out rfl
    have hlen := (here_facts HV.out (KL.out n HN.out.1)).1
    have hat := (here_facts HV.out (KL.out n HN.out.1)).2
    rw [← hp1] at hlen hat
    have hof : 1 ≤ p.of ∧ p.of ≤ 4096 := by
      have h1 := HA.out
      have h2 := HC.out
      omega
    have hM := hw'.2.1
    obtain ⟨w3, rfl⟩ : ∃ w3, w3 = w' := ⟨_, rfl⟩
    have B3 := Aside0.mk (B1.out.trans (hw'.2.2.mono B1.out.size))
    have KC := Aside0.mk (clone_calls p.b A p.b.length c hp3 (by omega) w3 (hp4.below hw'.2.2))
    have HPT := Aside0.mk hp1
    have HM := Aside0.mk hM
    have HOF := Aside0.mk hof
    have c4 := hM.cell 4
    have ml := hM.lt
    obtain ⟨m0, hm0⟩ : ∃ m0, w1.heap.size = m0 := ⟨_, rfl⟩
    rw [hm0] at c4 ml HM
    rw [hm0]
    have HM0 := Aside0.mk hm0
    clear hp1 hp2 hp3 hp4 hlen hat hof hM hw' HP hm0 t1 t2 t3 t4 S1
    go_wp2_with fail
    refine KC.out.mono ?_
    rintro e w4 ⟨v, rfl, hrow, b4⟩
    have R4 := Aside0.mk (by have := hrow.lower B3.out.size; rwa [show p.b = bodyR V S n 1 by rw [HPT.out]; simp [bodyR]] at this : Row w4 w.heap.size TU8 .u8 v (bodyR V S n 1))
    have M4 := Aside0.mk (HM.out.below b4)
    have B4 := Aside0.mk (B3.out.trans (b4.mono B3.out.size))
    clear hrow b4 KC c4 ml
    go_wp2
    go_loopw [9, 10] (fun v9 v10 wr => ∃ i : Nat, v10 = .int .i64 (i : Int) ∧ Aside0 (1 ≤ i ∧ (i : Int) ≤ p.of) ∧ Aside0 (∀ j, 1 ≤ j → j < i → followV V S n j = true) ∧ Aside0 (Row wr w.heap.size TU8 .u8 v9 (bodyR V S n i)) ∧ Aside0 (Blk wr m0 TPi (pieceC p A c)) ∧ Aside0 (Below w.heap.size w wr)) (fun _ v10 _ => p.of.toNat - (intOf v10).toNat)
    case atStart => exact ⟨1, rfl, ⟨Nat.le_refl _, HOF.out.1⟩, ⟨fun j h1 h2 => absurd h2 (by omega)⟩, R4, M4, B4⟩
    case round =>
      obtain ⟨i, rfl, hin, hfo, hrow, hM, hb⟩ := hrel
      have c0 := hM.out.cell 0
      have c3 := hM.out.cell 3
      have ml := hM.out.lt
      by_cases hi : (i : Int) < p.of
      · have t1 : decide ((i : Int) < p.of) = true := decide_eq_true hi
        have hw1 : IntKind.i64.wrap (n + (i : Int)) = n + (i : Int) := IntWalk.i64_in _ (by have := HN.out; have := HOF.out; omega)
        have hw : IntKind.i64.wrap ((i : Int) + 1) = ((i + 1 : Nat) : Int) := by rw [show ((i : Int) + 1) = ((i + 1 : Nat) : Int) by omega]; exact IntWalk.i64_in _ (by have := HOF.out; omega)
        have K := Aside0.mk (KP.out (n + (i : Int)) ⟨by have := HN.out; omega, by have := HN.out; have := HOF.out; omega⟩ wr hb.out)
        have HI := Aside0.mk hi
        have HBad := Aside0.mk (fun h => rec_bad (V := V) (S := S) (n := n) hin.out.1 (by rw [← HPT.out]; exact hi) h)
        clear hi
        go_wp2_with fail
        refine K.out.mono ?_
        rintro e w5 ⟨b5, q, A5, c5, rfl, hq⟩
        have hM5 := hM.out.below b5
        have hR5 := hrow.out.below b5
        have c0 := hM5.cell 0
        have c3 := hM5.cell 3
        have ml := hM5.lt
        have M5 := Aside0.mk hM5
        have R5 := Aside0.mk hR5
        have B5 := Aside0.mk (hb.out.trans (b5.mono hb.out.size))
        have BSZ := Aside0.mk b5.size
        have HQ := Aside0.mk hq
        clear b5 hq hM5 hR5 K
        obtain ⟨hv2, hhv2⟩ : ∃ hv2, hereV V S (n + (i : Int)) = hv2 := ⟨_, rfl⟩
        rw [hhv2]
        have HV2 := Aside0.mk hhv2
        have HQ := Aside0.mk (by have := HQ.out; rwa [hhv2] at this : hv2 = true → _)
        clear hhv2
        cases hv2 with
        | false =>
          have HB := Aside0.mk (HBad.out (by unfold followV; rw [HV2.out]; rfl))
          go_wp2
          go_ret3
          exact ⟨B5.out.alloc B5.out.size _, .inr ⟨HB.out, rfl⟩⟩
        | true =>
          obtain ⟨hq1, hq2, hq3, hq4⟩ := HQ.out rfl
          have hql := (here_facts HV2.out (KL.out _ (by have := HN.out; omega))).1
          rw [← hq1] at hql
          by_cases e1 : q.at_ = (i : Int)
          · have u1a : decide (q.at_ = (i : Int)) = true := decide_eq_true e1
            have u1b : (q.at_ != (i : Int)) = false := by simp [e1]
            have u1c : (q.at_ == (i : Int)) = true := by simp [e1]
            by_cases e2 : q.of = p.of
            · have u2a : decide (q.of = p.of) = true := decide_eq_true e2
              have u2b : (q.of != p.of) = false := by simp [e2]
              have u2c : (q.of == p.of) = true := by simp [e2]
              by_cases e3 : q.epoch = p.epoch
              · have u3a : decide (q.epoch = p.epoch) = true := decide_eq_true e3
                have u3b : (q.epoch != p.epoch) = false := by simp [e3]
                have u3c : (q.epoch == p.epoch) = true := by simp [e3]
                have HFol := Aside0.mk (by unfold followV; rw [HV2.out, ← hq1, decide_eq_true e1, ← HPT.out, decide_eq_true e2, decide_eq_true e3]; rfl : followV V S n i = true)
                have hbl : (bodyR V S n i).length ≤ 108 * i := bodyR_length i (fun j hj => by
                  have hh : hereV V S (n + (j : Nat)) = true := by
                    rcases Nat.eq_zero_or_pos j with h | h
                    · subst h; rw [show n + ((0 : Nat) : Int) = n by omega]; exact HV.out
                    · have := hfo.out j h hj
                      unfold followV at this
                      simp only [Bool.and_eq_true] at this
                      exact this.1.1.1
                  exact (here_facts hh (KL.out _ (by have := HN.out; omega))).1)
                have hlm : (bodyR V S n i).length + q.b.length ≤ 140737488355328 := by have := hin.out; have := HOF.out; omega
                obtain ⟨L, hL⟩ : ∃ L, bodyR V S n i = L := ⟨_, rfl⟩
                rw [hL] at hlm
                have R5 := Aside0.mk (by have := R5.out; rwa [hL] at this : Row w5 w.heap.size TU8 .u8 u9 L)
                have HNX := Aside0.mk (by rw [bodyR, hL, ← hq1] : bodyR V S n (i + 1) = L ++ q.b)
                have HQ4 := Aside0.mk hq4
                have tok1 : True := trivial
                clear e1 e2 e3 hq1 hq2 hq3 hq4 hql hbl hL hrow
                go_wp2_with (at_builtin; have _t := tok1; have q0 := B5.out.alloc B5.out.size (.cells (pieceC q A5 c5) TPi); have q1 := M5.out.alloc (.cells (pieceC q A5 c5) TPi); have q2 := R5.out.alloc (.cells (pieceC q A5 c5) TPi); have q3 := q2.ne q1 (by decide); go_must (refine app8 (w0 := w) w.heap.size rfl _ _ rfl _ L q.b A5 q.b.length c5 rfl rfl q2 (HQ4.out.below (below_alloc (Below.refl _ _) _)) q0 q0.size hlm ?_); intro v7 w7 hv7 hb7 hg7 hat7; have hM7 := q1.grown hg7 q3; clear hg7 hat7 _t tok1 q0 q1 q2 q3)
                have R7 := Aside0.mk (by rw [HNX.out]; exact hv7 : Row w7 w.heap.size TU8 .u8 v7 (bodyR V S n (i + 1)))
                have M7 := Aside0.mk hM7
                have B7 := Aside0.mk hb7
                clear hv7 hM7 hb7
                go_roundw
                case rel => exact ⟨i + 1, by first | rfl | (rw [hw]) | go_num | simp [hw], ⟨by omega, by have := HI.out; omega⟩, ⟨fun j h1 h2 => by
                  rcases Nat.lt_or_ge j i with h | h
                  · exact hfo.out j h1 h
                  · obtain rfl : j = i := by omega
                    exact HFol.out⟩, R7, M7, B7⟩
                case measure => have := HI.out; simp [intOf, hw]; omega
              · have u3a : decide (q.epoch = p.epoch) = false := decide_eq_false e3
                have u3b : (q.epoch != p.epoch) = true := by simpa using e3
                have u3c : (q.epoch == p.epoch) = false := by simpa using e3
                have HB := Aside0.mk (HBad.out (by unfold followV; rw [HV2.out, ← hq1, decide_eq_true e1, ← HPT.out, decide_eq_true e2, decide_eq_false e3]; rfl))
                clear e1 e2 e3 hq1 hq2 hq3 hq4 hql
                go_wp2
                go_ret3
                exact ⟨B5.out.alloc B5.out.size _, .inr ⟨HB.out, rfl⟩⟩
            · have u2a : decide (q.of = p.of) = false := decide_eq_false e2
              have u2b : (q.of != p.of) = true := by simpa using e2
              have u2c : (q.of == p.of) = false := by simpa using e2
              have HB := Aside0.mk (HBad.out (by unfold followV; rw [HV2.out, ← hq1, decide_eq_true e1, ← HPT.out, decide_eq_false e2]; rfl))
              clear e1 e2 hq1 hq2 hq3 hq4 hql
              go_wp2
              go_ret3
              exact ⟨B5.out.alloc B5.out.size _, .inr ⟨HB.out, rfl⟩⟩
          · have u1 : decide (q.at_ = (i : Int)) = false := decide_eq_false e1
            have u2 : (q.at_ != (i : Int)) = true := by simpa using e1
            have u3 : (q.at_ == (i : Int)) = false := by simpa using e1
            have HB := Aside0.mk (HBad.out (by unfold followV; rw [HV2.out, ← hq1, decide_eq_false e1]; rfl))
            clear e1 hq1 hq2 hq3 hq4 hql
            go_wp2
            go_ret3
            exact ⟨B5.out.alloc B5.out.size _, .inr ⟨HB.out, rfl⟩⟩
      · have t1 : decide ((i : Int) < p.of) = false := decide_eq_false hi
        have hi2 : p.of.toNat = i := by have := hin.out; omega
        have HR := Aside0.mk (rec_good (V := V) (S := S) (n := n) (by unfold headOk; rw [HV.out, ← HPT.out, decide_eq_true HA.out.1, decide_eq_true HA.out.2]; rfl) (by rw [← HPT.out]; omega) hfo.out : recOk V S n = true)
        have HI2 := Aside0.mk hi2
        clear hi hi2
        go_wp2_with fail
        refine Qt.wp_region_all (fun w' => Below wr.heap.size wr w') (by kernel_rfl) (by kernel_rfl) (Below.refl _ _).drew ?_
        iterate 8 ((first | (with_reducible refine Qt.q_val' rfl ?_) | ((with_reducible refine Qg.on_val' ?_); apply Exists.intro; apply Exists.intro; apply Exists.intro; refine ⟨?_, ?_, ?_, ?_⟩; (focus rfl); (focus rfl); (focus rfl))); apply Exists.intro; refine ⟨?_, ?_⟩; (focus (intro w' hw'; have hEw := hM.out.below hw'; have c0 := hEw.cell 0; have c3 := hEw.cell 3; have l0 := hEw.lt; go_simp; (first | done | (with_reducible rfl)))); intro K hK; go_simp; (first | (with_reducible refine hK _ ?_) | (refine hK _ ?_)); clear hK K)
        (refine wpQuiet_nil ?_; intro w' hw')
        go_wp2
        go_ret3
        refine ⟨hb.out.trans (hw'.mono hb.out.size), .inl ⟨HR.out, u9, ?_, ?_⟩⟩
        · rw [← HPT.out]; rfl
        · rw [← HPT.out, HI2.out]; exact hrow.out.below hw'
end Go.Proofs.Ytddhngalokmdoaa.Spo
