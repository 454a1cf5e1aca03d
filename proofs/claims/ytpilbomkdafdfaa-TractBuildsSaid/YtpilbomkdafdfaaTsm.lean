/- Nodes: what the reference's Size, Depth, Fits, Same come to. -/
import Derived.Test.YtpilbomkdafdfaaTea
namespace Go.Proofs.Ytpilbomkdafdfaa.Tra
open Go.RowKit Go.Proofs.YtpilbomkdafdfaaW.PrintWords Go.Proofs.Ytpilbomkdafdfaa.Utf Go.Proofs.Ytpilbomkdafdfaa.PTractRefs
set_option linter.unusedVariables false
set_option linter.unusedSimpArgs false

theorem ev_rsize (x : S24) : sz x ≤ 1000000 → Ev (fun k => stileref05_Size.f k x.f0 x.f1 x.f2 x.f3) (sz x : Int) := by
  refine S24_ind (P := fun x => sz x ≤ 1000000 → Ev (fun k => stileref05_Size.f k x.f0 x.f1 x.f2 x.f3) (sz x : Int)) (fun x ih => ?_) x
  obtain ⟨kk, a, b, l⟩ := x
  simp only [sz] at *
  intro hs
  have hll := szL_length l
  have H : ∀ (d i n : Nat), l.length - i = d → i ≤ l.length → n + szL (l.drop i) ≤ 1000000 → Ev (fun k => stileref05_Size.l0 k (n : Int) (l.length : Int) (i : Int) kk a b l) ((n + szL (l.drop i) : Nat) : Int) := by
    intro d
    induction d with
    | zero =>
      intro i n hd hi hn
      have e : l.drop i = [] := List.drop_eq_nil_of_le (by omega)
      rw [e]
      refine Ev.step (f := fun _ => some (n : Int)) (fun k => ?_) (Ev.now _)
      simp only [stileref05_Size.l0]
      rw [if_neg (by omega)]
    | succ d ihd =>
      intro i n hd hi hn
      have hil : i < l.length := by omega
      rw [List.drop_eq_getElem_cons hil] at hn ⊢
      simp only [szL] at hn ⊢
      refine Ev.step (f := fun k => (stileref05_Size.f k l[i].f0 l[i].f1 l[i].f2 l[i].f3).bind fun t => stileref05_Size.l0 k (wrap64 ((n : Int) + t)) (l.length : Int) ((i + 1 : Nat) : Int) kk a b l) (fun k => ?_) ?_
      · simp only [stileref05_Size.l0]
        rw [if_pos (by omega), if_pos (by omega), if_pos (by omega), rd_at l i hil, w_succ i (by omega)]
      · refine Ev.bind (ih l[i] (List.getElem_mem hil) (by omega)) ?_
        have := ihd (i + 1) (n + sz l[i]) (by omega) (by omega) (by omega)
        rw [w_id _ (by omega) (by omega)]
        rw [← Nat.add_assoc]
        exact this
  refine Ev.step (f := fun k => stileref05_Size.l0 k ((1 : Nat) : Int) (l.length : Int) ((0 : Nat) : Int) kk a b l) (fun k => rfl) ?_
  have := H l.length 0 1 (by omega) (by omega) (by simp; omega)
  rw [List.drop_zero, Nat.add_comm] at this
  exact this
theorem ev_rdep (x : S24) : sz x ≤ 1000000 → Ev (fun k => stileref05_Depth.f k x.f0 x.f1 x.f2 x.f3) (dep x : Int) := by
  refine S24_ind (P := fun x => sz x ≤ 1000000 → Ev (fun k => stileref05_Depth.f k x.f0 x.f1 x.f2 x.f3) (dep x : Int)) (fun x ih => ?_) x
  obtain ⟨kk, a, b, l⟩ := x
  simp only [sz, dep] at *
  intro hs
  have hll := szL_length l
  have hd : ∀ m : List S24, depL m ≤ szL m := fun m => by
    induction m with
    | nil => simp [depL]
    | cons y m ih2 => have := dep_le_sz y; simp only [depL, szL]; omega
  have H : ∀ (d i n : Nat), l.length - i = d → i ≤ l.length → n ≤ 1000000 → Ev (fun k => stileref05_Depth.l0 k ((n + 1 : Nat) : Int) (l.length : Int) (i : Int) kk a b l) ((max n (depL (l.drop i)) + 1 : Nat) : Int) := by
    intro d
    induction d with
    | zero =>
      intro i n hd hi hn
      have e : l.drop i = [] := List.drop_eq_nil_of_le (by omega)
      rw [e]
      refine Ev.step (f := fun _ => some ((max n (depL []) + 1 : Nat) : Int)) (fun k => ?_) (Ev.now _)
      simp only [stileref05_Depth.l0, depL]
      rw [if_neg (by omega)]
      congr 1
      omega
    | succ d ihd =>
      intro i n hd' hi hn
      have hil : i < l.length := by omega
      have hm := szL_mem (List.getElem_mem hil)
      have hds := dep_le_sz l[i]
      rw [List.drop_eq_getElem_cons hil]
      simp only [depL]
      refine Ev.step (f := fun k => (stileref05_Depth.f k l[i].f0 l[i].f1 l[i].f2 l[i].f3).bind fun t => stileref05_Depth.l0 k (mx ((n + 1 : Nat) : Int) (wrap64 (1 + t))) (l.length : Int) ((i + 1 : Nat) : Int) kk a b l) (fun k => ?_) ?_
      · simp only [stileref05_Depth.l0]
        rw [if_pos (by omega), if_pos (by omega), if_pos (by omega), rd_at l i hil, w_succ i (by omega)]
      · refine Ev.bind (ih l[i] (List.getElem_mem hil) (by omega)) ?_
        have := ihd (i + 1) (max n (dep l[i])) (by omega) (by omega) (by omega)
        have e : mx ((n + 1 : Nat) : Int) (wrap64 (1 + (dep l[i] : Int))) = ((max n (dep l[i]) + 1 : Nat) : Int) := by rw [w_id _ (by omega) (by omega)]; unfold mx; omega
        rw [e, show max n (max (dep l[i]) (depL (l.drop (i + 1)))) = max (max n (dep l[i])) (depL (l.drop (i + 1))) by omega]
        exact this
  refine Ev.step (f := fun k => stileref05_Depth.l0 k ((0 + 1 : Nat) : Int) (l.length : Int) ((0 : Nat) : Int) kk a b l) (fun k => rfl) ?_
  have := H l.length 0 0 (by omega) (by omega) (by omega)
  rw [List.drop_zero, Nat.zero_max] at this
  exact this
theorem ev_fits (x : S24) (hs : sz x ≤ 1000000) (ht : strs x ≤ 9223372036854775807) : Ev (fun k => stileref05_Fits.f k x.f0 x.f1 x.f2 x.f3) (codeV x) := by
  unfold stileref05_Fits.f codeV
  refine Ev.bind (ev_good x hs ht) ?_
  by_cases hg : goodB x = false
  · rw [hg]
    exact Ev.now _
  · have hg' : goodB x = true := by simpa using hg
    rw [hg']
    simp only [if_true, Bool.true_eq_false, if_false]
    refine Ev.bind (ev_rsize x hs) ?_
    by_cases h24 : 24 < sz x
    · rw [if_pos h24]
      simp only [if_pos (show (sz x : Int) > 24 by omega)]
      exact Ev.now _
    · rw [if_neg h24]
      simp only [if_neg (show ¬ (sz x : Int) > 24 by omega)]
      refine Ev.bind (ev_rdep x hs) ?_
      by_cases h8 : 8 < dep x
      · rw [if_pos h8]
        simp only [if_pos (show (dep x : Int) > 8 by omega)]
        exact Ev.now _
      · rw [if_neg h8]
        simp only [if_neg (show ¬ (dep x : Int) > 8 by omega)]
        exact Ev.now _
theorem ev_same (x : S24) : sz x ≤ 1000000 → Ev (fun k => stileref05_Same.f k x.f0 x.f1 x.f2 x.f3 x.f0 x.f1 x.f2 x.f3) true := by
  refine S24_ind (P := fun x => sz x ≤ 1000000 → Ev (fun k => stileref05_Same.f k x.f0 x.f1 x.f2 x.f3 x.f0 x.f1 x.f2 x.f3) true) (fun x ih => ?_) x
  obtain ⟨kk, a, b, l⟩ := x
  simp only [sz] at *
  intro hs
  have hll := szL_length l
  have H : ∀ (d i : Nat), l.length - i = d → i ≤ l.length → Ev (fun k => stileref05_Same.l0 k (l.length : Int) (i : Int) kk a b l kk a b l) true := by
    intro d
    induction d with
    | zero =>
      intro i hd hi
      refine Ev.step (f := fun _ => some true) (fun k => ?_) (Ev.now _)
      simp only [stileref05_Same.l0]
      rw [if_neg (by omega)]
    | succ d ihd =>
      intro i hd hi
      have hil : i < l.length := by omega
      have hm := szL_mem (List.getElem_mem hil)
      refine Ev.step (f := fun k => (stileref05_Same.f k l[i].f0 l[i].f1 l[i].f2 l[i].f3 l[i].f0 l[i].f1 l[i].f2 l[i].f3).bind fun t => if t = true then stileref05_Same.l0 k (l.length : Int) ((i + 1 : Nat) : Int) kk a b l kk a b l else some false) (fun k => ?_) ?_
      · simp only [stileref05_Same.l0]
        rw [if_pos (by omega), if_pos (by omega), if_pos (by omega), rd_at l i hil, w_succ i (by omega), if_pos (by omega)]
      · refine Ev.bind (ih l[i] (List.getElem_mem hil) (by omega)) ?_
        simp only [if_true]
        exact ihd (i + 1) (by omega) (by omega)
  refine Ev.step (f := fun k => stileref05_Same.j0 k false kk a b l kk a b l) (fun k => ?_) ?_
  · simp only [stileref05_Same.f, if_true, bne_self_eq_false]
  · refine Ev.step (f := fun k => stileref05_Same.l0 k (l.length : Int) ((0 : Nat) : Int) kk a b l kk a b l) (fun k => ?_) (H l.length 0 (by omega) (by omega))
    simp only [stileref05_Same.j0]
    rfl
end Go.Proofs.Ytpilbomkdafdfaa.Tra
