/- Nodes: plain facts; what the printed functions of chapter 5 come to. -/
import Derived.Test.YtpilbomkdafdfaaTnr
import Derived.Test.YtpilbomkdafdfaaTps
namespace Go.Proofs.Ytpilbomkdafdfaa.Tra
open Go.RowKit Go.Proofs.YtpilbomkdafdfaaW.PrintWords Go.Proofs.Ytpilbomkdafdfaa.Utf Go.Proofs.Ytpilbomkdafdfaa.PTractRefs
set_option linter.unusedVariables false
set_option linter.unusedSimpArgs false

theorem S24_ind {P : S24 → Prop} (h : ∀ x : S24, (∀ y, y ∈ x.f3 → P y) → P x) (x : S24) : P x :=
  S24.rec (motive_1 := P) (motive_2 := fun l => ∀ y, y ∈ l → P y) (fun a b c l ih => h ⟨a, b, c, l⟩ ih) (fun y hy => by cases hy) (fun a l h1 h2 y hy => by
    rcases List.mem_cons.1 hy with rfl | hy
    · exact h1
    · exact h2 y hy) x
mutual
def sz : S24 → Nat
  | ⟨_, _, _, l⟩ => szL l + 1
def szL : List S24 → Nat
  | [] => 0
  | x :: l => sz x + szL l
end
mutual
def dep : S24 → Nat
  | ⟨_, _, _, l⟩ => depL l + 1
def depL : List S24 → Nat
  | [] => 0
  | x :: l => max (dep x) (depL l)
end
mutual
def cntV : S24 → Int → Int
  | ⟨_, _, _, l⟩, n => cntL l (n - 1)
def cntL : List S24 → Int → Int
  | [], n => n
  | x :: l, n => if n < 0 then n else cntL l (cntV x n)
end
def noB (s : ByteArray) : Bool := s.toList == ([] : List UInt8)
def wordB (s : ByteArray) : Bool := nameB s && (s.toList != ([116, 121, 112, 101] : List UInt8) && (s.toList != ([114, 101, 108] : List UInt8) && s.toList != ([116, 104, 105, 115] : List UInt8)))
def shapeB (k : Int) (a b : ByteArray) (n : Nat) : Bool :=
  if k = 1 then noB a && (noB b && n == 0) else if k = 2 then wordB a && (noB b && n == 0) else if k = 3 then wordB a && (wordB b && n == 0)
  else if k = 4 ∨ k = 5 then noB a && (noB b && decide (2 ≤ n)) else if k = 6 then noB a && (noB b && n == 2) else false
mutual
def goodB : S24 → Bool
  | ⟨k, a, b, l⟩ => goodL l && shapeB k a b l.length
def goodL : List S24 → Bool
  | [] => true
  | x :: l => goodB x && goodL l
end
def flip (k : Int) (i : Nat) : Bool := k == 6 && i == 1
def e0 : ByteArray := ⟨#[]⟩
mutual
def refs : S24 → Bool → List S41
  | ⟨k, a, b, l⟩, odd => if k = 2 then [⟨e0, a, odd⟩] else if k = 3 then [⟨a, b, odd⟩] else refsL k l odd 0
def refsL (k : Int) : List S24 → Bool → Nat → List S41
  | [], _, _ => []
  | x :: l, odd, i => refs x (odd != flip k i) ++ refsL k l odd (i + 1)
end
mutual
def dir : S24 → Bool → Bool → Bool
  | ⟨k, _, _, l⟩, odd, own => dirL k l odd own 0 || (k == 1 && odd == own)
def dirL (k : Int) : List S24 → Bool → Bool → Nat → Bool
  | [], _, _, _ => false
  | x :: l, odd, own, i => dir x odd (own != flip k i) || dirL k l odd own (i + 1)
end
theorem sz_pos (x : S24) : 1 ≤ sz x := by cases x; simp [sz]
theorem szL_mem {l : List S24} {y : S24} (h : y ∈ l) : sz y ≤ szL l := by
  induction l with
  | nil => cases h
  | cons x l ih =>
    simp only [szL]
    rcases List.mem_cons.1 h with rfl | h
    · omega
    · have := ih h; omega
theorem szL_length (l : List S24) : l.length ≤ szL l := by
  induction l with
  | nil => simp [szL]
  | cons x l ih => have := sz_pos x; simp only [szL, List.length_cons]; omega
theorem szL_drop (l : List S24) (i : Nat) : szL (l.drop i) ≤ szL l := by
  induction l generalizing i with
  | nil => simp
  | cons x l ih =>
    cases i with
    | zero => simp
    | succ i => have := ih i; simp only [List.drop_succ_cons, szL]; omega
theorem dep_le_sz (x : S24) : dep x ≤ sz x := by
  refine S24_ind (P := fun x => dep x ≤ sz x) (fun x ih => ?_) x
  obtain ⟨k, a, b, l⟩ := x
  simp only [dep, sz] at *
  have : depL l ≤ szL l := by
    induction l with
    | nil => simp [depL]
    | cons y l ih2 =>
      have h1 := ih y (by simp)
      have h2 := ih2 (fun z hz => ih z (by simp [hz]))
      simp only [depL, szL]
      omega
  omega
theorem rd_at (l : List S24) (i : Nat) (h : i < l.length) : rd_T24 l (i : Int) = l[i] := by unfold rd_T24; simp [List.getD, List.getElem?_eq_getElem h]
theorem w_succ (i : Nat) (h : i < 9223372036854775807) : wrap64 ((i : Int) + 1) = ((i + 1 : Nat) : Int) := by unfold wrap64; omega
theorem w_id (x : Int) (h0 : -9223372036854775808 ≤ x) (h1 : x ≤ 9223372036854775807) : wrap64 x = x := by unfold wrap64; omega

/-! ### count -/
theorem cnt_spec (x : S24) : ∀ n : Int, 0 ≤ n → cntV x n = max (-1) (n - sz x) := by
  refine S24_ind (P := fun x => ∀ n : Int, 0 ≤ n → cntV x n = max (-1) (n - sz x)) (fun x ih => ?_) x
  obtain ⟨k, a, b, l⟩ := x
  simp only at ih
  have H : ∀ n : Int, -1 ≤ n → cntL l n = max (-1) (n - szL l) := by
    induction l with
    | nil => intro n hn; simp only [cntL, szL]; omega
    | cons y l ih2 =>
      intro n hn
      simp only [cntL, szL]
      by_cases h0 : n < 0
      · rw [if_pos h0]; omega
      · rw [if_neg h0, ih y (by simp) n (by omega), ih2 (fun z hz => ih z (by simp [hz])) _ (by omega)]
        omega
  intro n hn
  simp only [cntV, sz]
  rw [H (n - 1) (by omega)]
  omega
theorem ev_count (x : S24) : ∀ n : Int, 0 ≤ n → n ≤ 1000 → Ev (fun k => stilelaw05_count.f k x.f0 x.f1 x.f2 x.f3 n) (cntV x n) := by
  refine S24_ind (P := fun x => ∀ n : Int, 0 ≤ n → n ≤ 1000 → Ev (fun k => stilelaw05_count.f k x.f0 x.f1 x.f2 x.f3 n) (cntV x n)) (fun x ih => ?_) x
  obtain ⟨kk, a, b, l⟩ := x
  simp only at ih
  have H : ∀ (d i : Nat) (n : Int), l.length - i = d → i ≤ l.length → -1 ≤ n → n ≤ 1000 → (i : Int) + n ≤ 2000 → Ev (fun k => stilelaw05_count.l0 k n l (l.length : Int) (i : Int)) (cntL (l.drop i) n) := by
    intro d
    induction d with
    | zero =>
      intro i n hd hi hn hn3 hin
      have e : l.drop i = [] := List.drop_eq_nil_of_le (by omega)
      rw [e]
      refine Ev.step (f := fun _ => some n) (fun k => ?_) (Ev.now n)
      simp only [stilelaw05_count.l0]
      rw [if_neg (by omega)]
    | succ d ihd =>
      intro i n hd hi hn hn3 hin
      have hil : i < l.length := by omega
      rw [List.drop_eq_getElem_cons hil]
      simp only [cntL]
      by_cases h0 : n < 0
      · rw [if_pos h0]
        refine Ev.step (f := fun _ => some n) (fun k => ?_) (Ev.now n)
        simp only [stilelaw05_count.l0]
        rw [if_pos (by omega), if_pos (by omega), if_pos (by omega), if_pos h0]
      · rw [if_neg h0]
        have hs := cnt_spec l[i] n (by omega)
        have hz := sz_pos l[i]
        refine Ev.step (f := fun k => (stilelaw05_count.f k l[i].f0 l[i].f1 l[i].f2 l[i].f3 n).bind fun t => stilelaw05_count.l0 k t l (l.length : Int) ((i + 1 : Nat) : Int)) (fun k => ?_) ?_
        · simp only [stilelaw05_count.l0]
          rw [if_pos (by omega), if_pos (by omega), if_pos (by omega), if_neg h0, rd_at l i hil, w_succ i (by omega)]
        · exact Ev.bind (ih l[i] (List.getElem_mem hil) n (by omega) (by omega)) (ihd (i + 1) _ (by omega) (by omega) (by omega) (by omega) (by omega))
  intro n hn hn2
  refine Ev.step (f := fun k => stilelaw05_count.l0 k (n - 1) l (l.length : Int) ((0 : Nat) : Int)) (fun k => ?_) ?_
  · simp only [stilelaw05_count.f]
    rw [w_id (n - 1) (by omega) (by omega)]
    rfl
  · have := H l.length 0 (n - 1) (by omega) (by omega) (by omega) (by omega) (by omega)
    simpa [cntV] using this
def fewB (x : S24) : Bool := decide (sz x ≤ 300)
theorem few_f (x : S24) : ∃ k, stilelaw05_Few.f k x.f0 x.f1 x.f2 x.f3 = some (fewB x) := by
  have h := ev_count x 300 (by decide) (by decide)
  obtain ⟨k, hk⟩ := h.rounds
  refine ⟨k, ?_⟩
  unfold stilelaw05_Few.f
  rw [show stilelaw05_count.f k x.f0 x.f1 x.f2 x.f3 300 = some (cntV x 300) from hk, cnt_spec x 300 (by decide)]
  simp only [Option.bind_some, fewB, Option.some.injEq, decide_eq_decide]
  omega

/-! ### Size, Depth -/
theorem ev_size (x : S24) : sz x ≤ 1000000 → Ev (fun k => tract_Size.f k x.f0 x.f1 x.f2 x.f3) (sz x : Int) := by
  refine S24_ind (P := fun x => sz x ≤ 1000000 → Ev (fun k => tract_Size.f k x.f0 x.f1 x.f2 x.f3) (sz x : Int)) (fun x ih => ?_) x
  obtain ⟨kk, a, b, l⟩ := x
  simp only [sz] at *
  intro hs
  have hll := szL_length l
  have H : ∀ (d i n : Nat), l.length - i = d → i ≤ l.length → n + szL (l.drop i) ≤ 1000000 → Ev (fun k => tract_Size.l0 k (n : Int) l (l.length : Int) (i : Int)) ((n + szL (l.drop i) : Nat) : Int) := by
    intro d
    induction d with
    | zero =>
      intro i n hd hi hn
      have e : l.drop i = [] := List.drop_eq_nil_of_le (by omega)
      rw [e]
      refine Ev.step (f := fun _ => some (n : Int)) (fun k => ?_) (Ev.now _)
      simp only [tract_Size.l0]
      rw [if_neg (by omega)]
    | succ d ihd =>
      intro i n hd hi hn
      have hil : i < l.length := by omega
      rw [List.drop_eq_getElem_cons hil] at hn ⊢
      simp only [szL] at hn ⊢
      refine Ev.step (f := fun k => (tract_Size.f k l[i].f0 l[i].f1 l[i].f2 l[i].f3).bind fun t => tract_Size.l0 k (wrap64 ((n : Int) + t)) l (l.length : Int) ((i + 1 : Nat) : Int)) (fun k => ?_) ?_
      · simp only [tract_Size.l0]
        rw [if_pos (by omega), if_pos (by omega), if_pos (by omega), rd_at l i hil, w_succ i (by omega)]
      · refine Ev.bind (ih l[i] (List.getElem_mem hil) (by omega)) ?_
        have := ihd (i + 1) (n + sz l[i]) (by omega) (by omega) (by omega)
        rw [w_id _ (by omega) (by omega)]
        rw [← Nat.add_assoc]
        exact this
  refine Ev.step (f := fun k => tract_Size.l0 k ((1 : Nat) : Int) l (l.length : Int) ((0 : Nat) : Int)) (fun k => rfl) ?_
  have := H l.length 0 1 (by omega) (by omega) (by simp; omega)
  rw [List.drop_zero, Nat.add_comm] at this
  exact this
theorem ev_dep (x : S24) : sz x ≤ 1000000 → Ev (fun k => tract_Depth.f k x.f0 x.f1 x.f2 x.f3) (dep x : Int) := by
  refine S24_ind (P := fun x => sz x ≤ 1000000 → Ev (fun k => tract_Depth.f k x.f0 x.f1 x.f2 x.f3) (dep x : Int)) (fun x ih => ?_) x
  obtain ⟨kk, a, b, l⟩ := x
  simp only [sz, dep] at *
  intro hs
  have hll := szL_length l
  have hd : ∀ m : List S24, depL m ≤ szL m := fun m => by
    induction m with
    | nil => simp [depL]
    | cons y m ih2 => have := dep_le_sz y; simp only [depL, szL]; omega
  have H : ∀ (d i n : Nat), l.length - i = d → i ≤ l.length → n ≤ 1000000 → Ev (fun k => tract_Depth.l0 k (n : Int) l (l.length : Int) (i : Int)) ((max n (depL (l.drop i)) + 1 : Nat) : Int) := by
    intro d
    induction d with
    | zero =>
      intro i n hd hi hn
      have e : l.drop i = [] := List.drop_eq_nil_of_le (by omega)
      rw [e]
      refine Ev.step (f := fun _ => some ((max n (depL []) + 1 : Nat) : Int)) (fun k => ?_) (Ev.now _)
      simp only [tract_Depth.l0, depL]
      rw [if_neg (by omega), w_id _ (by omega) (by omega)]
      congr 1
      omega
    | succ d ihd =>
      intro i n hd' hi hn
      have hil : i < l.length := by omega
      have hm := szL_mem (List.getElem_mem hil)
      have hds := dep_le_sz l[i]
      rw [List.drop_eq_getElem_cons hil]
      simp only [depL]
      refine Ev.step (f := fun k => (tract_Depth.f k l[i].f0 l[i].f1 l[i].f2 l[i].f3).bind fun t => tract_Depth.l0 k (mx (n : Int) t) l (l.length : Int) ((i + 1 : Nat) : Int)) (fun k => ?_) ?_
      · simp only [tract_Depth.l0]
        rw [if_pos (by omega), if_pos (by omega), if_pos (by omega), rd_at l i hil, w_succ i (by omega)]
      · refine Ev.bind (ih l[i] (List.getElem_mem hil) (by omega)) ?_
        have := ihd (i + 1) (max n (dep l[i])) (by omega) (by omega) (by omega)
        have e : mx (n : Int) (dep l[i] : Int) = ((max n (dep l[i]) : Nat) : Int) := by unfold mx; omega
        rw [e, show max n (max (dep l[i]) (depL (l.drop (i + 1)))) = max (max n (dep l[i])) (depL (l.drop (i + 1))) by omega]
        exact this
  refine Ev.step (f := fun k => tract_Depth.l0 k ((0 : Nat) : Int) l (l.length : Int) ((0 : Nat) : Int)) (fun k => rfl) ?_
  have := H l.length 0 0 (by omega) (by omega) (by omega)
  rw [List.drop_zero, Nat.zero_max] at this
  exact this
end Go.Proofs.Ytpilbomkdafdfaa.Tra
