/- Nodes: what the reference's printed functions of chapter 5 come to. -/
import Derived.Test.YtpilbomkdafdfaaTpl
namespace Go.Proofs.Ytpilbomkdafdfaa.Tra
open Go.RowKit Go.Proofs.YtpilbomkdafdfaaW.PrintWords Go.Proofs.Ytpilbomkdafdfaa.Utf Go.Proofs.Ytpilbomkdafdfaa.PTractRefs
set_option linter.unusedVariables false
set_option linter.unusedSimpArgs false

mutual
def strs : S24 → Nat
  | ⟨_, a, b, l⟩ => max (max a.size b.size) (strsL l)
def strsL : List S24 → Nat
  | [] => 0
  | x :: l => max (strs x) (strsL l)
end
theorem strsL_mem {l : List S24} {y : S24} (h : y ∈ l) : strs y ≤ strsL l := by
  induction l with
  | nil => cases h
  | cons x l ih =>
    simp only [strsL]
    rcases List.mem_cons.1 h with rfl | h
    · omega
    · have := ih h; omega
theorem word_f (s : ByteArray) (hs : s.size ≤ 9223372036854775807) : Ev (fun k => stileref05_Word.f k s) (wordB s) := by
  have hn : Ev (fun k => stileref01_Name.f k s) (nameB s) := Ev.of (stileref01_Name.mono s) (Glr.name_ev s hs)
  refine Ev.congr (f := fun k => (stileref01_Name.f k s).bind fun t => if t = true then (if s.toList = ([116, 121, 112, 101] : List UInt8) then (some false) else (if s.toList = ([114, 101, 108] : List UInt8) then (some false) else (some (s.toList != ([116, 104, 105, 115] : List UInt8))))) else (some false)) (fun k => rfl) ?_
  refine Ev.bind hn ?_
  have e : (if nameB s = true then (if s.toList = ([116, 121, 112, 101] : List UInt8) then (some false) else (if s.toList = ([114, 101, 108] : List UInt8) then (some false) else (some (s.toList != ([116, 104, 105, 115] : List UInt8))))) else (some false)) = some (wordB s) := by
    unfold wordB
    cases nameB s
    · rfl
    · simp only [if_true, Bool.true_and]
      by_cases h1 : s.toList = [116, 121, 112, 101]
      · rw [if_pos h1, h1]; rfl
      · rw [if_neg h1]
        by_cases h2 : s.toList = [114, 101, 108]
        · rw [if_pos h2, h2]; rfl
        · rw [if_neg h2, bne_iff_ne.2 h1, bne_iff_ne.2 h2]; rfl
  rw [e]
  exact Ev.now _
theorem noB_iff (s : ByteArray) : noB s = true ↔ s.toList = ([] : List UInt8) := by unfold noB; simp
theorem if_no (s : ByteArray) (x : Option Bool) (b : Bool) (hx : x = some b) : (if s.toList = ([] : List UInt8) then x else some false) = some (noB s && b) := by
  subst hx
  by_cases h : s.toList = []
  · rw [if_pos h, (noB_iff s).2 h]; rfl
  · rw [if_neg h]
    cases hn : noB s with
    | false => rfl
    | true => exact absurd ((noB_iff s).1 hn) h
theorem ev_shape (kk : Int) (a b : ByteArray) (l : List S24) (ha : a.size ≤ 9223372036854775807) (hb : b.size ≤ 9223372036854775807) (n : Int) (hn : ¬ n < (l.length : Int)) :
    Ev (fun k => stileref05_Good.l0 k (l.length : Int) n kk a b l) (shapeB kk a b l.length) := by
  have hz : ((l.length : Int) == 0) = (l.length == 0) := by
    rw [Bool.eq_iff_iff]; simp
  have h2 : ((l.length : Int) == 2) = (l.length == 2) := by
    rw [Bool.eq_iff_iff]; simp; omega
  have hg : decide ((l.length : Int) ≥ 2) = decide (2 ≤ l.length) := by rw [decide_eq_decide]; omega
  by_cases k1 : kk = 1
  · subst k1
    refine Ev.step (f := fun _ => some (shapeB 1 a b l.length)) (fun k => ?_) (Ev.now _)
    simp only [stileref05_Good.l0]
    rw [if_neg hn, if_pos trivial, if_no a _ _ (if_no b _ _ rfl), hz]
    rfl
  by_cases k2 : kk = 2
  · subst k2
    refine Ev.step (f := fun k => (stileref05_Word.f k a).bind fun t => if t = true then some (noB b && l.length == 0) else some false) (fun k => ?_) (Ev.bind (word_f a ha) ?_)
    · simp only [stileref05_Good.l0]
      rw [if_neg hn, if_neg (by decide), if_pos trivial, if_no b _ _ rfl, hz]
    · have e2 : shapeB 2 a b l.length = (wordB a && (noB b && l.length == 0)) := by
        unfold shapeB
        rw [if_neg (by decide), if_pos rfl]
      have : (if wordB a = true then some (noB b && l.length == 0) else some false) = some (shapeB 2 a b l.length) := by
        rw [e2]
        cases wordB a <;> rfl
      rw [this]
      exact Ev.now _
  by_cases k3 : kk = 3
  · subst k3
    refine Ev.step (f := fun k => (stileref05_Word.f k a).bind fun t => if t = true then ((stileref05_Word.f k b).bind fun t => if t = true then some (l.length == 0) else some false) else some false) (fun k => ?_) (Ev.bind (word_f a ha) ?_)
    · simp only [stileref05_Good.l0]
      rw [if_neg hn, if_neg (by decide), if_neg (by decide), if_pos trivial, hz]
    · have e3 : shapeB 3 a b l.length = (wordB a && (wordB b && l.length == 0)) := by
        unfold shapeB
        rw [if_neg (by decide), if_neg (by decide), if_pos rfl]
      rw [e3]
      cases wordB a with
      | false => exact Ev.now _
      | true =>
        refine Ev.congr (f := fun k => (stileref05_Word.f k b).bind fun t => if t = true then some (l.length == 0) else some false) (fun k => by rw [if_pos rfl]) (Ev.bind (word_f b hb) ?_)
        have : (if wordB b = true then some (l.length == 0) else some false) = some (true && (wordB b && l.length == 0)) := by cases wordB b <;> rfl
        rw [this]
        exact Ev.now _
  have J : ∀ x68 : Bool, (x68 = true ↔ kk = 4 ∨ kk = 5) → Ev (fun k => stileref05_Good.j1 k kk x68 kk a b l) (shapeB kk a b l.length) := by
    intro x68 hx
    refine Ev.step (f := fun _ => some (shapeB kk a b l.length)) (fun k => ?_) (Ev.now _)
    simp only [stileref05_Good.j1]
    unfold shapeB
    rw [if_neg k1, if_neg k2, if_neg k3]
    by_cases h45 : kk = 4 ∨ kk = 5
    · rw [if_pos (hx.2 h45), if_pos h45, if_no a _ _ (if_no b _ _ rfl), hg]
    · rw [if_neg (fun h => h45 (hx.1 h)), if_neg h45]
      by_cases k6 : kk = 6
      · rw [if_pos k6, if_pos k6, if_no a _ _ (if_no b _ _ rfl), h2]
      · rw [if_neg k6, if_neg k6]
  by_cases k4 : kk = 4
  · refine Ev.step (f := fun k => stileref05_Good.j1 k kk (kk == 4) kk a b l) (fun k => ?_) (J _ (by simp [k4]))
    simp only [stileref05_Good.l0]
    rw [if_neg hn, if_neg k1, if_neg k2, if_neg k3, if_pos k4]
  · refine Ev.step (f := fun k => stileref05_Good.j1 k kk (kk == 5) kk a b l) (fun k => ?_) (J _ (by simp [k4]))
    simp only [stileref05_Good.l0]
    rw [if_neg hn, if_neg k1, if_neg k2, if_neg k3, if_neg k4]
theorem ev_good (x : S24) : sz x ≤ 1000000 → strs x ≤ 9223372036854775807 → Ev (fun k => stileref05_Good.f k x.f0 x.f1 x.f2 x.f3) (goodB x) := by
  refine S24_ind (P := fun x => sz x ≤ 1000000 → strs x ≤ 9223372036854775807 → Ev (fun k => stileref05_Good.f k x.f0 x.f1 x.f2 x.f3) (goodB x)) (fun x ih => ?_) x
  obtain ⟨kk, a, b, l⟩ := x
  simp only [sz, strs, goodB] at *
  intro hs ht
  have hll := szL_length l
  have H : ∀ (d i : Nat), l.length - i = d → i ≤ l.length → Ev (fun k => stileref05_Good.l0 k (l.length : Int) (i : Int) kk a b l) (goodL (l.drop i) && shapeB kk a b l.length) := by
    intro d
    induction d with
    | zero =>
      intro i hd hi
      have e : l.drop i = [] := List.drop_eq_nil_of_le (by omega)
      rw [e]
      exact ev_shape kk a b l (by omega) (by omega) _ (by omega)
    | succ d ihd =>
      intro i hd hi
      have hil : i < l.length := by omega
      have hm := szL_mem (List.getElem_mem hil)
      have hm2 := strsL_mem (List.getElem_mem hil)
      rw [List.drop_eq_getElem_cons hil]
      simp only [goodL]
      refine Ev.step (f := fun k => (stileref05_Good.f k l[i].f0 l[i].f1 l[i].f2 l[i].f3).bind fun t => if t = true then stileref05_Good.l0 k (l.length : Int) ((i + 1 : Nat) : Int) kk a b l else some false) (fun k => ?_) ?_
      · simp only [stileref05_Good.l0]
        rw [if_pos (by omega), if_pos (by omega), if_pos (by omega), rd_at l i hil, w_succ i (by omega)]
      · refine Ev.bind (ih l[i] (List.getElem_mem hil) (by omega) (by omega)) ?_
        cases goodB l[i] with
        | false => exact Ev.now _
        | true => exact ihd (i + 1) (by omega) (by omega)
  refine Ev.step (f := fun k => stileref05_Good.l0 k (l.length : Int) ((0 : Nat) : Int) kk a b l) (fun k => rfl) ?_
  have := H l.length 0 (by omega) (by omega)
  rw [List.drop_zero] at this
  exact this

/-! ### Refs, Direct -/
theorem refs_len (x : S24) : ∀ odd, (refs x odd).length ≤ sz x := by
  refine S24_ind (P := fun x => ∀ odd, (refs x odd).length ≤ sz x) (fun x ih => ?_) x
  obtain ⟨kk, a, b, l⟩ := x
  simp only [sz, refs] at *
  intro odd
  have H : ∀ i, (refsL kk l odd i).length ≤ szL l := by
    induction l with
    | nil => intro i; simp [refsL]
    | cons y l ih2 =>
      intro i
      have h1 := ih y (by simp) (odd != flip kk i)
      have h2 := ih2 (fun z hz => ih z (by simp [hz])) (i + 1)
      simp only [refsL, szL, List.length_append]
      omega
  split
  · simp
  · split
    · simp
    · have := H 0; omega
theorem refsL_len (kk : Int) (l : List S24) (odd : Bool) : ∀ i, (refsL kk l odd i).length ≤ szL l := by
  induction l with
  | nil => intro i; simp [refsL]
  | cons y l ih2 =>
    intro i
    have h1 := refs_len y (odd != flip kk i)
    have h2 := ih2 (i + 1)
    simp only [refsL, szL, List.length_append]
    omega
theorem ev_refs (x : S24) : sz x ≤ 1000000 → ∀ odd, Ev (fun k => stileref05_Refs.f k x.f0 x.f1 x.f2 x.f3 odd) (refs x odd) := by
  refine S24_ind (P := fun x => sz x ≤ 1000000 → ∀ odd, Ev (fun k => stileref05_Refs.f k x.f0 x.f1 x.f2 x.f3 odd) (refs x odd)) (fun x ih => ?_) x
  obtain ⟨kk, a, b, l⟩ := x
  simp only [sz, refs] at *
  intro hs odd
  have hll := szL_length l
  have H : ∀ (d i : Nat) (acc : List S41), l.length - i = d → i ≤ l.length → acc.length + szL (l.drop i) ≤ 1000000 → Ev (fun k => stileref05_Refs.l0 k odd acc (l.length : Int) (i : Int) kk a b l) (acc ++ refsL kk (l.drop i) odd i) := by
    intro d
    induction d with
    | zero =>
      intro i acc hd hi hn
      have e : l.drop i = [] := List.drop_eq_nil_of_le (by omega)
      rw [e]
      simp only [refsL, List.append_nil]
      refine Ev.step (f := fun _ => some acc) (fun k => ?_) (Ev.now _)
      simp only [stileref05_Refs.l0]
      rw [if_neg (by omega)]
    | succ d ihd =>
      intro i acc hd hi hn
      have hil : i < l.length := by omega
      rw [List.drop_eq_getElem_cons hil] at hn ⊢
      simp only [szL] at hn
      simp only [refsL]
      have hrl := refs_len l[i] (odd != flip kk i)
      refine Ev.step (f := fun k => (stileref05_Refs.f k l[i].f0 l[i].f1 l[i].f2 l[i].f3 (odd != flip kk i)).bind fun t => if acc.length + t.length < 3518437208883 then stileref05_Refs.l0 k odd (acc ++ t) (l.length : Int) ((i + 1 : Nat) : Int) kk a b l else none) (fun k => ?_) ?_
      · simp only [stileref05_Refs.l0]
        rw [if_pos (by omega), if_pos (by omega), if_pos (by omega), rd_at l i hil, w_succ i (by omega)]
        by_cases k6 : kk = 6
        · rw [if_pos k6]
          have : (((i : Int) == 1) : Bool) = flip kk i := by
            unfold flip
            rw [k6, Bool.eq_iff_iff]
            simp
            omega
          rw [this]
        · rw [if_neg k6]
          have : false = flip kk i := by
            unfold flip
            have : (kk == 6) = false := beq_eq_false_iff_ne.2 k6
            rw [this]
            rfl
          rw [this]
      · refine Ev.bind (ih l[i] (List.getElem_mem hil) (by have := szL_mem (List.getElem_mem hil); omega) _) ?_
        rw [← List.append_assoc]
        refine Ev.congr (fun k => if_pos (by omega)) ?_
        exact ihd (i + 1) _ (by omega) (by omega) (by rw [List.length_append]; omega)
  by_cases k2 : kk = 2
  · rw [if_pos k2]
    refine Ev.step (f := fun _ => some [(⟨e0, a, odd⟩ : S41)]) (fun k => ?_) (Ev.now _)
    simp only [stileref05_Refs.f]
    rw [if_pos k2]
    rfl
  · rw [if_neg k2]
    by_cases k3 : kk = 3
    · rw [if_pos k3]
      refine Ev.step (f := fun _ => some [(⟨a, b, odd⟩ : S41)]) (fun k => ?_) (Ev.now _)
      simp only [stileref05_Refs.f]
      rw [if_neg k2, if_pos k3]
    · rw [if_neg k3]
      refine Ev.step (f := fun k => stileref05_Refs.l0 k odd [] (l.length : Int) ((0 : Nat) : Int) kk a b l) (fun k => ?_) ?_
      · simp only [stileref05_Refs.f]
        rw [if_neg k2, if_neg k3]
        rfl
      · have := H l.length 0 [] (by omega) (by omega) (by simp; omega)
        rw [List.drop_zero] at this
        exact this
theorem ev_dir (x : S24) : sz x ≤ 1000000 → ∀ odd own, Ev (fun k => stileref05_Direct.f k x.f0 x.f1 x.f2 x.f3 odd own) (dir x odd own) := by
  refine S24_ind (P := fun x => sz x ≤ 1000000 → ∀ odd own, Ev (fun k => stileref05_Direct.f k x.f0 x.f1 x.f2 x.f3 odd own) (dir x odd own)) (fun x ih => ?_) x
  obtain ⟨kk, a, b, l⟩ := x
  simp only [sz, dir] at *
  intro hs odd own
  have hll := szL_length l
  have H : ∀ (d i : Nat), l.length - i = d → i ≤ l.length → Ev (fun k => stileref05_Direct.l0 k odd own (l.length : Int) (i : Int) kk a b l) (dirL kk (l.drop i) odd own i || (kk == 1 && odd == own)) := by
    intro d
    induction d with
    | zero =>
      intro i hd hi
      have e : l.drop i = [] := List.drop_eq_nil_of_le (by omega)
      rw [e]
      simp only [dirL, Bool.false_or]
      refine Ev.step (f := fun _ => some (kk == 1 && odd == own)) (fun k => ?_) (Ev.now _)
      simp only [stileref05_Direct.l0]
      rw [if_neg (by omega)]
      by_cases k1 : kk = 1
      · rw [if_pos k1]; simp [k1]
      · rw [if_neg k1]; simp [k1]
    | succ d ihd =>
      intro i hd hi
      have hil : i < l.length := by omega
      rw [List.drop_eq_getElem_cons hil]
      simp only [dirL]
      refine Ev.step (f := fun k => (stileref05_Direct.f k l[i].f0 l[i].f1 l[i].f2 l[i].f3 odd (own != flip kk i)).bind fun t => if t = true then some true else stileref05_Direct.l0 k odd own (l.length : Int) ((i + 1 : Nat) : Int) kk a b l) (fun k => ?_) ?_
      · simp only [stileref05_Direct.l0]
        rw [if_pos (by omega), if_pos (by omega), if_pos (by omega), rd_at l i hil, w_succ i (by omega)]
        by_cases k6 : kk = 6
        · rw [if_pos k6]
          have : (((i : Int) == 1) : Bool) = flip kk i := by
            unfold flip
            rw [k6, Bool.eq_iff_iff]
            simp
            omega
          rw [this]
        · rw [if_neg k6]
          have : false = flip kk i := by
            unfold flip
            have : (kk == 6) = false := beq_eq_false_iff_ne.2 k6
            rw [this]
            rfl
          rw [this]
      · refine Ev.bind (ih l[i] (List.getElem_mem hil) (by have := szL_mem (List.getElem_mem hil); omega) _ _) ?_
        cases dir l[i] odd (own != flip kk i) with
        | true => exact Ev.now _
        | false => exact ihd (i + 1) (by omega) (by omega)
  refine Ev.step (f := fun k => stileref05_Direct.l0 k odd own (l.length : Int) ((0 : Nat) : Int) kk a b l) (fun k => rfl) ?_
  have := H l.length 0 (by omega) (by omega)
  rw [List.drop_zero] at this
  exact this
end Go.Proofs.Ytpilbomkdafdfaa.Tra
