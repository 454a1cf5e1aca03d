/- The program's tract: Word, Good. -/
import Derived.Test.YtpilbomkdafdfaaTpm
import Derived.Test.YtpilbomkdafdfaaTnm
import Derived.Test.YtpilbomkdafdfaaQy
import Derived.IntWalk
namespace Go.Proofs.Ytpilbomkdafdfaa.Tra
open Go.RowKit Go.Proofs.YtpilbomkdafdfaaW.PrintWords Go.Proofs.YtpilbomkdafdfaaW.PrintLast Go.Proofs.YtpilbomkdafdfaaW.PrintMore Go.Proofs.Ytpilbomkdafdfaa.Arr Go.Proofs.Ytpilbomkdafdfaa.Utf Go.Proofs.Ytpilbomkdafdfaa.PTractRefs
set_option linter.unusedVariables false
set_option linter.unusedSimpArgs false

abbrev TN : TypeId := 24
theorem word_calls (s : ByteArray) (hs : s.size ≤ 9223372036854775807) (w : World) :
    Calls Try.prog 32 #[.string s] w fun e w' => e = .returned (.bool (wordB s)) ∧ Below w.heap.size w w' := by
  have KN := Aside0.mk (Gly.name_calls s hs w)
  have key : nameB s = false ∨ (nameB s = true ∧ (s.toList = [116, 121, 112, 101] ∨ (s.toList ≠ [116, 121, 112, 101] ∧ (s.toList = [114, 101, 108] ∨ (s.toList ≠ [114, 101, 108] ∧ (s.toList = [116, 104, 105, 115] ∨ s.toList ≠ [116, 104, 105, 115])))))) := by
    cases nameB s
    · exact .inl rfl
    · refine .inr ⟨rfl, ?_⟩
      by_cases h1 : s.toList = [116, 121, 112, 101]
      · exact .inl h1
      · refine .inr ⟨h1, ?_⟩
        by_cases h2 : s.toList = [114, 101, 108]
        · exact .inl h2
        · refine .inr ⟨h2, ?_⟩
          by_cases h3 : s.toList = [116, 104, 105, 115]
          · exact .inl h3
          · exact .inr h3
  unfold wordB
  obtain ⟨nb, hnb⟩ : ∃ nb, nameB s = nb := ⟨_, rfl⟩
  rw [hnb] at KN key ⊢
  clear hnb
  rcases key with rfl | ⟨rfl, h1 | ⟨h1, h2 | ⟨h2, h3 | h3⟩⟩⟩
  all_goals
    go_enter Try.func32, Try.ntmps32
    go_wp2_with fail
    refine KN.out.mono ?_
    rintro e w1 ⟨rfl, b1⟩
    have B1 := Aside0.mk b1
    clear b1 KN
    go_wp2
    go_ret
    refine ⟨?_, B1.out⟩
    first | rfl | (simp [*]; done) | (rw [h1]; rfl) | (show Ending.returned (.bool (!(s.toList == [116, 121, 112, 101]) && !(s.toList == [114, 101, 108]) && !(s.toList == [116, 104, 105, 115]))) = _; rw [Bool.true_and, Bool.and_assoc]; rfl)
theorem word_as (b : Bool) (s : ByteArray) (hb : wordB s = b) (hs : s.size ≤ 9223372036854775807) (w : World) :
    Calls Try.prog 32 #[.string s] w fun e w' => e = .returned (.bool b) ∧ Below w.heap.size w w' := by rw [← hb]; exact word_calls s hs w

/-! ### Good -/
abbrev nodeA (x : S24) (A : Option Addr) (c : Nat) : Array Value := #[.int .i64 x.f0, .string x.f1, .string x.f2, .slice A x.f3.length c]
def GoodAt (x : S24) : Prop := ∀ (A : Option Addr) (c : Nat) (w : World), Kd.C k24 w A x.f3.length x.f3 → x.f3.length ≤ c →
  Calls Try.prog 17 #[.agg (nodeA x A c)] w fun e w' => e = .returned (.bool (goodB x)) ∧ Below w.heap.size w w'
def IdxPost (b : Bool) (w : World) (e : Ending) (w' : World) : Prop := ∃ n : Int, e = .returned (.int .i64 n) ∧ decide (n ≥ 0) = !b ∧ Below w.heap.size w w'
theorem goodL_take (l : List S24) (i : Nat) (h : i < l.length) : goodL (l.take (i + 1)) = (goodL (l.take i) && goodB l[i]) := by
  induction l generalizing i with
  | nil => simp at h
  | cons x l ih =>
    cases i with
    | zero => simp [goodL]
    | succ i =>
      simp only [List.take_succ_cons, goodL, List.getElem_cons_succ]
      rw [ih i (by simpa using h), Bool.and_assoc]
theorem goodL_mem (l : List S24) (i : Nat) (h : i < l.length) (hb : goodB l[i] = false) : goodL l = false := by
  induction l generalizing i with
  | nil => simp at h
  | cons x l ih =>
    cases i with
    | zero => simp only [List.getElem_cons_zero] at hb; simp [goodL, hb]
    | succ i => simp only [goodL, ih i (by simpa using h) (by simpa using hb), Bool.and_false]
set_option maxHeartbeats 4000000 in
set_option maxRecDepth 100000 in
theorem good1_calls (x : S24) (hg : GoodAt x) (A : Option Addr) (c : Nat) (w : World) (hC : Kd.C k24 w A x.f3.length x.f3) (hc : x.f3.length ≤ c) :
    Calls Try.prog 34 #[.agg (nodeA x A c)] w fun e w' => e = .returned (.bool (!goodB x)) ∧ Below w.heap.size w w' := by
  have b0 : Below w.heap.size w (w.alloc (.cells (nodeA x A c) TN)) := (Below.refl _ _).alloc (Nat.le_refl _) _
  have B0 := Aside0.mk b0
  have KG := Aside0.mk (hg A c _ (Kd.C_below hC b0) hc)
  clear hC hg b0
  go_enter Try.func34, Try.ntmps34
  go_wp2_with fail
  refine KG.out.mono ?_
  rintro e w1 ⟨rfl, b1⟩
  have B1 := Aside0.mk (B0.out.trans (b1.mono B0.out.size))
  clear b1 KG
  go_wp2
  go_ret
  exact ⟨rfl, B1.out⟩
set_option maxHeartbeats 8000000 in
set_option maxRecDepth 100000 in
theorem index_calls (xs : List S24) (hx : ∀ x, x ∈ xs → GoodAt x) (A : Option Addr) (c : Nat) (w : World) (hC : Kd.C k24 w A xs.length xs) (hc : xs.length ≤ c) :
    Calls Try.prog 40 #[.slice A xs.length c, .func (.func 34) #[] #[]] w (IdxPost (goodL xs) w) := by
  have hu24 := Try.underlying24
  have hmx := Kd.C_max hC
  have HC := Aside0.mk hC
  have HX := Aside0.mk hx
  clear hC hx
  go_enter Try.func40, Try.ntmps40
  go_wp2
  go_loopw [8] (fun v8 wr => ∃ i : Nat, v8 = .int .i64 (i : Int) ∧ Aside0 (i ≤ xs.length) ∧ Aside0 (goodL (xs.take i) = true) ∧ Aside0 (Below w.heap.size w wr)) (fun v8 _ => xs.length - (intOf v8).toNat)
  case atStart => exact ⟨0, rfl, ⟨Nat.zero_le _⟩, ⟨rfl⟩, ⟨Below.refl _ _⟩⟩
  case round =>
    obtain ⟨i, rfl, hin, hgd, hb⟩ := hrel
    by_cases hi : i < xs.length
    · have t1 : decide ((i : Int) < (xs.length : Int)) = true := decide_eq_true (by omega)
      have h0 : (0 : Int) ≤ (i : Int) := by omega
      have h1 : (i : Int) < (xs.length : Int) := by omega
      obtain ⟨ad, A3, c3, eA, x0, x1, x2, x3, l3, g3⟩ := at_T24 (Kd.C_below HC.out hb.out) (i : Int) h0 h1
      cases eA
      have hrd := rd_at xs i hi
      have hgx := HX.out xs[i] (List.getElem_mem hi)
      have htk := goodL_take xs i hi
      have hno := goodL_mem xs i hi
      rw [hrd] at x0 x1 x2 x3 l3 g3
      rw [Int.toNat_natCast] at x0 x1 x2 x3
      generalize hxx : xs[i] = x at *
      have KG := Aside0.mk (good1_calls x hgx A3 c3 wr g3 l3)
      have p0 := eq_true h0
      have p1 := eq_true h1
      have HTK := Aside0.mk htk
      have HNO := Aside0.mk hno
      clear hrd hgx htk hno hxx g3 l3
      go_wp2_with fail
      clear x0 x1 x2 x3
      refine KG.out.mono ?_
      rintro e w1 ⟨rfl, b1⟩
      have B1 := Aside0.mk (hb.out.trans (b1.mono hb.out.size))
      clear b1 KG hb
      cases hgb : goodB x with
      | false =>
        have hf := HNO.out hgb
        have HF := Aside0.mk hf
        clear hf hgb
        go_wp2
        go_ret
        exact ⟨(i : Int), rfl, by rw [HF.out]; exact decide_eq_true (by omega), B1.out⟩
      | true =>
        have HT := Aside0.mk (show goodL (xs.take (i + 1)) = true by rw [HTK.out, hgd.out, hgb]; rfl)
        have hw : IntKind.i64.wrap ((i : Int) + 1) = ((i + 1 : Nat) : Int) := by rw [show ((i : Int) + 1) = ((i + 1 : Nat) : Int) by omega]; exact IntWalk.i64_in _ (by omega)
        clear hgb
        go_wp2
        go_roundw
        case rel => exact ⟨i + 1, by first | rfl | (rw [hw]) | go_num | simp [hw], ⟨by omega⟩, HT, B1⟩
        case measure => simp [intOf, hw]; omega
    · have t1 : decide ((i : Int) < (xs.length : Int)) = false := decide_eq_false (by omega)
      have e1 : i = xs.length := by have := hin.out; omega
      subst e1
      have hg := hgd.out
      rw [List.take_length] at hg
      have HG := Aside0.mk hg
      clear hg hgd
      go_wp2
      go_ret
      exact ⟨-1, rfl, by rw [HG.out]; rfl, hb.out⟩
set_option maxHeartbeats 4000000 in
theorem contains_calls (xs : List S24) (hx : ∀ x, x ∈ xs → GoodAt x) (A : Option Addr) (c : Nat) (w : World) (hC : Kd.C k24 w A xs.length xs) (hc : xs.length ≤ c) :
    Calls Try.prog 33 #[.slice A xs.length c, .func (.func 34) #[] #[]] w fun e w' => e = .returned (.bool (!goodL xs)) ∧ Below w.heap.size w w' := by
  have KI := Aside0.mk (index_calls xs hx A c w hC hc)
  clear hC hx
  go_enter Try.func33, Try.ntmps33
  go_wp2_with fail
  refine KI.out.mono ?_
  rintro e w1 ⟨n, rfl, hn, b1⟩
  have B1 := Aside0.mk b1
  clear b1 KI
  go_wp2
  go_ret
  exact ⟨rfl, B1.out⟩
end Go.Proofs.Ytpilbomkdafdfaa.Tra
