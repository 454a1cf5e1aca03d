/- Tying subjects and tuples. -/
import Derived.Test.YtmilpfccgggmkaaDoorKaw
namespace Go.Proofs.YtmilpfccgggmkaaDoor.Knt
open Go.RowKit Go.Proofs.YtmilpfccgggmkaaDoorW.PrintWords Go.Proofs.YtmilpfccgggmkaaDoor.Arr
set_option linter.unusedVariables false
set_option linter.unusedSimpArgs false

theorem KPut.next {B : Nat} {S S1 : List Nat} {w w1 w2 : World} {g : Nat} {l2 : List UInt8} (o1 : Only S w w1) (s1 : ∀ k, k ∈ S1 → k ∈ S ∨ w.heap.size ≤ k) (h : KPut B S1 w1 w2 g l2) : KPut B S w w2 g l2 := by
  obtain ⟨S2, k2, o2, s2⟩ := h
  exact ⟨S2, k2, o1.trans o2 s1, fun k hk => by
    rcases s2 k hk with h | h
    · exact s1 k h
    · exact .inr (Nat.le_trans o1.size h)⟩
def firstT (a b c : ByteArray) : Nat → List UInt8
  | 0 => []
  | 1 => textT a
  | 2 => textT a ++ textT b
  | _ => textT a ++ (textT b ++ textT c)
def subT (a b c : ByteArray) : List UInt8 := textT a ++ (textT b ++ textT c)
set_option maxRecDepth 100000 in
theorem textT_ge (s : ByteArray) : s.size ≤ (textT s).length := by
  unfold textT
  have := size_list s
  simp only [List.length_append]
  omega
set_option maxRecDepth 100000 in
theorem three_pick (a b c : ByteArray) (j : Nat) (hj : j < 3) : ∃ t : ByteArray, (t = a ∨ t = b ∨ t = c) ∧ firstT a b c (j + 1) = firstT a b c j ++ textT t ∧
    ∀ w : World, (Instr.index 64 (.agg #[.string a, .string b, .string c]) (.int .i64 (j : Int))).run Tryd.prog w = .ok (.string t) w := by
  match j, hj with
  | 0, _ => exact ⟨a, .inl rfl, by simp [firstT], fun w => by rfl⟩
  | 1, _ => exact ⟨b, .inr (.inl rfl), by simp [firstT], fun w => by rfl⟩
  | 2, _ => exact ⟨c, .inr (.inr rfl), by simp [firstT], fun w => by rfl⟩
theorem firstT_len (a b c : ByteArray) (j : Nat) (ha : a.size < 9007199254740993) (hb : b.size < 9007199254740993) (hc : c.size < 9007199254740993) : (firstT a b c j).length ≤ a.size + b.size + c.size + 90 := by
  have h1 := textT_len a (by omega)
  have h2 := textT_len b (by omega)
  have h3 := textT_len c (by omega)
  match j with
  | 0 => simp [firstT]
  | 1 => simp [firstT]; omega
  | 2 => simp [firstT]; omega
  | _ + 3 => simp [firstT]; omega
set_option maxHeartbeats 4000000 in
set_option maxRecDepth 100000 in
theorem subject_calls (B g : Nat) (l : List UInt8) (S : List Nat) (a b c : ByteArray) (hl : l.length + a.size + b.size + c.size + 200 ≤ 140737488355328) (w : World) (hk : KAt B w g l S) (hP : PowB B w) :
    Calls Tryd.prog 19 #[.pointer (some ⟨g, 0, none⟩), .agg #[.string a, .string b, .string c]] w fun e w' => e = .returned (.tuple #[]) ∧ KPut B S w w' g (l ++ subT a b c) := by
  have b0 : Below w.heap.size w (w.alloc (.cells #[.string a, .string b, .string c] 40)) := (Below.refl _ _).alloc (Nat.le_refl _) _
  have K0 := Aside0.mk (hk.below b0)
  have HK := Aside0.mk hk
  have PB := Aside0.mk hP
  have O0 := Aside0.mk (Only.of_below b0 S)
  clear hk hP b0
  go_enter Tryd.func19, Tryd.ntmps19
  go_wp2
  go_loopw [13] (fun v13 wr => ∃ j : Nat, v13 = .int .i64 (j : Int) ∧ Aside0 (j ≤ 3) ∧ Aside0 (KPut B S w wr g (l ++ firstT a b c j))) (fun v13 _ => 3 - (intOf v13).toNat)
  case atStart => exact ⟨0, rfl, ⟨by omega⟩, ⟨S, by simpa [firstT] using K0.out, O0.out, fun k hk => .inl hk⟩⟩
  case round =>
    obtain ⟨j, rfl, hj, hkp⟩ := hrel
    by_cases hj3 : j < 3
    · have t1 : decide ((j : Int) < 3) = true := decide_eq_true (by omega)
      obtain ⟨t, ht, hf, hix⟩ := three_pick a b c j hj3
      have hts : t.size ≤ a.size + b.size + c.size := by rcases ht with rfl | rfl | rfl <;> omega
      have hfl := firstT_len a b c (j + 1) (by omega) (by omega) (by omega)
      rw [hf, List.length_append] at hfl
      have hge := textT_ge t
      obtain ⟨S1, k1, o1, s1⟩ := hkp.out
      have P1 := PB.out.on (HK.out.belowB o1)
      have KT := Aside0.mk (text_calls B g (l ++ firstT a b c j) S1 t (by omega) (by rw [List.length_append]; omega) wr k1 P1)
      have O1 := Aside0.mk o1
      have S1' := Aside0.mk s1
      have HF := Aside0.mk hf
      clear hkp k1 o1 s1 P1 ht hf hts hfl hge
      go_wp2_with fail
      refine KT.out.mono ?_
      rintro e w2 ⟨rfl, hp⟩
      have HP := Aside0.mk (KPut.next O1.out S1'.out hp)
      clear hp KT
      go_wp2
      go_roundw
      case rel => exact ⟨j + 1, by go_num, ⟨by omega⟩, ⟨by rw [HF.out, ← List.append_assoc]; exact HP.out⟩⟩
      case measure => simp [intOf]; omega
    · have t1 : decide ((j : Int) < 3) = false := decide_eq_false (by omega)
      obtain rfl : j = 3 := by have := hj.out; omega
      go_wp2
      go_end0
      exact ⟨rfl, hkp.out⟩
theorem subT_len (a b c : ByteArray) (ha : a.size < 9007199254740993) (hb : b.size < 9007199254740993) (hc : c.size < 9007199254740993) : (subT a b c).length ≤ a.size + b.size + c.size + 90 := firstT_len a b c 3 ha hb hc
def tupT (a b c d e f : ByteArray) : List UInt8 := subT a b c ++ subT d e f
def sum6 (a b c d e f : ByteArray) : Nat := a.size + b.size + c.size + d.size + e.size + f.size
set_option maxHeartbeats 4000000 in
set_option maxRecDepth 100000 in
theorem tuple_calls (B g : Nat) (l : List UInt8) (S : List Nat) (a b c d e f : ByteArray) (hl : l.length + sum6 a b c d e f + 400 ≤ 140737488355328) (w : World) (hk : KAt B w g l S) (hP : PowB B w) :
    Calls Tryd.prog 20 #[.pointer (some ⟨g, 0, none⟩), .agg #[.string a, .string b, .string c, .string d, .string e, .string f]] w fun z w' => z = .returned (.tuple #[]) ∧ KPut B S w w' g (l ++ tupT a b c d e f) := by
  unfold sum6 at hl
  obtain ⟨W, hW⟩ : ∃ W, w.alloc (.cells #[.string a, .string b, .string c, .string d, .string e, .string f] 42) = W := ⟨_, rfl⟩
  have b0 : Below w.heap.size w W := by rw [← hW]; exact (Below.refl _ _).alloc (Nat.le_refl _) _
  have R0 : Blk W w.heap.size 42 #[.string a, .string b, .string c, .string d, .string e, .string f] := by rw [← hW]; exact Blk.new _ _ _
  have hbs := hk.base
  have k0 := hk.below b0
  have PB := Aside0.mk (hP.on (b0.mono hk.size))
  have O0 := Aside0.mk (Only.of_below b0 S)
  have c0 := R0.cell 0
  have c1 := R0.cell 1
  have c2 := R0.cell 2
  have lt0 := R0.lt
  have K0 := Aside0.mk k0
  have RR := Aside0.mk R0
  have HW := Aside0.mk hW
  have HT := Aside0.mk (show ∀ i, i ∈ [w.heap.size] → i < W.heap.size ∧ i ∉ S from fun i hi => by
    obtain rfl := List.mem_singleton.1 hi
    exact ⟨R0.lt, fun hm => Nat.lt_irrefl _ (hbs _ hm).2⟩)
  clear hk hP b0 R0 k0 hbs
  have s1 := subT_len a b c (by omega) (by omega) (by omega)
  go_enter Tryd.func20, Tryd.ntmps20
  go_wp2_with fail
  refine (subject_calls B g l S a b c (by omega) W K0.out PB.out).mono ?_
  rintro e1 w1 ⟨rfl, hp⟩
  have P1 := Aside0.mk (PB.out.on (KPut.belowB K0.out hp))
  obtain ⟨S1, k1, o1, s1', t1⟩ := hp.take [w.heap.size] HT.out
  have R1 := RR.out.only o1 (HT.out _ (by simp)).2
  have K1 := Aside0.mk k1
  have O1 := Aside0.mk o1
  have SS := Aside0.mk s1'
  clear hp k1 o1 s1' t1 c0 c1 c2 lt0 hW
  have c3 := R1.cell 3
  have c4 := R1.cell 4
  have c5 := R1.cell 5
  have lt1 := R1.lt
  clear R1
  go_wp2_with fail
  refine (subject_calls B g (l ++ subT a b c) S1 d e f (by rw [List.length_append]; omega) w1 K1.out P1.out).mono ?_
  rintro e1 w2 ⟨rfl, hp⟩
  have HP := Aside0.mk (KPut.next O0.out (fun k hk => .inl hk) (KPut.next O1.out SS.out hp))
  clear hp
  go_wp2
  go_end0
  refine ⟨rfl, ?_⟩
  have := HP.out
  rw [List.append_assoc] at this
  exact this
end Go.Proofs.YtmilpfccgggmkaaDoor.Knt
