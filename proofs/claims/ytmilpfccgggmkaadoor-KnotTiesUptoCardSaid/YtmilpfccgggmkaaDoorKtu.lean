/- Tying a list of tuples. -/
import Derived.Test.YtmilpfccgggmkaaDoorKsb
import Derived.Test.YtmilpfccgggmkaaDoorPkt
namespace Go.Proofs.YtmilpfccgggmkaaDoor.Knt
open Go.RowKit Go.Proofs.YtmilpfccgggmkaaDoorW.PrintWords Go.Proofs.YtmilpfccgggmkaaDoorW.PrintLast Go.Proofs.YtmilpfccgggmkaaDoorW.PrintMore Go.Proofs.YtmilpfccgggmkaaDoor.Arr Go.Proofs.YtmilpfccgggmkaaDoor.PKnotTies
set_option linter.unusedVariables false
set_option linter.unusedSimpArgs false

def tupS (x : S42) : List UInt8 := tupT x.f0 x.f1 x.f2 x.f3.f0 x.f3.f1 x.f3.f2
def sizeS (x : S42) : Nat := sum6 x.f0 x.f1 x.f2 x.f3.f0 x.f3.f1 x.f3.f2
def total : List S42 → Nat
  | [] => 0
  | x :: xs => sizeS x + total xs
def flatS : List S42 → List UInt8
  | [] => []
  | x :: xs => tupS x ++ flatS xs
def tuplesT (xs : List S42) : List UInt8 := numT xs.length ++ flatS xs
theorem tupS_ge (x : S42) : sizeS x ≤ (tupS x).length := by
  have h0 := textT_ge x.f0
  have h1 := textT_ge x.f1
  have h2 := textT_ge x.f2
  have h3 := textT_ge x.f3.f0
  have h4 := textT_ge x.f3.f1
  have h5 := textT_ge x.f3.f2
  unfold sizeS sum6 tupS tupT subT
  simp only [List.length_append]
  omega
theorem tupS_len (x : S42) (h : sizeS x < 9007199254740993) : (tupS x).length ≤ sizeS x + 180 := by
  unfold sizeS sum6 at h
  have h0 := subT_len x.f0 x.f1 x.f2 (by omega) (by omega) (by omega)
  have h1 := subT_len x.f3.f0 x.f3.f1 x.f3.f2 (by omega) (by omega) (by omega)
  unfold sizeS sum6 tupS tupT
  simp only [List.length_append]
  omega
theorem flatS_append (xs ys : List S42) : flatS (xs ++ ys) = flatS xs ++ flatS ys := by
  induction xs with
  | nil => rfl
  | cons x xs ih => simp [flatS, ih]
theorem flatS_len (xs : List S42) (h : total xs < 9007199254740993) : (flatS xs).length ≤ total xs + 180 * xs.length := by
  induction xs with
  | nil => simp [flatS]
  | cons x xs ih =>
    simp only [total] at h
    have h1 := tupS_len x (by omega)
    have h2 := ih (by omega)
    simp only [flatS, total, List.length_append, List.length_cons]
    omega
theorem flatS_take (xs : List S42) (i : Nat) (hi : i < xs.length) : flatS (xs.take (i + 1)) = flatS (xs.take i) ++ tupS xs[i] := by
  rw [← List.take_append_getElem hi, flatS_append]
  simp [flatS]
theorem flatS_take_len (xs : List S42) (i : Nat) : (flatS (xs.take i)).length ≤ (flatS xs).length := by
  have h : flatS xs = flatS (xs.take i) ++ flatS (xs.drop i) := by rw [← flatS_append, List.take_append_drop]
  rw [h, List.length_append]
  omega
theorem rd_at (xs : List S42) (i : Int) (h0 : 0 ≤ i) (h1 : i < (xs.length : Int)) : ∃ h : i.toNat < xs.length, rd_T42 xs i = xs[i.toNat] := by
  have h : i.toNat < xs.length := by omega
  exact ⟨h, by unfold rd_T42; simp [List.getD, List.getElem?_eq_getElem h]⟩
set_option maxHeartbeats 8000000 in
set_option maxRecDepth 100000 in
theorem tuples_calls (w0 : World) (A : Option Addr) (c : Nat) (xs : List S42) (hC : Kd.C k42 w0 A xs.length xs) (hc : xs.length ≤ c) (g : Nat) (l : List UInt8) (S : List Nat)
    (hn : xs.length ≤ 9007199254740992) (hl : l.length + (flatS xs).length + 900 ≤ 140737488355328) (w : World) (hb0 : Below w0.heap.size w0 w) (hk : KAt w0.heap.size w g l S) (hP : PowB w0.heap.size w) :
    Calls Tryd.prog 15 #[.pointer (some ⟨g, 0, none⟩), .slice A xs.length c] w fun e w' => e = .returned (.tuple #[]) ∧ KPut w0.heap.size S w w' g (l ++ tuplesT xs) := by
  have HC := Aside0.mk hC
  have HCC := Aside0.mk hc
  have PB := Aside0.mk hP
  have HK := Aside0.mk hk
  have HB := Aside0.mk hb0
  have hnl := numT_len xs.length (by omega)
  have KN := Aside0.mk (number_calls w0.heap.size g l S xs.length hn (by omega) w hk hP)
  have hu42 := Tryd.underlying42
  clear hC hc hP hk hb0
  go_enter Tryd.func15, Tryd.ntmps15
  go_wp2_with fail
  refine KN.out.mono ?_
  rintro e w1 ⟨rfl, hp1⟩
  have HP1 := Aside0.mk hp1
  clear hp1 KN
  go_wp2
  go_loopw [12] (fun v12 wr => ∃ i : Int, v12 = .int .i64 i ∧ 0 ≤ i ∧ i ≤ (xs.length : Int) ∧ Aside0 (KPut w0.heap.size S w wr g (l ++ (numT xs.length ++ flatS (xs.take i.toNat))))) (fun v12 _ => xs.length - (intOf v12).toNat)
  case atStart => exact ⟨0, rfl, by omega, by omega, ⟨by simpa [flatS] using HP1.out⟩⟩
  case round =>
    obtain ⟨i, rfl, hi0, hin, hkp⟩ := hrel
    by_cases hi : i < (xs.length : Int)
    · have t1 : decide (i < (xs.length : Int)) = true := decide_eq_true hi
      obtain ⟨hit, hrd⟩ := rd_at xs i hi0 hi
      obtain ⟨ad, eA, hx0, hx1, hx2, hx3, hx4, hx5⟩ := at_T42 HC.out i hi0 hi
      cases eA
      obtain ⟨S1, k1, o1, s1⟩ := hkp.out
      have hbr := HB.out.trans (HK.out.belowB o1)
      replace hx0 := (hbr.cell (World.block_lt_of_cell? w0 _ hx0)).trans hx0
      replace hx1 := (hbr.cell (World.block_lt_of_cell? w0 _ hx1)).trans hx1
      replace hx2 := (hbr.cell (World.block_lt_of_cell? w0 _ hx2)).trans hx2
      replace hx3 := (hbr.cell (World.block_lt_of_cell? w0 _ hx3)).trans hx3
      replace hx4 := (hbr.cell (World.block_lt_of_cell? w0 _ hx4)).trans hx4
      replace hx5 := (hbr.cell (World.block_lt_of_cell? w0 _ hx5)).trans hx5
      generalize hxx : rd_T42 xs i = x at *
      have hft := flatS_take xs i.toNat hit
      rw [← hrd] at hft
      have hfl := flatS_take_len xs (i.toNat + 1)
      rw [hft, List.length_append] at hfl
      have hge := tupS_ge x
      obtain ⟨W, hW⟩ : ∃ W, wr.alloc (.cells #[.string x.f0, .string x.f1, .string x.f2, .string x.f3.f0, .string x.f3.f1, .string x.f3.f2] 42) = W := ⟨_, rfl⟩
      have b0 : Below wr.heap.size wr W := by rw [← hW]; exact (Below.refl _ _).alloc (Nat.le_refl _) _
      have RW : Blk W wr.heap.size 42 #[.string x.f0, .string x.f1, .string x.f2, .string x.f3.f0, .string x.f3.f1, .string x.f3.f2] := by rw [← hW]; exact Blk.new _ _ _
      have y0 := RW.cell 0
      have y1 := RW.cell 1
      have y2 := RW.cell 2
      have y3 := RW.cell 3
      have y4 := RW.cell 4
      have y5 := RW.cell 5
      have ylt := RW.lt
      clear RW
      have KT := Aside0.mk (tuple_calls w0.heap.size g (l ++ (numT xs.length ++ flatS (xs.take i.toNat))) S1 x.f0 x.f1 x.f2 x.f3.f0 x.f3.f1 x.f3.f2 (by unfold sizeS at hge; simp only [List.length_append]; omega) W (k1.below b0) ((PB.out.on (HK.out.belowB o1)).on (b0.mono (KAt.size k1))))
      have OW := Aside0.mk (o1.step b0)
      have SS := Aside0.mk s1
      have HF := Aside0.mk hft
      have p0 := eq_true hi0
      have p1 := eq_true hi
      clear hkp k1 o1 s1 hbr b0 hft hfl hge hrd hxx
      go_wp2_with fail
      refine KT.out.mono ?_
      rintro e w2 ⟨rfl, hp⟩
      have HP := Aside0.mk (KPut.next OW.out SS.out hp)
      clear hp KT hW hx0 hx1 hx2 hx3 hx4 hx5 y0 y1 y2 y3 y4 y5 ylt
      have hi1 : (i + 1).toNat = i.toNat + 1 := by omega
      have hw : IntKind.i64.wrap (i + 1) = i + 1 := IntWalk.i64_in _ (by omega)
      go_wp2
      go_roundw
      case rel => exact ⟨i + 1, by first | rfl | (rw [hw]) | simp [hw], by omega, by omega, ⟨by rw [hi1, HF.out, ← List.append_assoc, ← List.append_assoc]; have := HP.out; rw [← List.append_assoc] at this; exact this⟩⟩
      case measure => simp [intOf, hw]; omega
    · have t1 : decide (i < (xs.length : Int)) = false := decide_eq_false hi
      have e1 : i.toNat = xs.length := by omega
      rw [e1, List.take_length] at hkp
      go_wp2
      go_end0
      exact ⟨rfl, hkp.out⟩
end Go.Proofs.YtmilpfccgggmkaaDoor.Knt
