/- Texts of this claim, merged: Da3, Dt1, Qm. -/
import Derived.Test.YtddhngalokmdoaaMgFinds1
import Derived.Test.YtddhngalokmdoaaMgBase8
import Derived.Test.YtddhngalokmdoaaMgBase2
import Derived.ArgAppend
import Derived.Deep.Upon
namespace Go.Proofs.Ytddhngalokmdoaa.Spo
open Go.RowKit Go.Proofs.YtddhngalokmdoaaW.PrintWords Go.Proofs.YtddhngalokmdoaaW.PrintLast Go.Proofs.YtddhngalokmdoaaW.PrintMore Go.Proofs.Ytddhngalokmdoaa.Arr Go.Proofs.Ytddhngalokmdoaa.PSpoolPlays
set_option linter.unusedVariables false
set_option linter.unusedSimpArgs false

abbrev zs (n : Nat) : List Int := List.replicate n 0
theorem put_end (x : List Int) (a k m : Nat) (n : Int) (ha : x.length = a) (hk : k ≤ m) : putB (x ++ zs m) a k n = (x ++ bigV n k) ++ zs (m - k) := by
  subst ha
  unfold putB zs
  rw [List.take_left, List.drop_append, List.drop_eq_nil_of_le (by omega), List.nil_append, List.drop_replicate]
  congr 2
  omega
theorem set_end (x : List Int) (a m : Nat) (v : Int) (ha : x.length = a) (hm : 0 < m) : (x ++ zs m).set a v = (x ++ [v]) ++ zs (m - 1) := by
  subst ha
  obtain ⟨d, rfl⟩ : ∃ d, m = d + 1 := ⟨m - 1, by omega⟩
  rw [List.set_append_right _ _ (Nat.le_refl _), Nat.sub_self]
  simp [zs, List.replicate_succ]
theorem headV_split (p : PieceV) : headV p = ((([83] ++ bigV p.epoch 4) ++ bigV p.number 6) ++ bigV p.at_ 2) ++ bigV p.of 2 ++ [(p.b.length : Int) % 256] := by
  simp [headV]
theorem front_set (p : PieceV) : ((putB (putB (putB (putB (zB.set 0 83) 1 4 p.epoch) 5 6 p.number) 11 2 p.at_) 13 2 p.of).set 15 ((p.b.length : Int) % 256)) = headV p ++ zs 112 := by
  have e0 : zB.set 0 83 = [83] ++ zs 127 := set_end [] 0 128 83 rfl (by decide)
  rw [e0, put_end [83] 1 4 127 _ rfl (by decide), put_end _ 5 6 _ _ (by simp [bigV_length]) (by decide), put_end _ 11 2 _ _ (by simp [bigV_length]) (by decide), put_end _ 13 2 _ _ (by simp [bigV_length]) (by decide), set_end _ 15 _ _ (by simp [bigV_length]) (by decide), headV_split]
theorem head_len (p : PieceV) : (headV p).length = 16 := by rw [headV_split]; simp [bigV_length]
def fillO (p : PieceV) (j : Nat) : List Int := (headV p ++ p.b.take j) ++ zs (112 - j)
theorem fillO_length (p : PieceV) (j : Nat) (h : p.b.length ≤ 108) (hj : j ≤ p.b.length) : (fillO p j).length = 128 := by
  unfold fillO zs
  rw [List.length_append, List.length_append, head_len, List.length_take, List.length_replicate]
  omega
theorem fillO_set (p : PieceV) (j : Nat) (h : p.b.length ≤ 108) (hj : j < p.b.length) : (fillO p j).set (16 + j) (p.b.getD j 0) = fillO p (j + 1) := by
  unfold fillO
  rw [set_end _ (16 + j) _ _ (by rw [List.length_append, head_len, List.length_take]; omega) (by omega), List.take_add_one, List.getElem?_eq_getElem hj, List.getD, List.getElem?_eq_getElem hj]
  simp only [Option.toList_some, Option.getD_some, List.append_assoc]
  rw [show 112 - j - 1 = 112 - (j + 1) by omega]
theorem fillO_body (p : PieceV) (h : p.b.length ≤ 108) : (fillO p p.b.length).take 124 = bodyV p ∧ putB (fillO p p.b.length) 124 4 (sumV (bodyV p)) = bytesV p := by
  have e : fillO p p.b.length = bodyV p ++ zs 4 := by
    unfold fillO bodyV zs
    rw [List.take_length, show 112 - p.b.length = (108 - p.b.length) + 4 by omega, List.append_assoc, List.append_assoc, List.append_assoc]
    congr 2
    rw [List.replicate_append_replicate]
  have hl : (bodyV p).length = 124 := by
    unfold bodyV
    rw [List.length_append, List.length_append, head_len, List.length_replicate]
    omega
  rw [e]
  refine ⟨by rw [← hl, List.take_left], ?_⟩
  rw [put_end _ 124 4 4 _ hl (Nat.le_refl _), Nat.sub_self]
  exact List.append_nil _
theorem body_bytes (p : PieceV) (hB : Bytes p.b) : Bytes (bodyV p) := by
  unfold bodyV
  refine Bytes.append (Bytes.append ?_ hB) (Bytes.zeros _)
  rw [headV_split]
  refine Bytes.append (Bytes.append (Bytes.append (Bytes.append (Bytes.append ?_ (bigV_bytes _ _)) (bigV_bytes _ _)) (bigV_bytes _ _)) (bigV_bytes _ _)) ?_
  · intro x hx
    obtain rfl := List.mem_singleton.1 hx
    omega
  · intro x hx
    obtain rfl := List.mem_singleton.1 hx
    omega
theorem sumV_lt (l : List Int) (hB : Bytes l) : sumV l < 4294967296 := by
  have := sumN_lt l 4294967295 hB (by decide)
  unfold sumV
  omega
theorem reads_front {w : World} {g : Nat} {T : TypeId} {k : IntKind} {xs : List Int} {m : Nat} (h : Blk w g T (numsA k xs)) (hm : m ≤ xs.length ∧ xs.length ≤ 9223372036854775807) : ReadsInt w k (some ⟨g, 0, none⟩) (xs.take m).length (xs.take m) := by
  have hl : (xs.take m).length = m := by rw [List.length_take]; omega
  rw [hl]
  refine ⟨hl, by omega, fun _ => ⟨_, rfl, fun j hj => ?_⟩⟩
  rw [add_plain, h.cell, numsA_get _ _ j (by omega)]
  simp only [List.getD, List.getElem?_take_of_lt hj]
theorem exec_load_nums {o : Oper} {a : Act} {w : World} (x : Operand) (ho : o.op = .load TDa x) (g : Nat) (hx : a.eval x = .pointer (some ⟨g, 0, none⟩)) {U : TypeId} (bs : List Int) (hb : Blk w g U (numsA .u8 bs)) (hl : bs.length = 128) :
    (execOp a.eval o).run Try.prog w = .ok (.value (.agg (numsA .u8 bs))) w :=
  exec_load_mid TDa x ho g 0 hx (nums .u8 bs) _ (fun j v hj => by rw [Nat.zero_add, hb.cell]; simpa [numsA, nums] using hj) Try.underlying71 rfl (by rw [nums_len, hl]; exact infoDa)
def SDS (s : Int) (bs : List Int) (f : FuncId) (args : Array Value) (u : Value) (w : World) : Prop :=
  (f = 11 → u = .int .u32 s) ∧ (f = 50 → u = .agg (numsA .u8 bs))
theorem sds_stb {s : Int} {bs : List Int} {f : FuncId} {args : Array Value} {u : Value} : Qw.Stb (SDS s bs f args u) := fun w w' h hb => h
set_option maxHeartbeats 8000000 in
set_option maxRecDepth 100000 in
theorem sector_calls (p : PieceV) (hl : p.b.length ≤ 108) (hB : Bytes p.b) (he : 0 ≤ p.epoch ∧ p.epoch ≤ 9223372036854775807) (hn : 0 ≤ p.number ∧ p.number ≤ 9223372036854775807) (ha : 0 ≤ p.at_ ∧ p.at_ ≤ 9223372036854775807) (hof : 0 ≤ p.of ∧ p.of ≤ 9223372036854775807)
    (A : Option Addr) (n c : Nat) (hlen : p.b.length = n) (hc : n ≤ c) (w : World) (hr : ReadsInt w .u8 A n p.b) :
    Calls Try.prog 45 #[.int .i64 p.epoch, .int .i64 p.number, .int .i64 p.at_, .int .i64 p.of, .slice A n c] w fun e w' => e = .returned (.agg (numsA .u8 (bytesV p))) ∧ Below w.heap.size w w' := by
  have HR := Aside0.mk hr
  have HP := Aside0.mk (⟨hl, hB, hlen, hc⟩ : _ ∧ _ ∧ _ ∧ _)
  have KP1 := Aside0.mk (fun w' => dput_calls (zB.set 0 83) (by rw [List.length_set, zB_length]) 1 4 (by decide) p.epoch he.1 he.2 w')
  have KP2 := Aside0.mk (fun w' => dput_calls (putB (zB.set 0 83) 1 4 p.epoch) (by rw [putB_length _ _ _ _ (by rw [List.length_set, zB_length]; decide), List.length_set, zB_length]) 5 6 (by decide) p.number hn.1 hn.2 w')
  have hl2 : (putB (zB.set 0 83) 1 4 p.epoch).length = 128 := by rw [putB_length _ _ _ _ (by rw [List.length_set, zB_length]; decide), List.length_set, zB_length]
  have hl3 : (putB (putB (zB.set 0 83) 1 4 p.epoch) 5 6 p.number).length = 128 := by rw [putB_length _ _ _ _ (by rw [hl2]; decide), hl2]
  have hl4 : (putB (putB (putB (zB.set 0 83) 1 4 p.epoch) 5 6 p.number) 11 2 p.at_).length = 128 := by rw [putB_length _ _ _ _ (by rw [hl3]; decide), hl3]
  have hl5 : (putB (putB (putB (putB (zB.set 0 83) 1 4 p.epoch) 5 6 p.number) 11 2 p.at_) 13 2 p.of).length = 128 := by rw [putB_length _ _ _ _ (by rw [hl4]; decide), hl4]
  have KP3 := Aside0.mk (fun w' => dput_calls _ hl3 11 2 (by decide) p.at_ ha.1 ha.2 w')
  have KP4 := Aside0.mk (fun w' => dput_calls _ hl4 13 2 (by decide) p.of hof.1 hof.2 w')
  have hset := front_set p
  obtain ⟨X5, hX5⟩ : ∃ X5, putB (putB (putB (putB (zB.set 0 83) 1 4 p.epoch) 5 6 p.number) 11 2 p.at_) 13 2 p.of = X5 := ⟨_, rfl⟩
  rw [hX5] at KP4 hl5 hset
  clear hX5
  obtain ⟨X4, hX4⟩ : ∃ X4, putB (putB (putB (zB.set 0 83) 1 4 p.epoch) 5 6 p.number) 11 2 p.at_ = X4 := ⟨_, rfl⟩
  rw [hX4] at KP3 KP4 hl4
  clear hX4
  obtain ⟨X3, hX3⟩ : ∃ X3, putB (putB (zB.set 0 83) 1 4 p.epoch) 5 6 p.number = X3 := ⟨_, rfl⟩
  rw [hX3] at KP2 KP3 hl3
  clear hX3
  obtain ⟨X2, hX2⟩ : ∃ X2, putB (zB.set 0 83) 1 4 p.epoch = X2 := ⟨_, rfl⟩
  rw [hX2] at KP1 KP2 hl2
  clear hX2
  obtain ⟨X1, hX1⟩ : ∃ X1, zB.set 0 83 = X1 := ⟨_, rfl⟩
  rw [hX1] at KP1
  have HX1 := Aside0.mk (⟨hX1, by rw [← hX1, List.length_set, zB_length]⟩ : zB.set 0 83 = X1 ∧ X1.length = 128)
  have HL5 := Aside0.mk (⟨hl5, hset⟩ : _ ∧ _)
  have hzr := zeroDa
  have hnr := noneDa
  obtain ⟨Z, hZ⟩ : ∃ Z, numsA .u8 zB = Z := ⟨_, rfl⟩
  rw [hZ] at hzr hnr
  have HZ := Aside0.mk (⟨hZ, by rw [← hZ, numsA_size, zB_length], by rw [← hZ]; exact numsA_one _ _⟩ : _ ∧ Z.size = 128 ∧ Z.all (·.oneCell') = true)
  obtain ⟨W2, hW2⟩ : ∃ W2, (w.alloc (.cells Z TDa)).alloc (.cells Z TDa) = W2 := ⟨_, rfl⟩
  have HW2 := Aside0.mk hW2
  have R2 := Aside0.mk (by rw [← hW2]; exact (Blk.newAt rfl).alloc _ : Blk W2 w.heap.size TDa Z)
  have B2 := Aside0.mk (by rw [← hW2]; exact Blk.newAt (by simp) : Blk W2 (w.heap.size + 1) TDa Z)
  have L2 := Aside0.mk (by rw [← hW2]; exact below_alloc (below_alloc (Below.refl _ _) _) _ : Below w.heap.size w W2)
  clear hW2 hZ hX1 hl2 hl3 hl4 hl5 hset he hn ha hof hr hl hB hlen hc
  go_enter Try.func45, Try.ntmps45
  go_upto_region 2 with (first
    | (with_reducible refine wpList_alloc_agg rfl TDa _ rfl hzr ?_)
    | (with_reducible refine wpList_build_none rfl TDa rfl _ hnr ?_)
    | (with_reducible refine wpList_store_blk rfl TDa _ _ rfl _ _ rfl rfl infoDa HZ.out.2.1 HZ.out.2.2 (Blk.newAt (by simp)) HZ.out.2.1 ?_; rw [setRow_top (by simp)]))
  rw [HW2.out]
  have cz : W2.cell? ⟨w.heap.size + 1, 0, none⟩ = some (.int .u8 0) := by rw [B2.out.cell, ← HZ.out.1, numsA_get _ _ 0 (by rw [zB_length]; decide)]; rfl
  have fz := B2.out.frozen 0
  have lz := B2.out.lt
  obtain ⟨W3, hW3⟩ : ∃ W3, W2.setCell ⟨w.heap.size + 1, 0, none⟩ (.int .u8 83) = W3 := ⟨_, rfl⟩
  have HW3 := Aside0.mk hW3
  have B3 := Aside0.mk (by rw [← hW3, ← HX1.out.1, ← numsA_set, HZ.out.1]; exact B2.out.set 0 _ : Blk W3 (w.heap.size + 1) TDa (numsA .u8 X1))
  have R3 := Aside0.mk (by rw [← hW3]; exact R2.out.far (by simp only; omega) _ : Blk W3 w.heap.size TDa Z)
  have L3 := Aside0.mk (by rw [← hW3]; exact L2.out.setCell (by simp only; omega) _ : Below w.heap.size w W3)
  obtain ⟨g, hg⟩ : ∃ g, w.heap.size + 1 = g := ⟨_, rfl⟩
  have HG := Aside0.mk hg
  have hsz : (w.alloc (.cells Z TDa)).heap.size = w.heap.size + 1 := by simp
  rw [hg] at B2 B3 HW3 cz fz lz hsz
  rw [hsz]
  clear hW3 hg R2 L2 HW2 hzr hnr
  go_upto_region 3 with fail
  rw [HW3.out]
  clear cz fz lz HW3 B2
  go_wp2_with (with_reducible refine wpList_load_blk rfl TDa _ rfl _ _ _ rfl Try.underlying71 rfl infoDa B3.out (by rw [numsA_size]; exact HX1.out.2) ?_)
  refine (KP1.out W3).mono ?_
  rintro e w4 ⟨rfl, b4⟩
  go_wp2_with fail
  refine (KP2.out w4).mono ?_
  rintro e w5 ⟨rfl, b5⟩
  go_wp2_with fail
  refine (KP3.out w5).mono ?_
  rintro e w6 ⟨rfl, b6⟩
  go_wp2_with fail
  refine (KP4.out w6).mono ?_
  rintro e w7 ⟨rfl, b7⟩
  have b37 : Below W3.heap.size W3 w7 := ((b4.trans (b5.mono b4.size)).trans (b6.mono (Nat.le_trans b4.size b5.size))).trans (b7.mono (Nat.le_trans (Nat.le_trans b4.size b5.size) b6.size))
  have B7 := Aside0.mk (B3.out.below b37)
  have R7 := Aside0.mk (R3.out.below b37)
  have L7 := Aside0.mk (L3.out.trans (b37.mono L3.out.size))
  clear b4 b5 b6 b7 b37 KP1 KP2 KP3 KP4 B3 R3 L3
  obtain ⟨W8, hW8⟩ : ∃ W8, w7.setRow g (numsA .u8 X5) = W8 := ⟨_, rfl⟩
  have HW8 := Aside0.mk hW8
  have hglt : w.heap.size < g := by have := HG.out; omega
  have B8 := Aside0.mk (by rw [← hW8]; exact B7.out.row _ : Blk W8 g TDa (numsA .u8 X5))
  have R8 := Aside0.mk (by rw [← hW8]; exact R7.out.rowFar (by omega) _ : Blk W8 w.heap.size TDa Z)
  have L8 := Aside0.mk (by rw [← hW8]; exact below_setRow L7.out (by omega) _ : Below w.heap.size w W8)
  clear hW8
  go_upto_region 4 with (with_reducible refine wpList_store_blk rfl TDa _ _ rfl _ _ rfl rfl infoDa (by rw [numsA_size]; exact HL5.out.1) (numsA_one _ _) B7.out (by rw [numsA_size]; exact HX1.out.2) ?_)
  rw [HW8.out]
  have cz : W8.cell? ⟨g, 15, none⟩ = some (.int .u8 (X5.getD 15 0)) := by rw [B8.out.cell, numsA_get _ _ 15 (by rw [HL5.out.1]; decide)]
  have fz := B8.out.frozen 15
  have lz := B8.out.lt
  have hu : IntKind.u8.wrap (n : Int) = (n : Int) % 256 := rfl
  have hfo : fillO p 0 = headV p ++ zs 112 := by unfold fillO; rw [List.take_zero, List.append_nil, Nat.sub_zero]
  obtain ⟨W9, hW9⟩ : ∃ W9, W8.setCell ⟨g, 15, none⟩ (.int .u8 ((n : Int) % 256)) = W9 := ⟨_, rfl⟩
  have HW9 := Aside0.mk hW9
  have B9 := Aside0.mk (by rw [← hW9, hfo, ← HL5.out.2, HP.out.2.2.1, ← numsA_set]; exact B8.out.set 15 _ : Blk W9 g TDa (numsA .u8 (fillO p 0)))
  have R9 := Aside0.mk (by rw [← hW9]; exact R8.out.far (by simp only; omega) _ : Blk W9 w.heap.size TDa Z)
  have L9 := Aside0.mk (by rw [← hW9]; exact L8.out.setCell (by simp only; omega) _ : Below w.heap.size w W9)
  have HGL := Aside0.mk hglt
  clear hW9 hfo hglt
  go_upto_region 5 with fail
  rw [HW9.out]
  clear cz fz lz hu HW9 HW8 B8 R8 L8 B7 R7 L7
  go_wp2_with fail
  go_loopw [12, 30] (fun v12 v30 wr => ∃ j : Nat, v30 = .int .i64 (j : Int) ∧ Aside0 (j ≤ n) ∧ Aside0 (Blk wr g TDa (numsA .u8 (fillO p j))) ∧ Aside0 (Blk wr w.heap.size TDa Z) ∧ Aside0 (Below w.heap.size w wr)) (fun _ v30 _ => n - (intOf v30).toNat)
  case atStart => exact ⟨0, rfl, ⟨Nat.zero_le _⟩, B9, R9, L9⟩
  case round =>
    obtain ⟨j, rfl, hj, hA, hR, hbl⟩ := hrel
    obtain ⟨hp1, hp2, hp3, hp4⟩ := HP.out
    by_cases hjn : j < n
    · have t1 : decide ((j : Int) < (n : Int)) = true := decide_eq_true (by omega)
      have t1n : decide (j < n) = true := decide_eq_true hjn
      have q0 := eq_true (show (0 : Int) ≤ (j : Int) by omega)
      have q1 := eq_true (show (j : Int) < (n : Int) by omega)
      have q2 := eq_true hjn
      obtain ⟨ad, eA, hx⟩ := (HR.out.below hbl.out).at_ (j : Int) (by omega) (by omega)
      cases eA
      rw [Int.toNat_natCast] at hx
      have hw1 : IntKind.i64.wrap (16 + (j : Int)) = ((16 + j : Nat) : Int) := by rw [show (16 + (j : Int)) = ((16 + j : Nat) : Int) by omega]; exact IntWalk.i64_in _ (by omega)
      have hw2 : IntKind.i64.wrap ((j : Int) + 1) = ((j + 1 : Nat) : Int) := by rw [show ((j : Int) + 1) = ((j + 1 : Nat) : Int) by omega]; exact IntWalk.i64_in _ (by omega)
      have r0 := eq_true (show (0 : Int) ≤ ((16 + j : Nat) : Int) by omega)
      have r1 := eq_true (show ((16 + j : Nat) : Int) < 128 by omega)
      have r2 := eq_true (show 16 + j < 128 by omega)
      have lj := hA.out.lt
      have fj := hA.out.frozen (16 + j)
      have cj := hA.out.cell (16 + j)
      rw [numsA_get _ _ _ (by rw [fillO_length p j hp1 (by omega)]; omega)] at cj
      have hset := fillO_set p j hp1 (by omega)
      have HJ := Aside0.mk (⟨hjn, hw2, hset⟩ : _ ∧ _ ∧ _)
      clear hp1 hp2 hp3 hp4 hjn hset
      generalize hq : 16 + j = q at *
      go_wp2
      go_roundw
      case rel => exact ⟨j + 1, by first | rfl | rw [HJ.out.2.1], ⟨HJ.out.1⟩, ⟨by rw [← HJ.out.2.2, ← numsA_set]; exact hA.out.set q _⟩, ⟨hR.out.far (by simp only; have := HGL.out; omega) _⟩, ⟨hbl.out.setCell (by simp only; have := HGL.out; omega) _⟩⟩
      case measure => have := HJ.out; simp [intOf, HJ.out.2.1]; omega
    · have t1 : decide ((j : Int) < (n : Int)) = false := decide_eq_false (by omega)
      have t1n : decide (j < n) = false := decide_eq_false hjn
      obtain rfl : j = n := by have := hj.out; omega
      rw [← hp3] at hA
      obtain ⟨hb1, hb2⟩ := fillO_body p hp1
      have hbl2 := fillO_length p p.b.length hp1 (Nat.le_refl _)
      have hbb := body_bytes p hp2
      obtain ⟨Y, hY⟩ : ∃ Y, fillO p p.b.length = Y := ⟨_, rfl⟩
      rw [hY] at hA hb1 hb2 hbl2
      have hbl124 : (bodyV p).length = 124 := by rw [← hb1, List.length_take, hbl2]; rfl
      have hsl : 0 ≤ sumV (bodyV p) ∧ sumV (bodyV p) < 4294967296 := ⟨Int.natCast_nonneg _, sumV_lt _ hbb⟩
      obtain ⟨wo, hwo⟩ : ∃ wo, wo = wr := ⟨_, rfl⟩
      subst hwo
      have KS := Aside0.mk (fun w' (hb : Blk w' g TDa (numsA .u8 Y)) => stileref13_Sum.calls (50 * (bodyV p).length + 50) (some ⟨g, 0, none⟩) 128 (bodyV p) (sumV (bodyV p)) w' (Kd.C_of_reads (d := (0 : Int)) (by rw [← hb1]; exact reads_front hb (by omega))) (by rw [hbl124]; decide) (ref_sum_f (bodyV p) hbb (by omega) _ (Nat.le_refl _)))
      rw [hbl124] at KS
      have KP := Aside0.mk (fun w' => dput_calls Y hbl2 124 4 (by decide) (sumV (bodyV p)) hsl.1 (by omega) w')
      have m1 : IntKind.i64.wrap (sumV (bodyV p)) = sumV (bodyV p) := IntWalk.i64_in _ (by omega)
      obtain ⟨s, hs⟩ : ∃ s, sumV (bodyV p) = s := ⟨_, rfl⟩
      rw [hb2] at KP
      have hbv : (bytesV p).length = 128 := by rw [← hb2, putB_length _ _ _ _ (by rw [hbl2]; decide), hbl2]
      rw [hs] at KS KP m1 hb2 hsl
      have HY := Aside0.mk (⟨hbl2, hbv⟩ : Y.length = 128 ∧ _)
      clear hp1 hp2 hp4 hjn hb1 hb2 hbl2 hbb hY hs hsl hbv
      go_wp2_with fail
      have HST : Qw.Stb (fun w' => Blk w' g TDa (numsA .u8 Y) ∧ Below wo.heap.size wo w') := fun w1 w2 h hb => ⟨h.1.below hb, h.2.trans (hb.mono h.2.size)⟩
      have HE0 : Blk wo.drew g TDa (numsA .u8 Y) ∧ Below wo.heap.size wo wo.drew := ⟨hA.out.drew, (Below.refl _ _).drew⟩
      refine Qw.wp_region_tail (SDS s (bytesV p)) _ HST 5 (by kernel_rfl) (by kernel_rfl) HE0 ?_
      clear HST HE0
      simp only [List.take_succ_cons, List.take_zero, List.drop_succ_cons, List.drop_zero]
      ((first | (with_reducible refine Qw.w_val ⟨fun _ _ _ hF h w' h1 h2 => h w' h1 fun k => hF k _ (h2 k)⟩ ?_ (Qw.wanted_none rfl) ?_) | ((with_reducible refine Qw.w_val ⟨fun _ _ _ hF h w' h1 h2 => h w' h1 fun k => hF k _ (h2 k)⟩ ?_ ?_ ?_); (focus (exact fun _ => trivial)); (focus (exact Qg.wanted_on rfl rfl rfl)))); (try (focus (exact fun _ => trivial))); apply Exists.intro; refine ⟨?_, ?_⟩; (focus (intro w' hw' hp'; exact exec_load_nums _ rfl g rfl Y hw'.1 HY.out.1)); intro K hK; go_simp; (first | (with_reducible refine hK _ ?_) | (refine hK _ ?_)); clear hK K)
      ((first | (with_reducible refine Qw.w_val ⟨fun _ _ _ hF h w' h1 h2 => h w' h1 fun k => hF k _ (h2 k)⟩ ?_ (Qw.wanted_none rfl) ?_) | ((with_reducible refine Qw.w_val ⟨fun _ _ _ hF h w' h1 h2 => h w' h1 fun k => hF k _ (h2 k)⟩ ?_ ?_ ?_); (focus (exact fun _ => trivial)); (focus (exact Qg.wanted_on rfl rfl rfl)))); (try (focus (exact fun _ => trivial))); apply Exists.intro; refine ⟨?_, ?_⟩; (focus (intro w' hw' hp'; skip; go_simp; (first | done | (with_reducible rfl)))); intro K hK; go_simp; (first | (with_reducible refine hK _ ?_) | (refine hK _ ?_)); clear hK K)
      ((with_reducible refine Qw.w_call ?_ ?_); (first | (focus (exact Qw.wanted_none rfl)) | (focus (exact Qg.wanted_on rfl rfl rfl))); apply Exists.intro; apply Exists.intro; refine ⟨?_, ?_, ?_, ?_⟩; (focus (intro w'; go_simp; (first | rfl | exact ⟨rfl, rfl⟩))); (focus (exact fun u => sds_stb)); (focus (intro w' hw' hp'; refine (KS.out w' hw'.1).mono ?_; rintro e w8 ⟨rfl, b8⟩; exact ⟨_, rfl, b8.below, ⟨fun _ => rfl, fun h => absurd h (by decide)⟩⟩)); rintro u1 ⟨wv1, -, -, hu1⟩; intro K hK; go_simp; (first | (with_reducible refine hK _ ?_) | (refine hK _ ?_)); clear hK K)
      obtain rfl := hu1.1 rfl
      clear hu1 wv1
      ((first | (with_reducible refine Qw.w_val ⟨fun _ _ _ hF h w' h1 h2 => h w' h1 fun k => hF k _ (h2 k)⟩ ?_ (Qw.wanted_none rfl) ?_) | ((with_reducible refine Qw.w_val ⟨fun _ _ _ hF h w' h1 h2 => h w' h1 fun k => hF k _ (h2 k)⟩ ?_ ?_ ?_); (focus (exact fun _ => trivial)); (focus (exact Qg.wanted_on rfl rfl rfl)))); (try (focus (exact fun _ => trivial))); apply Exists.intro; refine ⟨?_, ?_⟩; (focus (intro w' hw' hp'; skip; go_simp; (first | done | (with_reducible rfl)))); intro K hK; go_simp; (first | (with_reducible refine hK _ ?_) | (refine hK _ ?_)); clear hK K)
      ((with_reducible refine Qw.w_call ?_ ?_); (first | (focus (exact Qw.wanted_none rfl)) | (focus (exact Qg.wanted_on rfl rfl rfl))); apply Exists.intro; apply Exists.intro; refine ⟨?_, ?_, ?_, ?_⟩; (focus (intro w'; go_simp; (first | rfl | exact ⟨rfl, rfl⟩))); (focus (exact fun u => sds_stb)); (focus (intro w' hw' hp'; refine (KP.out w').mono ?_; rintro e w8 ⟨rfl, b8⟩; exact ⟨_, rfl, b8, ⟨fun h => absurd h (by decide), fun _ => rfl⟩⟩)); rintro u2 ⟨wv2, -, -, hu2⟩; intro K hK; go_simp; (first | (with_reducible refine hK _ ?_) | (refine hK _ ?_)); clear hK K)
      obtain rfl := hu2.2 rfl
      clear hu2 wv2
      ((with_reducible refine Qw.w_nil ?_); intro w' hw' hf')
      have R9 := Aside0.mk (hR.out.below hw'.2)
      have L9 := Aside0.mk (hbl.out.trans (hw'.2.mono hbl.out.size))
      clear hw' hf'
      go_wp2_with (with_reducible refine wpList_store_blk rfl TDa _ _ rfl _ _ rfl rfl infoDa (by rw [numsA_size]; exact HY.out.2) (numsA_one _ _) R9.out HZ.out.2.1 ?_)
      refine bodyPost_ret (results_blk rfl _ _ _ _ _ rfl infoDa Try.underlying71 rfl (R9.out.row _) (by rw [numsA_size]; exact HY.out.2)) rfl ⟨rfl, ?_⟩
      exact below_setRow L9.out (Nat.le_refl _) _
abbrev TDt : TypeId := 34
abbrev TDw : TypeId := 86
abbrev docC (n : Int) (K C : Value) (l : Int) (d : Bool) : Array Value := #[.int .i64 n, K, C, .int .i64 l, .bool d]
def zeroK (n : Nat) : List (List Int) := List.replicate n zB
abbrev kDw : Kd (Int × List Int) := stampK 128
structure DocT (w : World) (K C : Value) (V : TrayV) (m : Nat) : Prop where mk ::
  out : ∃ (kl : List (Int × List Int)), kDw.R TDw w 0 (fun _ => True) K kl ∧ kDw.R TDw w 0 (fun _ => True) C V.cache ∧
    V.kept = settleV (zeroK V.kept.length) kl ∧ (∀ x, x ∈ kl → 0 ≤ x.1 ∧ x.1 < V.kept.length ∧ x.2.length = 128) ∧ kl.length + V.cache.length ≤ m
theorem DocT.below {w w1 : World} {K C : Value} {V : TrayV} {m : Nat} (h : DocT w K C V m) (hb : Below w.heap.size w w1) : DocT w1 K C V m := by
  obtain ⟨kl, h1, h2, h3⟩ := h.out
  exact ⟨kl, Kd.R_below h1 hb, Kd.R_below h2 hb, h3⟩
theorem DocT.up {w : World} {K C : Value} {V : TrayV} {m m' : Nat} (h : DocT w K C V m) (hm : m ≤ m') : DocT w K C V m' := by
  obtain ⟨kl, h1, h2, h3, h4, h5⟩ := h.out
  exact ⟨kl, h1, h2, h3, h4, Nat.le_trans h5 hm⟩
theorem DocT.form {w : World} {K C : Value} {V : TrayV} {m : Nat} (h : DocT w K C V m) : ∃ (A A' : Option Addr) (n n' c c' : Nat), K = .slice A n c ∧ C = .slice A' n' c' ∧ n + n' ≤ m := by
  obtain ⟨kl, h1, h2, h3, h4, h5⟩ := h.out
  obtain ⟨A, c, rfl⟩ := Kd.R_slice h1
  obtain ⟨A', c', rfl⟩ := Kd.R_slice h2
  exact ⟨A, A', _, _, c, c', rfl, rfl, h5⟩
theorem DocT.like {w : World} {K C : Value} {V V' : TrayV} {m : Nat} (h : DocT w K C V m) (hk : V'.kept = V.kept) (hc : V'.cache = V.cache) : DocT w K C V' m := by
  obtain ⟨kl, h1, h2, h3, h4, h5⟩ := h.out
  exact ⟨kl, h1, by rw [hc]; exact h2, by rw [hk]; exact h3, by rw [hk]; exact h4, by rw [hc]; exact h5⟩
theorem DocT.new (w : World) (n : Nat) : DocT w (.slice none 0 0) (.slice none 0 0) (newV n) 0 :=
  ⟨[], Kd.R_nil _ _ _ _ _, Kd.R_nil _ _ _ _ _, by simp [newV, settleV, zeroK, zB], fun x hx => (by simp at hx), Nat.le_refl _⟩
theorem zeroDt : ∀ w, (zeroValue TDt).run Try.prog w = .ok (.agg (docC 0 (.slice none 0 0) (.slice none 0 0) 0 false)) w := fun w => by kernel_rfl
theorem infoDt : (Try.prog.info? TDt).map (·.size) = some 5 := by kernel_rfl
section
variable {P : Program}
theorem results_ct {fn : Func} {p q : Tmp} {ty : TypeId} (h : fn.results = #[.cell p ty, .tmp q]) (tmps : Array Value) (w : World) (g : Nat) (cs : Array Value) (d : TypeDesc) (v : Value)
    (hp : tmps.getD p undef = .pointer (some ⟨g, 0, none⟩)) (hq : tmps.getD q undef = v) {n : Nat} (hi : (P.info? ty).map (·.size) = some n) (hu : P.underlying ty = some d) (hd : (match d with | .struct _ | .array _ _ => true | _ => false) = true)
    {U : TypeId} (hb : Blk w g U cs) (hc : cs.size = n) : (results fn tmps).run P w = .ok (.tuple #[.agg cs, v]) w := by
  have hp' : tmps[p]?.getD undef = .pointer (some ⟨g, 0, none⟩) := by simpa using hp
  have hq' : tmps[q]?.getD undef = v := by simpa using hq
  simp [results, h, hp', hq', asAddr, run_loadVar_row w g U ty cs (0, 0) d hb.out hu hd (by rw [hi, hc])]
theorem results_ctt {fn : Func} {p q r : Tmp} {ty : TypeId} (h : fn.results = #[.cell p ty, .tmp q, .tmp r]) (tmps : Array Value) (w : World) (g : Nat) (cs : Array Value) (d : TypeDesc) (v u : Value)
    (hp : tmps.getD p undef = .pointer (some ⟨g, 0, none⟩)) (hq : tmps.getD q undef = v) (hr : tmps.getD r undef = u) {n : Nat} (hi : (P.info? ty).map (·.size) = some n) (hu : P.underlying ty = some d) (hd : (match d with | .struct _ | .array _ _ => true | _ => false) = true)
    {U : TypeId} (hb : Blk w g U cs) (hc : cs.size = n) : (results fn tmps).run P w = .ok (.tuple #[.agg cs, v, u]) w := by
  have hp' : tmps[p]?.getD undef = .pointer (some ⟨g, 0, none⟩) := by simpa using hp
  have hq' : tmps[q]?.getD undef = v := by simpa using hq
  have hr' : tmps[r]?.getD undef = u := by simpa using hr
  simp [results, h, hp', hq', hr', asAddr, run_loadVar_row w g U ty cs (0, 0) d hb.out hu hd (by rw [hi, hc])]
theorem results_cct {fn : Func} {p q r : Tmp} {ty ty2 : TypeId} (h : fn.results = #[.cell p ty, .cell q ty2, .tmp r]) (tmps : Array Value) (w : World) (g g2 : Nat) (cs cs2 : Array Value) (d d2 : TypeDesc) (u : Value)
    (hp : tmps.getD p undef = .pointer (some ⟨g, 0, none⟩)) (hq : tmps.getD q undef = .pointer (some ⟨g2, 0, none⟩)) (hr : tmps.getD r undef = u) {n n2 : Nat} (hi : (P.info? ty).map (·.size) = some n) (hi2 : (P.info? ty2).map (·.size) = some n2) (hu : P.underlying ty = some d) (hu2 : P.underlying ty2 = some d2) (hd : (match d with | .struct _ | .array _ _ => true | _ => false) = true) (hd2 : (match d2 with | .struct _ | .array _ _ => true | _ => false) = true)
    {U U2 : TypeId} (hb : Blk w g U cs) (hb2 : Blk w g2 U2 cs2) (hc : cs.size = n) (hc2 : cs2.size = n2) : (results fn tmps).run P w = .ok (.tuple #[.agg cs, .agg cs2, u]) w := by
  have hp' : tmps[p]?.getD undef = .pointer (some ⟨g, 0, none⟩) := by simpa using hp
  have hq' : tmps[q]?.getD undef = .pointer (some ⟨g2, 0, none⟩) := by simpa using hq
  have hr' : tmps[r]?.getD undef = u := by simpa using hr
  simp [results, h, hp', hq', hr', asAddr, run_loadVar_row w g U ty cs (0, 0) d hb.out hu hd (by rw [hi, hc]), run_loadVar_row w g2 U2 ty2 cs2 (0, 0) d2 hb2.out hu2 hd2 (by rw [hi2, hc2])]
end
set_option maxHeartbeats 4000000 in
set_option maxRecDepth 100000 in
theorem dnew_calls (n : Nat) (hn : 4 ≤ n) (hn2 : n ≤ 4096) (w : World) :
    Calls Try.prog 13 #[.int .i64 (n : Int)] w fun e w' => e = .returned (.tuple #[.agg (docC n (.slice none 0 0) (.slice none 0 0) (-1) false), .bool true]) ∧ Below w.heap.size w w' := by
  have t1 : decide ((n : Int) ≥ 4) = true := decide_eq_true (by omega)
  have t2 : decide ((n : Int) ≤ 4096) = true := decide_eq_true (by omega)
  clear hn hn2
  go_enter Try.func13, Try.ntmps13
  go_wp2
  exact bodyPost_ret (results_ct rfl _ _ _ _ _ _ rfl rfl infoDt Try.underlying34 rfl (Blk.newAt rfl) rfl) rfl ⟨rfl, below_alloc (Below.refl _ _) _⟩
set_option maxHeartbeats 4000000 in
set_option maxRecDepth 100000 in
theorem dstep_calls (n : Int) (K C : Value) (V : TrayV) (m : Nat) (w : World) (H : DocT w K C V m) (hl : V.left ≤ 9223372036854775807) :
    Calls Try.prog 35 #[.agg (docC n K C V.left V.dark)] w fun e w' => e = .returned (.tuple #[.agg (docC n K C (stepV V).1.left (stepV V).1.dark), .bool (stepV V).2]) ∧ Below w.heap.size w w' := by
  obtain ⟨A, A', n1, n2, c1, c2, rfl, rfl, -⟩ := H.form
  unfold stepV
  by_cases h0 : V.left = 0
  · rw [if_pos h0]
    have t1 : decide (V.left = 0) = true := decide_eq_true h0
    go_enter Try.func35, Try.ntmps35
    go_wp2
    exact bodyPost_ret (results_ct rfl _ _ _ _ _ _ rfl rfl infoDt Try.underlying34 rfl (Blk.newAt (by simp)) rfl) rfl ⟨by rw [h0]; rfl, below_alloc (below_alloc (Below.refl _ _) _) _⟩
  · rw [if_neg h0]
    have t1 : decide (V.left = 0) = false := decide_eq_false h0
    by_cases h1 : 0 < V.left
    · rw [if_pos h1]
      have t2 : decide (V.left > 0) = true := decide_eq_true h1
      have w1 : IntKind.i64.wrap (V.left - 1) = V.left - 1 := IntWalk.i64_in _ (by omega)
      go_enter Try.func35, Try.ntmps35
      go_wp2
      exact bodyPost_ret (results_ct rfl _ _ _ _ _ _ rfl rfl infoDt Try.underlying34 rfl (Blk.newAt (by simp)) rfl) rfl ⟨rfl, below_alloc (below_alloc (Below.refl _ _) _) _⟩
    · rw [if_neg h1]
      have t2 : decide (V.left > 0) = false := decide_eq_false h1
      go_enter Try.func35, Try.ntmps35
      go_wp2
      exact bodyPost_ret (results_ct rfl _ _ _ _ _ _ rfl rfl infoDt Try.underlying34 rfl (Blk.newAt (by simp)) rfl) rfl ⟨rfl, below_alloc (below_alloc (Below.refl _ _) _) _⟩
set_option maxHeartbeats 4000000 in
set_option maxRecDepth 100000 in
theorem dpower_calls (n : Int) (K C : Value) (V : TrayV) (m : Nat) (k : Int) (w : World) (H : DocT w K C V m) :
    Calls Try.prog 28 #[.agg (docC n K C V.left V.dark), .int .i64 k] w fun e w' => e = .returned (.tuple #[.agg (docC n K C (powerV V k).1.left (powerV V k).1.dark), .int .i64 (powerV V k).2]) ∧ Below w.heap.size w w' := by
  obtain ⟨A, A', n1, n2, c1, c2, rfl, rfl, -⟩ := H.form
  unfold powerV
  by_cases h0 : k < 0
  · rw [if_pos (.inl h0)]
    have t1 : decide (k < 0) = true := decide_eq_true h0
    go_enter Try.func28, Try.ntmps28
    go_wp2
    exact bodyPost_ret (results_ct rfl _ _ _ _ _ _ rfl rfl infoDt Try.underlying34 rfl (Blk.newAt (by simp)) rfl) rfl ⟨rfl, below_alloc (below_alloc (Below.refl _ _) _) _⟩
  · have t1 : decide (k < 0) = false := decide_eq_false h0
    by_cases h1 : k > 1099511627776
    · rw [if_pos (.inr h1)]
      have t2 : decide (k > 1099511627776) = true := decide_eq_true h1
      go_enter Try.func28, Try.ntmps28
      go_wp2
      exact bodyPost_ret (results_ct rfl _ _ _ _ _ _ rfl rfl infoDt Try.underlying34 rfl (Blk.newAt (by simp)) rfl) rfl ⟨rfl, below_alloc (below_alloc (Below.refl _ _) _) _⟩
    · rw [if_neg (by rintro (h | h); exact h0 h; exact h1 h)]
      have t2 : decide (k > 1099511627776) = false := decide_eq_false h1
      go_enter Try.func28, Try.ntmps28
      go_wp2
      exact bodyPost_ret (results_ct rfl _ _ _ _ _ _ rfl rfl infoDt Try.underlying34 rfl (Blk.newAt (by simp)) rfl) rfl ⟨rfl, below_alloc (below_alloc (Below.refl _ _) _) _⟩
end Go.Proofs.Ytddhngalokmdoaa.Spo

namespace Go.Proofs.Ytddhngalokmdoaa.Qw
open Go.RowKit Go.Proofs.Ytddhngalokmdoaa.Arr
variable {P : Program} {ops : Array Oper} {md : Region.Mode} {S : FuncId → Array Value → Value → World → Prop} {E0 : World → Prop} {Q : Act → (Nat → World → Prop) → Prop} {k : Nat} {o : Oper} {rest : List Oper} {a : Act} {F : Nat → World → Prop}
theorem w_make (R : Value → World → Prop) (hs : ∀ u, Stb (R u)) (hw : Region.wanted o (yielded ops a.tmps) = true)
    (h : (∀ w, E0 w → (∀ e ∈ o.after, Region.binds md e = true → F e.on w) → ∃ u w', (execOp a.eval o).run P w = .ok (.value u) w' ∧ Below w.heap.size w w' ∧ R u w') ∧
      ∀ u, Val E0 F R u → ∀ K : Act → Prop, (∀ a, wpW P md ops S E0 Q (k + 1) rest a (up F k (R u)) → K a) → K (a.put o.dst u)) : wpW P md ops S E0 Q k (o :: rest) a F :=
  ⟨R, .inl ⟨hw, hs, fun w hw hp => by obtain ⟨u, w', e, hb, hr⟩ := h.1 w hw hp; rw [e]; exact ⟨hb, hr⟩⟩, fun u hu => h.2 u hu _ fun a hh => hh⟩
end Go.Proofs.Ytddhngalokmdoaa.Qw
namespace Go.Proofs.Ytddhngalokmdoaa.Arr
open Go.RowKit Go.Deep Go.Proofs.YtddhngalokmdoaaW.PrintWords
section
variable {α : Type} {sz : Nat} {enc : α → List Value} {h1 : ∀ x u, u ∈ enc x → u.oneCell' = true} {e : Nat} {w : World} {base : Nat} {ok : Nat → Prop} {ys : List α}
/-- What is appended to an empty literal: a new row; of the elder blocks none has turned. -/
theorem flat_clone {P : Program} {t : TypeId} (ty : TypeId) {z : Value} {bytes : Nat} (ht : P.underlying t = some (.slice e)) (hi : (P.info? e).map (fun i => (i.zero, i.size, i.bytes)) = some (some z, sz, bytes)) (hz : z.cells.size = sz) (hs0 : 0 < sz) (hb0 : 0 < bytes)
    {g : Nat} (hg : Blk w g e #[]) (hgB : base ≤ g) {A : Option Addr} {m c : Nat} (HY : (flat sz enc h1).R e w 0 ok (.slice A m c) ys) (hB : base ≤ w.heap.size) (hl : ys.length * bytes ≤ 140737488355328) :
    ∃ v1 w1, (Builtin.append_ #[t, t] ty #[.slice (some ⟨g, 0, none⟩) 0 0, .slice A m c]).run P w = .ok v1 w1 ∧ (flat sz enc h1).R e w1 base (fun _ => True) v1 ys ∧ Below w.heap.size w w1 := by
  obtain ⟨i0, hi0, hzz⟩ := Option.map_eq_some_iff.1 hi
  simp only [Prod.mk.injEq] at hzz
  obtain ⟨hz0, hz1, hz2⟩ := hzz
  obtain ⟨h0, inner, ho, hr⟩ := HY
  have hlen : ys.length ≤ 140737488355328 := Nat.le_trans (Nat.le_mul_of_pos_right _ hb0) hl
  have hm : m = ys.length := by
    rcases ho.2 with ⟨e1, h2⟩ | ⟨g, cap, cur, e1, _⟩
    · injection e1 with _ e2 _; omega
    · injection e1
  subst hm
  rcases Nat.eq_zero_or_pos ys.length with hy | hy
  · obtain rfl := List.length_eq_zero_iff.1 hy
    have hsrc : Src P i0.size t (.slice A 0 c) 0 [] w := by
      cases A with
      | none => exact Src.ofNil w ht c
      | some a => exact Src.ofSlice w ht a 0 c [] (by simp) (fun j u hj => by simp at hj) (fun u hu => by cases hu)
    refine ⟨_, w, run_append_nothing (P := P) w t t ty e i0 ht hi0 _ 0 0 (Nat.le_refl _) _ hsrc, ⟨fun k _ => trivial, [], ⟨(by simp), .inr ⟨g, 0, #[], rfl, hgB, hg.out, Nat.le_refl _, Nat.zero_le _, by simp, by simp⟩⟩, ?_⟩, Below.refl _ _⟩
    exact Reps.none _ _
  · rcases ho.2 with ⟨e1, h2⟩ | ⟨gy, cap, cur, e1, hgy, hh, r1, r2, r3, r4⟩
    · omega
    · injection e1 with e1 e2 e3
      subst e1 e3
      have hil : inner.length = ys.length * i0.size := by rw [hz1]; exact hr.1
      obtain ⟨v1, w1, k1, k2, k3⟩ := run_append_arg_grows (P := P) (w := w) t ty e i0 z i0.size bytes ht hi0 hz0 rfl hz2 (by rw [hz1]; exact hz) (by omega) ⟨g, 0, none⟩ 0 0 [] (by simp) (fun j u hj => by simp at hj) ⟨gy, 0, none⟩ ys.length c inner hil (fun j u hj => by
        rw [add_plain]
        have r4' : cur.toList.take (ys.length * sz) = inner := r4
        have hjl : j < ys.length * sz := by rw [← hz1, ← hil]; exact (List.getElem?_eq_some_iff.1 hj).1
        rw [← r4', List.getElem?_take_of_lt hjl] at hj
        rw [(Blk.mk hh).cell]
        simpa using hj) (by omega) (by simp only [maxLen]; omega) (by rw [Nat.zero_add]; exact hl)
      rw [Nat.zero_add, hz1] at k2
      rw [List.nil_append] at k2
      refine ⟨v1, w1, k1, ⟨fun k _ => trivial, inner, own_weaken k2 hB, hr⟩, ⟨k3.os, k3.tape, k3.output, k3.size, fun j hj => k3.block j hj (by simp)⟩⟩
end
end Go.Proofs.Ytddhngalokmdoaa.Arr
