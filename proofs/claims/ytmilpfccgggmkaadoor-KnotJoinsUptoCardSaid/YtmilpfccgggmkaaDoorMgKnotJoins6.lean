/- Texts of this claim, merged: Kgo, Kjo, Ops, Opa, Opt, Otu. -/
import Derived.Test.YtmilpfccgggmkaaDoorMgKnotJoins5
import Derived.Lib.SmallJoins
import Derived.ChangeMaps5
import Derived.WalkKit
import Derived.ProofKit
import Derived.OpenShut
import Derived.Test.YtmilpfccgggmkaaDoorRows
import Derived.Deep.Slices
import Derived.Lib.LaidTab
/- The law KnotGoes: its walk. -/
namespace Go.Proofs.YtmilpfccgggmkaaDoor.Knt
open Go.RowKit Go.Proofs.YtmilpfccgggmkaaDoorW.PrintWords Go.Proofs.YtmilpfccgggmkaaDoorW.PrintLast Go.Proofs.YtmilpfccgggmkaaDoorW.PrintMore Go.Proofs.YtmilpfccgggmkaaDoor.Arr Go.Proofs.YtmilpfccgggmkaaDoor.PKnotTies
set_option linter.unusedVariables false
set_option linter.unusedSimpArgs false

abbrev subS (x : S42) : List UInt8 := subT x.f3.f0 x.f3.f1 x.f3.f2
def subsT : List S42 → List UInt8
  | [] => []
  | x :: xs => subS x ++ subsT xs
theorem subsT_append (xs ys : List S42) : subsT (xs ++ ys) = subsT xs ++ subsT ys := by
  induction xs with
  | nil => rfl
  | cons x xs ih => simp [subsT, ih]
theorem subsT_take (xs : List S42) (i : Nat) (hi : i < xs.length) : subsT (xs.take (i + 1)) = subsT (xs.take i) ++ subS xs[i] := by
  rw [← List.take_append_getElem hi, subsT_append]
  simp [subsT]
theorem subsT_len (xs : List S42) (h : total xs < 9007199254740993) : (subsT xs).length ≤ total xs + 90 * xs.length := by
  induction xs with
  | nil => simp [subsT]
  | cons x xs ih =>
    simp only [total] at h
    have h3 := sub3_len x (by omega)
    have h2 := ih (by omega)
    simp only [subsT, subS, total, List.length_append, List.length_cons]
    omega
theorem subsT_take_len (xs : List S42) (i : Nat) : (subsT (xs.take i)).length ≤ (subsT xs).length := by
  have h : subsT xs = subsT (xs.take i) ++ subsT (xs.drop i) := by rw [← subsT_append, List.take_append_drop]
  rw [h, List.length_append]
  omega
theorem subsT_drop_len (xs : List S42) (i : Nat) : (subsT (xs.drop i)).length ≤ (subsT xs).length := by
  have h : subsT xs = subsT (xs.take i) ++ subsT (xs.drop i) := by rw [← subsT_append, List.take_append_drop]
  rw [h, List.length_append]
  omega
theorem tabs_only {g : Nat} {w w1 w2 : World} (hT : Gly.Tabs w) (hb : Below w.heap.size w w1) (hg : w.heap.size ≤ g) (ho : Only [g] w1 w2) : Gly.Tabs w2 :=
  Gly.Tabs.below hT (hb.trans (ho.below (B := w.heap.size) hb.size (fun k hk => by rw [List.mem_singleton.1 hk]; exact hg)))
set_option maxHeartbeats 16000000 in
set_option maxRecDepth 100000 in
theorem goes_small (m : Nat) (hm : m ≤ 9007199254740992) (s : ByteArray) (hs : s.size ≤ 2000) (A : Option Addr) (c : Nat) (xs : List S42) (hx : xs.length ≤ 60) (hc : xs.length ≤ c) (ht : total xs ≤ 2000000) (w : World) (hC : Kd.C k42 w A xs.length xs) (hP : Pow w) (hT : Gly.Tabs w) :
    Calls Tryd.prog 7 #[.int .i64 (m : Int), .string s, .slice A xs.length c] w fun e w' => e = .returned (.bool true) ∧ Below w.heap.size w w' := by
  have hu42 := Tryd.underlying42
  have t1 : decide ((s.size : Int) > 2000) = false := decide_eq_false (by omega)
  have t2 : decide ((xs.length : Int) > 60) = false := decide_eq_false (by omega)
  have t3 : decide ((m : Int) < 0) = false := decide_eq_false (by omega)
  have t4 : decide ((m : Int) > 9007199254740992) = false := decide_eq_false (by omega)
  have PB := Aside0.mk (Lib.tabBelow_of_tabIs hP : PowB w.heap.size w)
  have HC := Aside0.mk hC
  have HT := Aside0.mk hT
  clear hC hP hT
  go_enter Tryd.func7, Tryd.ntmps7
  go_wp2_with fail
  refine (awake_calls w PB.out.here).mono ?_
  rintro e w1 ⟨rfl, b1⟩
  have k0 := (kat_new w.heap.size w1 b1.size)
  have hz1 := b1.size
  have B2 := Aside0.mk (b1.alloc b1.size (.cells #[.slice none 0 0] TK))
  have K2 := Aside0.mk k0
  clear b1 k0
  go_wp2_with fail
  refine (new_calls w1).mono ?_
  rintro e w2 ⟨rfl, rfl⟩
  obtain ⟨g, hg⟩ : ∃ g, w1.heap.size = g := ⟨_, rfl⟩
  rw [hg] at K2
  have gz : w.heap.size ≤ g := by rw [← hg]; exact hz1
  go_wp2_with fail
  clear hg
  generalize w1.alloc (.cells #[.slice none 0 0] TK) = W2 at *
  refine (mark_calls w.heap.size g [] [g] true (by simp) W2 K2.out).mono ?_
  rintro e w3 ⟨rfl, hp⟩
  have bb := KPut.belowB K2.out hp
  obtain ⟨S3, k3, -, -⟩ := hp
  have B3 := Aside0.mk (B2.out.trans bb)
  have K3 := Aside0.mk k3
  clear bb k3 B2 K2
  go_wp2_with fail
  refine (number_calls w.heap.size g _ S3 m hm (by simp [markT]) w3 K3.out (PB.out.on B3.out)).mono ?_
  rintro e w4 ⟨rfl, hp⟩
  have bb := KPut.belowB K3.out hp
  obtain ⟨S4, k4, -, -⟩ := hp
  have B4 := Aside0.mk (B3.out.trans bb)
  have hP1 : (numT m).length ≤ 21 := numT_len m (by omega)
  obtain ⟨P, hPP⟩ : ∃ P, markT true ++ numT m = P := ⟨_, rfl⟩
  have hPz : P.length ≤ 22 := by rw [← hPP, List.length_append]; simp [markT]; omega
  have k4' : KAt w.heap.size w4 g P S4 := by rw [← hPP]; simpa using k4
  have K4 := Aside0.mk k4'
  have HPP := Aside0.mk hPP
  have hsl := subsT_len xs (by omega)
  clear bb k4 k4' B3 K3 hPP hP1
  go_wp2
  go_loopw [42] (fun v42 wr => ∃ (i : Int), v42 = .int .i64 i ∧ 0 ≤ i ∧ i ≤ (xs.length : Int) ∧ Aside0 (∀ x, x ∈ xs.take i.toNat → goodS x = true) ∧ Aside0 (∃ S1, KAt w.heap.size wr g (P ++ subsT (xs.take i.toNat)) S1) ∧ Aside0 (Below w.heap.size w wr)) (fun v42 _ => xs.length - (intOf v42).toNat)
  case atStart => exact ⟨0, rfl, by omega, by omega, ⟨fun x hx => by simp at hx⟩, ⟨S4, by simpa [subsT] using K4.out⟩, B4⟩
  case round =>
    clear K4 B4
    obtain ⟨i, rfl, hi0, hin, hgd, hk, hb⟩ := hrel
    have hlt := subsT_take_len xs i.toNat
    by_cases hi : i < (xs.length : Int)
    · have c1 : decide (i < (xs.length : Int)) = true := decide_eq_true hi
      obtain ⟨hit, hrd⟩ := rd_at xs i hi0 hi
      obtain ⟨ad, eA, hx0, hx1, hx2, hx3, hx4, hx5⟩ := at_T42 HC.out i hi0 hi
      cases eA
      obtain ⟨S1, k1⟩ := hk.out
      have hbr := hb.out
      replace hx0 := (hbr.cell (World.block_lt_of_cell? w _ hx0)).trans hx0
      replace hx1 := (hbr.cell (World.block_lt_of_cell? w _ hx1)).trans hx1
      replace hx2 := (hbr.cell (World.block_lt_of_cell? w _ hx2)).trans hx2
      replace hx3 := (hbr.cell (World.block_lt_of_cell? w _ hx3)).trans hx3
      replace hx4 := (hbr.cell (World.block_lt_of_cell? w _ hx4)).trans hx4
      replace hx5 := (hbr.cell (World.block_lt_of_cell? w _ hx5)).trans hx5
      have hsx := size_at xs i.toNat hit
      have hft := subsT_take xs i.toNat hit
      have htk := List.take_append_getElem hit
      rw [← hrd] at hft hsx htk
      generalize hxx : rd_T42 xs i = x at *
      have hls := sub3_len x (by omega)
      have hsum := hsx
      unfold sizeS sum6 at hsum
      obtain ⟨W, hW⟩ : ∃ W, wr.alloc (.cells #[.string x.f0, .string x.f1, .string x.f2, .string x.f3.f0, .string x.f3.f1, .string x.f3.f2] 42) = W := ⟨_, rfl⟩
      have b0 : Below wr.heap.size wr W := by rw [← hW]; exact (Below.refl _ _).alloc (Nat.le_refl _) _
      have RW : Blk W wr.heap.size 42 #[.string x.f0, .string x.f1, .string x.f2, .string x.f3.f0, .string x.f3.f1, .string x.f3.f2] := by rw [← hW]; exact Blk.new _ _ _
      have RW0 := Aside0.mk RW
      have y0 := RW.cell 0
      have y1 := RW.cell 1
      have y2 := RW.cell 2
      have y3 := RW.cell 3
      have y4 := RW.cell 4
      have y5 := RW.cell 5
      have ylt := RW.lt
      have KW := Aside0.mk (k1.below b0)
      have BW := Aside0.mk (hb.out.trans (b0.mono hb.out.size))
      have HF := Aside0.mk hft
      have HTK := Aside0.mk htk
      have p0 := eq_true hi0
      have p1 := eq_true hi
      clear hk k1 hb hbr b0 RW hft hrd hxx htk
      go_wp2_with fail
      clear hW hx0 hx1 hx2 hx3 hx4 hx5
      refine (Bnd.rtgood_calls x.f0 x.f1 x.f2 x.f3.f0 x.f3.f1 x.f3.f2 ⟨by omega, by omega, by omega, by omega, by omega, by omega⟩ W).mono ?_
      rintro e wa ⟨rfl, ba⟩
      have RA := RW0.out.below ba
      have KA := Aside0.mk (KW.out.below ba)
      have BA := Aside0.mk (BW.out.trans (ba.mono BW.out.size))
      clear y0 y1 y2 y3 y4 y5 ylt ba RW0 KW BW
      cases hgx : goodS x with
      | false =>
        have hgx' : Bnd.tupGood x.f0 x.f1 x.f2 x.f3.f0 x.f3.f1 x.f3.f2 = false := hgx
        rw [hgx']
        clear hgx hgx' RA
        go_wp2
        go_ret
        exact ⟨rfl, BA.out⟩
      | true =>
        have hgx' : Bnd.tupGood x.f0 x.f1 x.f2 x.f3.f0 x.f3.f1 x.f3.f2 = true := hgx
        rw [hgx']
        have HGX := Aside0.mk hgx
        clear hgx hgx'
        have y3 := RA.cell 3
        have y4 := RA.cell 4
        have y5 := RA.cell 5
        have ylt := RA.lt
        clear RA
        go_wp2_with fail
        clear y3 y4 y5 ylt
        refine (subject_calls w.heap.size g (P ++ subsT (xs.take i.toNat)) S1 x.f3.f0 x.f3.f1 x.f3.f2 (by rw [List.length_append]; omega) wa KA.out (PB.out.on BA.out)).mono ?_
        rintro e wb ⟨rfl, hp⟩
        have bb := KPut.belowB KA.out hp
        obtain ⟨S2, k2, -, -⟩ := hp
        have BB := Aside0.mk (BA.out.trans bb)
        have KB := Aside0.mk k2
        clear bb k2 BA KA
        have hi1 : (i + 1).toNat = i.toNat + 1 := by omega
        have hw : IntKind.i64.wrap (i + 1) = i + 1 := IntWalk.i64_in _ (by omega)
        go_wp2
        go_roundw
        case rel => exact ⟨i + 1, by first | rfl | (rw [hw]) | simp [hw], by omega, by omega, ⟨by
          rw [hi1, ← HTK.out]
          intro y hy
          rcases List.mem_append.1 hy with hy | hy
          · exact hgd.out y hy
          · rw [List.mem_singleton.1 hy]; exact HGX.out⟩, ⟨S2, by rw [hi1, HF.out, ← List.append_assoc]; exact KB.out⟩, BB⟩
        case measure => simp [intOf, hw]; omega
    · have c1 : decide (i < (xs.length : Int)) = false := decide_eq_false hi
      obtain ⟨we, rfl⟩ : ∃ we : World, we = wr := ⟨_, rfl⟩
      have e1 : i.toNat = xs.length := by omega
      rw [e1, List.take_length] at hgd hk
      obtain ⟨S1, k1⟩ := hk.out
      have KE := Aside0.mk k1
      have HG := Aside0.mk hgd.out
      have BE := Aside0.mk hb.out
      have hfl := flatS_len xs (by omega)
      have hnl := numT_len xs.length (by omega)
      have hts : (textT s).length ≤ 2030 := by have := textT_len s (by omega); omega
      have htl : (tuplesT xs).length ≤ 3000000 := by unfold tuplesT; rw [List.length_append]; omega
      have hsl2 : (subsT xs).length ≤ 3000000 := by omega
      clear hk k1 hb hlt hgd hsl
      go_wp2_with fail
      refine (tuples_calls w A c xs HC.out hc g (P ++ subsT xs) S1 (by omega) (by rw [List.length_append]; omega) we BE.out KE.out (PB.out.on BE.out)).mono ?_
      rintro e w7 ⟨rfl, hp⟩
      have bb := KPut.belowB KE.out hp
      obtain ⟨S7, k7, -, -⟩ := hp
      have B7 := Aside0.mk (BE.out.trans bb)
      have K7 := Aside0.mk k7
      clear bb k7 BE KE hfl hnl
      go_wp2_with fail
      refine (text_calls w.heap.size g (P ++ subsT xs ++ tuplesT xs) S7 s (by omega) (by rw [List.length_append, List.length_append]; omega) w7 K7.out (PB.out.on B7.out)).mono ?_
      rintro e w8 ⟨rfl, hp⟩
      have bb := KPut.belowB K7.out hp
      obtain ⟨S8, k8, -, -⟩ := hp
      have B8 := Aside0.mk (B7.out.trans bb)
      obtain ⟨L, hL⟩ : ∃ L, P ++ subsT xs ++ tuplesT xs ++ textT s = L := ⟨_, rfl⟩
      rw [hL] at k8
      have hLz : L.length ≤ 10000000 := by rw [← hL, List.length_append, List.length_append, List.length_append]; omega
      have eL : L = markT true ++ (numT m ++ (subsT xs ++ (tuplesT xs ++ textT s))) := by
        rw [← hL, ← HPP.out]
        simp only [List.append_assoc]
      have EL := Aside0.mk eL
      have K8 := Aside0.mk k8
      clear bb k8 B7 K7 hL eL
      go_wp2_with fail
      refine (bytes_calls w.heap.size g L S8 (by omega) w8 K8.out).mono ?_
      rintro e wc ⟨vc, rfl, oc, bc⟩
      obtain ⟨Av, cv, rfl, hrv⟩ := oc.reads
      have BC := Aside0.mk (B8.out.trans (bc.mono B8.out.size))
      obtain ⟨n, hn⟩ : ∃ n, L.length = n := ⟨_, rfl⟩
      have KO := Aside0.mk (open_calls Av cv L wc hrv)
      rw [hn] at KO
      rw [hn]
      have HN := Aside0.mk hn
      clear oc bc hrv B8 K8 hn
      go_wp2_with fail
      refine KO.out.mono ?_
      rintro e w9 ⟨rfl, rfl⟩
      obtain ⟨gi, hgi⟩ : ∃ gi, wc.heap.size = gi := ⟨_, rfl⟩
      have I9 := Aside0.mk (show IBlk (wc.alloc (.cells #[.string (str L), .bool false] TI)) gi L false from Blk.newAt hgi.symm)
      have B9 := Aside0.mk (BC.out.alloc BC.out.size (.cells #[.string (str L), .bool false] TI))
      have giz : w.heap.size ≤ gi := by rw [← hgi]; exact BC.out.size
      clear KO BC
      go_wp2_with fail
      clear hgi
      generalize wc.alloc (.cells #[.string (str L), .bool false] TI) = w9 at *
      obtain ⟨L1, hL1⟩ : ∃ L1, subsT xs ++ (tuplesT xs ++ textT s) = L1 := ⟨_, rfl⟩
      have EL' := EL.out
      rw [hL1] at EL'
      have KM := imark_calls gi L (by omega) false w9 I9.out
      rw [EL', markP_mark] at KM
      refine KM.mono ?_
      rintro e wd ⟨rfl, id, od⟩
      have BD := Aside0.mk (B9.out.trans (od.below (B := w.heap.size) B9.out.size (fun k hk => by rw [List.mem_singleton.1 hk]; exact giz)))
      have ID := Aside0.mk id
      have hlen1 : (numT m ++ L1).length ≤ 140737488355328 := by
        have : L.length = (markT true).length + (numT m ++ L1).length := by rw [EL', List.length_append]
        omega
      have HL1 := Aside0.mk hL1
      clear KM id od B9 I9 EL EL' hL1
      go_wp2_with fail
      have KN := inum_calls gi (numT m ++ L1) hlen1 false (m : Int) wd ID.out
      rw [numP_num m (by omega) (m : Int) (Int.le_refl _)] at KN
      refine KN.mono ?_
      rintro e we ⟨rfl, ie, oe⟩
      have BE := Aside0.mk (BD.out.trans (oe.below (B := w.heap.size) BD.out.size (fun k hk => by rw [List.mem_singleton.1 hk]; exact giz)))
      rw [← HL1.out] at ie
      have IE := Aside0.mk ie
      clear KN ie oe BD ID
      go_wp2_with fail
      go_loopw [79] (fun v79 wr => ∃ (i : Int), v79 = .int .i64 i ∧ 0 ≤ i ∧ i ≤ (xs.length : Int) ∧ Aside0 (IBlk wr gi (subsT (xs.drop i.toNat) ++ (tuplesT xs ++ textT s)) false) ∧ Aside0 (Below w.heap.size w wr)) (fun v79 _ => xs.length - (intOf v79).toNat)
      case atStart => exact ⟨0, rfl, by omega, by omega, ⟨by simpa using IE.out⟩, BE⟩
      case round =>
        clear IE BE
        obtain ⟨i, rfl, hi0, hin, hI, hb⟩ := hrel
        have hdl := subsT_drop_len xs i.toNat
        by_cases hi : i < (xs.length : Int)
        · have d1 : decide (i < (xs.length : Int)) = true := decide_eq_true hi
          obtain ⟨hit, hrd⟩ := rd_at xs i hi0 hi
          obtain ⟨ad, eA, hx0, hx1, hx2, hx3, hx4, hx5⟩ := at_T42 HC.out i hi0 hi
          cases eA
          have hbr := hb.out
          replace hx0 := (hbr.cell (World.block_lt_of_cell? w _ hx0)).trans hx0
          replace hx1 := (hbr.cell (World.block_lt_of_cell? w _ hx1)).trans hx1
          replace hx2 := (hbr.cell (World.block_lt_of_cell? w _ hx2)).trans hx2
          replace hx3 := (hbr.cell (World.block_lt_of_cell? w _ hx3)).trans hx3
          replace hx4 := (hbr.cell (World.block_lt_of_cell? w _ hx4)).trans hx4
          replace hx5 := (hbr.cell (World.block_lt_of_cell? w _ hx5)).trans hx5
          have hgx : goodS (rd_T42 xs i) = true := by rw [hrd]; exact HG.out _ (List.getElem_mem hit)
          have hft : subsT (xs.drop i.toNat) ++ (tuplesT xs ++ textT s) = subS (rd_T42 xs i) ++ (subsT (xs.drop (i.toNat + 1)) ++ (tuplesT xs ++ textT s)) := by
            rw [List.drop_eq_getElem_cons hit, hrd]
            show (subS _ ++ subsT _) ++ _ = _
            rw [List.append_assoc]
          generalize hxx : rd_T42 xs i = x at *
          obtain ⟨s0, s1, s2, s3, s4, s5⟩ := good_small x hgx
          have hsj := good_subj x hgx
          have hI1 := hI.out
          have hlen2 : (subsT (xs.drop i.toNat) ++ (tuplesT xs ++ textT s)).length ≤ 140737488355328 := by
            rw [List.length_append, List.length_append]
            omega
          rw [hft] at hI1 hlen2
          obtain ⟨L2, hL2⟩ : ∃ L2, subsT (xs.drop (i.toNat + 1)) ++ (tuplesT xs ++ textT s) = L2 := ⟨_, rfl⟩
          rw [hL2] at hI1 hlen2
          have hFr := front_sub x.f3.f0 x.f3.f1 x.f3.f2 s3 s4 s5 L2
          obtain ⟨Lx, hLx⟩ : ∃ Lx, subS x ++ L2 = Lx := ⟨_, rfl⟩
          rw [show subT x.f3.f0 x.f3.f1 x.f3.f2 ++ L2 = Lx from hLx] at hFr
          rw [hLx] at hI1 hlen2
          have HFR := Aside0.mk hFr
          have HSJ := Aside0.mk hsj
          have HL2 := Aside0.mk hL2
          obtain ⟨nx, hnx⟩ : ∃ nx, wr.heap.size = nx := ⟨_, rfl⟩
          obtain ⟨W, hW⟩ : ∃ W, wr.alloc (.cells #[.string x.f0, .string x.f1, .string x.f2, .string x.f3.f0, .string x.f3.f1, .string x.f3.f2] 42) = W := ⟨_, rfl⟩
          have b0 : Below wr.heap.size wr W := by rw [← hW]; exact (Below.refl _ _).alloc (Nat.le_refl _) _
          have RW : Blk W nx 42 #[.string x.f0, .string x.f1, .string x.f2, .string x.f3.f0, .string x.f3.f1, .string x.f3.f2] := by rw [← hW]; exact Blk.newAt hnx.symm
          have IW := hI1.below b0
          have BW := hb.out.trans (b0.mono hb.out.size)
          have hgn : gi ≠ nx := by have := hI1.lt; omega
          have HE0 : IBlk W.drew gi (two 0 Lx L2) false ∧ Blk W.drew nx 42 #[.string x.f0, .string x.f1, .string x.f2, .string x.f3.f0, .string x.f3.f1, .string x.f3.f2] ∧ Below w.heap.size w W.drew := ⟨IW.drew, RW.drew, BW.drew⟩
          have p0 := eq_true hi0
          have p1 := eq_true hi
          have HE := Aside0.mk HE0
          have HGN := Aside0.mk hgn
          clear hI hI1 hb hbr b0 RW IW BW hft hrd hxx HE0 hgx hFr hsj hL2 hLx hgn
          go_wp2_with fail
          clear hW hx0 hx1 hx2 hx3 hx4 hx5 hnx
          have hng : nx ∉ [gi] := by have := HGN.out; simp; omega
          refine Qy.wp_region_all (Only [gi]) (fun f args u w' => True) (fun f args u => (f = 27 → u = .agg #[.string x.f3.f0, .string x.f3.f1, .string x.f3.f2]) ∧ (f = 34 → u = .int .i64 (Who.kindV x.f3.f0 x.f3.f1 x.f3.f2 : Int))) (fun p w' => IBlk w' gi (two p Lx L2) false ∧ Blk w' nx 42 #[.string x.f0, .string x.f1, .string x.f2, .string x.f3.f0, .string x.f3.f1, .string x.f3.f2] ∧ Below w.heap.size w w') [1] (by kernel_rfl) (by kernel_rfl) HE.out ?_
          clear HE
          ((with_reducible refine Qy.y_val ⟨fun _ _ _ hF h w' h1 h2 => h w' h1 fun k => hF k _ (h2 k)⟩ ?_ ?_ ?_ ?_ ?_); (focus (first | exact fun _ => Only.refl _ _ | exact fun _ => Below.refl _ _)); (focus (exact fun _ => trivial)); (focus (first | rfl | decide)); (first | (focus (exact Qy.wanted_none rfl)) | (focus (exact Qg.wanted_on rfl rfl rfl))); apply Exists.intro; refine ⟨?_, ?_⟩; (focus (intro p' w' hw' hp'; skip; go_simp; (first | done | (with_reducible rfl)))); intro K hK; go_simp; refine hK _ ?_; clear hK K)
          ((with_reducible refine Qy.y_turn 0 ?_ ?_ ?_); (focus (first | rfl | decide)); (first | (focus (exact Qy.wanted_none rfl)) | (focus (exact Qg.wanted_on rfl rfl rfl))); apply Exists.intro; apply Exists.intro; refine ⟨?_, ?_, ?_, ?_, ?_⟩; (focus (intro w'; go_simp; (first | rfl | exact ⟨rfl, rfl⟩))); (focus (exact ⟨_, fun _ => rfl, fun h => by cases h⟩)); (focus (exact fun u w1 w2 h hb => trivial)); (focus (intro w' hw' hp'; refine (isubject_ok gi Lx hlen2 x.f3.f0 x.f3.f1 x.f3.f2 (by omega) (by omega) (by omega) L2 HFR.out HSJ.out w' hw'.1 (fun w1 ho => tabs_only HT.out hw'.2.2 giz ho)).mono ?_; rintro e w8 ⟨rfl, i8, o8⟩; exact ⟨_, rfl, o8, ⟨i8, hw'.2.1.only o8 hng, hw'.2.2.trans (o8.below (B := w.heap.size) hw'.2.2.size (fun k hk => by rw [List.mem_singleton.1 hk]; exact giz))⟩, ⟨fun _ => rfl, fun h => by cases h⟩, trivial⟩)); rintro u8 ⟨h8, -⟩; have e8 := h8 rfl; subst e8; clear h8; intro K hK; go_simp; refine hK _ ?_; clear hK K)
          iterate 2 ((with_reducible refine Qy.y_val ⟨fun _ _ _ hF h w' h1 h2 => h w' h1 fun k => hF k _ (h2 k)⟩ ?_ ?_ ?_ ?_ ?_); (focus (first | exact fun _ => Only.refl _ _ | exact fun _ => Below.refl _ _)); (focus (exact fun _ => trivial)); (focus (first | rfl | decide)); (first | (focus (exact Qy.wanted_none rfl)) | (focus (exact Qg.wanted_on rfl rfl rfl))); apply Exists.intro; refine ⟨?_, ?_⟩; (focus (intro p' w' hw' hp'; have y3 := hw'.2.1.cell 3; have y4 := hw'.2.1.cell 4; have y5 := hw'.2.1.cell 5; have l0 := hw'.2.1.lt; go_simp; (first | done | (with_reducible rfl)))); intro K hK; go_simp; refine hK _ ?_; clear hK K)
          iterate 2 ((with_reducible refine Qy.y_val ⟨fun _ _ _ hF h w' h1 h2 => h w' h1 fun k => hF k _ (h2 k)⟩ ?_ ?_ ?_ ?_ ?_); (focus (first | exact fun _ => Only.refl _ _ | exact fun _ => Below.refl _ _)); (focus (exact fun _ => trivial)); (focus (first | rfl | decide)); (first | (focus (exact Qy.wanted_none rfl)) | (focus (exact Qg.wanted_on rfl rfl rfl))); apply Exists.intro; refine ⟨?_, ?_⟩; (focus (intro p' w' hw' hp'; skip; go_simp; (first | done | (with_reducible rfl)))); intro K hK; go_simp; refine hK _ ?_; clear hK K)
          iterate 2 ((with_reducible refine Qy.y_val ⟨fun _ _ _ hF h w' h1 h2 => h w' h1 fun k => hF k _ (h2 k)⟩ ?_ ?_ ?_ ?_ ?_); (focus (first | exact fun _ => Only.refl _ _ | exact fun _ => Below.refl _ _)); (focus (exact fun _ => trivial)); (focus (first | rfl | decide)); (first | (focus (exact Qy.wanted_none rfl)) | (focus (exact Qg.wanted_on rfl rfl rfl))); apply Exists.intro; refine ⟨?_, ?_⟩; (focus (intro p' w' hw' hp'; have y3 := hw'.2.1.cell 3; have y4 := hw'.2.1.cell 4; have y5 := hw'.2.1.cell 5; have l0 := hw'.2.1.lt; go_simp; (first | done | (with_reducible rfl)))); intro K hK; go_simp; refine hK _ ?_; clear hK K)
          have hkk : (((Who.kindV x.f3.f0 x.f3.f1 x.f3.f2 : Nat) : Int) == 0) = false := by
            have h1 := HSJ.out
            rw [Who.subj_kind] at h1
            have h2 : Who.kindV x.f3.f0 x.f3.f1 x.f3.f2 ≠ 0 := by simpa using h1
            exact beq_eq_false_iff_ne.2 (by omega)
          ((with_reducible refine Qy.y_call ?_ ?_ ?_); (focus (first | rfl | decide)); (first | (focus (exact Qy.wanted_none rfl)) | (focus (exact Qg.wanted_on rfl rfl rfl))); apply Exists.intro; apply Exists.intro; refine ⟨?_, ?_, ?_, ?_, ?_⟩; (focus (intro w'; go_simp; (first | rfl | exact ⟨rfl, rfl⟩))); (focus (exact ⟨_, (fun h => by cases h), fun _ => rfl⟩)); (focus (exact fun u w1 w2 h hb => trivial)); (focus (intro p' w' hw' hp'; refine (Who.ref_kind_calls x.f3.f0 x.f3.f1 x.f3.f2 (by omega) (by omega) (by omega) w').mono ?_; rintro e w8 ⟨rfl, b8⟩; exact ⟨_, rfl, Only.of_below b8 [gi], ⟨hw'.1.below b8, hw'.2.1.below b8, hw'.2.2.trans (b8.mono hw'.2.2.size)⟩, ⟨(fun h => by cases h), fun _ => rfl⟩, trivial⟩)); rintro u9 ⟨-, h9⟩; have e9 := h9 rfl; subst e9; clear h9; intro K hK; go_simp; refine hK _ ?_; clear hK K)
          iterate 2 ((with_reducible refine Qy.y_val ⟨fun _ _ _ hF h w' h1 h2 => h w' h1 fun k => hF k _ (h2 k)⟩ ?_ ?_ ?_ ?_ ?_); (focus (first | exact fun _ => Only.refl _ _ | exact fun _ => Below.refl _ _)); (focus (exact fun _ => trivial)); (focus (first | rfl | decide)); (first | (focus (exact Qy.wanted_none rfl)) | (focus (exact Qg.wanted_on rfl rfl rfl))); apply Exists.intro; refine ⟨?_, ?_⟩; (focus (intro p' w' hw' hp'; skip; go_simp; (first | done | (with_reducible rfl)))); intro K hK; go_simp; refine hK _ ?_; clear hK K)
          ((with_reducible refine Qy.y_nil ?_); intro w' hw' hf')
          have IX := Aside0.mk (show IBlk w' gi L2 false from hw'.1)
          have BX := Aside0.mk hw'.2.2
          have hi1 : (i + 1).toNat = i.toNat + 1 := by omega
          have hw : IntKind.i64.wrap (i + 1) = i + 1 := IntWalk.i64_in _ (by omega)
          clear hw' hf' hkk
          go_wp2
          go_roundw
          case rel => exact ⟨i + 1, by first | rfl | (rw [hw]) | simp [hw], by omega, by omega, ⟨by rw [hi1, HL2.out]; exact IX.out⟩, BX⟩
          case measure => simp [intOf, hw]; omega
        · have d1 : decide (i < (xs.length : Int)) = false := decide_eq_false hi
          obtain ⟨wf, rfl⟩ : ∃ wf : World, wf = wr := ⟨_, rfl⟩
          have e1 : i.toNat = xs.length := by omega
          rw [e1, List.drop_length] at hI
          have IF := Aside0.mk (show IBlk wf gi (tuplesT xs ++ textT s) false from hI.out)
          have BF := Aside0.mk hb.out
          have hlen3 : (tuplesT xs ++ textT s).length ≤ 140737488355328 := by
            rw [List.length_append]
            omega
          clear hI hb hdl
          go_wp2_with fail
          refine (ituples_ok gi xs HG.out (by omega) (xs.length : Int) (Int.le_refl _) (textT s) hlen3 wf IF.out (fun w1 ho => tabs_only HT.out BF.out giz ho)).mono ?_
          rintro e wg ⟨A2, c2, rfl, hc2, hC2, ig, og⟩
          have BG := Aside0.mk (BF.out.trans (og.below (B := w.heap.size) BF.out.size (fun k hk => by rw [List.mem_singleton.1 hk]; exact giz)))
          have IG := Aside0.mk ig
          have CG := Aside0.mk hC2
          have CC := Aside0.mk hc2
          clear ig og hC2 hc2 IF BF
          go_wp2_with fail
          refine (same_eq_calls A2 A c2 c xs wg CG.out (Kd.C_below HC.out BG.out) CC.out hc).mono ?_
          rintro e wh ⟨rfl, bh⟩
          have BH := Aside0.mk (BG.out.trans (bh.mono BG.out.size))
          have IH := Aside0.mk (IG.out.below bh)
          clear bh BG IG CG CC
          go_wp2_with fail
          have hTP := textP_text s (s.size : Int) (Int.le_refl _) (by omega) []
          rw [List.append_nil] at hTP
          refine (itext_ok gi (textT s) (by omega) false (s.size : Int) s [] hTP wh IH.out).mono ?_
          rintro e wi ⟨rfl, ii, oi⟩
          have BI := Aside0.mk (BH.out.trans (oi.below (B := w.heap.size) BH.out.size (fun k hk => by rw [List.mem_singleton.1 hk]; exact giz)))
          have II := Aside0.mk ii
          clear hTP ii oi BH IH
          go_wp2_with fail
          refine (ileft_calls gi [] false wi II.out).mono ?_
          rintro e wj ⟨rfl, rfl⟩
          go_wp2_with fail
          refine (end_calls gi [] false wj II.out).mono ?_
          rintro e wk ⟨rfl, rfl⟩
          rw [show endV [] false = 0 from rfl]
          go_wp2
          go_ret
          exact ⟨rfl, BI.out⟩
set_option maxHeartbeats 4000000 in
theorem lawGoes_calls (n : Int) (s : ByteArray) (A : Option Addr) (c : Nat) (xs : List S42) (hc : xs.length ≤ c) (ht : total xs ≤ 2000000) (w : World) (hC : Kd.C k42 w A xs.length xs) (hP : Pow w) (hT : Gly.Tabs w) :
    Calls Tryd.prog 7 #[.int .i64 n, .string s, .slice A xs.length c] w fun e w' => e = .returned (.bool true) ∧ Below w.heap.size w w' := by
  by_cases hsm : (0 ≤ n ∧ n ≤ 9007199254740992) ∧ s.size ≤ 2000 ∧ xs.length ≤ 60
  · obtain ⟨m, rfl⟩ : ∃ m : Nat, n = (m : Int) := ⟨n.toNat, by omega⟩
    exact goes_small m (by omega) s hsm.2.1 A c xs hsm.2.2 hc ht w hC hP hT
  have big : decide (n < 0) = true ∨ (decide (n < 0) = false ∧ (decide (n > 9007199254740992) = true ∨ (decide (n > 9007199254740992) = false ∧ (decide ((s.size : Int) > 2000) = true ∨ (decide ((s.size : Int) > 2000) = false ∧ decide ((xs.length : Int) > 60) = true))))) := by
    simp only [decide_eq_true_eq, decide_eq_false_iff_not]
    omega
  have PB := Aside0.mk (Lib.tabBelow_of_tabIs hP : PowB w.heap.size w)
  clear hP hC hsm hT
  have HB0 := Aside0.mk (Below.refl w.heap.size w)
  rcases big with t1 | ⟨t1, t2 | ⟨t2, t3 | ⟨t3, t4⟩⟩⟩
  all_goals
    go_enter Tryd.func7, Tryd.ntmps7
    (go_wp2_with fail; refine (awake_calls w PB.out.here).mono ?_; rintro e w1 ⟨rfl, hb1⟩; have HB1 := Aside0.mk (HB0.out.trans (hb1.mono HB0.out.size)); clear hb1)
    (go_wp2_with fail; refine (awake_calls w1 (PB.out.on HB1.out).here).mono ?_; rintro e w2 ⟨rfl, hb2⟩; have HB2 := Aside0.mk (HB1.out.trans (hb2.mono HB1.out.size)); clear hb2)
    go_wp2
    go_ret
    exact ⟨rfl, HB2.out⟩
end Go.Proofs.YtmilpfccgggmkaaDoor.Knt

/- The law KnotJoins: its walk. -/
namespace Go.Proofs.YtmilpfccgggmkaaDoor.Knt
open Go.RowKit Go.Proofs.YtmilpfccgggmkaaDoorW.PrintWords Go.Proofs.YtmilpfccgggmkaaDoorW.PrintLast Go.Proofs.YtmilpfccgggmkaaDoorW.PrintMore Go.Proofs.YtmilpfccgggmkaaDoor.Arr Go.Proofs.YtmilpfccgggmkaaDoor.PKnotTies
set_option linter.unusedVariables false
set_option linter.unusedSimpArgs false

/-! ### three Knots -/
def dis (S T : List Nat) : Prop := ∀ i, i ∈ S → i ∉ T
theorem dis.symm {S T : List Nat} (h : dis S T) : dis T S := fun i hi hm => h i hm hi
def K3 (B : Nat) (w : World) (ga : Nat) (la : List UInt8) (gb : Nat) (lb : List UInt8) (gc : Nat) (lc : List UInt8) : Prop :=
  ∃ Sa Sb Sc, KAt B w ga la Sa ∧ KAt B w gb lb Sb ∧ KAt B w gc lc Sc ∧ dis Sa Sb ∧ dis Sa Sc ∧ dis Sb Sc
section
variable {B : Nat} {w w1 : World} {ga gb gc : Nat} {la lb lc : List UInt8}
theorem K3.put {la' : List UInt8} {Sa Sb Sc : List Nat} (hp : KPut B Sa w w1 ga la') (kb : KAt B w gb lb Sb) (kc : KAt B w gc lc Sc) (d1 : dis Sa Sb) (d2 : dis Sa Sc) (d3 : dis Sb Sc) : K3 B w1 ga la' gb lb gc lc := by
  obtain ⟨S1, k1, o1, -, t⟩ := hp.take (Sb ++ Sc) (fun i hi => by
    rcases List.mem_append.1 hi with h | h
    · exact ⟨(kb.base i h).2, d1.symm i h⟩
    · exact ⟨(kc.base i h).2, d2.symm i h⟩)
  exact ⟨S1, Sb, Sc, k1, kb.only o1 (fun k hk => d1.symm k hk), kc.only o1 (fun k hk => d2.symm k hk), fun i hi hm => (t i (List.mem_append_left _ hm)).2 hi, fun i hi hm => (t i (List.mem_append_right _ hm)).2 hi, d3⟩
theorem K3.bac (h : K3 B w ga la gb lb gc lc) : K3 B w gb lb ga la gc lc := by
  obtain ⟨Sa, Sb, Sc, ka, kb, kc, d1, d2, d3⟩ := h
  exact ⟨Sb, Sa, Sc, kb, ka, kc, d1.symm, d3, d2⟩
theorem K3.cab (h : K3 B w ga la gb lb gc lc) : K3 B w gc lc ga la gb lb := by
  obtain ⟨Sa, Sb, Sc, ka, kb, kc, d1, d2, d3⟩ := h
  exact ⟨Sc, Sa, Sb, kc, ka, kb, d2.symm, d3.symm, d1⟩
theorem K3.below (h : K3 B w ga la gb lb gc lc) (hb : Below w.heap.size w w1) : K3 B w1 ga la gb lb gc lc := by
  obtain ⟨Sa, Sb, Sc, ka, kb, kc, d⟩ := h
  exact ⟨Sa, Sb, Sc, ka.below hb, kb.below hb, kc.below hb, d⟩
/-- A step upon the first one. -/
theorem K3.step {la' : List UInt8} {f : FuncId} {args : Array Value} {v : Value} (h : K3 B w ga la gb lb gc lc)
    (hc : ∀ S, KAt B w ga la S → Calls Tryd.prog f args w fun e w' => e = .returned v ∧ KPut B S w w' ga la') :
    Calls Tryd.prog f args w fun e w' => e = .returned v ∧ K3 B w' ga la' gb lb gc lc ∧ Below B w w' := by
  obtain ⟨Sa, Sb, Sc, ka, kb, kc, d1, d2, d3⟩ := h
  refine (hc Sa ka).mono ?_
  rintro e w' ⟨rfl, hp⟩
  exact ⟨rfl, K3.put hp kb kc d1 d2 d3, KPut.belowB ka hp⟩
theorem K3.bytes (h : K3 B w ga la gb lb gc lc) (hl : la.length ≤ 140737488355328) :
    Calls Tryd.prog 11 #[.pointer (some ⟨ga, 0, none⟩)] w fun e w' => ∃ v, e = .returned v ∧ Own w.heap.size w' v la ∧ Below w.heap.size w w' := by
  obtain ⟨Sa, Sb, Sc, ka, kb, kc, d1, d2, d3⟩ := h
  exact bytes_calls B ga la Sa hl w ka
theorem K3.size (h : K3 B w ga la gb lb gc lc) : B ≤ w.heap.size := by
  obtain ⟨Sa, Sb, Sc, ka, kb, kc, d1, d2, d3⟩ := h
  exact ka.size
end
/-- What the calls of the last region yield. -/
structure SVj (ga gc na nc nx : Nat) (s us : ByteArray) (r : Nat) (f : FuncId) (args : Array Value) (u : Value) : Prop where mk ::
  c : f = 11 → args = #[.pointer (some ⟨gc, 0, none⟩)] → ∃ A c, u = .slice A nc c
  a : f = 11 → args = #[.pointer (some ⟨ga, 0, none⟩)] → ∃ A c, u = .slice A na c
  t : f = 29 → ∃ A c, u = .slice A nx c
  m : f = 33 → u = .bool true
  x : f = 25 → u = .string s
  l : f = 30 → u = .int .i64 (r : Int)
  k : f = 16 → u = .string us
structure Sj (gi gc : Nat) (Lc : List UInt8) (xs : List S42) (f : FuncId) (args : Array Value) (u : Value) (w : World) : Prop where mk ::
  c : f = 11 → args = #[.pointer (some ⟨gc, 0, none⟩)] → Own 0 w u Lc ∧ ∀ k, k ∈ rowB u → k ≠ gi
  t : f = 29 → Kd.R k42 TT w 0 (fun k => k ≠ gi) u xs
theorem sj_stb (gi gc : Nat) (Lc : List UInt8) (xs : List S42) (f : FuncId) (args : Array Value) (u : Value) : Qy.Stb (Only [gi]) (Sj gi gc Lc xs f args u) := fun w w' h ho =>
  ⟨fun h1 h2 => ⟨(h.c h1 h2).1.only ho (fun k hk => by simpa using (h.c h1 h2).2 k hk), (h.c h1 h2).2⟩, fun h1 => Kd.R_step (h.t h1) (fun k hk hlt => ho.block k hlt (by simpa using hk))⟩
def st3 {α : Type} (p : Nat) (x y z : α) : α := match p with | 0 => x | 1 => x | 2 => x | 3 => y | 4 => y | 5 => y | _ => z
set_option maxHeartbeats 16000000 in
set_option maxRecDepth 100000 in
theorem joins_small (A A' : Option Addr) (c c' : Nat) (xs ys : List S42) (s : ByteArray) (hs : s.size ≤ 1000) (hx : xs.length ≤ 40) (hy : ys.length ≤ 40) (hc : xs.length ≤ c) (hc' : ys.length ≤ c') (ht : total xs ≤ 2000000) (ht' : total ys ≤ 2000000) (w : World)
    (hC : Kd.C k42 w A xs.length xs) (hC' : Kd.C k42 w A' ys.length ys) (hP : Pow w) (hT : Gly.Tabs w) :
    Calls Tryd.prog 6 #[.slice A xs.length c, .slice A' ys.length c', .string s] w fun e w' => e = .returned (.bool true) ∧ Below w.heap.size w w' := by
  have hu42 := Tryd.underlying42
  have t1 : decide ((s.size : Int) > 1000) = false := decide_eq_false (by omega)
  have t2 : decide ((xs.length : Int) > 40) = false := decide_eq_false (by omega)
  have t3 : decide ((ys.length : Int) > 40) = false := decide_eq_false (by omega)
  have PB := Aside0.mk (Lib.tabBelow_of_tabIs hP : PowB w.heap.size w)
  have HC := Aside0.mk hC
  have HC' := Aside0.mk hC'
  have HT := Aside0.mk hT
  clear hC hC' hP hT
  go_enter Tryd.func6, Tryd.ntmps6
  go_wp2_with fail
  refine (awake_calls w PB.out.here).mono ?_
  rintro e w1 ⟨rfl, b1⟩
  have B1 := Aside0.mk b1
  clear b1
  go_wp2
  go_loopw [34] (fun v34 wr => ∃ (i : Int), v34 = .int .i64 i ∧ 0 ≤ i ∧ i ≤ (xs.length : Int) ∧ Aside0 (∀ x, x ∈ xs.take i.toNat → goodS x = true) ∧ Aside0 (Below w.heap.size w wr)) (fun v34 _ => xs.length - (intOf v34).toNat)
  case atStart => exact ⟨0, rfl, by omega, by omega, ⟨fun x hx => by simp at hx⟩, B1⟩
  case round =>
    clear B1
    obtain ⟨i, rfl, hi0, hin, hgd, hb⟩ := hrel
    by_cases hi : i < (xs.length : Int)
    · have c1 : decide (i < (xs.length : Int)) = true := decide_eq_true hi
      obtain ⟨hit, hrd⟩ := rd_at xs i hi0 hi
      obtain ⟨ad, eA, hx0, hx1, hx2, hx3, hx4, hx5⟩ := at_T42 HC.out i hi0 hi
      cases eA
      have hbr := hb.out
      replace hx0 := (hbr.cell (World.block_lt_of_cell? w _ hx0)).trans hx0
      replace hx1 := (hbr.cell (World.block_lt_of_cell? w _ hx1)).trans hx1
      replace hx2 := (hbr.cell (World.block_lt_of_cell? w _ hx2)).trans hx2
      replace hx3 := (hbr.cell (World.block_lt_of_cell? w _ hx3)).trans hx3
      replace hx4 := (hbr.cell (World.block_lt_of_cell? w _ hx4)).trans hx4
      replace hx5 := (hbr.cell (World.block_lt_of_cell? w _ hx5)).trans hx5
      have hsx := size_at xs i.toNat hit
      have htk := List.take_append_getElem hit
      rw [← hrd] at hsx htk
      generalize hxx : rd_T42 xs i = x at *
      have hsum := hsx
      unfold sizeS sum6 at hsum
      obtain ⟨W, hW⟩ : ∃ W, wr.alloc (.cells #[.string x.f0, .string x.f1, .string x.f2, .string x.f3.f0, .string x.f3.f1, .string x.f3.f2] 42) = W := ⟨_, rfl⟩
      have b0 : Below wr.heap.size wr W := by rw [← hW]; exact (Below.refl _ _).alloc (Nat.le_refl _) _
      have RW : Blk W wr.heap.size 42 #[.string x.f0, .string x.f1, .string x.f2, .string x.f3.f0, .string x.f3.f1, .string x.f3.f2] := by rw [← hW]; exact Blk.new _ _ _
      have y0 := RW.cell 0
      have y1 := RW.cell 1
      have y2 := RW.cell 2
      have y3 := RW.cell 3
      have y4 := RW.cell 4
      have y5 := RW.cell 5
      have ylt := RW.lt
      have BW := Aside0.mk (hb.out.trans (b0.mono hb.out.size))
      have HTK := Aside0.mk htk
      have p0 := eq_true hi0
      have p1 := eq_true hi
      clear hb hbr b0 RW hrd hxx htk
      go_wp2_with fail
      clear hW hx0 hx1 hx2 hx3 hx4 hx5
      refine (Bnd.rtgood_calls x.f0 x.f1 x.f2 x.f3.f0 x.f3.f1 x.f3.f2 ⟨by omega, by omega, by omega, by omega, by omega, by omega⟩ W).mono ?_
      rintro e wa ⟨rfl, ba⟩
      have BA := Aside0.mk (BW.out.trans (ba.mono BW.out.size))
      clear y0 y1 y2 y3 y4 y5 ylt ba BW
      cases hgx : goodS x with
      | false =>
        have hgx' : Bnd.tupGood x.f0 x.f1 x.f2 x.f3.f0 x.f3.f1 x.f3.f2 = false := hgx
        rw [hgx']
        clear hgx hgx'
        go_wp2
        go_ret
        exact ⟨rfl, BA.out⟩
      | true =>
        have hgx' : Bnd.tupGood x.f0 x.f1 x.f2 x.f3.f0 x.f3.f1 x.f3.f2 = true := hgx
        rw [hgx']
        have HGX := Aside0.mk hgx
        clear hgx hgx'
        have hi1 : (i + 1).toNat = i.toNat + 1 := by omega
        have hw : IntKind.i64.wrap (i + 1) = i + 1 := IntWalk.i64_in _ (by omega)
        go_wp2
        go_roundw
        case rel => exact ⟨i + 1, by first | rfl | (rw [hw]) | simp [hw], by omega, by omega, ⟨by
          rw [hi1, ← HTK.out]
          intro y hy
          rcases List.mem_append.1 hy with hy | hy
          · exact hgd.out y hy
          · rw [List.mem_singleton.1 hy]; exact HGX.out⟩, BA⟩
        case measure => simp [intOf, hw]; omega
    · have c1 : decide (i < (xs.length : Int)) = false := decide_eq_false hi
      obtain ⟨we, rfl⟩ : ∃ we : World, we = wr := ⟨_, rfl⟩
      have e1 : i.toNat = xs.length := by omega
      rw [e1, List.take_length] at hgd
      have HG := Aside0.mk hgd.out
      have hfl := flatS_len xs (by omega)
      have hnl := numT_len xs.length (by omega)
      have hts : (textT s).length ≤ 1030 := by have := textT_len s (by omega); omega
      have htl : (tuplesT xs).length ≤ 3000000 := by unfold tuplesT; rw [List.length_append]; omega
      have hfl2 := flatS_len ys (by omega)
      have hnl2 := numT_len ys.length (by omega)
      have htl2 : (tuplesT ys).length ≤ 3000000 := by unfold tuplesT; rw [List.length_append]; omega
      have hwz := hb.out.size
      obtain ⟨n, hn⟩ : ∃ n, we.heap.size = n := ⟨_, rfl⟩
      obtain ⟨W3, hW3⟩ : ∃ W3, ((we.alloc (.cells #[.slice none 0 0] TK)).alloc (.cells #[.slice none 0 0] TK)).alloc (.cells #[.slice none 0 0] TK) = W3 := ⟨_, rfl⟩
      have b3 : Below we.heap.size we W3 := by rw [← hW3]; exact (((Below.refl we.heap.size we).alloc (Nat.le_refl _) _).alloc (by simp) _).alloc (by simp; omega) _
      have k3 : K3 w.heap.size W3 n [] (n + 1) [] (n + 2) [] := by
        refine ⟨[n], [n + 1], [n + 2], ?_, ?_, ?_, ?_, ?_, ?_⟩
        · rw [← hW3, ← hn]
          exact (kat_new w.heap.size we hwz).below (((Below.refl _ _).alloc (Nat.le_refl _) _).alloc (by simp) _)
        · have := (kat_new w.heap.size (we.alloc (.cells #[.slice none 0 0] TK)) (by simp; omega)).below ((Below.refl _ _).alloc (Nat.le_refl _) (.cells #[.slice none 0 0] TK))
          rw [← hW3]
          simpa [hn] using this
        · have := kat_new w.heap.size ((we.alloc (.cells #[.slice none 0 0] TK)).alloc (.cells #[.slice none 0 0] TK)) (by simp; omega)
          rw [← hW3]
          simpa [hn] using this
        · intro i hi; simp at hi ⊢; omega
        · intro i hi; simp at hi ⊢; omega
        · intro i hi; simp at hi ⊢; omega
      have B3 := Aside0.mk (hb.out.trans (b3.mono hb.out.size))
      have K := Aside0.mk k3
      have HN := Aside0.mk hn
      have HW3 := Aside0.mk hW3
      clear hgd hb hwz b3 k3 hn hW3 hfl hnl hfl2 hnl2
      go_wp2_with fail
      refine (new_calls _).mono ?_
      rintro e wa ⟨rfl, rfl⟩
      go_wp2_with fail
      refine (new_calls _).mono ?_
      rintro e wa ⟨rfl, rfl⟩
      go_wp2_with fail
      refine (new_calls _).mono ?_
      rintro e wa ⟨rfl, rfl⟩
      go_wp2_with fail
      rw [HW3.out, HN.out]
      clear HW3
      have hxz : (tuplesT xs).length ≤ 3000000 := htl
      -- a.Tuples(l)
      refine (K.out.step (fun S k => tuples_calls w A c xs HC.out hc n [] S (by omega) (by have h1 := htl; unfold tuplesT at h1; rw [List.length_append] at h1; simp; omega) W3 B3.out k (PB.out.on B3.out))).mono ?_
      rintro e w4 ⟨rfl, k4, b4⟩
      have B4 := Aside0.mk (B3.out.trans b4)
      have K4 := Aside0.mk k4.cab
      clear k4 b4 B3 K
      go_wp2_with fail
      try rw [HN.out]
      -- c.Tuples(l)
      refine (K4.out.step (fun S k => tuples_calls w A c xs HC.out hc (n + 2) [] S (by omega) (by have h1 := htl; unfold tuplesT at h1; rw [List.length_append] at h1; simp; omega) w4 B4.out k (PB.out.on B4.out))).mono ?_
      rintro e w5 ⟨rfl, k5, b5⟩
      have B5 := Aside0.mk (B4.out.trans b5)
      have K5 := Aside0.mk k5.cab
      clear k5 b5 B4 K4
      go_wp2_with fail
      try rw [HN.out]
      -- b.Text(s)
      refine (K5.out.step (fun S k => text_calls w.heap.size (n + 1) [] S s (by omega) (by simp; omega) w5 k (PB.out.on B5.out))).mono ?_
      rintro e w6 ⟨rfl, k6, b6⟩
      have B6 := Aside0.mk (B5.out.trans b6)
      have K6 := Aside0.mk k6
      clear k6 b6 B5 K5
      go_wp2_with fail
      try rw [HN.out]
      -- b.Tuples(m)
      refine (K6.out.step (fun S k => tuples_calls w A' c' ys HC'.out hc' (n + 1) _ S (by omega) (by have h1 := htl2; unfold tuplesT at h1; rw [List.length_append] at h1; simp; omega) w6 B6.out k (PB.out.on B6.out))).mono ?_
      rintro e w7 ⟨rfl, k7, b7⟩
      have B7 := Aside0.mk (B6.out.trans b7)
      have K7 := Aside0.mk k7.cab.cab
      clear k7 b7 B6 K6
      go_wp2_with fail
      try rw [HN.out]
      -- c.Text(s)
      refine (K7.out.step (fun S k => text_calls w.heap.size (n + 2) _ S s (by omega) (by simp; omega) w7 k (PB.out.on B7.out))).mono ?_
      rintro e w8 ⟨rfl, k8, b8⟩
      have B8 := Aside0.mk (B7.out.trans b8)
      have K8 := Aside0.mk k8
      clear k8 b8 B7 K7
      go_wp2_with fail
      try rw [HN.out]
      -- c.Tuples(m)
      refine (K8.out.step (fun S k => tuples_calls w A' c' ys HC'.out hc' (n + 2) _ S (by omega) (by have h1 := htl2; unfold tuplesT at h1; rw [List.length_append] at h1; simp; omega) w8 B8.out k (PB.out.on B8.out))).mono ?_
      rintro e w9 ⟨rfl, k9, b9⟩
      have B9 := Aside0.mk (B8.out.trans b9)
      obtain ⟨La, hLa⟩ : ∃ La, tuplesT xs = La := ⟨_, rfl⟩
      obtain ⟨Lb, hLb⟩ : ∃ Lb, textT s ++ tuplesT ys = Lb := ⟨_, rfl⟩
      have k9' : K3 w.heap.size w9 n La (n + 1) Lb (n + 2) (La ++ Lb) := by
        rw [← hLa, ← hLb]
        have := k9.cab.cab
        simpa [List.append_assoc] using this
      have K9 := Aside0.mk k9'
      clear k9 k9' b9 B8 K8
      go_wp2_with fail
      try rw [HN.out]
      have hLaz : La.length ≤ 3000000 := by rw [← hLa]; exact htl
      have hLbz : Lb.length ≤ 3002000 := by rw [← hLb, List.length_append]; omega
      refine (K9.out.bytes (by omega)).mono ?_
      rintro e wa ⟨va, rfl, oa, ba⟩
      have OA := Aside0.mk oa
      have BA := Aside0.mk ba
      have KA := Aside0.mk (K9.out.below ba)
      clear oa ba
      go_wp2_with fail
      try rw [HN.out]
      refine (KA.out.bac.bytes (by omega)).mono ?_
      rintro e wb ⟨vb, rfl, ob, bb⟩
      obtain ⟨Ab, cb, rfl, hrb⟩ := ob.reads
      have OB := Aside0.mk (OA.out.below bb)
      have BB := Aside0.mk (BA.out.trans (bb.mono BA.out.size))
      have HRB := Aside0.mk hrb
      have hbz := BB.out.size
      clear ob bb hrb OA BA KA
      go_wp2_with (at_builtin; refine wp_put_row w9.heap.size rfl (.tmp 64) (.tmp 66) rfl va La Lb Ab cb rfl rfl OB.out HRB.out (by omega) hbz ?_)
      rintro v' wc ⟨oc, only, -⟩
      obtain ⟨Av, cv, rfl, hrv⟩ := oc.reads
      have b9c : Below w9.heap.size w9 wc := BB.out.trans (only.below (B := w9.heap.size) hbz (fun k hk => (OB.out.lt k hk).1))
      have KC := Aside0.mk (K9.out.below b9c)
      have BC := Aside0.mk (B9.out.trans (b9c.mono B9.out.size))
      have OC := Aside0.mk oc
      obtain ⟨L, hL⟩ : ∃ L, La ++ Lb = L := ⟨_, rfl⟩
      rw [hL] at hrv KC OC
      have hLz : L.length = La.length + Lb.length := by rw [← hL, List.length_append]
      obtain ⟨nn, hnn⟩ : ∃ nn, L.length = nn := ⟨_, rfl⟩
      have KO := Aside0.mk (open_calls Av cv L wc hrv)
      rw [hnn] at KO OC
      rw [hL, hnn]
      have HNN := Aside0.mk hnn
      have HL := Aside0.mk hL
      clear oc only hrv b9c K9 B9 OB BB HRB hL hbz hnn
      go_wp2_with fail
      refine KO.out.mono ?_
      rintro e wd ⟨rfl, rfl⟩
      obtain ⟨gi, hgi⟩ : ∃ gi, wc.heap.size = gi := ⟨_, rfl⟩
      have hB1 : Below wc.heap.size wc (wc.alloc (.cells #[.string (str L), .bool false] TI)) := (Below.refl _ _).alloc (Nat.le_refl _) _
      have hI1 : IBlk (wc.alloc (.cells #[.string (str L), .bool false] TI)) gi L false := Blk.newAt hgi.symm
      have giz : w.heap.size ≤ gi := by rw [← hgi]; exact BC.out.size
      obtain ⟨WD, hWD⟩ : ∃ WD, wc.alloc (.cells #[.string (str L), .bool false] TI) = WD := ⟨_, rfl⟩
      rw [hWD] at hI1 hB1
      have HE := Aside0.mk (show IBlk WD.drew gi (st3 0 L Lb (tuplesT ys)) false ∧ Below wc.heap.size wc WD.drew from ⟨hI1.drew, hB1.drew⟩)
      have HGI := Aside0.mk hgi
      clear KO hI1 hB1
      go_wp2_with fail
      clear hWD hgi
      try rw [HN.out]
      have hgi2 : wc.heap.size = gi := HGI.out
      obtain ⟨us, hus⟩ : ∃ us, us = str (textT s) := ⟨_, rfl⟩
      have husz : us.size = (textT s).length := by rw [hus, str_size]
      have F1 := Aside0.mk (show stileref04_Text.f 20 s = some us by rw [hus]; exact text_f s (by omega))
      have hw1 : IntKind.i64.wrap ((nn : Int) - (La.length : Int)) = (nn : Int) - (La.length : Int) := IntWalk.i64_in _ (by have := HNN.out; omega)
      have hlb : Lb.length = (textT s).length + (tuplesT ys).length := by rw [← hLb, List.length_append]
      have hw2 : (nn : Int) - (La.length : Int) - (us.size : Int) = ((tuplesT ys).length : Int) := by have := HNN.out; omega
      have hw3 : IntKind.i64.wrap ((nn : Int) - (La.length : Int) - (us.size : Int)) = ((tuplesT ys).length : Int) := by rw [hw2]; exact IntWalk.i64_in _ (by omega)
      have hLL : L = tuplesT xs ++ Lb := by rw [← HL.out, hLa]
      have hLB : Lb = textT s ++ tuplesT ys := hLb.symm
      have HLL := Aside0.mk hLL
      have HLB := Aside0.mk hLB
      have HW1 := Aside0.mk hw1
      have HW3 := Aside0.mk hw3
      have HLa := Aside0.mk hLa
      have Hnn : nn ≤ 7000000 := by have := HNN.out; omega
      have hTP := textP_text s (s.size : Int) (Int.le_refl _) (by omega) (tuplesT ys)
      rw [← hLB] at hTP
      have HTP := Aside0.mk hTP
      have husl : us.size ≤ 1030 := by omega
      have hlen1 : (tuplesT xs ++ Lb).length ≤ 140737488355328 := by rw [List.length_append]; omega
      have hgin : n + 1 + 1 < gi ∧ n < gi := by
        have h1 := KC.out
        obtain ⟨Sa, Sb, Sc, ka, kb, kc, d1, d2, d3⟩ := h1
        obtain ⟨va', hba, -, -, -⟩ := ka
        obtain ⟨vc', hbc, -, -, -⟩ := kc
        have := hba.lt
        have := hbc.lt
        omega
      clear hLa hLb hus husz hw1 hw2 hw3 hLL hLB hlb hTP hgi2
      obtain ⟨na, hna⟩ : ∃ na, La.length = na := ⟨_, rfl⟩
      have HNA := Aside0.mk hna
      rw [hna] at HW1 HW3
      clear hna
      refine Qy.wp_region_all (Only [gi]) (Sj gi (n + 1 + 1) L xs) (SVj n (n + 1 + 1) na nn xs.length s us (tuplesT ys).length) (fun p w' => IBlk w' gi (st3 p L Lb (tuplesT ys)) false ∧ Below wc.heap.size wc w') [6, 10, 14, 16, 18, 22, 26, 28, 32, 36] (by kernel_rfl) (by kernel_rfl) HE.out ?_
      clear HE
      iterate 4 ((with_reducible refine Qy.y_val ⟨fun _ _ _ hF h w' h1 h2 => h w' h1 fun k => hF k _ (h2 k)⟩ ?_ ?_ ?_ ?_ ?_); (focus (first | exact fun _ => Only.refl _ _ | exact fun _ => Below.refl _ _)); (focus (exact fun _ => trivial)); (focus (first | rfl | decide)); (first | (focus (exact Qy.wanted_none rfl)) | (focus (exact Qg.wanted_on rfl rfl rfl))); apply Exists.intro; refine ⟨?_, ?_⟩; (focus (intro p' w' hw' hp'; skip; go_simp; (first | done | (with_reducible rfl)))); intro K hK; go_simp; refine hK _ ?_; clear hK K)
      ((with_reducible refine Qy.y_val ⟨fun _ _ _ hF h w' h1 h2 => h w' h1 fun k => hF k _ (h2 k)⟩ ?_ ?_ ?_ ?_ ?_); (focus (first | exact fun _ => Only.refl _ _ | exact fun _ => Below.refl _ _)); (focus (exact fun _ => trivial)); (focus (first | rfl | decide)); (first | (focus (exact Qy.wanted_none rfl)) | (focus (exact Qg.wanted_on rfl rfl rfl))); apply Exists.intro; refine ⟨?_, ?_⟩; (focus (intro p' w' hw' hp'; have hcv := (OC.out.below hw'.2).string; go_simp; (first | done | (with_reducible rfl)))); intro K hK; go_simp; refine hK _ ?_; clear hK K)
      ((with_reducible refine Qy.y_val ⟨fun _ _ _ hF h w' h1 h2 => h w' h1 fun k => hF k _ (h2 k)⟩ ?_ ?_ ?_ ?_ ?_); (focus (first | exact fun _ => Only.refl _ _ | exact fun _ => Below.refl _ _)); (focus (exact fun _ => trivial)); (focus (first | rfl | decide)); (first | (focus (exact Qy.wanted_none rfl)) | (focus (exact Qg.wanted_on rfl rfl rfl))); apply Exists.intro; refine ⟨?_, ?_⟩; (focus (intro p' w' hw' hp'; skip; go_simp; (first | done | (with_reducible rfl)))); intro K hK; go_simp; refine hK _ ?_; clear hK K)
      ((with_reducible refine Qy.y_turn 0 ?_ ?_ ?_); (focus (first | rfl | decide)); (first | (focus (exact Qy.wanted_none rfl)) | (focus (exact Qg.wanted_on rfl rfl rfl))); apply Exists.intro; apply Exists.intro; refine ⟨?_, ?_, ?_, ?_, ?_⟩; (focus (intro w'; go_simp; (first | rfl | exact ⟨rfl, rfl⟩))); (focus (exact ⟨.slice none nn 0, ⟨fun _ _ => ⟨_, _, rfl⟩, (fun _ h => by simp at h), (fun h => by cases h), (fun h => by cases h), (fun h => by cases h), (fun h => by cases h), (fun h => by cases h)⟩⟩)); (focus (exact fun u => sj_stb _ _ _ _ _ _ u)); (focus (intro w' hw' hp'; refine (K3.bytes (KC.out.cab.below hw'.2) (by have := HNN.out; omega)).mono ?_; rintro e w8 ⟨v, rfl, o8, b8⟩; obtain ⟨A8, c8, e8⟩ := o8.slice; rw [HNN.out] at e8; exact ⟨_, rfl, Only.of_below b8 [gi], ⟨hw'.1.below b8, hw'.2.trans (b8.mono hw'.2.size)⟩, ⟨fun _ _ => ⟨A8, c8, e8⟩, (fun _ h => by simp at h), (fun h => by cases h), (fun h => by cases h), (fun h => by cases h), (fun h => by cases h), (fun h => by cases h)⟩, ⟨fun _ _ => ⟨o8.lower (Nat.zero_le _), fun k hk => by have := (o8.lt k hk).1; have := hw'.1.lt; omega⟩, (fun h => by cases h)⟩⟩)); rintro u6 hv6; obtain ⟨A6, c6, e6⟩ := hv6.c rfl rfl; subst e6; clear hv6; intro K hK; go_simp; refine hK _ ?_; clear hK K)
      ((with_reducible refine Qy.y_val ⟨fun _ _ _ hF h w' h1 h2 => h w' h1 fun k => hF k _ (h2 k)⟩ ?_ ?_ ?_ ?_ ?_); (focus (first | exact fun _ => Only.refl _ _ | exact fun _ => Below.refl _ _)); (focus (exact fun _ => trivial)); (focus (first | rfl | decide)); (first | (focus (exact Qy.wanted_none rfl)) | (focus (exact Qg.wanted_on rfl rfl rfl))); apply Exists.intro; refine ⟨?_, ?_⟩; (focus (intro p' w' hw' hp'; have h6 := (Qy.fact hp' 6 rfl : Sj gi (n + 1 + 1) L xs _ _ _ w').c rfl rfl; have hcv := h6.1.string; go_simp; (first | done | (with_reducible rfl)))); intro K hK; go_simp; refine hK _ ?_; clear hK K)
      iterate 2 ((with_reducible refine Qy.y_val ⟨fun _ _ _ hF h w' h1 h2 => h w' h1 fun k => hF k _ (h2 k)⟩ ?_ ?_ ?_ ?_ ?_); (focus (first | exact fun _ => Only.refl _ _ | exact fun _ => Below.refl _ _)); (focus (exact fun _ => trivial)); (focus (first | rfl | decide)); (first | (focus (exact Qy.wanted_none rfl)) | (focus (exact Qg.wanted_on rfl rfl rfl))); apply Exists.intro; refine ⟨?_, ?_⟩; (focus (intro p' w' hw' hp'; skip; go_simp; (first | done | (with_reducible rfl)))); intro K hK; go_simp; refine hK _ ?_; clear hK K)
      ((with_reducible refine Qy.y_pass 1 ⟨fun _ _ _ hF h w' h1 h2 => h w' h1 fun k => hF k _ (h2 k)⟩ ?_ ?_ ?_ ?_ ?_ ?_); (focus (first | exact fun _ => Only.refl _ _ | exact fun _ => Below.refl _ _)); (focus (exact fun _ => trivial)); (focus (first | rfl | decide)); (first | (focus (exact Qy.wanted_none rfl)) | (focus (exact Qg.wanted_on rfl rfl rfl))); (focus (intro w' hw'; exact hw')); apply Exists.intro; refine ⟨?_, ?_⟩; (focus (intro w' hw' hp'; skip; go_simp; (first | done | (with_reducible rfl)))); intro K hK; go_simp; refine hK _ ?_; clear hK K)
      iterate 3 ((with_reducible refine Qy.y_val ⟨fun _ _ _ hF h w' h1 h2 => h w' h1 fun k => hF k _ (h2 k)⟩ ?_ ?_ ?_ ?_ ?_); (focus (first | exact fun _ => Only.refl _ _ | exact fun _ => Below.refl _ _)); (focus (exact fun _ => trivial)); (focus (first | rfl | decide)); (first | (focus (exact Qy.wanted_none rfl)) | (focus (exact Qg.wanted_on rfl rfl rfl))); apply Exists.intro; refine ⟨?_, ?_⟩; (focus (intro p' w' hw' hp'; skip; go_simp; (first | done | (with_reducible rfl)))); intro K hK; go_simp; refine hK _ ?_; clear hK K)
      ((with_reducible refine Qy.y_turn 2 ?_ ?_ ?_); (focus (first | rfl | decide)); (first | (focus (exact Qy.wanted_none rfl)) | (focus (exact Qg.wanted_on rfl rfl rfl))); apply Exists.intro; apply Exists.intro; refine ⟨?_, ?_, ?_, ?_, ?_⟩; (focus (intro w'; go_simp; (first | rfl | exact ⟨rfl, rfl⟩))); (focus (exact ⟨.slice none xs.length 0, ⟨(fun h => by cases h), (fun h => by cases h), fun _ => ⟨_, _, rfl⟩, (fun h => by cases h), (fun h => by cases h), (fun h => by cases h), (fun h => by cases h)⟩⟩)); (focus (exact fun u => sj_stb _ _ _ _ _ _ u)); (focus (intro w' hw' hp'; refine (ituples_R gi xs HG.out (by omega) (xs.length : Int) (Int.le_refl _) Lb hlen1 w' (by rw [← HLL.out]; exact hw'.1) (fun w1 ho => tabs_only HT.out (BC.out.trans (hw'.2.mono BC.out.size)) giz ho)).mono ?_; rintro e w8 ⟨v, rfl, r8, i8, o8⟩; obtain ⟨A8, c8, e8⟩ := Kd.R_slice r8; exact ⟨_, rfl, o8, ⟨i8, hw'.2.trans (o8.below (B := wc.heap.size) hw'.2.size (fun k hk => by rw [List.mem_singleton.1 hk, HGI.out]; exact Nat.le_refl _))⟩, ⟨(fun h => by cases h), (fun h => by cases h), fun _ => ⟨A8, c8, e8⟩, (fun h => by cases h), (fun h => by cases h), (fun h => by cases h), (fun h => by cases h)⟩, ⟨(fun h => by cases h), fun _ => Kd.R_lower r8 (Nat.zero_le _)⟩⟩)); rintro u14 hv14; obtain ⟨A14, c14, e14⟩ := hv14.t rfl; subst e14; clear hv14; intro K hK; go_simp; refine hK _ ?_; clear hK K)
      ((with_reducible refine Qy.y_val ⟨fun _ _ _ hF h w' h1 h2 => h w' h1 fun k => hF k _ (h2 k)⟩ ?_ ?_ ?_ ?_ ?_); (focus (first | exact fun _ => Only.refl _ _ | exact fun _ => Below.refl _ _)); (focus (exact fun _ => trivial)); (focus (first | rfl | decide)); (first | (focus (exact Qy.wanted_none rfl)) | (focus (exact Qg.wanted_on rfl rfl rfl))); apply Exists.intro; refine ⟨?_, ?_⟩; (focus (intro p' w' hw' hp'; skip; go_simp; (first | done | (with_reducible rfl)))); intro K hK; go_simp; refine hK _ ?_; clear hK K)
      ((with_reducible refine Qy.y_turn 3 ?_ ?_ ?_); (focus (first | rfl | decide)); (first | (focus (exact Qy.wanted_none rfl)) | (focus (exact Qg.wanted_on rfl rfl rfl))); apply Exists.intro; apply Exists.intro; refine ⟨?_, ?_, ?_, ?_, ?_⟩; (focus (intro w'; go_simp; (first | rfl | exact ⟨rfl, rfl⟩))); (focus (exact ⟨.bool true, ⟨(fun h => by cases h), (fun h => by cases h), (fun h => by cases h), fun _ => rfl, (fun h => by cases h), (fun h => by cases h), (fun h => by cases h)⟩⟩)); (focus (exact fun u => sj_stb _ _ _ _ _ _ u)); (focus (intro w' hw' hp'; have h14 := (Qy.fact hp' 14 rfl : Sj gi (n + 1 + 1) L xs _ _ _ w').t rfl; obtain ⟨-, hc2, hC2⟩ := Kd.R_reads' h14; refine (same_eq_calls _ A _ c xs w' hC2 (Kd.C_below HC.out (BC.out.trans (hw'.2.mono BC.out.size))) hc2 hc).mono ?_; rintro e w8 ⟨rfl, b8⟩; exact ⟨_, rfl, Only.of_below b8 [gi], ⟨hw'.1.below b8, hw'.2.trans (b8.mono hw'.2.size)⟩, ⟨(fun h => by cases h), (fun h => by cases h), (fun h => by cases h), fun _ => rfl, (fun h => by cases h), (fun h => by cases h), (fun h => by cases h)⟩, ⟨(fun h => by cases h), (fun h => by cases h)⟩⟩)); rintro u16 hv16; have e16 := hv16.m rfl; subst e16; clear hv16; intro K hK; go_simp; refine hK _ ?_; clear hK K)
      ((with_reducible refine Qy.y_val ⟨fun _ _ _ hF h w' h1 h2 => h w' h1 fun k => hF k _ (h2 k)⟩ ?_ ?_ ?_ ?_ ?_); (focus (first | exact fun _ => Only.refl _ _ | exact fun _ => Below.refl _ _)); (focus (exact fun _ => trivial)); (focus (first | rfl | decide)); (first | (focus (exact Qy.wanted_none rfl)) | (focus (exact Qg.wanted_on rfl rfl rfl))); apply Exists.intro; refine ⟨?_, ?_⟩; (focus (intro p' w' hw' hp'; skip; go_simp; (first | done | (with_reducible rfl)))); intro K hK; go_simp; refine hK _ ?_; clear hK K)
      ((with_reducible refine Qy.y_pass 4 ⟨fun _ _ _ hF h w' h1 h2 => h w' h1 fun k => hF k _ (h2 k)⟩ ?_ ?_ ?_ ?_ ?_ ?_); (focus (first | exact fun _ => Only.refl _ _ | exact fun _ => Below.refl _ _)); (focus (exact fun _ => trivial)); (focus (first | rfl | decide)); (first | (focus (exact Qy.wanted_none rfl)) | (focus (exact Qg.wanted_on rfl rfl rfl))); (focus (intro w' hw'; exact hw')); apply Exists.intro; refine ⟨?_, ?_⟩; (focus (intro w' hw' hp'; skip; go_simp; (first | done | (with_reducible rfl)))); intro K hK; go_simp; refine hK _ ?_; clear hK K)
      iterate 3 ((with_reducible refine Qy.y_val ⟨fun _ _ _ hF h w' h1 h2 => h w' h1 fun k => hF k _ (h2 k)⟩ ?_ ?_ ?_ ?_ ?_); (focus (first | exact fun _ => Only.refl _ _ | exact fun _ => Below.refl _ _)); (focus (exact fun _ => trivial)); (focus (first | rfl | decide)); (first | (focus (exact Qy.wanted_none rfl)) | (focus (exact Qg.wanted_on rfl rfl rfl))); apply Exists.intro; refine ⟨?_, ?_⟩; (focus (intro p' w' hw' hp'; skip; go_simp; (first | done | (with_reducible rfl)))); intro K hK; go_simp; refine hK _ ?_; clear hK K)
      ((with_reducible refine Qy.y_turn 5 ?_ ?_ ?_); (focus (first | rfl | decide)); (first | (focus (exact Qy.wanted_none rfl)) | (focus (exact Qg.wanted_on rfl rfl rfl))); apply Exists.intro; apply Exists.intro; refine ⟨?_, ?_, ?_, ?_, ?_⟩; (focus (intro w'; go_simp; (first | rfl | exact ⟨rfl, rfl⟩))); (focus (exact ⟨.string s, ⟨(fun h => by cases h), (fun h => by cases h), (fun h => by cases h), (fun h => by cases h), fun _ => rfl, (fun h => by cases h), (fun h => by cases h)⟩⟩)); (focus (exact fun u => sj_stb _ _ _ _ _ _ u)); (focus (intro w' hw' hp'; refine (itext_ok gi Lb (by omega) false (s.size : Int) s (tuplesT ys) HTP.out w' hw'.1).mono ?_; rintro e w8 ⟨rfl, i8, o8⟩; exact ⟨_, rfl, o8, ⟨i8, hw'.2.trans (o8.below (B := wc.heap.size) hw'.2.size (fun k hk => by rw [List.mem_singleton.1 hk, HGI.out]; exact Nat.le_refl _))⟩, ⟨(fun h => by cases h), (fun h => by cases h), (fun h => by cases h), (fun h => by cases h), fun _ => rfl, (fun h => by cases h), (fun h => by cases h)⟩, ⟨(fun h => by cases h), (fun h => by cases h)⟩⟩)); rintro u22 hv22; have e22 := hv22.x rfl; subst e22; clear hv22; intro K hK; go_simp; refine hK _ ?_; clear hK K)
      iterate 3 ((with_reducible refine Qy.y_val ⟨fun _ _ _ hF h w' h1 h2 => h w' h1 fun k => hF k _ (h2 k)⟩ ?_ ?_ ?_ ?_ ?_); (focus (first | exact fun _ => Only.refl _ _ | exact fun _ => Below.refl _ _)); (focus (exact fun _ => trivial)); (focus (first | rfl | decide)); (first | (focus (exact Qy.wanted_none rfl)) | (focus (exact Qg.wanted_on rfl rfl rfl))); apply Exists.intro; refine ⟨?_, ?_⟩; (focus (intro p' w' hw' hp'; skip; go_simp; (first | done | (with_reducible rfl)))); intro K hK; go_simp; refine hK _ ?_; clear hK K)
      ((with_reducible refine Qy.y_pass 6 ⟨fun _ _ _ hF h w' h1 h2 => h w' h1 fun k => hF k _ (h2 k)⟩ ?_ ?_ ?_ ?_ ?_ ?_); (focus (first | exact fun _ => Only.refl _ _ | exact fun _ => Below.refl _ _)); (focus (exact fun _ => trivial)); (focus (first | rfl | decide)); (first | (focus (exact Qy.wanted_none rfl)) | (focus (exact Qg.wanted_on rfl rfl rfl))); (focus (intro w' hw'; exact hw')); apply Exists.intro; refine ⟨?_, ?_⟩; (focus (intro w' hw' hp'; skip; go_simp; (first | done | (with_reducible rfl)))); intro K hK; go_simp; refine hK _ ?_; clear hK K)
      ((with_reducible refine Qy.y_val ⟨fun _ _ _ hF h w' h1 h2 => h w' h1 fun k => hF k _ (h2 k)⟩ ?_ ?_ ?_ ?_ ?_); (focus (first | exact fun _ => Only.refl _ _ | exact fun _ => Below.refl _ _)); (focus (exact fun _ => trivial)); (focus (first | rfl | decide)); (first | (focus (exact Qy.wanted_none rfl)) | (focus (exact Qg.wanted_on rfl rfl rfl))); apply Exists.intro; refine ⟨?_, ?_⟩; (focus (intro p' w' hw' hp'; skip; go_simp; (first | done | (with_reducible rfl)))); intro K hK; go_simp; refine hK _ ?_; clear hK K)
      ((with_reducible refine Qy.y_turn 7 ?_ ?_ ?_); (focus (first | rfl | decide)); (first | (focus (exact Qy.wanted_none rfl)) | (focus (exact Qg.wanted_on rfl rfl rfl))); apply Exists.intro; apply Exists.intro; refine ⟨?_, ?_, ?_, ?_, ?_⟩; (focus (intro w'; go_simp; (first | rfl | exact ⟨rfl, rfl⟩))); (focus (exact ⟨.int .i64 ((tuplesT ys).length : Int), ⟨(fun h => by cases h), (fun h => by cases h), (fun h => by cases h), (fun h => by cases h), (fun h => by cases h), fun _ => rfl, (fun h => by cases h)⟩⟩)); (focus (exact fun u => sj_stb _ _ _ _ _ _ u)); (focus (intro w' hw' hp'; refine (ileft_calls gi (tuplesT ys) false w' hw'.1).mono ?_; rintro e w8 ⟨rfl, rfl⟩; exact ⟨_, rfl, Only.refl _ _, hw', ⟨(fun h => by cases h), (fun h => by cases h), (fun h => by cases h), (fun h => by cases h), (fun h => by cases h), fun _ => rfl, (fun h => by cases h)⟩, ⟨(fun h => by cases h), (fun h => by cases h)⟩⟩)); rintro u28 hv28; have e28 := hv28.l rfl; subst e28; clear hv28; intro K hK; go_simp; refine hK _ ?_; clear hK K)
      iterate 3 ((with_reducible refine Qy.y_val ⟨fun _ _ _ hF h w' h1 h2 => h w' h1 fun k => hF k _ (h2 k)⟩ ?_ ?_ ?_ ?_ ?_); (focus (first | exact fun _ => Only.refl _ _ | exact fun _ => Below.refl _ _)); (focus (exact fun _ => trivial)); (focus (first | rfl | decide)); (first | (focus (exact Qy.wanted_none rfl)) | (focus (exact Qg.wanted_on rfl rfl rfl))); apply Exists.intro; refine ⟨?_, ?_⟩; (focus (intro p' w' hw' hp'; skip; go_simp; (first | done | (with_reducible rfl)))); intro K hK; go_simp; refine hK _ ?_; clear hK K)
      ((with_reducible refine Qy.y_turn 8 ?_ ?_ ?_); (focus (first | rfl | decide)); (first | (focus (exact Qy.wanted_none rfl)) | (focus (exact Qg.wanted_on rfl rfl rfl))); apply Exists.intro; apply Exists.intro; refine ⟨?_, ?_, ?_, ?_, ?_⟩; (focus (intro w'; go_simp; (first | rfl | exact ⟨rfl, rfl⟩))); (focus (exact ⟨.slice none na 0, ⟨(fun _ h => by simp at h), fun _ _ => ⟨_, _, rfl⟩, (fun h => by cases h), (fun h => by cases h), (fun h => by cases h), (fun h => by cases h), (fun h => by cases h)⟩⟩)); (focus (exact fun u => sj_stb _ _ _ _ _ _ u)); (focus (intro w' hw' hp'; refine (K3.bytes (KC.out.below hw'.2) (by have := HNN.out; omega)).mono ?_; rintro e w8 ⟨v, rfl, o8, b8⟩; obtain ⟨A8, c8, e8⟩ := o8.slice; rw [HNA.out] at e8; exact ⟨_, rfl, Only.of_below b8 [gi], ⟨hw'.1.below b8, hw'.2.trans (b8.mono hw'.2.size)⟩, ⟨(fun _ h => by simp at h), fun _ _ => ⟨A8, c8, e8⟩, (fun h => by cases h), (fun h => by cases h), (fun h => by cases h), (fun h => by cases h), (fun h => by cases h)⟩, ⟨(fun _ h => by simp at h), (fun h => by cases h)⟩⟩)); rintro u32 hv32; obtain ⟨A32, c32, e32⟩ := hv32.a rfl rfl; subst e32; clear hv32; intro K hK; go_simp; refine hK _ ?_; clear hK K)
      have hw1 := HW1.out
      iterate 2 ((with_reducible refine Qy.y_val ⟨fun _ _ _ hF h w' h1 h2 => h w' h1 fun k => hF k _ (h2 k)⟩ ?_ ?_ ?_ ?_ ?_); (focus (first | exact fun _ => Only.refl _ _ | exact fun _ => Below.refl _ _)); (focus (exact fun _ => trivial)); (focus (first | rfl | decide)); (first | (focus (exact Qy.wanted_none rfl)) | (focus (exact Qg.wanted_on rfl rfl rfl))); apply Exists.intro; refine ⟨?_, ?_⟩; (focus (intro p' w' hw' hp'; skip; go_simp; (first | done | (with_reducible rfl)))); intro K hK; go_simp; refine hK _ ?_; clear hK K)
      ((with_reducible refine Qy.y_val ⟨fun _ _ _ hF h w' h1 h2 => h w' h1 fun k => hF k _ (h2 k)⟩ ?_ ?_ ?_ ?_ ?_); (focus (first | exact fun _ => Only.refl _ _ | exact fun _ => Below.refl _ _)); (focus (exact fun _ => trivial)); (focus (first | rfl | decide)); (first | (focus (exact Qy.wanted_none rfl)) | (focus (exact Qg.wanted_on rfl rfl rfl))); apply Exists.intro; refine ⟨?_, ?_⟩; (focus (intro p' w' hw' hp'; skip; go_simp; (first | done | (with_reducible rfl)))); intro K hK; go_simp; refine hK _ ?_; clear hK K)
      ((with_reducible refine Qy.y_turn 9 ?_ ?_ ?_); (focus (first | rfl | decide)); (first | (focus (exact Qy.wanted_none rfl)) | (focus (exact Qg.wanted_on rfl rfl rfl))); apply Exists.intro; apply Exists.intro; refine ⟨?_, ?_, ?_, ?_, ?_⟩; (focus (intro w'; go_simp; (first | rfl | exact ⟨rfl, rfl⟩))); (focus (exact ⟨.string us, ⟨(fun h => by cases h), (fun h => by cases h), (fun h => by cases h), (fun h => by cases h), (fun h => by cases h), (fun h => by cases h), fun _ => rfl⟩⟩)); (focus (exact fun u => sj_stb _ _ _ _ _ _ u)); (focus (intro w' hw' hp'; refine (stileref04_Text.calls 20 s us w' F1.out).mono ?_; rintro e w8 ⟨rfl, b8⟩; exact ⟨_, rfl, Only.of_below b8 [gi], ⟨hw'.1.below b8, hw'.2.trans (b8.mono hw'.2.size)⟩, ⟨(fun h => by cases h), (fun h => by cases h), (fun h => by cases h), (fun h => by cases h), (fun h => by cases h), (fun h => by cases h), fun _ => rfl⟩, ⟨(fun h => by cases h), (fun h => by cases h)⟩⟩)); rintro u36 hv36; have e36 := hv36.k rfl; subst e36; clear hv36; intro K hK; go_simp; refine hK _ ?_; clear hK K)
      have hw3 := HW3.out
      iterate 5 ((with_reducible refine Qy.y_val ⟨fun _ _ _ hF h w' h1 h2 => h w' h1 fun k => hF k _ (h2 k)⟩ ?_ ?_ ?_ ?_ ?_); (focus (first | exact fun _ => Only.refl _ _ | exact fun _ => Below.refl _ _)); (focus (exact fun _ => trivial)); (focus (first | rfl | decide)); (first | (focus (exact Qy.wanted_none rfl)) | (focus (exact Qg.wanted_on rfl rfl rfl))); apply Exists.intro; refine ⟨?_, ?_⟩; (focus (intro p' w' hw' hp'; skip; go_simp; (first | done | (with_reducible rfl)))); intro K hK; go_simp; refine hK _ ?_; clear hK K)
      ((with_reducible refine Qy.y_nil ?_); intro w' hw' hf')
      have HBE := Aside0.mk (BC.out.trans (hw'.2.mono BC.out.size))
      clear hw' hf' hw1 hw3
      go_wp2
      go_ret
      exact ⟨rfl, HBE.out⟩
set_option maxHeartbeats 4000000 in
theorem lawJoins_calls (A A' : Option Addr) (c c' : Nat) (xs ys : List S42) (s : ByteArray) (hc : xs.length ≤ c) (hc' : ys.length ≤ c') (ht : total xs ≤ 2000000) (ht' : total ys ≤ 2000000) (w : World)
    (hC : Kd.C k42 w A xs.length xs) (hC' : Kd.C k42 w A' ys.length ys) (hP : Pow w) (hT : Gly.Tabs w) :
    Calls Tryd.prog 6 #[.slice A xs.length c, .slice A' ys.length c', .string s] w fun e w' => e = .returned (.bool true) ∧ Below w.heap.size w w' := by
  by_cases hsm : s.size ≤ 1000 ∧ xs.length ≤ 40 ∧ ys.length ≤ 40
  · exact joins_small A A' c c' xs ys s hsm.1 hsm.2.1 hsm.2.2 hc hc' ht ht' w hC hC' hP hT
  have big : decide ((xs.length : Int) > 40) = true ∨ (decide ((xs.length : Int) > 40) = false ∧ (decide ((ys.length : Int) > 40) = true ∨ (decide ((ys.length : Int) > 40) = false ∧ decide ((s.size : Int) > 1000) = true))) := by
    simp only [decide_eq_true_eq, decide_eq_false_iff_not]
    omega
  have PB := Aside0.mk (Lib.tabBelow_of_tabIs hP : PowB w.heap.size w)
  clear hP hC hC' hsm hT
  have HB0 := Aside0.mk (Below.refl w.heap.size w)
  rcases big with t1 | ⟨t1, t2 | ⟨t2, t3⟩⟩
  all_goals
    go_enter Tryd.func6, Tryd.ntmps6
    (go_wp2_with fail; refine (awake_calls w PB.out.here).mono ?_; rintro e w1 ⟨rfl, hb1⟩; have HB1 := Aside0.mk (HB0.out.trans (hb1.mono HB0.out.size)); clear hb1)
    (go_wp2_with fail; refine (awake_calls w1 (PB.out.on HB1.out).here).mono ?_; rintro e w2 ⟨rfl, hb2⟩; have HB2 := Aside0.mk (HB1.out.trans (hb2.mono HB1.out.size)); clear hb2)
    go_wp2
    go_ret
    exact ⟨rfl, HB2.out⟩
end Go.Proofs.YtmilpfccgggmkaaDoor.Knt

/- What structs of strings that came in give. Any program. -/
namespace Go.Proofs.YtmilpfccgggmkaaDoor.Opb
open Go.Deep Go.ChangeShapes Go.WideShapes Go.ChangeAt Go.RowKit
set_option linter.unusedVariables false
section
variable {H : Type} {enc : TypeId × Value → H} {P : Program} {w : World} {base : Nat} {sp : Nat → Bool} {held : Bool}
theorem trod_str {t : TypeId} {v : Value} {n : Nat} {y : DataW H × List MemPlace} (ht : P.underlying t = some .string) (h : DataW.trod enc P w base sp held n t [v] = some y) : ∃ s : ByteArray, v = .string s ∧ y = (.lit (.string s.data.toList), []) ∧ s.size ≤ maxLen := by
  obtain ⟨s, h1, h2, h3⟩ := DataW.trod_string ht h
  simp at h1
  exact ⟨s, h1, h2, h3⟩
theorem open_str2 {r : Reach} {b0 : Nat} {t : TypeId} {f0 f1 : Field} {v : Value} {d : DataW H} {p : List MemPlace} (hs : P.underlying t = some (.struct #[f0, f1])) (hone : oneCellFields P #[f0, f1] = true) (hC : P.cellsOf t = 2)
    (h0 : P.underlying f0.type = some .string) (h1 : P.underlying f1.type = some .string)
    (hv : Value.okWide P w r b0 t v) (h : DataW.Trod enc P w base sp held t v d p) :
    ∃ a b : ByteArray, v = .agg #[.string a, .string b] ∧ d = .agg [.lit (.string a.data.toList), .lit (.string b.data.toList)] ∧ p = [] ∧ a.size ≤ maxLen ∧ b.size ≤ maxLen := by
  obtain ⟨v0, v1, y0, y1, n, rfl, rfl, rfl, g0, g1⟩ := Joins.open_agg2 hs hone hC hv h
  obtain ⟨a, rfl, rfl, ha⟩ := trod_str h0 g0
  obtain ⟨b, rfl, rfl, hb⟩ := trod_str h1 g1
  exact ⟨a, b, rfl, rfl, rfl, ha, hb⟩
theorem open_str3 {r : Reach} {b0 : Nat} {t : TypeId} {f0 f1 f2 : Field} {v : Value} {d : DataW H} {p : List MemPlace} (hs : P.underlying t = some (.struct #[f0, f1, f2])) (hone : oneCellFields P #[f0, f1, f2] = true) (hC : P.cellsOf t = 3)
    (h0 : P.underlying f0.type = some .string) (h1 : P.underlying f1.type = some .string) (h2 : P.underlying f2.type = some .string)
    (hv : Value.okWide P w r b0 t v) (h : DataW.Trod enc P w base sp held t v d p) :
    ∃ a b c : ByteArray, v = .agg #[.string a, .string b, .string c] ∧ d = .agg [.lit (.string a.data.toList), .lit (.string b.data.toList), .lit (.string c.data.toList)] ∧ p = [] ∧ a.size ≤ maxLen ∧ b.size ≤ maxLen ∧ c.size ≤ maxLen := by
  obtain ⟨v0, v1, v2, y0, y1, y2, n, rfl, rfl, rfl, g0, g1, g2⟩ := Joins.open_agg3 hs hone hC hv h
  obtain ⟨a, rfl, rfl, ha⟩ := trod_str h0 g0
  obtain ⟨b, rfl, rfl, hb⟩ := trod_str h1 g1
  obtain ⟨c, rfl, rfl, hc⟩ := trod_str h2 g2
  exact ⟨a, b, c, rfl, rfl, rfl, ha, hb, hc⟩
end
end Go.Proofs.YtmilpfccgggmkaaDoor.Opb

/- What arrays that came in give. Any program. -/
namespace Go.Proofs.YtmilpfccgggmkaaDoor.Opb
open Go.Deep Go.ChangeShapes Go.WideShapes Go.ChangeAt Go.RowKit
set_option linter.unusedVariables false
/-- An array of two strings. -/
theorem open_strs2 {H : Type} {enc : TypeId × Value → H} {P : Program} {W : World} {base : Nat} {sp : Nat → Bool} {held : Bool} {r : Reach} {b0 : Nat} {t e : TypeId} {v : Value} {d : DataW H} {ps : List MemPlace}
    (ht : P.underlying t = some (.array 2 e)) (he : P.underlying e = some .string) (hce : P.cellsOf e = 1) (hct : P.cellsOf t = 2)
    (hv : Value.okWide P W r b0 t v) (h : DataW.Trod enc P W base sp held t v d ps) :
    ∃ a b : ByteArray, v = .agg #[.string a, .string b] := by
  have h0 := hv
  simp only [Value.okWide, ht] at h0
  obtain ⟨cs, rfl, hsz, _⟩ := h0
  obtain ⟨fuel, hf⟩ := h
  obtain ⟨xs, m, rfl, _, hl, hn, hel⟩ := DataW.trod_array ht hf
  simp only [Value.cells] at hl hel
  rw [hct] at hl
  have key : ∀ i, i < 2 → ∃ s : ByteArray, cs.toList[i]? = some (.string s) := by
    intro i hi
    have h1 := hel i hi
    rw [hce] at h1
    have hi' : i < xs.length := by omega
    rw [List.getElem?_eq_getElem hi'] at h1
    obtain ⟨a, ea, _, wa⟩ := DataW.trod_string he h1
    refine ⟨a, ?_⟩
    have hi2 : i < cs.toList.length := by omega
    rw [Nat.mul_one] at ea
    have e3 : (cs.toList.drop i).take 1 = [cs.toList[i]] := by
      rw [List.drop_eq_getElem_cons hi2]; rfl
    rw [e3] at ea
    rw [List.getElem?_eq_getElem hi2]
    simpa using ea
  obtain ⟨a, ha⟩ := key 0 (by omega)
  obtain ⟨b, hb⟩ := key 1 (by omega)
  obtain ⟨l⟩ := cs
  match l, hl with
  | [c, c'], _ =>
    simp at ha hb
    subst ha hb
    exact ⟨a, b, rfl⟩
end Go.Proofs.YtmilpfccgggmkaaDoor.Opb

/- What a struct of three strings and of a struct of three strings that came in gives. Any program. -/
namespace Go.Proofs.YtmilpfccgggmkaaDoor.Opb
open Go.Deep Go.ChangeShapes Go.WideShapes Go.ChangeAt Go.RowKit
set_option linter.unusedVariables false
section
variable {H : Type} {enc : TypeId × Value → H} {P : Program} {w : World} {base : Nat} {sp : Nat → Bool} {held : Bool}
theorem array6 {α : Type} {cs : Array α} (h : cs.size = 6) : ∃ a b c d e f, cs = #[a, b, c, d, e, f] := by
  obtain ⟨l⟩ := cs
  match l, h with
  | [a, b, c, d, e, f], _ => exact ⟨a, b, c, d, e, f, rfl⟩
theorem trod_str3 {t : TypeId} {f0 f1 f2 : Field} {v0 v1 v2 : Value} {n : Nat} {y : DataW H × List MemPlace} (hs : P.underlying t = some (.struct #[f0, f1, f2])) (hone : oneCellFields P #[f0, f1, f2] = true)
    (h0 : P.underlying f0.type = some .string) (h1 : P.underlying f1.type = some .string) (h2 : P.underlying f2.type = some .string)
    (h : DataW.trod enc P w base sp held n t [v0, v1, v2] = some y) :
    ∃ a b c : ByteArray, v0 = .string a ∧ v1 = .string b ∧ v2 = .string c ∧ y = (.agg [.lit (.string a.data.toList), .lit (.string b.data.toList), .lit (.string c.data.toList)], []) ∧ a.size ≤ maxLen ∧ b.size ≤ maxLen ∧ c.size ≤ maxLen := by
  obtain ⟨y0, y1, y2, n, hx, _, g0, g1, g2⟩ := trod_struct3 hs h
  obtain ⟨o0, k0⟩ := hone_of hone 0 f0 rfl
  obtain ⟨o1, k1⟩ := hone_of hone 1 f1 rfl
  obtain ⟨o2, k2⟩ := hone_of hone 2 f2 rfl
  obtain ⟨a, rfl, rfl, ha⟩ := trod_str h0 (by simpa [o0, k0] using g0)
  obtain ⟨b, rfl, rfl, hb⟩ := trod_str h1 (by simpa [o1, k1] using g1)
  obtain ⟨c, rfl, rfl, hc⟩ := trod_str h2 (by simpa [o2, k2] using g2)
  exact ⟨a, b, c, rfl, rfl, rfl, hx, ha, hb, hc⟩
theorem open_str33 {r : Reach} {b0 : Nat} {t : TypeId} {f0 f1 f2 f3 g0 g1 g2 : Field} {v : Value} {d : DataW H} {p : List MemPlace} (hs : P.underlying t = some (.struct #[f0, f1, f2, f3]))
    (ho : f0.offset = 0 ∧ f1.offset = 1 ∧ f2.offset = 2 ∧ f3.offset = 3) (hk : P.cellsOf f0.type = 1 ∧ P.cellsOf f1.type = 1 ∧ P.cellsOf f2.type = 1 ∧ P.cellsOf f3.type = 3) (hC : P.cellsOf t = 6)
    (h0 : P.underlying f0.type = some .string) (h1 : P.underlying f1.type = some .string) (h2 : P.underlying f2.type = some .string) (h3 : P.underlying f3.type = some (.struct #[g0, g1, g2])) (hone : oneCellFields P #[g0, g1, g2] = true)
    (k0 : P.underlying g0.type = some .string) (k1 : P.underlying g1.type = some .string) (k2 : P.underlying g2.type = some .string)
    (hv : Value.okWide P w r b0 t v) (h : DataW.Trod enc P w base sp held t v d p) :
    ∃ a b c x y z : ByteArray, v = .agg #[.string a, .string b, .string c, .string x, .string y, .string z] ∧ d = .agg [.lit (.string a.data.toList), .lit (.string b.data.toList), .lit (.string c.data.toList), .agg [.lit (.string x.data.toList), .lit (.string y.data.toList), .lit (.string z.data.toList)]] ∧ p = []
      ∧ a.size ≤ maxLen ∧ b.size ≤ maxLen ∧ c.size ≤ maxLen ∧ x.size ≤ maxLen ∧ y.size ≤ maxLen ∧ z.size ≤ maxLen := by
  obtain ⟨cs, rfl, hsz⟩ := okWide_struct hs hv
  obtain ⟨c0, c1, c2, c3, c4, c5, rfl⟩ := array6 (hsz.trans hC)
  obtain ⟨fuel, hf⟩ := h
  obtain ⟨y0, y1, y2, y3, n, hx, _, q0, q1, q2, q3⟩ := Joins.trod_struct4 hs hf
  obtain ⟨o0, o1, o2, o3⟩ := ho
  obtain ⟨l0, l1, l2, l3⟩ := hk
  obtain ⟨a, rfl, rfl, ha⟩ := trod_str h0 (by simpa [Value.cells, o0, l0] using q0)
  obtain ⟨b, rfl, rfl, hb⟩ := trod_str h1 (by simpa [Value.cells, o1, l1] using q1)
  obtain ⟨c, rfl, rfl, hc⟩ := trod_str h2 (by simpa [Value.cells, o2, l2] using q2)
  obtain ⟨x, y, z, rfl, rfl, rfl, rfl, wx, wy, wz⟩ := trod_str3 h3 hone k0 k1 k2 (by simpa [Value.cells, o3, l3] using q3)
  simp only [Prod.mk.injEq] at hx
  exact ⟨a, b, c, x, y, z, rfl, hx.1, by simpa using hx.2, ha, hb, hc, wx, wy, wz⟩
end
end Go.Proofs.YtmilpfccgggmkaaDoor.Opb

/- A list of tuples that came in. -/
namespace Go.Proofs.YtmilpfccgggmkaaDoor.Knt
open Go.Deep Go.ChangeShapes Go.WideShapes Go.ChangeAt Go.RowKit Go.Proofs.YtmilpfccgggmkaaDoorW.PrintWords Go.Proofs.YtmilpfccgggmkaaDoorW.PrintLast Go.Proofs.YtmilpfccgggmkaaDoorW.PrintMore Go.Proofs.YtmilpfccgggmkaaDoor.Arr Go.Proofs.YtmilpfccgggmkaaDoor.PKnotTies Go.Proofs.YtmilpfccgggmkaaDoor.Opb
set_option linter.unusedVariables false
set_option linter.unusedSimpArgs false
section
variable {H : Type} {enc : TypeId × Value → H} {w : World} {base : Nat} {sp : Nat → Bool} {held : Bool}
def datS (x : S42) : DataW H := .agg [.lit (.string x.f0.data.toList), .lit (.string x.f1.data.toList), .lit (.string x.f2.data.toList), .agg [.lit (.string x.f3.f0.data.toList), .lit (.string x.f3.f1.data.toList), .lit (.string x.f3.f2.data.toList)]]
abbrev celS (x : S42) : List Value := [.string x.f0, .string x.f1, .string x.f2, .string x.f3.f0, .string x.f3.f1, .string x.f3.f2]
theorem add_blk (a : Addr) (k : Nat) : (a.add k).block = a.block := by unfold Addr.add; split <;> rfl
theorem add_two (a : Addr) (k i : Nat) : a.add (k + i) = (a.add k).add i := by
  unfold Addr.add
  by_cases h1 : k = 0
  · subst h1
    by_cases h2 : i = 0 <;> simp [h2]
  · by_cases h2 : i = 0
    · simp [h1, h2]
    · simp [h1, h2, Nat.add_assoc]
theorem list6 {α : Type} {cs : List α} (h : cs.length = 6) : ∃ a b c d e f, cs = [a, b, c, d, e, f] := by
  match cs, h with
  | [a, b, c, d, e, f], _ => exact ⟨a, b, c, d, e, f, rfl⟩
theorem trod_tup {n : Nat} {cs : List Value} {y : DataW H × List MemPlace} (h : DataW.trod enc Tryd.prog w base sp held n 42 cs = some y) : ∃ x : S42, cs = celS x ∧ y.1 = datS x := by
  have hC : Tryd.prog.cellsOf 42 = 6 := by kernel_rfl
  have l1 : Tryd.prog.cellsOf 9 = 1 := by kernel_rfl
  have l3 : Tryd.prog.cellsOf 40 = 3 := by kernel_rfl
  obtain ⟨y0, y1, y2, y3, n, hx, hl, q0, q1, q2, q3⟩ := Joins.trod_struct4 Tryd.underlying42 h
  rw [hC] at hl
  obtain ⟨c0, c1, c2, c3, c4, c5, rfl⟩ := list6 hl
  simp only [l1, l3] at q0 q1 q2 q3
  obtain ⟨a, rfl, rfl, ha⟩ := trod_str Tryd.underlying9 (by simpa using q0)
  obtain ⟨b, rfl, rfl, hb⟩ := trod_str Tryd.underlying9 (by simpa using q1)
  obtain ⟨c, rfl, rfl, hc⟩ := trod_str Tryd.underlying9 (by simpa using q2)
  obtain ⟨d, e, f, rfl, rfl, rfl, rfl, wx, wy, wz⟩ := trod_str3 Tryd.underlying40 (by kernel_rfl) Tryd.underlying9 Tryd.underlying9 Tryd.underlying9 (by simpa using q3)
  simp only [Prod.mk.injEq] at hx
  exact ⟨⟨a, b, c, ⟨d, e, f⟩⟩, rfl, by rw [hx]; rfl⟩
theorem data_len (s : ByteArray) : s.data.toList.length = s.size := by rw [Array.length_toList]; rfl
theorem bulk_datS (x : S42) : sizeS x ≤ Rows.uptoBulk (H := H) (datS x) := by
  unfold datS sizeS sum6
  simp only [Rows.uptoBulk, Rows.uptoBulkAll, data_len]
  omega
theorem bulk_all (xs : List S42) : total xs ≤ Rows.uptoBulkAll (H := H) (xs.map datS) := by
  induction xs with
  | nil => simp [total]
  | cons x xs ih =>
    have := bulk_datS (H := H) x
    simp only [total, List.map_cons, Rows.uptoBulkAll]
    omega
instance : Inhabited S42 := ⟨z42⟩
set_option maxRecDepth 100000 in
theorem open_tups {r : Reach} {b0 : Nat} {v : Value} {d : DataW H} {ps : List MemPlace} (hv : Value.okWide Tryd.prog w r b0 30 v) (h : DataW.Trod enc Tryd.prog w base sp held 30 v d ps) :
    ∃ (A : Option Addr) (cap : Nat) (xs : List S42), v = .slice A xs.length cap ∧ xs.length ≤ cap ∧ Kd.C k42 w A xs.length xs ∧ total xs ≤ Rows.uptoBulk d := by
  obtain ⟨a1, len, cap, rfl⟩ := okWide_slice Tryd.underlying30 hv
  obtain ⟨fuel, hf⟩ := h
  have hC : Tryd.prog.cellsOf 42 = 6 := by kernel_rfl
  rcases open_slice Tryd.underlying30 hf with ⟨hcs, hx⟩ | ⟨a, len', cap', m, n, D, Pl, hcs, hb, hl, hmx, hm, hx, hel⟩
  · simp [Value.cells] at hcs
    obtain ⟨rfl, rfl, rfl⟩ := hcs
    exact ⟨none, 0, [], rfl, Nat.le_refl _, Kd.C_nil k42 w, Nat.zero_le _⟩
  · simp [Value.cells] at hcs
    obtain ⟨rfl, rfl, rfl⟩ := hcs
    have hlm : len ≤ m := by rw [hm]; split <;> omega
    obtain ⟨X, hX⟩ := choose_lt (α := S42) (n := len) (p := fun i x => w.cells? base (a.add (i * 6)) 6 = some (celS x) ∧ D i = datS x) (fun i hi => by
      obtain ⟨cs', h1, h2⟩ := hel i (by omega)
      rw [hC] at h1
      obtain ⟨x, rfl, hx⟩ := trod_tup h2
      exact ⟨x, h1, hx⟩)
    have hlen : ((List.range len).map X).length = len := by simp
    refine ⟨some a, cap, (List.range len).map X, by rw [hlen], by rw [hlen]; exact hl, ?_, ?_⟩
    · rw [hlen]
      refine ⟨hlen, by unfold maxLen at hmx; omega, fun _ => ⟨a, rfl, fun j p hj => ?_⟩⟩
      have hjl : j < len := by have := (List.getElem?_eq_some_iff.1 hj).1; simpa using this
      obtain rfl : X j = p := by simpa [hjl] using hj
      refine ⟨celS (X j), rfl, k42_mk w (X j), fun i u hi => ?_⟩
      have hc := (hX j hjl).1
      unfold World.cells? at hc
      rw [if_pos (by rw [add_blk]; exact hb)] at hc
      have hi6 : i < 6 := (List.getElem?_eq_some_iff.1 hi).1
      obtain ⟨b, hb1, hb2⟩ := Lib.mapM_at hc i i (by simp [hi6])
      rw [hi] at hb1
      obtain rfl := Option.some.inj hb1
      rw [← hb2]
      show w.cell? (a.add (j * 6 + i)) = _
      rw [add_two]
    · simp only [Prod.mk.injEq] at hx
      rw [hx.1]
      have e1 : (List.range len).map D = ((List.range len).map X).map datS := by
        rw [List.map_map]
        exact List.map_congr_left fun i hi => (hX i (List.mem_range.1 hi)).2
      rw [e1]
      simp only [Rows.uptoBulk]
      have := bulk_all (H := H) ((List.range len).map X)
      omega
end
end Go.Proofs.YtmilpfccgggmkaaDoor.Knt
