/- The fixed fact awake. -/
import Derived.Test.YtcgfdnhocdcfjaaHll
namespace Go.Proofs.Ytcgfdnhocdcfjaa.Hed
open Go.RowKit Go.Proofs.YtcgfdnhocdcfjaaW.PrintWords Go.Proofs.Ytcgfdnhocdcfjaa.Arr Go.Proofs.Ytcgfdnhocdcfjaa.Utf Go.Proofs.Ytcgfdnhocdcfjaa.PHedgePlays T
set_option linter.unusedVariables false
set_option linter.unusedSimpArgs false

def sA : ByteArray := ⟨#[97]⟩
def sAB : ByteArray := ⟨#[97, 98]⟩
def sB : ByteArray := ⟨#[98]⟩
def kEx (i : Nat) : ByteArray := if i = 0 then sB else if i = 1 then sAB else sA
def lEx (i : Nat) : List Ent := if i = 0 then [] else if i = 1 then [(sB, 1)] else if i = 2 then [(sAB, 1), (sB, 1)] else [(sA, 1), (sAB, 1), (sB, 1)]
theorem kEx_size (i : Nat) : (kEx i).size ≤ 1000000 := by unfold kEx; split <;> (try split) <;> decide
theorem lEx_len (i : Nat) : (lEx i).length ≤ 3 := by unfold lEx; split <;> (try split) <;> (try split) <;> decide
theorem ex0 : putE (lEx 0) (kEx 0) 1 = lEx 1 := by kernel_rfl
theorem ex1 : putE (lEx 1) (kEx 1) 1 = lEx 2 := by kernel_rfl
theorem ex2 : putE (lEx 2) (kEx 2) 1 = lEx 3 := by kernel_rfl
theorem exs (i : Nat) (h : i < 3) : putE (lEx i) (kEx i) 1 = lEx (i + 1) := by
  match i, h with
  | 0, _ => exact ex0
  | 1, _ => exact ex1
  | 2, _ => exact ex2
  | i + 3, h => omega
theorem exIx (i : Nat) (h : i < 3) : ∀ w, (Instr.index 58 (.agg #[.string ⟨#[98]⟩, .string ⟨#[97, 98]⟩, .string ⟨#[97]⟩]) (.int .i64 (i : Int))).run Try.prog w = .ok (.string (kEx i)) w := by
  match i, h with
  | 0, _ => intro w; rfl
  | 1, _ => intro w; rfl
  | 2, _ => intro w; rfl
  | i + 3, h => omega
theorem exU : (((lEx 3).filter (hi sA)).take (9 : Int).toNat).takeWhile (fun e => pre sA e.1) = [(sA, 1), (sAB, 1)] := by kernel_rfl
theorem exR : (((lEx 3).filter (lo sB)).length : Int) = 2 := by kernel_rfl
theorem own_some {w : World} {base : Nat} {ok : Nat → Prop} {A : Option Addr} {n c : Nat} {l : List S32} (h : Kd.R k32 TEn w base ok (.slice A n c) l) (hn : 0 < l.length) : ∃ g, A = some ⟨g, 0, none⟩ := by
  obtain ⟨h0, inner, ho, hr⟩ := h
  rcases ho.2 with ⟨e, h2⟩ | ⟨g, cap, cur, e, hg, hh, r⟩
  · omega
  · injection e with e1 e2 e3
    exact ⟨g, e1⟩
set_option maxHeartbeats 4000000 in
set_option maxRecDepth 100000 in
theorem awake_calls (w : World) : Calls Try.prog 8 #[] w fun e w' => e = .returned (.bool true) ∧ Below w.heap.size w w' := by
  go_enter Try.func8, Try.ntmps8
  go_wp2_with fail
  refine (newL_calls w).mono ?_
  rintro e w1 ⟨h, rfl, hH, b1⟩
  have H1 := Aside0.mk hH
  have B1 := Aside0.mk b1
  clear hH b1
  go_wp2
  go_loopw [3, 9, 10, 11, 12, 13, 14, 15] (fun v3 v9 v10 v11 v12 v13 v14 v15 wr => ∃ i : Nat, v9 = .int .i64 (i : Int) ∧ Aside0 (i ≤ 3) ∧ Aside0 (HL w.heap.size wr h (lEx i)) ∧ Aside0 (Below w.heap.size w wr)) (fun _ v9 _ _ _ _ _ _ _ => 3 - (intOf v9).toNat)
  case atStart => exact ⟨0, rfl, ⟨Nat.zero_le _⟩, H1, B1⟩
  case round =>
    obtain ⟨i, rfl, hin, hH, hb⟩ := hrel
    by_cases hi : i < 3
    · have t1 : decide ((i : Int) < 3) = true := decide_eq_true (by omega)
      have hx := exIx i hi
      have K := Aside0.mk (putL_calls hH.out (kEx i) 1 (by have := lEx_len i; omega) (kEx_size i) hb.out.size)
      have HE := Aside0.mk (exs i hi)
      obtain ⟨kk, hkk⟩ : ∃ kk, kEx i = kk := ⟨_, rfl⟩
      rw [hkk] at hx K HE
      obtain ⟨qq, hqq⟩ : ∃ qq, (!((lEx i).any (eqK kk))) = qq := ⟨_, rfl⟩
      rw [hqq] at K
      have hw : IntKind.i64.wrap ((i : Int) + 1) = ((i + 1 : Nat) : Int) := by rw [show ((i : Int) + 1) = ((i + 1 : Nat) : Int) by omega]; exact IntWalk.i64_in _ (by omega)
      clear hkk hqq
      go_wp2_with fail
      refine K.out.mono ?_
      rintro e w2 ⟨rfl, hH2, hb2⟩
      rw [HE.out] at hH2
      have H2 := Aside0.mk hH2
      have B2 := Aside0.mk (hb.out.trans hb2)
      clear hH2 hb2
      go_wp2
      go_roundw
      case rel => exact ⟨i + 1, by first | rfl | (rw [hw]) | go_num | simp [hw], ⟨by omega⟩, H2, B2⟩
      case measure => simp [intOf, hw]; omega
    · have t1 : decide ((i : Int) < 3) = false := decide_eq_false (by omega)
      have e3 : i = 3 := by have := hin.out; omega
      subst e3
      have KU := Aside0.mk (underL_calls hH.out sA 9 (by have := lEx_len 3; omega))
      rw [exU] at KU
      go_wp2_with fail
      refine KU.out.mono ?_
      rintro e w3 ⟨vo, rfl, hR, b3⟩
      obtain ⟨A3, c3, hc3, rfl, hC3⟩ : ∃ A c, ([(sA, (1 : Int)), (sAB, 1)].map toS).length ≤ c ∧ vo = .slice A 2 c ∧ Kd.C k32 w3 A 2 ([(sA, (1 : Int)), (sAB, 1)].map toS) := by
        obtain ⟨A, c, h1, h2, h3⟩ := Kd.R_reads hR
        exact ⟨A, c, h2, h1, h3⟩
      obtain ⟨g, rfl⟩ := own_some hR (by decide)
      obtain ⟨a0, eA, x0, x1⟩ := at_T32 hC3 0 (by decide) (by decide)
      cases eA
      obtain ⟨a1, eA, z0, z1⟩ := at_T32 hC3 1 (by decide) (by decide)
      cases eA
      have x0 : w3.cell? ⟨g, 0, none⟩ = some (.string ⟨#[97]⟩) := x0
      have z0 : w3.cell? ⟨g, 2, none⟩ = some (.string ⟨#[97, 98]⟩) := z0
      have H3 := Aside0.mk (hH.out.below b3)
      have KR := Aside0.mk (rankL_calls H3.out sB (by have := lEx_len 3; omega))
      rw [exR] at KR
      have B3 := Aside0.mk (hb.out.trans (b3.mono hb.out.size))
      clear hR hC3 b3
      go_wp2_with fail
      refine KR.out.mono ?_
      rintro e w4 ⟨rfl, b4⟩
      have B4 := Aside0.mk (B3.out.trans (b4.mono B3.out.size))
      clear b4 x0 x1 z0 z1
      go_wp2
      go_ret
      exact ⟨rfl, B4.out⟩
end Go.Proofs.Ytcgfdnhocdcfjaa.Hed
