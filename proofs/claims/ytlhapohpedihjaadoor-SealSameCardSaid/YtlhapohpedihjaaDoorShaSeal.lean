/- The program's Seal. -/
import Derived.Test.YtlhapohpedihjaaDoorShaCode
import Derived.Test.YtlhapohpedihjaaDoorCopy
namespace Go.Proofs.YtlhapohpedihjaaDoor.Sha
open Go.RowKit Go.Proofs.YtlhapohpedihjaaDoorW.PrintWords Go.Proofs.YtlhapohpedihjaaDoorW.PrintLast Go.Proofs.YtlhapohpedihjaaDoorW.PrintMore Go.Proofs.YtlhapohpedihjaaDoor.Arr
set_option linter.unusedVariables false
set_option linter.unusedSimpArgs false

theorem make64 : ∀ w : World, (Instr.makeSlice 22 (.int .i64 64) (.int .i64 64)).run Tryd.prog w = .ok (.slice (some ⟨w.heap.size, 0, none⟩) 64 64) (w.alloc (.cells (numsA .u8 (zeros 64)) 5)) := by
  intro w
  have h := print_make_of (P := Tryd.prog) 22 5 (.int .u8 0) 1 Tryd.underlying22 infoB rfl (by decide) 64 (by decide) w
  have e : madeCells #[Value.int .u8 0] 64 = numsA .u8 (zeros 64) := by kernel_rfl
  rw [e] at h
  exact h

theorem info8b : (Tryd.prog.info? 5).map (·.size) = some 1 := by kernel_rfl
theorem zeros64 : 64 = (zeros 64).length := (zeros_length 64).symm
theorem zeros64le : 64 ≤ (zeros 64).length := Nat.le_of_eq zeros64
theorem pad_fill (kk : List Int) (n : Nat) (hn : kk.length = n) (h : n ≤ 64) (c : Int) : kk ++ (zeros 64).drop n = fillK (fun i => xorB (kk.getD i 0) c) (fun i => kk.getD i 0) 64 0 := by
  subst hn
  rw [fillK_zero]
  apply List.ext_getElem
  · simp [zeros]; omega
  · intro i h1 h2
    simp only [List.getElem_map, List.getElem_range]
    by_cases hi : i < kk.length
    · rw [List.getElem_append_left hi]; simp [List.getD, hi]
    · rw [List.getElem_append_right (by omega)]; simp [zeros, List.getD, List.getElem?_eq_none (show kk.length ≤ i by omega)]
theorem xor8_bits (x c : Int) (h0 : 0 ≤ x) (h1 : x < 256) (h2 : 0 ≤ c) (h3 : c < 256) : Go.bits .xor .u8 x c = xorB x c := by
  obtain ⟨a, rfl⟩ : ∃ a : Nat, (a : Int) = x := ⟨x.toNat, by omega⟩
  obtain ⟨b, rfl⟩ : ∃ b : Nat, (b : Int) = c := ⟨c.toNat, by omega⟩
  unfold Go.bits xorB
  simp only [IntKind.wrap_u8]
  have b1 : (BitVec.ofInt IntKind.u8.bits (a : Int)) = BitVec.ofNat 8 a := by simp [IntKind.bits]
  have b2 : (BitVec.ofInt IntKind.u8.bits (b : Int)) = BitVec.ofNat 8 b := by simp [IntKind.bits]
  rw [b1, b2]
  show (((BitVec.ofNat 8 a ^^^ BitVec.ofNat 8 b).toNat : Nat) : Int) % 256 = _
  rw [BitVec.toNat_xor, BitVec.toNat_ofNat, BitVec.toNat_ofNat, Nat.mod_eq_of_lt (by omega), Nat.mod_eq_of_lt (by omega)]
  have : a ^^^ b < 2 ^ 8 := Nat.xor_lt_two_pow (by omega) (by omega)
  simp only [Int.toNat_natCast]
  omega

theorem digest_at (A : Option Addr) (n cap : Nat) (bs : List Int) (hn : bs.length = n) (hb8 : Bytes bs) (hcap : n ≤ cap) (hsz : n ≤ 140737488351232) (w : World) (hr : ReadsInt w .u8 A n bs) (hg : 2 ≤ w.heap.size) (hs : Cells w 0 (numsA .u32 start.list)) (hk : Cells w 1 (numsA .u32 keysI)) :
    Calls Tryd.prog 8 #[.slice A n cap] w fun e w' => e = .returned (.agg (numsA .u8 (digL bs))) ∧ Below w.heap.size w w' := by
  subst hn
  exact digest_calls A cap bs hb8 hcap hsz w hr hg hs hk

set_option maxRecDepth 100000 in
set_option maxHeartbeats 4000000 in
theorem seal_calls (A : Option Addr) (cap : Nat) (ks : List Int) (hk8 : Bytes ks) (hkc : ks.length ≤ cap) (hks : ks.length ≤ 140737488351232) (B : Option Addr) (bc : Nat) (bs : List Int) (hb8 : Bytes bs) (hbc : bs.length ≤ bc) (hbs : bs.length ≤ 140737488351000)
    (w : World) (hr : ReadsInt w .u8 A ks.length ks) (hrb : ReadsInt w .u8 B bs.length bs) (hg : 2 ≤ w.heap.size) (hs : Cells w 0 (numsA .u32 start.list)) (hk : Cells w 1 (numsA .u32 keysI)) :
    Calls Tryd.prog 10 #[.slice A ks.length cap, .slice B bs.length bc] w fun e w' => e = .returned (.agg (numsA .u8 (sealL ks bs))) ∧ Below w.heap.size w w' := by
  have K8 := Aside0.mk hk8
  have B8 := Aside0.mk hb8
  have HR := Aside0.mk hr
  have HRB := Aside0.mk hrb
  have HS := Aside0.mk hs
  have HK := Aside0.mk hk
  clear hk8 hb8 hr hrb hs hk
  go_enter Tryd.func10, Tryd.ntmps10
  go_upto_if 12 with (with_reducible refine wpList_alloc_agg rfl 24 _ rfl zero32 ?_)
  go_cut [0] (fun v0 wc => ∃ (A' : Option Addr) (c' n : Nat), v0 = .slice A' n c' ∧ (keyL ks).length = n ∧ n ≤ c' ∧ ReadsInt wc .u8 A' n (keyL ks) ∧ Blk wc w.heap.size 24 (numsA .u8 (zeros 32)) ∧ Below w.heap.size w wc)
  case first =>
    by_cases hlen : 64 < ks.length
    · have t1 : decide ((ks.length : Int) > 64) = true := by simp; omega
      go_wp2_with (first
        | (go_at_call 8; refine (digest_calls A cap ks K8.out hkc hks _ (HR.out.below (below_alloc (Below.refl _ _) _)) (by simp; omega) (HS.out.below (below_alloc (Below.refl _ _) _)) (HK.out.below (below_alloc (Below.refl _ _) _))).mono ?_; rintro e w1 ⟨rfl, hb1⟩; have h2 := (Blk.newAt (w := w) (T := 24) (cs := numsA .u8 (zeros 32)) rfl).below hb1; have hb2 := (below_alloc (Below.refl w.heap.size w) (.cells (numsA .u8 (zeros 32)) 24)).trans (hb1.mono (by simp)))
        | (with_reducible refine wpList_alloc_agg rfl 24 _ rfl zero32 ?_)
        | (with_reducible refine wpList_store_blk rfl 24 _ _ rfl _ _ rfl rfl info32 (by rw [numsA_size, digL_length]) (numsA_one _ _) (Blk.newAt (by simp)) (by rw [numsA_size, zeros_length]) ?_; rw [setRow_top (by simp)]))
      go_meet
      exact ⟨_, _, 32, rfl, by rw [keyL, if_pos hlen, digL_length], Nat.le_refl _, by rw [keyL, if_pos hlen]; exact digL_length ks ▸ (Blk.newAt rfl).readsNums (by rw [digL_length]; omega), h2.alloc _, hb2.alloc hb2.size _⟩
    · have t1 : decide ((ks.length : Int) > 64) = false := by simp; omega
      go_wp2_with fail
      go_meet
      case rel => exact ⟨A, cap, ks.length, rfl, by rw [keyL, if_neg hlen], hkc, by rw [keyL, if_neg hlen]; exact HR.out.below (below_alloc (Below.refl _ _) _), Blk.newAt rfl, below_alloc (Below.refl _ _) _⟩
  case rest =>
    obtain ⟨A', c', n, rfl, hn, hc', hrk, h2, hw0⟩ := hcut
    have kb := keyL_bytes ks K8.out
    have kl := keyL_length ks
    generalize hkl : keyL ks = kk at *
    have HKL := Aside0.mk hkl
    have HN := Aside0.mk hn
    have KB := Aside0.mk kb
    have hn64 : n ≤ 64 := by omega
    clear hkl hn kb kl
    have HRK := Aside0.mk hrk
    clear hrk
    have mk := make64
    go_wp2_with fail
    obtain ⟨w0, rfl⟩ : ∃ w0 : World, w0 = wc := ⟨_, rfl⟩
    go_cut [6, 7] (fun v6 v7 wd => ∃ g g' : Nat, g ≠ g' ∧ w0.heap.size ≤ g ∧ w0.heap.size ≤ g' ∧ v6 = .slice (some ⟨g, 0, none⟩) 64 64 ∧ v7 = .slice (some ⟨g', 0, none⟩) 64 64 ∧ Blk wd g 5 (numsA .u8 (zeros 64)) ∧ Blk wd g' 5 (numsA .u8 (zeros 64)) ∧ Below w0.heap.size w0 wd)
    case first =>
      go_region
      · go_wp2_with fail
        go_meet
        case rel => exact ⟨_, _, by omega, by omega, by omega, rfl, rfl, ((Blk.newAt rfl).alloc _).drew, (Blk.newAt (by simp)).drew, below_drew (below_alloc (below_alloc (Below.refl _ _) _) _)⟩
      · go_wp2_with fail
        go_meet
        case rel => exact ⟨_, _, by omega, by omega, by omega, rfl, rfl, (Blk.newAt (by simp)).drew, ((Blk.newAt rfl).alloc _).drew, below_drew (below_alloc (below_alloc (Below.refl _ _) _) _)⟩
    case rest =>
      obtain ⟨g, g', hne, hg1, hg2, rfl, rfl, b1, b2, hbd⟩ := hcut
      clear mk
      have tok1 : True := trivial
      have b3 := b2.rowFar (Ne.symm hne) (numsA .u8 (kk ++ (zeros 64).drop n))
      have hb3 := below_setRow hbd hg1 (numsA .u8 (kk ++ (zeros 64).drop n))
      have r1 := Aside0.mk (HRK.out.below hbd)
      have r2 := Aside0.mk (HRK.out.below hb3)
      go_wp2_with (first
        | (with_reducible refine wpList_copy_blk rfl (.tmp 18) (.tmp 19) _ _ rfl 5 Tryd.underlying22 info8b g 64 .u8 (zeros 64) kk A' n c' 64 rfl rfl zeros64 5 b1 r1.out (Nat.le_trans hn64 zeros64le) ?_)
        | (with_reducible refine wpList_copy_blk rfl (.tmp 21) (.tmp 22) _ _ rfl 5 Tryd.underlying22 info8b g' 64 .u8 (zeros 64) kk A' n c' 64 rfl rfl zeros64 5 b3 r2.out (Nat.le_trans hn64 zeros64le) ?_))
      have b5 := ((b1.row (numsA .u8 (kk ++ (zeros 64).drop n))).rowFar hne (numsA .u8 (kk ++ (zeros 64).drop n)))
      have b6 := (b3.row (numsA .u8 (kk ++ (zeros 64).drop n)))
      have hb5 := below_setRow hb3 hg2 (numsA .u8 (kk ++ (zeros 64).drop n))
      have p6 := pad_fill kk n HN.out hn64 54
      have p7 := pad_fill kk n HN.out hn64 92
      clear b1 b2 b3 hbd hb3 r1 r2
      go_loopw [24] (fun v24 wr => ∃ i : Nat, i ≤ 64 ∧ v24 = .int .i64 (i : Int) ∧ Blk wr g 5 (numsA .u8 (fillK (fun i => xorB (kk.getD i 0) 54) (fun i => kk.getD i 0) 64 i)) ∧ Blk wr g' 5 (numsA .u8 (fillK (fun i => xorB (kk.getD i 0) 92) (fun i => kk.getD i 0) 64 i)) ∧ Below w0.heap.size w0 wr) (fun v24 _ => 64 - (intOf v24).toNat)
      case atStart => exact ⟨0, by omega, rfl, by rw [← p6]; exact b5, by rw [← p7]; exact b6, hb5⟩
      case round =>
        clear b5 b6 hb5 p6 p7
        obtain ⟨i, hi, rfl, h6, h7, hb⟩ := hrel
        by_cases hlt : i < 64
        · have t64 : decide ((i : Int) < 64) = true := by simp; omega
          have c6 := (h6.cell i).trans (numsA_get _ _ i (by rw [fillK_length]; exact hlt))
          have c7 := (h7.cell i).trans (numsA_get _ _ i (by rw [fillK_length]; exact hlt))
          rw [fillK_todo _ _ _ _ _ _ hlt (Nat.le_refl _)] at c6 c7
          have hne' : ¬ g' = g := fun h => hne h.symm
          have c7' : ∀ u, (wr.setCell ⟨g, i, none⟩ u).cell? ⟨g', i, none⟩ = some (.int .u8 (kk.getD i 0)) := fun u => by
            have := ((h7.far (p := ⟨g, i, none⟩) hne' u).cell i).trans (numsA_get _ _ i (by rw [fillK_length]; exact hlt))
            rwa [fillK_todo _ _ _ _ _ _ hlt (Nat.le_refl _)] at this
          have f7' : ∀ u, (wr.setCell ⟨g, i, none⟩ u).frozen? ⟨g', i, none⟩ = false := fun u => (h7.far (p := ⟨g, i, none⟩) hne' u).frozen i
          have f6 := h6.frozen i
          have f7 := h7.frozen i
          have x0 := getD_byte kk KB.out i
          have s6 := fillK_set (fun i => xorB (kk.getD i 0) 54) (fun i => kk.getD i 0) 64 i hlt _ rfl
          have s7 := fillK_set (fun i => xorB (kk.getD i 0) 92) (fun i => kk.getD i 0) 64 i hlt _ rfl
          have S6 := Aside0.mk s6
          have S7 := Aside0.mk s7
          clear s6 s7
          generalize hx : kk.getD i 0 = x at *
          have x54 := Aside0.mk (xor8_bits x 54 x0.1 x0.2 (by decide) (by decide))
          have x92 := Aside0.mk (xor8_bits x 92 x0.1 x0.2 (by decide) (by decide))
          clear hx
          go_wp2_with fail
          go_roundw
          case rel => exact ⟨i + 1, by omega, by go_num, by
              rw [← S6.out, ← x54.out, ← numsA_set]; exact (h6.set i _).far hne _, by
              rw [← S7.out, ← x92.out, ← numsA_set]; exact (h7.far (Ne.symm hne) _).set i _, (hb.setCell hg1 _).setCell hg2 _⟩
          case measure => simp [intOf]; omega
        · have t64 : decide ((i : Int) < 64) = false := by simp; omega
          have ei : i = 64 := by omega
          rw [ei, fillK_full] at h6 h7
          clear ei
          have tok2 : True := trivial
          have M6' := Aside0.mk (maskL_bytes kk 54 64 KB.out (by decide))
          have M7' := Aside0.mk (maskL_bytes kk 92 64 KB.out (by decide))
          have L6 := Aside0.mk (maskL_length kk 54 64)
          have L7 := Aside0.mk (maskL_length kk 92 64)
          have i6 : Blk wr g 5 (numsA .u8 (maskL kk 54 64)) := h6
          have i7 : Blk wr g' 5 (numsA .u8 (maskL kk 92 64)) := h7
          clear h6 h7
          generalize hm6 : maskL kk 54 64 = m6 at *
          generalize hm7 : maskL kk 92 64 = m7 at *
          have HM6 := Aside0.mk hm6
          have HM7 := Aside0.mk hm7
          clear hm6 hm7
          have h6 := i6.toRow (B := w0.heap.size) (m := 64) (c := 64) hg1 L6.out.symm L6.out.symm (by rw [L6.out]; omega)
          have h7 := i7.toRow (B := w0.heap.size) (m := 64) (c := 64) hg2 L7.out.symm L7.out.symm (by rw [L7.out]; omega)
          have hnr : NeRow (.slice (some ⟨g, 0, none⟩) 64 64) (.slice (some ⟨g', 0, none⟩) 64 64) := by
            intro k hk hk'
            simp only [Value.ownBlock, Option.some.injEq] at hk hk'
            omega
          have HNR := Aside0.mk hnr
          clear i6 i7 hnr
          have hrb := Aside0.mk (HRB.out.below (hw0.trans (hb.mono hw0.size)))
          have g2 := h2.lt
          have hsz0 := hw0.size
          have HS0 := Aside0.mk (HS.out.below hw0)
          have HK0 := Aside0.mk (HK.out.below hw0)
          go_wp2_with (first
            | (at_builtin; have _t := tok1; have q1 := hb.size; have q6 : m6.length + bs.length ≤ 140737488355328 := (by rw [L6.out]; omega); go_must (refine app8 (w0 := w0) w0.heap.size rfl _ _ rfl (.slice (some ⟨g, 0, none⟩) 64 64) m6 bs B bs.length bc rfl rfl h6 hrb.out hb q1 q6 ?_); intro v6' w1 hv' hb' hg' hat'; replace h6 := hv'; replace h7 := h7.grown hg' (ne_other HNR.out); replace hb := hb'; clear hg' hat' q1 q6 hv' hb' _t tok1; obtain ⟨Aa, ca, rfl, hra⟩ := h6.reads; have lca : (m6 ++ bs).length ≤ ca := h6.cap_le; rw [List.length_append] at hra lca; have RA := Aside0.mk hra; clear hra)
            | (go_at_call 8; have _t := tok2; have q1 := hb.size; go_must (refine (digest_at Aa (m6.length + bs.length) ca (m6 ++ bs) List.length_append (M6'.out.append B8.out) lca (by rw [L6.out]; omega) _ RA.out (by omega) (HS0.out.below hb) (HK0.out.below hb)).mono ?_); rintro e w1 ⟨rfl, hb1⟩; replace h7 := h7.below hb1; replace hb := hb.trans (hb1.mono hb.size); clear hb1 _t tok2 q1)
            | (with_reducible refine wpList_alloc_agg rfl 24 _ rfl zero32 ?_)
            | (with_reducible refine wpList_store_blk rfl 24 _ _ rfl _ _ rfl rfl info32 (by rw [numsA_size, digL_length]) (numsA_one _ _) (Blk.newAt (by simp)) (by rw [numsA_size, zeros_length]) ?_; rw [setRow_top (by simp)])
            | (at_builtin; have q1 := hb.size; have q2 := h7.alloc (.cells (numsA .u8 (digL (m6 ++ bs))) 24); have q3 := (Blk.new w1 24 (numsA .u8 (digL (m6 ++ bs)))).readsNums (by rw [digL_length]; omega); rw [digL_length] at q3; have q5 : w0.heap.size ≤ (w1.alloc (.cells (numsA .u8 (digL (m6 ++ bs))) 24)).heap.size := (by rw [World.size_alloc]; omega); have q6 : m7.length + 32 ≤ 140737488355328 := (by rw [L7.out]; omega); go_must (refine app8 (w0 := w0) w0.heap.size rfl _ _ rfl (.slice (some ⟨g', 0, none⟩) 64 64) m7 (digL (m6 ++ bs)) _ 32 _ rfl rfl q2 q3 (hb.alloc q1 _) q5 q6 ?_); intro v7' w1 hv' hb' hg' hat'; replace h7 := hv'; replace hb := hb'; clear hg' hat' q1 q2 q3 q5 q6 hv' hb'; obtain ⟨Ab, cb, rfl, hra⟩ := h7.reads; have lcb : (m7 ++ digL (m6 ++ bs)).length ≤ cb := h7.cap_le; rw [List.length_append] at hra lcb; have RB := Aside0.mk hra; clear hra)
            | (go_at_call 8; have q1 := hb.size; go_must (refine (digest_at Ab (m7.length + (digL (m6 ++ bs)).length) cb (m7 ++ digL (m6 ++ bs)) List.length_append (M7'.out.append (digL_bytes _)) lcb (by rw [L7.out, digL_length]; omega) _ RB.out (by omega) (HS0.out.below hb) (HK0.out.below hb)).mono ?_); rintro e w1 ⟨rfl, hb1⟩; replace hb := hb.trans (hb1.mono hb.size); clear hb1; have h2' := h2.below hb)
            | (with_reducible refine wpList_store_blk rfl 24 _ _ rfl _ _ rfl rfl info32 (by rw [numsA_size, digL_length]) (numsA_one _ _) h2' (by rw [numsA_size, zeros_length]) ?_))
          refine bodyPost_ret (v := .agg (numsA .u8 (sealL ks bs))) (results_blk Tryd.results10 _ _ _ _ _ rfl info32 Tryd.underlying24 rfl (by unfold sealL; rw [HKL.out, HM6.out, HM7.out]; exact h2'.row _) (by rw [numsA_size, sealL_length])) rfl ⟨rfl, below_setRow (hw0.trans (hb.mono hw0.size)) (by simp) _⟩
end Go.Proofs.YtlhapohpedihjaaDoor.Sha
