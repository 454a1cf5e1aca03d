/- The reference's digest and seal. -/
import Derived.Test.YtlhapohpedihjaaDoorShaRef
import Derived.Test.YtlhapohpedihjaaDoorRow
import Derived.WalkSpells
import Derived.Deep.DeepCutAuto
namespace Go.Proofs.YtlhapohpedihjaaDoor.Sha
open Go.RowKit Go.Proofs.YtlhapohpedihjaaDoorW.PrintWords Go.Proofs.YtlhapohpedihjaaDoorW.PrintLast Go.Proofs.YtlhapohpedihjaaDoorW.PrintMore Go.Proofs.YtlhapohpedihjaaDoor.Arr
set_option linter.unusedVariables false
set_option linter.unusedSimpArgs false

theorem infoB : (Tryd.prog.info? 5).map (fun i => (i.zero, i.size, i.bytes)) = some (some (.int .u8 0), 1, 1) := by kernel_rfl
theorem zero32 : ∀ w, (zeroValue 24).run Tryd.prog w = .ok (.agg (numsA .u8 (zeros 32))) w := fun w => by kernel_rfl
theorem build32 : ∀ w, (Instr.build 24 #[]).run Tryd.prog w = .ok (.agg (numsA .u8 (zeros 32))) w := fun w => by kernel_rfl
theorem info32 : (Tryd.prog.info? 24).map (·.size) = some 32 := by kernel_rfl
theorem rem_fact (n z : Nat) (h : (n + 1 + z) % 64 = 56) : (((n : Int) + 1 + z) % 64 != 56) = false := by simp; omega
theorem rem_fact' (n z : Nat) (h : (n + 1 + z) % 64 ≠ 56) : (((n : Int) + 1 + z) % 64 != 56) = true := by simp; omega

section
variable {ops : Array Oper} {rest : List Oper} {o : Oper} {a : Act} {Q : Exit → Act → World → Prop}
/-- append of bytes to bytes of the call's own. -/
theorem app8 {w0 W : World} (B : Nat) (hgd : o.guard = none) (s x : Operand)
    (ho : o.op = .call { callee := .builtin .append, args := #[s, x], argTypes := #[22, 22] })
    (v : Value) (xs ys : List Int) (A : Option Addr) (m c : Nat) (hs : a.eval s = v) (hx : a.eval x = .slice A m c)
    (HO : Row W B 5 .u8 v xs) (HR : ReadsInt W .u8 A m ys) (HB : Below B w0 W) (hbase : B ≤ W.heap.size) (hl : xs.length + m ≤ 140737488355328)
    (h : ∀ v1 w1, Row w1 B 5 .u8 v1 (xs ++ ys) → Below B w0 w1 → W.grownBy w1 v.ownBlock → (v1.ownBlock = v.ownBlock ∨ ∃ b, v1.ownBlock = some b ∧ W.heap.size ≤ b) → wpList Tryd.prog ops Q rest (a.put o.dst v1) w1) :
    wpList Tryd.prog ops Q (o :: rest) a W :=
  wpList_append_nums (w0 := w0) B 5 .u8 1 hgd s x 22 ho Tryd.underlying22 infoB (Nat.le_refl 1) v xs ys A m c hs hx HO HR HB hbase (by omega) h
/-- A literal of one byte. -/
theorem lit8 {W : World} {B : Nat} (x : Int) (hB : B ≤ W.heap.size) : Row (W.alloc (.cells #[.int .u8 x] 5)) B 5 .u8 (.slice (some ⟨W.heap.size, 0, none⟩) 1 1) [x] := by
  refine Row.lit rfl hB ?_ ?_ ?_ <;> simp [nums]
end
theorem addr_off (g i j : Nat) : (⟨g, i, none⟩ : Addr).add j = ⟨g, i + j, none⟩ := by unfold Addr.add; split <;> simp_all
theorem cutL_at (L : List Int) (m j : Nat) (hj : j < 64) : (cutL L m).getD j 0 = L.getD (64 * m + j) 0 := by
  unfold cutL
  simp [List.getD, List.getElem?_take, hj, List.getElem?_drop]
/-- How long a slice is. -/
def sliceLen : Value → Nat
  | .slice _ n _ => n
  | _ => 0

set_option maxRecDepth 100000 in
set_option maxHeartbeats 4000000 in
theorem ref_digest_calls (A : Option Addr) (cap : Nat) (bs : List Int) (hb8 : Bytes bs) (hcap : bs.length ≤ cap) (hsz : bs.length ≤ 140737488351232) (w : World) (hr : ReadsInt w .u8 A bs.length bs) :
    Calls Tryd.prog 9 #[.slice A bs.length cap] w fun e w' => e = .returned (.agg (numsA .u8 (digL bs))) ∧ Below w.heap.size w w' := by
  have H8 := Aside0.mk hb8
  have HR := Aside0.mk hr
  clear hb8 hr
  go_enter Tryd.func9, Tryd.ntmps9
  have L1 : Row ((w.alloc (.cells (numsA .u8 (zeros 32)) 24)).alloc (.cells #[] 5)) w.heap.size 5 .u8 (.slice (some ⟨w.heap.size + 1, 0, none⟩) 0 0) [] := by refine Row.lit ?_ ?_ ?_ ?_ ?_ <;> simp [nums]
  have HL1 := Aside0.mk L1
  clear L1
  have tok1 : True := trivial
  go_wp2_with (first
    | (with_reducible refine wpList_alloc_agg rfl 24 _ rfl zero32 ?_)
    | (at_builtin; have _t := tok1; go_must (refine wpList_append_nums (w0 := w) w.heap.size 5 .u8 1 rfl _ _ 22 rfl Tryd.underlying22 infoB (by decide) (.slice (some ⟨w.heap.size + 1, 0, none⟩) 0 0) [] bs A bs.length cap rfl rfl HL1.out (HR.out.below (below_alloc (below_alloc (Below.refl _ _) _) _)) (below_alloc (below_alloc (Below.refl _ _) _) _) (by simp; omega) (by simp; omega) ?_; intro v1 w1 hv1 hb1 hg1 hat1; rw [List.nil_append] at hv1; have h2 : Blk w1 w.heap.size 24 (numsA .u8 (zeros 32)) := ((Blk.newAt rfl).alloc _).grown hg1 (by simp only [Value.ownBlock, ne_eq, Option.some.injEq]; omega); clear hg1 hat1 _t tok1))
    | (at_builtin; have q1 := hb1.size; have q2 := hv1.alloc (.cells #[.int .u8 128] 5); have q3 := h2.alloc (.cells #[.int .u8 128] 5); have q4 := q2.ne q3 (by decide); have q5 : w.heap.size ≤ (w1.alloc (.cells #[.int .u8 128] 5)).heap.size := (by rw [World.size_alloc]; omega); have q6 : (bs.length + 1) * 1 ≤ 140737488355328 := (by omega); go_must (refine wpList_append_nums (w0 := w) w.heap.size 5 .u8 1 rfl _ _ 22 rfl Tryd.underlying22 infoB (Nat.le_refl 1) v1 bs [128] _ 1 _ rfl rfl q2 (reads_one rfl) (hb1.alloc q1 _) q5 q6 ?_); intro v2 w2 hv2 hb2 hg2 hat2; have h3 := q3.grown hg2 q4; clear hg2 hat2 q1 q2 q3 q4 q5 q6))
  clear h2 hv1 hb1
  go_loopw [3] (fun v3 wr => ∃ z : Nat, z ≤ need bs.length ∧ Row wr w.heap.size 5 .u8 v3 (padA bs z) ∧ Blk wr w.heap.size 24 (numsA .u8 (zeros 32)) ∧ Below w.heap.size w wr) (fun v3 _ => need bs.length + bs.length + 1 - sliceLen v3)
  case atStart => exact ⟨0, by omega, by rw [padA_zero]; exact hv2, h3, hb2⟩
  case round =>
    clear hv2 h3 hb2
    obtain ⟨z, hz, hv, h2, hb⟩ := hrel
    obtain ⟨Az, cz, rfl, _⟩ := hv.reads
    rw [padA_length] at hv ⊢
    have hnl := need_lt bs.length
    by_cases hend : (bs.length + 1 + z) % 64 = 56
    · have t1 := rem_fact _ _ hend
      go_wp2_with fail
      have ez : z = need bs.length := by
        rcases Nat.lt_or_ge z (need bs.length) with h | h
        · exact absurd hend (need_ne _ _ h)
        · omega
      have hv3 : Row wr w.heap.size 5 .u8 (.slice Az (bs.length + 1 + z) cz) (padA bs (need bs.length)) := ez ▸ hv
      have EZ := Aside0.mk ez
      clear hv ez t1 hend
      go_loopw [4, 5, 6] (fun v4 v5 v6 wr => ∃ (k : Nat) (m : Int), k ≤ 8 ∧ Aside0 (m = (bs.length * 8 / 256 ^ k : Nat)) ∧ 0 ≤ m ∧ m < 18446744073709551616 ∧ v4 = .int .u64 m ∧ v6 = .int .i64 (k : Int) ∧ Row wr w.heap.size 5 .u8 v5 (lastN (bs.length * 8) k) ∧
        Row wr w.heap.size 5 .u8 (.slice Az (bs.length + 1 + z) cz) (padA bs (need bs.length)) ∧ Blk wr w.heap.size 24 (numsA .u8 (zeros 32)) ∧ Below w.heap.size w wr) (fun _ _ v6 _ => 8 - (intOf v6).toNat)
      case atStart => exact ⟨0, (bs.length : Int) * 8, by omega, ⟨by simp⟩, by omega, by omega, rfl, rfl, Row.nil _ _ _ _, hv3, h2, hb⟩
      case round =>
        clear hv3 h2 hb
        obtain ⟨k, m, hk, hm, m0, m1, rfl, rfl, hv5, hv3, h2, hb⟩ := hrel
        obtain ⟨A5, c5, rfl, hr5⟩ := hv5.reads
        rw [lastN_length] at hr5 ⊢
        have HR5 := Aside0.mk hr5
        clear hr5
        by_cases hlt : k < 8
        · have t8 : decide ((k : Int) < 8) = true := by simp; omega
          go_wp2_with (at_builtin; have q1 := hb.size; have q2 := lit8 (W := wr) (B := w.heap.size) (m % 256) q1; have q3 := h2.alloc (.cells #[.int .u8 (m % 256)] 5); have q4 := q2.ne q3 (by decide); have q5 : w.heap.size ≤ (wr.alloc (.cells #[.int .u8 (m % 256)] 5)).heap.size := (by rw [World.size_alloc]; omega); have q6 : [m % 256].length + k ≤ 140737488355328 := (by rw [List.length_singleton]; omega); have q7 := hv3.alloc (.cells #[.int .u8 (m % 256)] 5); have q8 := hv3.apart_new (Nat.le_refl wr.heap.size); go_must (refine app8 (w0 := w) w.heap.size rfl _ _ rfl (.slice (some ⟨wr.heap.size, 0, none⟩) 1 1) [m % 256] (lastN (bs.length * 8) k) A5 k c5 rfl rfl q2 (HR5.out.below (below_alloc (Below.refl _ _) _)) (hb.alloc q1 _) q5 q6 ?_); intro v2 w2 hv2 hb2 hg2 hat2; have h3 := q3.grown hg2 q4; have h4 := q7.grown hg2 q8; clear hg2 hat2 q1 q2 q3 q4 q5 q6 q7 q8)
          go_roundw
          case rel => exact ⟨k + 1, m / 256, by omega, ⟨by rw [hm.out, Nat.pow_succ, ← Nat.div_div_eq_div_mul]; omega⟩, by omega, by omega, rfl, by go_num, by
            rw [lastN_succ, show ((bs.length * 8 / 256 ^ k % 256 : Nat) : Int) = m % 256 by rw [hm.out]; omega]; exact hv2, h4, h3, hb2⟩
          case measure => simp [intOf]; omega
        · have ek : k = 8 := by omega
          have t8 : decide ((k : Int) < 8) = false := by simp; omega
          have hr5' : ReadsInt wr .u8 A5 k (lastN (bs.length * 8) 8) := by have := HR5.out; rw [ek] at this ⊢; exact this
          have HR5' := Aside0.mk hr5'
          clear hv5 ek hr5' HR5
          go_wp2_with (first
            | (at_builtin; have q1 := hb.size; have q4 := hv3.ne h2 (by decide); have q6 : (padA bs (need bs.length)).length + k ≤ 140737488355328 := (by rw [padA_length]; omega); go_must (refine app8 (w0 := w) w.heap.size rfl _ _ rfl (.slice Az (bs.length + 1 + z) cz) (padA bs (need bs.length)) (lastN (bs.length * 8) 8) A5 k c5 rfl rfl hv3 HR5'.out hb q1 q6 ?_); intro v2 w2 hv2 hb2 hg2 hat2; have h3 := h2.grown hg2 q4; clear hg2 hat2 q1 q4 q6)
            | (with_reducible refine wpList_alloc_agg rfl 33 _ rfl zero8 ?_)
            | (with_reducible refine wpList_build_agg rfl 33 _ rfl (numsA .u32 start.list) (fun w => by kernel_rfl) ?_)
            | (with_reducible refine wpList_store_blk rfl 33 _ _ rfl _ _ rfl rfl info8 (by rw [numsA_size, S8.list_length]) (numsA_one _ _) (Blk.newAt (by simp)) (by rw [numsA_size, zeros_length]) ?_; rw [setRow_top (by simp)]))
          have hall : padA bs (need bs.length) ++ lastN (bs.length * 8) 8 = padL bs := rfl
          rw [hall] at hv2
          obtain ⟨Aa, ca, rfl, hra⟩ := hv2.reads
          have hlen := padL_length bs
          have hblk := padL_blocks bs
          have hby := padL_bytes bs H8.out
          have hne : padL bs ≠ [] := by intro h; rw [h] at hlen; simp at hlen; omega
          obtain ⟨ga, ea, hga⟩ : ∃ ga, Aa = some ⟨ga, 0, none⟩ ∧ w.heap.size ≤ ga := by
            rcases hv2.form with ⟨_, h⟩ | ⟨g, c, h, hg, _⟩
            · exact absurd h hne
            · simp only [Value.slice.injEq] at h; exact ⟨g, h.1, hg⟩
          subst ea
          have HBY := Aside0.mk hby
          have hcap2 : (padL bs).length ≤ ca := by
            rcases hv2.form with ⟨_, h⟩ | ⟨g, c, h, _, _, h5, _⟩
            · exact absurd h hne
            · simp only [Value.slice.injEq] at h; omega
          have hg2 := h3.lt
          have hca : ca ≤ maxLen := by
            rcases hv2.form with ⟨_, h⟩ | ⟨g, c, h, _, _, _, h6⟩
            · exact absurd h hne
            · simp only [Value.slice.injEq] at h; omega
          unfold maxLen at hca
          clear hra hne hby hall
          generalize hL : padL bs = L at *
          have HLL := Aside0.mk hL
          have HBL := Aside0.mk hblk
          clear hL hlen hblk
          go_loopw [8] (fun v8 wr => ∃ m i : Nat, Aside0 (i = 64 * m) ∧ i ≤ L.length ∧ v8 = .int .i64 (i : Int) ∧ Row wr w.heap.size 5 .u8 (.slice (some ⟨ga, 0, none⟩) L.length ca) L ∧ Blk wr w.heap.size 24 (numsA .u8 (zeros 32)) ∧
            Blk wr w2.heap.size 33 (numsA .u32 (stL L m).list) ∧ Below w.heap.size w wr) (fun v8 _ => L.length - (intOf v8).toNat)
          case atStart => exact ⟨0, 0, ⟨rfl⟩, by omega, rfl, hv2.alloc _, h3.alloc _, Blk.newAt rfl, hb2.alloc hb2.size _⟩
          case round =>
            clear hv2 h3 hb2
            obtain ⟨m, i, him, hm, rfl, hv, h2, h7, hb⟩ := hrel
            obtain ⟨wo, rfl⟩ : ∃ wo : World, wo = wr := ⟨_, rfl⟩
            by_cases hlt : i < L.length
            · have hm2 : i + 64 ≤ L.length := by have := him.out; have := HBL.out; omega
              have t8 : decide ((i : Int) < (L.length : Int)) = true := by simp; omega
              have rd : Rdb wo ⟨ga, i, none⟩ (cutL L m) := by
                intro j hj
                have h64 := cutL_length L m (by have := him.out; omega)
                rw [h64] at hj
                rw [addr_off, hv.at_ (i + j) (by omega), cutL_at L m j hj, him.out]
              have l64 := cutL_length L m (by have := him.out; omega)
              have b64 : Bytes (cutL L m) := HBY.out.cut _ _
              have RD := Aside0.mk rd
              have L64 := Aside0.mk l64
              have B64 := Aside0.mk b64
              clear rd l64 b64
              go_wp2_with fail
              have s1 : IntKind.i64.wrap ((i : Int) + 64) = (i : Int) + 64 := IntWalk.i64_in _ (by omega)
              have s2 : 0 ≤ (i : Int) + 64 := by omega
              have s3 : ((i : Int) + 64).toNat = i + 64 := by omega
              have s4 : i + 64 - i = 64 := by omega
              have s5 : ¬ ca = i := by omega
              have s6 : (i : Int) + 64 ≤ (ca : Int) := by omega
              have s7 : (i : Int) ≤ (i : Int) + 64 := by omega
              refine Qt.wp_region_tail (fun w' => Below wo.heap.size wo w') 7 (by kernel_rfl) (by kernel_rfl) (Below.refl _ _).drew ?_
              simp only [List.take_succ_cons, List.take_zero, List.drop_succ_cons, List.drop_zero]
              (with_reducible refine Qt.q_load_blk rfl 33 _ rfl _ _ _ rfl Tryd.underlying33 rfl info8 (fun w' hw' => h7.below hw') (by rw [numsA_size, S8.list_length]) (fun K hK => ?_); go_simp; refine hK _ ?_; clear hK K)
              iterate 5 (refine Qt.q_val' rfl ?_; apply Exists.intro; refine ⟨?_, ?_⟩; (focus (intro w' hw'; skip; go_simp; (first | rfl | done))); intro K hK; go_simp; refine hK _ ?_; clear hK K)
              (refine Qt.q_call' rfl ?_; apply Exists.intro; apply Exists.intro; refine ⟨?_, ?_⟩; (focus (intro w'; go_simp; (first | rfl | exact ⟨rfl, rfl⟩))); apply Exists.intro; refine ⟨?_, ?_⟩; (focus (intro w' hw'; first | with_reducible exact Qt.under hw' (ref_take_calls _ (stL_ok _ _) _ _ _ L64.out B64.out (by omega) _ (RD.out.below hw')))); intro K hK; go_simp; refine hK _ ?_; clear hK K)
              (refine wpQuiet_nil ?_; intro w' hw')
              have b7 := h7.below hw'
              go_wp2_with (with_reducible refine wpList_store_blk rfl 33 _ _ rfl _ _ rfl rfl info8 (by rw [numsA_size, S8.list_length]) (numsA_one _ _) b7 (by rw [numsA_size, S8.list_length]) ?_)
              go_roundw
              case rel => exact ⟨m + 1, i + 64, ⟨by have := him.out; omega⟩, by omega, by go_num, (hv.below hw').setRow b7 (by decide) _, (h2.below hw').rowFar (by omega) _, b7.row _, below_setRow (hb.trans (hw'.mono hb.size)) (by omega) _⟩
              case measure => simp [intOf]; omega
            · have em : m = L.length / 64 := by have := him.out; omega
              rw [em] at h7
              clear em
              have t8 : decide ((i : Int) < (L.length : Int)) = false := by simp; omega
              have ok := stL_ok L (L.length / 64)
              generalize hst : stL L (L.length / 64) = st at *
              have HST := Aside0.mk hst
              have OK := Aside0.mk ok
              clear hst ok
              have hz2 := h2.lt
              have hz7 := h7.lt
              go_wp2_with (first
                | (with_reducible refine wpList_alloc_agg rfl 24 _ rfl zero32 ?_)
                | (with_reducible refine wpList_build_none rfl 24 rfl _ build32 ?_)
                | (with_reducible refine wpList_store_blk rfl 24 _ _ rfl _ _ rfl rfl info32 (by rw [numsA_size, zeros_length]) (numsA_one _ _) (Blk.newAt (by simp)) (by rw [numsA_size, zeros_length]) ?_; rw [setRow_top (by simp)]))
              go_loopw [59] (fun v59 wr => ∃ i : Nat, i ≤ 8 ∧ v59 = .int .i64 (i : Int) ∧ Blk wr w.heap.size 24 (numsA .u8 (zeros 32)) ∧ Blk wr w2.heap.size 33 (numsA .u32 st.list) ∧ Blk wr wo.heap.size 24 (numsA .u8 (outF st (4 * i))) ∧ Below w.heap.size w wr) (fun v59 _ => 8 - (intOf v59).toNat)
              case atStart => exact ⟨0, by omega, rfl, h2.alloc _, h7.alloc _, Blk.newAt rfl, hb.alloc hb.size _⟩
              case round =>
                have hbs := hb.size
                clear h2 h7 hv hb
                obtain ⟨i, hi, rfl, h2, h7, h9, hb⟩ := hrel
                obtain ⟨wp, rfl⟩ : ∃ wp : World, wp = wr := ⟨_, rfl⟩
                by_cases hlt : i < 8
                · have t8 : decide ((i : Int) < 8) = true := by simp; omega
                  have c7 := (h7.cell i).trans (numsA_get _ _ i (by rw [S8.list_length]; exact hlt))
                  have n0 := list_lt st OK.out i
                  generalize hx : st.list.getD i 0 = x at *
                  have HX := Aside0.mk hx
                  clear hx
                  go_wp2_with fail
                  go_loopw [11, 12] (fun v11 v12 wr => ∃ (k : Nat) (m : Int), k ≤ 4 ∧ Aside0 (m = (x.toNat / 256 ^ (4 - k) : Nat)) ∧ 0 ≤ m ∧ m < 4294967296 ∧ v11 = .int .u32 m ∧ v12 = .int .i64 ((k : Int) - 1) ∧ Blk wr w.heap.size 24 (numsA .u8 (zeros 32)) ∧ Blk wr w2.heap.size 33 (numsA .u32 st.list) ∧
                    Blk wr wo.heap.size 24 (numsA .u8 (outP st i k)) ∧ Below w.heap.size w wr) (fun _ v12 _ => (intOf v12 + 1).toNat)
                  case atStart => exact ⟨4, x, by omega, ⟨by simp; omega⟩, n0.1, n0.2, rfl, rfl, h2, h7, by rw [outP_four]; exact h9, hb⟩
                  case round =>
                    clear h2 h7 h9 hb c7
                    obtain ⟨k, m, hk, hm, m0, m1, rfl, rfl, h2, h7, h9, hb⟩ := hrel
                    cases k with
                    | zero =>
                      go_wp2_with fail
                      go_roundw
                      case rel => exact ⟨i + 1, by omega, by go_num, h2, h7, by rw [← outP_zero]; exact h9, hb⟩
                      case measure => simp [intOf]; omega
                    | succ k =>
                      have c9 := (h9.cell (4 * i + k)).trans (numsA_get _ _ _ (by rw [outP_length]; omega))
                      have f9 := h9.frozen (4 * i + k)
                      go_wp2_with fail
                      go_roundw
                      case rel => exact ⟨k, m / 256, by omega, ⟨by rw [hm.out, show 4 - k = (4 - (k + 1)) + 1 by omega, Nat.pow_succ, ← Nat.div_div_eq_div_mul]; omega⟩, by omega, by omega, rfl, by go_num, h2.far (by simp; try omega) _, h7.far (by simp; try omega) _, by
                        have := h9.set (4 * i + k) (.int .u8 (m % 256))
                        rw [numsA_set, show m % 256 = outAt st (4 * i + k) by rw [outAt_word st i k (by omega), HX.out, show 3 - k = 4 - (k + 1) by omega, hm.out]; omega, outP_set st i k hlt (by omega)] at this
                        rw [show m % 256 = outAt st (4 * i + k) by rw [outAt_word st i k (by omega), HX.out, show 3 - k = 4 - (k + 1) by omega, hm.out]; omega]
                        exact this, hb.setCell (by simp; try omega) _⟩
                      case measure => simp [intOf]
                · have e32 : 4 * i = 32 := by omega
                  rw [e32, outF_all] at h9
                  clear e32
                  have t8 : decide ((i : Int) < 8) = false := by simp; omega
                  go_wp2_with (first
                    | (with_reducible refine wpList_load_blk rfl 24 _ rfl _ _ _ rfl Tryd.underlying24 rfl info32 h9 (by rw [numsA_size, outL_length]) ?_)
                    | (with_reducible refine wpList_store_blk rfl 24 _ _ rfl _ _ rfl rfl info32 (by rw [numsA_size, outL_length]) (numsA_one _ _) h2 (by rw [numsA_size, zeros_length]) ?_))
                  refine bodyPost_ret (v := .agg (numsA .u8 (digL bs))) (results_blk Tryd.results9 _ _ _ _ _ rfl info32 Tryd.underlying24 rfl (by unfold digL; rw [HLL.out, HST.out]; exact h2.row _) (by rw [numsA_size, digL_length])) rfl ⟨rfl, below_setRow hb (by simp) _⟩
    · have t1 := rem_fact' _ _ hend
      go_wp2_with (at_builtin; have q1 := hb.size; have q2 := hv.alloc (.cells #[.int .u8 0] 5); have q3 := h2.alloc (.cells #[.int .u8 0] 5); have q4 := q2.ne q3 (by decide); have q5 : w.heap.size ≤ (wr.alloc (.cells #[.int .u8 0] 5)).heap.size := (by rw [World.size_alloc]; omega); have q6 : (padA bs z).length + 1 ≤ 140737488355328 := (by rw [padA_length]; omega); go_must (refine app8 (w0 := w) w.heap.size rfl _ _ rfl (.slice Az (bs.length + 1 + z) cz) (padA bs z) [0] _ 1 _ rfl rfl q2 (reads_one rfl) (hb.alloc q1 _) q5 q6 ?_); intro v2 w2 hv2 hb2 hg2 hat2; have h3 := q3.grown hg2 q4; clear hg2 hat2 q1 q2 q3 q4 q5 q6)
      have hz' : z < need bs.length := by
        rcases Nat.lt_or_ge z (need bs.length) with h | h
        · exact h
        · exact absurd (by have := need_end bs.length; rw [show z = need bs.length by omega]; exact this) hend
      go_roundw
      case rel => exact ⟨z + 1, by omega, by rw [← padA_succ]; exact hv2, h3, hb2⟩
      case measure =>
        obtain ⟨A3, c3, e3, _⟩ := hv2.reads
        rw [e3]
        simp only [sliceLen, List.length_append, padA_length, List.length_singleton]
        omega

theorem of_at (n : Int) (h0 : 0 ≤ n) (h1 : n < 4294967296) (w : World) :
    Calls Tryd.prog 18 #[.int .u32 n] w fun e w' => e = .returned (.agg (boolsA (ofN n.toNat))) ∧ Below w.heap.size w w' := by
  obtain ⟨m, rfl⟩ := Int.eq_ofNat_of_zero_le h0
  exact of_calls m (by omega) w
theorem ref_digest_at (A : Option Addr) (n cap : Nat) (bs : List Int) (hn : bs.length = n) (hb8 : Bytes bs) (hcap : n ≤ cap) (hsz : n ≤ 140737488351232) (w : World) (hr : ReadsInt w .u8 A n bs) :
    Calls Tryd.prog 9 #[.slice A n cap] w fun e w' => e = .returned (.agg (numsA .u8 (digL bs))) ∧ Below w.heap.size w w' := by
  subst hn
  exact ref_digest_calls A cap bs hb8 hcap hsz w hr
theorem xor_sum (x c : Int) (h0 : 0 ≤ x) (h1 : x < 256) (c0 : 0 ≤ c) (c1 : c < 256) : ((numN (oddF (ofN x.toNat) (ofN c.toNat) no32) : Nat) : Int) % 256 = xorB x c := by
  have := numN_xor x.toNat c.toNat (by omega) (by omega)
  have e : no32 = (List.range 32).map fun _ => false := rfl
  rw [e, this]
  have := xorB_lt x c h0 h1 c1
  unfold xorB at this ⊢
  omega

set_option maxRecDepth 100000 in
set_option maxHeartbeats 4000000 in
theorem ref_seal_calls (A : Option Addr) (cap : Nat) (ks : List Int) (hk8 : Bytes ks) (hkc : ks.length ≤ cap) (hks : ks.length ≤ 140737488351232) (B : Option Addr) (bc : Nat) (bs : List Int) (hb8 : Bytes bs) (hbc : bs.length ≤ bc) (hbs : bs.length ≤ 140737488350000)
    (w : World) (hr : ReadsInt w .u8 A ks.length ks) (hrb : ReadsInt w .u8 B bs.length bs) :
    Calls Tryd.prog 11 #[.slice A ks.length cap, .slice B bs.length bc] w fun e w' => e = .returned (.agg (numsA .u8 (sealL ks bs))) ∧ Below w.heap.size w w' := by
  have K8 := Aside0.mk hk8
  have B8 := Aside0.mk hb8
  have HR := Aside0.mk hr
  have HRB := Aside0.mk hrb
  clear hk8 hb8 hr hrb
  go_enter Tryd.func11, Tryd.ntmps11
  go_upto_if 13 with (with_reducible refine wpList_alloc_agg rfl 24 _ rfl zero32 ?_)
  go_cut [0] (fun v0 wc => ∃ (A' : Option Addr) (c' n : Nat), v0 = .slice A' n c' ∧ (keyL ks).length = n ∧ n ≤ c' ∧ ReadsInt wc .u8 A' n (keyL ks) ∧ Blk wc w.heap.size 24 (numsA .u8 (zeros 32)) ∧ Below w.heap.size w wc)
  case first =>
    by_cases hlen : 64 < ks.length
    · have t1 : decide (64 < (ks.length : Int)) = true := by simp; omega
      go_wp2_with (first
        | (go_at_call 9; refine (ref_digest_calls A cap ks K8.out hkc hks _ (HR.out.below (below_alloc (Below.refl _ _) _))).mono ?_; rintro e w1 ⟨rfl, hb1⟩; have h2 := (Blk.newAt (w := w) (T := 24) (cs := numsA .u8 (zeros 32)) rfl).below hb1; have hb2 := (below_alloc (Below.refl w.heap.size w) (.cells (numsA .u8 (zeros 32)) 24)).trans (hb1.mono (by simp)))
        | (with_reducible refine wpList_alloc_agg rfl 24 _ rfl zero32 ?_)
        | (with_reducible refine wpList_store_blk rfl 24 _ _ rfl _ _ rfl rfl info32 (by rw [numsA_size, digL_length]) (numsA_one _ _) (Blk.newAt (by simp)) (by rw [numsA_size, zeros_length]) ?_; rw [setRow_top (by simp)]))
      go_meet
      case rel => exact ⟨_, _, 32, rfl, by rw [keyL, if_pos hlen, digL_length], Nat.le_refl _, by rw [keyL, if_pos hlen]; exact digL_length ks ▸ (Blk.newAt rfl).readsNums (by rw [digL_length]; omega), h2.alloc _, hb2.alloc hb2.size _⟩
    · have t1 : decide (64 < (ks.length : Int)) = false := by simp; omega
      go_wp2_with fail
      go_meet
      case rel => exact ⟨A, cap, ks.length, rfl, by rw [keyL, if_neg hlen], hkc, by rw [keyL, if_neg hlen]; exact HR.out.below (below_alloc (Below.refl _ _) _), Blk.newAt rfl, below_alloc (Below.refl _ _) _⟩
  case rest =>
    obtain ⟨A', c', n, rfl, hn, hc', hrk, h2, hw0⟩ := hcut
    have kb := keyL_bytes ks K8.out
    have kl := keyL_length ks
    generalize hkl : keyL ks = kk at *
    have HKL := Aside0.mk hkl
    have HN := Aside0.mk hn
    have KB := Aside0.mk kb
    have hn64 : n ≤ 64 := by omega
    clear hkl hn kb kl
    have HRK := Aside0.mk hrk
    clear hrk
    go_wp2_with fail
    obtain ⟨w0, rfl⟩ : ∃ w0 : World, w0 = wc := ⟨_, rfl⟩
    go_loopw [6, 7, 8] (fun s6 s7 v8 wr => ∃ (i : Nat) (v6 v7 : Value), v6 = s6 ∧ v7 = s7 ∧ i ≤ 64 ∧ v8 = .int .i64 (i : Int) ∧ Row wr w0.heap.size 5 .u8 v6 (maskL kk 54 i) ∧ Row wr w0.heap.size 5 .u8 v7 (maskL kk 92 i) ∧ Aside0 (NeRow v6 v7) ∧ Below w0.heap.size w0 wr) (fun _ _ v8 _ => 64 - (intOf v8).toNat)
    case atStart => exact ⟨0, _, _, rfl, rfl, by omega, rfl, Row.nil _ _ _ _, Row.nil _ _ _ _, ⟨ne_nil _⟩, Below.refl _ _⟩
    case round =>
      obtain ⟨i, v6, v7, rfl, rfl, hi, rfl, h6, h7, hne, hb⟩ := hrel
      by_cases hlt : i < 64
      · have t64 : decide ((i : Int) < 64) = true := by simp; omega
        have tok1 : True := trivial
        by_cases hin : i < n
        · have tn : decide ((i : Int) < (n : Int)) = true := by simp; omega
          obtain ⟨ad, ea, hcell⟩ := (HRK.out.below hb).at_ i (by omega) (by omega)
          rw [show rd kk (i : Int) = kk.getD i 0 from rfl, Int.toNat_natCast] at hcell
          cases ea
          have x0 := getD_byte kk KB.out i
          have hms : ∀ c : Int, maskL kk c (i + 1) = maskL kk c i ++ [xorB (kk.getD i 0) c] := fun c => maskL_succ kk c i
          have HMS := Aside0.mk hms
          clear hms
          generalize hx : kk.getD i 0 = x at *
          clear hx
          have x1 := x0.1
          have x2 := x0.2
          have x54 := Aside0.mk (xor_sum x 54 x1 x2 (by decide) (by decide))
          have x92 := Aside0.mk (xor_sum x 92 x1 x2 (by decide) (by decide))
          clear x0
          go_wp2_with (first
            | (with_reducible refine wpList_build_none rfl 41 rfl _ buildW ?_)
            | (go_at_call 18; refine (of_at _ (by omega) (by omega) _).mono ?_; rintro e w1 ⟨rfl, hb1⟩; replace h6 := h6.below hb1; replace h7 := h7.below hb1; replace hb := hb.trans (hb1.mono hb.size); clear hb1)
            | (go_at_call 17; refine (odd_calls _ _ _ (ofN_length _) (ofN_length _) no32_length _).mono ?_; rintro e w1 ⟨rfl, hb1⟩; replace h6 := h6.below hb1; replace h7 := h7.below hb1; replace hb := hb.trans (hb1.mono hb.size); clear hb1)
            | (go_at_call 16; refine (number_calls _ (oddF_length _ _ _) _).mono ?_; rintro e w1 ⟨rfl, hb1⟩; replace h6 := h6.below hb1; replace h7 := h7.below hb1; replace hb := hb.trans (hb1.mono hb.size); clear hb1)
            | (at_builtin; have _t := tok1; have q1 := hb.size; have q2 := h6.alloc (.cells #[.int .u8 (((numN (oddF (ofN x.toNat) (ofN 54) no32) : Nat) : Int) % 256)] 5); have q5 : w0.heap.size ≤ (w1.alloc (.cells #[.int .u8 (((numN (oddF (ofN x.toNat) (ofN 54) no32) : Nat) : Int) % 256)] 5)).heap.size := (by rw [World.size_alloc]; omega); have q6 : (maskL kk 54 i).length + 1 ≤ 140737488355328 := (by rw [maskL_length]; omega); have q7 := h7.alloc (.cells #[.int .u8 (((numN (oddF (ofN x.toNat) (ofN 54) no32) : Nat) : Int) % 256)] 5); go_must (refine app8 (w0 := w0) w0.heap.size rfl _ _ rfl v6 (maskL kk 54 i) [(((numN (oddF (ofN x.toNat) (ofN 54) no32) : Nat) : Int) % 256)] _ 1 _ rfl rfl q2 (reads_one rfl) (hb.alloc q1 _) q5 q6 ?_); intro v6' w1 hv' hb' hg' hat'; have hne' := Aside0.mk (ne_append hne.out hat' q7.own); replace h6 := hv'; replace h7 := q7.grown hg' (ne_other hne.out); replace hne := hne'; replace hb := hb'; clear hg' hat' q1 q2 q5 q6 q7 hne' hv' hb' _t tok1)
            | (at_builtin; have q1 := hb.size; have q2 := h7.alloc (.cells #[.int .u8 (((numN (oddF (ofN x.toNat) (ofN 92) no32) : Nat) : Int) % 256)] 5); have q5 : w0.heap.size ≤ (w1.alloc (.cells #[.int .u8 (((numN (oddF (ofN x.toNat) (ofN 92) no32) : Nat) : Int) % 256)] 5)).heap.size := (by rw [World.size_alloc]; omega); have q6 : (maskL kk 92 i).length + 1 ≤ 140737488355328 := (by rw [maskL_length]; omega); have q7 := h6.alloc (.cells #[.int .u8 (((numN (oddF (ofN x.toNat) (ofN 92) no32) : Nat) : Int) % 256)] 5); go_must (refine app8 (w0 := w0) w0.heap.size rfl _ _ rfl v7 (maskL kk 92 i) [(((numN (oddF (ofN x.toNat) (ofN 92) no32) : Nat) : Int) % 256)] _ 1 _ rfl rfl q2 (reads_one rfl) (hb.alloc q1 _) q5 q6 ?_); intro v7' w1 hv' hb' hg' hat'; have hne' := Aside0.mk (ne_append' hne.out hat' q7.own); replace h7 := hv'; replace h6 := q7.grown hg' (ne_other (ne_symm hne.out)); replace hne := hne'; replace hb := hb'; clear hg' hat' q1 q2 q5 q6 q7 hne' hv' hb'))
          go_roundw
          case rel => exact ⟨i + 1, _, _, rfl, rfl, by omega, by go_num, by rw [HMS.out, ← x54.out]; exact h6, by rw [HMS.out, ← x92.out]; exact h7, hne, hb⟩
          case measure => simp [intOf]; omega
        · have tn : decide ((i : Int) < (n : Int)) = false := by simp; omega
          go_wp2_with (first
            | (with_reducible refine wpList_build_none rfl 41 rfl _ buildW ?_)
            | (go_at_call 18; refine (of_at _ (by omega) (by omega) _).mono ?_; rintro e w1 ⟨rfl, hb1⟩; replace h6 := h6.below hb1; replace h7 := h7.below hb1; replace hb := hb.trans (hb1.mono hb.size); clear hb1)
            | (go_at_call 17; refine (odd_calls _ _ _ (ofN_length _) (ofN_length _) no32_length _).mono ?_; rintro e w1 ⟨rfl, hb1⟩; replace h6 := h6.below hb1; replace h7 := h7.below hb1; replace hb := hb.trans (hb1.mono hb.size); clear hb1)
            | (go_at_call 16; refine (number_calls _ (oddF_length _ _ _) _).mono ?_; rintro e w1 ⟨rfl, hb1⟩; replace h6 := h6.below hb1; replace h7 := h7.below hb1; replace hb := hb.trans (hb1.mono hb.size); clear hb1)
            | (at_builtin; have _t := tok1; have q1 := hb.size; have q2 := h6.alloc (.cells #[.int .u8 (((numN (oddF (ofN 0) (ofN 54) no32) : Nat) : Int) % 256)] 5); have q5 : w0.heap.size ≤ (w1.alloc (.cells #[.int .u8 (((numN (oddF (ofN 0) (ofN 54) no32) : Nat) : Int) % 256)] 5)).heap.size := (by rw [World.size_alloc]; omega); have q6 : (maskL kk 54 i).length + 1 ≤ 140737488355328 := (by rw [maskL_length]; omega); have q7 := h7.alloc (.cells #[.int .u8 (((numN (oddF (ofN 0) (ofN 54) no32) : Nat) : Int) % 256)] 5); go_must (refine app8 (w0 := w0) w0.heap.size rfl _ _ rfl v6 (maskL kk 54 i) [(((numN (oddF (ofN 0) (ofN 54) no32) : Nat) : Int) % 256)] _ 1 _ rfl rfl q2 (reads_one rfl) (hb.alloc q1 _) q5 q6 ?_); intro v6' w1 hv' hb' hg' hat'; have hne' := Aside0.mk (ne_append hne.out hat' q7.own); replace h6 := hv'; replace h7 := q7.grown hg' (ne_other hne.out); replace hne := hne'; replace hb := hb'; clear hg' hat' q1 q2 q5 q6 q7 hne' hv' hb' _t tok1)
            | (at_builtin; have q1 := hb.size; have q2 := h7.alloc (.cells #[.int .u8 (((numN (oddF (ofN 0) (ofN 92) no32) : Nat) : Int) % 256)] 5); have q5 : w0.heap.size ≤ (w1.alloc (.cells #[.int .u8 (((numN (oddF (ofN 0) (ofN 92) no32) : Nat) : Int) % 256)] 5)).heap.size := (by rw [World.size_alloc]; omega); have q6 : (maskL kk 92 i).length + 1 ≤ 140737488355328 := (by rw [maskL_length]; omega); have q7 := h6.alloc (.cells #[.int .u8 (((numN (oddF (ofN 0) (ofN 92) no32) : Nat) : Int) % 256)] 5); go_must (refine app8 (w0 := w0) w0.heap.size rfl _ _ rfl v7 (maskL kk 92 i) [(((numN (oddF (ofN 0) (ofN 92) no32) : Nat) : Int) % 256)] _ 1 _ rfl rfl q2 (reads_one rfl) (hb.alloc q1 _) q5 q6 ?_); intro v7' w1 hv' hb' hg' hat'; have hne' := Aside0.mk (ne_append' hne.out hat' q7.own); replace h7 := hv'; replace h6 := q7.grown hg' (ne_other (ne_symm hne.out)); replace hne := hne'; replace hb := hb'; clear hg' hat' q1 q2 q5 q6 q7 hne' hv' hb'))
          have x0 : kk.getD i 0 = 0 := by
            have := HN.out
            simp [List.getD, List.getElem?_eq_none (show kk.length ≤ i by omega)]
          go_roundw
          case rel => exact ⟨i + 1, _, _, rfl, rfl, by omega, by go_num, by rw [maskL_succ, x0, ← xor_sum 0 54 (by decide) (by decide) (by decide) (by decide)]; exact h6, by rw [maskL_succ, x0, ← xor_sum 0 92 (by decide) (by decide) (by decide) (by decide)]; exact h7, hne, hb⟩
          case measure => simp [intOf]; omega
      · have t64 : decide ((i : Int) < 64) = false := by simp; omega
        have ei : i = 64 := by omega
        rw [ei] at h6 h7
        clear ei
        have tok1 : True := trivial
        have tok2 : True := trivial
        have M6 := maskL_bytes kk 54 64 KB.out (by decide)
        have M7 := maskL_bytes kk 92 64 KB.out (by decide)
        have l6 := maskL_length kk 54 64
        have l7 := maskL_length kk 92 64
        generalize hm6 : maskL kk 54 64 = m6 at *
        generalize hm7 : maskL kk 92 64 = m7 at *
        have HM6 := Aside0.mk hm6
        have HM7 := Aside0.mk hm7
        have M6' := Aside0.mk M6
        have M7' := Aside0.mk M7
        have L6 := Aside0.mk l6
        have L7 := Aside0.mk l7
        clear hm6 hm7 M6 M7 l6 l7
        have hrb := Aside0.mk (HRB.out.below (hw0.trans (hb.mono hw0.size)))
        have g2 := h2.lt
        go_wp2_with (first
          | (at_builtin; have _t := tok1; have q1 := hb.size; have q6 : m6.length + bs.length ≤ 140737488355328 := (by rw [L6.out]; omega); go_must (refine app8 (w0 := w0) w0.heap.size rfl _ _ rfl v6 m6 bs B bs.length bc rfl rfl h6 hrb.out hb q1 q6 ?_); intro v6' w1 hv' hb' hg' hat'; replace h6 := hv'; replace h7 := h7.grown hg' (ne_other hne.out); replace hb := hb'; clear hg' hat' q1 q6 hv' hb' _t tok1; obtain ⟨Aa, ca, rfl, hra⟩ := h6.reads; have lca : (m6 ++ bs).length ≤ ca := h6.cap_le; rw [List.length_append] at hra lca; have RA := Aside0.mk hra; clear hra)
          | (go_at_call 9; have _t := tok2; go_must (refine (ref_digest_at Aa (m6.length + bs.length) ca (m6 ++ bs) List.length_append (M6'.out.append B8.out) lca (by rw [L6.out]; omega) _ RA.out).mono ?_); rintro e w1 ⟨rfl, hb1⟩; replace h7 := h7.below hb1; replace hb := hb.trans (hb1.mono hb.size); clear hb1 _t tok2)
          | (with_reducible refine wpList_alloc_agg rfl 24 _ rfl zero32 ?_)
          | (with_reducible refine wpList_store_blk rfl 24 _ _ rfl _ _ rfl rfl info32 (by rw [numsA_size, digL_length]) (numsA_one _ _) (Blk.newAt (by simp)) (by rw [numsA_size, zeros_length]) ?_; rw [setRow_top (by simp)])
          | (at_builtin; have q1 := hb.size; have q2 := h7.alloc (.cells (numsA .u8 (digL (m6 ++ bs))) 24); have q3 := (Blk.new w1 24 (numsA .u8 (digL (m6 ++ bs)))).readsNums (by rw [digL_length]; omega); rw [digL_length] at q3; have q5 : w0.heap.size ≤ (w1.alloc (.cells (numsA .u8 (digL (m6 ++ bs))) 24)).heap.size := (by rw [World.size_alloc]; omega); have q6 : m7.length + 32 ≤ 140737488355328 := (by rw [L7.out]; omega); go_must (refine app8 (w0 := w0) w0.heap.size rfl _ _ rfl v7 m7 (digL (m6 ++ bs)) _ 32 _ rfl rfl q2 q3 (hb.alloc q1 _) q5 q6 ?_); intro v7' w1 hv' hb' hg' hat'; replace h7 := hv'; replace hb := hb'; clear hg' hat' q1 q2 q3 q5 q6 hv' hb'; obtain ⟨Ab, cb, rfl, hra⟩ := h7.reads; have lcb : (m7 ++ digL (m6 ++ bs)).length ≤ cb := h7.cap_le; rw [List.length_append] at hra lcb; have RB := Aside0.mk hra; clear hra)
          | (go_at_call 9; go_must (refine (ref_digest_at Ab (m7.length + (digL (m6 ++ bs)).length) cb (m7 ++ digL (m6 ++ bs)) List.length_append (M7'.out.append (digL_bytes _)) lcb (by rw [L7.out, digL_length]; omega) _ RB.out).mono ?_); rintro e w1 ⟨rfl, hb1⟩; replace hb := hb.trans (hb1.mono hb.size); clear hb1; have h2' := h2.below hb)
          | (with_reducible refine wpList_store_blk rfl 24 _ _ rfl _ _ rfl rfl info32 (by rw [numsA_size, digL_length]) (numsA_one _ _) h2' (by rw [numsA_size, zeros_length]) ?_))
        refine bodyPost_ret (v := .agg (numsA .u8 (sealL ks bs))) (results_blk Tryd.results11 _ _ _ _ _ rfl info32 Tryd.underlying24 rfl (by unfold sealL; rw [HKL.out, HM6.out, HM7.out]; exact h2'.row _) (by rw [numsA_size, sealL_length])) rfl ⟨rfl, below_setRow (hw0.trans (hb.mono hw0.size)) (by simp) _⟩
end Go.Proofs.YtlhapohpedihjaaDoor.Sha
