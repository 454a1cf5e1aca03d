/- Texts of this claim, merged: Dt5, Dr0. -/
import Derived.Test.YtddhngalokmdoaaMgFinds4
import Derived.Test.YtddhngalokmdoaaMgBase12
import Derived.DeepKeys
namespace Go.Proofs.Ytddhngalokmdoaa.Spo
open Go.RowKit Go.Proofs.YtddhngalokmdoaaW.PrintWords Go.Proofs.YtddhngalokmdoaaW.PrintLast Go.Proofs.YtddhngalokmdoaaW.PrintMore Go.Proofs.Ytddhngalokmdoaa.Arr Go.Proofs.Ytddhngalokmdoaa.PSpoolPlays
set_option linter.unusedVariables false
set_option linter.unusedSimpArgs false

theorem chosen_length : ∀ (l : List (Int × List Int)) (c : List Bool), (chosen l c).length ≤ l.length
  | [], _ => by simp [chosen]
  | _ :: _, [] => by simp [chosen]
  | w :: l, c :: cs => by
    have := chosen_length l cs
    unfold chosen
    split <;> simp <;> omega
theorem run_new {o : Oper} {a : Act} {w : World} {B : Nat} (ho : o.op = .alloc TDt) (hB : B ≤ w.heap.size) : ∃ u w', (execOp a.eval o).run Try.prog w = .ok (.value u) w' ∧ Below w.heap.size w w' ∧ RNew B TDt (docC 0 (.slice none 0 0) (.slice none 0 0) 0 false) u w' := by
  refine ⟨.pointer (some ⟨w.heap.size, 0, none⟩), w.alloc (.cells (docC 0 (.slice none 0 0) (.slice none 0 0) 0 false) TDt), ?_, (Below.refl _ _).alloc (Nat.le_refl _) _, w.heap.size, rfl, hB, Blk.new _ _ _⟩
  have hr : (Instr.alloc TDt true (.tuple #[])).run Try.prog w = .ok (.pointer (some ⟨w.heap.size, 0, none⟩)) (w.alloc (.cells (docC 0 (.slice none 0 0) (.slice none 0 0) 0 false) TDt)) := by
    unfold Instr.alloc
    rw [Sem.run_bind, zeroDt]
    rfl
  unfold execOp
  simp only [ho, Sem.run_bind, hr, Result.andThen_ok, Sem.run_pure]
theorem bool_cell {w : World} {A : Option Addr} {n : Nat} {bs : List Bool} (h : Kd.C Kd.bool w A n bs) (i : Nat) (hi : i < n) : ∃ ad, A = some ad ∧ w.cell? (ad.add i) = some (.bool (bs.getD i false)) := by
  have hr : ReadsOf Value.bool false w A n bs := Kd.reads_of_C (enc := Value.bool) (d := false) (h1 := fun _ => rfl) h
  obtain ⟨ad, e, hc⟩ := hr.2.2 (by omega)
  exact ⟨ad, e, hc i hi⟩
set_option maxHeartbeats 16000000 in
set_option maxRecDepth 100000 in
theorem dlose_calls (nk : Nat) (K C : Value) (V : TrayV) (m : Nat) (w : World) (H : DocT w K C V m) (hS : Sound V) (hk : V.kept.length = nk) (hm : m ≤ 900000000) (l : Int) (d : Bool) (choice : List Bool) (A : Option Addr) (n c : Nat) (hch : Kd.C Kd.bool w A n choice) (hn9 : n ≤ 1000000000) :
    Calls Try.prog 29 #[.agg (docC nk K C l d), .slice A n c] w fun e w' => ∃ K', e = .returned (.agg (docC nk K' (.slice none 0 0) (-1) false)) ∧ DocT w' K' (.slice none 0 0) (loseV V choice) m ∧ Below w.heap.size w w' := by
  obtain ⟨kl, hkr, hcr, hkv, hkl, hml⟩ := H.out
  obtain ⟨A1, c1, rfl⟩ := Kd.R_slice hkr
  obtain ⟨A2, c2, rfl⟩ := Kd.R_slice hcr
  have HX := Aside0.mk (⟨hkv, hkl, hml, hS, hk⟩ : _ ∧ _ ∧ _ ∧ _ ∧ _)
  obtain ⟨n1, hn1⟩ : ∃ n1, kl.length = n1 := ⟨_, rfl⟩
  obtain ⟨n2, hn2⟩ : ∃ n2, V.cache.length = n2 := ⟨_, rfl⟩
  rw [hn1] at hkr
  rw [hn2] at hcr
  rw [hn1, hn2] at hml
  rw [hn1, hn2]
  have HK := Aside0.mk (⟨hkr, hcr⟩ : kDw.R TDw w 0 (fun _ => True) (.slice A1 n1 c1) kl ∧ kDw.R TDw w 0 (fun _ => True) (.slice A2 n2 c2) V.cache)
  have HN := Aside0.mk (⟨hn1, hn2, hml, hm⟩ : _ ∧ _ ∧ _ ∧ _)
  have HCH := Aside0.mk hch
  obtain ⟨Z, hZ⟩ : ∃ Z, docC 0 (.slice none 0 0) (.slice none 0 0) 0 false = Z := ⟨_, rfl⟩
  have HZ := Aside0.mk (⟨hZ, by rw [← hZ]; rfl⟩ : _ ∧ Z.size = 5)
  obtain ⟨D, hD⟩ : ∃ D, docC nk (.slice A1 n1 c1) (.slice A2 n2 c2) l d = D := ⟨_, rfl⟩
  have HD := Aside0.mk (⟨by rw [← hD]; rfl, by rw [← hD]; rfl, by rw [← hD]; rfl⟩ : D[0]? = some (.int .i64 nk) ∧ D[1]? = some (.slice A1 n1 c1) ∧ D[2]? = some (.slice A2 n2 c2))
  obtain ⟨hq, hh⟩ : ∃ hq, w.heap.size = hq := ⟨_, rfl⟩
  have HH := Aside0.mk hh
  have hzt := zeroDt
  rw [hZ] at hzt
  obtain ⟨W2, hW2⟩ : ∃ W2, (w.alloc (.cells D TDt)).alloc (.cells Z TDt) = W2 := ⟨_, rfl⟩
  have HW2 := Aside0.mk hW2
  have D2 := Aside0.mk (by rw [← hW2]; exact (Blk.newAt hh.symm).alloc _ : Blk W2 hq TDt D)
  have R2 := Aside0.mk (by rw [← hW2]; exact Blk.newAt (by simp [hh]) : Blk W2 (hq + 1) TDt Z)
  have L2 := Aside0.mk (by rw [← hW2]; exact below_alloc (below_alloc (Below.refl _ _) _) _ : Below w.heap.size w W2)
  rw [hD]
  clear hkr hcr hkv hkl hml hn1 hn2 hm hZ hD hW2 H hS hk hh hch
  go_enter Try.func29, Try.ntmps29
  go_upto_region 1 with (with_reducible refine wpList_alloc_agg rfl TDt _ rfl hzt ?_)
  have s1 : (w.alloc (.cells D TDt)).heap.size = hq + 1 := by simp [HH.out]
  rw [HW2.out, s1, HH.out]
  obtain ⟨wo, hwo⟩ : ∃ wo, wo = W2 := ⟨_, rfl⟩
  subst hwo
  have HST : Qw.Stb (fun w' => Blk w' hq TDt D ∧ kDw.R TDw w' 0 (fun _ => True) (.slice A1 n1 c1) kl ∧ Below wo.heap.size wo w') := fun w1 w2 kk hb => ⟨kk.1.below hb, Kd.R_below kk.2.1 hb, kk.2.2.trans (hb.mono kk.2.2.size)⟩
  have HE0 : Blk wo.drew hq TDt D ∧ kDw.R TDw wo.drew 0 (fun _ => True) (.slice A1 n1 c1) kl ∧ Below wo.heap.size wo wo.drew := ⟨D2.out.drew, Kd.R_below (Kd.R_below HK.out.1 L2.out) (w1 := wo.drew) (Below.refl _ _).drew, (Below.refl _ _).drew⟩
  clear HW2 s1 hzt
  go_wp2_with fail
  refine Qw.wp_region_tail (fun _ _ _ _ => True) _ HST 8 (by kernel_rfl) (by kernel_rfl) HE0 ?_
  clear HST HE0
  simp only [List.take_succ_cons, List.take_zero, List.drop_succ_cons, List.drop_zero]
  ((first | (with_reducible refine Qw.w_val ⟨fun _ _ _ hF h w' h1 h2 => h w' h1 fun k => hF k _ (h2 k)⟩ ?_ (Qw.wanted_none rfl) ?_) | ((with_reducible refine Qw.w_val ⟨fun _ _ _ hF h w' h1 h2 => h w' h1 fun k => hF k _ (h2 k)⟩ ?_ ?_ ?_); (focus (exact fun _ => trivial)); (focus (exact Qg.wanted_on rfl rfl rfl)))); (try (focus (exact fun _ => trivial))); apply Exists.intro; refine ⟨?_, ?_⟩; (focus (intro w' hw' hp'; skip; go_simp; (first | done | (with_reducible rfl)))); intro K hK; go_simp; (first | (with_reducible refine hK _ ?_) | (refine hK _ ?_)); clear hK K)
  ((first | (with_reducible refine Qw.w_val ⟨fun _ _ _ hF h w' h1 h2 => h w' h1 fun k => hF k _ (h2 k)⟩ ?_ (Qw.wanted_none rfl) ?_) | ((with_reducible refine Qw.w_val ⟨fun _ _ _ hF h w' h1 h2 => h w' h1 fun k => hF k _ (h2 k)⟩ ?_ ?_ ?_); (focus (exact fun _ => trivial)); (focus (exact Qg.wanted_on rfl rfl rfl)))); (try (focus (exact fun _ => trivial))); apply Exists.intro; refine ⟨?_, ?_⟩; (focus (intro w' hw' hp'; have d2 := hw'.1.cell 0; rw [HD.out.1] at d2; have dl := hw'.1.lt; go_simp; (first | done | (with_reducible rfl)))); intro K hK; go_simp; (first | (with_reducible refine hK _ ?_) | (refine hK _ ?_)); clear hK K)
  ((with_reducible refine Qw.w_make (RLit wo.heap.size) ?_ (Qw.wanted_none rfl) ⟨?_, ?_⟩); (focus (exact rlit_stb)); (focus (intro w' hw' hp'; exact run_lit rfl hw'.2.2.size)); rintro u0 ⟨wv0, -, -, g0, rfl, -, -⟩; intro K hK; go_simp; (first | (with_reducible refine hK _ ?_) | (refine hK _ ?_)); clear hK K)
  clear wv0
  ((first | (with_reducible refine Qw.w_val ⟨fun _ _ _ hF h w' h1 h2 => h w' h1 fun k => hF k _ (h2 k)⟩ ?_ (Qw.wanted_none rfl) ?_) | ((with_reducible refine Qw.w_val ⟨fun _ _ _ hF h w' h1 h2 => h w' h1 fun k => hF k _ (h2 k)⟩ ?_ ?_ ?_); (focus (exact fun _ => trivial)); (focus (exact Qg.wanted_on rfl rfl rfl)))); (try (focus (exact fun _ => trivial))); apply Exists.intro; refine ⟨?_, ?_⟩; (focus (intro w' hw' hp'; skip; go_simp; (first | done | (with_reducible rfl)))); intro K hK; go_simp; (first | (with_reducible refine hK _ ?_) | (refine hK _ ?_)); clear hK K)
  ((first | (with_reducible refine Qw.w_val ⟨fun _ _ _ hF h w' h1 h2 => h w' h1 fun k => hF k _ (h2 k)⟩ ?_ (Qw.wanted_none rfl) ?_) | ((with_reducible refine Qw.w_val ⟨fun _ _ _ hF h w' h1 h2 => h w' h1 fun k => hF k _ (h2 k)⟩ ?_ ?_ ?_); (focus (exact fun _ => trivial)); (focus (exact Qg.wanted_on rfl rfl rfl)))); (try (focus (exact fun _ => trivial))); apply Exists.intro; refine ⟨?_, ?_⟩; (focus (intro w' hw' hp'; have d2 := hw'.1.cell 1; rw [HD.out.2.1] at d2; have dl := hw'.1.lt; go_simp; (first | done | (with_reducible rfl)))); intro K hK; go_simp; (first | (with_reducible refine hK _ ?_) | (refine hK _ ?_)); clear hK K)
  ((with_reducible refine Qw.w_make (RRow wo.heap.size kl) ?_ (Qw.wanted_none rfl) ⟨?_, ?_⟩); (focus (exact rrow_stb)); (focus (intro w' hw' hp'; have f0 : RLit wo.heap.size (.slice (some ⟨g0, 0, none⟩) 0 0) w' := Qw.fact hp' 2 rfl; exact run_clone (.tmp 9) (.tmp 11) rfl rfl rfl rfl f0 hw'.2.1 hw'.2.2.size (by have := HN.out; omega))); rintro u3 ⟨wv3, -, -, hu3⟩; intro K hK; go_simp; (first | (with_reducible refine hK _ ?_) | (refine hK _ ?_)); clear hK K)
  obtain ⟨A3, c3, e3⟩ := Kd.R_slice (show kDw.R TDw wv3 wo.heap.size (fun _ => True) u3 kl from hu3)
  rw [HN.out.1] at e3
  subst e3
  clear hu3 wv3
  ((first | (with_reducible refine Qw.w_val ⟨fun _ _ _ hF h w' h1 h2 => h w' h1 fun k => hF k _ (h2 k)⟩ ?_ (Qw.wanted_none rfl) ?_) | ((with_reducible refine Qw.w_val ⟨fun _ _ _ hF h w' h1 h2 => h w' h1 fun k => hF k _ (h2 k)⟩ ?_ ?_ ?_); (focus (exact fun _ => trivial)); (focus (exact Qg.wanted_on rfl rfl rfl)))); (try (focus (exact fun _ => trivial))); apply Exists.intro; refine ⟨?_, ?_⟩; (focus (intro w' hw' hp'; skip; go_simp; (first | done | (with_reducible rfl)))); intro K hK; go_simp; (first | (with_reducible refine hK _ ?_) | (refine hK _ ?_)); clear hK K)
  ((with_reducible refine Qw.w_make (RNew wo.heap.size TDt (docC 0 (.slice none 0 0) (.slice none 0 0) 0 false)) ?_ (Qw.wanted_none rfl) ⟨?_, ?_⟩); (focus (exact rnew_stb)); (focus (intro w' hw' hp'; exact run_new rfl hw'.2.2.size)); rintro u7 ⟨wv7, -, -, g7, rfl, -, -⟩; intro K hK; go_simp; (first | (with_reducible refine hK _ ?_) | (refine hK _ ?_)); clear hK K)
  clear wv7
  ((with_reducible refine Qw.w_nil ?_); intro w' hw' hf')
  have hu3 : kDw.R TDw w' wo.heap.size (fun _ => True) (.slice A3 n1 c3) kl := hf' 5
  obtain ⟨g7', e7, hg7, hG7⟩ : RNew wo.heap.size TDt (docC 0 (.slice none 0 0) (.slice none 0 0) 0 false) (.pointer (some ⟨g7, 0, none⟩)) w' := hf' 7
  obtain rfl : g7 = g7' := by injection e7 with e7; injection e7 with e7; injection e7
  obtain ⟨w3, hw3⟩ : ∃ w3, w' = w3 := ⟨_, rfl⟩
  rw [hw3] at hu3 hG7 hw'
  rw [hw3]
  have P3 := Aside0.mk (D2.out.below hw'.2.2)
  have R3 := Aside0.mk (R2.out.below hw'.2.2)
  have L3 := Aside0.mk (L2.out.trans (hw'.2.2.mono L2.out.size))
  have hgh : hq + 1 < g7 := by have := R2.out.lt; omega
  have hs1 := one_doc nk A3 none n1 0 c3 0 (-1) false
  have hsz : (docC nk (.slice A3 n1 c3) (.slice none 0 0) (-1) false).size = 5 := rfl
  obtain ⟨W4, hW4⟩ : ∃ W4, w3.setRow g7 (docC nk (.slice A3 n1 c3) (.slice none 0 0) (-1) false) = W4 := ⟨_, rfl⟩
  have HW4 := Aside0.mk hW4
  have G3 := Aside0.mk hG7
  have P4 := Aside0.mk (by rw [← hW4]; exact P3.out.rowFar (by omega) _ : Blk W4 hq TDt D)
  have R4 := Aside0.mk (by rw [← hW4]; exact R3.out.rowFar (by omega) _ : Blk W4 (hq + 1) TDt Z)
  have G4 := Aside0.mk (by rw [← hW4]; exact hG7.row _ : Blk W4 g7 TDt (docC nk (.slice A3 n1 c3) (.slice none 0 0) (-1) false))
  have L4 := Aside0.mk (by rw [← hW4]; exact below_setRow L3.out (by have := HH.out; omega) _ : Below w.heap.size w W4)
  have V4 := Aside0.mk (by
    rw [← hW4]
    refine Kd.R_lower (flat_move hu3 fun k hk => ?_) (show hq ≤ wo.heap.size by have := L2.out.size; have := HH.out; omega)
    obtain ⟨cells, hcc⟩ := own_typedR hu3 k hk
    exact setRow_other w3 _ k _ (fun e => absurd rfl (hcc.ne (e ▸ hG7) (by decide))) : kDw.R TDw W4 hq (fun _ => True) (.slice A3 n1 c3) kl)
  have HGH := Aside0.mk hgh
  clear hf' hw' hu3 hG7 e7 hg7 hw3 hW4 P3 R3 L3 hgh D2 R2 L2
  go_upto_region 2 with (with_reducible refine wpList_store_blk rfl TDt (.tmp 5) _ rfl _ _ rfl rfl infoDt hsz hs1 G3.out rfl ?_)
  rw [HW4.out]
  clear HW4 G3 hs1 hsz
  have d2 := P4.out.cell 2
  rw [HD.out.2.2] at d2
  have dl := P4.out.lt
  go_wp2_with fail
  clear d2 dl
  obtain ⟨xs0, hxs0⟩ : ∃ xs0, xs0 = kl ++ chosen (V.cache.take 0) choice := ⟨_, rfl⟩
  go_loopw [6, 17] (fun v6 v17 wr => ∃ (i : Nat) (Ak : Option Addr) (nn ck : Nat), v17 = .int .i64 (i : Int) ∧ Aside0 (i ≤ n2) ∧ Aside0 (Blk wr hq TDt D) ∧ Aside0 (Blk wr (hq + 1) TDt Z) ∧ Aside0 (Blk wr g7 TDt (docC nk (.slice Ak nn ck) (.slice none 0 0) (-1) false)) ∧ Aside0 (kDw.R TDw wr hq (fun _ => True) (.slice Ak nn ck) (kl ++ chosen (V.cache.take i) choice)) ∧ Aside0 (Below w.heap.size w wr)) (fun _ v17 _ => n2 - (intOf v17).toNat)
  case atStart => exact ⟨0, A3, n1, c3, rfl, ⟨Nat.zero_le _⟩, P4, R4, G4, ⟨by simpa [chosen] using V4.out⟩, L4⟩
  case round =>
    obtain ⟨i, Ak, nn, ck, rfl, hin, hD, hR, hG, hV, hb⟩ := hrel
    by_cases hi : i < n2
    · have t1 : decide ((i : Int) < (n2 : Int)) = true := decide_eq_true (by omega)
      have t1n : decide (i < n2) = true := decide_eq_true hi
      have hil : i < V.cache.length := by have := HN.out; omega
      have r0 := eq_true (show (0 : Int) ≤ (i : Int) by omega)
      have r1 := eq_true (show (i : Int) < (n2 : Int) by omega)
      have r2 := eq_true hi
      have hw : IntKind.i64.wrap ((i : Int) + 1) = ((i + 1 : Nat) : Int) := by rw [show ((i : Int) + 1) = ((i + 1 : Nat) : Int) by omega]; exact IntWalk.i64_in _ (by have := HN.out; omega)
      have hcw := Kd.R_below HK.out.2 hb.out
      obtain ⟨gc, eA, -⟩ := flat_at hcw i hil
      subst eA
      have hsn := chosen_snoc V.cache choice i hil
      have hx2 := (HX.out.2.2.2.1.cache _ (List.getElem_mem hil)).2.2
      have HI := Aside0.mk (⟨hi, hw, hil⟩ : _ ∧ _ ∧ _)
      by_cases hch : i < n ∧ choice.getD i false = true
      · rw [if_pos hch.2] at hsn
        have u1 : decide ((i : Int) < (n : Int)) = true := decide_eq_true (by omega)
        have u1n : decide (i < n) = true := decide_eq_true hch.1
        have q1 := eq_true (show (i : Int) < (n : Int) by omega)
        have q2 := eq_true hch.1
        obtain ⟨ad, eA, hcell⟩ := bool_cell (Kd.C_below HCH.out hb.out) i hch.1
        cases eA
        rw [hch.2] at hcell
        have HSN := Aside0.mk (⟨hsn, hx2⟩ : _ ∧ _)
        clear hch hsn hx2 hi
        go_upto_region 6 with fail
        obtain ⟨wo, hwo⟩ : ∃ wo, wo = wr := ⟨_, rfl⟩
        subst hwo
        have hsl : (stampC V.cache[i]).length = 129 := stampC_length HSN.out.2
        obtain ⟨Sx, hSx⟩ : ∃ Sx, stampC V.cache[i] = Sx := ⟨_, rfl⟩
        have HSX := Aside0.mk hSx
        rw [hSx] at hsl
        have hss : Sx.toArray.size = 129 := by simpa using hsl
        have hrow := hV.out
        have HST : Qw.Stb (fun w' => Blk w' hq TDt D ∧ Blk w' g7 TDt (docC nk (.slice Ak nn ck) (.slice none 0 0) (-1) false) ∧ kDw.R TDw w' 0 (fun _ => True) (.slice (some ⟨gc, 0, none⟩) n2 c2) V.cache ∧ Below wo.heap.size wo w') := fun w1 w2 kk hb => ⟨kk.1.below hb, kk.2.1.below hb, Kd.R_below kk.2.2.1 hb, kk.2.2.2.trans (hb.mono kk.2.2.2.size)⟩
        have HE0 : Blk wo.drew hq TDt D ∧ Blk wo.drew g7 TDt (docC nk (.slice Ak nn ck) (.slice none 0 0) (-1) false) ∧ kDw.R TDw wo.drew 0 (fun _ => True) (.slice (some ⟨gc, 0, none⟩) n2 c2) V.cache ∧ Below wo.heap.size wo wo.drew := ⟨hD.out.drew, hG.out.drew, Kd.R_below hcw (w1 := wo.drew) (Below.refl _ _).drew, (Below.refl _ _).drew⟩
        clear hcw hSx u1 u1n q1 q2 hcell t1 t1n
        refine Qw.wp_region_tail (fun _ _ _ _ => True) _ HST 8 (by kernel_rfl) (by kernel_rfl) HE0 ?_
        clear HST HE0
        simp only [List.take_succ_cons, List.take_zero, List.drop_succ_cons, List.drop_zero]
        ((first | (with_reducible refine Qw.w_val ⟨fun _ _ _ hF h w' h1 h2 => h w' h1 fun k => hF k _ (h2 k)⟩ ?_ (Qw.wanted_none rfl) ?_) | ((with_reducible refine Qw.w_val ⟨fun _ _ _ hF h w' h1 h2 => h w' h1 fun k => hF k _ (h2 k)⟩ ?_ ?_ ?_); (focus (exact fun _ => trivial)); (focus (exact Qg.wanted_on rfl rfl rfl)))); (try (focus (exact fun _ => trivial))); apply Exists.intro; refine ⟨?_, ?_⟩; (focus (intro w' hw' hp'; skip; go_simp; (first | done | (with_reducible rfl)))); intro K hK; go_simp; (first | (with_reducible refine hK _ ?_) | (refine hK _ ?_)); clear hK K)
        ((first | (with_reducible refine Qw.w_val ⟨fun _ _ _ hF h w' h1 h2 => h w' h1 fun k => hF k _ (h2 k)⟩ ?_ (Qw.wanted_none rfl) ?_) | ((with_reducible refine Qw.w_val ⟨fun _ _ _ hF h w' h1 h2 => h w' h1 fun k => hF k _ (h2 k)⟩ ?_ ?_ ?_); (focus (exact fun _ => trivial)); (focus (exact Qg.wanted_on rfl rfl rfl)))); (try (focus (exact fun _ => trivial))); apply Exists.intro; refine ⟨?_, ?_⟩; (focus (intro w' hw' hp'; have d2 := hw'.2.1.cell 1; have dl := hw'.2.1.lt; go_simp; (first | done | (with_reducible rfl)))); intro K hK; go_simp; (first | (with_reducible refine hK _ ?_) | (refine hK _ ?_)); clear hK K)
        ((first | (with_reducible refine Qw.w_val ⟨fun _ _ _ hF h w' h1 h2 => h w' h1 fun k => hF k _ (h2 k)⟩ ?_ (Qw.wanted_none rfl) ?_) | ((with_reducible refine Qw.w_val ⟨fun _ _ _ hF h w' h1 h2 => h w' h1 fun k => hF k _ (h2 k)⟩ ?_ ?_ ?_); (focus (exact fun _ => trivial)); (focus (exact Qg.wanted_on rfl rfl rfl)))); (try (focus (exact fun _ => trivial))); apply Exists.intro; refine ⟨?_, ?_⟩; (focus (intro w' hw' hp'; skip; go_simp; (first | done | (with_reducible rfl)))); intro K hK; go_simp; (first | (with_reducible refine hK _ ?_) | (refine hK _ ?_)); clear hK K)
        ((first | (with_reducible refine Qw.w_val ⟨fun _ _ _ hF h w' h1 h2 => h w' h1 fun k => hF k _ (h2 k)⟩ ?_ (Qw.wanted_none rfl) ?_) | ((with_reducible refine Qw.w_val ⟨fun _ _ _ hF h w' h1 h2 => h w' h1 fun k => hF k _ (h2 k)⟩ ?_ ?_ ?_); (focus (exact fun _ => trivial)); (focus (exact Qg.wanted_on rfl rfl rfl)))); (try (focus (exact fun _ => trivial))); apply Exists.intro; refine ⟨?_, ?_⟩; (focus (intro w' hw' hp'; have d2 := hw'.1.cell 2; rw [HD.out.2.2] at d2; have dl := hw'.1.lt; go_simp; (first | done | (with_reducible rfl)))); intro K hK; go_simp; (first | (with_reducible refine hK _ ?_) | (refine hK _ ?_)); clear hK K)
        ((first | (with_reducible refine Qw.w_val ⟨fun _ _ _ hF h w' h1 h2 => h w' h1 fun k => hF k _ (h2 k)⟩ ?_ (Qw.wanted_none rfl) ?_) | ((with_reducible refine Qw.w_val ⟨fun _ _ _ hF h w' h1 h2 => h w' h1 fun k => hF k _ (h2 k)⟩ ?_ ?_ ?_); (focus (exact fun _ => trivial)); (focus (exact Qg.wanted_on rfl rfl rfl)))); (try (focus (exact fun _ => trivial))); apply Exists.intro; refine ⟨?_, ?_⟩; (focus (intro w' hw' hp'; skip; go_simp; (first | done | (with_reducible rfl)))); intro K hK; go_simp; (first | (with_reducible refine hK _ ?_) | (refine hK _ ?_)); clear hK K)
        ((first | (with_reducible refine Qw.w_val ⟨fun _ _ _ hF h w' h1 h2 => h w' h1 fun k => hF k _ (h2 k)⟩ ?_ (Qw.wanted_none rfl) ?_) | ((with_reducible refine Qw.w_val ⟨fun _ _ _ hF h w' h1 h2 => h w' h1 fun k => hF k _ (h2 k)⟩ ?_ ?_ ?_); (focus (exact fun _ => trivial)); (focus (exact Qg.wanted_on rfl rfl rfl)))); (try (focus (exact fun _ => trivial))); apply Exists.intro; refine ⟨?_, ?_⟩; (focus (intro w' hw' hp'; skip; go_simp; (first | done | (with_reducible rfl)))); intro K hK; go_simp; (first | (with_reducible refine hK _ ?_) | (refine hK _ ?_)); clear hK K)
        ((first | (with_reducible refine Qw.w_val ⟨fun _ _ _ hF h w' h1 h2 => h w' h1 fun k => hF k _ (h2 k)⟩ ?_ (Qw.wanted_none rfl) ?_) | ((with_reducible refine Qw.w_val ⟨fun _ _ _ hF h w' h1 h2 => h w' h1 fun k => hF k _ (h2 k)⟩ ?_ ?_ ?_); (focus (exact fun _ => trivial)); (focus (exact Qg.wanted_on rfl rfl rfl)))); (try (focus (exact fun _ => trivial))); apply Exists.intro; refine ⟨?_, ?_⟩; (focus (intro w' hw' hp'; obtain ⟨g', e', -, -, hrng, -⟩ := flat_at hw'.2.2.1 i HI.out.2.2; have e'' : gc = g' := (by injection e' with e'; injection e'); subst e''; have hrng' : w'.rangeAt gc (i * 129) (stampC V.cache[i]) := hrng; rw [HSX.out] at hrng'; exact exec_load_mid TDw (.tmp 35) rfl gc (i * 129) rfl Sx _ hrng' Try.underlying86 rfl (by rw [infoDw, hsl]))); intro K hK; go_simp; (first | (with_reducible refine hK _ ?_) | (refine hK _ ?_)); clear hK K)
        ((with_reducible refine Qw.w_make (ROne wo.heap.size Sx) ?_ (Qw.wanted_none rfl) ⟨?_, ?_⟩); (focus (exact rone_stb)); (focus (intro w' hw' hp'; exact run_one _ rfl Sx rfl hss hw'.2.2.2.size)); rintro u5 ⟨wv5, -, -, g5, rfl, -, -⟩; intro K hK; go_simp; (first | (with_reducible refine hK _ ?_) | (refine hK _ ?_)); clear hK K)
        clear wv5
        ((with_reducible refine Qw.w_nil ?_); intro w' hw' hf')
        obtain ⟨g5', e5, -, hG5⟩ : ROne wo.heap.size Sx (.slice (some ⟨g5, 0, none⟩) 1 1) w' := hf' 7
        obtain rfl : g5 = g5' := by injection e5 with e5; injection e5 with e5; injection e5
        rw [← HSX.out] at hG5
        have hone := one_row hG5 HSN.out.2
        obtain ⟨w3, hw3⟩ : ∃ w3, w' = w3 := ⟨_, rfl⟩
        rw [hw3] at hone hw'
        rw [hw3]
        have P3 := Aside0.mk hw'.1
        have R3 := Aside0.mk (hR.out.below hw'.2.2.2)
        have G3 := Aside0.mk hw'.2.1
        have L3 := hb.out.trans (hw'.2.2.2.mono hb.out.size)
        have hrow3 := Kd.R_below hrow hw'.2.2.2
        have hlr : (kl ++ chosen (V.cache.take i) choice).length ≤ 900000000 := by
          rw [List.length_append]
          have h1 := chosen_length (V.cache.take i) choice
          rw [List.length_take] at h1
          have := HN.out
          omega
        have hnn : (kl ++ chosen (V.cache.take (i + 1)) choice).length = (kl ++ chosen (V.cache.take i) choice).length + 1 := by rw [HSN.out.1]; simp; omega
        have hbs : hq ≤ w3.heap.size := by have := L3.size; have := HH.out; omega
        have hbel : Below hq w w3 := by rw [← HH.out]; exact L3
        have hcat : (kl ++ chosen (V.cache.take i) choice) ++ [V.cache[i]] = kl ++ chosen (V.cache.take (i + 1)) choice := by rw [HSN.out.1, List.append_assoc]
        obtain ⟨ys, hys⟩ : ∃ ys, kl ++ chosen (V.cache.take (i + 1)) choice = ys := ⟨_, rfl⟩
        rw [hys] at hcat
        have HCAT := Aside0.mk hcat
        have HYS := Aside0.mk hys
        clear hys
        obtain ⟨xs, hxs⟩ : ∃ xs, kl ++ chosen (V.cache.take i) choice = xs := ⟨_, rfl⟩
        rw [hxs] at hrow3 hlr HCAT
        obtain ⟨x, hx⟩ : ∃ x, V.cache[i] = x := ⟨_, rfl⟩
        rw [hx] at hone HCAT
        clear hw' hf' hG5 hw3 hrow hcat hnn e5 hsl hss L3 hxs hx hD hR hG hV
        have tok1 : True := trivial
        go_upto_region 7 with (at_builtin; have _t := tok1; go_must (refine Kd.R_append_rows kDw (w0 := w) hq rfl _ _ 32 TDw (.agg zCa.toArray) 136 rfl Try.underlying32 infoDw3 (by rw [show (Value.agg zCa.toArray).cells = zCa.toArray from rfl, zCa_len]; rfl) (by decide) (by decide) (.slice Ak nn ck) xs [x] (some ⟨g5, 0, none⟩) 1 1 (fun _ => True) (fun _ => False) rfl rfl hrow3 hone (fun x cs h => h) (fun k h => h.elim) (fun _ _ => trivial) hbel hbs (by omega) ?_); intro v6 w6 hv6 hb6 hg6 hat6; rw [HCAT.out] at hv6; obtain ⟨A6, c6, e6⟩ := Kd.R_slice hv6; subst e6; have hng : ∀ g cs, Blk w3 g TDt cs → Blk w6 g TDt cs := (fun g cs hg => hg.grown hg6 (fun e => by obtain ⟨cells, hcc⟩ := own_typedR hrow3 g e.symm; exact absurd rfl (hcc.ne hg (by decide)))); have hg6' := hng _ _ G3.out; have G6 := Aside0.mk hg6'; have P6 := Aside0.mk (hng _ _ P3.out); have R6 := Aside0.mk (hng _ _ R3.out); have V6 := Aside0.mk hv6; have B6 := Aside0.mk hb6; have x2 := hg6'.cell 1; have f2 := hg6'.frozen 1; have l2 := hg6'.lt; clear _t tok1 hone hbel hat6 hg6 hv6 hb6 hg6' hng hrow3)
        obtain ⟨W7, hW7⟩ : ∃ W7, w6.setCell ⟨g7, 1, none⟩ (.slice A6 ys.length c6) = W7 := ⟨_, rfl⟩
        have hgh := HGH.out
        have G7 := Aside0.mk (by rw [← hW7]; exact G6.out.set 1 (.slice A6 ys.length c6) : Blk W7 g7 TDt (docC nk (.slice A6 ys.length c6) (.slice none 0 0) (-1) false))
        have P7 := Aside0.mk (by rw [← hW7]; exact P6.out.far (by simp only; omega) _ : Blk W7 hq TDt D)
        have R7 := Aside0.mk (by rw [← hW7]; exact R6.out.far (by simp only; omega) _ : Blk W7 (hq + 1) TDt Z)
        have L7 := Aside0.mk (by rw [← hW7, HH.out]; exact B6.out.setCell (by simp only; omega) _ : Below w.heap.size w W7)
        have V7 := Aside0.mk (by rw [← hW7, HYS.out]; exact flat_move V6.out (fun k hk => Below.heap_setCell w6 _ _ k (fun e => by obtain ⟨cells, hcc⟩ := own_typedR V6.out k hk; simp only at e; exact absurd rfl (hcc.ne (e ▸ G6.out) (by decide)))) : kDw.R TDw W7 hq (fun _ => True) (.slice A6 ys.length c6) (kl ++ chosen (V.cache.take (i + 1)) choice))
        rw [hW7]
        have hw := HI.out.2.1
        clear hW7 G6 P6 R6 V6 B6 x2 f2 l2 hb hbs hlr P3 R3 G3
        go_wp2
        go_roundw
        case rel => exact ⟨i + 1, A6, ys.length, c6, by first | rfl | (rw [HI.out.2.1]), ⟨HI.out.1⟩, P7, R7, G7, V7, L7⟩
        case measure => have := HI.out; simp [intOf, HI.out.2.1]; omega
      · have hsame : kl ++ chosen (V.cache.take (i + 1)) choice = kl ++ chosen (V.cache.take i) choice := by
          rw [hsn, if_neg]
          intro h
          refine hch ⟨?_, h⟩
          have := HCH.out.1
          apply Classical.byContradiction
          intro hge
          rw [List.getD, List.getElem?_eq_none (by omega)] at h
          cases h
        have HSAME := Aside0.mk hsame
        by_cases hin2 : i < n
        · have u1 : decide ((i : Int) < (n : Int)) = true := decide_eq_true (by omega)
          have u1n : decide (i < n) = true := decide_eq_true hin2
          have q1 := eq_true (show (i : Int) < (n : Int) by omega)
          have q2 := eq_true hin2
          obtain ⟨ad, eA, hcell⟩ := bool_cell (Kd.C_below HCH.out hb.out) i hin2
          cases eA
          have hf : choice.getD i false = false := by
            cases h : choice.getD i false with
            | false => rfl
            | true => exact absurd ⟨hin2, h⟩ hch
          rw [hf] at hcell
          clear hch hf hsame hin2 hsn hx2 hi
          go_wp2
          go_roundw
          case rel => exact ⟨i + 1, Ak, nn, ck, by first | rfl | (rw [HI.out.2.1]), ⟨HI.out.1⟩, hD, hR, hG, ⟨by rw [HSAME.out]; exact hV.out⟩, hb⟩
          case measure => have := HI.out; simp [intOf, HI.out.2.1]; omega
        · have u1 : decide ((i : Int) < (n : Int)) = false := decide_eq_false (by omega)
          have u1n : decide (i < n) = false := decide_eq_false hin2
          clear hch hsame hin2 hsn hx2 hi
          go_wp2
          go_roundw
          case rel => exact ⟨i + 1, Ak, nn, ck, by first | rfl | (rw [HI.out.2.1]), ⟨HI.out.1⟩, hD, hR, hG, ⟨by rw [HSAME.out]; exact hV.out⟩, hb⟩
          case measure => have := HI.out; simp [intOf, HI.out.2.1]; omega
    · have t1 : decide ((i : Int) < (n2 : Int)) = false := decide_eq_false (by omega)
      have t1n : decide (i < n2) = false := decide_eq_false hi
      obtain rfl : i = n2 := by have := hin.out; omega
      have hV' := hV.out
      rw [← HN.out.2.1, List.take_length] at hV'
      have hs1 := one_doc nk Ak none nn 0 ck 0 (-1) false
      obtain ⟨D4, hD4⟩ : ∃ D4, docC nk (.slice Ak nn ck) (.slice none 0 0) (-1) false = D4 := ⟨_, rfl⟩
      have hds : D4.size = 5 := by rw [← hD4]; rfl
      have hG' := hG.out
      rw [hD4] at hG' hs1
      clear hi
      go_wp2_with (first
        | (with_reducible refine wpList_load_blk rfl TDt (.tmp 5) rfl _ _ _ rfl Try.underlying34 rfl infoDt hG' hds ?_)
        | (with_reducible refine wpList_store_blk rfl TDt (.tmp 4) _ rfl _ _ rfl rfl infoDt hds hs1 hR.out HZ.out.2 ?_))
      have bl := below_setRow (g := hq + 1) hb.out (by have := HH.out; omega) D4
      obtain ⟨hkv, hkl, hml, hS, hk⟩ := HX.out
      have hlen : (settleV V.kept (chosen V.cache choice)).length = nk := by rw [settle_length, hk]
      refine bodyPost_ret (results_blk rfl _ _ _ _ _ rfl infoDt Try.underlying34 rfl (hR.out.row D4) hds) rfl ⟨_, by rw [← hD4], ⟨kl ++ chosen V.cache choice, ?_, Kd.R_nil _ _ _ _ _, ?_, ?_, ?_⟩, bl⟩
      · refine Kd.R_lower (flat_move hV' fun k hk => ?_) (Nat.zero_le _)
        obtain ⟨cells, hcc⟩ := own_typedR hV' k hk
        exact setRow_other wr _ k D4 (fun e => absurd rfl (hcc.ne (e ▸ hR.out) (by decide)))
      · show settleV V.kept (chosen V.cache choice) = settleV (zeroK (settleV V.kept (chosen V.cache choice)).length) (kl ++ chosen V.cache choice)
        rw [hk] at hkv
        rw [hlen, settle_append, ← hkv]
      · intro x hx
        show 0 ≤ x.1 ∧ x.1 < ((settleV V.kept (chosen V.cache choice)).length : Int) ∧ _
        rw [hlen, ← hk]
        rcases List.mem_append.1 hx with hx | hx
        · exact hkl x hx
        · exact hS.cache x (chosen_mem _ _ x hx)
      · show (kl ++ chosen V.cache choice).length + ([] : List (Int × List Int)).length ≤ m
        rw [List.length_append]
        have := chosen_length V.cache choice
        have : ([] : List (Int × List Int)).length = 0 := rfl
        omega
theorem getD_byte (l : List Int) (h : Bytes l) (i : Nat) : 0 ≤ l.getD i 0 ∧ l.getD i 0 < 256 := by
  rw [List.getD]
  by_cases hi : i < l.length
  · rw [List.getElem?_eq_getElem hi, Option.getD_some]; exact h _ (List.getElem_mem hi)
  · rw [List.getElem?_eq_none (by omega)]; exact ⟨by decide, by decide⟩
theorem mapM_some {α β : Type} (f : α → Option β) (g : α → β) : ∀ xs : List α, (∀ x ∈ xs, f x = some (g x)) → xs.mapM f = some (xs.map g)
  | [], _ => rfl
  | x :: xs, h => by
    rw [List.mapM_cons, h x (List.mem_cons_self), mapM_some f g xs (fun y hy => h y (List.mem_cons_of_mem _ hy))]
    rfl
theorem flat_one {α β : Type} (f : α → β) : ∀ l : List α, (l.map fun i => [f i]).flatten = l.map f
  | [] => rfl
  | a :: l => by rw [List.map_cons, List.flatten_cons, flat_one f l]; rfl
theorem cells128 : Try.prog.cellsOf 71 = 128 := by kernel_rfl
theorem cellsB1 : Try.prog.cellsOf 5 = 1 := by kernel_rfl
set_option maxRecDepth 100000 in
theorem keyLits128 (l : List Int) (hl : l.length = 128) (hb : Bytes l) : Try.prog.keyLits 2 71 (nums .u8 l) = some (l.map (Lit.int .u8)) := by
  unfold Program.keyLits
  rw [Try.underlying71]
  simp only [cells128, cellsB1, nums_length, hl, if_true]
  rw [mapM_some _ (fun i => [Lit.int .u8 (l.getD i 0)])]
  · simp only [Option.map_some, Option.some.injEq]
    apply List.ext_getElem?
    intro i
    rw [flat_one]
    simp only [List.getElem?_map]
    by_cases hi : i < 128
    · simp [hi, List.getD, hl]
    · simp [hi, List.getElem?_eq_none (show l.length ≤ i by omega)]
  · intro i hi
    have hi' : i < 128 := by simpa using hi
    have hx := getD_byte l hb i
    unfold Program.keyLits
    rw [Try.underlying5]
    have e : ((nums IntKind.u8 l).drop (i * 1)).take 1 = [.int .u8 (l.getD i 0)] := by
      rw [Nat.mul_one, List.take_one]
      simp [nums, List.getD, List.getElem?_eq_getElem (show i < l.length by omega)]
    rw [e]
    generalize l.getD i 0 = x at *
    have hw : (Lit.int .u8 x).wf = true := by
      show (decide ((0 : Int) ≤ x) && decide (x ≤ 255)) = true
      simp
      omega
    simp [hw]
set_option maxRecDepth 100000 in
theorem eq128 (l m : List Int) (hl : l.length = 128) (hm : m.length = 128) (hlb : Bytes l) (hmb : Bytes m) (w : World) :
    (Op.equalIn 10000 71 (.agg (numsA .u8 l)) (.agg (numsA .u8 m))).run Try.prog w = .ok (decide (l = m)) w := by
  have hf : ∀ l : List Int, l.length = 128 → (Value.agg (numsA .u8 l)).formed Try.prog 71 = true := fun l hl => by
    simp [Value.formed, Try.underlying71, cells128, numsA_size, hl]
  obtain ⟨r, hr, hiff⟩ := run_equalIn_deep (P := Try.prog) (10000 - 2) 2 71 (by kernel_rfl) w 2 2 (.agg (numsA .u8 l)) (.agg (numsA .u8 m)) (l.map (Lit.int .u8)) (m.map (Lit.int .u8)) (hf l hl) (hf m hm)
    (by rw [show (Value.agg (numsA .u8 l)).cells.toList = nums .u8 l from numsA_list _ _]; exact keyLits128 l hl hlb) (by rw [show (Value.agg (numsA .u8 m)).cells.toList = nums .u8 m from numsA_list _ _]; exact keyLits128 m hm hmb)
  rw [show 10000 = 10000 - 2 + 2 from rfl, hr]
  congr 1
  have inj : (l.map (Lit.int .u8) = m.map (Lit.int .u8)) ↔ l = m := by
    constructor
    · intro h
      exact List.map_inj_right (fun a b hab => by injection hab) |>.1 h
    · rintro rfl; rfl
  rw [inj] at hiff
  cases r
  · simp at hiff; simp [hiff]
  · simp at hiff; simp [hiff]
def pieceAt (V : TrayV) (S : SpoolV) (n : Int) (i : Nat) : PieceV := ⟨(atV V S n).epoch, n + i, i, (atV V S n).of, (atV V S (n + i)).b⟩
def stepOk (V : TrayV) (S : SpoolV) (n : Int) (i : Nat) : Bool :=
  !(decide (sizeV (secV V S (n + i)) > 108) || (decide ((i : Int) < (atV V S n).of - 1) && decide (sizeV (secV V S (n + i)) < 108))) && decide (secV V S (n + i) = bytesV (pieceAt V S n i))
def docOk (V : TrayV) (S : SpoolV) (n : Int) : Bool := decide (1 ≤ (atV V S n).of) && decide ((atV V S n).of ≤ S.count) && (List.range (atV V S n).of.toNat).all (stepOk V S n)
theorem at_len {V : TrayV} {S : SpoolV} {n : Int} (hl : (secV V S n).length = 128) (h : 0 ≤ sizeV (secV V S n) ∧ sizeV (secV V S n) ≤ 108) : ((atV V S n).b.length : Int) = sizeV (secV V S n) := by
  show ((((secV V S n).drop 16).take (sizeV (secV V S n)).toNat).length : Int) = _
  rw [List.length_take, List.length_drop, hl]
  omega
theorem size_byte {bs : List Int} (hB : Bytes bs) : 0 ≤ sizeV bs ∧ sizeV bs < 256 := by
  unfold sizeV Go.Proofs.YtddhngalokmdoaaW.PrintWords.rd
  exact getD_byte bs hB _
theorem step_good {V : TrayV} {S : SpoolV} {n : Int} {i : Nat} (hl : ∀ k, 0 ≤ k → (secV V S k).length = 128) (hB : ∀ k, 0 ≤ k → Bytes (secV V S k)) (hn : 0 ≤ n ∧ n ≤ 140737488000000) (hof : 1 ≤ (atV V S n).of ∧ (atV V S n).of ≤ 4096) (hi : (i : Int) < (atV V S n).of)
    (h : stepOk V S n i = true) : hereV V S (n + i) = true ∧ atV V S (n + i) = pieceAt V S n i := by
  unfold stepOk at h
  simp only [Bool.and_eq_true, Bool.not_eq_true', Bool.or_eq_false_iff, Bool.and_eq_false_iff, decide_eq_true_eq, decide_eq_false_iff_not] at h
  obtain ⟨⟨h1, h2⟩, h3⟩ := h
  have hb := size_byte (hB (n + i) (by omega))
  have hal := at_len (hl (n + i) (by omega)) ⟨hb.1, by omega⟩
  have hep := getV_lt (a := 1) (k := 4) (hB n hn.1) (by rw [hl n hn.1]; decide) (by decide)
  have hep2 : (atV V S n).epoch < 4294967296 := by
    have h0 : Bytes (((secV V S n).drop 1).take 4) := fun x hx => hB n hn.1 x (List.mem_of_mem_drop (List.mem_of_mem_take hx))
    have := numV_lt _ h0 4 (by rw [List.length_take, List.length_drop, hl n hn.1]; rfl)
    exact this.2
  have hg : GoodP (pieceAt V S n i) := ⟨⟨hep.1, hep2⟩, ⟨by show 0 ≤ n + (i : Int); omega, by show n + (i : Int) < _; omega⟩, ⟨by show (0 : Int) ≤ i; omega, hi⟩, by show (atV V S n).of < 65536; omega, ⟨by show (atV V S (n + i)).b.length ≤ 108; omega, fun h4 => by
    show (atV V S (n + i)).b.length = 108
    have h5 : (i : Int) < (atV V S n).of - 1 := h4
    rcases h2 with h | h
    · exact absurd h5 h
    · omega⟩⟩
  obtain ⟨k1, k2⟩ := here_piece hg h3
  exact ⟨by rw [k1]; exact decide_eq_true rfl, k2⟩
theorem step_of_here {V : TrayV} {S : SpoolV} {n : Int} {i : Nat} (h : hereV V S (n + i) = true) (h2 : (atV V S (n + i)).at_ = i) (h3 : (atV V S (n + i)).of = (atV V S n).of) (h4 : (atV V S (n + i)).epoch = (atV V S n).epoch) : stepOk V S n i = true := by
  unfold hereV okV at h
  simp only [Bool.and_eq_true, Bool.not_eq_true', Bool.or_eq_false_iff, Bool.and_eq_false_iff, decide_eq_true_eq, decide_eq_false_iff_not] at h
  obtain ⟨⟨⟨a1, a2, a3⟩, a4⟩, a5⟩ := h
  have e : atV V S (n + i) = pieceAt V S n i := by
    unfold pieceAt
    clear a1 a2 a3 a4
    generalize atV V S (n + (i : Int)) = q at *
    obtain ⟨e1, e2, e3, e4, e5⟩ := q
    simp only at h2 h3 h4 a5
    rw [h2, h3, h4, a5]
  unfold stepOk
  simp only [Bool.and_eq_true, Bool.not_eq_true', Bool.or_eq_false_iff, Bool.and_eq_false_iff, decide_eq_true_eq, decide_eq_false_iff_not]
  have a3' : ¬ ((atV V S (n + i)).at_ < (atV V S (n + i)).of - 1) ∨ ¬ (sizeV (secV V S (n + i)) < 108) := a3
  rw [h2, h3] at a3'
  refine ⟨⟨by omega, a3'⟩, ?_⟩
  have a4' : secV V S (n + i) = bytesV (atV V S (n + i)) := a4
  rw [e] at a4'
  exact a4'
theorem doc_rec {V : TrayV} {S : SpoolV} {n : Int} (hl : ∀ k, 0 ≤ k → (secV V S k).length = 128) (hB : ∀ k, 0 ≤ k → Bytes (secV V S k)) (hn : 0 ≤ n ∧ n ≤ 140737488000000) (hc : S.count ≤ 4096) : docOk V S n = recOk V S n := by
  rw [Bool.eq_iff_iff]
  unfold docOk
  constructor
  · intro h
    simp only [Bool.and_eq_true, decide_eq_true_eq, List.all_eq_true, List.mem_range] at h
    obtain ⟨⟨h1, h2⟩, h3⟩ := h
    have hg : ∀ i : Nat, (i : Int) < (atV V S n).of → hereV V S (n + i) = true ∧ atV V S (n + i) = pieceAt V S n i := fun i hi => step_good hl hB hn ⟨h1, by omega⟩ hi (h3 i (by omega))
    have h0 := hg 0 (by omega)
    rw [show n + ((0 : Nat) : Int) = n by omega] at h0
    refine rec_good (i := (atV V S n).of.toNat) ?_ (by omega) fun j j1 j2 => ?_
    · unfold headOk
      rw [h0.1, Bool.true_and, Bool.and_eq_true]
      exact ⟨decide_eq_true (by rw [h0.2]; rfl), decide_eq_true h2⟩
    · have hj := hg j (by omega)
      unfold followV
      rw [hj.1, hj.2]
      simp [pieceAt]
  · intro h
    unfold recOk headOk at h
    simp only [Bool.and_eq_true, decide_eq_true_eq, List.all_eq_true, List.mem_range] at h
    obtain ⟨⟨⟨h1, h2⟩, h3⟩, h4⟩ := h
    have h5 := (here_facts h1 (hl n hn.1)).2
    simp only [Bool.and_eq_true, decide_eq_true_eq, List.all_eq_true, List.mem_range]
    refine ⟨⟨by omega, h3⟩, fun i hi => ?_⟩
    rcases Nat.eq_zero_or_pos i with rfl | hi0
    · refine step_of_here ?_ ?_ ?_ ?_ <;> rw [show n + ((0 : Nat) : Int) = n by omega]
      · exact h1
      · rw [h2]; rfl
    · have := h4 (i - 1) (by omega)
      rw [show i - 1 + 1 = i by omega] at this
      unfold followV at this
      simp only [Bool.and_eq_true, decide_eq_true_eq] at this
      exact step_of_here this.1.1.1 this.1.1.2 this.1.2 this.2
end Go.Proofs.Ytddhngalokmdoaa.Spo
