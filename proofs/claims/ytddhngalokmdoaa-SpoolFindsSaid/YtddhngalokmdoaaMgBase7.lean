/- Texts of this claim, merged: Tfl, Twr, Spr. -/
import Derived.Test.YtddhngalokmdoaaMgBase5
import Derived.Test.YtddhngalokmdoaaMgBase6
import Derived.Laws.OwnMore
import Derived.Laws.CopyOwn
import Derived.Test.YtddhngalokmdoaaMgBase4
/- A tray: Power, New, Flush. -/
namespace Go.Proofs.Ytddhngalokmdoaa.Spo
open Go.RowKit Go.Proofs.YtddhngalokmdoaaW.PrintWords Go.Proofs.YtddhngalokmdoaaW.PrintLast Go.Proofs.YtddhngalokmdoaaW.PrintMore Go.Proofs.Ytddhngalokmdoaa.Arr Go.Proofs.Ytddhngalokmdoaa.PSpoolPlays
set_option linter.unusedVariables false
set_option linter.unusedSimpArgs false

set_option maxHeartbeats 4000000 in
theorem power_calls (P : Nat → Prop) (t : Nat) (V : TrayV) (n : Int) (w : World) (H : TAt P w t V) :
    Calls Try.prog 25 #[ptrT t, .int .i64 n] w fun e w' => e = .returned (.int .i64 (powerV V n).2) ∧ TAt P w' t (powerV V n).1 ∧ OnlyP P w w' := by
  unfold powerV
  by_cases h0 : n < 0
  · rw [if_pos (.inl h0)]
    have t0 : decide (n < 0) = true := decide_eq_true h0
    clear h0
    have HH := Aside0.mk H
    go_enter Try.func25, Try.ntmps25
    go_wp2
    go_ret
    exact ⟨rfl, HH.out, OnlyP.refl _ _⟩
  have t0 : decide (n < 0) = false := decide_eq_false h0
  by_cases h1 : n > 1099511627776
  · rw [if_pos (.inr h1)]
    have t1 : decide (n > 1099511627776) = true := decide_eq_true h1
    clear h0 h1
    have HH := Aside0.mk H
    go_enter Try.func25, Try.ntmps25
    go_wp2
    go_ret
    exact ⟨rfl, HH.out, OnlyP.refl _ _⟩
  have t1 : decide (n > 1099511627776) = false := decide_eq_false h1
  rw [if_neg (fun h => h.elim h0 h1)]
  obtain ⟨kv, cv, hT, hK, hC, hP⟩ := H.out
  obtain ⟨kept, cache, left, dark⟩ := V
  have c2 := hT.cell 2
  have c3 := hT.cell 3
  have f2 := hT.frozen 2
  have f3 := hT.frozen 3
  have lt := hT.lt
  have K := Aside0.mk (⟨hT, hK, hC, hP⟩ : _ ∧ _ ∧ _ ∧ _)
  clear H hT hK hC hP h0 h1
  go_enter Try.func25, Try.ntmps25
  go_wp2
  go_ret
  obtain ⟨h1, h2, h3, h4⟩ := K.out
  refine ⟨rfl, TAt.set (V := ⟨kept, cache, left, dark⟩) h2 h3 h4 ((h1.set 2 (.int .i64 n)).set 3 (.bool false)) rfl rfl rfl (fun k hk => (Below.heap_setCell _ _ _ k hk).trans (Below.heap_setCell w _ _ k hk)) ⟨_, h1⟩, ((OnlyP.refl P w).setCell (.inl h4) _).setCell (.inl h4) _⟩
set_option maxHeartbeats 8000000 in
set_option maxRecDepth 100000 in
theorem new_calls (P : Nat → Prop) (n : Nat) (hn : 4 ≤ n) (hn2 : n ≤ 4096) (w : World) (hP : ∀ j, w.heap.size ≤ j → P j) :
    Calls Try.prog 12 #[.int .i64 (n : Int)] w fun e w' => ∃ t, e = .returned (.tuple #[ptrT t, .int .i64 0]) ∧ TAt P w' t (newV n) ∧ Below w.heap.size w w' := by
  have t0 : decide ((n : Int) < 4) = false := decide_eq_false (by omega)
  have t1 : decide ((n : Int) > 4096) = false := decide_eq_false (by omega)
  obtain ⟨ie, hie, h1⟩ := Option.map_eq_some_iff.1 (show (Try.prog.info? TSe).map (fun i => (i.zero, i.size, i.bytes)) = some (some (.agg (nums .u8 zB).toArray), 128, 128) by kernel_rfl)
  simp only [Prod.mk.injEq] at h1
  obtain ⟨h1, h2, h3⟩ := h1
  have hm : (Instr.makeSlice 76 (.int .i64 (n : Int)) (.int .i64 (n : Int))).run Try.prog w = .ok (.slice (some ⟨w.heap.size, 0, none⟩) n n) (w.alloc (.cells (madeCells (nums .u8 zB).toArray (n * 128)) TSe)) := by
    have := run_make (P := Try.prog) w 76 TSe ie (.agg (nums .u8 zB).toArray) Try.underlying76 hie h1 .i64 .i64 n n (by omega) (Int.le_refl _) (by rw [h3]; omega) (by omega)
    simp only [Int.toNat_natCast] at this
    rw [this, h2]
    rfl
  go_enter Try.func12, Try.ntmps12
  go_wp2
  go_ret2
  have hl0 : (nums .u8 zB).length = 128 := by simp [zB, nums]
  have hR := flat_made (e := TSe) (h1 := fun x => nums_one .u8 x) (base := 0) (ok := P) zB hl0 (by decide) n w (Nat.zero_le _) (hP _ (Nat.le_refl _)) (by unfold maxLen; omega)
  refine ⟨w.heap.size + 1, rfl, ⟨_, _, Blk.newAt (by simp), Kd.R_alloc hR _, Kd.R_nil _ _ _ _ _, hP _ (by omega)⟩, ((Below.refl _ _).alloc (Nat.le_refl _) _).alloc (by simp) _⟩
set_option maxHeartbeats 8000000 in
set_option maxRecDepth 100000 in
theorem flush_calls (P : Nat → Prop) (t : Nat) (V : TrayV) (w : World) (H : TAt P w t V) (hS : Sound V) (hl : V.left ≤ 9223372036854775807) (hk : 0 < V.kept.length) (hcl : V.cache.length ≤ 1000000000) :
    Calls Try.prog 43 #[ptrT t] w fun e w' => e = .returned (.int .i64 (flushV V).2) ∧ TAt P w' t (flushV V).1 ∧ OnlyP P w w' := by
  have KS := Aside0.mk (step_calls P t V w hl H)
  obtain ⟨hs1, hs2⟩ := step_kept V
  have hS1 := hS.step
  unfold flushV
  obtain ⟨b, hb⟩ : ∃ b, (stepV V).2 = b := ⟨_, rfl⟩
  obtain ⟨V1, hV1⟩ : ∃ V1, (stepV V).1 = V1 := ⟨_, rfl⟩
  rw [hb, hV1] at KS
  rw [hV1] at hS1 hs1 hs2
  rw [hb, hV1, ← hs1, ← hs2]
  rw [← hs1] at hk
  rw [← hs2] at hcl
  clear hb hV1 hs1 hs2 hl hS H
  cases b with
  | false =>
    rw [if_neg (by decide)]
    go_enter Try.func43, Try.ntmps43
    go_wp2_with fail
    refine KS.out.mono ?_
    rintro e w1 ⟨rfl, hT, hO⟩
    have HT := Aside0.mk hT
    have HO := Aside0.mk hO
    clear hT hO KS
    go_wp2
    go_ret
    exact ⟨rfl, HT.out, HO.out⟩
  | true =>
    rw [if_pos rfl]
    go_enter Try.func43, Try.ntmps43
    go_wp2_with fail
    refine KS.out.mono ?_
    rintro e w1 ⟨rfl, hT, hO⟩
    have HO := Aside0.mk hO
    obtain ⟨kv, cv, h1, h2, h3, h4⟩ := hT.out
    obtain ⟨Ak, ck, rfl⟩ := Kd.R_slice h2
    obtain ⟨Ac, cc, rfl⟩ := Kd.R_slice h3
    obtain ⟨gk, cur, rfl, -, -, -, hPk, -, -, -⟩ := flat_form h2 hk
    have KT := Aside0.mk (⟨h1, h2, h3, h4⟩ : _ ∧ _ ∧ _ ∧ _)
    obtain ⟨n, hn⟩ : ∃ n, V1.kept.length = n := ⟨_, rfl⟩
    obtain ⟨m, hm⟩ : ∃ m, V1.cache.length = m := ⟨_, rfl⟩
    have hB := h1
    rw [hn, hm] at hB
    have HB := Aside0.mk hB
    have KSe := Aside0.mk (fun w' (hb : Below w1.heap.size w1 w') => settle_calls P P V1.kept V1.cache gk n ck Ac cc m w' (by rw [← hn]; exact Kd.R_below h2 hb) (by rw [← hm]; exact Kd.R_below h3 hb) hS1.cache hk hS1.len hcl)
    have HN := Aside0.mk hn
    clear hT hO KS h1 h2 h3 h4 hn hm hB
    go_wp2_with fail
    refine Qt.wp_region_tail (fun w' => Below w1.heap.size w1 w') 8 (by kernel_rfl) (by kernel_rfl) (Below.refl _ _).drew ?_
    simp only [List.take_succ_cons, List.take_zero, List.drop_succ_cons, List.drop_zero]
    iterate 8 ((first | (with_reducible refine Qt.q_val' rfl ?_) | ((with_reducible refine Qg.on_val' ?_); apply Exists.intro; apply Exists.intro; apply Exists.intro; refine ⟨?_, ?_, ?_, ?_⟩; (focus rfl); (focus rfl); (focus rfl))); apply Exists.intro; refine ⟨?_, ?_⟩; (focus (intro w' hw'; have hEw := HB.out.below hw'; have e0 := hEw.cell 0; have e1 := hEw.cell 1; have el := hEw.lt; go_simp; (first | done | (with_reducible rfl)))); intro K hK; go_simp; (first | (with_reducible refine hK _ ?_) | (refine hK _ ?_)); clear hK K)
    (refine wpQuiet_nil ?_; intro w' hw')
    go_wp2_with fail
    refine (KSe.out w' hw').mono ?_
    rintro e w2 ⟨rfl, hR2, hO2⟩
    obtain ⟨h1, h2, h3, h4⟩ := KT.out
    have hgk := flat_lt h2 gk rfl
    have hne : t ≠ gk := fun e => Kd.R_ne h2 h1.out (by decide) (by rw [e]; rfl)
    have hB2 := hO2.blk (h1.below hw') hne
    have HB2 := Aside0.mk hB2
    have HR2 := Aside0.mk hR2
    have HO2 := Aside0.mk ((HO.out.step hw').trans (hO2.mono (Q := P) (fun k _ e => by rw [e]; exact hgk.2)))
    have c1 := hB2.cell 1
    have f1 := hB2.frozen 1
    have lt := hB2.lt
    clear h1 h2 h3 h4 hw' hR2 hO2 KSe hB2
    go_wp2
    go_ret
    obtain ⟨h1, h2, h3, h4⟩ := KT.out
    have hR3 := HR2.out
    rw [← HN.out] at hR3
    refine ⟨rfl, ⟨.slice (some ⟨gk, 0, none⟩) V1.kept.length ck, .slice none 0 0, HB2.out.set 1 (.slice none 0 0), ?_, Kd.R_nil _ _ _ _ _, h4⟩, HO2.out.setCell (.inl h4) _⟩
    exact flat_move hR3 fun k hk => Below.heap_setCell _ _ _ k (fun e => Kd.R_ne hR3 HB2.out.out (by decide) (by rw [hk, e]))
end Go.Proofs.Ytddhngalokmdoaa.Spo

/- A tray: Write. -/
namespace Go.Proofs.Ytddhngalokmdoaa.Spo
open Go.RowKit Go.Proofs.YtddhngalokmdoaaW.PrintWords Go.Proofs.YtddhngalokmdoaaW.PrintLast Go.Proofs.YtddhngalokmdoaaW.PrintMore Go.Proofs.Ytddhngalokmdoaa.Arr Go.Proofs.Ytddhngalokmdoaa.PSpoolPlays
set_option linter.unusedVariables false
set_option linter.unusedSimpArgs false

theorem stamp_copy (at_ : Int) (bs : List Int) (h : bs.length ≤ 128) : ((stampC (at_, zB)).toArray.toList.take 1 ++ (nums .u8 bs ++ (stampC (at_, zB)).toArray.toList.drop (1 + (nums .u8 bs).length))).toArray = (stampC (at_, padB bs)).toArray := by
  have e1 : (nums .u8 zB).drop bs.length = nums .u8 (List.replicate (128 - bs.length) 0) := by
    unfold nums zB
    rw [← List.map_drop, List.drop_replicate]
  have e2 : nums .u8 (padB bs) = nums .u8 bs ++ nums .u8 (List.replicate (128 - bs.length) 0) := by
    unfold nums padB
    rw [List.map_append]
  congr 1
  rw [nums_length, Nat.add_comm 1]
  show [Value.int .i64 at_] ++ (nums .u8 bs ++ (nums .u8 zB).drop bs.length) = Value.int .i64 at_ :: nums .u8 (padB bs)
  rw [e1, e2]
  rfl
theorem reads_below {w w1 : World} {A : Option Addr} {n : Nat} {bs : List Int} (h : ReadsInt w .u8 A n bs) (hb : Below w.heap.size w w1) : ReadsInt w1 .u8 A n bs := ⟨h.1, h.2.1, fun hn => by
  obtain ⟨ad, e, hc⟩ := h.2.2 hn
  exact ⟨ad, e, fun j hj => (hb.cell (World.block_lt_of_cell? w _ (hc j hj))).trans (hc j hj)⟩⟩
theorem wp_copy_stamp {P : Program} {w : World} {ops : Array Oper} {rest : List Oper} {o : Oper} {a : Act} {Q : Exit → Act → World → Prop} (hgd : o.guard = none) (d s : Operand) (dT sT : TypeId)
    (ho : o.op = .call { callee := .builtin .copy, args := #[d, s], argTypes := #[dT, sT] }) (elem : TypeId) (hu : P.underlying dT = some (.slice elem)) (hsz : (P.info? elem).map (·.size) = some 1)
    (g dCap : Nat) (at_ : Int) (bs : List Int) (A : Option Addr) (n c : Nat) (hd : a.eval d = .slice (some ⟨g, 1, none⟩) 128 dCap) (hs : a.eval s = .slice A n c)
    (T : TypeId) (hB : Blk w g T (stampC (at_, zB)).toArray) (hr : ReadsInt w .u8 A n bs) (hn : n ≤ 128)
    (h : wpList P ops Q rest (a.put o.dst (goInt n)) (w.setRow g (stampC (at_, padB bs)).toArray)) : wpList P ops Q (o :: rest) a w := by
  have hl := hr.1
  by_cases h0 : n = 0
  · subst h0
    obtain rfl : bs = [] := List.eq_nil_of_length_eq_zero hl
    refine wpList_copy_nothing hgd d s dT sT ho elem hu hsz _ A 128 dCap 0 c hd hs (by simp) ?_
    have e : padB [] = zB := rfl
    rw [e, setRow_self w g _ T _ hB.out] at h
    simpa using h
  · obtain ⟨ad, rfl, hc⟩ := hr.2.2 (by omega)
    refine wpList_copy_own hgd d s dT sT ho elem hu hsz g 1 128 dCap ad n c hd hs (stampC (at_, zB)).toArray T hB.out (nums .u8 bs) (by rw [nums_length, hl]; exact (Nat.min_eq_left hn).symm) ?_ ?_ (nums_one .u8 bs) ?_
    · intro j v hj
      have hlt : j < bs.length := by
        have := (List.getElem?_eq_some_iff.1 hj).1
        simpa [nums] using this
      have hv : v = .int .u8 (bs.getD j 0) := by
        simp [nums, List.getElem?_eq_getElem hlt] at hj
        simp [List.getD, List.getElem?_eq_getElem hlt, hj]
      rw [hv]
      exact hc j (by omega)
    · rw [nums_length]
      simp [stampC, nums, zB]
      omega
    · rw [stamp_copy at_ bs (by omega), nums_length, hl]
      exact h
theorem buildCa (at_ : Int) : ∀ w, (Instr.build TCa #[(0, .int .i64 at_)]).run Try.prog w = .ok (.agg (stampC (at_, zB)).toArray) w := fun w => by kernel_rfl
theorem infoB : (Try.prog.info? 5).map (·.size) = some 1 := by kernel_rfl
theorem infoCa3 : (Try.prog.info? TCa).map (fun i => (i.zero, i.size, i.bytes)) = some (some (.agg zCa.toArray), 129, 136) := by kernel_rfl
set_option maxHeartbeats 8000000 in
set_option maxRecDepth 100000 in
theorem write_calls (P : Nat → Prop) (t : Nat) (V : TrayV) (at_ : Int) (bs : List Int) (A : Option Addr) (n c : Nat) (w : World) (H : TAt P w t V) (hl : V.left ≤ 9223372036854775807) (hr : ReadsInt w .u8 A n bs) (hcl : V.cache.length ≤ 1000000000)
    (hA : ∀ ad, A = some ad → 0 < n → ¬ P ad.block) (hP : ∀ j, w.heap.size ≤ j → P j) :
    Calls Try.prog 14 #[ptrT t, .int .i64 at_, .slice A n c] w fun e w' => e = .returned (.int .i64 (writeV V at_ bs).2) ∧ TAt P w' t (writeV V at_ bs).1 ∧ OnlyP P w w' := by
  have KH := Aside0.mk (has_calls P t V at_ w H)
  have hbl := hr.1
  unfold writeV
  cases hh : hasV V at_ with
  | false =>
    rw [hh] at KH
    rw [if_pos (.inl rfl)]
    have HH := Aside0.mk H
    clear hh hr hA H
    go_enter Try.func14, Try.ntmps14
    go_wp2_with fail
    refine KH.out.mono ?_
    rintro e w1 ⟨rfl, b1⟩
    have HH1 := Aside0.mk (HH.out.below b1)
    have B1 := Aside0.mk b1
    clear b1 KH
    go_wp2
    go_ret
    exact ⟨rfl, HH1.out, OnlyP.of_below B1.out⟩
  | true =>
  rw [hh] at KH
  by_cases h128 : 128 < bs.length
  · rw [if_pos (.inr h128)]
    have HH := Aside0.mk H
    have t1 : decide ((n : Int) > 128) = true := decide_eq_true (by omega)
    clear hh hr hA H
    go_enter Try.func14, Try.ntmps14
    go_wp2_with fail
    refine KH.out.mono ?_
    rintro e w1 ⟨rfl, b1⟩
    have HH1 := Aside0.mk (HH.out.below b1)
    have B1 := Aside0.mk b1
    clear b1 KH
    go_wp2
    go_ret
    exact ⟨rfl, HH1.out, OnlyP.of_below B1.out⟩
  rw [if_neg (by rintro (h | h); exact absurd h (by decide); exact h128 h)]
  have t1 : decide ((n : Int) > 128) = false := decide_eq_false (by omega)
  have HR := Aside0.mk hr
  have HA := Aside0.mk hA
  have HH := Aside0.mk H
  have KS := Aside0.mk (fun w1 (b1 : Below w.heap.size w w1) => step_calls P t V w1 hl (H.below b1))
  obtain ⟨hs1, hs2⟩ := step_kept V
  obtain ⟨b, hb⟩ : ∃ b, (stepV V).2 = b := ⟨_, rfl⟩
  obtain ⟨V1, hV1⟩ : ∃ V1, (stepV V).1 = V1 := ⟨_, rfl⟩
  rw [hb, hV1] at KS
  rw [hV1] at hs1 hs2
  rw [hb, hV1, ← hs2]
  rw [← hs2] at hcl
  clear hb hV1 hs1 hs2 hl hh hr hA H
  cases b with
  | false =>
    rw [if_neg (by decide)]
    go_enter Try.func14, Try.ntmps14
    go_wp2_with fail
    refine KH.out.mono ?_
    rintro e w1 ⟨rfl, b1⟩
    have B1 := Aside0.mk b1
    have KS1 := Aside0.mk (KS.out w1 b1)
    clear b1 KH
    go_wp2_with fail
    refine KS1.out.mono ?_
    rintro e w2 ⟨rfl, hT, hO⟩
    have HT := Aside0.mk hT
    have HO := Aside0.mk ((OnlyP.of_below B1.out).trans hO)
    clear hT hO KS KS1
    go_wp2
    go_ret
    exact ⟨rfl, HT.out, HO.out⟩
  | true =>
    rw [if_pos rfl]
    go_enter Try.func14, Try.ntmps14
    go_wp2_with fail
    refine KH.out.mono ?_
    rintro e w1 ⟨rfl, b1⟩
    have B1 := Aside0.mk b1
    have KS1 := Aside0.mk (KS.out w1 b1)
    clear b1 KH
    go_wp2_with fail
    refine KS1.out.mono ?_
    rintro e w2 ⟨rfl, hT, hO⟩
    have HT := Aside0.mk hT
    have HO := Aside0.mk ((OnlyP.of_below B1.out).trans hO)
    have hR2 : ReadsInt w2 .u8 A n bs := ⟨HR.out.1, HR.out.2.1, fun hn => by
      obtain ⟨ad, e, hc⟩ := HR.out.2.2 hn
      refine ⟨ad, e, fun j hj => ?_⟩
      have h1 := hc j hj
      have hlt := World.block_lt_of_cell? w _ h1
      have hbk : (ad.add j).block = ad.block := by unfold Addr.add; split <;> rfl
      have := HO.out.block (ad.add j).block hlt (by rw [hbk]; exact HA.out ad e hn)
      rw [← h1]
      simp only [World.cell?, this]⟩
    have HR2 := Aside0.mk hR2
    have hP2 : ∀ j, w2.heap.size ≤ j → P j := fun j hj => hP j (Nat.le_trans HO.out.size hj)
    obtain ⟨W9, hW9⟩ : ∃ W9, w2.alloc (.cells (stampC (at_, padB bs)).toArray TCa) = W9 := ⟨_, rfl⟩
    have HW9 := Aside0.mk hW9
    have b9 : Below w2.heap.size w2 W9 := by rw [← hW9]; exact (Below.refl _ _).alloc (Nat.le_refl _) _
    have hE9 : Blk W9 w2.heap.size TCa (stampC (at_, padB bs)).toArray := by rw [← hW9]; exact Blk.new _ _ _
    have hn128 : n ≤ 128 := by omega
    have hone := stamp_one (at_, zB)
    have hzl : (stampC (at_, zB)).toArray.size = 129 := by simp [stampC, nums, zB]
    have h83 := Try.underlying83
    have h81 := Try.underlying81
    have hRz : ReadsInt (w2.alloc (.cells (stampC (at_, zB)).toArray TCa)) .u8 A n bs := reads_below hR2 ((Below.refl _ _).alloc (Nat.le_refl _) _)
    clear hT hO KS KS1 hW9 hR2
    go_wp2_with (first
      | (with_reducible refine wpList_build_agg rfl TCa _ rfl (stampC (at_, zB)).toArray (fun w => by kernel_rfl) ?_)
      | (with_reducible refine wpList_alloc_agg rfl TCa _ rfl zeroCa ?_)
      | (with_reducible refine wpList_store_blk rfl TCa (.tmp 7) (.tmp 23) rfl w2.heap.size (stampC (at_, zB)).toArray ?_ ?_ infoCa hzl hone (Blk.newAt rfl) zCa_len ?_; (focus simp [Act.eval, Act.put]); (focus simp [Act.eval, Act.put]); rw [setRow_top rfl])
      | (with_reducible refine wp_copy_stamp rfl (.tmp 25) (.tmp 26) _ _ rfl 5 Try.underlying22 infoB w2.heap.size 128 at_ bs A n c ?_ ?_ TCa (Blk.newAt rfl) hRz hn128 ?_; (focus simp [Act.eval, Act.put]); (focus simp [Act.eval, Act.put]); rw [setRow_top rfl]; rw [HW9.out]))
    obtain ⟨kv, cv, hT, hK, hC, hPt⟩ := HT.out.out
    obtain ⟨Ak, ck, rfl⟩ := Kd.R_slice hK
    obtain ⟨Ac, cc, rfl⟩ := Kd.R_slice hC
    have hT9 := hT.below b9
    have hC9 := Kd.R_below hC b9
    have hP9 : ∀ k, W9.drew.heap.size ≤ k → P k := fun k hk => hP2 k (Nat.le_trans b9.size hk)
    obtain ⟨u2, W2, hrun, hR3, hg3⟩ := flat_append (P := Try.prog) (t := 77) 77 Try.underlying77 infoCa3 (by simp [Value.cells, zCa, zB, nums]) (by decide) (by decide) (Kd.R_below hC9 (w1 := W9.drew) (Below.refl _ _).drew) (at_, padB bs) (by simp [nums, padB_length (show bs.length ≤ 128 by omega)]) hP9 (Nat.zero_le _) (by omega)
    obtain ⟨A3, c3, e3⟩ := Kd.R_slice hR3
    obtain ⟨n3, hn3⟩ : ∃ n3, (V1.cache ++ [(at_, padB bs)]).length = n3 := ⟨_, rfl⟩
    rw [hn3] at e3
    have HN3 := Aside0.mk hn3
    subst e3
    have HR3 := Aside0.mk hR3
    clear hn3 hR3
    obtain ⟨m, hm⟩ : ∃ m, V1.cache.length = m := ⟨_, rfl⟩
    have HM := Aside0.mk hm
    rw [hm] at hrun hT9
    have hsl : (stampC (at_, padB bs)).length = 129 := stampC_length (padB_length (by omega))
    obtain ⟨S, hS⟩ : ∃ S, stampC (at_, padB bs) = S := ⟨_, rfl⟩
    have hrun' : (Builtin.append_ #[77, 77] 77 #[.slice Ac m cc, .slice (some ⟨W9.drew.heap.size, 0, none⟩) 1 1]).run Try.prog (W9.drew.alloc (.cells S.toArray TCa)) = .ok (.slice A3 n3 c3) W2 := by rw [← hS]; exact hrun
    rw [hS] at hE9 hsl
    have hne : t ≠ w2.heap.size := Nat.ne_of_lt hT.lt
    have hnt : ∀ k, (Value.slice Ac m cc).ownBlock = some k → k ≠ t ∧ k ≠ w2.heap.size := fun k hk => ⟨fun e => Kd.R_ne hC hT.out (by decide) (by rw [← e, ← hk, hm]), fun e => by
      have := (flat_lt hC k (by rw [hm]; exact hk)).1
      omega⟩
    have hg3' : W9.drew.grownBy W2 (Value.slice Ac m cc).ownBlock := by rw [← hm]; exact hg3
    have hT2 : Blk W2 t TTr (trayC (.slice Ak V1.kept.length ck) (.slice Ac m cc) V1) := ⟨(hg3'.block t hT9.lt (fun e => (hnt t e.symm).1 rfl)).trans hT9.out⟩
    have hE2 : Blk W2 w2.heap.size TCa S.toArray := ⟨(hg3'.block w2.heap.size hE9.lt (fun e => (hnt _ e.symm).2 rfl)).trans hE9.out⟩
    have HALL : Aside0 (∀ (p : Nat) (w' : World), (match p with | 0 => w' = W9.drew | 1 => w' = W9.drew.alloc (.cells S.toArray TCa) | _ => w' = W2) → Blk w' t TTr (trayC (.slice Ak V1.kept.length ck) (.slice Ac m cc) V1) ∧ Blk w' w2.heap.size TCa S.toArray) := ⟨fun p w' h => by
      match p, h with
      | 0, h => subst h; exact ⟨hT9.drew, hE9.drew⟩
      | 1, h => subst h; exact ⟨hT9.drew.alloc _, hE9.drew.alloc _⟩
      | p + 2, h => subst h; exact ⟨hT2, hE2⟩⟩
    go_wp2_with fail
    refine Qy.wp_region_tail (fun _ _ => True) (fun _ _ _ _ => True) (fun _ _ _ => True) (fun p w' => match p with | 0 => w' = W9.drew | 1 => w' = W9.drew.alloc (.cells S.toArray TCa) | _ => w' = W2) [6, 7] 8 (by kernel_rfl) (by kernel_rfl) rfl ?_
    simp only [List.take_succ_cons, List.take_zero, List.drop_succ_cons, List.drop_zero]
    iterate 4 ((with_reducible refine Qy.y_val ⟨fun _ _ _ hF h w' h1 h2 => h w' h1 fun k => hF k _ (h2 k)⟩ ?_ ?_ ?_ ?_ ?_); (focus (first | exact fun _ => Only.refl _ _ | exact fun _ => Below.refl _ _ | exact fun _ => trivial)); (focus (exact fun _ => trivial)); (focus (first | rfl | decide)); (first | (focus (exact Qy.wanted_none rfl)) | (focus (exact Qg.wanted_on rfl rfl rfl))); apply Exists.intro; refine ⟨?_, ?_⟩; (focus (intro p' w' hw' hp'; skip; go_simp; (first | done | (with_reducible rfl)))); intro K hK; go_simp; (first | (with_reducible refine hK _ ?_) | (refine hK _ ?_)); clear hK K)
    ((with_reducible refine Qy.y_val ⟨fun _ _ _ hF h w' h1 h2 => h w' h1 fun k => hF k _ (h2 k)⟩ ?_ ?_ ?_ ?_ ?_); (focus (first | exact fun _ => Only.refl _ _ | exact fun _ => Below.refl _ _ | exact fun _ => trivial)); (focus (exact fun _ => trivial)); (focus (first | rfl | decide)); (first | (focus (exact Qy.wanted_none rfl)) | (focus (exact Qg.wanted_on rfl rfl rfl))); apply Exists.intro; refine ⟨?_, ?_⟩; (focus (intro p' w' hw' hp'; have hA9 := HALL.out _ _ hw'; have q0 := hA9.1.cell 1; have ql := hA9.1.lt; go_simp; (first | done | (with_reducible rfl)))); intro K hK; go_simp; (first | (with_reducible refine hK _ ?_) | (refine hK _ ?_)); clear hK K)
    ((with_reducible refine Qy.y_val ⟨fun _ _ _ hF h w' h1 h2 => h w' h1 fun k => hF k _ (h2 k)⟩ ?_ ?_ ?_ ?_ ?_); (focus (first | exact fun _ => Only.refl _ _ | exact fun _ => Below.refl _ _ | exact fun _ => trivial)); (focus (exact fun _ => trivial)); (focus (first | rfl | decide)); (first | (focus (exact Qy.wanted_none rfl)) | (focus (exact Qg.wanted_on rfl rfl rfl))); apply Exists.intro; refine ⟨?_, ?_⟩; (focus (intro p' w' hw' hp'; exact exec_load_mid TCa (.tmp 7) rfl w2.heap.size 0 (by rfl) S _ (fun j v hj => by rw [(HALL.out _ _ hw').2.cell, Nat.zero_add]; simpa using hj) h83 rfl (by rw [infoCa, hsl]))); intro K hK; go_simp; (first | (with_reducible refine hK _ ?_) | (refine hK _ ?_)); clear hK K)
    ((with_reducible refine Qy.y_put 0 (.slice (some ⟨W9.drew.heap.size, 0, none⟩) 1 1) ⟨fun _ _ _ hF h w' h1 h2 => h w' h1 fun k => hF k _ (h2 k)⟩ ?_ ?_ ?_ ?_); (focus (exact fun _ => trivial)); (focus (first | rfl | decide)); (first | (focus (exact Qy.wanted_none rfl)) | (focus (exact Qg.wanted_on rfl rfl rfl))); refine ⟨?_, ?_⟩; (focus (intro w' hw' hp'; obtain rfl : w' = W9.drew := hw'; exact ⟨W9.drew.alloc (.cells S.toArray TCa), exec_slice_one (.tmp 33) rfl S.toArray (by rfl) Try.underlying77 infoCa3 (by decide) (by decide) (by simpa using hsl) _, trivial, rfl⟩)); intro K hK; go_simp; (first | (with_reducible refine hK _ ?_) | (refine hK _ ?_)); clear hK K)
    ((with_reducible refine Qy.y_put 1 (.slice A3 n3 c3) ⟨fun _ _ _ hF h w' h1 h2 => h w' h1 fun k => hF k _ (h2 k)⟩ ?_ ?_ ?_ ?_); (focus (exact fun _ => trivial)); (focus (first | rfl | decide)); (first | (focus (exact Qy.wanted_none rfl)) | (focus (exact Qg.wanted_on rfl rfl rfl))); refine ⟨?_, ?_⟩; (focus (intro w' hw' hp'; obtain rfl : w' = W9.drew.alloc (.cells S.toArray TCa) := hw'; exact ⟨W2, exec_append (.tmp 32) (.tmp 34) rfl (by rfl) (by rfl) hrun', trivial, rfl⟩)); intro K hK; go_simp; (first | (with_reducible refine hK _ ?_) | (refine hK _ ?_)); clear hK K)
    ((with_reducible refine Qy.y_nil ?_); intro w' hw' hf')
    obtain ⟨Wf, hWf⟩ : ∃ Wf, w' = Wf ∧ Wf = W2 := ⟨w', rfl, hw'⟩
    obtain ⟨rfl, hWf2⟩ := hWf
    have HT2 : Aside0 (Blk w' t TTr (trayC (.slice Ak V1.kept.length ck) (.slice Ac m cc) V1)) := ⟨by rw [hWf2]; exact hT2⟩
    have HRf : Aside0 (kCa.R TCa w' 0 P (.slice A3 n3 c3) (V1.cache ++ [(at_, padB bs)])) := ⟨by rw [hWf2]; exact HR3.out⟩
    have hOf : OnlyP P w w' := by
      rw [hWf2]
      exact ((HO.out.step b9).drew).grown hg3' (fun k hk => .inl (flat_lt hC k (by rw [hm]; exact hk)).2)
    have HOF := Aside0.mk hOf
    have HKf : Aside0 (kSe.R TSe w' 0 P (.slice Ak V1.kept.length ck) V1.kept) := ⟨by
      rw [hWf2]
      refine flat_move (Kd.R_below hK b9) fun k hk => ?_
      have hk1 := flat_lt hK k hk
      have hne2 : some k ≠ (Value.slice Ac m cc).ownBlock := fun e => by
        obtain ⟨cells, hcell⟩ := own_typedR hK k hk
        exact Kd.R_ne hC hcell.out (by decide) (by rw [hm]; exact e)
      exact hg3'.block k (Nat.lt_of_lt_of_le hk1.1 b9.size) hne2⟩
    have f0 := HT2.out.cell 1
    have f1 := HT2.out.frozen 1
    have fl := HT2.out.lt
    clear hw' hf' hWf2 hT2 hE2 hg3' hOf
    go_wp2
    go_ret
    refine ⟨rfl, ⟨.slice Ak V1.kept.length ck, .slice A3 n3 c3, HT2.out.set 1 _, ?_, ?_, hPt⟩, HOF.out.setCell (.inl hPt) _⟩
    · exact flat_move HKf.out fun k hk => Below.heap_setCell _ _ _ k (fun e => Kd.R_ne HKf.out HT2.out.out (by decide) (by rw [hk, e]))
    · exact flat_move HRf.out fun k hk => Below.heap_setCell _ _ _ k (fun e => Kd.R_ne HRf.out HT2.out.out (by decide) (by rw [hk, e]))
end Go.Proofs.Ytddhngalokmdoaa.Spo

/- A spool in memory: Room, on, right; the piece of a sector (read). -/
namespace Go.Proofs.Ytddhngalokmdoaa.Spo
open Go.RowKit Go.Proofs.YtddhngalokmdoaaW.PrintWords Go.Proofs.YtddhngalokmdoaaW.PrintLast Go.Proofs.YtddhngalokmdoaaW.PrintMore Go.Proofs.Ytddhngalokmdoaa.Arr Go.Proofs.Ytddhngalokmdoaa.PSpoolPlays
set_option linter.unusedVariables false
set_option linter.unusedSimpArgs false

structure SpoolV where
  first : Int
  count : Int
  epoch : Int
  head : Int
  tail : Int
  dead : Bool
abbrev TSp : TypeId := 88
abbrev TPi : TypeId := 94
abbrev TRi : TypeId := 44
abbrev spoolC (t : Nat) (S : SpoolV) : Array Value := #[.int .i64 S.first, .int .i64 S.count, ptrT t, .int .i64 S.epoch, .int .i64 S.head, .int .i64 S.tail, .bool S.dead]
abbrev pieceC (p : PieceV) (A : Option Addr) (c : Nat) : Array Value := #[.int .i64 p.epoch, .int .i64 p.number, .int .i64 p.at_, .int .i64 p.of, .slice A p.b.length c]
/-- A spool's numbers. -/
structure Fit (S : SpoolV) : Prop where mk ::
  first : 0 ≤ S.first ∧ S.first ≤ 4096
  count : 2 ≤ S.count ∧ S.count ≤ 4096
  epoch : 1 ≤ S.epoch ∧ S.epoch ≤ 4294967295
  head : 0 ≤ S.head ∧ S.head ≤ S.tail
  tail : S.tail ≤ 140737488355328 ∧ S.tail - S.head ≤ S.count
def roomV (S : SpoolV) : Int := S.count - (S.tail - S.head)
def onV (S : SpoolV) (n : Int) : Int := S.first + n % S.count
set_option maxHeartbeats 4000000 in
theorem room_calls (s t : Nat) (S : SpoolV) (w : World) (hF : Fit S) (H : Blk w s TSp (spoolC t S)) :
    Calls Try.prog 21 #[ptrT s] w fun e w' => e = .returned (.int .i64 (roomV S)) ∧ Below w.heap.size w w' := by
  obtain ⟨⟨f0, f1⟩, ⟨g0, g1⟩, -, ⟨h0, h1⟩, h2, h3⟩ := hF
  have w1 : IntKind.i64.wrap (S.tail - S.head) = S.tail - S.head := IntWalk.i64_in _ (by omega)
  have w2 : IntKind.i64.wrap (S.count - (S.tail - S.head)) = S.count - (S.tail - S.head) := IntWalk.i64_in _ (by omega)
  have HB := Aside0.mk H
  unfold roomV
  clear f0 f1 g0 g1 h0 h1 h2 h3 H
  go_enter Try.func21, Try.ntmps21
  go_wp2_with fail
  refine Qt.wp_region_all (fun w' => Below w.heap.size w w') (by kernel_rfl) (by kernel_rfl) (Below.refl _ _).drew ?_
  iterate 16 ((first | (with_reducible refine Qt.q_val' rfl ?_) | ((with_reducible refine Qg.on_val' ?_); apply Exists.intro; apply Exists.intro; apply Exists.intro; refine ⟨?_, ?_, ?_, ?_⟩; (focus rfl); (focus rfl); (focus rfl))); apply Exists.intro; refine ⟨?_, ?_⟩; (focus (intro w' hw'; have hEw := HB.out.below hw'; have e1 := hEw.cell 1; have e4 := hEw.cell 4; have e5 := hEw.cell 5; have el := hEw.lt; go_simp; (first | done | (with_reducible rfl)))); intro K hK; go_simp; (first | (with_reducible refine hK _ ?_) | (refine hK _ ?_)); clear hK K)
  (refine wpQuiet_nil ?_; intro w' hw')
  go_wp2
  go_ret
  exact ⟨rfl, hw'⟩
set_option maxHeartbeats 4000000 in
theorem on_calls (a b n : Int) (w : World) (hn : 0 ≤ n) (hn2 : n ≤ 140737488355328) (ha : 0 ≤ a ∧ a ≤ 4096) (hb : 2 ≤ b ∧ b ≤ 4096) :
    Calls Try.prog 41 #[.agg #[.int .i64 a, .int .i64 b], .int .i64 n] w fun e w' => e = .returned (.int .i64 (a + n % b)) ∧ Below w.heap.size w w' := by
  have h1 := Int.emod_nonneg n (show b ≠ 0 by omega)
  have h2 := Int.emod_lt_of_pos n (show 0 < b by omega)
  have z0 : (b == 0) = false := by simp; omega
  have z1 : (b = 0) = False := eq_false (by omega)
  have z2 : decide (b = 0) = false := decide_eq_false (by omega)
  have z3 : n.tmod b = n % b := Int.tmod_eq_emod_of_nonneg hn
  have w1 : IntKind.i64.wrap (n % b) = n % b := IntWalk.i64_in _ (by omega)
  have w2 : IntKind.i64.wrap (a + n % b) = a + n % b := IntWalk.i64_in _ (by omega)
  clear h1 h2 hn hn2 ha hb
  go_enter Try.func41, Try.ntmps41
  go_wp2_with fail
  obtain ⟨W9, hW9⟩ : ∃ W9, w.alloc (.cells #[.int .i64 a, .int .i64 b] TRi) = W9 := ⟨_, rfl⟩
  have hE : Blk W9 w.heap.size TRi #[.int .i64 a, .int .i64 b] := by rw [← hW9]; exact Blk.new _ _ _
  have HB := Aside0.mk hE
  have HO := Aside0.mk (by rw [← hW9]; exact (Below.refl _ _).alloc (Nat.le_refl _) _ : Below w.heap.size w W9)
  rw [hW9]
  refine Qt.wp_region_all (fun w' => Below W9.heap.size W9 w') (by kernel_rfl) (by kernel_rfl) (Below.refl _ _).drew ?_
  iterate 8 ((first | (with_reducible refine Qt.q_val' rfl ?_) | ((with_reducible refine Qg.on_val' ?_); apply Exists.intro; apply Exists.intro; apply Exists.intro; refine ⟨?_, ?_, ?_, ?_⟩; (focus rfl); (focus rfl); (focus rfl))); apply Exists.intro; refine ⟨?_, ?_⟩; (focus (intro w' hw'; have hEw := HB.out.below hw'; have e0 := hEw.cell 0; have e1 := hEw.cell 1; have el := hEw.lt; go_simp; (first | done | (with_reducible rfl)))); intro K hK; go_simp; (first | (with_reducible refine hK _ ?_) | (refine hK _ ?_)); clear hK K)
  (refine wpQuiet_nil ?_; intro w' hw')
  go_wp2
  go_ret
  exact ⟨rfl, HO.out.trans (hw'.mono HO.out.size)⟩
end Go.Proofs.Ytddhngalokmdoaa.Spo
