/- Texts of this claim, merged: Dt2, Dt3. -/
import Derived.Test.YtddhngalokmdoaaMgFinds2
namespace Go.Proofs.Ytddhngalokmdoaa.Spo
open Go.RowKit Go.Proofs.YtddhngalokmdoaaW.PrintWords Go.Proofs.YtddhngalokmdoaaW.PrintLast Go.Proofs.YtddhngalokmdoaaW.PrintMore Go.Proofs.Ytddhngalokmdoaa.Arr Go.Proofs.Ytddhngalokmdoaa.PSpoolPlays
set_option linter.unusedVariables false
set_option linter.unusedSimpArgs false

theorem infoDw : (Try.prog.info? TDw).map (·.size) = some 129 := by kernel_rfl
theorem infoDw3 : (Try.prog.info? TDw).map (fun i => (i.zero, i.size, i.bytes)) = some (some (.agg zCa.toArray), 129, 136) := by kernel_rfl
theorem DocT.hasV {n : Nat} {V : TrayV} {at_ : Int} (hn : V.kept.length = n) : Spo.hasV V at_ = (decide (0 ≤ at_) && decide (at_ < (n : Int))) := by subst hn; rfl
def fillW (bs : List Int) (j : Nat) : List Int := bs.take j ++ zs (128 - j)
theorem fillW_length {bs : List Int} {j : Nat} (h : bs.length ≤ 128) (hj : j ≤ bs.length) : (fillW bs j).length = 128 := by
  unfold fillW zs
  rw [List.length_append, List.length_take, List.length_replicate]
  omega
theorem fillW_set {bs : List Int} {j : Nat} (h : bs.length ≤ 128) (hj : j < bs.length) : (fillW bs j).set j (bs.getD j 0) = fillW bs (j + 1) := by
  unfold fillW
  rw [set_end _ j _ _ (by rw [List.length_take]; omega) (by omega), List.take_add_one, List.getElem?_eq_getElem hj, List.getD, List.getElem?_eq_getElem hj]
  simp only [Option.toList_some, Option.getD_some]
  rw [show 128 - j - 1 = 128 - (j + 1) by omega]
theorem fillW_end {bs : List Int} : fillW bs bs.length = padB bs := by unfold fillW padB zs; rw [List.take_length]
theorem stampC_get (x : Int) (l : List Int) (j : Nat) (h : j < l.length) : (stampC (x, l)).toArray[1 + j]? = some (.int .u8 (l.getD j 0)) := by
  simp [stampC, nums, Nat.add_comm 1 j, h]
theorem stampC_set (x : Int) (l : List Int) (j : Nat) (v : Int) : (stampC (x, l)).toArray.setIfInBounds (1 + j) (.int .u8 v) = (stampC (x, l.set j v)).toArray := by
  apply Array.ext'
  simp [stampC, nums, Nat.add_comm 1 j, List.map_set]
theorem build_stamp (at_ : Int) : ∀ w, (Instr.build TDw #[(0, .int .i64 at_)]).run Try.prog w = .ok (.agg (stampC (at_, zB)).toArray) w := fun w => by kernel_rfl
theorem zeroDw : ∀ w, (zeroValue TDw).run Try.prog w = .ok (.agg zCa.toArray) w := fun w => by kernel_rfl
/-! ### what the operations of a drawn region make -/
def RLit (B : Nat) (u : Value) (w : World) : Prop := ∃ g, u = .slice (some ⟨g, 0, none⟩) 0 0 ∧ B ≤ g ∧ Blk w g TDw #[]
def RRow (B : Nat) (ys : List (Int × List Int)) (u : Value) (w : World) : Prop := kDw.R TDw w B (fun _ => True) u ys
def ROne (B : Nat) (s : List Value) (u : Value) (w : World) : Prop := ∃ g, u = .slice (some ⟨g, 0, none⟩) 1 1 ∧ B ≤ g ∧ Blk w g TDw s.toArray
def RNew (B : Nat) (T : TypeId) (cs : Array Value) (u : Value) (w : World) : Prop := ∃ g, u = .pointer (some ⟨g, 0, none⟩) ∧ B ≤ g ∧ Blk w g T cs
theorem rlit_stb {B : Nat} (u : Value) : Qw.Stb (RLit B u) := fun w w' ⟨g, h1, h2, h3⟩ hb => ⟨g, h1, h2, h3.below hb⟩
theorem rrow_stb {B : Nat} {ys : List (Int × List Int)} (u : Value) : Qw.Stb (RRow B ys u) := fun w w' h hb => Kd.R_below h hb
theorem rone_stb {B : Nat} {s : List Value} (u : Value) : Qw.Stb (ROne B s u) := fun w w' ⟨g, h1, h2, h3⟩ hb => ⟨g, h1, h2, h3.below hb⟩
theorem rnew_stb {B : Nat} {T : TypeId} {cs : Array Value} (u : Value) : Qw.Stb (RNew B T cs u) := fun w w' ⟨g, h1, h2, h3⟩ hb => ⟨g, h1, h2, h3.below hb⟩
theorem run_lit {o : Oper} {a : Act} {w : World} {B : Nat} (ho : o.op = .buildSlice 32 0 #[]) (hB : B ≤ w.heap.size) : ∃ u w', (execOp a.eval o).run Try.prog w = .ok (.value u) w' ∧ Below w.heap.size w w' ∧ RLit B u w' := by
  refine ⟨.slice (some ⟨w.heap.size, 0, none⟩) 0 0, w.alloc (.cells #[] TDw), ?_, (Below.refl _ _).alloc (Nat.le_refl _) _, w.heap.size, rfl, hB, Blk.new _ _ _⟩
  have h : (Instr.buildSlice 32 0 #[]).run Try.prog w = .ok (.slice (some ⟨w.heap.size, 0, none⟩) 0 0) (w.alloc (.cells #[] TDw)) := by
    obtain ⟨ie, hie, h1⟩ := Option.map_eq_some_iff.1 infoDw3
    simp only [Prod.mk.injEq] at h1
    obtain ⟨h1, h2, h3⟩ := h1
    simp [Instr.buildSlice, run_underlying Try.underlying32, sizeOf, typeInfo, zeroValue, hie, h1, newRow, Instr.fill, (by decide : Array.range 0 = #[])]
  unfold execOp
  simp only [ho, Array.map_empty, Sem.run_bind, h, Result.andThen_ok, Sem.run_pure]
theorem run_clone {o : Oper} {a : Act} {w : World} {B : Nat} (s x : Operand) (ho : o.op = .call { callee := .builtin .append, args := #[s, x], argTypes := #[32, 32] }) (hty : o.type = 32) {v : Value} (hs : a.eval s = v) {A : Option Addr} {m c : Nat} (hx : a.eval x = .slice A m c)
    {ys : List (Int × List Int)} (hv : RLit B v w) (hy : kDw.R TDw w 0 (fun _ => True) (.slice A m c) ys) (hB : B ≤ w.heap.size) (hl : ys.length ≤ 1000000000) : ∃ u w', (execOp a.eval o).run Try.prog w = .ok (.value u) w' ∧ Below w.heap.size w w' ∧ RRow B ys u w' := by
  obtain ⟨g, rfl, hg, hb⟩ := hv
  obtain ⟨v1, w1, h1, h2, h3⟩ := flat_clone (P := Try.prog) (base := B) (t := 32) 32 Try.underlying32 infoDw3 (by rw [show (Value.agg zCa.toArray).cells = zCa.toArray from rfl, zCa_len]) (by decide) (by decide) hb hg hy hB (by omega)
  exact ⟨v1, w1, exec_append s x ho hs hx (by rw [hty]; exact h1), h3, h2⟩
theorem run_one {o : Oper} {a : Act} {w : World} {B : Nat} (x : Operand) (ho : o.op = .buildSlice 32 1 #[(0, x)]) (s : List Value) (hx : a.eval x = .agg s.toArray) (hs : s.toArray.size = 129) (hB : B ≤ w.heap.size) : ∃ u w', (execOp a.eval o).run Try.prog w = .ok (.value u) w' ∧ Below w.heap.size w w' ∧ ROne B s u w' :=
  ⟨_, _, exec_slice_one x ho s.toArray hx Try.underlying32 infoDw3 (by decide) (by decide) hs w, (Below.refl _ _).alloc (Nat.le_refl _) _, w.heap.size, rfl, hB, Blk.new _ _ _⟩
theorem one_row {w : World} {g : Nat} {T : TypeId} {x : Int × List Int} (h : Blk w g T (stampC x).toArray) (hx : x.2.length = 128) : Kd.C kDw w (some ⟨g, 0, none⟩) 1 [x] := by
  refine ⟨rfl, by omega, fun _ => ⟨_, rfl, fun j p hj => ?_⟩⟩
  have hj0 : j = 0 := by
    have := (List.getElem?_eq_some_iff.1 hj).1
    simpa using this
  subst hj0
  obtain rfl : x = p := by simpa using hj
  refine ⟨stampC x, stampC_length hx, ⟨rfl, stampC_length hx⟩, fun i u hi => ?_⟩
  rw [Nat.zero_mul, Nat.zero_add, add_plain, h.cell]
  simpa using hi
theorem exec_load_stamp {o : Oper} {a : Act} {w : World} (x : Operand) (ho : o.op = .load TDw x) (g : Nat) (hx : a.eval x = .pointer (some ⟨g, 0, none⟩)) {U : TypeId} (s : List Value) (hb : Blk w g U s.toArray) (hl : s.length = 129) :
    (execOp a.eval o).run Try.prog w = .ok (.value (.agg s.toArray)) w :=
  exec_load_mid TDw x ho g 0 hx s _ (fun j v hj => by rw [Nat.zero_add, hb.cell]; simpa using hj) Try.underlying86 rfl (by rw [hl]; exact infoDw)
set_option maxHeartbeats 16000000 in
set_option maxRecDepth 100000 in
theorem dputT_calls (nk : Nat) (K C : Value) (V : TrayV) (m : Nat) (w : World) (H : DocT w K C V m) (hk : V.kept.length = nk) (hl : V.left ≤ 9223372036854775807) (hm : m ≤ 900000000) (at_ : Int) (bs : List Int) (A : Option Addr) (n c : Nat) (hlen : bs.length = n) (hr : ReadsInt w .u8 A n bs) :
    Calls Try.prog 15 #[.agg (docC nk K C V.left V.dark), .int .i64 at_, .slice A n c] w fun e w' => ∃ K' C', e = .returned (.tuple #[.agg (docC nk K' C' (writeV V at_ bs).1.left (writeV V at_ bs).1.dark), .int .i64 (writeV V at_ bs).2]) ∧ DocT w' K' C' (writeV V at_ bs).1 (m + 1) ∧ Below w.heap.size w w' := by
  obtain ⟨A1, A2, n1, n2, c1, c2, rfl, rfl, -⟩ := H.form
  have hv := DocT.hasV (at_ := at_) hk
  have HH := Aside0.mk H
  have HR := Aside0.mk (⟨hr, hlen⟩ : _ ∧ _)
  by_cases hbad : hasV V at_ = false ∨ 128 < bs.length
  · have hwr : writeV V at_ bs = (V, 1) := by unfold writeV; rw [if_pos hbad]
    rw [hwr]
    by_cases h0 : at_ < 0
    · have t1 : decide (at_ < 0) = true := decide_eq_true h0
      clear hbad hv hwr h0 hr H
      go_enter Try.func15, Try.ntmps15
      go_wp2
      exact bodyPost_ret (results_ct rfl _ _ _ _ _ _ rfl rfl infoDt Try.underlying34 rfl (Blk.newAt (by simp)) rfl) rfl ⟨_, _, rfl, (HH.out.below (below_alloc (below_alloc (Below.refl _ _) _) _)).up (by omega), below_alloc (below_alloc (Below.refl _ _) _) _⟩
    have t1 : decide (at_ < 0) = false := decide_eq_false h0
    by_cases h1 : at_ ≥ (nk : Int)
    · have t2 : decide (at_ ≥ (nk : Int)) = true := decide_eq_true h1
      clear hbad hv hwr h0 h1 hr H
      go_enter Try.func15, Try.ntmps15
      go_wp2
      exact bodyPost_ret (results_ct rfl _ _ _ _ _ _ rfl rfl infoDt Try.underlying34 rfl (Blk.newAt (by simp)) rfl) rfl ⟨_, _, rfl, (HH.out.below (below_alloc (below_alloc (Below.refl _ _) _) _)).up (by omega), below_alloc (below_alloc (Below.refl _ _) _) _⟩
    have t2 : decide (at_ ≥ (nk : Int)) = false := decide_eq_false h1
    have t3 : decide ((n : Int) > 128) = true := by
      rcases hbad with h | h
      · rw [hv, decide_eq_true (by omega), decide_eq_true (by omega)] at h
        cases h
      · exact decide_eq_true (by omega)
    clear hbad hv hwr h0 h1 hr H
    go_enter Try.func15, Try.ntmps15
    go_wp2
    exact bodyPost_ret (results_ct rfl _ _ _ _ _ _ rfl rfl infoDt Try.underlying34 rfl (Blk.newAt (by simp)) rfl) rfl ⟨_, _, rfl, (HH.out.below (below_alloc (below_alloc (Below.refl _ _) _) _)).up (by omega), below_alloc (below_alloc (Below.refl _ _) _) _⟩
  have hbad' : hasV V at_ = true ∧ bs.length ≤ 128 := ⟨by cases h : hasV V at_ with | true => rfl | false => exact absurd (.inl h) hbad, by omega⟩
  have hwr : writeV V at_ bs = if (stepV V).2 = true then ({ (stepV V).1 with cache := V.cache ++ [(at_, padB bs)] }, 0) else ((stepV V).1, 20) := by unfold writeV; rw [if_neg hbad]
  have h0 : 0 ≤ at_ ∧ at_ < (nk : Int) := by
    have := hbad'.1
    rw [hv] at this
    simpa using this
  have t1 : decide (at_ < 0) = false := decide_eq_false (by omega)
  have t2 : decide (at_ ≥ (nk : Int)) = false := decide_eq_false (by omega)
  have t3 : decide ((n : Int) > 128) = false := decide_eq_false (by omega)
  have KS := Aside0.mk (fun w' (hb : Below w.heap.size w w') => dstep_calls nk _ _ V m w' (H.below hb) hl)
  obtain ⟨hs1, hs2⟩ := step_kept V
  rw [hwr]
  obtain ⟨b, hb⟩ : ∃ b, (stepV V).2 = b := ⟨_, rfl⟩
  obtain ⟨V1, hV1⟩ : ∃ V1, (stepV V).1 = V1 := ⟨_, rfl⟩
  rw [hb, hV1] at KS
  rw [hV1] at hs1 hs2
  rw [hb, hV1]
  have H1 := Aside0.mk (H.like (V' := V1) hs1 hs2)
  have HN := Aside0.mk (⟨h0, hbad'.2, hs1, hs2, hk, hm⟩ : _ ∧ _ ∧ _ ∧ _ ∧ _ ∧ _)
  clear hbad hbad' hwr h0 hs1 hs2 hb hV1 H hr hv hk hm hl HH
  obtain ⟨D, hD⟩ : ∃ D, docC nk (.slice A1 n1 c1) (.slice A2 n2 c2) V1.left V1.dark = D := ⟨_, rfl⟩
  obtain ⟨Z, hZ⟩ : ∃ Z, docC 0 (.slice none 0 0) (.slice none 0 0) 0 false = Z := ⟨_, rfl⟩
  have HD := Aside0.mk (⟨hD, by rw [← hD]; rfl, by rw [← hD]; simp [docC, Value.oneCell']⟩ : _ ∧ D.size = 5 ∧ D.all (·.oneCell') = true)
  have HZ := Aside0.mk (⟨hZ, by rw [← hZ]; rfl⟩ : _ ∧ Z.size = 5)
  rw [hD] at KS
  clear hD hZ
  cases b with
  | false =>
    rw [if_neg (by decide)]
    go_enter Try.func15, Try.ntmps15
    go_wp2_with fail
    refine (KS.out _ (below_alloc (below_alloc (Below.refl _ _) _) _)).mono ?_
    rintro e w1 ⟨rfl, b1⟩
    have P1 := Aside0.mk (((Blk.newAt rfl).alloc _).below b1 : Blk w1 w.heap.size TDt (docC nk (.slice A1 n1 c1) (.slice A2 n2 c2) V.left V.dark))
    have R1 := Aside0.mk ((Blk.newAt (by simp)).below b1 : Blk w1 (w.heap.size + 1) TDt (docC 0 (.slice none 0 0) (.slice none 0 0) 0 false))
    have L1 := Aside0.mk ((below_alloc (below_alloc (Below.refl _ _) _) _).trans (b1.mono (by simp; omega)) : Below w.heap.size w w1)
    clear b1 KS
    go_wp2_with (first
      | (with_reducible refine wpList_store_blk rfl TDt (.tmp 3) _ rfl _ _ rfl rfl infoDt HD.out.2.1 HD.out.2.2 P1.out rfl ?_)
      | (with_reducible refine wpList_load_blk rfl TDt (.tmp 3) rfl _ _ _ rfl Try.underlying34 rfl infoDt (P1.out.row _) HD.out.2.1 ?_)
      | (with_reducible refine wpList_store_blk rfl TDt (.tmp 6) _ rfl _ _ rfl rfl infoDt HD.out.2.1 HD.out.2.2 (R1.out.rowFar (by omega) _) rfl ?_))
    have bl := below_setRow (g := w.heap.size + 1) (below_setRow (g := w.heap.size) L1.out (Nat.le_refl _) D) (by omega) D
    exact bodyPost_ret (results_ct rfl _ _ _ _ _ _ rfl rfl infoDt Try.underlying34 rfl ((R1.out.rowFar (by omega) _).row D) HD.out.2.1) rfl ⟨_, _, by rw [← HD.out.1]; rfl, (H1.out.below bl).up (by omega), bl⟩
  | true =>
    rw [if_pos rfl]
    have hbst := build_stamp at_
    have hzw := zeroDw
    have hzl : (stampC (at_, zB)).toArray.size = 129 := by simp [stampC, nums, zB]
    have hone := stamp_one (at_, zB)
    go_enter Try.func15, Try.ntmps15
    go_wp2_with fail
    refine (KS.out _ (below_alloc (below_alloc (Below.refl _ _) _) _)).mono ?_
    rintro e w1 ⟨rfl, b1⟩
    have P1 := Aside0.mk (((Blk.newAt rfl).alloc _).below b1 : Blk w1 w.heap.size TDt (docC nk (.slice A1 n1 c1) (.slice A2 n2 c2) V.left V.dark))
    have R1 := Aside0.mk ((Blk.newAt (by simp)).below b1 : Blk w1 (w.heap.size + 1) TDt (docC 0 (.slice none 0 0) (.slice none 0 0) 0 false))
    rw [HZ.out.1] at R1
    have L1 := Aside0.mk ((below_alloc (below_alloc (Below.refl _ _) _) _).trans (b1.mono (by simp; omega)) : Below w.heap.size w w1)
    clear b1 KS
    obtain ⟨W2, hW2⟩ : ∃ W2, w1.setRow w.heap.size D = W2 := ⟨_, rfl⟩
    have HW2 := Aside0.mk hW2
    have P2 := Aside0.mk (by rw [← hW2]; exact P1.out.row _ : Blk W2 w.heap.size TDt D)
    have R2 := Aside0.mk (by rw [← hW2]; exact R1.out.rowFar (by omega) _ : Blk W2 (w.heap.size + 1) TDt Z)
    have L2 := Aside0.mk (by rw [← hW2]; exact below_setRow L1.out (Nat.le_refl _) _ : Below w.heap.size w W2)
    obtain ⟨g, hg⟩ : ∃ g, W2.heap.size = g := ⟨_, rfl⟩
    have hlt2 := R2.out.lt
    have HG := Aside0.mk (by omega : w.heap.size + 1 < g)
    obtain ⟨W3, hW3⟩ : ∃ W3, W2.alloc (.cells (stampC (at_, zB)).toArray TDw) = W3 := ⟨_, rfl⟩
    have HW3 := Aside0.mk hW3
    have E3 := Aside0.mk (by rw [← hW3]; exact Blk.newAt hg.symm : Blk W3 g TDw (stampC (at_, fillW bs 0)).toArray)
    have P3 := Aside0.mk (by rw [← hW3]; exact P2.out.alloc _ : Blk W3 w.heap.size TDt D)
    have R3 := Aside0.mk (by rw [← hW3]; exact R2.out.alloc _ : Blk W3 (w.heap.size + 1) TDt Z)
    have L3 := Aside0.mk (by rw [← hW3]; exact L2.out.alloc (by omega) _ : Below w.heap.size w W3)
    clear hW2 hW3 hlt2
    go_upto_region 8 with (first
      | (with_reducible refine wpList_store_blk rfl TDt (.tmp 3) _ rfl _ _ rfl rfl infoDt HD.out.2.1 HD.out.2.2 P1.out rfl ?_; rw [HW2.out])
      | (with_reducible refine wpList_build_agg rfl TDw _ rfl (stampC (at_, zB)).toArray hbst ?_)
      | (with_reducible refine wpList_alloc_agg rfl TDw _ rfl hzw ?_)
      | (with_reducible refine wpList_store_blk rfl TDw (.tmp 9) _ rfl _ _ rfl rfl infoDw hzl hone (Blk.newAt rfl) zCa_len ?_; rw [setRow_top rfl, HW3.out]))
    clear HW2 HW3 P2 R2 L2 P1 R1 L1 hg hbst hzw hzl hone
    go_loopw [10, 37] (fun v10 v37 wr => ∃ j : Nat, v37 = .int .i64 (j : Int) ∧ Aside0 (j ≤ n) ∧ Aside0 (Blk wr g TDw (stampC (at_, fillW bs j)).toArray) ∧ Aside0 (Blk wr w.heap.size TDt D) ∧ Aside0 (Blk wr (w.heap.size + 1) TDt Z) ∧ Aside0 (Below w.heap.size w wr)) (fun _ v37 _ => n - (intOf v37).toNat)
    case atStart => exact ⟨0, rfl, ⟨Nat.zero_le _⟩, E3, P3, R3, L3⟩
    case round =>
      obtain ⟨j, rfl, hj, hE, hP, hR, hbl⟩ := hrel
      have hn := HN.out
      by_cases hjn : j < n
      · have u1 : decide ((j : Int) < (n : Int)) = true := decide_eq_true (by omega)
        have u1n : decide (j < n) = true := decide_eq_true hjn
        have q0 := eq_true (show (0 : Int) ≤ (j : Int) by omega)
        have q1 := eq_true (show (j : Int) < (n : Int) by omega)
        have q2 := eq_true hjn
        have r1 := eq_true (show (j : Int) < 128 by omega)
        have r2 := eq_true (show j < 128 by omega)
        obtain ⟨ad, eA, hx⟩ := (HR.out.1.below hbl.out).at_ (j : Int) (by omega) (by omega)
        cases eA
        rw [Int.toNat_natCast] at hx
        have hw2 : IntKind.i64.wrap ((j : Int) + 1) = ((j + 1 : Nat) : Int) := by rw [show ((j : Int) + 1) = ((j + 1 : Nat) : Int) by omega]; exact IntWalk.i64_in _ (by omega)
        have lj := hE.out.lt
        have fj := hE.out.frozen (1 + j)
        have cj := hE.out.cell (1 + j)
        rw [stampC_get _ _ _ (by rw [fillW_length hn.2.1 (by omega)]; omega)] at cj
        have hset := fillW_set (j := j) hn.2.1 (by omega)
        have HJ := Aside0.mk (⟨hjn, hw2, hset⟩ : _ ∧ _ ∧ _)
        clear hn hjn hset
        go_wp2
        go_roundw
        case rel => exact ⟨j + 1, by first | rfl | rw [HJ.out.2.1], ⟨HJ.out.1⟩, ⟨by rw [← HJ.out.2.2, ← stampC_set]; exact hE.out.set _ _⟩, ⟨hP.out.far (by simp only; have := HG.out; omega) _⟩, ⟨hR.out.far (by simp only; have := HG.out; omega) _⟩, ⟨hbl.out.setCell (by simp only; have := HG.out; omega) _⟩⟩
        case measure => have := HJ.out; simp [intOf, HJ.out.2.1]; omega
      · have u1 : decide ((j : Int) < (n : Int)) = false := decide_eq_false (by omega)
        have u1n : decide (j < n) = false := decide_eq_false hjn
        obtain rfl : j = n := by have := hj.out; omega
        clear hn
        go_wp2_with fail
        have hpl := padB_length (b := bs) HN.out.2.1
        rw [← HR.out.2, fillW_end] at hE
        obtain ⟨kl, hkr, hcr, hkv, hkl, hml⟩ := H1.out.out
        have hsl : (stampC (at_, padB bs)).length = 129 := stampC_length hpl
        have hcr' := Kd.R_below hcr hbl.out
        obtain ⟨A2', c2', e2⟩ := Kd.R_slice hcr'
        cases e2
        have hcl : V1.cache.length ≤ 900000000 := by have := HN.out; omega
        have d2 : D[2]? = some (.slice A2 V1.cache.length c2) := by rw [← HD.out.1]; rfl
        obtain ⟨n2, hn2⟩ : ∃ n2, V1.cache.length = n2 := ⟨_, rfl⟩
        have HN2 := Aside0.mk hn2
        rw [hn2] at hcr' d2 hcl
        obtain ⟨Sx, hSx⟩ : ∃ Sx, stampC (at_, padB bs) = Sx := ⟨_, rfl⟩
        have HSX := Aside0.mk (⟨hSx, hpl⟩ : _ ∧ _)
        rw [hSx] at hE hsl
        have hss : Sx.toArray.size = 129 := by simpa using hsl
        have HS := Aside0.mk (⟨hsl, hss, d2, hcl⟩ : _ ∧ _ ∧ _ ∧ _)
        obtain ⟨wo, hwo⟩ : ∃ wo, wo = wr := ⟨_, rfl⟩
        subst hwo
        have HST : Qw.Stb (fun w' => Blk w' w.heap.size TDt D ∧ Blk w' g TDw Sx.toArray ∧ kDw.R TDw w' 0 (fun _ => True) (.slice A2 n2 c2) V1.cache ∧ Below wo.heap.size wo w') := fun w1 w2 h hb => ⟨h.1.below hb, h.2.1.below hb, Kd.R_below h.2.2.1 hb, h.2.2.2.trans (hb.mono h.2.2.2.size)⟩
        have HE0 : Blk wo.drew w.heap.size TDt D ∧ Blk wo.drew g TDw Sx.toArray ∧ kDw.R TDw wo.drew 0 (fun _ => True) (.slice A2 n2 c2) V1.cache ∧ Below wo.heap.size wo wo.drew := ⟨hP.out.drew, hE.out.drew, Kd.R_below hcr' (w1 := wo.drew) (Below.refl _ _).drew, (Below.refl _ _).drew⟩
        have HKR := Aside0.mk hkr
        clear hpl hsl hss d2 hcl hn2 hSx hcr hcr' hkr
        refine Qw.wp_region_tail (fun _ _ _ _ => True) _ HST 6 (by kernel_rfl) (by kernel_rfl) HE0 ?_
        clear HST HE0
        simp only [List.take_succ_cons, List.take_zero, List.drop_succ_cons, List.drop_zero]
        ((with_reducible refine Qw.w_make (RLit wo.heap.size) ?_ (Qw.wanted_none rfl) ⟨?_, ?_⟩); (focus (exact rlit_stb)); (focus (intro w' hw' hp'; exact run_lit rfl hw'.2.2.2.size)); rintro u0 ⟨wv0, -, -, g0, rfl, -, -⟩; intro K hK; go_simp; (first | (with_reducible refine hK _ ?_) | (refine hK _ ?_)); clear hK K)
        clear wv0
        ((first | (with_reducible refine Qw.w_val ⟨fun _ _ _ hF h w' h1 h2 => h w' h1 fun k => hF k _ (h2 k)⟩ ?_ (Qw.wanted_none rfl) ?_) | ((with_reducible refine Qw.w_val ⟨fun _ _ _ hF h w' h1 h2 => h w' h1 fun k => hF k _ (h2 k)⟩ ?_ ?_ ?_); (focus (exact fun _ => trivial)); (focus (exact Qg.wanted_on rfl rfl rfl)))); (try (focus (exact fun _ => trivial))); apply Exists.intro; refine ⟨?_, ?_⟩; (focus (intro w' hw' hp'; skip; go_simp; (first | done | (with_reducible rfl)))); intro K hK; go_simp; (first | (with_reducible refine hK _ ?_) | (refine hK _ ?_)); clear hK K)
        ((first | (with_reducible refine Qw.w_val ⟨fun _ _ _ hF h w' h1 h2 => h w' h1 fun k => hF k _ (h2 k)⟩ ?_ (Qw.wanted_none rfl) ?_) | ((with_reducible refine Qw.w_val ⟨fun _ _ _ hF h w' h1 h2 => h w' h1 fun k => hF k _ (h2 k)⟩ ?_ ?_ ?_); (focus (exact fun _ => trivial)); (focus (exact Qg.wanted_on rfl rfl rfl)))); (try (focus (exact fun _ => trivial))); apply Exists.intro; refine ⟨?_, ?_⟩; (focus (intro w' hw' hp'; have d2 := hw'.1.cell 2; rw [HS.out.2.2.1] at d2; have dl := hw'.1.lt; go_simp; (first | done | (with_reducible rfl)))); intro K hK; go_simp; (first | (with_reducible refine hK _ ?_) | (refine hK _ ?_)); clear hK K)
        ((with_reducible refine Qw.w_make (RRow wo.heap.size V1.cache) ?_ (Qw.wanted_none rfl) ⟨?_, ?_⟩); (focus (exact rrow_stb)); (focus (intro w' hw' hp'; have f0 : RLit wo.heap.size (.slice (some ⟨g0, 0, none⟩) 0 0) w' := Qw.fact hp' 0 rfl; exact run_clone (.tmp 48) (.tmp 50) rfl rfl rfl rfl f0 hw'.2.2.1 hw'.2.2.2.size (by rw [HN2.out]; have := HS.out; omega))); rintro u3 ⟨wv3, -, -, hu3⟩; intro K hK; go_simp; (first | (with_reducible refine hK _ ?_) | (refine hK _ ?_)); clear hK K)
        obtain ⟨A3, c3, e3⟩ := Kd.R_slice (show kDw.R TDw wv3 wo.heap.size (fun _ => True) u3 V1.cache from hu3)
        rw [HN2.out] at e3
        subst e3
        clear hu3 wv3
        ((first | (with_reducible refine Qw.w_val ⟨fun _ _ _ hF h w' h1 h2 => h w' h1 fun k => hF k _ (h2 k)⟩ ?_ (Qw.wanted_none rfl) ?_) | ((with_reducible refine Qw.w_val ⟨fun _ _ _ hF h w' h1 h2 => h w' h1 fun k => hF k _ (h2 k)⟩ ?_ ?_ ?_); (focus (exact fun _ => trivial)); (focus (exact Qg.wanted_on rfl rfl rfl)))); (try (focus (exact fun _ => trivial))); apply Exists.intro; refine ⟨?_, ?_⟩; (focus (intro w' hw' hp'; exact exec_load_stamp _ rfl g rfl Sx hw'.2.1 HS.out.1)); intro K hK; go_simp; (first | (with_reducible refine hK _ ?_) | (refine hK _ ?_)); clear hK K)
        ((with_reducible refine Qw.w_make (ROne wo.heap.size Sx) ?_ (Qw.wanted_none rfl) ⟨?_, ?_⟩); (focus (exact rone_stb)); (focus (intro w' hw' hp'; exact run_one _ rfl Sx rfl HS.out.2.1 hw'.2.2.2.size)); rintro u5 ⟨wv5, -, -, g5, rfl, -, -⟩; intro K hK; go_simp; (first | (with_reducible refine hK _ ?_) | (refine hK _ ?_)); clear hK K)
        clear wv5
        ((with_reducible refine Qw.w_nil ?_); intro w' hw' hf')
        have hu3 : kDw.R TDw w' wo.heap.size (fun _ => True) (.slice A3 n2 c3) V1.cache := hf' 3
        obtain ⟨g5', e5, -, hG5⟩ : ROne wo.heap.size Sx (.slice (some ⟨g5, 0, none⟩) 1 1) w' := hf' 5
        obtain rfl : g5 = g5' := by injection e5 with e5; injection e5 with e5; injection e5
        rw [← HSX.out.1] at hG5
        have hone := one_row hG5 HSX.out.2
        have hbel := hw'.2.2.2
        have HW := Aside0.mk hw'
        have HKL := Aside0.mk (⟨hkv, hkl, hml⟩ : _ ∧ _ ∧ _)
        clear hf' hw' hG5 hkv hkl hml e5
        have tok1 : True := trivial
        go_upto_region 13 with (at_builtin; have _t := tok1; go_must (refine Kd.R_append_rows kDw (w0 := wo) wo.heap.size rfl _ _ 32 TDw (.agg zCa.toArray) 136 rfl Try.underlying32 infoDw3 (by rw [show (Value.agg zCa.toArray).cells = zCa.toArray from rfl, zCa_len]; rfl) (by decide) (by decide) (.slice A3 n2 c3) V1.cache [(at_, padB bs)] (some ⟨g5, 0, none⟩) 1 1 (fun _ => True) (fun _ => False) rfl rfl hu3 hone (fun x cs h => h) (fun k h => h.elim) (fun _ _ => trivial) hbel hbel.size (by rw [HN2.out]; have := HS.out; omega) ?_); intro v6 w6 hv6 hb6 hg6 hat6; obtain ⟨A6, c6, e6⟩ := Kd.R_slice hv6; rw [List.length_append, HN2.out] at e6; subst e6; have hd6 := hP.out.below hb6; have D6 := Aside0.mk hd6; have R6 := Aside0.mk (hR.out.below hb6); have V6 := Aside0.mk hv6; have B6 := Aside0.mk hb6; have x2 := hd6.cell 2; rw [HS.out.2.2.1] at x2; have f2 := hd6.frozen 2; have l2 := hd6.lt; clear _t tok1 hu3 hone hbel hat6 hg6 hv6 hb6 hd6)
        obtain ⟨W7, hW7⟩ : ∃ W7, w6.setCell ⟨w.heap.size, 2, none⟩ (.slice A6 (n2 + 1) c6) = W7 := ⟨_, rfl⟩
        have D7 := Aside0.mk (by rw [← hW7]; have := D6.out.set 2 (.slice A6 (n2 + 1) c6); rw [← HD.out.1] at this; exact this : Blk W7 w.heap.size TDt (docC nk (.slice A1 n1 c1) (.slice A6 (n2 + 1) c6) V1.left V1.dark))
        have R7 := Aside0.mk (by rw [← hW7]; exact R6.out.far (by simp only; omega) _ : Blk W7 (w.heap.size + 1) TDt Z)
        have b67 : Below w6.heap.size w6 W7 ∨ True := .inr trivial
        have hwolt := HG.out
        have hL6 := hbl.out.trans (B6.out.mono hbl.out.size)
        have L7 := Aside0.mk (by rw [← hW7]; exact hL6.setCell (Nat.le_refl _) _ : Below w.heap.size w W7)
        have hown : ∀ k, (Value.slice A6 (n2 + 1) c6).ownBlock = some k → w.heap.size ≠ k := fun k hk e => by
          obtain ⟨cells, hcc⟩ := own_typedR V6.out k hk
          exact absurd rfl (hcc.ne (e ▸ D6.out) (by decide))
        have V7 := Aside0.mk (by rw [← hW7]; exact flat_move V6.out (fun k hk => Below.heap_setCell w6 _ _ k (fun e => hown k hk e.symm)) : kDw.R TDw W7 wo.heap.size (fun _ => True) (.slice A6 (n2 + 1) c6) (V1.cache ++ [(at_, padB bs)]))
        rw [hW7]
        have hcs : (docC nk (.slice A1 n1 c1) (.slice A6 (n2 + 1) c6) V1.left V1.dark).all (·.oneCell') = true := by simp [docC, Value.oneCell']
        obtain ⟨D', hD'⟩ : ∃ D', docC nk (.slice A1 n1 c1) (.slice A6 (n2 + 1) c6) V1.left V1.dark = D' := ⟨_, rfl⟩
        have hds : D'.size = 5 := by rw [← hD']; rfl
        rw [hD'] at D7 hcs
        clear hW7 b67 hwolt hL6 hown D6 R6 V6 B6
        go_wp2_with (first
          | (with_reducible refine wpList_load_blk rfl TDt (.tmp 3) rfl _ _ _ rfl Try.underlying34 rfl infoDt D7.out hds ?_)
          | (with_reducible refine wpList_store_blk rfl TDt (.tmp 6) _ rfl _ _ rfl rfl infoDt hds hcs R7.out HZ.out.2 ?_))
        have bl := below_setRow (g := w.heap.size + 1) L7.out (by omega) D'
        refine bodyPost_ret (results_ct rfl _ _ _ _ _ _ rfl rfl infoDt Try.underlying34 rfl (R7.out.row D') hds) rfl ⟨_, _, by rw [← hD']; rfl, ⟨kl, Kd.R_below HKR.out bl, ?_, ?_, ?_, ?_⟩, bl⟩
        · have hv := V7.out
          rw [HN.out.2.2.2.1] at hv
          refine Kd.R_lower (flat_move hv fun k hk => ?_) (Nat.zero_le _)
          obtain ⟨cells, hcc⟩ := own_typedR hv k hk
          exact setRow_other W7 _ k D' (fun e => absurd rfl (hcc.ne (e ▸ R7.out) (by decide)))
        · exact HKL.out.1
        · exact HKL.out.2.1
        · have := HKL.out.2.2
          have h1 := HN.out.2.2.2.1
          rw [h1] at this
          show kl.length + (V.cache ++ [(at_, padB bs)]).length ≤ m + 1
          rw [List.length_append]
          have : ([(at_, padB bs)] : List (Int × List Int)).length = 1 := rfl
          omega
theorem settle_append (a b : List (Int × List Int)) (k : List (List Int)) : settleV k (a ++ b) = settleV (settleV k a) b := by simp [settleV, List.foldl_append]
theorem one_doc (n : Int) (A A' : Option Addr) (n1 n2 c1 c2 : Nat) (l : Int) (d : Bool) : (docC n (.slice A n1 c1) (.slice A' n2 c2) l d).all (·.oneCell') = true := by simp [docC, Value.oneCell']
set_option maxHeartbeats 16000000 in
set_option maxRecDepth 100000 in
theorem dflush_calls (nk : Nat) (K C : Value) (V : TrayV) (m : Nat) (w : World) (H : DocT w K C V m) (hS : Sound V) (hk : V.kept.length = nk) (hl : V.left ≤ 9223372036854775807) (hm : m ≤ 900000000) :
    Calls Try.prog 46 #[.agg (docC nk K C V.left V.dark)] w fun e w' => ∃ K' C', e = .returned (.tuple #[.agg (docC nk K' C' (flushV V).1.left (flushV V).1.dark), .int .i64 (flushV V).2]) ∧ DocT w' K' C' (flushV V).1 m ∧ Below w.heap.size w w' := by
  obtain ⟨A1, A2, n1, n2, c1, c2, rfl, rfl, hnn⟩ := H.form
  have KS := Aside0.mk (fun w' (hb : Below w.heap.size w w') => dstep_calls nk _ _ V m w' (H.below hb) hl)
  obtain ⟨hs1, hs2⟩ := step_kept V
  have hfl : flushV V = if (stepV V).2 = true then ({ (stepV V).1 with kept := settleV V.kept V.cache, cache := [] }, 0) else ((stepV V).1, 20) := rfl
  rw [hfl]
  obtain ⟨b, hb⟩ : ∃ b, (stepV V).2 = b := ⟨_, rfl⟩
  obtain ⟨V1, hV1⟩ : ∃ V1, (stepV V).1 = V1 := ⟨_, rfl⟩
  rw [hb, hV1] at KS
  rw [hV1] at hs1 hs2
  rw [hb, hV1]
  have H1 := Aside0.mk (H.like (V' := V1) hs1 hs2)
  have HN := Aside0.mk (⟨hs1, hs2, hk, hm, hnn, hS⟩ : _ ∧ _ ∧ _ ∧ _ ∧ _ ∧ _)
  obtain ⟨D, hD⟩ : ∃ D, docC nk (.slice A1 n1 c1) (.slice A2 n2 c2) V1.left V1.dark = D := ⟨_, rfl⟩
  obtain ⟨Z, hZ⟩ : ∃ Z, docC 0 (.slice none 0 0) (.slice none 0 0) 0 false = Z := ⟨_, rfl⟩
  have HD := Aside0.mk (⟨hD, by rw [← hD]; rfl, by rw [← hD]; simp [docC, Value.oneCell'], by rw [← hD]; rfl, by rw [← hD]; rfl⟩ : _ ∧ D.size = 5 ∧ D.all (·.oneCell') = true ∧ D[1]? = some (.slice A1 n1 c1) ∧ D[2]? = some (.slice A2 n2 c2))
  have HZ := Aside0.mk (⟨hZ, by rw [← hZ]; rfl⟩ : _ ∧ Z.size = 5)
  rw [hD] at KS
  clear hfl hs1 hs2 hb hV1 H hk hm hl hD hZ hnn hS
  cases b with
  | false =>
    rw [if_neg (by decide)]
    go_enter Try.func46, Try.ntmps46
    go_wp2_with fail
    refine (KS.out _ (below_alloc (below_alloc (Below.refl _ _) _) _)).mono ?_
    rintro e w1 ⟨rfl, b1⟩
    have P1 := Aside0.mk (((Blk.newAt rfl).alloc _).below b1 : Blk w1 w.heap.size TDt (docC nk (.slice A1 n1 c1) (.slice A2 n2 c2) V.left V.dark))
    have R1 := Aside0.mk ((Blk.newAt (by simp)).below b1 : Blk w1 (w.heap.size + 1) TDt (docC 0 (.slice none 0 0) (.slice none 0 0) 0 false))
    rw [HZ.out.1] at R1
    have L1 := Aside0.mk ((below_alloc (below_alloc (Below.refl _ _) _) _).trans (b1.mono (by simp; omega)) : Below w.heap.size w w1)
    clear b1 KS
    go_wp2_with (first
      | (with_reducible refine wpList_store_blk rfl TDt (.tmp 1) _ rfl _ _ rfl rfl infoDt HD.out.2.1 HD.out.2.2.1 P1.out rfl ?_)
      | (with_reducible refine wpList_load_blk rfl TDt (.tmp 1) rfl _ _ _ rfl Try.underlying34 rfl infoDt (P1.out.row _) HD.out.2.1 ?_)
      | (with_reducible refine wpList_store_blk rfl TDt (.tmp 2) _ rfl _ _ rfl rfl infoDt HD.out.2.1 HD.out.2.2.1 (R1.out.rowFar (by omega) _) HZ.out.2 ?_))
    have bl := below_setRow (g := w.heap.size + 1) (below_setRow (g := w.heap.size) L1.out (Nat.le_refl _) D) (by omega) D
    exact bodyPost_ret (results_ct rfl _ _ _ _ _ _ rfl rfl infoDt Try.underlying34 rfl ((R1.out.rowFar (by omega) _).row D) HD.out.2.1) rfl ⟨_, _, by rw [← HD.out.1]; rfl, H1.out.below bl, bl⟩
  | true =>
    rw [if_pos rfl]
    go_enter Try.func46, Try.ntmps46
    go_wp2_with fail
    refine (KS.out _ (below_alloc (below_alloc (Below.refl _ _) _) _)).mono ?_
    rintro e w1 ⟨rfl, b1⟩
    have P1 := Aside0.mk (((Blk.newAt rfl).alloc _).below b1 : Blk w1 w.heap.size TDt (docC nk (.slice A1 n1 c1) (.slice A2 n2 c2) V.left V.dark))
    have R1 := Aside0.mk ((Blk.newAt (by simp)).below b1 : Blk w1 (w.heap.size + 1) TDt (docC 0 (.slice none 0 0) (.slice none 0 0) 0 false))
    rw [HZ.out.1] at R1
    have L1 := Aside0.mk ((below_alloc (below_alloc (Below.refl _ _) _) _).trans (b1.mono (by simp; omega)) : Below w.heap.size w w1)
    clear b1 KS
    obtain ⟨W2, hW2⟩ : ∃ W2, w1.setRow w.heap.size D = W2 := ⟨_, rfl⟩
    have HW2 := Aside0.mk hW2
    have hP := Aside0.mk (by rw [← hW2]; exact P1.out.row _ : Blk W2 w.heap.size TDt D)
    have hR := Aside0.mk (by rw [← hW2]; exact R1.out.rowFar (by omega) _ : Blk W2 (w.heap.size + 1) TDt Z)
    have hbl := Aside0.mk (by rw [← hW2]; exact below_setRow L1.out (Nat.le_refl _) _ : Below w.heap.size w W2)
    obtain ⟨kl, hkr, hcr, hkv, hkl, hml⟩ := H1.out.out
    have hkr2 := Kd.R_below hkr hbl.out
    have hcr2 := Kd.R_below hcr hbl.out
    have hkn : n1 = kl.length := by obtain ⟨A, c, e⟩ := Kd.R_slice hkr; cases e; rfl
    have hcn : n2 = V1.cache.length := by obtain ⟨A, c, e⟩ := Kd.R_slice hcr; cases e; rfl
    have HKL := Aside0.mk (⟨hkv, hkl, hml, hkn, hcn⟩ : _ ∧ _ ∧ _ ∧ _ ∧ _)
    clear hW2 hkv hkl hml hkn hcn hkr hcr
    go_upto_region 4 with (with_reducible refine wpList_store_blk rfl TDt (.tmp 1) _ rfl _ _ rfl rfl infoDt HD.out.2.1 HD.out.2.2.1 P1.out rfl ?_; rw [HW2.out])
    clear P1 R1 L1 HW2
    obtain ⟨wo, hwo⟩ : ∃ wo, wo = W2 := ⟨_, rfl⟩
    subst hwo
    have HST : Qw.Stb (fun w' => Blk w' w.heap.size TDt D ∧ kDw.R TDw w' 0 (fun _ => True) (.slice A1 n1 c1) kl ∧ kDw.R TDw w' 0 (fun _ => True) (.slice A2 n2 c2) V1.cache ∧ Below wo.heap.size wo w') := fun w1 w2 h hb => ⟨h.1.below hb, Kd.R_below h.2.1 hb, Kd.R_below h.2.2.1 hb, h.2.2.2.trans (hb.mono h.2.2.2.size)⟩
    have HE0 : Blk wo.drew w.heap.size TDt D ∧ kDw.R TDw wo.drew 0 (fun _ => True) (.slice A1 n1 c1) kl ∧ kDw.R TDw wo.drew 0 (fun _ => True) (.slice A2 n2 c2) V1.cache ∧ Below wo.heap.size wo wo.drew := ⟨hP.out.drew, Kd.R_below hkr2 (w1 := wo.drew) (Below.refl _ _).drew, Kd.R_below hcr2 (w1 := wo.drew) (Below.refl _ _).drew, (Below.refl _ _).drew⟩
    clear hkr2 hcr2
    refine Qw.wp_region_tail (fun _ _ _ _ => True) _ HST 6 (by kernel_rfl) (by kernel_rfl) HE0 ?_
    clear HST HE0
    simp only [List.take_succ_cons, List.take_zero, List.drop_succ_cons, List.drop_zero]
    ((with_reducible refine Qw.w_make (RLit wo.heap.size) ?_ (Qw.wanted_none rfl) ⟨?_, ?_⟩); (focus (exact rlit_stb)); (focus (intro w' hw' hp'; exact run_lit rfl hw'.2.2.2.size)); rintro u0 ⟨wv0, -, -, g0, rfl, -, -⟩; intro K hK; go_simp; (first | (with_reducible refine hK _ ?_) | (refine hK _ ?_)); clear hK K)
    clear wv0
    ((first | (with_reducible refine Qw.w_val ⟨fun _ _ _ hF h w' h1 h2 => h w' h1 fun k => hF k _ (h2 k)⟩ ?_ (Qw.wanted_none rfl) ?_) | ((with_reducible refine Qw.w_val ⟨fun _ _ _ hF h w' h1 h2 => h w' h1 fun k => hF k _ (h2 k)⟩ ?_ ?_ ?_); (focus (exact fun _ => trivial)); (focus (exact Qg.wanted_on rfl rfl rfl)))); (try (focus (exact fun _ => trivial))); apply Exists.intro; refine ⟨?_, ?_⟩; (focus (intro w' hw' hp'; skip; go_simp; (first | done | (with_reducible rfl)))); intro K hK; go_simp; (first | (with_reducible refine hK _ ?_) | (refine hK _ ?_)); clear hK K)
    ((first | (with_reducible refine Qw.w_val ⟨fun _ _ _ hF h w' h1 h2 => h w' h1 fun k => hF k _ (h2 k)⟩ ?_ (Qw.wanted_none rfl) ?_) | ((with_reducible refine Qw.w_val ⟨fun _ _ _ hF h w' h1 h2 => h w' h1 fun k => hF k _ (h2 k)⟩ ?_ ?_ ?_); (focus (exact fun _ => trivial)); (focus (exact Qg.wanted_on rfl rfl rfl)))); (try (focus (exact fun _ => trivial))); apply Exists.intro; refine ⟨?_, ?_⟩; (focus (intro w' hw' hp'; have d2 := hw'.1.cell 1; rw [HD.out.2.2.2.1] at d2; have dl := hw'.1.lt; go_simp; (first | done | (with_reducible rfl)))); intro K hK; go_simp; (first | (with_reducible refine hK _ ?_) | (refine hK _ ?_)); clear hK K)
    ((with_reducible refine Qw.w_make (RRow wo.heap.size kl) ?_ (Qw.wanted_none rfl) ⟨?_, ?_⟩); (focus (exact rrow_stb)); (focus (intro w' hw' hp'; have f0 : RLit wo.heap.size (.slice (some ⟨g0, 0, none⟩) 0 0) w' := Qw.fact hp' 0 rfl; exact run_clone (.tmp 13) (.tmp 15) rfl rfl rfl rfl f0 hw'.2.1 hw'.2.2.2.size (by have := HKL.out.2.2.1; have := HN.out; omega))); rintro u3 ⟨wv3, -, -, hu3⟩; intro K hK; go_simp; (first | (with_reducible refine hK _ ?_) | (refine hK _ ?_)); clear hK K)
    obtain ⟨A3, c3, e3⟩ := Kd.R_slice (show kDw.R TDw wv3 wo.heap.size (fun _ => True) u3 kl from hu3)
    rw [← HKL.out.2.2.2.1] at e3
    subst e3
    clear hu3 wv3
    ((first | (with_reducible refine Qw.w_val ⟨fun _ _ _ hF h w' h1 h2 => h w' h1 fun k => hF k _ (h2 k)⟩ ?_ (Qw.wanted_none rfl) ?_) | ((with_reducible refine Qw.w_val ⟨fun _ _ _ hF h w' h1 h2 => h w' h1 fun k => hF k _ (h2 k)⟩ ?_ ?_ ?_); (focus (exact fun _ => trivial)); (focus (exact Qg.wanted_on rfl rfl rfl)))); (try (focus (exact fun _ => trivial))); apply Exists.intro; refine ⟨?_, ?_⟩; (focus (intro w' hw' hp'; skip; go_simp; (first | done | (with_reducible rfl)))); intro K hK; go_simp; (first | (with_reducible refine hK _ ?_) | (refine hK _ ?_)); clear hK K)
    ((first | (with_reducible refine Qw.w_val ⟨fun _ _ _ hF h w' h1 h2 => h w' h1 fun k => hF k _ (h2 k)⟩ ?_ (Qw.wanted_none rfl) ?_) | ((with_reducible refine Qw.w_val ⟨fun _ _ _ hF h w' h1 h2 => h w' h1 fun k => hF k _ (h2 k)⟩ ?_ ?_ ?_); (focus (exact fun _ => trivial)); (focus (exact Qg.wanted_on rfl rfl rfl)))); (try (focus (exact fun _ => trivial))); apply Exists.intro; refine ⟨?_, ?_⟩; (focus (intro w' hw' hp'; have d2 := hw'.1.cell 2; rw [HD.out.2.2.2.2] at d2; have dl := hw'.1.lt; go_simp; (first | done | (with_reducible rfl)))); intro K hK; go_simp; (first | (with_reducible refine hK _ ?_) | (refine hK _ ?_)); clear hK K)
    ((with_reducible refine Qw.w_nil ?_); intro w' hw' hf')
    have hu3 : kDw.R TDw w' wo.heap.size (fun _ => True) (.slice A3 n1 c3) kl := hf' 3
    obtain ⟨_, _, e9, -, hcc⟩ := Kd.R_reads hw'.2.2.1
    injection e9 with q1 q2 q3
    subst q1 q3
    rw [← q2] at hcc
    clear q2
    have hbel := hw'.2.2.2
    clear hf' hw'
    obtain ⟨n3, hn3⟩ : ∃ n3, (kl ++ V1.cache).length = n3 := ⟨_, rfl⟩
    have HN3 := Aside0.mk hn3
    clear hn3
    have tok1 : True := trivial
    go_upto_region 5 with (at_builtin; have _t := tok1; go_must (refine Kd.R_append_rows kDw (w0 := wo) wo.heap.size rfl _ _ 32 TDw (.agg zCa.toArray) 136 rfl Try.underlying32 infoDw3 (by rw [show (Value.agg zCa.toArray).cells = zCa.toArray from rfl, zCa_len]; rfl) (by decide) (by decide) (.slice A3 n1 c3) kl V1.cache A2 n2 c2 (fun _ => True) (fun _ => False) rfl rfl hu3 hcc (fun x cs h => h) (fun k h => h.elim) (fun _ _ => trivial) hbel hbel.size (by have := HKL.out.2.2.1; have := HN.out; omega) ?_); intro v6 w6 hv6 hb6 hg6 hat6; obtain ⟨A6, c6, e6⟩ := Kd.R_slice hv6; rw [HN3.out] at e6; subst e6; have hd6 := hP.out.below hb6; have D6 := Aside0.mk hd6; have R6 := Aside0.mk (hR.out.below hb6); have V6 := Aside0.mk hv6; have B6 := Aside0.mk hb6; have x2 := hd6.cell 1; rw [HD.out.2.2.2.1] at x2; have f2 := hd6.frozen 1; have l2 := hd6.lt; clear _t tok1 hu3 hcc hbel hat6 hg6 hv6 hb6 hd6)
    obtain ⟨W7, hW7⟩ : ∃ W7, w6.setCell ⟨w.heap.size, 1, none⟩ (.slice A6 n3 c6) = W7 := ⟨_, rfl⟩
    have D7 := Aside0.mk (by rw [← hW7]; have := D6.out.set 1 (.slice A6 n3 c6); rw [← HD.out.1] at this; exact this : Blk W7 w.heap.size TDt (docC nk (.slice A6 n3 c6) (.slice A2 n2 c2) V1.left V1.dark))
    have R7 := Aside0.mk (by rw [← hW7]; exact R6.out.far (by simp only; omega) _ : Blk W7 (w.heap.size + 1) TDt Z)
    have hL6 := hbl.out.trans (B6.out.mono hbl.out.size)
    have L7 := Aside0.mk (by rw [← hW7]; exact hL6.setCell (Nat.le_refl _) _ : Below w.heap.size w W7)
    have hown : ∀ k, (Value.slice A6 n3 c6).ownBlock = some k → w.heap.size ≠ k := fun k hk e => by
      obtain ⟨cells, hcc⟩ := own_typedR V6.out k hk
      exact absurd rfl (hcc.ne (e ▸ D6.out) (by decide))
    have V7 := Aside0.mk (by rw [← hW7]; exact flat_move V6.out (fun k hk => Below.heap_setCell w6 _ _ k (fun e => hown k hk e.symm)) : kDw.R TDw W7 wo.heap.size (fun _ => True) (.slice A6 n3 c6) (kl ++ V1.cache))
    have y2 := D7.out.cell 2
    have yf := D7.out.frozen 2
    have yl := D7.out.lt
    rw [hW7]
    clear hW7 hL6 hown D6 R6 V6 B6 x2 f2 l2
    go_upto_region 6 with fail
    obtain ⟨W8, hW8⟩ : ∃ W8, W7.setCell ⟨w.heap.size, 2, none⟩ (.slice none 0 0) = W8 := ⟨_, rfl⟩
    have D8 := Aside0.mk (by rw [← hW8]; exact D7.out.set 2 (.slice none 0 0) : Blk W8 w.heap.size TDt (docC nk (.slice A6 n3 c6) (.slice none 0 0) V1.left V1.dark))
    have R8 := Aside0.mk (by rw [← hW8]; exact R7.out.far (by simp only; omega) _ : Blk W8 (w.heap.size + 1) TDt Z)
    have L8 := Aside0.mk (by rw [← hW8]; exact L7.out.setCell (Nat.le_refl _) _ : Below w.heap.size w W8)
    have V8 := Aside0.mk (by rw [← hW8]; exact flat_move V7.out (fun k hk => Below.heap_setCell W7 _ _ k (fun e => by obtain ⟨cells, hcc⟩ := own_typedR V7.out k hk; simp only at e; exact absurd rfl (hcc.ne (e ▸ D7.out) (by decide)))) : kDw.R TDw W8 wo.heap.size (fun _ => True) (.slice A6 n3 c6) (kl ++ V1.cache))
    rw [hW8]
    have hcs := one_doc nk A6 none n3 0 c6 0 V1.left V1.dark
    obtain ⟨D', hD'⟩ : ∃ D', docC nk (.slice A6 n3 c6) (.slice none 0 0) V1.left V1.dark = D' := ⟨_, rfl⟩
    have hds : D'.size = 5 := by rw [← hD']; rfl
    rw [hD'] at D8 hcs
    clear hW8 D7 R7 V7 L7 y2 yf yl
    go_wp2_with (first
      | (with_reducible refine wpList_load_blk rfl TDt (.tmp 1) rfl _ _ _ rfl Try.underlying34 rfl infoDt D8.out hds ?_)
      | (with_reducible refine wpList_store_blk rfl TDt (.tmp 2) _ rfl _ _ rfl rfl infoDt hds hcs R8.out HZ.out.2 ?_))
    have bl := below_setRow (g := w.heap.size + 1) L8.out (by omega) D'
    have hkk : V.kept.length = nk := HN.out.2.2.1
    have hlen : (settleV V.kept V.cache).length = nk := by rw [settle_length, hkk]
    have e1 := HN.out.1
    have e2 := HN.out.2.1
    refine bodyPost_ret (results_ct rfl _ _ _ _ _ _ rfl rfl infoDt Try.underlying34 rfl (R8.out.row D') hds) rfl ⟨_, _, by rw [← hD']; rfl, ⟨kl ++ V1.cache, ?_, Kd.R_nil _ _ _ _ _, ?_, ?_, ?_⟩, bl⟩
    · refine Kd.R_lower (flat_move V8.out fun k hk => ?_) (Nat.zero_le _)
      obtain ⟨cells, hcc⟩ := own_typedR V8.out k hk
      exact setRow_other W8 _ k D' (fun e => absurd rfl (hcc.ne (e ▸ R8.out) (by decide)))
    · show settleV V.kept V.cache = settleV (zeroK (settleV V.kept V.cache).length) (kl ++ V1.cache)
      have h1 := HKL.out.1
      rw [e1, hkk] at h1
      rw [hlen, settle_append, ← h1, e2]
    · intro x hx
      show 0 ≤ x.1 ∧ x.1 < ((settleV V.kept V.cache).length : Int) ∧ _
      rw [hlen, ← hkk]
      rcases List.mem_append.1 hx with hx | hx
      · have := HKL.out.2.1 x hx
        rw [e1] at this
        exact this
      · rw [e2] at hx
        exact HN.out.2.2.2.2.2.cache x hx
    · show (kl ++ V1.cache).length + ([] : List (Int × List Int)).length ≤ m
      rw [List.length_append]
      exact HKL.out.2.2.1
end Go.Proofs.Ytddhngalokmdoaa.Spo
