/- Texts of this claim, merged: Sl4, Okd. -/
import Derived.Test.YtddhngalokmdoaaMgKeeps4
import Derived.Test.YtddhngalokmdoaaWWords
import Derived.Deep.Slices
import Derived.ChangeSlices
import Derived.ChangeArms
import Derived.WalkKit
import Derived.ProofKit
import Derived.OpenShut
import Derived.Lib.LaidTab
/- The law SpoolKeeps: its walk. -/
namespace Go.Proofs.Ytddhngalokmdoaa.Spo
open Go.RowKit Go.Proofs.YtddhngalokmdoaaW.PrintWords Go.Proofs.YtddhngalokmdoaaW.PrintLast Go.Proofs.YtddhngalokmdoaaW.PrintMore Go.Proofs.Ytddhngalokmdoaa.Arr Go.Proofs.Ytddhngalokmdoaa.PSpoolPlays
set_option linter.unusedVariables false
set_option linter.unusedSimpArgs false

abbrev TAc : TypeId := 59
/-- The law's tray and spool. -/
def KeepAt (w0 w : World) (s t k : Nat) (h ep : Int) (tb : Int) (xs ys : List (List Int)) : Prop := ∃ V S, SAt w0 w s t V S ∧ KeepV V S k xs ys ∧ S.head = h ∧ S.epoch = ep ∧ S.tail ≤ tb
theorem KeepAt.below {w0 w w1 : World} {s t k : Nat} {h ep tb : Int} {xs ys : List (List Int)} (H : KeepAt w0 w s t k h ep tb xs ys) (hb : Below w.heap.size w w1) : KeepAt w0 w1 s t k h ep tb xs ys := by
  obtain ⟨V, S, h1, h2⟩ := H
  exact ⟨V, S, h1.below hb, h2⟩
theorem KeepAt.low {w0 w : World} {s t k : Nat} {h ep tb : Int} {xs ys : List (List Int)} (H : KeepAt w0 w s t k h ep tb xs ys) : Below w0.heap.size w0 w := by
  obtain ⟨V, S, h1, h2⟩ := H
  exact h1.low
theorem KeepAt.up {w0 w : World} {s t k : Nat} {h ep tb tb' : Int} {xs ys : List (List Int)} (H : KeepAt w0 w s t k h ep tb xs ys) (hb : tb ≤ tb') : KeepAt w0 w s t k h ep tb' xs ys := by
  obtain ⟨V, S, h1, h2, h3, h4, h5⟩ := H
  exact ⟨V, S, h1, h2, h3, h4, Int.le_trans h5 hb⟩
theorem KeepAt.small {w0 w : World} {s t k : Nat} {h ep tb : Int} {xs ys : List (List Int)} (H : KeepAt w0 w s t k h ep tb xs ys) : ys = [] ∨ ∃ b, ys = [b] := by
  obtain ⟨V, S, h1, h2, h3⟩ := H
  exact h2.state.imp (fun h => h.1) (fun ⟨b, h, _⟩ => ⟨b, h⟩)
theorem KeepAt.grown {w0 w w1 : World} {s t k : Nat} {h ep tb : Int} {xs ys : List (List Int)} {row : Option Nat} (H : KeepAt w0 w s t k h ep tb xs ys) (hg : w.grownBy w1 row) (hr : ∀ k, row = some k → w0.heap.size ≤ k ∧ ∃ cs, Blk w k TSl cs) : KeepAt w0 w1 s t k h ep tb xs ys := by
  obtain ⟨V, S, h1, h2⟩ := H
  exact ⟨V, S, h1.grown2 hg hr, h2⟩
theorem keep_append {w0 w : World} {s t k : Nat} {h ep tb : Int} {xs : List (List Int)} (H : KeepAt w0 w s t k h ep tb xs []) (htb : tb ≤ 1000000) (b : List Int) (A : Option Addr) (n c : Nat) (hn : b.length = n) (hb : n ≤ 600) (hby : Bytes b) (hc : n ≤ c) (hr : ReadsInt w .u8 A n b) (hA : ∀ ad, A = some ad → 0 < n → ad.block < w0.heap.size) :
    Calls Try.prog 20 #[ptrT s, .slice A n c] w fun e w' => Frame2 w w' ∧ ((e = .returned (.int .i64 3) ∧ KeepAt w0 w' s t k h ep tb xs []) ∨ (e = .returned (.int .i64 0) ∧ KeepAt w0 w' s t k h ep (tb + 6) (xs ++ [b]) []) ∨ (e = .returned (.int .i64 20) ∧ KeepAt w0 w' s t k h ep tb xs [b])) := by
  obtain ⟨V, S, h1, h2, h3, h4, h5⟩ := H
  obtain ⟨r1, r2, r3, r4⟩ := append_ring (V := V) (S := S) (b := b)
  refine (sat_append2 h1 (Below.refl _ _) (by have := h2.cache; omega) (by omega) b A n c hby hc hr (fun ad e h0 => .inl (hA ad e h0)) (by omega)).mono ?_
  rintro e w' ⟨rfl, h6, h7⟩
  refine ⟨h7, ?_⟩
  rcases h2.append hby (by omega) (by omega) ((append_keep h1.sound h1.bytes hby h1.left).2.2.1.trans h2.len) with ⟨e1, e2, e3⟩ | ⟨e1, e2, e3⟩ | ⟨e1, e2, e3⟩
  · rw [e2, e3] at h6
    exact .inl ⟨by rw [e1], V, S, h6, h2, h3, h4, h5⟩
  · exact .inr (.inl ⟨by rw [e1], _, _, h6, e2, r4.trans h3, r3.trans h4, by omega⟩)
  · exact .inr (.inr ⟨by rw [e1], _, _, h6, e2, r4.trans h3, r3.trans h4, by omega⟩)
theorem keep_cut {w0 w : World} {s t k : Nat} {h ep tb : Int} {xs : List (List Int)} (H : KeepAt w0 w s t k h ep tb xs []) :
    Calls Try.prog 22 #[ptrT s] w fun e w' => ∃ h', e = .returned (.tuple #[]) ∧ KeepAt w0 w' s t k h' ep tb [] [] ∧ Frame2 w w' ∧ ∀ w'', Below w'.heap.size w' w'' → Calls Try.prog 23 #[ptrT s] w'' fun e w3 => e = .returned (.int .i64 h') ∧ Below w''.heap.size w'' w3 := by
  obtain ⟨V, S, h1, h2, h3, h4, h5⟩ := H
  refine (sat_cut2 h1).mono ?_
  rintro e w' ⟨rfl, h6, h7⟩
  exact ⟨S.tail, rfl, ⟨V, _, h6, h2.cut, rfl, h4, h5⟩, h7, fun w'' hb => head_calls s t { S with head := S.tail } w'' (h6.blk.below hb)⟩
theorem keep_power {w0 w : World} {s t k : Nat} {h ep tb : Int} {xs : List (List Int)} (H : KeepAt w0 w s t k h ep tb xs []) (n : Int) (hn : 0 ≤ n ∧ n ≤ 1000) :
    Calls Try.prog 25 #[ptrT t, .int .i64 n] w fun e w' => e = .returned (.int .i64 0) ∧ KeepAt w0 w' s t k h ep tb xs [] ∧ Frame2 w w' := by
  obtain ⟨V, S, h1, h2, h3⟩ := H
  refine (sat_power2 h1 n (by omega)).mono ?_
  rintro e w' ⟨rfl, h6, h7⟩
  have : (powerV V n).2 = 0 := by unfold powerV; rw [if_neg (by omega)]
  exact ⟨by rw [this], ⟨_, S, h6, h2.power n, h3⟩, h7⟩
/-- An append to a row that is younger than what is appended. -/
theorem Recs2.weak {w0 w1 W : World} {v : Value} {xs : List (List Int)} (h : Recs2 w0 W v xs) (hle : w0.heap.size ≤ w1.heap.size) : ∃ ss : List Sl, W.ownsRow w0.heap.size TSl 1 v ss.length (encs encS ss) ∧ ss.length = xs.length ∧ ∀ (i : Nat) (s : Sl) (x : List Int), ss[i]? = some s → xs[i]? = some x → ReadsInt W .u8 s.A s.n x ∧ (∀ ad, s.A = some ad → 0 < s.n → ad.block < w1.heap.size ∨ ∃ cs, Blk W ad.block TU8 cs) := by
  obtain ⟨ss, h1, h2, h3⟩ := h.out
  refine ⟨ss, h1, h2, fun i s x a b => ?_⟩
  obtain ⟨k1, k2⟩ := h3 i s x a b
  exact ⟨k1, fun ad e h0 => (k2 ad e h0).imp_left fun q => by omega⟩
section
variable {ops : Array Oper} {rest : List Oper} {o : Oper} {a : Act} {Q : Exit → Act → World → Prop}
theorem app3 {w0 w1 W : World} (hle : w0.heap.size ≤ w1.heap.size) (hgd : o.guard = none) (s x : Operand)
    (ho : o.op = .call { callee := .builtin .append, args := #[s, x], argTypes := #[27, 27] })
    (v : Value) (xs ys : List (List Int)) (A : Option Addr) (m c : Nat) (hs : a.eval s = v) (hx : a.eval x = .slice A m c)
    (HO : Recs2 w1 W v xs) (HR : Recs2 w0 W (.slice A m c) ys) (HB : Below w1.heap.size w1 W) (hl : xs.length + ys.length ≤ 1000000000)
    (h : ∀ v1 w2, Recs2 w1 w2 v1 (xs ++ ys) → Below w1.heap.size w1 w2 → wpList Try.prog ops Q rest (a.put o.dst v1) w2) :
    wpList Try.prog ops Q (o :: rest) a W := by
  have HO0 := HO
  obtain ⟨ss, h1, h2, h3⟩ := HO.out
  obtain ⟨ts, k1, k2, k3⟩ := HR.weak hle
  obtain ⟨m1, m2⟩ := own_sl k1
  refine print_append_row_of (w0 := w1) encS ⟨Option.none, 0, 0⟩ w1.heap.size hgd s x 27 TSl (.slice Option.none 0 0) 24 ho Try.underlying27 infoSl rfl (by decide) encS_one v ss ts A m c hs hx
    h1 ⟨by omega, by omega, fun h0 => ?_⟩ HB HB.size (by omega) fun v1 w2 q1 q2 q3 q4 => h v1 w2 ⟨ss ++ ts, q1, by simp [h2, k2], fun i s x e1 e2 => ?_⟩ q2
  · rcases m2 with ⟨-, e⟩ | ⟨g, e, -, hc⟩
    · omega
    · refine ⟨_, e, fun j hj => ?_⟩
      rw [add_plain, hc j (by omega), List.getD, List.getElem?_eq_getElem (by omega), Option.getD_some]
  · have key : ∀ (s : Sl) (x : List Int), (ReadsInt W .u8 s.A s.n x ∧ (∀ ad, s.A = some ad → 0 < s.n → ad.block < w1.heap.size ∨ ∃ cs, Blk W ad.block TU8 cs)) → (ReadsInt w2 .u8 s.A s.n x ∧ (∀ ad, s.A = some ad → 0 < s.n → ad.block < w1.heap.size ∨ ∃ cs, Blk w2 ad.block TU8 cs)) := fun s x ⟨hr, hk⟩ => by
      have hne : ∀ ad, s.A = some ad → 0 < s.n → some ad.block ≠ v.ownBlock := fun ad e h0 e5 => by
        obtain ⟨b1, cs, hcs⟩ := HO0.typed ad.block e5.symm
        rcases hk ad e h0 with q | ⟨cs', hcs'⟩
        · omega
        · exact absurd rfl (hcs'.ne hcs (by decide))
      refine ⟨reads_move hr fun ad e h0 => ?_, fun ad e h0 => (hk ad e h0).imp_right fun ⟨cs, hcs⟩ => ⟨cs, hcs.grown q3 (hne ad e h0)⟩⟩
      obtain ⟨ad', e', hc⟩ := hr.2.2 h0
      rw [e] at e'
      cases e'
      have hlt := World.block_lt_of_cell? W _ (hc 0 h0)
      rw [add_block] at hlt
      exact q3.block _ hlt (hne ad e h0)
    by_cases hi : i < ss.length
    · rw [List.getElem?_append_left hi] at e1
      rw [List.getElem?_append_left (by omega)] at e2
      exact key _ _ (h3 i s x e1 e2)
    · rw [List.getElem?_append_right (by omega)] at e1
      rw [List.getElem?_append_right (by omega), ← h2] at e2
      exact key _ _ (k3 _ s x e1 e2)
end
set_option maxHeartbeats 16000000 in
set_option maxRecDepth 100000 in
theorem lawKeeps_calls (x : Int) (hx0 : 0 ≤ x) (hx1 : x < 256) (acts : List S59) (hby : ∀ a, a ∈ acts → Bytes a.f2) (hl : acts.length ≤ 9223372036854775807) (A : Option Addr) (c : Nat) (w : World) (hC : Kd.C k59 w A acts.length acts) (hc : acts.length ≤ c) :
    Calls Try.prog 7 #[.int .u8 x, .slice A acts.length c] w fun e w' => e = .returned (.bool true) ∧ Below w.heap.size w w' := by
  have HA := Aside0.mk (⟨hC, hby⟩ : _ ∧ _)
  obtain ⟨k, hk⟩ : ∃ k : Nat, 2 + x % 30 = (k : Int) := ⟨(2 + x % 30).toNat, by omega⟩
  have hk2 : 2 ≤ k ∧ k ≤ 31 := by omega
  have HK := Aside0.mk hk2
  have e1 : Int.tmod x 30 = x % 30 := Int.tmod_eq_emod_of_nonneg hx0
  have e2 : IntKind.u8.wrap (x % 30) = x % 30 := IntWalk.u8_in _ (by omega)
  have e3 : IntKind.i64.wrap (x % 30) = x % 30 := IntWalk.i64_in _ (by omega)
  have e4 : IntKind.i64.wrap (2 + x % 30) = (k : Int) := by rw [hk]; exact IntWalk.i64_in _ (by omega)
  obtain ⟨n, hn⟩ : ∃ n, acts.length = n := ⟨_, rfl⟩
  have HN := Aside0.mk hn
  have HC := Aside0.mk (by rw [← hn]; exact hc : n ≤ c)
  rw [hn]
  have KF := Aside0.mk (fun w' (hb : Below w.heap.size w w') => few_calls acts hl A n c hn HC.out w' (by rw [← hn]; exact Kd.C_below hC hb))
  obtain ⟨fw, hfw⟩ : ∃ fw, fewA acts = fw := ⟨_, rfl⟩
  rw [hfw] at KF
  have HFW := Aside0.mk hfw
  clear hk hk2 hx0 hx1 hC hby hl hc hn hfw
  have KN := Aside0.mk (tr_new 40 (by decide) (by decide) w w (Below.refl _ _))
  go_enter Try.func7, Try.ntmps7
  go_wp2_with fail
  refine KN.out.mono ?_
  rintro e w1 ⟨t, rfl, hT, b1⟩
  have T1 := Aside0.mk hT
  clear hT b1 KN
  go_wp2_with fail
  refine (awake_calls w1).mono ?_
  rintro e w2 ⟨rfl, b2⟩
  have T2 := Aside0.mk (T1.out.below b2)
  clear b2 T1
  go_wp2_with fail
  refine (KF.out w2 T2.out.low).mono ?_
  rintro e w3 ⟨rfl, b3⟩
  have T3 := Aside0.mk (T2.out.below b3)
  clear b3 T2
  cases hfc : fw with
  | false =>
    subst hfc
    go_wp2_with fail
    refine (awake_calls w3).mono ?_
    rintro e w4 ⟨rfl, b4⟩
    have B4 := Aside0.mk (T3.out.below b4).low
    clear b4
    go_wp2
    go_ret
    exact ⟨rfl, B4.out⟩
  | true =>
  subst hfc
  have hfew : (∀ a, a ∈ acts → a.f2.length ≤ 600 ∧ a.f3.length ≤ 200) ∧ n ≤ 40 := by
    have := HFW.out
    unfold fewA at this
    simp only [Bool.and_eq_true, decide_eq_true_eq, List.all_eq_true] at this
    refine ⟨fun a ha => ?_, by rw [← HN.out]; exact this.2⟩
    have := this.1 a ha
    unfold smallA at this
    simp only [Bool.and_eq_true, decide_eq_true_eq] at this
    exact this
  have HFEW := Aside0.mk hfew
  obtain ⟨W4, hW4⟩ : ∃ W4, w3.alloc (.cells #[.int .i64 3, .int .i64 (k : Int)] TRi) = W4 := ⟨_, rfl⟩
  have hRB : Blk W4 w3.heap.size TRi #[.int .i64 3, .int .i64 (k : Int)] := by rw [← hW4]; exact Blk.new _ _ _
  have b4 : Below w3.heap.size w3 W4 := by rw [← hW4]; exact (Below.refl _ _).alloc (Nat.le_refl _) _
  have T4 := Aside0.mk (T3.out.below b4)
  have KO := Aside0.mk (tr_open T4.out (by decide) 3 (k : Int) 0 1)
  have RB4 := Aside0.mk hRB
  have HW4 := Aside0.mk hW4
  clear hRB b4 hW4 T3 hfew
  go_wp2_with fail
  rw [HW4.out]
  have hlen0 : (newV 40).kept.length = 40 := by simp [newV]
  have hopen : openOk (newV 40) 3 (k : Int) 0 1 = true := by
    have := HK.out
    unfold openOk rightV
    rw [hlen0, decide_eq_true (show (k : Int) ≥ 2 by omega), decide_eq_true (show (k : Int) ≤ 4096 by omega), decide_eq_true (show (k : Int) ≤ ((40 : Nat) : Int) - 3 by omega)]
    rfl
  refine KO.out.mono ?_
  rintro e w5 ⟨b5, hp⟩
  rw [hopen, opened_new (by decide) hopen] at hp
  rcases hp with ⟨h, -⟩ | ⟨-, s, v, rfl, -, hrec, -, hsat⟩
  · cases h
  obtain ⟨A5, c5, rfl, -⟩ := recs_form hrec
  have hkn := keep_new HK.out
  have hfit : Fit ⟨3, k, 1, 0, 0, false⟩ := (hkn.state.resolve_right (fun ⟨b, e, _⟩ => by cases e)).2.fit
  have K5 := Aside0.mk (⟨newV 40, _, hsat hfit, hkn, rfl, rfl, by show (0 : Int) ≤ 0; decide⟩ : KeepAt w w5 s t k 0 1 0 [] [])
  have RB5 := Aside0.mk (RB4.out.below b5)
  obtain ⟨rb, hrb⟩ : ∃ rb, w3.heap.size = rb := ⟨_, rfl⟩
  rw [hrb] at RB5
  rw [hrb]
  clear b5 hsat hfit hkn KO T4 RB4 HW4 hopen hlen0 hrb e1 e2 e3 e4 hrec KF
  go_wp2_with fail
  go_loopw [5, 8, 11, 12, 13, 14, 64] (fun v5 v8 v11 v12 v13 v14 v64 wr => ∃ (i s t : Nat) (h ep : Int) (xs ys : List (List Int)), v5 = ptrT t ∧ v8 = ptrT s ∧ v13 = .int .i64 h ∧ v14 = .int .i64 ep ∧ v64 = .int .i64 (i : Int) ∧ Aside0 (i ≤ n ∧ ep ≤ i + 1 ∧ xs.length ≤ 1000 * i) ∧ Aside0 (KeepAt w wr s t k h ep (6 * i) xs ys) ∧ Aside0 (Recs2 w wr v11 xs) ∧ Aside0 (Recs2 w wr v12 ys) ∧ Aside0 (Blk wr rb TRi #[.int .i64 3, .int .i64 (k : Int)]) ∧ Aside0 (ys = [] → v12 = .slice none 0 0)) (fun _ _ _ _ _ _ v64 _ => n - (intOf v64).toNat)
  case atStart => exact ⟨0, s, t, 0, 1, [], [], rfl, rfl, rfl, rfl, rfl, ⟨by have : ([] : List (List Int)).length = 0 := rfl; omega⟩, K5, ⟨Recs2.nil _ _⟩, ⟨Recs2.nil _ _⟩, RB5, ⟨fun _ => rfl⟩⟩
  case round =>
    obtain ⟨i, s, t, h, ep, xs, ys, rfl, rfl, rfl, rfl, rfl, hin, hK, hV, hY, hRB, hNI⟩ := hrel
    by_cases hi : i < n
    · have t1 : decide ((i : Int) < (n : Int)) = true := decide_eq_true (by omega)
      have t1n : decide (i < n) = true := decide_eq_true hi
      have p0 : (0 : Int) ≤ (i : Int) := by omega
      have p1 : (i : Int) < (n : Int) := by omega
      have hil : i < acts.length := by have := HN.out; omega
      obtain ⟨ad, A2, c2, A3, c3, eA, x0, x1, x2, x3, l2, g2, l3, g3⟩ := at_T59 HA.out.1 (i : Int) p0 (by omega)
      cases eA
      have x0 := (hK.out.low.cell (World.block_lt_of_cell? w _ x0)).trans x0
      have x1 := (hK.out.low.cell (World.block_lt_of_cell? w _ x1)).trans x1
      have x2 := (hK.out.low.cell (World.block_lt_of_cell? w _ x2)).trans x2
      have x3 := (hK.out.low.cell (World.block_lt_of_cell? w _ x3)).trans x3
      have hrd : rd_T59 acts (i : Int) = acts[i] := by
        unfold rd_T59
        rw [Int.toNat_natCast, List.getD, List.getElem?_eq_getElem hil, Option.getD_some]
      rw [hrd] at x0 x1 x2 x3 l2 g2 l3 g3
      rw [Int.toNat_natCast] at x0 x1 x2 x3
      have hsm := HFEW.out.1 _ (List.getElem_mem hil)
      have hbb := HA.out.2 _ (List.getElem_mem hil)
      obtain ⟨a, ha⟩ : ∃ a, acts[i] = a := ⟨_, rfl⟩
      rw [ha] at x0 x1 x2 x3 l2 g2 l3 g3 hsm hbb
      obtain ⟨f0, f1, f2, f3⟩ := a
      simp only at x0 x1 x2 x3 l2 g2 l3 g3 hsm hbb
      obtain ⟨L2, hL2⟩ : ∃ L, f2.length = L := ⟨_, rfl⟩
      obtain ⟨L3, hL3⟩ : ∃ L, f3.length = L := ⟨_, rfl⟩
      rw [hL2] at x2 l2 g2 hsm
      rw [hL3] at x3 l3 g3 hsm
      have hwi : IntKind.i64.wrap ((i : Int) + 1) = ((i + 1 : Nat) : Int) := by rw [show ((i : Int) + 1) = ((i + 1 : Nat) : Int) by omega]; exact IntWalk.i64_in _ (by have := HFEW.out.2; omega)
      have HWI := Aside0.mk hwi
      have HI := Aside0.mk (⟨hi, hin.out⟩ : _ ∧ _)
      have HXL := Aside0.mk (show xs.length ≤ 40000 by have := hin.out; have := HFEW.out.2; omega)
      have HB2 := Aside0.mk (⟨hbb, hsm, hL2, hL3, l2, l3⟩ : _ ∧ _ ∧ _ ∧ _ ∧ _ ∧ _)
      have hG2 : ReadsInt w .u8 A2 L2 f2 := Kd.reads_of_C (enc := Value.int .u8) (d := (0 : Int)) (h1 := fun _ => rfl) g2
      have hel : ∀ ad, A2 = some ad → 0 < L2 → ad.block < w.heap.size := fun ad e h0 => by
        obtain ⟨ad', e', hc⟩ := hG2.2.2 h0
        rw [e] at e'
        cases e'
        have := World.block_lt_of_cell? w _ (hc 0 h0)
        rwa [add_block] at this
      have G2 := Aside0.mk (⟨hG2.below hK.out.low, hel⟩ : ReadsInt wr .u8 A2 L2 f2 ∧ _)
      have GW := Aside0.mk hG2
      have G3 := Aside0.mk (Kd.C_below g3 hK.out.low)
      obtain ⟨W8, hW8⟩ : ∃ W8, wr.alloc (.cells #[.int .i64 f0, .int .i64 f1, .slice A2 L2 c2, .slice A3 L3 c3] TAc) = W8 := ⟨_, rfl⟩
      have b8 : Below wr.heap.size wr W8 := by rw [← hW8]; exact (Below.refl _ _).alloc (Nat.le_refl _) _
      have hE8 : Blk W8 wr.heap.size TAc #[.int .i64 f0, .int .i64 f1, .slice A2 L2 c2, .slice A3 L3 c3] := by rw [← hW8]; exact Blk.new _ _ _
      have B8 := Aside0.mk b8
      have HW8 := Aside0.mk hW8
      have E8 := Aside0.mk hE8
      have K8 := Aside0.mk ((hK.out.below b8).up (show (6 * i : Int) ≤ 6 * ((i + 1 : Nat) : Int) by omega))
      have K8b := Aside0.mk (hK.out.below b8)
      have V8 := Aside0.mk (hV.out.below b8)
      have Y8 := Aside0.mk (hY.out.below b8)
      have RB8 := Aside0.mk (hRB.out.below b8)
      obtain ⟨A11, n11, c11, rfl, hn11, -⟩ := hV.out.form
      obtain ⟨A12, n12, c12, rfl, hn12, -⟩ := hY.out.form
      have HN12 := Aside0.mk hn12
      have NI := hNI
      have KSM := Aside0.mk hK.out.small
      have q0 := eq_true p0
      have q1 := eq_true p1
      have q2 := eq_true hi
      clear hwi hin hbb hsm hL2 hL3 l2 l3 g2 g3 hG2 hel hW8 b8 hE8 hK hV hY hRB hNI hn11 hn12 ha hrd hil hi p0 p1
      go_upto_region 13 with fail
      rw [HW8.out]
      have z0 := E8.out.cell 0
      have z1 := E8.out.cell 1
      have z2 := E8.out.cell 2
      have z3 := E8.out.cell 3
      have zl := E8.out.lt
      clear x0 x1 x2 x3
      by_cases hf1 : f0 = 1
      · have f1a : decide (f0 = 1) = true := decide_eq_true hf1
        have f1b : (f0 == 1) = true := by simp [hf1]
        have f1c : (f0 = 1) = True := eq_true hf1
        clear hf1
        rcases KSM.out with rfl | ⟨b, rfl⟩
        case inl =>
          obtain ⟨rfl, rfl, rfl⟩ : A12 = none ∧ n12 = 0 ∧ c12 = 0 := by simpa using NI.out rfl
          have KA := Aside0.mk (keep_append K8b.out (by have := HI.out; have := HFEW.out.2; omega) f2 A2 L2 c2 HB2.out.2.2.1 HB2.out.2.1.1 HB2.out.1 HB2.out.2.2.2.2.1 (G2.out.1.below B8.out) G2.out.2)
          go_wp2_with fail
          refine KA.out.mono ?_
          rintro e w9 ⟨hF9, hcs⟩
          have E9 := Aside0.mk (hF9 _ _ _ E8.out (by decide) (by decide) (by decide) (by decide))
          have HF9 := Aside0.mk hF9
          clear hF9 KA z0 z1 z2 z3 zl
          rcases hcs with ⟨rfl, hK9⟩ | ⟨rfl, hK9⟩ | ⟨rfl, hK9⟩
          · have K9 := Aside0.mk (hK9.up (show (6 * i : Int) ≤ 6 * ((i + 1 : Nat) : Int) by omega))
            have V9 := Aside0.mk (V8.out.frame HF9.out K8.out.low hK9.low)
            have RB9 := Aside0.mk (HF9.out _ _ _ RB8.out (by decide) (by decide) (by decide) (by decide))
            clear hK9
            have hwi := HWI.out
            go_wp2
            go_roundw
            case rel => exact ⟨i + 1, s, t, h, ep, xs, [], rfl, rfl, rfl, rfl, by first | rfl | (rw [HWI.out]) | go_num, ⟨by have := HI.out; have : ([] : List (List Int)).length = 0 := rfl; have := @List.length_append _ xs [f2]; have : ([f2] : List (List Int)).length = 1 := rfl; omega⟩, K9, V9, ⟨Recs2.nil _ _⟩, RB9, ⟨fun _ => rfl⟩⟩
            case measure => have := HI.out; simp [intOf, HWI.out]; omega
          · have V9 := Aside0.mk (V8.out.frame HF9.out K8.out.low hK9.low)
            have RB9 := Aside0.mk (HF9.out _ _ _ RB8.out (by decide) (by decide) (by decide) (by decide))
            have y2 := E9.out.cell 2
            have yl := E9.out.lt
            have hba : Below w9.heap.size w9 (w9.alloc (.cells #[.slice A2 L2 c2] TSl)) := (Below.refl _ _).alloc (Nat.le_refl _) _
            have K9 := Aside0.mk (hK9.below hba)
            have Y9 := Aside0.mk (Recs2.lit (w0 := w) (y := ⟨A2, L2, c2⟩) hK9.low.size (GW.out.below hK9.low) (fun ad e h0 => .inl (G2.out.2 ad e h0)))
            have V10 := Aside0.mk (V9.out.below hba)
            have RB10 := Aside0.mk (RB9.out.below hba)
            have hxl : xs.length + ([f2] : List (List Int)).length ≤ 1000000000 := by
              obtain ⟨A', n', c', q1, q2, q3⟩ := V9.out.form
              have := HXL.out
              simp; omega
            have tok1 : True := trivial
            clear hK9 hba
            have hwi := HWI.out
            go_wp2_with (at_builtin; have _t := tok1; go_must (refine app2 (w0 := w) rfl _ _ rfl (.slice A11 n11 c11) xs [f2] (some ⟨w9.heap.size, 0, none⟩) 1 1 rfl rfl V10.out Y9.out K9.out.low hxl ?_); intro v12 w12 hv12 hb12 hg12; have V12 := Aside0.mk hv12; have K12 := Aside0.mk ((K9.out.grown hg12 V10.out.typed).up (show (6 * i + 6 : Int) ≤ 6 * ((i + 1 : Nat) : Int) by omega)); have RB12 := Aside0.mk (RB10.out.grown hg12 (fun e => by obtain ⟨-, cs, hcs⟩ := V10.out.typed rb e.symm; exact absurd rfl (RB10.out.ne hcs (by decide)))); clear _t tok1 hv12 hb12 hg12)
            have hwi := HWI.out
            go_roundw
            case rel => exact ⟨i + 1, s, t, h, ep, (xs ++ [f2]), [], rfl, rfl, rfl, rfl, by first | rfl | (rw [HWI.out]) | go_num, ⟨by have := HI.out; have : ([] : List (List Int)).length = 0 := rfl; have := @List.length_append _ xs [f2]; have : ([f2] : List (List Int)).length = 1 := rfl; omega⟩, K12, V12, ⟨Recs2.nil _ _⟩, RB12, ⟨fun _ => rfl⟩⟩
            case measure => have := HI.out; simp [intOf, HWI.out]; omega
          · have V9 := Aside0.mk (V8.out.frame HF9.out K8.out.low hK9.low)
            have RB9 := Aside0.mk (HF9.out _ _ _ RB8.out (by decide) (by decide) (by decide) (by decide))
            have y2 := E9.out.cell 2
            have yl := E9.out.lt
            have hba : Below w9.heap.size w9 (w9.alloc (.cells #[.slice A2 L2 c2] TSl)) := (Below.refl _ _).alloc (Nat.le_refl _) _
            have K10 := Aside0.mk ((hK9.below hba).up (show (6 * i : Int) ≤ 6 * ((i + 1 : Nat) : Int) by omega))
            have Y10 := Aside0.mk (Recs2.lit (w0 := w) (y := ⟨A2, L2, c2⟩) hK9.low.size (GW.out.below hK9.low) (fun ad e h0 => .inl (G2.out.2 ad e h0)))
            have V10 := Aside0.mk (V9.out.below hba)
            have RB10 := Aside0.mk (RB9.out.below hba)
            clear hK9 hba
            have hwi := HWI.out
            go_wp2
            go_roundw
            case rel => exact ⟨i + 1, s, t, h, ep, xs, [f2], rfl, rfl, rfl, rfl, by first | rfl | (rw [HWI.out]) | go_num, ⟨by have := HI.out; have : ([] : List (List Int)).length = 0 := rfl; have := @List.length_append _ xs [f2]; have : ([f2] : List (List Int)).length = 1 := rfl; omega⟩, K10, V10, Y10, RB10, ⟨fun h => by cases h⟩⟩
            case measure => have := HI.out; simp [intOf, HWI.out]; omega
        case inr =>
          obtain rfl : n12 = 1 := HN12.out
          have hwi := HWI.out
          go_wp2
          go_roundw
          case rel => exact ⟨i + 1, s, t, h, ep, xs, [b], rfl, rfl, rfl, rfl, by first | rfl | (rw [HWI.out]) | go_num, ⟨by have := HI.out; have : ([] : List (List Int)).length = 0 := rfl; have := @List.length_append _ xs [f2]; have : ([f2] : List (List Int)).length = 1 := rfl; omega⟩, K8, V8, Y8, RB8, NI⟩
          case measure => have := HI.out; simp [intOf, HWI.out]; omega
      have f1a : decide (f0 = 1) = false := decide_eq_false hf1
      have f1b : (f0 == 1) = false := by simp [hf1]
      have f1c : (f0 = 1) = False := eq_false hf1
      by_cases hf2 : f0 = 2
      · have f2a : decide (f0 = 2) = true := decide_eq_true hf2
        have f2b : (f0 == 2) = true := by simp [hf2]
        have f2c : (f0 = 2) = True := eq_true hf2
        clear hf2
        clear hf1
        rcases KSM.out with rfl | ⟨b, rfl⟩
        case inl =>
          obtain rfl : n12 = 0 := HN12.out
          go_wp2_with fail
          refine (keep_cut K8.out).mono ?_
          rintro e w9 ⟨h', rfl, hK9, hF9, hHd⟩
          have HD9 := Aside0.mk (hHd w9 (Below.refl _ _))
          have K9 := Aside0.mk hK9
          have Y9 := Aside0.mk (Y8.out.frame hF9 K8.out.low hK9.low)
          have RB9 := Aside0.mk (hF9 _ _ _ RB8.out (by decide) (by decide) (by decide) (by decide))
          clear hK9 hF9 hHd
          go_wp2_with fail
          refine HD9.out.mono ?_
          rintro e w10 ⟨rfl, b10⟩
          have K10 := Aside0.mk (K9.out.below b10)
          have Y10 := Aside0.mk (Y9.out.below b10)
          have RB10 := Aside0.mk (RB9.out.below b10)
          clear b10 K9 Y9 RB9 HD9
          have hwi := HWI.out
          go_wp2
          go_roundw
          case rel => exact ⟨i + 1, s, t, h', ep, [], [], rfl, rfl, rfl, rfl, by first | rfl | (rw [HWI.out]) | go_num, ⟨by have := HI.out; have : ([] : List (List Int)).length = 0 := rfl; have := @List.length_append _ xs [f2]; have : ([f2] : List (List Int)).length = 1 := rfl; omega⟩, K10, ⟨Recs2.nil _ _⟩, Y10, RB10, ⟨fun _ => by simpa using NI.out⟩⟩
          case measure => have := HI.out; simp [intOf, HWI.out]; omega
        case inr =>
          obtain rfl : n12 = 1 := HN12.out
          have hwi := HWI.out
          go_wp2
          go_roundw
          case rel => exact ⟨i + 1, s, t, h, ep, xs, [b], rfl, rfl, rfl, rfl, by first | rfl | (rw [HWI.out]) | go_num, ⟨by have := HI.out; have : ([] : List (List Int)).length = 0 := rfl; have := @List.length_append _ xs [f2]; have : ([f2] : List (List Int)).length = 1 := rfl; omega⟩, K8, V8, Y8, RB8, NI⟩
          case measure => have := HI.out; simp [intOf, HWI.out]; omega
      have f2a : decide (f0 = 2) = false := decide_eq_false hf2
      have f2b : (f0 == 2) = false := by simp [hf2]
      have f2c : (f0 = 2) = False := eq_false hf2
      by_cases hf3 : f0 = 3
      · have f3a : decide (f0 = 3) = true := decide_eq_true hf3
        have f3b : (f0 == 3) = true := by simp [hf3]
        have f3c : (f0 = 3) = True := eq_true hf3
        clear hf3
        clear hf1 hf2
        rcases KSM.out with rfl | ⟨b, rfl⟩
        case inl =>
          obtain rfl : n12 = 0 := HN12.out
          obtain ⟨u, hu⟩ : ∃ u : Int, IntKind.u64.wrap f1 = u := ⟨_, rfl⟩
          have hu0 : 0 ≤ u := by rw [← hu]; exact Int.emod_nonneg _ (by decide)
          have m1 : Int.tmod u 200 = u % 200 := Int.tmod_eq_emod_of_nonneg hu0
          have m2 : IntKind.u64.wrap (u % 200) = u % 200 := IntWalk.u64_in _ (by omega)
          have m3 : IntKind.i64.wrap (u % 200) = u % 200 := IntWalk.i64_in _ (by omega)
          have KPW := Aside0.mk (keep_power K8.out (u % 200) (by omega))
          clear hu0
          go_wp2_with fail
          refine KPW.out.mono ?_
          rintro e w9 ⟨rfl, hK9, hF9⟩
          have K9 := Aside0.mk hK9
          have V9 := Aside0.mk (V8.out.frame hF9 K8.out.low hK9.low)
          have Y9 := Aside0.mk (Y8.out.frame hF9 K8.out.low hK9.low)
          have RB9 := Aside0.mk (hF9 _ _ _ RB8.out (by decide) (by decide) (by decide) (by decide))
          clear hK9 hF9 KPW hu m1 m2 m3
          have hwi := HWI.out
          go_wp2
          go_roundw
          case rel => exact ⟨i + 1, s, t, h, ep, xs, [], rfl, rfl, rfl, rfl, by first | rfl | (rw [HWI.out]) | go_num, ⟨by have := HI.out; have : ([] : List (List Int)).length = 0 := rfl; have := @List.length_append _ xs [f2]; have : ([f2] : List (List Int)).length = 1 := rfl; omega⟩, K9, V9, Y9, RB9, ⟨fun _ => by simpa using NI.out⟩⟩
          case measure => have := HI.out; simp [intOf, HWI.out]; omega
        case inr =>
          obtain rfl : n12 = 1 := HN12.out
          have hwi := HWI.out
          go_wp2
          go_roundw
          case rel => exact ⟨i + 1, s, t, h, ep, xs, [b], rfl, rfl, rfl, rfl, by first | rfl | (rw [HWI.out]) | go_num, ⟨by have := HI.out; have : ([] : List (List Int)).length = 0 := rfl; have := @List.length_append _ xs [f2]; have : ([f2] : List (List Int)).length = 1 := rfl; omega⟩, K8, V8, Y8, RB8, NI⟩
          case measure => have := HI.out; simp [intOf, HWI.out]; omega
      have f3a : decide (f0 = 3) = false := decide_eq_false hf3
      have f3b : (f0 == 3) = false := by simp [hf3]
      have f3c : (f0 = 3) = False := eq_false hf3
      by_cases hf4 : f0 = 4
      · have f4a : decide (f0 = 4) = true := decide_eq_true hf4
        have f4b : (f0 == 4) = true := by simp [hf4]
        have f4c : (f0 = 4) = True := eq_true hf4
        clear hf4
        clear hf1 hf2 hf3
        obtain ⟨V, S, h1, h2, h3, h4, h5⟩ := K8b.out
        have hfit8 := h1.fit
        have hep : 1 ≤ ep ∧ ep ≤ 41 := by have := hfit8.epoch; have := HI.out; have := HFEW.out.2; omega
        have hcl8 : (loseV V f3).cache.length ≤ 900000000 := by show ([] : List (Nat × List Int)).length ≤ _; decide
        have KL := Aside0.mk (keep_lose h1 h2 HK.out (by omega) (by have := HI.out; have := HFEW.out.2; omega) f3 A3 L3 c3 (Kd.C_below G3.out B8.out) (by have := HB2.out; omega))
        have HBY := Aside0.mk h2.bytes
        have L8 := Aside0.mk K8.out.low
        have HEP := Aside0.mk hep
        have HCL := Aside0.mk hcl8
        have HHE := Aside0.mk (⟨h3, h4, h5⟩ : _ ∧ _ ∧ _)
        clear h1 h2 h3 h4 h5 hfit8 hep hcl8
        go_wp2_with fail
        refine KL.out.mono ?_
        rintro e w9 ⟨t9, S9, zs, rfl, b9, hT9, hzs, hS9, hte, hK9, ho9, hop9⟩
        obtain ⟨h3, h4, h5⟩ := HHE.out
        rw [h3, h4] at hS9 ho9 hop9
        have hwe : IntKind.i64.wrap (ep + 1) = ep + 1 := IntWalk.i64_in _ (by have := HEP.out; omega)
        have V9 := Aside0.mk (V8.out.below b9)
        have Y9 := Aside0.mk (Y8.out.below b9)
        have RB9 := Aside0.mk (RB8.out.below b9)
        have L9 := Aside0.mk hT9.low
        have KO := Aside0.mk (tr_open hT9 HCL.out 3 (k : Int) h (ep + 1))
        have HZS := Aside0.mk (⟨hzs, hS9, by omega, hK9, ho9, hop9⟩ : _ ∧ _ ∧ S9.tail ≤ 6 * i + 6 ∧ _ ∧ _ ∧ _)
        have r0 := RB9.out.cell 0
        have r1 := RB9.out.cell 1
        have rl := RB9.out.lt
        clear hzs hS9 hte hK9 ho9 hop9 b9 hT9 KL V8 Y8 RB8 h3 h4 h5 z0 z1 z2 z3 zl
        go_wp2_with fail
        refine KO.out.mono ?_
        rintro e w10 ⟨b10, hp⟩
        obtain ⟨hzs, hS9, hte, hK9, ho9, hop9⟩ := HZS.out
        rw [ho9, hop9] at hp
        rcases hp with ⟨h, -⟩ | ⟨-, s10, v10, rfl, -, hrec, -, hsat⟩
        · cases h
        obtain ⟨Al, cl, rfl, hcl⟩ := recs_form (show Recs _ _ _ zs from hrec)
        have hfit : Fit ⟨3, k, ep + 1, h, S9.tail, false⟩ := by
          have := (hK9.state.resolve_right (fun ⟨b, e, _⟩ => by cases e)).2.fit
          rw [hS9] at this
          exact this
        have hK10 : KeepAt w w10 s10 t9 k h (ep + 1) (6 * i + 6) zs [] := ⟨_, _, hsat hfit, by rw [hS9] at hK9; exact hK9, rfl, rfl, hte⟩
        have K10 := Aside0.mk hK10
        have L10 := Aside0.mk hK10.low
        have Z10 := Aside0.mk (Recs2.ofRecs (w0 := w) hrec L9.out.size)
        have V10 := Aside0.mk (V9.out.below b10)
        have Y10 := Aside0.mk (Y9.out.below b10)
        have RB10 := Aside0.mk (RB9.out.below b10)
        have HZ2 := Aside0.mk hzs
        have hba : Below w10.heap.size w10 (w10.alloc (.cells #[] TSl)) := (Below.refl _ _).alloc (Nat.le_refl _) _
        have M11 := Aside0.mk (Recs2.none (w0 := w10) (W := w10) (Nat.le_refl _))
        clear hwe r0 r1 rl hrec hsat hfit hK10 b10 KO V9 Y9 RB9 hzs hS9 hte hK9 ho9 hop9 hcl HZS L9
        have hx1 : ([] : List (List Int)).length + xs.length ≤ 1000000000 := by have := HXL.out; simp; omega
        have hx2 : (([] : List (List Int)) ++ xs).length + ys.length ≤ 1000000000 := by
          have := HXL.out
          rcases KSM.out with rfl | ⟨b, rfl⟩
          · simp; omega
          · simp; omega
        have HX1 := Aside0.mk hx1
        have HX2 := Aside0.mk hx2
        have HBA := Aside0.mk hba
        have SZ10 := Aside0.mk L10.out.size
        clear hx1 hx2 hba
        have tok1 : True := trivial
        have tok2 : True := trivial
        go_wp2_with (at_builtin; first           | (have _t := tok1;             go_must (refine app3 (w0 := w) (w1 := w10) SZ10.out rfl _ _ rfl (.slice (some ⟨w10.heap.size, 0, none⟩) 0 0) [] xs A11 n11 c11 rfl rfl M11.out (V10.out.below HBA.out) HBA.out HX1.out ?_);             intro v12 w12 hv12 hb12; have M12 := Aside0.mk hv12; have B12 := Aside0.mk hb12; clear _t tok1 hv12 hb12)           | (have _t := tok2;             go_must (refine app3 (w0 := w) (w1 := w10) SZ10.out rfl _ _ rfl v12 ([] ++ xs) ys A12 n12 c12 rfl rfl M12.out (Y10.out.below B12.out) B12.out HX2.out ?_);             intro v14 w14 hv14 hb14; have M14 := Aside0.mk hv14; have B14 := Aside0.mk hb14; clear _t tok2 hv14 hb14))
        obtain ⟨A14, n14, c14, rfl, hn14, -⟩ := M14.out.form
        have hn11 : n11 = xs.length := by
          obtain ⟨_, _, _, e, hn, -⟩ := V10.out.form
          cases e
          exact hn
        have hyl : ys.length ≤ 1 := by
          rcases KSM.out with rfl | ⟨b, rfl⟩
          · exact Nat.zero_le _
          · exact Nat.le_refl _
        have hzl : zs.length ≤ xs.length + 1 := by
          rcases HZ2.out with e | e
          · rw [e]; omega
          · rw [e, List.length_append]; omega
        have hzb : ∀ b, b ∈ zs → Bytes b := fun b hb => HBY.out b (by
          rcases HZ2.out with e | e
          · rw [e] at hb; exact List.mem_append_left _ hb
          · rw [e] at hb; exact hb)
        have hm14 : (([] : List (List Int)) ++ xs) ++ ys = xs ++ ys := rfl
        have hxl := HXL.out
        have KS1 := Aside0.mk (fun w' (hb : Below w14.heap.size w14 w') => same_calls2 w w zs xs hzb (fun b hb => HBY.out b (List.mem_append_left _ hb)) Al A11 zs.length n11 cl c11 w' ((Z10.out.below B14.out).below hb) ((V10.out.below B14.out).below hb) rfl hn11.symm (by omega) (by omega))
        have KS2 := Aside0.mk (fun w' (hb : Below w14.heap.size w14 w') => same_calls2 w w10 zs (xs ++ ys) hzb HBY.out Al A14 zs.length n14 cl c14 w' ((Z10.out.below B14.out).below hb) (M14.out.below hb) rfl hn14.symm (by omega) (by rw [hn14, hm14, List.length_append]; omega))
        have K14 := Aside0.mk (K10.out.below B14.out)
        have Z14 := Aside0.mk (Z10.out.below B14.out)
        have RB14 := Aside0.mk (RB10.out.below B14.out)
        have HZL := Aside0.mk hzl
        clear hn14 hn11 hyl hzl hzb hm14 hxl B12 B14 M12 M14 HBA V10 Y10
        cases hd : decide (zs = xs) with
        | true =>
          go_wp2_with fail
          refine (KS1.out w14 (Below.refl _ _)).mono ?_
          rintro e w15 ⟨rfl, b15⟩
          rw [hd]
          have K15 := Aside0.mk ((K14.out.below b15).up (show (6 * i + 6 : Int) ≤ 6 * ((i + 1 : Nat) : Int) by omega))
          have Z15 := Aside0.mk (Z14.out.below b15)
          have RB15 := Aside0.mk (RB14.out.below b15)
          clear b15 KS1 KS2 hd
          have hwi := HWI.out
          go_wp2
          go_roundw
          case rel => exact ⟨i + 1, s10, t9, h, ep + 1, zs, [], rfl, rfl, rfl, rfl, by first | rfl | (rw [HWI.out]) | go_num, ⟨by have := HI.out; have := HZL.out; omega⟩, K15, Z15, ⟨Recs2.nil _ _⟩, RB15, ⟨fun _ => rfl⟩⟩
          case measure => have := HI.out; simp [intOf, HWI.out]; omega
        | false =>
          have hz2 : decide (zs = xs ++ ys) = true := decide_eq_true (HZ2.out.resolve_left (of_decide_eq_false hd))
          go_wp2_with fail
          refine (KS1.out w14 (Below.refl _ _)).mono ?_
          rintro e w15 ⟨rfl, b15⟩
          rw [hd]
          have KS3 := Aside0.mk (KS2.out w15 b15)
          have K15 := Aside0.mk (K14.out.below b15)
          have Z15 := Aside0.mk (Z14.out.below b15)
          have RB15 := Aside0.mk (RB14.out.below b15)
          clear b15 KS1 KS2 K14 Z14 RB14
          have HZ3 := Aside0.mk hz2
          clear hd hz2
          go_wp2_with fail
          refine KS3.out.mono ?_
          rintro e w16 ⟨rfl, b16⟩
          rw [HZ3.out]
          have K16 := Aside0.mk ((K15.out.below b16).up (show (6 * i + 6 : Int) ≤ 6 * ((i + 1 : Nat) : Int) by omega))
          have Z16 := Aside0.mk (Z15.out.below b16)
          have RB16 := Aside0.mk (RB15.out.below b16)
          clear b16 KS3
          have hwi := HWI.out
          go_wp2
          go_roundw
          case rel => exact ⟨i + 1, s10, t9, h, ep + 1, zs, [], rfl, rfl, rfl, rfl, by first | rfl | (rw [HWI.out]) | go_num, ⟨by have := HI.out; have := HZL.out; omega⟩, K16, Z16, ⟨Recs2.nil _ _⟩, RB16, ⟨fun _ => rfl⟩⟩
          case measure => have := HI.out; simp [intOf, HWI.out]; omega
      have f4a : decide (f0 = 4) = false := decide_eq_false hf4
      have f4b : (f0 == 4) = false := by simp [hf4]
      have f4c : (f0 = 4) = False := eq_false hf4
      clear hf1 hf2 hf3 hf4
      have hwi := HWI.out
      go_wp2
      go_roundw
      case rel => exact ⟨i + 1, s, t, h, ep, xs, ys, rfl, rfl, rfl, rfl, by first | rfl | (rw [HWI.out]) | go_num, ⟨by have := HI.out; have : ([] : List (List Int)).length = 0 := rfl; have := @List.length_append _ xs [f2]; have : ([f2] : List (List Int)).length = 1 := rfl; omega⟩, K8, V8, Y8, RB8, NI⟩
      case measure => have := HI.out; simp [intOf, HWI.out]; omega
    · have t1 : decide ((i : Int) < (n : Int)) = false := decide_eq_false (by omega)
      have t1n : decide (i < n) = false := decide_eq_false hi
      have BE := Aside0.mk hK.out.low
      clear hi
      go_wp2
      go_ret
      exact ⟨rfl, BE.out⟩
end Go.Proofs.Ytddhngalokmdoaa.Spo

/- A slice that came in, of elements of any described kind (Kd): opened by one law for its elements. -/
namespace Go.Proofs.Ytddhngalokmdoaa.Okd
open Go.Deep Go.ChangeShapes Go.WideShapes Go.ChangeAt Go.RowKit Go.Proofs.YtddhngalokmdoaaW.PrintWords
set_option linter.unusedVariables false
set_option linter.unusedSimpArgs false
section
variable {H : Type} {enc : TypeId × Value → H} {P : Program} {w : World} {base : Nat} {sp : Nat → Bool} {held : Bool}
theorem add_blk (a : Addr) (k : Nat) : (a.add k).block = a.block := by unfold Addr.add; split <;> rfl
theorem add_two (a : Addr) (k i : Nat) : a.add (k + i) = (a.add k).add i := by
  unfold Addr.add
  by_cases h1 : k = 0
  · subst h1
    by_cases h2 : i = 0 <;> simp [h2]
  · by_cases h2 : i = 0
    · simp [h1, h2]
    · simp [h1, h2, Nat.add_assoc]
theorem mapM_length {α β : Type} {f : α → Option β} : ∀ {l : List α} {r : List β}, l.mapM f = some r → r.length = l.length
  | [], r, h => by simp at h; subst h; rfl
  | x :: l, r, h => by
    rw [List.mapM_cons] at h
    cases hx : f x with
    | none => rw [hx] at h; simp at h
    | some y =>
      rw [hx] at h
      cases hl : l.mapM f with
      | none => rw [hl] at h; simp at h
      | some ys => rw [hl] at h; simp at h; subst h; simp [mapM_length hl]
/-- One slice, whose elements 'htr' opens. -/
theorem open_cells {α : Type} [Inhabited α] (d : Kd α) {t e : TypeId} {fuel : Nat} {cs : List Value} {y : DataW H × List MemPlace} (good : α → Prop) (ht : P.underlying t = some (.slice e)) (hs : P.cellsOf e = d.sz)
    (htr : ∀ n cs y, DataW.trod enc P w base sp held n e cs = some y → ∃ x, d.K w x cs ∧ good x) (h : DataW.trod enc P w base sp held fuel t cs = some y) :
    ∃ (A : Option Addr) (cap : Nat) (xs : List α), cs = [.slice A xs.length cap] ∧ xs.length ≤ cap ∧ xs.length ≤ 9223372036854775807 ∧ d.C w A xs.length xs ∧ ∀ k, k ∈ xs → good k := by
  rcases open_slice ht h with ⟨hcs, hx⟩ | ⟨a, len, cap, m, n, D, Pl, hcs, hb, hl, hmx, hm, hx, hel⟩
  · exact ⟨none, 0, [], hcs, Nat.le_refl _, Nat.zero_le _, Kd.C_nil d w, fun k hk => by simp at hk⟩
  · have hlm : len ≤ m := by rw [hm]; split <;> omega
    obtain ⟨X, hX⟩ := choose_lt (α := α) (n := len) (p := fun i x => ∃ c, w.cells? base (a.add (i * d.sz)) d.sz = some c ∧ d.K w x c ∧ good x) (fun i hi => by
      obtain ⟨cs', h1, h2⟩ := hel i (by omega)
      rw [hs] at h1
      obtain ⟨x, h3, h4⟩ := htr _ _ _ h2
      exact ⟨x, cs', h1, h3, h4⟩)
    have hlen : ((List.range len).map X).length = len := by simp
    have hmx' : len ≤ 9223372036854775807 := by unfold maxLen at hmx; omega
    refine ⟨some a, cap, (List.range len).map X, by rw [hlen]; exact hcs, by rw [hlen]; exact hl, by rw [hlen]; exact hmx', ?_, fun k hk => ?_⟩
    · rw [hlen]
      refine ⟨hlen, by omega, fun _ => ⟨a, rfl, fun j p hj => ?_⟩⟩
      have hjl : j < len := by have := (List.getElem?_eq_some_iff.1 hj).1; simpa using this
      obtain rfl : X j = p := by simpa [hjl] using hj
      obtain ⟨c, h1, h2, h3⟩ := hX j hjl
      refine ⟨c, d.K_len h2, h2, fun i u hi => ?_⟩
      unfold World.cells? at h1
      rw [if_pos (by rw [add_blk]; exact hb)] at h1
      have hi3 : i < d.sz := by rw [← d.K_len h2]; exact (List.getElem?_eq_some_iff.1 hi).1
      obtain ⟨b, hb1, hb2⟩ := Lib.mapM_at h1 i i (by simp [hi3])
      rw [hi] at hb1
      obtain rfl := Option.some.inj hb1
      rw [← hb2]
      show w.cell? (a.add (j * d.sz + i)) = _
      rw [add_two]
    · obtain ⟨i, hi, rfl⟩ := List.mem_map.1 hk
      obtain ⟨_, -, -, h⟩ := hX i (List.mem_range.1 hi)
      exact h
/-- .. as a value of a parameter. -/
theorem open_kd {α : Type} [Inhabited α] (k : Kd α) {r : Reach} {b0 : Nat} {t e : TypeId} {v : Value} {d : DataW H} {ps : List MemPlace} (good : α → Prop) (ht : P.underlying t = some (.slice e)) (hs : P.cellsOf e = k.sz)
    (htr : ∀ n cs y, DataW.trod enc P w base sp held n e cs = some y → ∃ x, k.K w x cs ∧ good x) (hv : Value.okWide P w r b0 t v) (h : DataW.Trod enc P w base sp held t v d ps) :
    ∃ (A : Option Addr) (cap : Nat) (xs : List α), v = .slice A xs.length cap ∧ xs.length ≤ cap ∧ xs.length ≤ 9223372036854775807 ∧ k.C w A xs.length xs ∧ ∀ x, x ∈ xs → good x := by
  obtain ⟨a1, len, cap, rfl⟩ := okWide_slice ht hv
  obtain ⟨fuel, hf⟩ := h
  obtain ⟨A, cap', xs, h1, h2⟩ := open_cells k good ht hs htr hf
  refine ⟨A, cap', xs, ?_, h2⟩
  simpa [Value.cells] using h1
/-- Elements: an integer, a bool, a string, bytes, bools. -/
theorem el_int {t : TypeId} {k : IntKind} (ht : P.underlying t = some (.int k)) {n : Nat} {cs : List Value} {y : DataW H × List MemPlace} (h : DataW.trod enc P w base sp held n t cs = some y) : ∃ x : Int, (Kd.int k).K w x cs ∧ (Lit.int k x).wf = true := by
  obtain ⟨x, h1, h2, h3⟩ := DataW.trod_int ht h
  exact ⟨x, h1, h3⟩
theorem el_bool {t : TypeId} (ht : P.underlying t = some .bool) {n : Nat} {cs : List Value} {y : DataW H × List MemPlace} (h : DataW.trod enc P w base sp held n t cs = some y) : ∃ x : Bool, Kd.bool.K w x cs ∧ True := by
  obtain ⟨x, h1, h2⟩ := DataW.trod_bool ht h
  exact ⟨x, h1, trivial⟩
theorem el_string {t : TypeId} (ht : P.underlying t = some .string) {n : Nat} {cs : List Value} {y : DataW H × List MemPlace} (h : DataW.trod enc P w base sp held n t cs = some y) : ∃ x : ByteArray, Kd.string.K w x cs ∧ x.size ≤ 9223372036854775807 := by
  obtain ⟨x, h1, h2, h3⟩ := DataW.trod_string ht h
  exact ⟨x, h1, by unfold maxLen at h3; omega⟩
theorem el_slice {α : Type} [Inhabited α] (d : Kd α) (q : Nat) {t e : TypeId} (good : α → Prop) (ht : P.underlying t = some (.slice e)) (hs : P.cellsOf e = d.sz)
    (htr : ∀ n cs y, DataW.trod enc P w base sp held n e cs = some y → ∃ x, d.K w x cs ∧ good x) {n : Nat} {cs : List Value} {y : DataW H × List MemPlace} (h : DataW.trod enc P w base sp held n t cs = some y) :
    ∃ xs : List α, (Kd.slice q d).K w xs cs ∧ (xs.length ≤ 9223372036854775807 ∧ ∀ x, x ∈ xs → good x) := by
  obtain ⟨A, cap, xs, h1, h2, h3, h4, h5⟩ := open_cells d good ht hs htr h
  exact ⟨xs, ⟨A, cap, h1, h2, h4⟩, h3, h5⟩
end
end Go.Proofs.Ytddhngalokmdoaa.Okd
