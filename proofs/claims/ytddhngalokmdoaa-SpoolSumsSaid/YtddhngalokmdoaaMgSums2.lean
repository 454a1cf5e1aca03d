/- Texts of this claim, merged: Qg, Tra, Tse, Trd, Qy, Tfl, Twr, Spr. -/
import Derived.Test.YtddhngalokmdoaaMgSums1
import Derived.Test.YtddhngalokmdoaaPSpoolPlaysx0
import Derived.Laws.OwnMore
import Derived.Laws.CopyOwn
/- The head's operations, a guard ahead of them or none. Any program. -/
namespace Go.Proofs.Ytddhngalokmdoaa.Qg
open Go.RowKit
set_option linter.unusedVariables false
section
variable {P : Program} {ops : Array Oper} {C : World → Prop} {Q : Act → Prop} {a : Act} {o : Oper} {rest : List Oper}
theorem q_val (hw : Region.wanted o (yielded ops a.tmps) = true)
    (h : ∃ v, (∀ w, C w → (execOp a.eval o).run P w = .ok (.value v) w) ∧ ∀ K : Act → Prop, (∀ a, wpQuiet P ops C Q rest a → K a) → K (a.put o.dst v)) : wpQuiet P ops C Q (o :: rest) a := by
  obtain ⟨v, hr, h⟩ := h
  refine wpQuiet_step fun K hK => ?_
  rw [if_pos hw]
  refine ⟨v, fun w hw => ?_, h K hK⟩
  unfold Oper.quietAt
  rw [hr w hw]
  exact ⟨rfl, rfl⟩
theorem q_call (hw : Region.wanted o (yielded ops a.tmps) = true)
    (h : ∃ f args, (∀ w, (execOp a.eval o).run P w = .ok (.enter f args) w) ∧ ∃ v, (∀ w, C w → Calls P f args w fun e w' => e = .returned v ∧ C w') ∧
      ∀ K : Act → Prop, (∀ a, wpQuiet P ops C Q rest a → K a) → K (a.put o.dst v)) : wpQuiet P ops C Q (o :: rest) a := by
  obtain ⟨f, args, hr, v, hc, h⟩ := h
  refine wpQuiet_step fun K hK => ?_
  rw [if_pos hw]
  refine ⟨v, fun w hw => ?_, h K hK⟩
  unfold Oper.quietAt
  rw [hr w]
  exact ⟨rfl, hc w hw⟩
theorem q_skip (hw : Region.wanted o (yielded ops a.tmps) = false) (h : ∀ K : Act → Prop, (∀ a, wpQuiet P ops C Q rest a → K a) → K (a.put o.dst undef)) : wpQuiet P ops C Q (o :: rest) a := by
  refine wpQuiet_step fun K hK => ?_
  rw [if_neg (by rw [hw]; decide)]
  exact h K hK
theorem wanted_on {j d : Nat} {b : Bool} (hg : o.guard = some (j, b)) (hd : (ops[j]?).bind (·.dst) = some d) (hv : a.tmps[d]? = some (.bool b)) : Region.wanted o (yielded ops a.tmps) = true := by
  simp [Region.wanted, yielded, hg, hd, hv]
theorem wanted_off {j d : Nat} {b : Bool} (hg : o.guard = some (j, b)) (hd : (ops[j]?).bind (·.dst) = some d) (hv : a.tmps[d]? = some (.bool (!b))) : Region.wanted o (yielded ops a.tmps) = false := by
  simp [Region.wanted, yielded, hg, hd, hv]
theorem wanted_never {j d : Nat} {b : Bool} (hg : o.guard = some (j, b)) (hd : (ops[j]?).bind (·.dst) = some d) (hv : a.tmps[d]? = some undef) : Region.wanted o (yielded ops a.tmps) = false := by
  simp [Region.wanted, yielded, hg, hd, hv, undef]
/-- A guard that lets by. -/
theorem on_val {j d : Nat} {b : Bool} (hg : o.guard = some (j, b)) (hd : (ops[j]?).bind (·.dst) = some d) (hv : a.tmps[d]? = some (.bool b))
    (h : ∃ v, (∀ w, C w → (execOp a.eval o).run P w = .ok (.value v) w) ∧ ∀ K : Act → Prop, (∀ a, wpQuiet P ops C Q rest a → K a) → K (a.put o.dst v)) : wpQuiet P ops C Q (o :: rest) a :=
  q_val (wanted_on hg hd hv) h
theorem on_call {j d : Nat} {b : Bool} (hg : o.guard = some (j, b)) (hd : (ops[j]?).bind (·.dst) = some d) (hv : a.tmps[d]? = some (.bool b))
    (h : ∃ f args, (∀ w, (execOp a.eval o).run P w = .ok (.enter f args) w) ∧ ∃ v, (∀ w, C w → Calls P f args w fun e w' => e = .returned v ∧ C w') ∧
      ∀ K : Act → Prop, (∀ a, wpQuiet P ops C Q rest a → K a) → K (a.put o.dst v)) : wpQuiet P ops C Q (o :: rest) a :=
  q_call (wanted_on hg hd hv) h
theorem off {j d : Nat} {b : Bool} (hg : o.guard = some (j, b)) (hd : (ops[j]?).bind (·.dst) = some d) (hv : a.tmps[d]? = some (.bool (!b)))
    (h : ∀ K : Act → Prop, (∀ a, wpQuiet P ops C Q rest a → K a) → K (a.put o.dst undef)) : wpQuiet P ops C Q (o :: rest) a :=
  q_skip (wanted_off hg hd hv) h
/-- A guard that was not reckoned itself. -/
theorem never {j d : Nat} {b : Bool} (hg : o.guard = some (j, b)) (hd : (ops[j]?).bind (·.dst) = some d) (hv : a.tmps[d]? = some undef)
    (h : ∀ K : Act → Prop, (∀ a, wpQuiet P ops C Q rest a → K a) → K (a.put o.dst undef)) : wpQuiet P ops C Q (o :: rest) a :=
  q_skip (wanted_never hg hd hv) h
theorem on_val' (h : ∃ j b d, o.guard = some (j, b) ∧ (ops[j]?).bind (·.dst) = some d ∧ a.tmps[d]? = some (.bool b) ∧
      ∃ v, (∀ w, C w → (execOp a.eval o).run P w = .ok (.value v) w) ∧ ∀ K : Act → Prop, (∀ a, wpQuiet P ops C Q rest a → K a) → K (a.put o.dst v)) : wpQuiet P ops C Q (o :: rest) a := by
  obtain ⟨j, b, d, hg, hd, hv, h⟩ := h
  exact on_val hg hd hv h
theorem on_call' (h : ∃ j b d, o.guard = some (j, b) ∧ (ops[j]?).bind (·.dst) = some d ∧ a.tmps[d]? = some (.bool b) ∧
      ∃ f args, (∀ w, (execOp a.eval o).run P w = .ok (.enter f args) w) ∧ ∃ v, (∀ w, C w → Calls P f args w fun e w' => e = .returned v ∧ C w') ∧
      ∀ K : Act → Prop, (∀ a, wpQuiet P ops C Q rest a → K a) → K (a.put o.dst v)) : wpQuiet P ops C Q (o :: rest) a := by
  obtain ⟨j, b, d, hg, hd, hv, h⟩ := h
  exact on_call hg hd hv h
theorem off' (h : ∃ j b d, o.guard = some (j, b) ∧ (ops[j]?).bind (·.dst) = some d ∧ a.tmps[d]? = some (.bool (!b)) ∧
      ∀ K : Act → Prop, (∀ a, wpQuiet P ops C Q rest a → K a) → K (a.put o.dst undef)) : wpQuiet P ops C Q (o :: rest) a := by
  obtain ⟨j, b, d, hg, hd, hv, h⟩ := h
  exact off hg hd hv h
theorem never' (h : ∃ j b d, o.guard = some (j, b) ∧ (ops[j]?).bind (·.dst) = some d ∧ a.tmps[d]? = some undef ∧
      ∀ K : Act → Prop, (∀ a, wpQuiet P ops C Q rest a → K a) → K (a.put o.dst undef)) : wpQuiet P ops C Q (o :: rest) a := by
  obtain ⟨j, b, d, hg, hd, hv, h⟩ := h
  exact never hg hd hv h
end
end Go.Proofs.Ytddhngalokmdoaa.Qg

/- A tray in memory: Sectors, has, step, Power. -/
namespace Go.Proofs.Ytddhngalokmdoaa.Spo
open Go.RowKit Go.Proofs.YtddhngalokmdoaaW.PrintWords Go.Proofs.YtddhngalokmdoaaW.PrintLast Go.Proofs.YtddhngalokmdoaaW.PrintMore Go.Proofs.Ytddhngalokmdoaa.Arr Go.Proofs.Ytddhngalokmdoaa.PSpoolPlays
set_option linter.unusedVariables false
set_option linter.unusedSimpArgs false

abbrev TTr : TypeId := 79
abbrev TSe : TypeId := 81
abbrev TCa : TypeId := 83
abbrev kSe : Kd (List Int) := bytesK 128
abbrev kCa : Kd (Int × List Int) := stampK 128
abbrev trayC (kv cv : Value) (V : TrayV) : Array Value := #[kv, cv, .int .i64 V.left, .bool V.dark]
abbrev ptrT (t : Nat) : Value := .pointer (some ⟨t, 0, none⟩)
/-- A tray in memory; its blocks are of P. -/
structure TAt (P : Nat → Prop) (w : World) (t : Nat) (V : TrayV) : Prop where mk ::
  out : ∃ kv cv, Blk w t TTr (trayC kv cv V) ∧ kSe.R TSe w 0 P kv V.kept ∧ kCa.R TCa w 0 P cv V.cache ∧ P t
section
variable {P : Nat → Prop} {w w1 : World} {t : Nat} {V : TrayV}
theorem TAt.below (h : TAt P w t V) (hb : Below w.heap.size w w1) : TAt P w1 t V := by
  obtain ⟨kv, cv, h1, h2, h3, h4⟩ := h.out
  exact ⟨kv, cv, h1.below hb, Kd.R_below h2 hb, Kd.R_below h3 hb, h4⟩
theorem TAt.mono {Q : Nat → Prop} (h : TAt P w t V) (hP : ∀ j, j < w.heap.size → P j → Q j) : TAt Q w t V := by
  obtain ⟨kv, cv, h1, h2, h3, h4⟩ := h.out
  refine ⟨kv, cv, h1, ?_, ?_, hP _ h1.lt h4⟩
  · exact Kd.R_mono (Kd.R_bound h2) fun k hk => hP k hk.2.2.1 hk.1
  · exact Kd.R_mono (Kd.R_bound h3) fun k hk => hP k hk.2.2.1 hk.1
/-- What a call on another shape has turned leaves it. -/
theorem TAt.onlyP {Q : Nat → Prop} (h : TAt P w t V) (ho : OnlyP Q w w1) (hn : ∀ j, j < w.heap.size → P j → ¬ Q j) : TAt P w1 t V := by
  obtain ⟨kv, cv, h1, h2, h3, h4⟩ := h.out
  exact ⟨kv, cv, ho.blk h1 (hn _ h1.lt h4), flat_move h2 (fun k hk => ho.block k (flat_lt h2 k hk).1 (hn k (flat_lt h2 k hk).1 (flat_lt h2 k hk).2)), flat_move h3 (fun k hk => ho.block k (flat_lt h3 k hk).1 (hn k (flat_lt h3 k hk).1 (flat_lt h3 k hk).2)), h4⟩
end
set_option maxHeartbeats 4000000 in
theorem sectors_calls (P : Nat → Prop) (t : Nat) (V : TrayV) (w : World) (H : TAt P w t V) :
    Calls Try.prog 37 #[ptrT t] w fun e w' => e = .returned (.int .i64 (V.kept.length : Int)) ∧ Below w.heap.size w w' := by
  obtain ⟨kv, cv, h1, h2, h3, h4⟩ := H.out
  obtain ⟨Ak, ck, rfl⟩ := Kd.R_slice h2
  have c0 := h1.cell 0
  have lt := h1.lt
  clear H h2 h3 h4
  go_enter Try.func37, Try.ntmps37
  go_wp2
  go_ret
  exact ⟨rfl, Below.refl _ _⟩
set_option maxHeartbeats 4000000 in
theorem has_calls (P : Nat → Prop) (t : Nat) (V : TrayV) (at_ : Int) (w : World) (H : TAt P w t V) :
    Calls Try.prog 33 #[ptrT t, .int .i64 at_] w fun e w' => e = .returned (.bool (hasV V at_)) ∧ Below w.heap.size w w' := by
  obtain ⟨kv, cv, h1, h2, h3, h4⟩ := H.out
  obtain ⟨Ak, ck, rfl⟩ := Kd.R_slice h2
  have c0 := h1.cell 0
  have lt := h1.lt
  obtain ⟨n, hn⟩ : ∃ n, V.kept.length = n := ⟨_, rfl⟩
  unfold hasV
  rw [hn] at c0 ⊢
  clear H h1 h2 h3 h4 hn
  by_cases h0 : 0 ≤ at_
  · have t1 : decide (at_ ≥ 0) = true := decide_eq_true h0
    rw [decide_eq_true h0]
    by_cases h5 : at_ < (n : Int)
    · have t2 : decide (at_ < (n : Int)) = true := decide_eq_true h5
      rw [t2]
      clear h0 h5
      go_enter Try.func33, Try.ntmps33
      go_wp2
      go_ret
      exact ⟨rfl, Below.refl _ _⟩
    · have t2 : decide (at_ < (n : Int)) = false := decide_eq_false h5
      rw [t2]
      clear h0 h5
      go_enter Try.func33, Try.ntmps33
      go_wp2
      go_ret
      exact ⟨rfl, Below.refl _ _⟩
  · have t1 : decide (at_ ≥ 0) = false := decide_eq_false h0
    rw [decide_eq_false h0]
    clear h0
    go_enter Try.func33, Try.ntmps33
    go_wp2
    go_ret
    exact ⟨by first | rfl | simp, Below.refl _ _⟩
/-- A tray whose own cells are stored into. -/
theorem TAt.set {P : Nat → Prop} {w : World} {t : Nat} {V V' : TrayV} {kv cv : Value} {w1 : World} {cs : Array Value} (h2 : kSe.R TSe w 0 P kv V.kept) (h3 : kCa.R TCa w 0 P cv V.cache) (h4 : P t)
    (hB : Blk w1 t TTr cs) (hc : cs = trayC kv cv V') (hk : V'.kept = V.kept) (hk2 : V'.cache = V.cache) (hb : ∀ k, k ≠ t → w1.heap[k]? = w.heap[k]?) (ht : ∃ cs0, Blk w t TTr cs0) : TAt P w1 t V' := by
  obtain ⟨cs0, ht⟩ := ht
  refine ⟨kv, cv, by rw [← hc]; exact hB, ?_, ?_, h4⟩
  · rw [hk]
    exact flat_move h2 fun k hk => hb k fun e => Kd.R_ne h2 ht.out (by decide) (by rw [hk, e])
  · rw [hk2]
    exact flat_move h3 fun k hk => hb k fun e => Kd.R_ne h3 ht.out (by decide) (by rw [hk, e])
set_option maxHeartbeats 4000000 in
theorem step_calls (P : Nat → Prop) (t : Nat) (V : TrayV) (w : World) (hl : V.left ≤ 9223372036854775807) (H : TAt P w t V) :
    Calls Try.prog 34 #[ptrT t] w fun e w' => e = .returned (.bool (stepV V).2) ∧ TAt P w' t (stepV V).1 ∧ OnlyP P w w' := by
  obtain ⟨kv, cv, h1, h2, h3, h4⟩ := H.out
  have c2 := h1.cell 2
  have c3 := h1.cell 3
  have f2 := h1.frozen 2
  have f3 := h1.frozen 3
  have lt := h1.lt
  obtain ⟨kept, cache, left, dark⟩ := V
  simp only at c2 c3 hl h1 h2 h3
  have K := Aside0.mk (⟨h1, h2, h3, h4⟩ : _ ∧ _ ∧ _ ∧ _)
  unfold stepV
  simp only
  clear H h1 h2 h3 h4
  by_cases h0 : left = 0
  · rw [if_pos h0]
    subst h0
    go_enter Try.func34, Try.ntmps34
    go_wp2
    go_ret
    obtain ⟨h1, h2, h3, h4⟩ := K.out
    refine ⟨rfl, TAt.set (V := ⟨kept, cache, 0, dark⟩) h2 h3 h4 (h1.set 3 (.bool true)) rfl rfl rfl (fun k hk => Below.heap_setCell w _ _ k hk) ⟨_, h1⟩, (OnlyP.refl P w).setCell (.inl h4) _⟩
  · rw [if_neg h0]
    have t0 : decide (left = 0) = false := decide_eq_false h0
    have t1 : (left == 0) = false := by simpa using h0
    have t2 : (left = 0) = False := eq_false h0
    by_cases hp : 0 < left
    · rw [if_pos hp]
      have t3 : decide (left > 0) = true := decide_eq_true hp
      have hw : IntKind.i64.wrap (left - 1) = left - 1 := IntWalk.i64_in _ (by omega)
      clear h0 hp
      go_enter Try.func34, Try.ntmps34
      go_wp2
      go_ret
      obtain ⟨h1, h2, h3, h4⟩ := K.out
      refine ⟨rfl, TAt.set (V := ⟨kept, cache, left, dark⟩) h2 h3 h4 (h1.set 2 (.int .i64 (left - 1))) rfl rfl rfl (fun k hk => Below.heap_setCell w _ _ k hk) ⟨_, h1⟩, (OnlyP.refl P w).setCell (.inl h4) _⟩
    · rw [if_neg hp]
      have t3 : decide (left > 0) = false := decide_eq_false hp
      clear h0 hp
      go_enter Try.func34, Try.ntmps34
      go_wp2
      go_ret
      obtain ⟨h1, h2, h3, h4⟩ := K.out
      exact ⟨rfl, ⟨kv, cv, h1, h2, h3, h4⟩, OnlyP.refl P w⟩
end Go.Proofs.Ytddhngalokmdoaa.Spo

/- A tray: settle. -/
namespace Go.Proofs.Ytddhngalokmdoaa.Spo
open Go.RowKit Go.Proofs.YtddhngalokmdoaaW.PrintWords Go.Proofs.YtddhngalokmdoaaW.PrintLast Go.Proofs.YtddhngalokmdoaaW.PrintMore Go.Proofs.Ytddhngalokmdoaa.Arr Go.Proofs.Ytddhngalokmdoaa.PSpoolPlays
set_option linter.unusedVariables false
set_option linter.unusedSimpArgs false

/-- 128 zeros. -/
def zB : List Int := List.replicate 128 0
def zCa : List Value := Value.int .i64 0 :: nums .u8 zB
theorem zCa_len : zCa.toArray.size = 129 := by simp [zCa, zB, nums]
theorem zeroCa : ∀ w, (zeroValue TCa).run Try.prog w = .ok (.agg zCa.toArray) w := fun w => by kernel_rfl
theorem infoCa : (Try.prog.info? TCa).map (·.size) = some 129 := by kernel_rfl
theorem infoSe : (Try.prog.info? TSe).map (·.size) = some 128 := by kernel_rfl
def stampC (x : Int × List Int) : List Value := Value.int .i64 x.1 :: nums .u8 x.2
theorem stampC_length {x : Int × List Int} (h : x.2.length = 128) : (stampC x).length = 129 := by simp [stampC, nums, h]
theorem nums_len (l : List Int) : (nums .u8 l).length = l.length := by simp [nums]
theorem stamp_one (x : Int × List Int) : (stampC x).toArray.all (·.oneCell') = true := all_oneCell_toArray fun v hv => by
  rcases List.mem_cons.1 hv with rfl | hv
  · rfl
  · exact nums_one .u8 _ v hv
/-- A variable that holds a stamp: its number and its bytes. -/
theorem stamp_blk {w : World} {g : Nat} {T : TypeId} {x : Int × List Int} (h : Blk w g T (stampC x).toArray) : w.cell? ⟨g, 0, none⟩ = some (.int .i64 x.1) ∧ w.rangeAt g 1 (nums .u8 x.2) := by
  refine ⟨by rw [h.cell]; rfl, fun j v hj => ?_⟩
  rw [h.cell, Nat.add_comm]
  simpa [stampC] using hj
set_option maxHeartbeats 8000000 in
set_option maxRecDepth 100000 in
theorem settle_calls (P Q : Nat → Prop) (kept : List (List Int)) (l : List (Int × List Int)) (gk n ck : Nat) (Ac : Option Addr) (cc m : Nat) (w : World)
    (hR : kSe.R TSe w 0 P (.slice (some ⟨gk, 0, none⟩) n ck) kept) (hC : kCa.R TCa w 0 Q (.slice Ac m cc) l) (hl : ∀ x, x ∈ l → 0 ≤ x.1 ∧ x.1 < kept.length ∧ x.2.length = 128) (hk : 0 < kept.length) (hn : kept.length ≤ 4096) (hm : l.length ≤ 1000000000) :
    Calls Try.prog 44 #[.slice (some ⟨gk, 0, none⟩) n ck, .slice Ac m cc] w fun e w' => e = .returned (.tuple #[]) ∧ kSe.R TSe w' 0 P (.slice (some ⟨gk, 0, none⟩) n ck) (settleV kept l) ∧ OnlyP (fun j => j = gk) w w' := by
  have hml : m = l.length := by
    obtain ⟨A, c, e, _⟩ := Kd.R_reads hC
    injection e
  have hnl : n = kept.length := by
    obtain ⟨A, c, e, _⟩ := Kd.R_reads hR
    injection e
  have hgk : gk < w.heap.size := (flat_lt hR gk rfl).1
  have HC := Aside0.mk hC
  have HL := Aside0.mk hl
  have HML := Aside0.mk hml
  have HNL := Aside0.mk hnl
  have HR := Aside0.mk hR
  have h83 := Try.underlying83
  have h81 := Try.underlying81
  rw [← hml] at hm
  rw [← hnl] at hn hk
  clear hR hC hl hml hnl
  go_enter Try.func44, Try.ntmps44
  go_wp2_with fail
  go_loopw [5, 8] (fun v5 v8 wr => ∃ i : Nat, v8 = .int .i64 (i : Int) ∧ Aside0 (i ≤ m) ∧ Aside0 (kSe.R TSe wr 0 P (.slice (some ⟨gk, 0, none⟩) n ck) (settleV kept (l.take i))) ∧ Aside0 (OnlyP (fun j => j = gk) w wr)) (fun _ v8 _ => m - (intOf v8).toNat)
  case atStart => exact ⟨0, rfl, ⟨Nat.zero_le _⟩, HR, ⟨OnlyP.refl _ _⟩⟩
  case round =>
    obtain ⟨i, rfl, hin, hRi, hO⟩ := hrel
    by_cases hi : i < m
    · have t1 : decide ((i : Int) < (m : Int)) = true := decide_eq_true (by omega)
      have hil : i < l.length := by have := HML.out; omega
      have h0 : (0 : Int) ≤ (i : Int) := by omega
      have h1 : (i : Int) < (m : Int) := by omega
      have p0 := eq_true h0
      have p1 := eq_true h1
      have hw : IntKind.i64.wrap ((i : Int) + 1) = ((i + 1 : Nat) : Int) := by rw [show ((i : Int) + 1) = ((i + 1 : Nat) : Int) by omega]; exact IntWalk.i64_in _ (by omega)
      obtain ⟨gc, eA, -, hgc, hrng, hlen, -⟩ := flat_at HC.out i hil
      cases eA
      obtain ⟨hx0, hx1, hx2⟩ := HL.out l[i] (List.getElem_mem hil)
      have hsn : l.take (i + 1) = l.take i ++ [l[i]] := (List.take_append_getElem hil).symm
      obtain ⟨x, hx⟩ : ∃ x, l[i] = x := ⟨_, rfl⟩
      rw [hx] at hrng hlen hx0 hx1 hx2 hsn
      have HSN := Aside0.mk hsn
      have hne : gc ≠ gk := fun e => by
        obtain ⟨cells, hcc⟩ := Kd.R_own HC.out |>.elim fun inner ho => own_typed ho gc rfl
        exact Kd.R_ne HR.out hcc (by decide) (by rw [e]; rfl)
      have hrng2 : wr.rangeAt gc (i * 129) (stampC x) := fun j v hj => by
        have := hrng j v hj
        rw [← this]
        have hb := hO.out.block gc hgc (fun e => hne e)
        simp only [World.cell?, hb]
      obtain ⟨x1, bs⟩ := x
      obtain ⟨a, rfl⟩ : ∃ a : Nat, x1 = (a : Int) := ⟨x1.toNat, by simp only at hx0; omega⟩
      simp only at hx0 hx1 hx2
      have hab : a < kept.length := by omega
      have hset : (settleV kept (l.take i)).length = kept.length := settle_length _ _
      obtain ⟨gk', eA, -, hgk', -, -, hthere⟩ := flat_at hRi.out a (by omega)
      cases eA
      have hfin : settleV kept (l.take (i + 1)) = (settleV kept (l.take i)).set a bs := by
        rw [HSN.out, settle_snoc]
        rfl
      have hab2 : (a : Int) < (n : Int) := by have := HNL.out; omega
      have q0 := eq_true (show (0 : Int) ≤ (a : Int) by omega)
      have q1 := eq_true hab2
      obtain ⟨W9, hW9⟩ : ∃ W9, wr.alloc (.cells (stampC ((a : Int), bs)).toArray TCa) = W9 := ⟨_, rfl⟩
      have b9 : Below wr.heap.size wr W9 := by rw [← hW9]; exact (Below.refl _ _).alloc (Nat.le_refl _) _
      have hE9 : Blk W9 wr.heap.size TCa (stampC ((a : Int), bs)).toArray := by rw [← hW9]; exact Blk.new _ _ _
      have hset2 := flat_set (Kd.R_below hRi.out b9) a (by omega) bs (by simp [nums, hx2]) rfl
      rw [← hfin] at hset2
      obtain ⟨k0, k1⟩ := stamp_blk hE9
      have hth : W9.there gk (a * 128) 128 := fun j hj => by
        obtain ⟨y1, y2⟩ := hthere j hj
        have hb := b9.block gk hgk'
        exact ⟨by simp only [World.cell?, hb]; exact y1, by simp only [World.frozen?, hb]; exact y2⟩
      have hlen2 : (stampC ((a : Int), bs)).toArray.size = 129 := by simp [stampC, nums, hx2]
      have hone := stamp_one ((a : Int), bs)
      have hlen3 : (nums .u8 bs).length = 128 := by simp [nums, hx2]
      have hone2 := all_oneCell_toArray (nums_one .u8 bs)
      obtain ⟨S, hS⟩ : ∃ S, stampC ((a : Int), bs) = S := ⟨_, rfl⟩
      rw [hS] at hW9 hlen2 hone hrng2
      have HW9 := Aside0.mk hW9
      clear hW9 hset hfin hS
      go_wp2_with (first
        | (with_reducible refine wpList_load_mid rfl TCa (.tmp 10) rfl gc (i * 129) ?_ S _ hrng2 h83 rfl ?_ ?_; (focus simp [Act.eval, Act.put]); (focus (rw [infoCa]; simpa using hlen2.symm)))
        | (with_reducible refine wpList_alloc_agg rfl TCa _ rfl zeroCa ?_)
        | (with_reducible refine wpList_store_blk rfl TCa (.tmp 5) (.tmp 11) rfl wr.heap.size S.toArray ?_ ?_ infoCa hlen2 hone (Blk.newAt rfl) zCa_len ?_; (focus simp [Act.eval, Act.put]); (focus simp [Act.eval, Act.put]); rw [setRow_top rfl]; rw [HW9.out])
        | (with_reducible refine wpList_load_mid rfl TSe (.tmp 15) rfl wr.heap.size 1 ?_ (nums .u8 bs) _ k1 h81 rfl ?_ ?_; (focus simp [Act.eval, Act.put]); (focus (rw [infoSe, hlen3])))
        | (with_reducible refine wpList_store_mid rfl TSe (.tmp 17) (.tmp 16) rfl gk (a * 128) (nums .u8 bs).toArray ?_ ?_ ?_ ?_ hone2 ?_; (focus simp [Act.eval, Act.put]); (focus simp [Act.eval, Act.put]); (focus (simpa [hlen3] using hth)); (focus (rw [infoSe]; simp [hlen3]))))
      go_roundw
      case rel =>
        refine ⟨i + 1, by first | rfl | (rw [hw]) | go_num | simp [hw], ⟨by omega⟩, ⟨?_⟩, ⟨?_⟩⟩
        · exact hset2
        · exact (hO.out.step b9).setCells (.inl rfl) _ _
      case measure => simp [intOf, hw]; omega
    · have t1 : decide ((i : Int) < (m : Int)) = false := decide_eq_false (by omega)
      have e3 : i = m := by have := hin.out; omega
      have HF : Aside0 (kSe.R TSe wr 0 P (.slice (some ⟨gk, 0, none⟩) n ck) (settleV kept l)) := ⟨by
        have := hRi.out
        rw [List.take_of_length_le (by have := HML.out; omega)] at this
        exact this⟩
      clear e3
      go_wp2
      go_end0
      exact ⟨rfl, HF.out, hO.out⟩
end Go.Proofs.Ytddhngalokmdoaa.Spo

/- A tray: Read. -/
namespace Go.Proofs.Ytddhngalokmdoaa.Spo
open Go.RowKit Go.Proofs.YtddhngalokmdoaaW.PrintWords Go.Proofs.YtddhngalokmdoaaW.PrintLast Go.Proofs.YtddhngalokmdoaaW.PrintMore Go.Proofs.Ytddhngalokmdoaa.Arr Go.Proofs.Ytddhngalokmdoaa.PSpoolPlays
set_option linter.unusedVariables false
set_option linter.unusedSimpArgs false

theorem zeroSe : ∀ w, (zeroValue TSe).run Try.prog w = .ok (.agg (nums .u8 zB).toArray) w := fun w => by kernel_rfl
theorem zB_len : (nums .u8 zB).toArray.size = 128 := by simp [zB, nums]
theorem nums_size {l : List Int} (h : l.length = 128) : (nums .u8 l).toArray.size = 128 := by simp [nums, h]
theorem hasV_iff {V : TrayV} {at_ : Int} (h : hasV V at_ = true) : ∃ a : Nat, at_ = (a : Int) ∧ a < V.kept.length := by
  unfold hasV at h
  simp only [Bool.and_eq_true, decide_eq_true_eq] at h
  exact ⟨at_.toNat, by omega, by omega⟩
theorem own_typedR {α : Type} {d : Kd α} {e : Nat} {w : World} {base : Nat} {ok : Nat → Prop} {v : Value} {xs : List α} (h : d.R e w base ok v xs) (k : Nat) (hk : v.ownBlock = some k) : ∃ cells, Blk w k e cells := by
  obtain ⟨_, inner, ho, _⟩ := h
  obtain ⟨c, hc⟩ := own_typed ho k hk
  exact ⟨c, ⟨hc⟩⟩
/-- What Read returns. -/
def ReadPost (V : TrayV) (at_ : Int) (w : World) (e : Ending) (w' : World) : Prop :=
  Below w.heap.size w w' ∧ ((hasV V at_ = false ∧ e = .returned (.tuple #[.slice none 0 0, .int .i64 1])) ∨
    (hasV V at_ = true ∧ ∃ g, e = .returned (.tuple #[.slice (some ⟨g, 0, none⟩) 128 128, .int .i64 0]) ∧ w.heap.size ≤ g ∧ Blk w' g TSe (nums .u8 (readV V at_)).toArray))
set_option maxHeartbeats 8000000 in
set_option maxRecDepth 100000 in
theorem read_calls (P : Nat → Prop) (t : Nat) (V : TrayV) (at_ : Int) (w : World) (H : TAt P w t V) (hS : Sound V) (hcl : V.cache.length ≤ 1000000000) :
    Calls Try.prog 30 #[ptrT t, .int .i64 at_] w (ReadPost V at_ w) := by
  have KH := Aside0.mk (has_calls P t V at_ w H)
  cases hh : hasV V at_ with
  | false =>
    rw [hh] at KH
    have HH := Aside0.mk hh
    clear hh
    go_enter Try.func30, Try.ntmps30
    go_wp2_with fail
    refine KH.out.mono ?_
    rintro e w1 ⟨rfl, b1⟩
    have B1 := Aside0.mk b1
    clear b1 KH
    go_wp2
    go_ret2
    exact ⟨B1.out, .inl ⟨HH.out, rfl⟩⟩
  | true =>
    rw [hh] at KH
    have HH := Aside0.mk hh
    obtain ⟨a, rfl, hak⟩ := hasV_iff hh
    have HS := Aside0.mk hS
    have h83 := Try.underlying83
    have h81 := Try.underlying81
    clear hh hS
    go_enter Try.func30, Try.ntmps30
    go_wp2_with fail
    refine KH.out.mono ?_
    rintro e w1 ⟨rfl, b1⟩
    have H1 := H.below b1
    have B1 := Aside0.mk b1
    obtain ⟨kv, cv, hT, hK, hC, hP⟩ := H1.out
    obtain ⟨Ak, ck, rfl⟩ := Kd.R_slice hK
    obtain ⟨Ac, cc, rfl⟩ := Kd.R_slice hC
    obtain ⟨gk, eA, -, hgk, hrng, hlen, -⟩ := flat_at hK a hak
    cases eA
    have c0 := hT.cell 0
    have c1 := hT.cell 1
    have tl := hT.lt
    obtain ⟨n, hn⟩ : ∃ n, V.kept.length = n := ⟨_, rfl⟩
    obtain ⟨m, hm⟩ : ∃ m, V.cache.length = m := ⟨_, rfl⟩
    have hread : readV V (a : Int) = lastV V.cache (a : Int) V.kept[a] := by
      unfold readV
      rw [Int.toNat_natCast, List.getD, List.getElem?_eq_getElem hak, Option.getD_some]
    have hb0 : V.kept[a].length = 128 := HS.out.kept _ (List.getElem_mem hak)
    obtain ⟨bs, hbs⟩ : ∃ bs, V.kept[a] = bs := ⟨_, rfl⟩
    rw [hbs] at hrng hread hb0
    have hrng' : w1.rangeAt gk (a * 128) (nums .u8 bs) := hrng
    have HRD := Aside0.mk hread
    have HB0 := Aside0.mk hb0
    have h0 : (0 : Int) ≤ (a : Int) := by omega
    have h1 : (a : Int) < (n : Int) := by omega
    have p0 := eq_true h0
    have p1 := eq_true h1
    rw [hn, hm] at c0
    rw [hn, hm] at c1
    have HC := Aside0.mk hC
    have HM := Aside0.mk hm
    have hm9 : m ≤ 1000000000 := by omega
    obtain ⟨W9, hW9⟩ : ∃ W9, w1.alloc (.cells (nums .u8 bs).toArray TSe) = W9 := ⟨_, rfl⟩
    have b9 : Below w1.heap.size w1 W9 := by rw [← hW9]; exact (Below.refl _ _).alloc (Nat.le_refl _) _
    have hE9 : Blk W9 w1.heap.size TSe (nums .u8 bs).toArray := by rw [← hW9]; exact Blk.new _ _ _
    have hT9 := hT.below b9
    have d1 := hT9.cell 1
    have dl := hT9.lt
    rw [hm] at d1
    rw [hn] at d1
    have E9 := Aside0.mk hE9
    have B9 := Aside0.mk (b1.trans (b9.mono b1.size))
    have HW9 := Aside0.mk hW9
    have hsz := nums_size hb0
    have hone := all_oneCell_toArray (nums_one .u8 bs)
    have hl3 : (nums .u8 bs).length = 128 := by simp [nums, hb0]
    have hg9 := B1.out.size
    clear H1 hK hC hT hP hbs hn hm hrng hlen hread hb0 hW9 hE9 hT9 b1 b9 H KH hak hcl
    go_wp2_with (first
      | (with_reducible refine wpList_load_mid rfl TSe (.tmp 18) rfl gk (a * 128) ?_ (nums .u8 bs) _ hrng' h81 rfl ?_ ?_; (focus simp [Act.eval, Act.put]); (focus (rw [infoSe, hl3])))
      | (with_reducible refine wpList_alloc_agg rfl TSe _ rfl zeroSe ?_)
      | (with_reducible refine wpList_store_blk rfl TSe (.tmp 6) (.tmp 19) rfl w1.heap.size (nums .u8 bs).toArray ?_ ?_ infoSe hsz hone (Blk.newAt rfl) zB_len ?_; (focus simp [Act.eval, Act.put]); (focus simp [Act.eval, Act.put]); rw [setRow_top rfl]; rw [HW9.out]))
    clear c0 c1 tl d1 dl hrng' hsz hone hl3
    go_loopw [8, 25] (fun v8 v25 wr => ∃ i : Nat, v25 = .int .i64 (i : Int) ∧ Aside0 (i ≤ m) ∧ Aside0 (Blk wr w1.heap.size TSe (nums .u8 (lastV (V.cache.take i) (a : Int) bs)).toArray) ∧ Aside0 (Below w.heap.size w wr) ∧ Aside0 (Below w1.heap.size w1 wr)) (fun _ v25 _ => m - (intOf v25).toNat)
    case atStart => exact ⟨0, rfl, ⟨Nat.zero_le _⟩, E9, B9, ⟨by rw [← HW9.out]; exact (Below.refl _ _).alloc (Nat.le_refl _) _⟩⟩
    case round =>
      obtain ⟨i, rfl, hin, hE, hb, hb1⟩ := hrel
      by_cases hi : i < m
      · have t1 : decide ((i : Int) < (m : Int)) = true := decide_eq_true (by omega)
        have hil : i < V.cache.length := by have := HM.out; omega
        have h0 : (0 : Int) ≤ (i : Int) := by omega
        have h1 : (i : Int) < (m : Int) := by omega
        have r0 := eq_true h0
        have r1 := eq_true h1
        have hw : IntKind.i64.wrap ((i : Int) + 1) = ((i + 1 : Nat) : Int) := by rw [show ((i : Int) + 1) = ((i + 1 : Nat) : Int) by omega]; exact IntWalk.i64_in _ (by omega)
        have HCr := Kd.R_below HC.out hb1.out
        rw [HM.out] at HCr
        obtain ⟨gc, eA, -, hgc, hrng, hlen, -⟩ := flat_at HCr i hil
        cases eA
        obtain ⟨hx0, hx1, hx2⟩ := HS.out.cache V.cache[i] (List.getElem_mem hil)
        have hsn : V.cache.take (i + 1) = V.cache.take i ++ [V.cache[i]] := (List.take_append_getElem hil).symm
        have hln : (lastV (V.cache.take i) (a : Int) bs).length = 128 := last_length (fun x hx => (HS.out.cache x (List.mem_of_mem_take hx)).2.2) _ _ HB0.out
        obtain ⟨x, hx⟩ : ∃ x, V.cache[i] = x := ⟨_, rfl⟩
        rw [hx] at hrng hlen hx0 hx1 hx2 hsn
        have hrng2 : wr.rangeAt gc (i * 129) (stampC x) := hrng
        obtain ⟨x1, cs⟩ := x
        simp only at hx0 hx1 hx2
        have hfin : lastV (V.cache.take (i + 1)) (a : Int) bs = if x1 = (a : Int) then cs else lastV (V.cache.take i) (a : Int) bs := by
          rw [hsn, last_snoc]
        obtain ⟨cur, hcur⟩ : ∃ cur, lastV (V.cache.take i) (a : Int) bs = cur := ⟨_, rfl⟩
        rw [hcur] at hE hln hfin
        have hE' := hE.out
        obtain ⟨W8, hW8⟩ : ∃ W8, wr.alloc (.cells (stampC (x1, cs)).toArray TCa) = W8 := ⟨_, rfl⟩
        have b8 : Below wr.heap.size wr W8 := by rw [← hW8]; exact (Below.refl _ _).alloc (Nat.le_refl _) _
        have hE8 : Blk W8 wr.heap.size TCa (stampC (x1, cs)).toArray := by rw [← hW8]; exact Blk.new _ _ _
        obtain ⟨k0, k1⟩ := stamp_blk hE8
        have kl := hE8.lt
        have hEb := hE'.below b8
        have hlen2 : (stampC (x1, cs)).toArray.size = 129 := by simp [stampC, nums, hx2]
        have hone := stamp_one (x1, cs)
        have hlen3 : (nums .u8 cs).length = 128 := by simp [nums, hx2]
        have hone2 := all_oneCell_toArray (nums_one .u8 cs)
        have hsz2 := nums_size hx2
        have hszc := nums_size hln
        have B8 := Aside0.mk b8
        obtain ⟨S, hS⟩ : ∃ S, stampC (x1, cs) = S := ⟨_, rfl⟩
        rw [hS] at hW8 hlen2 hone hrng2
        have HW8 := Aside0.mk hW8
        have HFIN := Aside0.mk hfin
        clear hW8 hS hx hsn hrng hlen hfin hx0 hx1 HCr hcur hE' hE8 b8
        by_cases hxa : x1 = (a : Int)
        · have u1 : decide (x1 = (a : Int)) = true := decide_eq_true hxa
          have u2 : (x1 == (a : Int)) = true := by simpa using hxa
          have u3 : (x1 = (a : Int)) = True := eq_true hxa
          have HFIN2 := Aside0.mk (by have := HFIN.out; rwa [if_pos hxa] at this : lastV (V.cache.take (i + 1)) (a : Int) bs = cs)
          clear hxa
          go_wp2_with (first
            | (with_reducible refine wpList_load_mid rfl TCa (.tmp 27) rfl gc (i * 129) ?_ S _ hrng2 h83 rfl ?_ ?_; (focus simp [Act.eval, Act.put]); (focus (rw [infoCa]; simpa using hlen2.symm)))
            | (with_reducible refine wpList_alloc_agg rfl TCa _ rfl zeroCa ?_)
            | (with_reducible refine wpList_store_blk rfl TCa (.tmp 8) (.tmp 28) rfl wr.heap.size S.toArray ?_ ?_ infoCa hlen2 hone (Blk.newAt rfl) zCa_len ?_; (focus simp [Act.eval, Act.put]); (focus simp [Act.eval, Act.put]); rw [setRow_top rfl]; rw [HW8.out])
            | (with_reducible refine wpList_load_mid rfl TSe (.tmp 33) rfl wr.heap.size 1 ?_ (nums .u8 cs) _ k1 h81 rfl ?_ ?_; (focus simp [Act.eval, Act.put]); (focus (rw [infoSe, hlen3])))
            | (with_reducible refine wpList_store_blk rfl TSe (.tmp 6) (.tmp 34) rfl w1.heap.size (nums .u8 cs).toArray ?_ ?_ infoSe hsz2 hone2 hEb hszc ?_; (focus simp [Act.eval, Act.put]); (focus simp [Act.eval, Act.put])))
          go_roundw
          case rel => exact ⟨i + 1, by first | rfl | (rw [hw]) | go_num | simp [hw], ⟨by omega⟩, ⟨by rw [HFIN2.out]; exact hEb.row _⟩, ⟨below_setRow (hb.out.trans (B8.out.mono hb.out.size)) hg9 _⟩, ⟨below_setRow (hb1.out.trans (B8.out.mono hb1.out.size)) (Nat.le_refl _) _⟩⟩
          case measure => simp [intOf, hw]; omega
        · have u1 : decide (x1 = (a : Int)) = false := decide_eq_false hxa
          have u2 : (x1 == (a : Int)) = false := by simpa using hxa
          have u3 : (x1 = (a : Int)) = False := eq_false hxa
          have HFIN2 := Aside0.mk (by have := HFIN.out; rwa [if_neg hxa] at this : lastV (V.cache.take (i + 1)) (a : Int) bs = cur)
          clear hxa
          go_wp2_with (first
            | (with_reducible refine wpList_load_mid rfl TCa (.tmp 27) rfl gc (i * 129) ?_ S _ hrng2 h83 rfl ?_ ?_; (focus simp [Act.eval, Act.put]); (focus (rw [infoCa]; simpa using hlen2.symm)))
            | (with_reducible refine wpList_alloc_agg rfl TCa _ rfl zeroCa ?_)
            | (with_reducible refine wpList_store_blk rfl TCa (.tmp 8) (.tmp 28) rfl wr.heap.size S.toArray ?_ ?_ infoCa hlen2 hone (Blk.newAt rfl) zCa_len ?_; (focus simp [Act.eval, Act.put]); (focus simp [Act.eval, Act.put]); rw [setRow_top rfl]; rw [HW8.out]))
          go_roundw
          case rel => exact ⟨i + 1, by first | rfl | (rw [hw]) | go_num | simp [hw], ⟨by omega⟩, ⟨by rw [HFIN2.out]; exact hEb⟩, ⟨hb.out.trans (B8.out.mono hb.out.size)⟩, ⟨hb1.out.trans (B8.out.mono hb1.out.size)⟩⟩
          case measure => simp [intOf, hw]; omega
      · have t1 : decide ((i : Int) < (m : Int)) = false := decide_eq_false (by omega)
        have HF : Aside0 (Blk wr w1.heap.size TSe (nums .u8 (readV V (a : Int))).toArray) := ⟨by
          have := hE.out
          rw [List.take_of_length_le (by have := HM.out; have := hin.out; omega)] at this
          rw [HRD.out]
          exact this⟩
        have hsl : (nums .u8 (readV V (a : Int))).toArray.size = 128 := nums_size (HS.out.read HH.out)
        go_wp2
        go_ret2
        exact ⟨hb.out, .inr ⟨HH.out, _, rfl, hg9, HF.out⟩⟩
end Go.Proofs.Ytddhngalokmdoaa.Spo

/- Regions that draw their order: each operation tells what it yields (a set of values, and a relation that stands under Le); those of the list cs, one behind the other, turn the class of worlds. Any program. -/
namespace Go.Proofs.Ytddhngalokmdoaa.Qy
open Go.RowKit Go.Proofs.Ytddhngalokmdoaa.Arr
set_option linter.unusedVariables false
set_option linter.unusedSimpArgs false
section
variable {P : Program} {ops : Array Oper} {md : Region.Mode} {Le : World → World → Prop} {S : FuncId → Array Value → Value → World → Prop} {SV : FuncId → Array Value → Value → Prop} {C : Nat → World → Prop} {cs : List Nat}

def Stb (Le : World → World → Prop) (F : World → Prop) : Prop := ∀ w w', F w → Le w w' → F w'
def up (F : Nat → World → Prop) (i : Nat) (R : World → Prop) : Nat → World → Prop := fun k => if k = i then R else F k
theorem up_same (F : Nat → World → Prop) (i : Nat) (R : World → Prop) : up F i R i = R := by simp [up]
theorem up_ne (F : Nat → World → Prop) {i k : Nat} (R : World → Prop) (h : k ≠ i) : up F i R k = F k := by simp [up, h]

/-! ### the phase -/
def ph (cs : List Nat) (listed : Array Bool) : Nat := (cs.takeWhile fun c => listed.getD c false).length
def chainedB (md : Region.Mode) (ops : Array Oper) : List Nat → Bool
  | [] => true
  | [_] => true
  | c :: d :: l => decide (c < d) && Region.waitsFor md ops d c && chainedB md ops (d :: l)
def tr (cs : List Nat) (i p p' : Nat) : Prop := (i ∉ cs ∧ p' = p) ∨ (cs[p]? = some i ∧ p' = p + 1)
theorem chained_tail {c : Nat} {l : List Nat} (h : chainedB md ops (c :: l) = true) : chainedB md ops l = true := by
  cases l with
  | nil => rfl
  | cons d l => simp only [chainedB, Bool.and_eq_true] at h; exact h.2
theorem chained_off {n : Nat} {listed : Array Bool} (inv : HeadInv md ops n listed) : ∀ {l : List Nat} {c : Nat}, chainedB md ops (c :: l) = true → listed.getD c false = false → ∀ x ∈ c :: l, listed.getD x false = false
  | [], c, _, hc, x, hx => by simp at hx; subst hx; exact hc
  | d :: l, c, h, hc, x, hx => by
    simp only [chainedB, Bool.and_eq_true, decide_eq_true_eq] at h
    rcases List.mem_cons.1 hx with rfl | hx
    · exact hc
    · refine chained_off inv h.2 ?_ x hx
      obtain ⟨oj, hoj, e, he, hb, hon⟩ := Region.waitsFor_spec h.1.2
      cases hd : listed.getD d false with
      | false => rfl
      | true =>
        have := inv.closed d oj hoj hd e he hb
        rw [hon, hc] at this
        cases this
theorem chained_pred : ∀ {l : List Nat} {c i : Nat}, chainedB md ops (c :: l) = true → i ∈ l → ∃ d, d ∈ c :: l ∧ Region.waitsFor md ops i d = true
  | [], _, _, _, h => by cases h
  | d :: l, c, i, h, hi => by
    simp only [chainedB, Bool.and_eq_true, decide_eq_true_eq] at h
    rcases List.mem_cons.1 hi with rfl | hi
    · exact ⟨c, by simp, h.1.2⟩
    · obtain ⟨x, hx, hw⟩ := chained_pred h.2 hi
      exact ⟨x, List.mem_cons_of_mem _ hx, hw⟩
theorem getD_set_at {listed : Array Bool} {i : Nat} (h : i < listed.size) : (listed.setIfInBounds i true).getD i false = true := by simp [h]
theorem ph_at {n i : Nat} {listed : Array Bool} (inv : HeadInv md ops n listed) (hr : i ∈ Region.ready md ops listed) : ∀ {cs : List Nat}, chainedB md ops cs = true → tr cs i (ph cs listed) (ph cs (listed.setIfInBounds i true))
  | [], _ => .inl ⟨by simp, rfl⟩
  | c :: l, h => by
    obtain ⟨hun, oi, hoi, hall⟩ := mem_ready.1 hr
    have hun' := getD_both hun
    have hil : i < listed.size := by rw [inv.size]; exact (Array.getElem?_eq_some_iff.1 hoi).1
    cases hc : listed.getD c false with
    | true =>
      have hci : i ≠ c := fun e => by subst e; rw [hun'] at hc; cases hc
      have ih := ph_at inv hr (chained_tail h)
      have e1 : ph (c :: l) listed = ph l listed + 1 := by unfold ph; rw [List.takeWhile_cons_of_pos (p := fun c => listed.getD c false) hc]; rfl
      have e2 : ph (c :: l) (listed.setIfInBounds i true) = ph l (listed.setIfInBounds i true) + 1 := by
        unfold ph; rw [List.takeWhile_cons_of_pos (p := fun c => (listed.setIfInBounds i true).getD c false) (by rw [getD_set_ne false hci]; exact hc)]; rfl
      rw [e1, e2]
      rcases ih with ⟨h1, h2⟩ | ⟨h1, h2⟩
      · exact .inl ⟨by simp [hci, h1], by omega⟩
      · exact .inr ⟨by simpa using h1, by omega⟩
    | false =>
      have hoff := chained_off inv h hc
      have e1 : ph (c :: l) listed = 0 := by unfold ph; rw [List.takeWhile_cons_of_neg (p := fun c => listed.getD c false) (by simp only [hc]; decide)]; rfl
      rw [e1]
      by_cases hic : i = c
      · subst hic
        refine .inr ⟨rfl, ?_⟩
        unfold ph
        rw [List.takeWhile_cons_of_pos (p := fun c => (listed.setIfInBounds i true).getD c false) (getD_set_at hil)]
        cases l with
        | nil => rfl
        | cons d l =>
          have hd : i < d := by simp only [chainedB, Bool.and_eq_true, decide_eq_true_eq] at h; exact h.1.1
          rw [List.takeWhile_cons_of_neg (p := fun c => (listed.setIfInBounds i true).getD c false) (by rw [getD_set_ne false (show i ≠ d by omega), hoff d (by simp)]; decide)]
          rfl
      · have e2 : ph (c :: l) (listed.setIfInBounds i true) = 0 := by unfold ph; rw [List.takeWhile_cons_of_neg (p := fun c => (listed.setIfInBounds i true).getD c false) (by rw [getD_set_ne false hic, hc]; decide)]; rfl
        rw [e2]
        refine .inl ⟨fun hm => ?_, rfl⟩
        rcases List.mem_cons.1 hm with rfl | hm
        · exact hic rfl
        · obtain ⟨d, hd, hw⟩ := chained_pred h hm
          obtain ⟨oj, hoj, e, he, hb, hon⟩ := Region.waitsFor_spec hw
          have : oj = oi := Option.some.inj (hoj.symm.trans hoi)
          subst this
          have h2 := hall e he hb
          rw [hon, hoff d hd] at h2
          cases h2
theorem ph_all {listed : Array Bool} : ∀ {cs : List Nat}, (∀ c ∈ cs, listed.getD c false = true) → ph cs listed = cs.length
  | [], _ => rfl
  | c :: l, h => by
    have := ph_all (listed := listed) (cs := l) fun x hx => h x (List.mem_cons_of_mem _ hx)
    unfold ph at this ⊢
    rw [List.takeWhile_cons_of_pos (p := fun c => listed.getD c false) (h c (by simp))]
    rw [List.length_cons, this, List.length_cons]
theorem ph_none {listed : Array Bool} (h : ∀ c, listed.getD c false = false) : ph cs listed = 0 := by
  cases cs with
  | nil => rfl
  | cons c l => unfold ph; rw [List.takeWhile_cons_of_neg (p := fun c => listed.getD c false) (by rw [h c]; decide)]; rfl

/-! ### what an operation yields -/
def yUpon (P : Program) (Le : World → World → Prop) (S : FuncId → Array Value → Value → World → Prop) (SV : FuncId → Array Value → Value → Prop) (C' : World → Prop) (w : World) (V : Value → Prop) (R : Value → World → Prop) : Result Next → Prop
  | .ok (.value u) w' => Le w w' ∧ C' w' ∧ V u ∧ R u w'
  | .ok (.enter f args) w' => w' = w ∧ V = SV f args ∧ R = S f args ∧ Calls P f args w (fun e w'' => ∃ u, e = .returned u ∧ Le w w'' ∧ C' w'' ∧ SV f args u ∧ S f args u w'')
  | _ => False
def Gives (P : Program) (md : Region.Mode) (ops : Array Oper) (Le : World → World → Prop) (S : FuncId → Array Value → Value → World → Prop) (SV : FuncId → Array Value → Value → Prop) (C : Nat → World → Prop) (cs : List Nat) (F : Nat → World → Prop) (i : Nat) (o : Oper) (a : Act) (V : Value → Prop) (R : Value → World → Prop) : Prop :=
  (Region.wanted o (yielded ops a.tmps) = true ∧ (∀ u, Stb Le (R u)) ∧ ∀ p p', tr cs i p p' → ∀ w, C p w → (∀ e ∈ o.after, Region.binds md e = true → F e.on w) → yUpon P Le S SV (C p') w V R ((execOp a.eval o).run P w)) ∨
  (Region.wanted o (yielded ops a.tmps) = false ∧ (∀ p p', tr cs i p p' → ∀ w, C p w → C p' w) ∧ V = (fun u => u = undef) ∧ R = fun _ _ => True)
theorem Gives.stb {F : Nat → World → Prop} {i : Nat} {o : Oper} {a : Act} {V : Value → Prop} {R : Value → World → Prop} (h : Gives P md ops Le S SV C cs F i o a V R) (u : Value) : Stb Le (R u) := by
  rcases h with h | h
  · exact h.2.1 u
  · rw [h.2.2.2]; exact fun _ _ _ _ => trivial
theorem Gives.mono {F F' : Nat → World → Prop} {i : Nat} {o : Oper} {a : Act} {V : Value → Prop} {R : Value → World → Prop} (h : Gives P md ops Le S SV C cs F i o a V R) (hF : ∀ k w, F' k w → F k w) : Gives P md ops Le S SV C cs F' i o a V R := by
  rcases h with h | h
  · exact .inl ⟨h.1, h.2.1, fun p p' ht w hw hp => h.2.2 p p' ht w hw fun e he hb => hF _ _ (hp e he hb)⟩
  · exact .inr h
theorem Gives.put {F : Nat → World → Prop} {i : Nat} {oi oj : Oper} {u : Value} {a : Act} {V : Value → Prop} {R : Value → World → Prop} (h : Gives P md ops Le S SV C cs F i oi a V R) (hap : oi.apart ops oj = true) (hsi : ∀ cs b, oi.op ≠ .select cs b) : Gives P md ops Le S SV C cs F i oi (a.put oj.dst u) V R := by
  obtain ⟨h1, h2, h3⟩ := Oper.apart_spec hap
  unfold Gives at *
  rw [execOp_put oi hsi a oj.dst u h3, wanted_put oi a oj.dst u h3]
  exact h
theorem Gives.unput {F : Nat → World → Prop} {j : Nat} {oi oj : Oper} {v : Value} {a : Act} {V : Value → Prop} {R : Value → World → Prop} (h : Gives P md ops Le S SV C cs F j oj (a.put oi.dst v) V R) (hap : oi.apart ops oj = true) (hsj : ∀ cs b, oj.op ≠ .select cs b) : Gives P md ops Le S SV C cs F j oj a V R := by
  obtain ⟨h1, h2, h3⟩ := Oper.apart_spec hap
  unfold Gives at *
  rw [execOp_put oj hsj a oi.dst v h1, wanted_put oj a oi.dst v h1] at h
  exact h
theorem Gives.facts {F F' : Nat → World → Prop} {i : Nat} {o : Oper} {a : Act} {V : Value → Prop} {R : Value → World → Prop} (h : Gives P md ops Le S SV C cs F i o a V R) (hF : ∀ e ∈ o.after, Region.binds md e = true → F' e.on = F e.on) : Gives P md ops Le S SV C cs F' i o a V R := by
  rcases h with h | h
  · exact .inl ⟨h.1, h.2.1, fun p p' ht w hw hp => h.2.2 p p' ht w hw fun e he hb => by rw [← hF e he hb]; exact hp e he hb⟩
  · exact .inr h
/-- What holds of an operation whatever another one has yielded. -/
theorem Gives.all {F : Nat → World → Prop} {i : Nat} {o : Oper} {a : Act} {V0 : Value → Prop} {Vc : Value → Value → Prop} {Rc : Value → Value → World → Prop} (u0 : Value) (h0 : V0 u0) (h : ∀ u, V0 u → Gives P md ops Le S SV C cs F i o a (Vc u) (Rc u)) :
    Gives P md ops Le S SV C cs F i o a (fun v => ∀ u, V0 u → Vc u v) (fun v w => ∀ u, V0 u → Rc u v w) := by
  cases hwt : Region.wanted o (yielded ops a.tmps) with
  | true =>
    have hl : ∀ u, V0 u → (∀ v, Stb Le (Rc u v)) ∧ ∀ p p', tr cs i p p' → ∀ w, C p w → (∀ e ∈ o.after, Region.binds md e = true → F e.on w) → yUpon P Le S SV (C p') w (Vc u) (Rc u) ((execOp a.eval o).run P w) := fun u hu => by
      rcases h u hu with h1 | h1
      · exact h1.2
      · rw [hwt] at h1; exact absurd h1.1 (by decide)
    refine .inl ⟨hwt, fun v w w' hr hb u hu => (hl u hu).1 v w w' (hr u hu) hb, fun p p' ht w hw hp => ?_⟩
    have hx := fun u hu => (hl u hu).2 p p' ht w hw hp
    generalize (execOp a.eval o).run P w = r at hx
    cases r with
    | ok nx w' =>
      have h1 := hx u0 h0
      cases nx <;> simp only [yUpon] at h1 hx ⊢
      case value x => exact ⟨h1.1, h1.2.1, fun u hu => (hx u hu).2.2.1, fun u hu => (hx u hu).2.2.2⟩
      case enter f args =>
        refine ⟨h1.1, ?_, ?_, h1.2.2.2⟩
        · funext v
          refine propext ⟨fun hh => ?_, fun hh u hu => ?_⟩
          · have := hh u0 h0; rw [h1.2.1] at this; exact this
          · rw [(hx u hu).2.1]; exact hh
        · funext v w
          refine propext ⟨fun hh => ?_, fun hh u hu => ?_⟩
          · have := hh u0 h0; rw [h1.2.2.1] at this; exact this
          · rw [(hx u hu).2.2.1]; exact hh
    | halt x w' => exact absurd (hx u0 h0) (by simp only [yUpon]; exact id)
  | false =>
    have hl : ∀ u, V0 u → (∀ p p', tr cs i p p' → ∀ w, C p w → C p' w) ∧ Vc u = (fun v => v = undef) ∧ Rc u = fun _ _ => True := fun u hu => by
      rcases h u hu with h1 | h1
      · rw [hwt] at h1; exact absurd h1.1 (by decide)
      · exact h1.2
    refine .inr ⟨hwt, (hl u0 h0).1, ?_, ?_⟩
    · funext v
      refine propext ⟨fun hh => ?_, fun hh u hu => ?_⟩
      · have := hh u0 h0; rw [(hl u0 h0).2.1] at this; exact this
      · rw [(hl u hu).2.1]; exact hh
    · funext v w
      refine propext ⟨fun _ => trivial, fun _ u hu => ?_⟩
      rw [(hl u hu).2.2]; trivial

def opY (P : Program) (md : Region.Mode) (ops : Array Oper) (Le : World → World → Prop) (S : FuncId → Array Value → Value → World → Prop) (SV : FuncId → Array Value → Value → Prop) (C : Nat → World → Prop) (cs : List Nat) (i : Nat) (K : Act → (Nat → World → Prop) → Prop) (a : Act) (F : Nat → World → Prop) : Prop :=
  ∃ o, ops[i]? = some o ∧ ∃ V R, Gives P md ops Le S SV C cs F i o a V R ∧ ∀ u, V u → K (a.put o.dst u) (up F i (R u))
def anyY (P : Program) (md : Region.Mode) (ops : Array Oper) (Le : World → World → Prop) (S : FuncId → Array Value → Value → World → Prop) (SV : FuncId → Array Value → Value → Prop) (C : Nat → World → Prop) (cs : List Nat) (n : Nat) (L : Array Bool → Act → (Nat → World → Prop) → Prop) : Nat → Array Bool → Act → (Nat → World → Prop) → Prop
  | 0, listed, a, F => L listed a F
  | f + 1, listed, a, F => Region.ready md ops listed ≠ [] ∧ ∀ i ∈ Region.ready md ops listed, i < n ∧ opY P md ops Le S SV C cs i (fun a' F' => anyY P md ops Le S SV C cs n L f (listed.setIfInBounds i true) a' F') a F
theorem up_mono {F F' : Nat → World → Prop} (hF : ∀ k w, F' k w → F k w) (i : Nat) (R : World → Prop) : ∀ k w, up F' i R k w → up F i R k w := by
  intro k w h
  by_cases hk : k = i
  · subst hk; rw [up_same] at h ⊢; exact h
  · rw [up_ne _ _ hk] at h ⊢; exact hF k w h
theorem anyY_mono {n : Nat} {L : Array Bool → Act → (Nat → World → Prop) → Prop} (hL : ∀ listed a F F', (∀ k w, F' k w → F k w) → L listed a F → L listed a F') :
    ∀ (f : Nat) (listed : Array Bool) (a : Act) (F F' : Nat → World → Prop), (∀ k w, F' k w → F k w) → anyY P md ops Le S SV C cs n L f listed a F → anyY P md ops Le S SV C cs n L f listed a F'
  | 0, listed, a, F, F', hF, h => hL _ _ _ _ hF h
  | f + 1, listed, a, F, F', hF, h => ⟨h.1, fun i hi => ⟨(h.2 i hi).1, by
    obtain ⟨o, ho, V, R, hg, hk⟩ := (h.2 i hi).2
    exact ⟨o, ho, V, R, hg.mono hF, fun u hu => anyY_mono hL f _ _ _ _ (up_mono hF i (R u)) (hk u hu)⟩⟩⟩
theorem up_stb {F : Nat → World → Prop} (hF : ∀ k, Stb Le (F k)) {i : Nat} {R : World → Prop} (hR : Stb Le R) : ∀ k, Stb Le (up F i R k) := by
  intro k
  by_cases hk : k = i
  · subst hk; rw [up_same]; exact hR
  · rw [up_ne _ _ hk]; exact hF k
theorem up_all {F : Nat → World → Prop} {i : Nat} {R : World → Prop} {w : World} (hF : ∀ k, F k w) (hR : R w) : ∀ k, up F i R k w := by
  intro k
  by_cases hk : k = i
  · subst hk; rw [up_same]; exact hR
  · rw [up_ne _ _ hk]; exact hF k
theorem any_of_Y (hcs : chainedB md ops cs = true) {n g : Nat} {L : Array Bool → Act → (Nat → World → Prop) → Prop} {Q' : Exit → Act → World → Prop}
    (hL : ∀ listed a F w, C (ph cs listed) w → (∀ k, F k w) → L listed a F → wpAny P md ops Q' g listed a w) :
    ∀ (f : Nat) (listed : Array Bool) (a : Act) (F : Nat → World → Prop) (w : World), HeadInv md ops n listed → (∀ k, Stb Le (F k)) → C (ph cs listed) w → (∀ k, F k w) → anyY P md ops Le S SV C cs n L f listed a F → wpAny P md ops Q' (f + g) listed a w
  | 0, listed, a, F, w, _, hF, hw, hk, h => by rw [Nat.zero_add]; exact hL _ _ _ _ hw hk h
  | f + 1, listed, a, F, w, inv, hF, hw, hk, h => by
    rw [show f + 1 + g = (f + g) + 1 by omega]
    refine ⟨fun h0 => absurd h0 h.1, fun i hi => ?_⟩
    obtain ⟨hin, o, ho, V, R, hg, hK⟩ := h.2 i hi
    have ht := ph_at inv hi hcs
    unfold wpOp
    simp only [ho]
    have next : ∀ u w', (∀ k, F k w') → C (ph cs (listed.setIfInBounds i true)) w' → V u → R u w' → wpAny P md ops Q' (f + g) (listed.setIfInBounds i true) (a.put o.dst u) w' := fun u w' hk' hc hv hr =>
      any_of_Y hcs hL f _ _ _ w' (inv.set hi hin) (up_stb hF (hg.stb u)) hc (up_all hk' hr) (hK u hv)
    rcases hg with ⟨hwt, _, hx⟩ | ⟨hwt, hx, hV, hR⟩
    · simp only [hwt, if_true]
      refine .inl ?_
      have h3 := hx _ _ ht w hw fun e _ _ => hk _
      unfold Oper.wp
      generalize (execOp a.eval o).run P w = r at h3
      cases r with
      | ok nx w' =>
        cases nx <;> simp only [yUpon] at h3 <;> simp only [Oper.upon]
        case value u => exact next u w' (fun k => hF k _ _ (hk k) h3.1) h3.2.1 h3.2.2.1 h3.2.2.2
        case enter fn args =>
          obtain ⟨e1, e2, e3, hc⟩ := h3
          rw [e1]
          exact hc.mono fun e w'' ⟨u, he, hb, hc', hv, hs⟩ => by subst he; exact next u w'' (fun k => hF k _ _ (hk k) hb) hc' (by rw [e2]; exact hv) (by rw [e3]; exact hs)
      | halt x w' => simp only [yUpon] at h3
    · simp only [hwt, Bool.false_eq_true, if_false]
      exact next undef w hk (hx _ _ ht w hw) (by rw [hV]) (by rw [hR]; trivial)

/-- An operation that may come up may be taken first. -/
theorem anyY_first {n i : Nat} {oi : Oper} {L : Array Bool → Act → (Nat → World → Prop) → Prop} (hi : ops[i]? = some oi) (hsel : ∀ (j : Nat) (o : Oper) cs b, ops[j]? = some o → o.op ≠ .select cs b)
    (hlt : ∀ listed, HeadInv md ops n listed → listed.getD i true = false → ∀ j ∈ Region.ready md ops listed, j < n) (hin : i < n)
    (hL : ∀ listed a F F', (∀ k w, F' k w → F k w) → L listed a F → L listed a F')
    (hdone : ∀ listed a F, L listed a F → ∀ j ∈ Region.ready md ops listed, n ≤ j) :
    ∀ (f : Nat) (listed : Array Bool) (a : Act) (F : Nat → World → Prop) (V : Value → Prop) (R : Value → World → Prop) (u0 : Value), V u0 → HeadInv md ops n listed →
      (∀ j oj, ops[j]? = some oj → j ≠ i → listed.getD j true = false → (∀ e ∈ oj.after, Region.binds md e = true → e.on ≠ i) → oi.apart ops oj = true) →
      i ∈ Region.ready md ops listed → Gives P md ops Le S SV C cs F i oi a V R →
      (∀ u, V u → anyY P md ops Le S SV C cs n L f (listed.setIfInBounds i true) (a.put oi.dst u) (up F i (R u))) → anyY P md ops Le S SV C cs n L (f + 1) listed a F := by
  classical
  intro f
  induction f with
  | zero =>
    intro listed a F V R u0 h0 inv _ hr hy H
    have hun := (mem_ready.1 hr).1
    refine ⟨fun h => (by rw [h] at hr; cases hr), fun j hj => ?_⟩
    have hjn := hlt listed inv hun j hj
    refine ⟨hjn, ?_⟩
    by_cases hji : j = i
    · subst hji; exact ⟨oi, hi, V, R, hy, H⟩
    · have := hdone _ _ _ (H u0 h0) j (ready_mono hj hji)
      omega
  | succ f ih =>
    intro listed a F V R u0 h0 inv hfree hr hy H
    have hun := (mem_ready.1 hr).1
    refine ⟨fun h => (by rw [h] at hr; cases hr), fun j hj => ?_⟩
    have hjn := hlt listed inv hun j hj
    refine ⟨hjn, ?_⟩
    by_cases hji : j = i
    · subst hji; exact ⟨oi, hi, V, R, hy, H⟩
    · obtain ⟨hjun, oj, hoj, hall⟩ := mem_ready.1 hj
      obtain ⟨_, oi', hoi', halli⟩ := mem_ready.1 hr
      obtain rfl : oi' = oi := Option.some.inj (hoi'.symm.trans hi)
      have hnot : ∀ e ∈ oj.after, Region.binds md e = true → e.on ≠ i := fun e he hb heq => by
        have h1 := hall e he hb
        rw [heq, getD_both hun] at h1
        cases h1
      have hnoti : ∀ e ∈ oi'.after, Region.binds md e = true → e.on ≠ j := fun e he hb heq => by
        have h1 := halli e he hb
        rw [heq, getD_both hjun] at h1
        cases h1
      have hap := hfree j oj hoj hji hjun hnot
      have hsi : ∀ cs b, oi'.op ≠ .select cs b := fun cs b => hsel i oi' cs b hi
      have hsj : ∀ cs b, oj.op ≠ .select cs b := fun cs b => hsel j oj cs b hoj
      have hfree' : ∀ k ok, ops[k]? = some ok → k ≠ i → (listed.setIfInBounds j true).getD k true = false →
          (∀ e ∈ ok.after, Region.binds md e = true → e.on ≠ i) → oi'.apart ops ok = true := fun k ok hk hki hun' hno => by
        refine hfree k ok hk hki ?_ hno
        by_cases hjk : j = k
        · subst hjk; exact hjun
        · rw [getD_set_ne true hjk] at hun'; exact hun'
      have hd := (Oper.apart_spec hap).2.1
      have hc : ∀ u, V u → ∃ (Vj : Value → Prop) (Rj : Value → World → Prop), Gives P md ops Le S SV C cs F j oj a Vj Rj ∧ ∀ v, Vj v → anyY P md ops Le S SV C cs n L f ((listed.setIfInBounds i true).setIfInBounds j true) ((a.put oi'.dst u).put oj.dst v) (up (up F i (R u)) j (Rj v)) := by
        intro u hu
        obtain ⟨oj', hoj', Vj, Rj, hg, hk⟩ := ((H u hu).2 j (ready_mono hj hji)).2
        obtain rfl : oj' = oj := Option.some.inj (hoj'.symm.trans hoj)
        exact ⟨Vj, Rj, (hg.unput hap hsj).facts fun e he hb => (up_ne _ _ (hnot e he hb)).symm, hk⟩
      let Vc : Value → Value → Prop := fun u => if hu : V u then Classical.choose (hc u hu) else fun _ => True
      let Rc : Value → Value → World → Prop := fun u => if hu : V u then Classical.choose (Classical.choose_spec (hc u hu)) else fun _ _ => True
      have hRc : ∀ u (hu : V u), Gives P md ops Le S SV C cs F j oj a (Vc u) (Rc u) ∧ ∀ v, Vc u v → anyY P md ops Le S SV C cs n L f ((listed.setIfInBounds i true).setIfInBounds j true) ((a.put oi'.dst u).put oj.dst v) (up (up F i (R u)) j (Rc u v)) := by
        intro u hu
        have := Classical.choose_spec (Classical.choose_spec (hc u hu))
        simp only [Vc, Rc, dif_pos hu]
        exact this
      have hG := Gives.all (V0 := V) u0 h0 fun u hu => (hRc u hu).1
      refine ⟨oj, hoj, _, _, hG, fun v hv => ?_⟩
      refine ih (listed.setIfInBounds j true) (a.put oj.dst v) _ V R u0 h0 (inv.set hj hjn) hfree' (ready_mono hr (Ne.symm hji)) ((hy.put hap hsi).facts fun e he hb => up_ne _ _ (hnoti e he hb)) ?_
      intro u hu
      have hk := (hRc u hu).2 v (hv u hu)
      rw [Array.setIfInBounds_comm _ _ hji, ← Act.put_comm a u v hd]
      refine anyY_mono hL f _ _ _ _ ?_ hk
      intro k w' hh
      by_cases hki : k = i
      · subst hki
        rw [up_same] at hh
        rw [up_ne _ _ (Ne.symm hji), up_same]
        exact hh
      · rw [up_ne _ _ hki] at hh
        by_cases hkj : k = j
        · subst hkj
          rw [up_same] at hh ⊢
          exact hh u hu
        · rw [up_ne _ _ hkj] at hh
          rw [up_ne _ _ hkj, up_ne _ _ hki]
          exact hh

/-! ### the walk in the text's order -/
def wpY (P : Program) (md : Region.Mode) (ops : Array Oper) (Le : World → World → Prop) (S : FuncId → Array Value → Value → World → Prop) (SV : FuncId → Array Value → Value → Prop) (C : Nat → World → Prop) (cs : List Nat) (Q : Act → (Nat → World → Prop) → Prop) : Nat → List Oper → Act → (Nat → World → Prop) → Prop
  | _, [], a, F => Q a F
  | k, o :: rest, a, F => ∃ V R, (∃ u, V u) ∧ Gives P md ops Le S SV C cs F k o a V R ∧ ∀ u, V u → wpY P md ops Le S SV C cs Q (k + 1) rest (a.put o.dst u) (up F k (R u))
theorem anyY_lex {n g : Nat} {Lq : Act → (Nat → World → Prop) → Prop} (hLq : ∀ a F F', (∀ k w, F' k w → F k w) → Lq a F → Lq a F') (hsel : Region.noSelect ops = true)
    (hlt : ∀ i, i < n → ∀ listed, HeadInv md ops n listed → listed.getD i true = false → ∀ j ∈ Region.ready md ops listed, j < n) :
    ∀ (l : List Oper) (k : Nat) (listed : Array Bool) (a : Act) (F : Nat → World → Prop), (∀ j, j < l.length → l[j]? = ops[k + j]?) → k + l.length = n → HeadInv md ops n listed → (∀ j, j < k → listed.getD j false = true) →
    Region.lexHead md ops g l.length k listed = true → wpY P md ops Le S SV C cs Lq k l a F →
    anyY P md ops Le S SV C cs n (fun listed' a' F' => Region.seqB md ops g n listed' = true ∧ (∀ j, j < n → listed'.getD j false = true) ∧ Lq a' F') l.length listed a F
  | [], k, listed, a, F, _, hk, _, hd, hB, h => by
    have : k = n := by simpa using hk
    subst this
    exact ⟨by simpa [Region.lexHead] using hB, hd, h⟩
  | o :: l, k, listed, a, F, hl, hk, inv, hd, hB, h => by
    have h0 : ops[k]? = some o := by simpa using (hl 0 (by simp)).symm
    simp only [List.length_cons, Region.lexHead, Bool.and_eq_true] at hB
    obtain ⟨⟨hr, hf⟩, hB'⟩ := hB
    have hkn : k < n := by simp only [List.length_cons] at hk; omega
    have hr' : k ∈ Region.ready md ops listed := by simpa using hr
    obtain ⟨V, R, ⟨u0, hu0⟩, hg, hK⟩ := h
    have hks : k < listed.size := by rw [inv.size]; exact (Array.getElem?_eq_some_iff.1 h0).1
    refine anyY_first h0 (Region.noSelect_spec hsel) (hlt k hkn) hkn (fun listed a F F' hF h => ⟨h.1, h.2.1, hLq _ _ _ hF h.2.2⟩) (fun listed' a' F' hL => seqB_ready hL.1) l.length listed a F V R u0 hu0 inv (Region.free_spec h0 hf) hr' hg ?_
    intro u hu
    refine anyY_lex hLq hsel hlt l (k + 1) _ _ _ (fun j hj => by have := hl (j + 1) (by simp; omega); simpa [Nat.add_assoc, Nat.add_comm 1 j] using this) (by simp only [List.length_cons] at hk; omega) (inv.set hr' hkn) (fun j hj => ?_) hB' (hK u hu)
    by_cases hjk : k = j
    · subst hjk; exact getD_set_at hks
    · rw [getD_set_ne false hjk]; exact hd j (by omega)
def headB (ops : Array Oper) (n : Nat) (cs : List Nat) : Bool := Region.lexTailB .any ops n && chainedB .any ops cs && cs.all (fun c => decide (c < n))
/-- **The head in the text's order; then the tail.** -/
theorem wp_region_tail {id : Nat} {Q : Exit → Act → World → Prop} {a : Act} {w : World} {l : List Oper} (Le : World → World → Prop) (S : FuncId → Array Value → Value → World → Prop) (SV : FuncId → Array Value → Value → Prop) (C : Nat → World → Prop) (cs : List Nat) (n : Nat) (hm : P.follows .mixedOrders = true) (hB : headB l.toArray n cs = true)
    (hw : C 0 w.drew) (h : wpY P .any l.toArray Le S SV C cs (fun a' F => ∀ w', C cs.length w' → (∀ k, F k w') → wpList P l.toArray Q (l.drop n) a' w') 0 (l.take n) a (fun _ _ => True)) : (Code.region id l.toArray true).wp P Q a w := by
  simp only [headB, Bool.and_eq_true] at hB
  obtain ⟨⟨hB, hch⟩, hlc⟩ := hB
  have hlc' : ∀ c ∈ cs, c < n := fun c hc => by have := List.all_eq_true.1 hlc c hc; simpa using this
  simp only [Region.lexTailB, Bool.and_eq_true, decide_eq_true_eq] at hB
  obtain ⟨⟨⟨⟨hsel, hn⟩, hs⟩, hc⟩, hlex⟩ := hB
  have hn' : n < l.length := by simpa using hn
  have htl : (l.take n).length = n := by simp; omega
  have hdl : (l.drop n).length = l.toArray.size - n := by simp
  have inv0 : HeadInv .any l.toArray n (Array.replicate l.toArray.size false) :=
    ⟨by simp, fun j oj _ hl => (by rw [getD_replicate_false] at hl; cases hl), fun t _ ht => getD_in (by simpa using ht) (getD_replicate_false _ _)⟩
  have H := anyY_lex (md := .any) (g := l.toArray.size - n) (Lq := fun a' F => ∀ w', C cs.length w' → (∀ k, F k w') → wpList P l.toArray Q (l.drop n) a' w') (fun a F F' hF h w' h1 h2 => h w' h1 fun k => hF k _ (h2 k)) hsel
    (fun i hin listed inv hun j hj => (Nat.lt_or_ge j n).resolve_right fun h => absurd hj (tail_waits hs hc hn inv _ i rfl hin hun j h)) (l.take n) 0 _ a (fun _ _ => True) (fun j hj => by
      have hj' : j < n := by rw [htl] at hj; exact hj
      simp [hj']) (by simpa using htl) inv0 (fun j hj => by omega) (by rw [htl]; exact hlex) h
  refine wp_region_any hm ?_
  have := any_of_Y (Q' := Q) (g := l.toArray.size - n) hch (fun listed a' F w' hw' hk hL => by
    have hw2 : C cs.length w' := by rwa [ph_all fun c hc => hL.2.1 c (hlc' c hc)] at hw'
    have := wpAny_of_seq (md := .any) (Q' := Q) (l.drop n) n listed a' w' (fun j => by simp [List.getElem?_drop]) (by rw [hdl]; exact hL.1) (hL.2.2 w' hw2 hk)
    rwa [hdl] at this) _ _ _ _ _ inv0 (fun _ _ _ _ _ => trivial) (by rw [ph_none fun c => getD_replicate_false _ _]; exact hw) (fun _ => trivial) H
  rw [htl, show n + (l.toArray.size - n) = l.toArray.size by omega] at this
  exact this
def allB (ops : Array Oper) (cs : List Nat) : Bool := Region.noSelect ops && Region.lexHead .any ops 0 ops.size 0 (Array.replicate ops.size false) && chainedB .any ops cs && cs.all (fun c => decide (c < ops.size))
/-- A region that has no tail. -/
theorem wp_region_all {id : Nat} {Q : Exit → Act → World → Prop} {a : Act} {w : World} {l : List Oper} (Le : World → World → Prop) (S : FuncId → Array Value → Value → World → Prop) (SV : FuncId → Array Value → Value → Prop) (C : Nat → World → Prop) (cs : List Nat) (hm : P.follows .mixedOrders = true) (hB : allB l.toArray cs = true)
    (hw : C 0 w.drew) (h : wpY P .any l.toArray Le S SV C cs (fun a' F => ∀ w', C cs.length w' → (∀ k, F k w') → Q .normal a' w') 0 l a (fun _ _ => True)) : (Code.region id l.toArray true).wp P Q a w := by
  simp only [allB, Bool.and_eq_true] at hB
  obtain ⟨⟨⟨hsel, hlex⟩, hch⟩, hlc⟩ := hB
  have hlc' : ∀ c ∈ cs, c < l.toArray.size := fun c hc => by have := List.all_eq_true.1 hlc c hc; simpa using this
  have inv0 : HeadInv .any l.toArray l.toArray.size (Array.replicate l.toArray.size false) :=
    ⟨by simp, fun j oj _ hl => (by rw [getD_replicate_false] at hl; cases hl), fun t h1 h2 => by omega⟩
  have H := anyY_lex (md := .any) (g := 0) (Lq := fun a' F => ∀ w', C cs.length w' → (∀ k, F k w') → Q .normal a' w') (fun a F F' hF h w' h1 h2 => h w' h1 fun k => hF k _ (h2 k)) hsel
    (fun i hin listed inv hun j hj => by
      obtain ⟨_, oj, hoj, _⟩ := mem_ready.1 hj
      exact (Array.getElem?_eq_some_iff.1 hoj).1) l 0 _ a (fun _ _ => True) (fun j hj => by simp) (by simp) inv0 (fun j hj => by omega) (by simpa using hlex) h
  refine wp_region_any hm ?_
  have := any_of_Y (Q' := Q) (g := 0) hch (fun listed a' F w' hw' hk hL => by
    have hw2 : C cs.length w' := by rwa [ph_all fun c hc => hL.2.1 c (hlc' c hc)] at hw'
    refine ⟨?_, hL.2.2 w' hw2 hk⟩
    simpa [Region.seqB] using hL.1) _ _ _ _ _ inv0 (fun _ _ _ _ _ => trivial) (by rw [ph_none fun c => getD_replicate_false _ _]; exact hw) (fun _ => trivial) H
  rw [Nat.add_zero] at this
  simpa using this

/-! ### one operation -/
variable {Q : Act → (Nat → World → Prop) → Prop} {F : Nat → World → Prop} {a : Act} {o : Oper} {rest : List Oper} {k : Nat}
theorem wpY_mono (hQ : ∀ a F F', (∀ k w, F' k w → F k w) → Q a F → Q a F') : ∀ (l : List Oper) (k : Nat) (a : Act) (F F' : Nat → World → Prop), (∀ k w, F' k w → F k w) → wpY P md ops Le S SV C cs Q k l a F → wpY P md ops Le S SV C cs Q k l a F'
  | [], _, _, _, _, hF, h => hQ _ _ _ hF h
  | o :: l, k, a, F, F', hF, h => by
    obtain ⟨V, R, hi, hg, hk⟩ := h
    exact ⟨V, R, hi, hg.mono hF, fun u hu => wpY_mono hQ l (k + 1) _ _ _ (up_mono hF k (R u)) (hk u hu)⟩
/-- The walk's post, as the two theorems have it. -/
structure Mon (Q : Act → (Nat → World → Prop) → Prop) : Prop where mk ::
  out : ∀ a F F', (∀ k w, F' k w → F k w) → Q a F → Q a F'
theorem y_nil (h : Q a F) : wpY P md ops Le S SV C cs Q k [] a F := h
theorem wanted_none (h : o.guard = none) : Region.wanted o (yielded ops a.tmps) = true := by simp [Region.wanted, h]
/-- What operation i has told, to one that waits for it. -/
theorem fact {w : World} (hp : ∀ e ∈ o.after, Region.binds md e = true → F e.on w) (i : Nat) (h : (o.after.toList.any fun e => e.on == i && Region.binds md e) = true) : F i w := by
  obtain ⟨e, he, h2⟩ := List.any_eq_true.1 h
  simp only [Bool.and_eq_true, beq_iff_eq] at h2
  have := hp e (by simpa using he) h2.2
  rwa [h2.1] at this
def offB (cs : List Nat) (k : Nat) : Bool := !(cs.contains k)
theorem tr_off {i p p' : Nat} (h : offB cs i = true) (ht : tr cs i p p') : p' = p := by
  rcases ht with ⟨_, h2⟩ | ⟨h1, _⟩
  · exact h2
  · have : i ∈ cs := List.mem_of_getElem? h1
    simp [offB] at h
    exact absurd this h
def onB (cs : List Nat) (k q : Nat) : Bool := cs.contains k && (List.range cs.length).all fun p => p == q || cs[p]? != some k
theorem tr_on {i p p' q : Nat} (h : onB cs i q = true) (ht : tr cs i p p') : p = q ∧ p' = q + 1 := by
  simp only [onB, Bool.and_eq_true] at h
  rcases ht with ⟨h1, _⟩ | ⟨h1, h2⟩
  · have := h.1; simp at this; exact absurd this h1
  · have hp : p < cs.length := (List.getElem?_eq_some_iff.1 h1).1
    have := List.all_eq_true.1 h.2 p (List.mem_range.2 hp)
    simp [h1] at this
    subst this
    exact ⟨rfl, h2⟩
/-- One value, found by running it. -/
theorem y_val (hQ : Mon Q) (hrefl : ∀ w, Le w w) (hFk : ∀ w, F k w) (hoff : offB cs k = true) (hw : Region.wanted o (yielded ops a.tmps) = true)
    (h : ∃ v, (∀ p w, C p w → (∀ e ∈ o.after, Region.binds md e = true → F e.on w) → (execOp a.eval o).run P w = .ok (.value v) w) ∧ ∀ K : Act → Prop, (∀ a, wpY P md ops Le S SV C cs Q (k + 1) rest a F → K a) → K (a.put o.dst v)) : wpY P md ops Le S SV C cs Q k (o :: rest) a F := by
  obtain ⟨v, hr, h⟩ := h
  refine ⟨fun u => u = v, fun _ _ => True, ⟨v, rfl⟩, .inl ⟨hw, fun _ _ _ _ _ => trivial, fun p p' ht w hc hp => ?_⟩, ?_⟩
  · rw [hr p w hc hp, tr_off hoff ht]
    exact ⟨hrefl w, hc, rfl, trivial⟩
  · rintro u rfl
    exact h _ fun a hh => wpY_mono hQ.out rest (k + 1) a F _ (fun j w' hj => by
      by_cases hjk : j = k
      · subst hjk; exact hFk w'
      · rwa [up_ne _ _ hjk] at hj) hh
/-- One value at an operation of cs: the class q is turned as it is. -/
theorem y_pass (q : Nat) (hQ : Mon Q) (hrefl : ∀ w, Le w w) (hFk : ∀ w, F k w) (hon : onB cs k q = true) (hw : Region.wanted o (yielded ops a.tmps) = true) (hC : ∀ w, C q w → C (q + 1) w)
    (h : ∃ v, (∀ w, C q w → (∀ e ∈ o.after, Region.binds md e = true → F e.on w) → (execOp a.eval o).run P w = .ok (.value v) w) ∧ ∀ K : Act → Prop, (∀ a, wpY P md ops Le S SV C cs Q (k + 1) rest a F → K a) → K (a.put o.dst v)) : wpY P md ops Le S SV C cs Q k (o :: rest) a F := by
  obtain ⟨v, hr, h⟩ := h
  refine ⟨fun u => u = v, fun _ _ => True, ⟨v, rfl⟩, .inl ⟨hw, fun _ _ _ _ _ => trivial, fun p p' ht w hc hp => ?_⟩, ?_⟩
  · obtain ⟨rfl, rfl⟩ := tr_on hon ht
    rw [hr w hc hp]
    exact ⟨hrefl w, hC w hc, rfl, trivial⟩
  · rintro u rfl
    exact h _ fun a hh => wpY_mono hQ.out rest (k + 1) a F _ (fun j w' hj => by
      by_cases hjk : j = k
      · subst hjk; exact hFk w'
      · rwa [up_ne _ _ hjk] at hj) hh
theorem y_skip (hQ : Mon Q) (hFk : ∀ w, F k w) (hoff : offB cs k = true) (hw : Region.wanted o (yielded ops a.tmps) = false)
    (h : ∀ K : Act → Prop, (∀ a, wpY P md ops Le S SV C cs Q (k + 1) rest a F → K a) → K (a.put o.dst undef)) : wpY P md ops Le S SV C cs Q k (o :: rest) a F := by
  refine ⟨fun u => u = undef, fun _ _ => True, ⟨undef, rfl⟩, .inr ⟨hw, fun p p' ht w hc => by rw [tr_off hoff ht]; exact hc, rfl, rfl⟩, ?_⟩
  rintro u rfl
  exact h _ fun a hh => wpY_mono hQ.out rest (k + 1) a F _ (fun j w' hj => by
    by_cases hjk : j = k
    · subst hjk; exact hFk w'
    · rwa [up_ne _ _ hjk] at hj) hh
/-- A call whose result S tells. -/
theorem y_call (hoff : offB cs k = true) (hw : Region.wanted o (yielded ops a.tmps) = true)
    (h : ∃ f args, (∀ w, (execOp a.eval o).run P w = .ok (.enter f args) w) ∧ (∃ u, SV f args u) ∧ (∀ u, Stb Le (S f args u)) ∧
      (∀ p w, C p w → (∀ e ∈ o.after, Region.binds md e = true → F e.on w) → Calls P f args w (fun e w'' => ∃ u, e = .returned u ∧ Le w w'' ∧ C p w'' ∧ SV f args u ∧ S f args u w'')) ∧
      ∀ u, SV f args u → ∀ K : Act → Prop, (∀ a, wpY P md ops Le S SV C cs Q (k + 1) rest a (up F k (S f args u)) → K a) → K (a.put o.dst u)) : wpY P md ops Le S SV C cs Q k (o :: rest) a F := by
  obtain ⟨f, args, hr, hi, hs, hc, h⟩ := h
  exact ⟨SV f args, S f args, hi, .inl ⟨hw, hs, fun p p' ht w hw hp => by rw [hr w, tr_off hoff ht]; exact ⟨rfl, rfl, rfl, hc p w hw hp⟩⟩, fun u hu => h u hu _ fun a hh => hh⟩
/-- The call that turns the class q. -/
theorem y_turn (q : Nat) (hon : onB cs k q = true) (hw : Region.wanted o (yielded ops a.tmps) = true)
    (h : ∃ f args, (∀ w, (execOp a.eval o).run P w = .ok (.enter f args) w) ∧ (∃ u, SV f args u) ∧ (∀ u, Stb Le (S f args u)) ∧
      (∀ w, C q w → (∀ e ∈ o.after, Region.binds md e = true → F e.on w) → Calls P f args w (fun e w'' => ∃ u, e = .returned u ∧ Le w w'' ∧ C (q + 1) w'' ∧ SV f args u ∧ S f args u w'')) ∧
      ∀ u, SV f args u → ∀ K : Act → Prop, (∀ a, wpY P md ops Le S SV C cs Q (k + 1) rest a (up F k (S f args u)) → K a) → K (a.put o.dst u)) : wpY P md ops Le S SV C cs Q k (o :: rest) a F := by
  obtain ⟨f, args, hr, hi, hs, hc, h⟩ := h
  exact ⟨SV f args, S f args, hi, .inl ⟨hw, hs, fun p p' ht w hw hp => by obtain ⟨rfl, rfl⟩ := tr_on hon ht; rw [hr w]; exact ⟨rfl, rfl, rfl, hc w hw hp⟩⟩, fun u hu => h u hu _ fun a hh => hh⟩
/-- The call that turns the class q is not made: the class is turned as it is. -/
theorem y_idle (q : Nat) (hQ : Mon Q) (hFk : ∀ w, F k w) (hon : onB cs k q = true) (hw : Region.wanted o (yielded ops a.tmps) = false) (hC : ∀ w, C q w → C (q + 1) w)
    (h : ∀ K : Act → Prop, (∀ a, wpY P md ops Le S SV C cs Q (k + 1) rest a F → K a) → K (a.put o.dst undef)) : wpY P md ops Le S SV C cs Q k (o :: rest) a F := by
  refine ⟨fun u => u = undef, fun _ _ => True, ⟨undef, rfl⟩, .inr ⟨hw, fun p p' ht w hc => by obtain ⟨rfl, rfl⟩ := tr_on hon ht; exact hC w hc, rfl, rfl⟩, ?_⟩
  rintro u rfl
  exact h _ fun a hh => wpY_mono hQ.out rest (k + 1) a F _ (fun j w' hj => by
    by_cases hjk : j = k
    · subst hjk; exact hFk w'
    · rwa [up_ne _ _ hjk] at hj) hh
/-- A new variable, or another operation that makes memory. -/
theorem y_new (V : Value → Prop) (R : Value → World → Prop) (hV : ∃ u, V u) (hs : ∀ u, Stb Le (R u)) (hoff : offB cs k = true) (hw : Region.wanted o (yielded ops a.tmps) = true)
    (h : (∀ p w, C p w → (∀ e ∈ o.after, Region.binds md e = true → F e.on w) → ∃ u w', (execOp a.eval o).run P w = .ok (.value u) w' ∧ Le w w' ∧ C p w' ∧ V u ∧ R u w') ∧
      ∀ u, V u → ∀ K : Act → Prop, (∀ a, wpY P md ops Le S SV C cs Q (k + 1) rest a (up F k (R u)) → K a) → K (a.put o.dst u)) : wpY P md ops Le S SV C cs Q k (o :: rest) a F :=
  ⟨V, R, hV, .inl ⟨hw, hs, fun p p' ht w hw hp => by obtain ⟨u, w', e, hb, hc, hv, hr⟩ := h.1 p w hw hp; rw [e, tr_off hoff ht]; exact ⟨hb, hc, hv, hr⟩⟩, fun u hu => h.2 u hu _ fun a hh => hh⟩
/-- A store that turns the class q. -/
theorem y_put (q : Nat) (v : Value) (hQ : Mon Q) (hFk : ∀ w, F k w) (hon : onB cs k q = true) (hw : Region.wanted o (yielded ops a.tmps) = true)
    (h : (∀ w, C q w → (∀ e ∈ o.after, Region.binds md e = true → F e.on w) → ∃ w', (execOp a.eval o).run P w = .ok (.value v) w' ∧ Le w w' ∧ C (q + 1) w') ∧
      ∀ K : Act → Prop, (∀ a, wpY P md ops Le S SV C cs Q (k + 1) rest a F → K a) → K (a.put o.dst v)) : wpY P md ops Le S SV C cs Q k (o :: rest) a F := by
  refine ⟨fun u => u = v, fun _ _ => True, ⟨v, rfl⟩, .inl ⟨hw, fun _ _ _ _ _ => trivial, fun p p' ht w hw hp => by obtain ⟨rfl, rfl⟩ := tr_on hon ht; obtain ⟨w', e, hb, hc⟩ := h.1 w hw hp; rw [e]; exact ⟨hb, hc, rfl, trivial⟩⟩, ?_⟩
  rintro u rfl
  exact h.2 _ fun a hh => wpY_mono hQ.out rest (k + 1) a F _ (fun j w' hj => by
    by_cases hjk : j = k
    · subst hjk; exact hFk w'
    · rwa [up_ne _ _ hjk] at hj) hh
/-- An operation that makes memory and turns the class q. -/
theorem y_grow (q : Nat) (V : Value → Prop) (R : Value → World → Prop) (hV : ∃ u, V u) (hs : ∀ u, Stb Le (R u)) (hon : onB cs k q = true) (hw : Region.wanted o (yielded ops a.tmps) = true)
    (h : (∀ w, C q w → (∀ e ∈ o.after, Region.binds md e = true → F e.on w) → ∃ u w', (execOp a.eval o).run P w = .ok (.value u) w' ∧ Le w w' ∧ C (q + 1) w' ∧ V u ∧ R u w') ∧
      ∀ u, V u → ∀ K : Act → Prop, (∀ a, wpY P md ops Le S SV C cs Q (k + 1) rest a (up F k (R u)) → K a) → K (a.put o.dst u)) : wpY P md ops Le S SV C cs Q k (o :: rest) a F :=
  ⟨V, R, hV, .inl ⟨hw, hs, fun p p' ht w hw hp => by obtain ⟨rfl, rfl⟩ := tr_on hon ht; obtain ⟨u, w', e, hb, hc, hv, hr⟩ := h.1 w hw hp; rw [e]; exact ⟨hb, hc, hv, hr⟩⟩, fun u hu => h.2 u hu _ fun a hh => hh⟩
end
end Go.Proofs.Ytddhngalokmdoaa.Qy

/- A tray: Power, New, Flush. -/
namespace Go.Proofs.Ytddhngalokmdoaa.Spo
open Go.RowKit Go.Proofs.YtddhngalokmdoaaW.PrintWords Go.Proofs.YtddhngalokmdoaaW.PrintLast Go.Proofs.YtddhngalokmdoaaW.PrintMore Go.Proofs.Ytddhngalokmdoaa.Arr Go.Proofs.Ytddhngalokmdoaa.PSpoolPlays
set_option linter.unusedVariables false
set_option linter.unusedSimpArgs false

set_option maxHeartbeats 4000000 in
theorem power_calls (P : Nat → Prop) (t : Nat) (V : TrayV) (n : Int) (w : World) (H : TAt P w t V) :
    Calls Try.prog 25 #[ptrT t, .int .i64 n] w fun e w' => e = .returned (.int .i64 (powerV V n).2) ∧ TAt P w' t (powerV V n).1 ∧ OnlyP P w w' := by
  unfold powerV
  by_cases h0 : n < 0
  · rw [if_pos (.inl h0)]
    have t0 : decide (n < 0) = true := decide_eq_true h0
    clear h0
    have HH := Aside0.mk H
    go_enter Try.func25, Try.ntmps25
    go_wp2
    go_ret
    exact ⟨rfl, HH.out, OnlyP.refl _ _⟩
  have t0 : decide (n < 0) = false := decide_eq_false h0
  by_cases h1 : n > 1099511627776
  · rw [if_pos (.inr h1)]
    have t1 : decide (n > 1099511627776) = true := decide_eq_true h1
    clear h0 h1
    have HH := Aside0.mk H
    go_enter Try.func25, Try.ntmps25
    go_wp2
    go_ret
    exact ⟨rfl, HH.out, OnlyP.refl _ _⟩
  have t1 : decide (n > 1099511627776) = false := decide_eq_false h1
  rw [if_neg (fun h => h.elim h0 h1)]
  obtain ⟨kv, cv, hT, hK, hC, hP⟩ := H.out
  obtain ⟨kept, cache, left, dark⟩ := V
  have c2 := hT.cell 2
  have c3 := hT.cell 3
  have f2 := hT.frozen 2
  have f3 := hT.frozen 3
  have lt := hT.lt
  have K := Aside0.mk (⟨hT, hK, hC, hP⟩ : _ ∧ _ ∧ _ ∧ _)
  clear H hT hK hC hP h0 h1
  go_enter Try.func25, Try.ntmps25
  go_wp2
  go_ret
  obtain ⟨h1, h2, h3, h4⟩ := K.out
  refine ⟨rfl, TAt.set (V := ⟨kept, cache, left, dark⟩) h2 h3 h4 ((h1.set 2 (.int .i64 n)).set 3 (.bool false)) rfl rfl rfl (fun k hk => (Below.heap_setCell _ _ _ k hk).trans (Below.heap_setCell w _ _ k hk)) ⟨_, h1⟩, ((OnlyP.refl P w).setCell (.inl h4) _).setCell (.inl h4) _⟩
set_option maxHeartbeats 8000000 in
set_option maxRecDepth 100000 in
theorem new_calls (P : Nat → Prop) (n : Nat) (hn : 4 ≤ n) (hn2 : n ≤ 4096) (w : World) (hP : ∀ j, w.heap.size ≤ j → P j) :
    Calls Try.prog 12 #[.int .i64 (n : Int)] w fun e w' => ∃ t, e = .returned (.tuple #[ptrT t, .int .i64 0]) ∧ TAt P w' t (newV n) ∧ Below w.heap.size w w' := by
  have t0 : decide ((n : Int) < 4) = false := decide_eq_false (by omega)
  have t1 : decide ((n : Int) > 4096) = false := decide_eq_false (by omega)
  obtain ⟨ie, hie, h1⟩ := Option.map_eq_some_iff.1 (show (Try.prog.info? TSe).map (fun i => (i.zero, i.size, i.bytes)) = some (some (.agg (nums .u8 zB).toArray), 128, 128) by kernel_rfl)
  simp only [Prod.mk.injEq] at h1
  obtain ⟨h1, h2, h3⟩ := h1
  have hm : (Instr.makeSlice 76 (.int .i64 (n : Int)) (.int .i64 (n : Int))).run Try.prog w = .ok (.slice (some ⟨w.heap.size, 0, none⟩) n n) (w.alloc (.cells (madeCells (nums .u8 zB).toArray (n * 128)) TSe)) := by
    have := run_make (P := Try.prog) w 76 TSe ie (.agg (nums .u8 zB).toArray) Try.underlying76 hie h1 .i64 .i64 n n (by omega) (Int.le_refl _) (by rw [h3]; omega) (by omega)
    simp only [Int.toNat_natCast] at this
    rw [this, h2]
    rfl
  go_enter Try.func12, Try.ntmps12
  go_wp2
  go_ret2
  have hl0 : (nums .u8 zB).length = 128 := by simp [zB, nums]
  have hR := flat_made (e := TSe) (h1 := fun x => nums_one .u8 x) (base := 0) (ok := P) zB hl0 (by decide) n w (Nat.zero_le _) (hP _ (Nat.le_refl _)) (by unfold maxLen; omega)
  refine ⟨w.heap.size + 1, rfl, ⟨_, _, Blk.newAt (by simp), Kd.R_alloc hR _, Kd.R_nil _ _ _ _ _, hP _ (by omega)⟩, ((Below.refl _ _).alloc (Nat.le_refl _) _).alloc (by simp) _⟩
set_option maxHeartbeats 8000000 in
set_option maxRecDepth 100000 in
theorem flush_calls (P : Nat → Prop) (t : Nat) (V : TrayV) (w : World) (H : TAt P w t V) (hS : Sound V) (hl : V.left ≤ 9223372036854775807) (hk : 0 < V.kept.length) (hcl : V.cache.length ≤ 1000000000) :
    Calls Try.prog 43 #[ptrT t] w fun e w' => e = .returned (.int .i64 (flushV V).2) ∧ TAt P w' t (flushV V).1 ∧ OnlyP P w w' := by
  have KS := Aside0.mk (step_calls P t V w hl H)
  obtain ⟨hs1, hs2⟩ := step_kept V
  have hS1 := hS.step
  unfold flushV
  obtain ⟨b, hb⟩ : ∃ b, (stepV V).2 = b := ⟨_, rfl⟩
  obtain ⟨V1, hV1⟩ : ∃ V1, (stepV V).1 = V1 := ⟨_, rfl⟩
  rw [hb, hV1] at KS
  rw [hV1] at hS1 hs1 hs2
  rw [hb, hV1, ← hs1, ← hs2]
  rw [← hs1] at hk
  rw [← hs2] at hcl
  clear hb hV1 hs1 hs2 hl hS H
  cases b with
  | false =>
    rw [if_neg (by decide)]
    go_enter Try.func43, Try.ntmps43
    go_wp2_with fail
    refine KS.out.mono ?_
    rintro e w1 ⟨rfl, hT, hO⟩
    have HT := Aside0.mk hT
    have HO := Aside0.mk hO
    clear hT hO KS
    go_wp2
    go_ret
    exact ⟨rfl, HT.out, HO.out⟩
  | true =>
    rw [if_pos rfl]
    go_enter Try.func43, Try.ntmps43
    go_wp2_with fail
    refine KS.out.mono ?_
    rintro e w1 ⟨rfl, hT, hO⟩
    have HO := Aside0.mk hO
    obtain ⟨kv, cv, h1, h2, h3, h4⟩ := hT.out
    obtain ⟨Ak, ck, rfl⟩ := Kd.R_slice h2
    obtain ⟨Ac, cc, rfl⟩ := Kd.R_slice h3
    obtain ⟨gk, cur, rfl, -, -, -, hPk, -, -, -⟩ := flat_form h2 hk
    have KT := Aside0.mk (⟨h1, h2, h3, h4⟩ : _ ∧ _ ∧ _ ∧ _)
    obtain ⟨n, hn⟩ : ∃ n, V1.kept.length = n := ⟨_, rfl⟩
    obtain ⟨m, hm⟩ : ∃ m, V1.cache.length = m := ⟨_, rfl⟩
    have hB := h1
    rw [hn, hm] at hB
    have HB := Aside0.mk hB
    have KSe := Aside0.mk (fun w' (hb : Below w1.heap.size w1 w') => settle_calls P P V1.kept V1.cache gk n ck Ac cc m w' (by rw [← hn]; exact Kd.R_below h2 hb) (by rw [← hm]; exact Kd.R_below h3 hb) hS1.cache hk hS1.len hcl)
    have HN := Aside0.mk hn
    clear hT hO KS h1 h2 h3 h4 hn hm hB
    go_wp2_with fail
    refine Qt.wp_region_tail (fun w' => Below w1.heap.size w1 w') 8 (by kernel_rfl) (by kernel_rfl) (Below.refl _ _).drew ?_
    simp only [List.take_succ_cons, List.take_zero, List.drop_succ_cons, List.drop_zero]
    iterate 8 ((first | (with_reducible refine Qt.q_val' rfl ?_) | ((with_reducible refine Qg.on_val' ?_); apply Exists.intro; apply Exists.intro; apply Exists.intro; refine ⟨?_, ?_, ?_, ?_⟩; (focus rfl); (focus rfl); (focus rfl))); apply Exists.intro; refine ⟨?_, ?_⟩; (focus (intro w' hw'; have hEw := HB.out.below hw'; have e0 := hEw.cell 0; have e1 := hEw.cell 1; have el := hEw.lt; go_simp; (first | done | (with_reducible rfl)))); intro K hK; go_simp; (first | (with_reducible refine hK _ ?_) | (refine hK _ ?_)); clear hK K)
    (refine wpQuiet_nil ?_; intro w' hw')
    go_wp2_with fail
    refine (KSe.out w' hw').mono ?_
    rintro e w2 ⟨rfl, hR2, hO2⟩
    obtain ⟨h1, h2, h3, h4⟩ := KT.out
    have hgk := flat_lt h2 gk rfl
    have hne : t ≠ gk := fun e => Kd.R_ne h2 h1.out (by decide) (by rw [e]; rfl)
    have hB2 := hO2.blk (h1.below hw') hne
    have HB2 := Aside0.mk hB2
    have HR2 := Aside0.mk hR2
    have HO2 := Aside0.mk ((HO.out.step hw').trans (hO2.mono (Q := P) (fun k _ e => by rw [e]; exact hgk.2)))
    have c1 := hB2.cell 1
    have f1 := hB2.frozen 1
    have lt := hB2.lt
    clear h1 h2 h3 h4 hw' hR2 hO2 KSe hB2
    go_wp2
    go_ret
    obtain ⟨h1, h2, h3, h4⟩ := KT.out
    have hR3 := HR2.out
    rw [← HN.out] at hR3
    refine ⟨rfl, ⟨.slice (some ⟨gk, 0, none⟩) V1.kept.length ck, .slice none 0 0, HB2.out.set 1 (.slice none 0 0), ?_, Kd.R_nil _ _ _ _ _, h4⟩, HO2.out.setCell (.inl h4) _⟩
    exact flat_move hR3 fun k hk => Below.heap_setCell _ _ _ k (fun e => Kd.R_ne hR3 HB2.out.out (by decide) (by rw [hk, e]))
end Go.Proofs.Ytddhngalokmdoaa.Spo

/- A tray: Write. -/
namespace Go.Proofs.Ytddhngalokmdoaa.Spo
open Go.RowKit Go.Proofs.YtddhngalokmdoaaW.PrintWords Go.Proofs.YtddhngalokmdoaaW.PrintLast Go.Proofs.YtddhngalokmdoaaW.PrintMore Go.Proofs.Ytddhngalokmdoaa.Arr Go.Proofs.Ytddhngalokmdoaa.PSpoolPlays
set_option linter.unusedVariables false
set_option linter.unusedSimpArgs false

theorem stamp_copy (at_ : Int) (bs : List Int) (h : bs.length ≤ 128) : ((stampC (at_, zB)).toArray.toList.take 1 ++ (nums .u8 bs ++ (stampC (at_, zB)).toArray.toList.drop (1 + (nums .u8 bs).length))).toArray = (stampC (at_, padB bs)).toArray := by
  have e1 : (nums .u8 zB).drop bs.length = nums .u8 (List.replicate (128 - bs.length) 0) := by
    unfold nums zB
    rw [← List.map_drop, List.drop_replicate]
  have e2 : nums .u8 (padB bs) = nums .u8 bs ++ nums .u8 (List.replicate (128 - bs.length) 0) := by
    unfold nums padB
    rw [List.map_append]
  congr 1
  rw [nums_length, Nat.add_comm 1]
  show [Value.int .i64 at_] ++ (nums .u8 bs ++ (nums .u8 zB).drop bs.length) = Value.int .i64 at_ :: nums .u8 (padB bs)
  rw [e1, e2]
  rfl
theorem reads_below {w w1 : World} {A : Option Addr} {n : Nat} {bs : List Int} (h : ReadsInt w .u8 A n bs) (hb : Below w.heap.size w w1) : ReadsInt w1 .u8 A n bs := ⟨h.1, h.2.1, fun hn => by
  obtain ⟨ad, e, hc⟩ := h.2.2 hn
  exact ⟨ad, e, fun j hj => (hb.cell (World.block_lt_of_cell? w _ (hc j hj))).trans (hc j hj)⟩⟩
theorem wp_copy_stamp {P : Program} {w : World} {ops : Array Oper} {rest : List Oper} {o : Oper} {a : Act} {Q : Exit → Act → World → Prop} (hgd : o.guard = none) (d s : Operand) (dT sT : TypeId)
    (ho : o.op = .call { callee := .builtin .copy, args := #[d, s], argTypes := #[dT, sT] }) (elem : TypeId) (hu : P.underlying dT = some (.slice elem)) (hsz : (P.info? elem).map (·.size) = some 1)
    (g dCap : Nat) (at_ : Int) (bs : List Int) (A : Option Addr) (n c : Nat) (hd : a.eval d = .slice (some ⟨g, 1, none⟩) 128 dCap) (hs : a.eval s = .slice A n c)
    (T : TypeId) (hB : Blk w g T (stampC (at_, zB)).toArray) (hr : ReadsInt w .u8 A n bs) (hn : n ≤ 128)
    (h : wpList P ops Q rest (a.put o.dst (goInt n)) (w.setRow g (stampC (at_, padB bs)).toArray)) : wpList P ops Q (o :: rest) a w := by
  have hl := hr.1
  by_cases h0 : n = 0
  · subst h0
    obtain rfl : bs = [] := List.eq_nil_of_length_eq_zero hl
    refine wpList_copy_nothing hgd d s dT sT ho elem hu hsz _ A 128 dCap 0 c hd hs (by simp) ?_
    have e : padB [] = zB := rfl
    rw [e, setRow_self w g _ T _ hB.out] at h
    simpa using h
  · obtain ⟨ad, rfl, hc⟩ := hr.2.2 (by omega)
    refine wpList_copy_own hgd d s dT sT ho elem hu hsz g 1 128 dCap ad n c hd hs (stampC (at_, zB)).toArray T hB.out (nums .u8 bs) (by rw [nums_length, hl]; exact (Nat.min_eq_left hn).symm) ?_ ?_ (nums_one .u8 bs) ?_
    · intro j v hj
      have hlt : j < bs.length := by
        have := (List.getElem?_eq_some_iff.1 hj).1
        simpa [nums] using this
      have hv : v = .int .u8 (bs.getD j 0) := by
        simp [nums, List.getElem?_eq_getElem hlt] at hj
        simp [List.getD, List.getElem?_eq_getElem hlt, hj]
      rw [hv]
      exact hc j (by omega)
    · rw [nums_length]
      simp [stampC, nums, zB]
      omega
    · rw [stamp_copy at_ bs (by omega), nums_length, hl]
      exact h
theorem buildCa (at_ : Int) : ∀ w, (Instr.build TCa #[(0, .int .i64 at_)]).run Try.prog w = .ok (.agg (stampC (at_, zB)).toArray) w := fun w => by kernel_rfl
theorem infoB : (Try.prog.info? 5).map (·.size) = some 1 := by kernel_rfl
theorem infoCa3 : (Try.prog.info? TCa).map (fun i => (i.zero, i.size, i.bytes)) = some (some (.agg zCa.toArray), 129, 136) := by kernel_rfl
set_option maxHeartbeats 8000000 in
set_option maxRecDepth 100000 in
theorem write_calls (P : Nat → Prop) (t : Nat) (V : TrayV) (at_ : Int) (bs : List Int) (A : Option Addr) (n c : Nat) (w : World) (H : TAt P w t V) (hl : V.left ≤ 9223372036854775807) (hr : ReadsInt w .u8 A n bs) (hcl : V.cache.length ≤ 1000000000)
    (hA : ∀ ad, A = some ad → 0 < n → ¬ P ad.block) (hP : ∀ j, w.heap.size ≤ j → P j) :
    Calls Try.prog 14 #[ptrT t, .int .i64 at_, .slice A n c] w fun e w' => e = .returned (.int .i64 (writeV V at_ bs).2) ∧ TAt P w' t (writeV V at_ bs).1 ∧ OnlyP P w w' := by
  have KH := Aside0.mk (has_calls P t V at_ w H)
  have hbl := hr.1
  unfold writeV
  cases hh : hasV V at_ with
  | false =>
    rw [hh] at KH
    rw [if_pos (.inl rfl)]
    have HH := Aside0.mk H
    clear hh hr hA H
    go_enter Try.func14, Try.ntmps14
    go_wp2_with fail
    refine KH.out.mono ?_
    rintro e w1 ⟨rfl, b1⟩
    have HH1 := Aside0.mk (HH.out.below b1)
    have B1 := Aside0.mk b1
    clear b1 KH
    go_wp2
    go_ret
    exact ⟨rfl, HH1.out, OnlyP.of_below B1.out⟩
  | true =>
  rw [hh] at KH
  by_cases h128 : 128 < bs.length
  · rw [if_pos (.inr h128)]
    have HH := Aside0.mk H
    have t1 : decide ((n : Int) > 128) = true := decide_eq_true (by omega)
    clear hh hr hA H
    go_enter Try.func14, Try.ntmps14
    go_wp2_with fail
    refine KH.out.mono ?_
    rintro e w1 ⟨rfl, b1⟩
    have HH1 := Aside0.mk (HH.out.below b1)
    have B1 := Aside0.mk b1
    clear b1 KH
    go_wp2
    go_ret
    exact ⟨rfl, HH1.out, OnlyP.of_below B1.out⟩
  rw [if_neg (by rintro (h | h); exact absurd h (by decide); exact h128 h)]
  have t1 : decide ((n : Int) > 128) = false := decide_eq_false (by omega)
  have HR := Aside0.mk hr
  have HA := Aside0.mk hA
  have HH := Aside0.mk H
  have KS := Aside0.mk (fun w1 (b1 : Below w.heap.size w w1) => step_calls P t V w1 hl (H.below b1))
  obtain ⟨hs1, hs2⟩ := step_kept V
  obtain ⟨b, hb⟩ : ∃ b, (stepV V).2 = b := ⟨_, rfl⟩
  obtain ⟨V1, hV1⟩ : ∃ V1, (stepV V).1 = V1 := ⟨_, rfl⟩
  rw [hb, hV1] at KS
  rw [hV1] at hs1 hs2
  rw [hb, hV1, ← hs2]
  rw [← hs2] at hcl
  clear hb hV1 hs1 hs2 hl hh hr hA H
  cases b with
  | false =>
    rw [if_neg (by decide)]
    go_enter Try.func14, Try.ntmps14
    go_wp2_with fail
    refine KH.out.mono ?_
    rintro e w1 ⟨rfl, b1⟩
    have B1 := Aside0.mk b1
    have KS1 := Aside0.mk (KS.out w1 b1)
    clear b1 KH
    go_wp2_with fail
    refine KS1.out.mono ?_
    rintro e w2 ⟨rfl, hT, hO⟩
    have HT := Aside0.mk hT
    have HO := Aside0.mk ((OnlyP.of_below B1.out).trans hO)
    clear hT hO KS KS1
    go_wp2
    go_ret
    exact ⟨rfl, HT.out, HO.out⟩
  | true =>
    rw [if_pos rfl]
    go_enter Try.func14, Try.ntmps14
    go_wp2_with fail
    refine KH.out.mono ?_
    rintro e w1 ⟨rfl, b1⟩
    have B1 := Aside0.mk b1
    have KS1 := Aside0.mk (KS.out w1 b1)
    clear b1 KH
    go_wp2_with fail
    refine KS1.out.mono ?_
    rintro e w2 ⟨rfl, hT, hO⟩
    have HT := Aside0.mk hT
    have HO := Aside0.mk ((OnlyP.of_below B1.out).trans hO)
    have hR2 : ReadsInt w2 .u8 A n bs := ⟨HR.out.1, HR.out.2.1, fun hn => by
      obtain ⟨ad, e, hc⟩ := HR.out.2.2 hn
      refine ⟨ad, e, fun j hj => ?_⟩
      have h1 := hc j hj
      have hlt := World.block_lt_of_cell? w _ h1
      have hbk : (ad.add j).block = ad.block := by unfold Addr.add; split <;> rfl
      have := HO.out.block (ad.add j).block hlt (by rw [hbk]; exact HA.out ad e hn)
      rw [← h1]
      simp only [World.cell?, this]⟩
    have HR2 := Aside0.mk hR2
    have hP2 : ∀ j, w2.heap.size ≤ j → P j := fun j hj => hP j (Nat.le_trans HO.out.size hj)
    obtain ⟨W9, hW9⟩ : ∃ W9, w2.alloc (.cells (stampC (at_, padB bs)).toArray TCa) = W9 := ⟨_, rfl⟩
    have HW9 := Aside0.mk hW9
    have b9 : Below w2.heap.size w2 W9 := by rw [← hW9]; exact (Below.refl _ _).alloc (Nat.le_refl _) _
    have hE9 : Blk W9 w2.heap.size TCa (stampC (at_, padB bs)).toArray := by rw [← hW9]; exact Blk.new _ _ _
    have hn128 : n ≤ 128 := by omega
    have hone := stamp_one (at_, zB)
    have hzl : (stampC (at_, zB)).toArray.size = 129 := by simp [stampC, nums, zB]
    have h83 := Try.underlying83
    have h81 := Try.underlying81
    have hRz : ReadsInt (w2.alloc (.cells (stampC (at_, zB)).toArray TCa)) .u8 A n bs := reads_below hR2 ((Below.refl _ _).alloc (Nat.le_refl _) _)
    clear hT hO KS KS1 hW9 hR2
    go_wp2_with (first
      | (with_reducible refine wpList_build_agg rfl TCa _ rfl (stampC (at_, zB)).toArray (fun w => by kernel_rfl) ?_)
      | (with_reducible refine wpList_alloc_agg rfl TCa _ rfl zeroCa ?_)
      | (with_reducible refine wpList_store_blk rfl TCa (.tmp 7) (.tmp 23) rfl w2.heap.size (stampC (at_, zB)).toArray ?_ ?_ infoCa hzl hone (Blk.newAt rfl) zCa_len ?_; (focus simp [Act.eval, Act.put]); (focus simp [Act.eval, Act.put]); rw [setRow_top rfl])
      | (with_reducible refine wp_copy_stamp rfl (.tmp 25) (.tmp 26) _ _ rfl 5 Try.underlying22 infoB w2.heap.size 128 at_ bs A n c ?_ ?_ TCa (Blk.newAt rfl) hRz hn128 ?_; (focus simp [Act.eval, Act.put]); (focus simp [Act.eval, Act.put]); rw [setRow_top rfl]; rw [HW9.out]))
    obtain ⟨kv, cv, hT, hK, hC, hPt⟩ := HT.out.out
    obtain ⟨Ak, ck, rfl⟩ := Kd.R_slice hK
    obtain ⟨Ac, cc, rfl⟩ := Kd.R_slice hC
    have hT9 := hT.below b9
    have hC9 := Kd.R_below hC b9
    have hP9 : ∀ k, W9.drew.heap.size ≤ k → P k := fun k hk => hP2 k (Nat.le_trans b9.size hk)
    obtain ⟨u2, W2, hrun, hR3, hg3⟩ := flat_append (P := Try.prog) (t := 77) 77 Try.underlying77 infoCa3 (by simp [Value.cells, zCa, zB, nums]) (by decide) (by decide) (Kd.R_below hC9 (w1 := W9.drew) (Below.refl _ _).drew) (at_, padB bs) (by simp [nums, padB_length (show bs.length ≤ 128 by omega)]) hP9 (Nat.zero_le _) (by omega)
    obtain ⟨A3, c3, e3⟩ := Kd.R_slice hR3
    obtain ⟨n3, hn3⟩ : ∃ n3, (V1.cache ++ [(at_, padB bs)]).length = n3 := ⟨_, rfl⟩
    rw [hn3] at e3
    have HN3 := Aside0.mk hn3
    subst e3
    have HR3 := Aside0.mk hR3
    clear hn3 hR3
    obtain ⟨m, hm⟩ : ∃ m, V1.cache.length = m := ⟨_, rfl⟩
    have HM := Aside0.mk hm
    rw [hm] at hrun hT9
    have hsl : (stampC (at_, padB bs)).length = 129 := stampC_length (padB_length (by omega))
    obtain ⟨S, hS⟩ : ∃ S, stampC (at_, padB bs) = S := ⟨_, rfl⟩
    have hrun' : (Builtin.append_ #[77, 77] 77 #[.slice Ac m cc, .slice (some ⟨W9.drew.heap.size, 0, none⟩) 1 1]).run Try.prog (W9.drew.alloc (.cells S.toArray TCa)) = .ok (.slice A3 n3 c3) W2 := by rw [← hS]; exact hrun
    rw [hS] at hE9 hsl
    have hne : t ≠ w2.heap.size := Nat.ne_of_lt hT.lt
    have hnt : ∀ k, (Value.slice Ac m cc).ownBlock = some k → k ≠ t ∧ k ≠ w2.heap.size := fun k hk => ⟨fun e => Kd.R_ne hC hT.out (by decide) (by rw [← e, ← hk, hm]), fun e => by
      have := (flat_lt hC k (by rw [hm]; exact hk)).1
      omega⟩
    have hg3' : W9.drew.grownBy W2 (Value.slice Ac m cc).ownBlock := by rw [← hm]; exact hg3
    have hT2 : Blk W2 t TTr (trayC (.slice Ak V1.kept.length ck) (.slice Ac m cc) V1) := ⟨(hg3'.block t hT9.lt (fun e => (hnt t e.symm).1 rfl)).trans hT9.out⟩
    have hE2 : Blk W2 w2.heap.size TCa S.toArray := ⟨(hg3'.block w2.heap.size hE9.lt (fun e => (hnt _ e.symm).2 rfl)).trans hE9.out⟩
    have HALL : Aside0 (∀ (p : Nat) (w' : World), (match p with | 0 => w' = W9.drew | 1 => w' = W9.drew.alloc (.cells S.toArray TCa) | _ => w' = W2) → Blk w' t TTr (trayC (.slice Ak V1.kept.length ck) (.slice Ac m cc) V1) ∧ Blk w' w2.heap.size TCa S.toArray) := ⟨fun p w' h => by
      match p, h with
      | 0, h => subst h; exact ⟨hT9.drew, hE9.drew⟩
      | 1, h => subst h; exact ⟨hT9.drew.alloc _, hE9.drew.alloc _⟩
      | p + 2, h => subst h; exact ⟨hT2, hE2⟩⟩
    go_wp2_with fail
    refine Qy.wp_region_tail (fun _ _ => True) (fun _ _ _ _ => True) (fun _ _ _ => True) (fun p w' => match p with | 0 => w' = W9.drew | 1 => w' = W9.drew.alloc (.cells S.toArray TCa) | _ => w' = W2) [6, 7] 8 (by kernel_rfl) (by kernel_rfl) rfl ?_
    simp only [List.take_succ_cons, List.take_zero, List.drop_succ_cons, List.drop_zero]
    iterate 4 ((with_reducible refine Qy.y_val ⟨fun _ _ _ hF h w' h1 h2 => h w' h1 fun k => hF k _ (h2 k)⟩ ?_ ?_ ?_ ?_ ?_); (focus (first | exact fun _ => Only.refl _ _ | exact fun _ => Below.refl _ _ | exact fun _ => trivial)); (focus (exact fun _ => trivial)); (focus (first | rfl | decide)); (first | (focus (exact Qy.wanted_none rfl)) | (focus (exact Qg.wanted_on rfl rfl rfl))); apply Exists.intro; refine ⟨?_, ?_⟩; (focus (intro p' w' hw' hp'; skip; go_simp; (first | done | (with_reducible rfl)))); intro K hK; go_simp; (first | (with_reducible refine hK _ ?_) | (refine hK _ ?_)); clear hK K)
    ((with_reducible refine Qy.y_val ⟨fun _ _ _ hF h w' h1 h2 => h w' h1 fun k => hF k _ (h2 k)⟩ ?_ ?_ ?_ ?_ ?_); (focus (first | exact fun _ => Only.refl _ _ | exact fun _ => Below.refl _ _ | exact fun _ => trivial)); (focus (exact fun _ => trivial)); (focus (first | rfl | decide)); (first | (focus (exact Qy.wanted_none rfl)) | (focus (exact Qg.wanted_on rfl rfl rfl))); apply Exists.intro; refine ⟨?_, ?_⟩; (focus (intro p' w' hw' hp'; have hA9 := HALL.out _ _ hw'; have q0 := hA9.1.cell 1; have ql := hA9.1.lt; go_simp; (first | done | (with_reducible rfl)))); intro K hK; go_simp; (first | (with_reducible refine hK _ ?_) | (refine hK _ ?_)); clear hK K)
    ((with_reducible refine Qy.y_val ⟨fun _ _ _ hF h w' h1 h2 => h w' h1 fun k => hF k _ (h2 k)⟩ ?_ ?_ ?_ ?_ ?_); (focus (first | exact fun _ => Only.refl _ _ | exact fun _ => Below.refl _ _ | exact fun _ => trivial)); (focus (exact fun _ => trivial)); (focus (first | rfl | decide)); (first | (focus (exact Qy.wanted_none rfl)) | (focus (exact Qg.wanted_on rfl rfl rfl))); apply Exists.intro; refine ⟨?_, ?_⟩; (focus (intro p' w' hw' hp'; exact exec_load_mid TCa (.tmp 7) rfl w2.heap.size 0 (by rfl) S _ (fun j v hj => by rw [(HALL.out _ _ hw').2.cell, Nat.zero_add]; simpa using hj) h83 rfl (by rw [infoCa, hsl]))); intro K hK; go_simp; (first | (with_reducible refine hK _ ?_) | (refine hK _ ?_)); clear hK K)
    ((with_reducible refine Qy.y_put 0 (.slice (some ⟨W9.drew.heap.size, 0, none⟩) 1 1) ⟨fun _ _ _ hF h w' h1 h2 => h w' h1 fun k => hF k _ (h2 k)⟩ ?_ ?_ ?_ ?_); (focus (exact fun _ => trivial)); (focus (first | rfl | decide)); (first | (focus (exact Qy.wanted_none rfl)) | (focus (exact Qg.wanted_on rfl rfl rfl))); refine ⟨?_, ?_⟩; (focus (intro w' hw' hp'; obtain rfl : w' = W9.drew := hw'; exact ⟨W9.drew.alloc (.cells S.toArray TCa), exec_slice_one (.tmp 33) rfl S.toArray (by rfl) Try.underlying77 infoCa3 (by decide) (by decide) (by simpa using hsl) _, trivial, rfl⟩)); intro K hK; go_simp; (first | (with_reducible refine hK _ ?_) | (refine hK _ ?_)); clear hK K)
    ((with_reducible refine Qy.y_put 1 (.slice A3 n3 c3) ⟨fun _ _ _ hF h w' h1 h2 => h w' h1 fun k => hF k _ (h2 k)⟩ ?_ ?_ ?_ ?_); (focus (exact fun _ => trivial)); (focus (first | rfl | decide)); (first | (focus (exact Qy.wanted_none rfl)) | (focus (exact Qg.wanted_on rfl rfl rfl))); refine ⟨?_, ?_⟩; (focus (intro w' hw' hp'; obtain rfl : w' = W9.drew.alloc (.cells S.toArray TCa) := hw'; exact ⟨W2, exec_append (.tmp 32) (.tmp 34) rfl (by rfl) (by rfl) hrun', trivial, rfl⟩)); intro K hK; go_simp; (first | (with_reducible refine hK _ ?_) | (refine hK _ ?_)); clear hK K)
    ((with_reducible refine Qy.y_nil ?_); intro w' hw' hf')
    obtain ⟨Wf, hWf⟩ : ∃ Wf, w' = Wf ∧ Wf = W2 := ⟨w', rfl, hw'⟩
    obtain ⟨rfl, hWf2⟩ := hWf
    have HT2 : Aside0 (Blk w' t TTr (trayC (.slice Ak V1.kept.length ck) (.slice Ac m cc) V1)) := ⟨by rw [hWf2]; exact hT2⟩
    have HRf : Aside0 (kCa.R TCa w' 0 P (.slice A3 n3 c3) (V1.cache ++ [(at_, padB bs)])) := ⟨by rw [hWf2]; exact HR3.out⟩
    have hOf : OnlyP P w w' := by
      rw [hWf2]
      exact ((HO.out.step b9).drew).grown hg3' (fun k hk => .inl (flat_lt hC k (by rw [hm]; exact hk)).2)
    have HOF := Aside0.mk hOf
    have HKf : Aside0 (kSe.R TSe w' 0 P (.slice Ak V1.kept.length ck) V1.kept) := ⟨by
      rw [hWf2]
      refine flat_move (Kd.R_below hK b9) fun k hk => ?_
      have hk1 := flat_lt hK k hk
      have hne2 : some k ≠ (Value.slice Ac m cc).ownBlock := fun e => by
        obtain ⟨cells, hcell⟩ := own_typedR hK k hk
        exact Kd.R_ne hC hcell.out (by decide) (by rw [hm]; exact e)
      exact hg3'.block k (Nat.lt_of_lt_of_le hk1.1 b9.size) hne2⟩
    have f0 := HT2.out.cell 1
    have f1 := HT2.out.frozen 1
    have fl := HT2.out.lt
    clear hw' hf' hWf2 hT2 hE2 hg3' hOf
    go_wp2
    go_ret
    refine ⟨rfl, ⟨.slice Ak V1.kept.length ck, .slice A3 n3 c3, HT2.out.set 1 _, ?_, ?_, hPt⟩, HOF.out.setCell (.inl hPt) _⟩
    · exact flat_move HKf.out fun k hk => Below.heap_setCell _ _ _ k (fun e => Kd.R_ne HKf.out HT2.out.out (by decide) (by rw [hk, e]))
    · exact flat_move HRf.out fun k hk => Below.heap_setCell _ _ _ k (fun e => Kd.R_ne HRf.out HT2.out.out (by decide) (by rw [hk, e]))
end Go.Proofs.Ytddhngalokmdoaa.Spo

/- A spool in memory: Room, on, right; the piece of a sector (read). -/
namespace Go.Proofs.Ytddhngalokmdoaa.Spo
open Go.RowKit Go.Proofs.YtddhngalokmdoaaW.PrintWords Go.Proofs.YtddhngalokmdoaaW.PrintLast Go.Proofs.YtddhngalokmdoaaW.PrintMore Go.Proofs.Ytddhngalokmdoaa.Arr Go.Proofs.Ytddhngalokmdoaa.PSpoolPlays
set_option linter.unusedVariables false
set_option linter.unusedSimpArgs false

structure SpoolV where
  first : Int
  count : Int
  epoch : Int
  head : Int
  tail : Int
  dead : Bool
abbrev TSp : TypeId := 88
abbrev TPi : TypeId := 94
abbrev TRi : TypeId := 44
abbrev spoolC (t : Nat) (S : SpoolV) : Array Value := #[.int .i64 S.first, .int .i64 S.count, ptrT t, .int .i64 S.epoch, .int .i64 S.head, .int .i64 S.tail, .bool S.dead]
abbrev pieceC (p : PieceV) (A : Option Addr) (c : Nat) : Array Value := #[.int .i64 p.epoch, .int .i64 p.number, .int .i64 p.at_, .int .i64 p.of, .slice A p.b.length c]
/-- A spool's numbers. -/
structure Fit (S : SpoolV) : Prop where mk ::
  first : 0 ≤ S.first ∧ S.first ≤ 4096
  count : 2 ≤ S.count ∧ S.count ≤ 4096
  epoch : 1 ≤ S.epoch ∧ S.epoch ≤ 4294967295
  head : 0 ≤ S.head ∧ S.head ≤ S.tail
  tail : S.tail ≤ 140737488355328 ∧ S.tail - S.head ≤ S.count
def roomV (S : SpoolV) : Int := S.count - (S.tail - S.head)
def onV (S : SpoolV) (n : Int) : Int := S.first + n % S.count
set_option maxHeartbeats 4000000 in
theorem room_calls (s t : Nat) (S : SpoolV) (w : World) (hF : Fit S) (H : Blk w s TSp (spoolC t S)) :
    Calls Try.prog 21 #[ptrT s] w fun e w' => e = .returned (.int .i64 (roomV S)) ∧ Below w.heap.size w w' := by
  obtain ⟨⟨f0, f1⟩, ⟨g0, g1⟩, -, ⟨h0, h1⟩, h2, h3⟩ := hF
  have w1 : IntKind.i64.wrap (S.tail - S.head) = S.tail - S.head := IntWalk.i64_in _ (by omega)
  have w2 : IntKind.i64.wrap (S.count - (S.tail - S.head)) = S.count - (S.tail - S.head) := IntWalk.i64_in _ (by omega)
  have HB := Aside0.mk H
  unfold roomV
  clear f0 f1 g0 g1 h0 h1 h2 h3 H
  go_enter Try.func21, Try.ntmps21
  go_wp2_with fail
  refine Qt.wp_region_all (fun w' => Below w.heap.size w w') (by kernel_rfl) (by kernel_rfl) (Below.refl _ _).drew ?_
  iterate 16 ((first | (with_reducible refine Qt.q_val' rfl ?_) | ((with_reducible refine Qg.on_val' ?_); apply Exists.intro; apply Exists.intro; apply Exists.intro; refine ⟨?_, ?_, ?_, ?_⟩; (focus rfl); (focus rfl); (focus rfl))); apply Exists.intro; refine ⟨?_, ?_⟩; (focus (intro w' hw'; have hEw := HB.out.below hw'; have e1 := hEw.cell 1; have e4 := hEw.cell 4; have e5 := hEw.cell 5; have el := hEw.lt; go_simp; (first | done | (with_reducible rfl)))); intro K hK; go_simp; (first | (with_reducible refine hK _ ?_) | (refine hK _ ?_)); clear hK K)
  (refine wpQuiet_nil ?_; intro w' hw')
  go_wp2
  go_ret
  exact ⟨rfl, hw'⟩
set_option maxHeartbeats 4000000 in
theorem on_calls (a b n : Int) (w : World) (hn : 0 ≤ n) (hn2 : n ≤ 140737488355328) (ha : 0 ≤ a ∧ a ≤ 4096) (hb : 2 ≤ b ∧ b ≤ 4096) :
    Calls Try.prog 41 #[.agg #[.int .i64 a, .int .i64 b], .int .i64 n] w fun e w' => e = .returned (.int .i64 (a + n % b)) ∧ Below w.heap.size w w' := by
  have h1 := Int.emod_nonneg n (show b ≠ 0 by omega)
  have h2 := Int.emod_lt_of_pos n (show 0 < b by omega)
  have z0 : (b == 0) = false := by simp; omega
  have z1 : (b = 0) = False := eq_false (by omega)
  have z2 : decide (b = 0) = false := decide_eq_false (by omega)
  have z3 : n.tmod b = n % b := Int.tmod_eq_emod_of_nonneg hn
  have w1 : IntKind.i64.wrap (n % b) = n % b := IntWalk.i64_in _ (by omega)
  have w2 : IntKind.i64.wrap (a + n % b) = a + n % b := IntWalk.i64_in _ (by omega)
  clear h1 h2 hn hn2 ha hb
  go_enter Try.func41, Try.ntmps41
  go_wp2_with fail
  obtain ⟨W9, hW9⟩ : ∃ W9, w.alloc (.cells #[.int .i64 a, .int .i64 b] TRi) = W9 := ⟨_, rfl⟩
  have hE : Blk W9 w.heap.size TRi #[.int .i64 a, .int .i64 b] := by rw [← hW9]; exact Blk.new _ _ _
  have HB := Aside0.mk hE
  have HO := Aside0.mk (by rw [← hW9]; exact (Below.refl _ _).alloc (Nat.le_refl _) _ : Below w.heap.size w W9)
  rw [hW9]
  refine Qt.wp_region_all (fun w' => Below W9.heap.size W9 w') (by kernel_rfl) (by kernel_rfl) (Below.refl _ _).drew ?_
  iterate 8 ((first | (with_reducible refine Qt.q_val' rfl ?_) | ((with_reducible refine Qg.on_val' ?_); apply Exists.intro; apply Exists.intro; apply Exists.intro; refine ⟨?_, ?_, ?_, ?_⟩; (focus rfl); (focus rfl); (focus rfl))); apply Exists.intro; refine ⟨?_, ?_⟩; (focus (intro w' hw'; have hEw := HB.out.below hw'; have e0 := hEw.cell 0; have e1 := hEw.cell 1; have el := hEw.lt; go_simp; (first | done | (with_reducible rfl)))); intro K hK; go_simp; (first | (with_reducible refine hK _ ?_) | (refine hK _ ?_)); clear hK K)
  (refine wpQuiet_nil ?_; intro w' hw')
  go_wp2
  go_ret
  exact ⟨rfl, HO.out.trans (hw'.mono HO.out.size)⟩
end Go.Proofs.Ytddhngalokmdoaa.Spo
