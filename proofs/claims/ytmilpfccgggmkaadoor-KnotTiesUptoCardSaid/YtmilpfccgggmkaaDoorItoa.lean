/- strconv.AppendInt, base 10, of a number from 0 on, onto a slice of the call's own: which blocks turn. -/
import Derived.Test.YtmilpfccgggmkaaDoorOnly
import Derived.Test.YtmilpfccgggmkaaDoorShelf
import Derived.Lib.AppendStr
import Derived.Lib.ItoaMem
import Derived.Lib.AppendIntMem
import Derived.Lib.OwnKind
import Derived.OwnWalk
import Derived.WalkKit
import Derived.BigCall
import Derived.BigGuard
namespace Go.Proofs.YtmilpfccgggmkaaDoor.Knt
open Go.RowKit Go.Proofs.YtmilpfccgggmkaaDoorW.PrintWords Go.Proofs.YtmilpfccgggmkaaDoor.Arr
set_option linter.unusedVariables false
set_option linter.unusedSimpArgs false

abbrev TU : TypeId := 5
abbrev TB : TypeId := 27
theorem infoB : (Tryd.prog.info? TU).map (fun i => (i.zero, i.size, i.bytes)) = some (some (.int .u8 0), 1, 1) := by kernel_rfl

section
variable {P : Program}
/-- Appending a string, and where the row lies then. -/
theorem run_append_string_at (w : World) (base : Nat) (t u ty e : TypeId) (i : TypeInfo) (ht : P.underlying t = some (.slice e)) (hu : P.underlying u = some .string) (hi : P.info? e = some i) (hz : i.zero = some (.int .u8 0))
    (hsize : i.size = 1) (hby : i.bytes = 1) (v : Value) (n : Nat) (xs : List Value) (hown : w.ownsRow base e 1 v n xs) (s : ByteArray) (hbytes : n + s.size ≤ 140737488355328) (hbase : base ≤ w.heap.size) :
    ∃ v' w', (Builtin.append_ #[t, u] ty #[v, .string s]).run P w = .ok v' w' ∧ w'.ownsRow base e 1 v' (n + s.size) (xs ++ Lib.strCells s) ∧ w.grownBy w' v.ownBlock ∧ (v'.ownBlock = v.ownBlock ∨ v'.ownBlock = some w.heap.size) := by
  obtain ⟨v', w', hr, h2, h3, h4⟩ := Lib.run_append_own_string (P := P) w base t u ty e i ht hu hi hz hsize hby v n xs hown s (by unfold maxLen; omega) hbytes hbase
  refine ⟨v', w', hr, h2, h3, ?_⟩
  have hxl : xs.length = n := by simpa using hown.1
  rcases hown.2 with ⟨rfl, rfl⟩ | ⟨g, cap, cur, rfl, hbg, hg, hnc, hcm, hcs, htake⟩
  · by_cases hm : s.size = 0
    · rw [(h4.2 ⟨rfl, hm⟩)]
      exact .inl rfl
    · have hr' := run_append_nil_string (P := P) w t u ty e i (.int .u8 0) ht hu hi hz s (by omega) (by omega) (by rw [hby]; omega)
      rw [hr] at hr'
      injection hr' with e1 e2
      rw [e1]
      exact .inr rfl
  · by_cases hroom : n + s.size ≤ cap
    · have hr' := Lib.run_append_room_string (P := P) w t u ty e i ht hu hi hsize g n cap cur hg s hroom (by omega)
      rw [hr] at hr'
      injection hr' with e1 e2
      rw [e1]
      exact .inl rfl
    · have hr' := Lib.run_append_grow_string (P := P) w t u ty e i (.int .u8 0) ht hu hi hz ⟨g, 0, none⟩ n cap xs (by rw [hsize]; simpa using hxl) (hown.cells (g := g) rfl) s (by omega) (by omega) (by rw [hby]; exact growslice_fits (by omega) (by omega))
      rw [hr] at hr'
      injection hr' with e1 e2
      rw [e1]
      exact .inr rfl
end

/-- v is a slice of bytes of the call's own. -/
def Own (B : Nat) (w : World) (v : Value) (l : List UInt8) : Prop := w.ownsRow B TU 1 v l.length (Lib.byteCells l)
theorem Own.nil (B : Nat) (w : World) : Own B w (.slice none 0 0) [] := own_nil _ _ _ _
theorem Own.lit {w : World} {B g : Nat} {l : List UInt8} {cs : Array Value} {n : Nat} (hg : g = w.heap.size) (hB : B ≤ w.heap.size) (hcs : cs = (Lib.byteCells l).toArray) (hn : n = l.length) (hm : l.length ≤ 9223372036854775807) : Own B (w.alloc (.cells cs TU)) (.slice (some ⟨g, 0, none⟩) n n) l := by
  subst hg hcs hn
  have h := own_lit w B TU .u8 (l.map fun b => (b.toNat : Int)) hB (by simpa using hm)
  have e0 : nums .u8 (l.map fun b => (b.toNat : Int)) = Lib.byteCells l := by simp [nums, Lib.byteCells]
  rw [e0, List.length_map] at h
  exact h
theorem Own.below {B : Nat} {w w1 : World} {v : Value} {l : List UInt8} (h : Own B w v l) (hb : Below w.heap.size w w1) : Own B w1 v l := pw_own_below h hb
theorem Own.lt {B : Nat} {w : World} {v : Value} {l : List UInt8} (h : Own B w v l) : ∀ k, k ∈ rowB v → B ≤ k ∧ k < w.heap.size := fun k hk => ⟨own_base h k (by simpa [rowB] using hk), own_lt h k (by simpa [rowB] using hk)⟩
theorem Own.only {B : Nat} {w w1 : World} {v : Value} {l : List UInt8} {S : List Nat} (h : Own B w v l) (ho : Only S w w1) (hn : ∀ k, k ∈ rowB v → k ∉ S) : Own B w1 v l := own_only h ho hn
theorem Own.slice {B : Nat} {w : World} {v : Value} {l : List UInt8} (h : Own B w v l) : ∃ A c, v = .slice A l.length c := own_slice h
theorem Own.some {B : Nat} {w : World} {v : Value} {l : List UInt8} (h : Own B w v l) : ∃ A n c, v = .slice A n c := by
  obtain ⟨A, c, e⟩ := h.slice
  exact ⟨A, _, c, e⟩
theorem Own.lower {B B' : Nat} {w : World} {v : Value} {l : List UInt8} (h : Own B w v l) (hB : B' ≤ B) : Own B' w v l := own_weaken h hB
theorem Own.ne {B : Nat} {w : World} {v : Value} {l : List UInt8} {g : Nat} {T : TypeId} {cs : Array Value} (h : Own B w v l) (hb : Blk w g T cs) (hT : TU ≠ T) : g ∉ rowB v := fun hm => own_ne h hb.out hT (by simpa [rowB, eq_comm] using hm)
/-- What v's row is now: the same block, or a new one. -/
def Put (B : Nat) (v : Value) (w : World) (v' : Value) (w' : World) (l' : List UInt8) : Prop :=
  Own B w' v' l' ∧ Only (rowB v) w w' ∧ ∀ k, k ∈ rowB v' → k ∈ rowB v ∨ w.heap.size ≤ k
theorem Put.trans {B : Nat} {v v1 v2 : Value} {w w1 w2 : World} {l1 l2 : List UInt8} (h : Put B v w v1 w1 l1) (h' : Put B v1 w1 v2 w2 l2) : Put B v w v2 w2 l2 :=
  ⟨h'.1, h.2.1.trans h'.2.1 h.2.2, fun k hk => by
    rcases h'.2.2 k hk with h1 | h1
    · exact h.2.2 k h1
    · exact .inr (Nat.le_trans h.2.1.size h1)⟩
theorem put_of_grown {B : Nat} {v v' : Value} {w w0 w' : World} {l' : List UInt8} (hb : Below w.heap.size w w0) (h1 : w'.ownsRow B TU 1 v' l'.length (Lib.byteCells l')) (h2 : w0.grownBy w' v.ownBlock) (h3 : v'.ownBlock = v.ownBlock ∨ ∃ b, v'.ownBlock = some b ∧ w0.heap.size ≤ b) : Put B v w v' w' l' := by
  refine ⟨h1, (Only.of_below hb _).grown h2 (fun k hk => .inl (by simp [rowB, hk])), fun k hk => ?_⟩
  rcases h3 with h3 | ⟨b, h3, hle⟩
  · exact .inl (by simpa [rowB, h3] using hk)
  · refine .inr ?_
    have : k = b := by simpa [rowB, h3] using hk
    have := hb.size
    omega
section
variable {ops : Array Oper} {rest : List Oper} {o : Oper} {a : Act} {Q : Exit → Act → World → Prop} {w : World}
/-- append(v, s...), s a string. -/
theorem wp_put_str (B : Nat) (hgd : o.guard = none) (sl x : Operand) (u : TypeId) (hu : Tryd.prog.underlying u = some .string)
    (ho : o.op = .call { callee := .builtin .append, args := #[sl, x], argTypes := #[TB, u] })
    (v : Value) (l : List UInt8) (hs : a.eval sl = v) (hown : Own B w v l) (s : ByteArray) (hx : a.eval x = .string s) (hbytes : l.length + s.size ≤ 140737488355328) (hbase : B ≤ w.heap.size)
    (h : ∀ v' w', Put B v w v' w' (l ++ s.data.toList) → wpList Tryd.prog ops Q rest (a.put o.dst v') w') : wpList Tryd.prog ops Q (o :: rest) a w := by
  obtain ⟨i0, hi, hzz⟩ := Option.map_eq_some_iff.1 infoB
  simp only [Prod.mk.injEq] at hzz
  refine wpList_plain hgd fun K hK => ?_
  obtain ⟨v', w', hr, h2, h3, h4⟩ := run_append_string_at (P := Tryd.prog) w B TB u o.type TU i0 Tryd.underlying27 hu hi hzz.1 hzz.2.1 hzz.2.2 v l.length _ hown s hbytes hbase
  unfold Oper.wp execOp
  simp only [ho, resolve, invoke, builtin, Sem.run_bind, Sem.run_pure, Result.andThen_ok, List.map_toArray, List.map_cons, List.map_nil, hs, hx, hr]
  refine hK _ _ (h v' w' (put_of_grown (Below.refl _ _) ?_ h3 ?_))
  · have e1 : (l ++ s.data.toList).length = l.length + s.size := by rw [List.length_append, Array.length_toList]; rfl
    have e2 : Lib.byteCells (l ++ s.data.toList) = Lib.byteCells l ++ Lib.strCells s := by simp [Lib.byteCells, Lib.strCells]
    rw [e1, e2]
    exact h2
  · rcases h4 with h4 | h4
    · exact .inl h4
    · exact .inr ⟨_, h4, Nat.le_refl _⟩
/-- append(v, c), c a byte that lies in a new block. -/
theorem wp_put_byte (B : Nat) (hgd : o.guard = none) (sl x : Operand)
    (ho : o.op = .call { callee := .builtin .append, args := #[sl, x], argTypes := #[TB, TB] })
    (v : Value) (l : List UInt8) (c : UInt8) (cz : Int) (hc : cz = (c.toNat : Int)) (hs : a.eval sl = v) (hx : a.eval x = .slice (some ⟨w.heap.size, 0, none⟩) 1 1) (hown : Own B w v l) (hbytes : l.length + 1 ≤ 140737488355328) (hbase : B ≤ w.heap.size)
    (h : ∀ v' w', Put B v w v' w' (l ++ [c]) → wpList Tryd.prog ops Q rest (a.put o.dst v') w') : wpList Tryd.prog ops Q (o :: rest) a (w.alloc (.cells #[.int .u8 cz] TU)) := by
  subst hc
  refine print_append (w0 := w) B hgd sl x TB TU (.int .u8 0) 1 ho Tryd.underlying27 infoB rfl (by omega) v (Lib.byteCells l) (.int .u8 (c.toNat : Int)) hs hx rfl (by rw [Lib.byteCells_length]; exact hown) (Below.refl _ _) hbase (by rw [Lib.byteCells_length]; omega) ?_
  intro v1 w1 h1 h2 h3 h4
  refine h v1 w1 (put_of_grown (Below.refl _ _) ?_ h3 h4)
  have e2 : Lib.byteCells (l ++ [c]) = Lib.byteCells l ++ [Value.int .u8 (c.toNat : Int)] := by simp [Lib.byteCells]
  rw [e2]
  have e1 : (l ++ [c]).length = (Lib.byteCells l ++ [Value.int .u8 (c.toNat : Int)]).length := by simp [Lib.byteCells]
  rw [e1]
  exact h1
/-- append(v, x...), x a slice of bytes. -/
theorem wp_put_row (B : Nat) (hgd : o.guard = none) (sl x : Operand)
    (ho : o.op = .call { callee := .builtin .append, args := #[sl, x], argTypes := #[TB, TB] })
    (v : Value) (l m : List UInt8) (A : Option Addr) (c : Nat) (hs : a.eval sl = v) (hx : a.eval x = .slice A m.length c) (hown : Own B w v l) (hr : ReadsInt w .u8 A m.length (m.map fun b => (b.toNat : Int))) (hbytes : l.length + m.length ≤ 140737488355328) (hbase : B ≤ w.heap.size)
    (h : ∀ v' w', Put B v w v' w' (l ++ m) → wpList Tryd.prog ops Q rest (a.put o.dst v') w') : wpList Tryd.prog ops Q (o :: rest) a w := by
  have e0 : ∀ q : List UInt8, nums .u8 (q.map fun b => (b.toNat : Int)) = Lib.byteCells q := fun q => by simp [nums, Lib.byteCells]
  have el : ∀ q : List UInt8, (q.map fun b => (b.toNat : Int)).length = q.length := fun q => by simp
  refine print_append_row (w0 := w) B hgd sl x TB TU .u8 1 ho Tryd.underlying27 infoB (by omega) v (l.map fun b => (b.toNat : Int)) (m.map fun b => (b.toNat : Int)) A m.length c hs hx (by rw [e0, el]; exact hown) hr (Below.refl _ _) hbase (by rw [el]; omega) ?_
  intro v1 w1 h1 h2 h3 h4
  refine h v1 w1 (put_of_grown (Below.refl _ _) ?_ h3 h4)
  rw [← List.map_append, e0, el] at h1
  exact h1
end

abbrev Pow (w : World) : Prop := Lib.TabIs Tryd.prog w "internal/strconv.uint64pow10" .u64 Lib.pow10Tab
set_option maxHeartbeats 6400000 in
set_option maxRecDepth 100000 in
theorem apu_small (B : Nat) (u : Nat) (hu : u < 100) (v : Value) (l : List UInt8) (w : World) (hown : Own B w v l) (hBw : B ≤ w.heap.size) (hlim : l.length + 20 ≤ 140737488355328) :
    Calls Tryd.prog 52 #[v, .int .u64 (u : Int), .int .i64 10] w fun e w' => ∃ v', e = .returned v' ∧ Put B v w v' w' (l ++ Lib.decDigits u) := by
  have hlen : (Lib.decDigits u).length ≤ 20 := by
    rw [Lib.decDigits_length]
    by_cases h10 : u < 10
    · rw [Lib.nDigits_small h10]; omega
    · rw [Lib.nDigits_big h10, Lib.nDigits_small (show u / 10 < 10 by omega)]; omega
  have hsz : (⟨(Lib.decDigits u).toArray⟩ : ByteArray).size = (Lib.decDigits u).length := by simp [ByteArray.size]
  have KS := Aside0.mk (fun w => Tryd.internal_strconv_small u hu w)
  have HO := Aside0.mk hown
  clear hown
  go_enter Tryd.func52, Tryd.ntmps52
  go_wp2_with (first
    | (go_at_call 57; refine (KS.out _).mono ?_; rintro e w' ⟨rfl, rfl⟩)
    | (at_builtin; refine wp_put_str B rfl _ _ 9 Tryd.underlying9 rfl v l rfl HO.out ⟨(Lib.decDigits u).toArray⟩ rfl (by rw [hsz]; omega) hBw ?_))
  intro v1 w1 hp
  go_wp2
  go_ret
  exact ⟨v1, rfl, hp⟩

set_option maxHeartbeats 12800000 in
set_option maxRecDepth 100000 in
theorem apu_big (B : Nat) (u : Nat) (hu : 100 ≤ u) (hu64 : u < 18446744073709551616) (v : Value) (l : List UInt8) (w : World) (hown : Own B w v l) (hBw : B ≤ w.heap.size) (hlim : l.length + 20 ≤ 140737488355328) (hP : Pow w) :
    Calls Tryd.prog 52 #[v, .int .u64 (u : Int), .int .i64 10] w fun e w' => ∃ v', e = .returned v' ∧ Put B v w v' w' (l ++ Lib.decDigits u) := by
  have hu1 : 1 ≤ u := by omega
  have hnd20 : Lib.nDigits u ≤ 20 := by have := Lib.numDigits_eq u hu1 hu64; split at this <;> omega
  have hal : Tryd.prog.arrayLen 84 = 24 := by kernel_rfl
  have hsl : ∀ W, (Instr.sliceAt 84 (.pointer (some ⟨w.heap.size, 0, none⟩)) none (some (.int .i64 (Lib.nDigits u : Int))) none).run Tryd.prog W = .ok (.slice (some ⟨w.heap.size, 0, none⟩) (Lib.nDigits u) 24) W := fun W => by
    have ht := Tryd.underlying84
    have hs := Tryd.sizeOf5
    rw [run_sliceAt_array_h W 84 ⟨w.heap.size, 0, none⟩ (by simp [Program.arrayLen, Program.elem, ht]) .i64 (Lib.nDigits u : Int) (by omega) (by rw [hal]; omega)]
    go_simp
  have hH0 := Lib.holds_zero0 w 84 (Lib.nDigits u) (by omega)
  have hfmt := Tryd.internal_strconv_formatBase10 w.heap.size 0 24 u (Array.replicate (Lib.nDigits u) 0) (w.alloc (.cells Lib.zeros24 84)) hH0 (by rw [Array.size_replicate]; exact Lib.lt_pow_nDigits u) hu64 (by rw [Array.size_replicate]; omega)
  rw [Array.size_replicate] at hfmt
  have HH0 := Lib.hid hH0
  have KF := Aside0.mk hfmt
  have KN := Aside0.mk (Tryd.internal_strconv_numDigits u hu1 hu64 (w.alloc (.cells Lib.zeros24 84)) (Lib.tabIs_alloc hP _))
  have iu : (100 : Int) ≤ (u : Int) := by omega
  have HO := Aside0.mk hown
  clear hH0 hal hfmt hP hown
  go_enter Tryd.func52, Tryd.ntmps52
  go_wp2_with fail
  refine KN.out.mono ?_
  rintro e w' ⟨rfl, rfl⟩
  go_wp2_with fail
  refine KF.out.mono ?_
  rintro e w' ⟨rfl, k, v', dk, rfl, hF⟩
  have hcells : ∀ j, j < (Lib.decDigits u).length → (Sort.putRow (fun (b : UInt8) => Value.int .u8 (b.toNat : Int)) (w.alloc (.cells Lib.zeros24 84)) w.heap.size 0 dk |>.drewN k).cell? ((⟨w.heap.size, 0, none⟩ : Addr).add j) = some (.int .u8 ((((Lib.decDigits u).map fun b => (b.toNat : Int)).getD j 0))) := by
    intro j hjl
    have e5 : ((Lib.decDigits u).map fun b => (b.toNat : Int)).getD j 0 = ((Lib.decDigits u)[j].toNat : Int) := by simp [hjl]
    rw [e5, Lib.row_is_numeral hF j hjl, Lib.add_plain, World.cell?_drewN]
    exact Sort.cell?_putRow (fun (b : UInt8) => Value.int .u8 (b.toNat : Int)) _ w.heap.size 0 _ dk HH0.out (by rw [hF.size, Array.size_replicate]) j (by rw [hF.size]; rw [Lib.decDigits_length] at hjl; exact hjl)
  obtain ⟨os, eo⟩ := Lib.fin_at w (.cells Lib.zeros24 84) dk k 0
  have hb2 : Below w.heap.size w (Sort.putRow (fun (b : UInt8) => Value.int .u8 (b.toNat : Int)) (w.alloc (.cells Lib.zeros24 84)) w.heap.size 0 dk |>.drewN k) := by rw [eo]; exact Lib.below_grow w.heap.size w (Nat.le_refl _) k os
  generalize (Sort.putRow (fun (b : UInt8) => Value.int .u8 (b.toNat : Int)) (w.alloc (.cells Lib.zeros24 84)) w.heap.size 0 dk).drewN k = W2 at hcells hb2 ⊢
  have hdl := Lib.decDigits_length u
  have hO2 : Own B W2 v l := HO.out.only (Only.of_below hb2 []) (fun _ _ h => by cases h)
  have HR : ReadsInt W2 .u8 (some ⟨w.heap.size, 0, none⟩) (Lib.decDigits u).length ((Lib.decDigits u).map fun b => (b.toNat : Int)) := ⟨by simp, by omega, fun _ => ⟨_, rfl, hcells⟩⟩
  have HO2 := Aside0.mk hO2
  have HRR := Aside0.mk HR
  have HB2 := Aside0.mk hb2
  have hle := hb2.size
  have HDL := Aside0.mk hdl
  clear eo HH0 hcells hO2 HR hb2 hF hdl
  go_wp2_with (at_builtin; refine wp_put_row B rfl _ _ rfl v l (Lib.decDigits u) (some ⟨w.heap.size, 0, none⟩) 24 rfl (by rw [HDL.out]; rfl) HO2.out HRR.out (by rw [HDL.out]; omega) (by omega) ?_)
  intro v2 w3 hp
  have HP : Put B v w v2 w3 (l ++ Lib.decDigits u) := ⟨hp.1, (Only.of_below HB2.out _).trans hp.2.1 (fun k hk => .inl hk), fun k hk => by
    rcases hp.2.2 k hk with h | h
    · exact .inl h
    · exact .inr (by omega)⟩
  go_wp2
  go_ret
  exact ⟨v2, rfl, HP⟩
/-- strconv.AppendInt(v, n, 10). -/
theorem api_calls (B : Nat) (n : Nat) (hn : n ≤ 9223372036854775807) (v : Value) (l : List UInt8) (w : World) (hown : Own B w v l) (hBw : B ≤ w.heap.size) (hlim : l.length + 21 ≤ 140737488355328) (hP : Pow w) :
    Calls Tryd.prog 35 #[v, .int .i64 (n : Int), .int .i64 10] w fun e w' => ∃ v', e = .returned v' ∧ Put B v w v' w' (l ++ Lib.decDigits n) := by
  have K : Calls Tryd.prog 52 #[v, .int .u64 (n : Int), .int .i64 10] w fun e w' => ∃ v', e = .returned v' ∧ Put B v w v' w' (l ++ Lib.decDigits n) := by
    by_cases h : n < 100
    · exact apu_small B n h v l w hown hBw (by omega)
    · exact apu_big B n (by omega) (by omega) v l w hown hBw (by omega) hP
  have KK := Aside0.mk K
  have t1 : decide ((n : Int) < 0) = false := decide_eq_false (by omega)
  clear K hown hP
  have K2 : Calls Tryd.prog 43 #[v, .int .i64 (n : Int), .int .i64 10] w fun e w' => ∃ v', e = .returned v' ∧ Put B v w v' w' (l ++ Lib.decDigits n) := by
    go_enter Tryd.func43, Tryd.ntmps43
    go_wp2_with fail
    refine KK.out.mono ?_
    rintro e w1 ⟨v1, rfl, hp⟩
    go_wp2
    go_ret
    exact ⟨v1, rfl, hp⟩
  have KK2 := Aside0.mk K2
  clear K2
  go_enter Tryd.func35, Tryd.ntmps35
  go_wp2_with fail
  refine KK2.out.mono ?_
  rintro e w1 ⟨v1, rfl, hp⟩
  go_wp2
  go_ret
  exact ⟨v1, rfl, hp⟩
end Go.Proofs.YtmilpfccgggmkaaDoor.Knt
