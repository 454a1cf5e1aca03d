/- Texts of this claim, merged: Sfi, Sop, Sap, Copy, Saw. -/
import Derived.Test.YtddhngalokmdoaaMgSums3
import Derived.Test.YtddhngalokmdoaaMgSums1
import Derived.Laws.CopyOwn
import Derived.Lib.SmallJoins
/- The records from the head on: find. -/
namespace Go.Proofs.Ytddhngalokmdoaa.Spo
open Go.RowKit Go.Proofs.YtddhngalokmdoaaW.PrintWords Go.Proofs.YtddhngalokmdoaaW.PrintLast Go.Proofs.YtddhngalokmdoaaW.PrintMore Go.Proofs.Ytddhngalokmdoaa.Arr Go.Proofs.Ytddhngalokmdoaa.PSpoolPlays
set_option linter.unusedVariables false
set_option linter.unusedSimpArgs false

/-! ### lists of lists of bytes in memory -/
structure Sl where
  A : Option Addr
  n : Nat
  c : Nat
abbrev encS (x : Sl) : Value := .slice x.A x.n x.c
theorem encS_one (x : Sl) : (encS x).oneCell' = true := rfl
/-- A slice of slices of the call's own. -/
structure Recs (w : World) (B : Nat) (v : Value) (xs : List (List Int)) : Prop where mk ::
  out : ∃ ss : List Sl, w.ownsRow B TSl 1 v ss.length (encs encS ss) ∧ ss.length = xs.length ∧ ∀ (i : Nat) (s : Sl) (x : List Int), ss[i]? = some s → xs[i]? = some x → Row w B TU8 .u8 (encS s) x
namespace Recs
variable {w w1 : World} {B : Nat} {v : Value} {xs : List (List Int)}
theorem nil (w : World) (B : Nat) : Recs w B (.slice none 0 0) [] := ⟨[], own_nil _ _ _ _, rfl, fun i s x h => by simp at h⟩
theorem below (h : Recs w B v xs) (hb : Below w.heap.size w w1) : Recs w1 B v xs := by
  obtain ⟨ss, h1, h2, h3⟩ := h.out
  exact ⟨ss, own_move h1 (fun g hg => hb.block g (own_lt h1 g hg)), h2, fun i s x a b => (h3 i s x a b).below hb⟩
theorem set (h : Recs w B v xs) {g : Nat} {T : TypeId} {cs : Array Value} (hb : Blk w g T cs) (hT : TSl ≠ T) (hT2 : TU8 ≠ T) (i : Nat) (u : Value) : Recs (w.setCell ⟨g, i, none⟩ u) B v xs := by
  obtain ⟨ss, h1, h2, h3⟩ := h.out
  exact ⟨ss, own_move h1 (fun k hk => Below.heap_setCell w _ _ k (fun e => own_ne h1 hb.out hT (by rw [hk, e]))), h2, fun j s x a b => (h3 j s x a b).set hb hT2 i u⟩
theorem ne (h : Recs w B v xs) {g : Nat} {T : TypeId} {cs : Array Value} (hb : Blk w g T cs) (hT : TSl ≠ T) : some g ≠ v.ownBlock := by
  obtain ⟨ss, h1, h2, h3⟩ := h.out
  exact own_ne h1 hb.out hT
theorem le (h : Recs w B v xs) : ∀ k, v.ownBlock = some k → B ≤ k := by
  obtain ⟨ss, h1, h2, h3⟩ := h.out
  exact own_base h1
theorem lower (h : Recs w B v xs) {B' : Nat} (hB : B' ≤ B) : Recs w B' v xs := by
  obtain ⟨ss, h1, h2, h3⟩ := h.out
  exact ⟨ss, own_weaken h1 hB, h2, fun i s x a b => (h3 i s x a b).lower hB⟩
end Recs
theorem infoSl : (Try.prog.info? TSl).map (fun i => (i.zero, i.size, i.bytes)) = some (some (.slice none 0 0), 1, 24) := by kernel_rfl
section
variable {ops : Array Oper} {rest : List Oper} {o : Oper} {a : Act} {Q : Exit → Act → World → Prop}
/-- append of one slice to a slice of slices; the slice lies in the block made last. -/
theorem app_rec {w0 W : World} (B : Nat) (hgd : o.guard = none) (s x : Operand)
    (ho : o.op = .call { callee := .builtin .append, args := #[s, x], argTypes := #[27, 27] })
    (v : Value) (xs : List (List Int)) (y : Sl) (b : List Int) (hs : a.eval s = v) (hx : a.eval x = .slice (some ⟨W.heap.size, 0, none⟩) 1 1)
    (HO : Recs W B v xs) (HR : Row W B TU8 .u8 (encS y) b) (HB : Below B w0 W) (hbase : B ≤ W.heap.size) (hl : xs.length ≤ 1000000000)
    (h : ∀ v1 w1, Recs w1 B v1 (xs ++ [b]) → Below B w0 w1 → (W.alloc (.cells #[encS y] TSl)).grownBy w1 v.ownBlock → wpList Try.prog ops Q rest (a.put o.dst v1) w1) :
    wpList Try.prog ops Q (o :: rest) a (W.alloc (.cells #[encS y] TSl)) := by
  obtain ⟨ss, h1, h2, h3⟩ := HO.out
  have hB1 : Below W.heap.size W (W.alloc (.cells #[encS y] TSl)) := (Below.refl _ _).alloc (Nat.le_refl _) _
  refine print_append_row_of (w0 := w0) encS ⟨none, 0, 0⟩ B hgd s x 27 TSl (.slice none 0 0) 24 ho Try.underlying27 infoSl rfl (by decide) encS_one v ss [y] (some ⟨W.heap.size, 0, none⟩) 1 1 hs hx
    (own_move h1 fun g hg => hB1.block g (own_lt h1 g hg)) ⟨rfl, by omega, fun _ => ⟨_, rfl, fun j hj => ?_⟩⟩ (HB.alloc hbase _) (by rw [World.size_alloc]; omega) (by omega) fun v1 w1 k1 k2 k3 k4 => h v1 w1 ⟨ss ++ [y], k1, by simp [h2], fun i s x e1 e2 => ?_⟩ k2 k3
  · obtain rfl : j = 0 := by omega
    rw [add_plain]
    exact (Blk.new W TSl #[encS y]).cell 0
  · have key : ∀ (s : Sl) (x : List Int), Row W B TU8 .u8 (encS s) x → Row w1 B TU8 .u8 (encS s) x := fun s x hr => by
      have hr1 := hr.below hB1
      refine hr1.grown k3 ?_
      rcases h1.2 with ⟨e, -⟩ | ⟨g, cap, cur, e, hg, hh, -⟩
      · subst e
        refine .imp_right (fun _ => ?_) (Classical.em _)
        intro e5
        have := hr1.ne (Blk.new W TSl #[encS y]) (by decide)
        rename_i hn
        exact hn e5
      · rw [e]
        have hb2 : Blk (W.alloc (.cells #[encS y] TSl)) g TSl cur := (Blk.mk hh).below hB1
        have := hr1.ne hb2 (by decide)
        exact .inr (fun e5 => this (by rw [e5]; rfl))
    by_cases hi : i < ss.length
    · rw [List.getElem?_append_left hi] at e1
      rw [List.getElem?_append_left (by omega)] at e2
      exact key _ _ (h3 i s x e1 e2)
    · rw [List.getElem?_append_right (by omega)] at e1
      rw [List.getElem?_append_right (by omega)] at e2
      have hi0 : i - ss.length = 0 := by
        have := (List.getElem?_eq_some_iff.1 e1).1
        simpa using this
      rw [hi0] at e1
      rw [← h2, hi0] at e2
      obtain rfl : y = s := by simpa using e1
      obtain rfl : b = x := by simpa using e2
      exact key _ _ HR
end
/-! ### what is found -/
def takeV (V : TrayV) (S : SpoolV) (tl least : Int) : Bool :=
  recOk V S tl && decide ((atV V S tl).of ≤ S.count - (tl - S.head)) && decide (least ≤ (atV V S tl).epoch) && decide ((atV V S tl).epoch < S.epoch)
def findV (V : TrayV) (S : SpoolV) : Nat → Int → Int → List (List Int) → List (List Int) × Int
  | 0, tl, _, out => (out, tl)
  | k + 1, tl, least, out => if 0 < S.count - (tl - S.head) ∧ takeV V S tl least = true then findV V S k (tl + (atV V S tl).of) (atV V S tl).epoch (out ++ [bodyR V S tl (atV V S tl).of.toNat]) else (out, tl)
section
variable {V : TrayV} {S S' : SpoolV} (h1 : S.first = S'.first) (h2 : S.count = S'.count)
include h1 h2
theorem sec_ring (n : Int) : secV V S n = secV V S' n := by unfold secV onV; rw [h1, h2]
theorem at_ring (n : Int) : atV V S n = atV V S' n := by unfold atV; rw [sec_ring h1 h2]
theorem here_ring (n : Int) : hereV V S n = hereV V S' n := by unfold hereV; rw [sec_ring h1 h2, at_ring h1 h2]
theorem body_ring (n : Int) : ∀ k, bodyR V S n k = bodyR V S' n k
  | 0 => rfl
  | k + 1 => by rw [bodyR, bodyR, body_ring n k, at_ring h1 h2]
theorem rec_ring (n : Int) : recOk V S n = recOk V S' n := by
  unfold recOk headOk followV
  simp only [here_ring h1 h2, at_ring h1 h2, h2]
theorem recPost_ring (n : Int) (w : World) (e : Ending) (w' : World) (h : RecPost V S n w e w') : RecPost V S' n w e w' := by
  unfold RecPost at *
  rw [rec_ring h1 h2, at_ring h1 h2, body_ring h1 h2] at h
  exact h
end
theorem at_of {V : TrayV} {S : SpoolV} {n : Int} (h : recOk V S n = true) (hl : (secV V S n).length = 128) : 1 ≤ (atV V S n).of ∧ (atV V S n).of ≤ S.count := by
  unfold recOk headOk at h
  simp only [Bool.and_eq_true, decide_eq_true_eq] at h
  have := (here_facts h.1.1.1 hl).2
  omega
set_option maxHeartbeats 16000000 in
set_option maxRecDepth 100000 in
theorem find_calls (P : Nat → Prop) (s t : Nat) (V : TrayV) (S : SpoolV) (w : World) (H : TAt P w t V) (hPs : ¬ P s) (hS : Sound V) (hcl : V.cache.length ≤ 1000000000) (hB : BytesT V) (hF : Fit S) (hR : S.first + S.count ≤ V.kept.length)
    (HS : Blk w s TSp (spoolC t S)) (hn2 : S.head ≤ 140737480000000) (k0 : Nat) (hk0 : S.count - (S.tail - S.head) ≤ k0) :
    Calls Try.prog 38 #[ptrT s] w fun e w' => ∃ v, e = .returned v ∧ Recs w' w.heap.size v (findV V S k0 S.tail 0 []).1 ∧ Blk w' s TSp (spoolC t { S with tail := (findV V S k0 S.tail 0 []).2 }) ∧ OnlyP (fun j => j = s) w w' := by
  have FitT := Aside0.mk (fun (tl : Int) (h : S.head ≤ tl ∧ tl - S.head ≤ S.count) => (⟨hF.first, hF.count, hF.epoch, ⟨hF.head.1, h.1⟩, ⟨by have := hF.count; show tl ≤ _; omega, h.2⟩⟩ : Fit { S with tail := tl }))
  have KROOM := Aside0.mk (fun (tl : Int) (h : S.head ≤ tl ∧ tl - S.head ≤ S.count) w' (hb : Blk w' s TSp (spoolC t { S with tail := tl })) => room_calls s t { S with tail := tl } w' (FitT.out tl h) hb)
  have KREC := Aside0.mk (fun (tl : Int) (h : S.head ≤ tl ∧ tl - S.head ≤ S.count) w' (ho : OnlyP (fun j => j = s) w w') (hb : Blk w' s TSp (spoolC t { S with tail := tl })) =>
    (record_calls P s t V { S with tail := tl } tl w' (H.onlyP ho (fun j _ hp e => hPs (by rw [← e]; exact hp))) hS hcl hB (FitT.out tl h) hR hb (by have := hF.head; omega) (by have := hF.count; omega)).mono fun e w'' h => recPost_ring (S := { S with tail := tl }) (S' := S) rfl rfl tl w' e w'' h)
  have KL := Aside0.mk (fun (k : Int) (hk : 0 ≤ k) => show (secV V S k).length = 128 from hS.read (on_has hF hR k hk))
  have HF := Aside0.mk hF
  have HS0 := Aside0.mk HS
  have HN2 := Aside0.mk hn2
  have HK0 := Aside0.mk hk0
  obtain ⟨R, hRes⟩ : ∃ R, findV V S k0 S.tail 0 [] = R := ⟨_, rfl⟩
  rw [hRes]
  have HRes := Aside0.mk hRes
  clear H hPs hS hcl hB hF hR hn2 HS hk0 hRes
  go_enter Try.func38, Try.ntmps38
  go_wp2_with fail
  go_loopw [3, 4] (fun v3 v4 wr => ∃ (tl least : Int) (xs : List (List Int)) (k : Nat), v4 = .int .i64 least ∧ Aside0 (S.head ≤ tl ∧ tl - S.head ≤ S.count ∧ S.count - (tl - S.head) ≤ k ∧ xs.length + S.count - (tl - S.head) ≤ S.count + S.count) ∧ Aside0 (findV V S k tl least xs = R) ∧ Aside0 (Recs wr w.heap.size v3 xs) ∧ Aside0 (Blk wr s TSp (spoolC t { S with tail := tl })) ∧ Aside0 (OnlyP (fun j => j = s) w wr)) (fun _ _ wr => (S.head + S.count - intOf ((wr.cell? ⟨s, 5, none⟩).getD (.int .i64 0))).toNat)
  case atStart =>
    have hF := HF.out
    have h1 := hF.head
    have h2 := hF.tail
    exact ⟨S.tail, 0, [], k0, rfl, ⟨h1.2, h2.2, HK0.out, by simp; omega⟩, HRes, ⟨Recs.nil _ _⟩, ⟨HS0.out⟩, ⟨OnlyP.refl _ _⟩⟩
  case round =>
    obtain ⟨tl, least, xs, k, rfl, hin, hfi, hrec, hblk, ho⟩ := hrel
    have hcount := HF.out.count
    have KR := Aside0.mk (KROOM.out tl ⟨hin.out.1, hin.out.2.1⟩ wr hblk.out)
    obtain ⟨rm, hrm⟩ : ∃ rm, S.count - (tl - S.head) = rm := ⟨_, rfl⟩
    have hrv : roomV { S with tail := tl } = rm := hrm
    rw [hrv] at KR
    have HRM := Aside0.mk hrm
    clear hrv hrm hcount
    by_cases hr0 : rm > 0
    · have t1 : decide (rm > 0) = true := decide_eq_true hr0
      go_wp2_with fail
      refine KR.out.mono ?_
      rintro e w1 ⟨rfl, b1⟩
      have hb1 := hblk.out.below b1
      have O1 := Aside0.mk (ho.out.trans (OnlyP.of_below b1))
      have R1 := Aside0.mk (hrec.out.below b1)
      have HB1 := Aside0.mk hb1
      have c5 := hb1.cell 5
      have l5 := hb1.lt
      have KK := Aside0.mk (KREC.out tl ⟨hin.out.1, hin.out.2.1⟩ w1 O1.out hb1)
      clear b1 hb1 KR
      go_wp2_with fail
      refine KK.out.mono ?_
      rintro e w2 ⟨b2, hpost⟩
      have HB2 := HB1.out.below b2
      have O2 := Aside0.mk (O1.out.trans (OnlyP.of_below b2))
      have R2 := Aside0.mk (R1.out.below b2)
      have HB2 := Aside0.mk HB2
      rcases hpost with ⟨hok, v, rfl, hrow⟩ | ⟨hok, rfl⟩
      · obtain ⟨A9, c9, rfl, -⟩ := hrow.reads
        have hof := at_of hok (KL.out tl (by have := HF.out.head; have := hin.out; omega))
        have hrow2 := hrow.lower (show w.heap.size ≤ w1.heap.size from O1.out.size)
        obtain ⟨ep, hep⟩ : ∃ ep, (atV V S tl).epoch = ep := ⟨_, rfl⟩
        obtain ⟨f, hf⟩ : ∃ f, (atV V S tl).of = f := ⟨_, rfl⟩
        obtain ⟨body, hbody⟩ : ∃ b, bodyR V S tl (atV V S tl).of.toNat = b := ⟨_, rfl⟩
        obtain ⟨bl, hbl⟩ : ∃ bl, (bodyR V S tl (atV V S tl).of.toNat).length = bl := ⟨_, rfl⟩
        rw [hbl] at hrow2 ⊢
        rw [hbody] at hrow2
        rw [hf] at hof
        rw [hep, hf]
        have HX := Aside0.mk (⟨hep, hf, hbody, hok⟩ : _ ∧ _ ∧ _ ∧ _)
        have ROW := Aside0.mk hrow2
        have t2 : decide (f = 0) = false := decide_eq_false (by omega)
        have t3 : (f == 0) = false := by simp; omega
        have HOF := Aside0.mk hof
        have KR2 := Aside0.mk (KROOM.out tl ⟨hin.out.1, hin.out.2.1⟩ w2 HB2.out)
        rw [show roomV { S with tail := tl } = rm from HRM.out] at KR2
        have HN : ∀ q : takeV V S tl least = false, findV V S k tl least xs = (xs, tl) := fun q => by
          cases k with
          | zero => rfl
          | succ k =>
            simp only [findV]
            rw [if_neg]
            intro h
            rw [q] at h
            cases h.2
        have HN := Aside0.mk HN
        clear hep hf hbody hok hrow hrow2 hof KK c5 l5 b2 hbl t1
        go_wp2_with fail
        refine KR2.out.mono ?_
        rintro e w3 ⟨rfl, b3⟩
        have HB3 := Aside0.mk (HB2.out.below b3)
        have O3 := Aside0.mk (O2.out.trans (OnlyP.of_below b3))
        have R3 := Aside0.mk (R2.out.below b3)
        have ROW3 := Aside0.mk (ROW.out.below b3)
        have c3 := HB3.out.cell 3
        have l3 := HB3.out.lt
        clear b3 KR2
        by_cases h1 : f > rm
        · have d1 : decide (f > rm) = true := decide_eq_true h1
          have HBad := Aside0.mk (HN.out (by unfold takeV; rw [HX.out.2.1, HRM.out, decide_eq_false (by omega)]; simp))
          clear h1
          go_wp2
          go_ret
          have hRe := hfi.out.symm.trans HBad.out
          refine ⟨_, rfl, ?_, ?_, O3.out⟩ <;> rw [hRe]
          · exact R3.out
          · exact HB3.out
        have d1 : decide (f > rm) = false := decide_eq_false h1
        by_cases h2 : ep < least
        · have d2 : decide (ep < least) = true := decide_eq_true h2
          have HBad := Aside0.mk (HN.out (by unfold takeV; rw [HX.out.1, decide_eq_false (show ¬ least ≤ ep by omega)]; simp))
          clear h1 h2
          go_wp2
          go_ret
          have hRe := hfi.out.symm.trans HBad.out
          refine ⟨_, rfl, ?_, ?_, O3.out⟩ <;> rw [hRe]
          · exact R3.out
          · exact HB3.out
        have d2 : decide (ep < least) = false := decide_eq_false h2
        by_cases h3 : ep ≥ S.epoch
        · have d3 : decide (ep ≥ S.epoch) = true := decide_eq_true h3
          have HBad := Aside0.mk (HN.out (by unfold takeV; rw [HX.out.1, decide_eq_false (show ¬ ep < S.epoch by omega)]; simp))
          clear h1 h2 h3
          go_wp2
          go_ret
          have hRe := hfi.out.symm.trans HBad.out
          refine ⟨_, rfl, ?_, ?_, O3.out⟩ <;> rw [hRe]
          · exact R3.out
          · exact HB3.out
        have d3 : decide (ep ≥ S.epoch) = false := decide_eq_false h3
        have HNX := Aside0.mk (show findV V S (k - 1) (tl + f) ep (xs ++ [body]) = R from by
          obtain ⟨k, rfl⟩ : ∃ j, k = j + 1 := ⟨k - 1, by have := hin.out; have := HRM.out; omega⟩
          have := hfi.out
          simp only [findV] at this
          rw [if_pos ⟨by rw [HRM.out]; exact hr0, by unfold takeV; rw [HX.out.2.2.2, HX.out.1, HX.out.2.1, HRM.out, decide_eq_true (show f ≤ rm by omega), decide_eq_true (show least ≤ ep by omega), decide_eq_true (show ep < S.epoch by omega)]; rfl⟩, HX.out.1, HX.out.2.2.1, HX.out.2.1] at this
          exact this)
        have HLE := Aside0.mk (show f ≤ rm by omega)
        have HR0 := Aside0.mk hr0
        have hxl : xs.length ≤ 1000000000 := by
          have := hin.out; have := HF.out.count; omega
        have hw : IntKind.i64.wrap (tl + f) = tl + f := IntWalk.i64_in _ (by have := hin.out; have := HF.out; have := HF.out.head; have := HF.out.tail; have := HF.out.count; have := HN2.out; have := HOF.out; omega)
        have hz3 : w.heap.size ≤ w3.heap.size := O3.out.size
        have tok1 : True := trivial
        clear h1 h2 h3
        go_wp2_with (at_builtin; have _t := tok1; have q1 := HB3.out.alloc (.cells #[.slice A9 bl c9] TSl); have q2 := R3.out.ne HB3.out (by decide); have q3 := R3.out.le; have q4 := O3.out.alloc (.cells #[.slice A9 bl c9] TSl); go_must (refine app_rec (w0 := w3) w.heap.size rfl _ _ rfl u3 xs ⟨A9, bl, c9⟩ body rfl rfl R3.out ROW3.out ((Below.refl _ _).mono hz3) hz3 hxl ?_); intro v4 w4 hv4 hb4 hg4; have hB4 := q1.grown hg4 q2; have hO4 := q4.grown hg4 (fun j hj => .inr (q3 j hj)); have c5 := hB4.cell 5; have f5 := hB4.frozen 5; have l5 := hB4.lt; have HV4 := Aside0.mk hv4; have HB4 := Aside0.mk hB4; have HO4 := Aside0.mk hO4; clear hg4 _t tok1 q1 q2 q3 q4 hb4 hv4 hB4 hO4)
        go_roundw
        case rel =>
          refine ⟨tl + f, ep, xs ++ [body], k - 1, by first | rfl | go_num, ⟨by have := hin.out; have := HOF.out; omega, ?_, ?_, ?_⟩, HNX, ⟨HV4.out.set HB4.out (by decide) (by decide) 5 _⟩, ⟨?_⟩, ⟨HO4.out.setCell (.inl rfl) _⟩⟩
          · have := HLE.out; have := HRM.out; omega
          · have := HLE.out; have := HRM.out; have := HOF.out; have := hin.out; omega
          · have := HOF.out; have := hin.out; simp; omega
          · simpa using HB4.out.set 5 (.int .i64 (tl + f))
        case measure =>
          have e1 := hblk.out.cell 5
          have e2 := (HB4.out.set 5 (.int .i64 (tl + f))).cell 5
          have := HOF.out
          have := HLE.out
          have := HRM.out
          have := HR0.out
          simp at e1 e2
          simp [intOf, e1, e2]
          omega
      · have HBad := Aside0.mk (show findV V S k tl least xs = (xs, tl) by
          cases k with
          | zero => rfl
          | succ k =>
            simp only [findV]
            rw [if_neg]
            intro h
            have := h.2
            unfold takeV at this
            rw [hok] at this
            cases this)
        clear hok
        go_wp2
        go_ret
        have hRe := hfi.out.symm.trans HBad.out
        refine ⟨_, rfl, ?_, ?_, O2.out⟩ <;> rw [hRe]
        · exact R2.out
        · exact HB2.out
    · have t1 : decide (rm > 0) = false := decide_eq_false hr0
      have HBad := Aside0.mk (show findV V S k tl least xs = (xs, tl) by
        cases k with
        | zero => rfl
        | succ k =>
          simp only [findV]
          rw [if_neg]
          intro h
          have := h.1
          rw [HRM.out] at this
          exact hr0 this)
      go_wp2_with fail
      refine KR.out.mono ?_
      rintro e w1 ⟨rfl, b1⟩
      have hb1 := hblk.out.below b1
      have O1 := Aside0.mk (ho.out.trans (OnlyP.of_below b1))
      have R1 := Aside0.mk (hrec.out.below b1)
      have HB1 := Aside0.mk hb1
      clear b1 hb1 KR hr0
      go_wp2
      go_ret
      have hRe := hfi.out.symm.trans HBad.out
      refine ⟨_, rfl, ?_, ?_, O1.out⟩ <;> rw [hRe]
      · exact R1.out
      · exact HB1.out
end Go.Proofs.Ytddhngalokmdoaa.Spo

/- A spool is opened: Open; Cut, Head, Tail. -/
namespace Go.Proofs.Ytddhngalokmdoaa.Spo
open Go.RowKit Go.Proofs.YtddhngalokmdoaaW.PrintWords Go.Proofs.YtddhngalokmdoaaW.PrintLast Go.Proofs.YtddhngalokmdoaaW.PrintMore Go.Proofs.Ytddhngalokmdoaa.Arr Go.Proofs.Ytddhngalokmdoaa.PSpoolPlays
set_option linter.unusedVariables false
set_option linter.unusedSimpArgs false

def rightV (a b : Int) (n : Nat) : Bool := decide (b ≥ 2) && decide (b ≤ 4096) && decide (a ≥ 0) && decide (a < n) && decide (b ≤ n - a)
def openOk (V : TrayV) (a b h ep : Int) : Bool := rightV a b V.kept.length && !decide (h < 0) && !decide (h > 1099511627776) && !decide (ep < 1) && !decide (ep > 4294967295)
theorem right_calls (a b : Int) (n : Nat) (hn : n ≤ 4096) (w : World) :
    Calls Try.prog 36 #[.agg #[.int .i64 a, .int .i64 b], .int .i64 (n : Int)] w fun e w' => e = .returned (.bool (rightV a b n)) ∧ Below w.heap.size w w' :=
  spool_Ring_right.calls a b (n : Int) _ w (right_f a b n (by omega) (by omega))
theorem open_facts {V : TrayV} {a b h ep : Int} (ho : openOk V a b h ep = true) (hk : V.kept.length ≤ 4096) : Fit ⟨a, b, ep, h, h, false⟩ ∧ a + b ≤ V.kept.length ∧ h ≤ 1099511627776 := by
  unfold openOk rightV at ho
  simp only [Bool.and_eq_true, decide_eq_true_eq, Bool.not_eq_true', decide_eq_false_iff_not] at ho
  obtain ⟨⟨⟨⟨⟨⟨⟨⟨h1, h2⟩, h3⟩, h4⟩, h5⟩, h6⟩, h7⟩, h8⟩, h9⟩ := ho
  exact ⟨⟨⟨h3, by show a ≤ 4096; omega⟩, ⟨h1, h2⟩, ⟨by show 1 ≤ ep; omega, by show ep ≤ _; omega⟩, ⟨by show 0 ≤ h; omega, by show h ≤ h; omega⟩, ⟨by show h ≤ _; omega, by show h - h ≤ b; omega⟩⟩, by omega, by omega⟩
def opened (V : TrayV) (a b h ep : Int) : List (List Int) × Int := findV V ⟨a, b, ep, h, h, false⟩ b.toNat h 0 []
/-- What Open returns. -/
def OpenPost (V : TrayV) (t : Nat) (a b h ep : Int) (w : World) (e : Ending) (w' : World) : Prop :=
  Below w.heap.size w w' ∧ ((openOk V a b h ep = false ∧ e = .returned (.tuple #[.pointer none, .slice none 0 0, .int .i64 1])) ∨
    (openOk V a b h ep = true ∧ ∃ s v, e = .returned (.tuple #[ptrT s, v, .int .i64 0]) ∧ w.heap.size ≤ s ∧ Recs w' w.heap.size v (opened V a b h ep).1 ∧ Blk w' s TSp (spoolC t ⟨a, b, ep, h, (opened V a b h ep).2, false⟩)))
theorem under2 {f : FuncId} {args : Array Value} {v : Value} {w w' : World} {g : Nat} {T : TypeId} {cs : Array Value} (hw : Blk w' g T cs ∧ Below w.heap.size w w') (h : Calls Try.prog f args w' fun e w'' => e = .returned v ∧ Below w'.heap.size w' w'') :
    Calls Try.prog f args w' fun e w'' => e = .returned v ∧ (Blk w'' g T cs ∧ Below w.heap.size w w'') := h.mono fun e w'' ⟨h1, h2⟩ => ⟨h1, hw.1.below h2, hw.2.trans (h2.mono hw.2.size)⟩
set_option maxHeartbeats 16000000 in
set_option maxRecDepth 100000 in
theorem open_calls (P : Nat → Prop) (t : Nat) (V : TrayV) (a b h ep : Int) (w : World) (H : TAt P w t V) (hS : Sound V) (hcl : V.cache.length ≤ 1000000000) (hB : BytesT V) :
    Calls Try.prog 16 #[ptrT t, .agg #[.int .i64 a, .int .i64 b], .int .i64 h, .int .i64 ep] w (OpenPost V t a b h ep w) := by
  have KS := Aside0.mk (fun w' (hb : Below w.heap.size w w') => sectors_calls P t V w' (H.below hb))
  have KR := Aside0.mk (fun w' => right_calls a b V.kept.length hS.len w')
  have HA := Aside0.mk (⟨H, hS, hcl, hB⟩ : _ ∧ _ ∧ _ ∧ _)
  unfold OpenPost
  obtain ⟨n, hn⟩ : ∃ n, V.kept.length = n := ⟨_, rfl⟩
  obtain ⟨r, hr⟩ : ∃ r, rightV a b V.kept.length = r := ⟨_, rfl⟩
  rw [hr, hn] at KR
  rw [hn] at KS
  have HR := Aside0.mk hr
  clear H hS hcl hB hn hr
  go_enter Try.func16, Try.ntmps16
  go_wp2_with fail
  obtain ⟨W1, hW1⟩ : ∃ W1, w.alloc (.cells #[.int .i64 a, .int .i64 b] TRi) = W1 := ⟨_, rfl⟩
  have hE1 : Blk W1 w.heap.size TRi #[.int .i64 a, .int .i64 b] := by rw [← hW1]; exact Blk.new _ _ _
  have hb1 : Below w.heap.size w W1 := by rw [← hW1]; exact (Below.refl _ _).alloc (Nat.le_refl _) _
  have HE0 : (fun w' => Blk w' w.heap.size TRi #[.int .i64 a, .int .i64 b] ∧ Below w.heap.size w w') W1.drew := ⟨hE1.drew, hb1.drew⟩
  rw [hW1]
  clear hE1 hb1 hW1
  cases r with
  | false =>
    have HBad := Aside0.mk (show openOk V a b h ep = false by unfold openOk; rw [HR.out]; rfl)
    refine Qt.wp_region_all (fun w' => Blk w' w.heap.size TRi #[.int .i64 a, .int .i64 b] ∧ Below w.heap.size w w') (by kernel_rfl) (by kernel_rfl) HE0 ?_
    clear HE0
    iterate 2 ((first | (with_reducible refine Qt.q_val' rfl ?_) | ((with_reducible refine Qg.on_val' ?_); apply Exists.intro; apply Exists.intro; apply Exists.intro; refine ⟨?_, ?_, ?_, ?_⟩; (focus rfl); (focus rfl); (focus rfl))); apply Exists.intro; refine ⟨?_, ?_⟩; (focus (intro w' hw'; have hEw := hw'.1; have c0 := hEw.cell 0; have c1 := hEw.cell 1; have l0 := hEw.lt; go_simp; (first | done | (with_reducible rfl)))); intro K hK; go_simp; (first | (with_reducible refine hK _ ?_) | (refine hK _ ?_)); clear hK K)
    ((first | (with_reducible refine Qt.q_call' rfl ?_) | ((with_reducible refine Qg.on_call' ?_); apply Exists.intro; apply Exists.intro; apply Exists.intro; refine ⟨?_, ?_, ?_, ?_⟩; (focus rfl); (focus rfl); (focus rfl))); apply Exists.intro; apply Exists.intro; refine ⟨?_, ?_⟩; (focus (intro w'; go_simp; (first | rfl | exact ⟨rfl, rfl⟩))); apply Exists.intro; refine ⟨?_, ?_⟩; (focus (intro w' hw'; first | exact under2 hw' (KS.out w' hw'.2))); intro K hK; go_simp; (first | (with_reducible refine hK _ ?_) | (refine hK _ ?_)); clear hK K)
    ((first | (with_reducible refine Qt.q_call' rfl ?_) | ((with_reducible refine Qg.on_call' ?_); apply Exists.intro; apply Exists.intro; apply Exists.intro; refine ⟨?_, ?_, ?_, ?_⟩; (focus rfl); (focus rfl); (focus rfl))); apply Exists.intro; apply Exists.intro; refine ⟨?_, ?_⟩; (focus (intro w'; go_simp; (first | rfl | exact ⟨rfl, rfl⟩))); apply Exists.intro; refine ⟨?_, ?_⟩; (focus (intro w' hw'; first | exact under2 hw' (KR.out w'))); intro K hK; go_simp; (first | (with_reducible refine hK _ ?_) | (refine hK _ ?_)); clear hK K)
    iterate 2 ((first | (with_reducible refine Qt.q_val' rfl ?_) | ((with_reducible refine Qg.on_val' ?_); apply Exists.intro; apply Exists.intro; apply Exists.intro; refine ⟨?_, ?_, ?_, ?_⟩; (focus rfl); (focus rfl); (focus rfl))); apply Exists.intro; refine ⟨?_, ?_⟩; (focus (intro w' hw'; have hEw := hw'.1; have c0 := hEw.cell 0; have c1 := hEw.cell 1; have l0 := hEw.lt; go_simp; (first | done | (with_reducible rfl)))); intro K hK; go_simp; (first | (with_reducible refine hK _ ?_) | (refine hK _ ?_)); clear hK K)
    iterate 2 ((first | ((with_reducible refine Qg.off' ?_); apply Exists.intro; apply Exists.intro; apply Exists.intro; refine ⟨?_, ?_, ?_, ?_⟩; (focus rfl); (focus rfl); (focus rfl)) | ((with_reducible refine Qg.never' ?_); apply Exists.intro; apply Exists.intro; apply Exists.intro; refine ⟨?_, ?_, ?_, ?_⟩; (focus rfl); (focus rfl); (focus rfl))); intro K hK; go_simp; (first | (with_reducible refine hK _ ?_) | (refine hK _ ?_)); clear hK K)
    iterate 2 ((first | (with_reducible refine Qt.q_val' rfl ?_) | ((with_reducible refine Qg.on_val' ?_); apply Exists.intro; apply Exists.intro; apply Exists.intro; refine ⟨?_, ?_, ?_, ?_⟩; (focus rfl); (focus rfl); (focus rfl))); apply Exists.intro; refine ⟨?_, ?_⟩; (focus (intro w' hw'; have hEw := hw'.1; have c0 := hEw.cell 0; have c1 := hEw.cell 1; have l0 := hEw.lt; go_simp; (first | done | (with_reducible rfl)))); intro K hK; go_simp; (first | (with_reducible refine hK _ ?_) | (refine hK _ ?_)); clear hK K)
    iterate 2 ((first | ((with_reducible refine Qg.off' ?_); apply Exists.intro; apply Exists.intro; apply Exists.intro; refine ⟨?_, ?_, ?_, ?_⟩; (focus rfl); (focus rfl); (focus rfl)) | ((with_reducible refine Qg.never' ?_); apply Exists.intro; apply Exists.intro; apply Exists.intro; refine ⟨?_, ?_, ?_, ?_⟩; (focus rfl); (focus rfl); (focus rfl))); intro K hK; go_simp; (first | (with_reducible refine hK _ ?_) | (refine hK _ ?_)); clear hK K)
    iterate 2 ((first | (with_reducible refine Qt.q_val' rfl ?_) | ((with_reducible refine Qg.on_val' ?_); apply Exists.intro; apply Exists.intro; apply Exists.intro; refine ⟨?_, ?_, ?_, ?_⟩; (focus rfl); (focus rfl); (focus rfl))); apply Exists.intro; refine ⟨?_, ?_⟩; (focus (intro w' hw'; have hEw := hw'.1; have c0 := hEw.cell 0; have c1 := hEw.cell 1; have l0 := hEw.lt; go_simp; (first | done | (with_reducible rfl)))); intro K hK; go_simp; (first | (with_reducible refine hK _ ?_) | (refine hK _ ?_)); clear hK K)
    iterate 2 ((first | ((with_reducible refine Qg.off' ?_); apply Exists.intro; apply Exists.intro; apply Exists.intro; refine ⟨?_, ?_, ?_, ?_⟩; (focus rfl); (focus rfl); (focus rfl)) | ((with_reducible refine Qg.never' ?_); apply Exists.intro; apply Exists.intro; apply Exists.intro; refine ⟨?_, ?_, ?_, ?_⟩; (focus rfl); (focus rfl); (focus rfl))); intro K hK; go_simp; (first | (with_reducible refine hK _ ?_) | (refine hK _ ?_)); clear hK K)
    iterate 2 ((first | (with_reducible refine Qt.q_val' rfl ?_) | ((with_reducible refine Qg.on_val' ?_); apply Exists.intro; apply Exists.intro; apply Exists.intro; refine ⟨?_, ?_, ?_, ?_⟩; (focus rfl); (focus rfl); (focus rfl))); apply Exists.intro; refine ⟨?_, ?_⟩; (focus (intro w' hw'; have hEw := hw'.1; have c0 := hEw.cell 0; have c1 := hEw.cell 1; have l0 := hEw.lt; go_simp; (first | done | (with_reducible rfl)))); intro K hK; go_simp; (first | (with_reducible refine hK _ ?_) | (refine hK _ ?_)); clear hK K)
    iterate 2 ((first | ((with_reducible refine Qg.off' ?_); apply Exists.intro; apply Exists.intro; apply Exists.intro; refine ⟨?_, ?_, ?_, ?_⟩; (focus rfl); (focus rfl); (focus rfl)) | ((with_reducible refine Qg.never' ?_); apply Exists.intro; apply Exists.intro; apply Exists.intro; refine ⟨?_, ?_, ?_, ?_⟩; (focus rfl); (focus rfl); (focus rfl))); intro K hK; go_simp; (first | (with_reducible refine hK _ ?_) | (refine hK _ ?_)); clear hK K)
    iterate 1 ((first | (with_reducible refine Qt.q_val' rfl ?_) | ((with_reducible refine Qg.on_val' ?_); apply Exists.intro; apply Exists.intro; apply Exists.intro; refine ⟨?_, ?_, ?_, ?_⟩; (focus rfl); (focus rfl); (focus rfl))); apply Exists.intro; refine ⟨?_, ?_⟩; (focus (intro w' hw'; have hEw := hw'.1; have c0 := hEw.cell 0; have c1 := hEw.cell 1; have l0 := hEw.lt; go_simp; (first | done | (with_reducible rfl)))); intro K hK; go_simp; (first | (with_reducible refine hK _ ?_) | (refine hK _ ?_)); clear hK K)
    (refine wpQuiet_nil ?_; intro w' hw')
    have BE := Aside0.mk hw'.2
    clear hw'
    go_wp2
    go_ret3
    exact ⟨BE.out, .inl ⟨HBad.out, rfl⟩⟩
  | true =>
   by_cases h1 : h < 0
   case pos =>
    have d1 : decide (h < 0) = true := decide_eq_true h1
    have HBad := Aside0.mk (show openOk V a b h ep = false by unfold openOk; rw [d1]; simp)
    clear h1
    refine Qt.wp_region_all (fun w' => Blk w' w.heap.size TRi #[.int .i64 a, .int .i64 b] ∧ Below w.heap.size w w') (by kernel_rfl) (by kernel_rfl) HE0 ?_
    clear HE0
    iterate 2 ((first | (with_reducible refine Qt.q_val' rfl ?_) | ((with_reducible refine Qg.on_val' ?_); apply Exists.intro; apply Exists.intro; apply Exists.intro; refine ⟨?_, ?_, ?_, ?_⟩; (focus rfl); (focus rfl); (focus rfl))); apply Exists.intro; refine ⟨?_, ?_⟩; (focus (intro w' hw'; have hEw := hw'.1; have c0 := hEw.cell 0; have c1 := hEw.cell 1; have l0 := hEw.lt; go_simp; (first | done | (with_reducible rfl)))); intro K hK; go_simp; (first | (with_reducible refine hK _ ?_) | (refine hK _ ?_)); clear hK K)
    ((first | (with_reducible refine Qt.q_call' rfl ?_) | ((with_reducible refine Qg.on_call' ?_); apply Exists.intro; apply Exists.intro; apply Exists.intro; refine ⟨?_, ?_, ?_, ?_⟩; (focus rfl); (focus rfl); (focus rfl))); apply Exists.intro; apply Exists.intro; refine ⟨?_, ?_⟩; (focus (intro w'; go_simp; (first | rfl | exact ⟨rfl, rfl⟩))); apply Exists.intro; refine ⟨?_, ?_⟩; (focus (intro w' hw'; first | exact under2 hw' (KS.out w' hw'.2))); intro K hK; go_simp; (first | (with_reducible refine hK _ ?_) | (refine hK _ ?_)); clear hK K)
    ((first | (with_reducible refine Qt.q_call' rfl ?_) | ((with_reducible refine Qg.on_call' ?_); apply Exists.intro; apply Exists.intro; apply Exists.intro; refine ⟨?_, ?_, ?_, ?_⟩; (focus rfl); (focus rfl); (focus rfl))); apply Exists.intro; apply Exists.intro; refine ⟨?_, ?_⟩; (focus (intro w'; go_simp; (first | rfl | exact ⟨rfl, rfl⟩))); apply Exists.intro; refine ⟨?_, ?_⟩; (focus (intro w' hw'; first | exact under2 hw' (KR.out w'))); intro K hK; go_simp; (first | (with_reducible refine hK _ ?_) | (refine hK _ ?_)); clear hK K)
    iterate 2 ((first | (with_reducible refine Qt.q_val' rfl ?_) | ((with_reducible refine Qg.on_val' ?_); apply Exists.intro; apply Exists.intro; apply Exists.intro; refine ⟨?_, ?_, ?_, ?_⟩; (focus rfl); (focus rfl); (focus rfl))); apply Exists.intro; refine ⟨?_, ?_⟩; (focus (intro w' hw'; have hEw := hw'.1; have c0 := hEw.cell 0; have c1 := hEw.cell 1; have l0 := hEw.lt; go_simp; (first | done | (with_reducible rfl)))); intro K hK; go_simp; (first | (with_reducible refine hK _ ?_) | (refine hK _ ?_)); clear hK K)
    iterate 2 ((first | (with_reducible refine Qt.q_val' rfl ?_) | ((with_reducible refine Qg.on_val' ?_); apply Exists.intro; apply Exists.intro; apply Exists.intro; refine ⟨?_, ?_, ?_, ?_⟩; (focus rfl); (focus rfl); (focus rfl))); apply Exists.intro; refine ⟨?_, ?_⟩; (focus (intro w' hw'; have hEw := hw'.1; have c0 := hEw.cell 0; have c1 := hEw.cell 1; have l0 := hEw.lt; go_simp; (first | done | (with_reducible rfl)))); intro K hK; go_simp; (first | (with_reducible refine hK _ ?_) | (refine hK _ ?_)); clear hK K)
    iterate 2 ((first | (with_reducible refine Qt.q_val' rfl ?_) | ((with_reducible refine Qg.on_val' ?_); apply Exists.intro; apply Exists.intro; apply Exists.intro; refine ⟨?_, ?_, ?_, ?_⟩; (focus rfl); (focus rfl); (focus rfl))); apply Exists.intro; refine ⟨?_, ?_⟩; (focus (intro w' hw'; have hEw := hw'.1; have c0 := hEw.cell 0; have c1 := hEw.cell 1; have l0 := hEw.lt; go_simp; (first | done | (with_reducible rfl)))); intro K hK; go_simp; (first | (with_reducible refine hK _ ?_) | (refine hK _ ?_)); clear hK K)
    iterate 2 ((first | ((with_reducible refine Qg.off' ?_); apply Exists.intro; apply Exists.intro; apply Exists.intro; refine ⟨?_, ?_, ?_, ?_⟩; (focus rfl); (focus rfl); (focus rfl)) | ((with_reducible refine Qg.never' ?_); apply Exists.intro; apply Exists.intro; apply Exists.intro; refine ⟨?_, ?_, ?_, ?_⟩; (focus rfl); (focus rfl); (focus rfl))); intro K hK; go_simp; (first | (with_reducible refine hK _ ?_) | (refine hK _ ?_)); clear hK K)
    iterate 2 ((first | (with_reducible refine Qt.q_val' rfl ?_) | ((with_reducible refine Qg.on_val' ?_); apply Exists.intro; apply Exists.intro; apply Exists.intro; refine ⟨?_, ?_, ?_, ?_⟩; (focus rfl); (focus rfl); (focus rfl))); apply Exists.intro; refine ⟨?_, ?_⟩; (focus (intro w' hw'; have hEw := hw'.1; have c0 := hEw.cell 0; have c1 := hEw.cell 1; have l0 := hEw.lt; go_simp; (first | done | (with_reducible rfl)))); intro K hK; go_simp; (first | (with_reducible refine hK _ ?_) | (refine hK _ ?_)); clear hK K)
    iterate 2 ((first | ((with_reducible refine Qg.off' ?_); apply Exists.intro; apply Exists.intro; apply Exists.intro; refine ⟨?_, ?_, ?_, ?_⟩; (focus rfl); (focus rfl); (focus rfl)) | ((with_reducible refine Qg.never' ?_); apply Exists.intro; apply Exists.intro; apply Exists.intro; refine ⟨?_, ?_, ?_, ?_⟩; (focus rfl); (focus rfl); (focus rfl))); intro K hK; go_simp; (first | (with_reducible refine hK _ ?_) | (refine hK _ ?_)); clear hK K)
    iterate 2 ((first | (with_reducible refine Qt.q_val' rfl ?_) | ((with_reducible refine Qg.on_val' ?_); apply Exists.intro; apply Exists.intro; apply Exists.intro; refine ⟨?_, ?_, ?_, ?_⟩; (focus rfl); (focus rfl); (focus rfl))); apply Exists.intro; refine ⟨?_, ?_⟩; (focus (intro w' hw'; have hEw := hw'.1; have c0 := hEw.cell 0; have c1 := hEw.cell 1; have l0 := hEw.lt; go_simp; (first | done | (with_reducible rfl)))); intro K hK; go_simp; (first | (with_reducible refine hK _ ?_) | (refine hK _ ?_)); clear hK K)
    iterate 2 ((first | ((with_reducible refine Qg.off' ?_); apply Exists.intro; apply Exists.intro; apply Exists.intro; refine ⟨?_, ?_, ?_, ?_⟩; (focus rfl); (focus rfl); (focus rfl)) | ((with_reducible refine Qg.never' ?_); apply Exists.intro; apply Exists.intro; apply Exists.intro; refine ⟨?_, ?_, ?_, ?_⟩; (focus rfl); (focus rfl); (focus rfl))); intro K hK; go_simp; (first | (with_reducible refine hK _ ?_) | (refine hK _ ?_)); clear hK K)
    iterate 1 ((first | (with_reducible refine Qt.q_val' rfl ?_) | ((with_reducible refine Qg.on_val' ?_); apply Exists.intro; apply Exists.intro; apply Exists.intro; refine ⟨?_, ?_, ?_, ?_⟩; (focus rfl); (focus rfl); (focus rfl))); apply Exists.intro; refine ⟨?_, ?_⟩; (focus (intro w' hw'; have hEw := hw'.1; have c0 := hEw.cell 0; have c1 := hEw.cell 1; have l0 := hEw.lt; go_simp; (first | done | (with_reducible rfl)))); intro K hK; go_simp; (first | (with_reducible refine hK _ ?_) | (refine hK _ ?_)); clear hK K)
    (refine wpQuiet_nil ?_; intro w' hw')
    have BE := Aside0.mk hw'.2
    clear hw'
    go_wp2
    go_ret3
    exact ⟨BE.out, .inl ⟨HBad.out, rfl⟩⟩
   have d1 : decide (h < 0) = false := decide_eq_false h1
   by_cases h2 : h > 1099511627776
   case pos =>
    have d2 : decide (h > 1099511627776) = true := decide_eq_true h2
    have HBad := Aside0.mk (show openOk V a b h ep = false by unfold openOk; rw [d2]; simp)
    clear h1 h2
    refine Qt.wp_region_all (fun w' => Blk w' w.heap.size TRi #[.int .i64 a, .int .i64 b] ∧ Below w.heap.size w w') (by kernel_rfl) (by kernel_rfl) HE0 ?_
    clear HE0
    iterate 2 ((first | (with_reducible refine Qt.q_val' rfl ?_) | ((with_reducible refine Qg.on_val' ?_); apply Exists.intro; apply Exists.intro; apply Exists.intro; refine ⟨?_, ?_, ?_, ?_⟩; (focus rfl); (focus rfl); (focus rfl))); apply Exists.intro; refine ⟨?_, ?_⟩; (focus (intro w' hw'; have hEw := hw'.1; have c0 := hEw.cell 0; have c1 := hEw.cell 1; have l0 := hEw.lt; go_simp; (first | done | (with_reducible rfl)))); intro K hK; go_simp; (first | (with_reducible refine hK _ ?_) | (refine hK _ ?_)); clear hK K)
    ((first | (with_reducible refine Qt.q_call' rfl ?_) | ((with_reducible refine Qg.on_call' ?_); apply Exists.intro; apply Exists.intro; apply Exists.intro; refine ⟨?_, ?_, ?_, ?_⟩; (focus rfl); (focus rfl); (focus rfl))); apply Exists.intro; apply Exists.intro; refine ⟨?_, ?_⟩; (focus (intro w'; go_simp; (first | rfl | exact ⟨rfl, rfl⟩))); apply Exists.intro; refine ⟨?_, ?_⟩; (focus (intro w' hw'; first | exact under2 hw' (KS.out w' hw'.2))); intro K hK; go_simp; (first | (with_reducible refine hK _ ?_) | (refine hK _ ?_)); clear hK K)
    ((first | (with_reducible refine Qt.q_call' rfl ?_) | ((with_reducible refine Qg.on_call' ?_); apply Exists.intro; apply Exists.intro; apply Exists.intro; refine ⟨?_, ?_, ?_, ?_⟩; (focus rfl); (focus rfl); (focus rfl))); apply Exists.intro; apply Exists.intro; refine ⟨?_, ?_⟩; (focus (intro w'; go_simp; (first | rfl | exact ⟨rfl, rfl⟩))); apply Exists.intro; refine ⟨?_, ?_⟩; (focus (intro w' hw'; first | exact under2 hw' (KR.out w'))); intro K hK; go_simp; (first | (with_reducible refine hK _ ?_) | (refine hK _ ?_)); clear hK K)
    iterate 2 ((first | (with_reducible refine Qt.q_val' rfl ?_) | ((with_reducible refine Qg.on_val' ?_); apply Exists.intro; apply Exists.intro; apply Exists.intro; refine ⟨?_, ?_, ?_, ?_⟩; (focus rfl); (focus rfl); (focus rfl))); apply Exists.intro; refine ⟨?_, ?_⟩; (focus (intro w' hw'; have hEw := hw'.1; have c0 := hEw.cell 0; have c1 := hEw.cell 1; have l0 := hEw.lt; go_simp; (first | done | (with_reducible rfl)))); intro K hK; go_simp; (first | (with_reducible refine hK _ ?_) | (refine hK _ ?_)); clear hK K)
    iterate 2 ((first | (with_reducible refine Qt.q_val' rfl ?_) | ((with_reducible refine Qg.on_val' ?_); apply Exists.intro; apply Exists.intro; apply Exists.intro; refine ⟨?_, ?_, ?_, ?_⟩; (focus rfl); (focus rfl); (focus rfl))); apply Exists.intro; refine ⟨?_, ?_⟩; (focus (intro w' hw'; have hEw := hw'.1; have c0 := hEw.cell 0; have c1 := hEw.cell 1; have l0 := hEw.lt; go_simp; (first | done | (with_reducible rfl)))); intro K hK; go_simp; (first | (with_reducible refine hK _ ?_) | (refine hK _ ?_)); clear hK K)
    iterate 2 ((first | (with_reducible refine Qt.q_val' rfl ?_) | ((with_reducible refine Qg.on_val' ?_); apply Exists.intro; apply Exists.intro; apply Exists.intro; refine ⟨?_, ?_, ?_, ?_⟩; (focus rfl); (focus rfl); (focus rfl))); apply Exists.intro; refine ⟨?_, ?_⟩; (focus (intro w' hw'; have hEw := hw'.1; have c0 := hEw.cell 0; have c1 := hEw.cell 1; have l0 := hEw.lt; go_simp; (first | done | (with_reducible rfl)))); intro K hK; go_simp; (first | (with_reducible refine hK _ ?_) | (refine hK _ ?_)); clear hK K)
    iterate 2 ((first | (with_reducible refine Qt.q_val' rfl ?_) | ((with_reducible refine Qg.on_val' ?_); apply Exists.intro; apply Exists.intro; apply Exists.intro; refine ⟨?_, ?_, ?_, ?_⟩; (focus rfl); (focus rfl); (focus rfl))); apply Exists.intro; refine ⟨?_, ?_⟩; (focus (intro w' hw'; have hEw := hw'.1; have c0 := hEw.cell 0; have c1 := hEw.cell 1; have l0 := hEw.lt; go_simp; (first | done | (with_reducible rfl)))); intro K hK; go_simp; (first | (with_reducible refine hK _ ?_) | (refine hK _ ?_)); clear hK K)
    iterate 2 ((first | (with_reducible refine Qt.q_val' rfl ?_) | ((with_reducible refine Qg.on_val' ?_); apply Exists.intro; apply Exists.intro; apply Exists.intro; refine ⟨?_, ?_, ?_, ?_⟩; (focus rfl); (focus rfl); (focus rfl))); apply Exists.intro; refine ⟨?_, ?_⟩; (focus (intro w' hw'; have hEw := hw'.1; have c0 := hEw.cell 0; have c1 := hEw.cell 1; have l0 := hEw.lt; go_simp; (first | done | (with_reducible rfl)))); intro K hK; go_simp; (first | (with_reducible refine hK _ ?_) | (refine hK _ ?_)); clear hK K)
    iterate 2 ((first | ((with_reducible refine Qg.off' ?_); apply Exists.intro; apply Exists.intro; apply Exists.intro; refine ⟨?_, ?_, ?_, ?_⟩; (focus rfl); (focus rfl); (focus rfl)) | ((with_reducible refine Qg.never' ?_); apply Exists.intro; apply Exists.intro; apply Exists.intro; refine ⟨?_, ?_, ?_, ?_⟩; (focus rfl); (focus rfl); (focus rfl))); intro K hK; go_simp; (first | (with_reducible refine hK _ ?_) | (refine hK _ ?_)); clear hK K)
    iterate 2 ((first | (with_reducible refine Qt.q_val' rfl ?_) | ((with_reducible refine Qg.on_val' ?_); apply Exists.intro; apply Exists.intro; apply Exists.intro; refine ⟨?_, ?_, ?_, ?_⟩; (focus rfl); (focus rfl); (focus rfl))); apply Exists.intro; refine ⟨?_, ?_⟩; (focus (intro w' hw'; have hEw := hw'.1; have c0 := hEw.cell 0; have c1 := hEw.cell 1; have l0 := hEw.lt; go_simp; (first | done | (with_reducible rfl)))); intro K hK; go_simp; (first | (with_reducible refine hK _ ?_) | (refine hK _ ?_)); clear hK K)
    iterate 2 ((first | ((with_reducible refine Qg.off' ?_); apply Exists.intro; apply Exists.intro; apply Exists.intro; refine ⟨?_, ?_, ?_, ?_⟩; (focus rfl); (focus rfl); (focus rfl)) | ((with_reducible refine Qg.never' ?_); apply Exists.intro; apply Exists.intro; apply Exists.intro; refine ⟨?_, ?_, ?_, ?_⟩; (focus rfl); (focus rfl); (focus rfl))); intro K hK; go_simp; (first | (with_reducible refine hK _ ?_) | (refine hK _ ?_)); clear hK K)
    iterate 1 ((first | (with_reducible refine Qt.q_val' rfl ?_) | ((with_reducible refine Qg.on_val' ?_); apply Exists.intro; apply Exists.intro; apply Exists.intro; refine ⟨?_, ?_, ?_, ?_⟩; (focus rfl); (focus rfl); (focus rfl))); apply Exists.intro; refine ⟨?_, ?_⟩; (focus (intro w' hw'; have hEw := hw'.1; have c0 := hEw.cell 0; have c1 := hEw.cell 1; have l0 := hEw.lt; go_simp; (first | done | (with_reducible rfl)))); intro K hK; go_simp; (first | (with_reducible refine hK _ ?_) | (refine hK _ ?_)); clear hK K)
    (refine wpQuiet_nil ?_; intro w' hw')
    have BE := Aside0.mk hw'.2
    clear hw'
    go_wp2
    go_ret3
    exact ⟨BE.out, .inl ⟨HBad.out, rfl⟩⟩
   have d2 : decide (h > 1099511627776) = false := decide_eq_false h2
   by_cases h3 : ep < 1
   case pos =>
    have d3 : decide (ep < 1) = true := decide_eq_true h3
    have HBad := Aside0.mk (show openOk V a b h ep = false by unfold openOk; rw [d3]; simp)
    clear h1 h2 h3
    refine Qt.wp_region_all (fun w' => Blk w' w.heap.size TRi #[.int .i64 a, .int .i64 b] ∧ Below w.heap.size w w') (by kernel_rfl) (by kernel_rfl) HE0 ?_
    clear HE0
    iterate 2 ((first | (with_reducible refine Qt.q_val' rfl ?_) | ((with_reducible refine Qg.on_val' ?_); apply Exists.intro; apply Exists.intro; apply Exists.intro; refine ⟨?_, ?_, ?_, ?_⟩; (focus rfl); (focus rfl); (focus rfl))); apply Exists.intro; refine ⟨?_, ?_⟩; (focus (intro w' hw'; have hEw := hw'.1; have c0 := hEw.cell 0; have c1 := hEw.cell 1; have l0 := hEw.lt; go_simp; (first | done | (with_reducible rfl)))); intro K hK; go_simp; (first | (with_reducible refine hK _ ?_) | (refine hK _ ?_)); clear hK K)
    ((first | (with_reducible refine Qt.q_call' rfl ?_) | ((with_reducible refine Qg.on_call' ?_); apply Exists.intro; apply Exists.intro; apply Exists.intro; refine ⟨?_, ?_, ?_, ?_⟩; (focus rfl); (focus rfl); (focus rfl))); apply Exists.intro; apply Exists.intro; refine ⟨?_, ?_⟩; (focus (intro w'; go_simp; (first | rfl | exact ⟨rfl, rfl⟩))); apply Exists.intro; refine ⟨?_, ?_⟩; (focus (intro w' hw'; first | exact under2 hw' (KS.out w' hw'.2))); intro K hK; go_simp; (first | (with_reducible refine hK _ ?_) | (refine hK _ ?_)); clear hK K)
    ((first | (with_reducible refine Qt.q_call' rfl ?_) | ((with_reducible refine Qg.on_call' ?_); apply Exists.intro; apply Exists.intro; apply Exists.intro; refine ⟨?_, ?_, ?_, ?_⟩; (focus rfl); (focus rfl); (focus rfl))); apply Exists.intro; apply Exists.intro; refine ⟨?_, ?_⟩; (focus (intro w'; go_simp; (first | rfl | exact ⟨rfl, rfl⟩))); apply Exists.intro; refine ⟨?_, ?_⟩; (focus (intro w' hw'; first | exact under2 hw' (KR.out w'))); intro K hK; go_simp; (first | (with_reducible refine hK _ ?_) | (refine hK _ ?_)); clear hK K)
    iterate 2 ((first | (with_reducible refine Qt.q_val' rfl ?_) | ((with_reducible refine Qg.on_val' ?_); apply Exists.intro; apply Exists.intro; apply Exists.intro; refine ⟨?_, ?_, ?_, ?_⟩; (focus rfl); (focus rfl); (focus rfl))); apply Exists.intro; refine ⟨?_, ?_⟩; (focus (intro w' hw'; have hEw := hw'.1; have c0 := hEw.cell 0; have c1 := hEw.cell 1; have l0 := hEw.lt; go_simp; (first | done | (with_reducible rfl)))); intro K hK; go_simp; (first | (with_reducible refine hK _ ?_) | (refine hK _ ?_)); clear hK K)
    iterate 2 ((first | (with_reducible refine Qt.q_val' rfl ?_) | ((with_reducible refine Qg.on_val' ?_); apply Exists.intro; apply Exists.intro; apply Exists.intro; refine ⟨?_, ?_, ?_, ?_⟩; (focus rfl); (focus rfl); (focus rfl))); apply Exists.intro; refine ⟨?_, ?_⟩; (focus (intro w' hw'; have hEw := hw'.1; have c0 := hEw.cell 0; have c1 := hEw.cell 1; have l0 := hEw.lt; go_simp; (first | done | (with_reducible rfl)))); intro K hK; go_simp; (first | (with_reducible refine hK _ ?_) | (refine hK _ ?_)); clear hK K)
    iterate 2 ((first | (with_reducible refine Qt.q_val' rfl ?_) | ((with_reducible refine Qg.on_val' ?_); apply Exists.intro; apply Exists.intro; apply Exists.intro; refine ⟨?_, ?_, ?_, ?_⟩; (focus rfl); (focus rfl); (focus rfl))); apply Exists.intro; refine ⟨?_, ?_⟩; (focus (intro w' hw'; have hEw := hw'.1; have c0 := hEw.cell 0; have c1 := hEw.cell 1; have l0 := hEw.lt; go_simp; (first | done | (with_reducible rfl)))); intro K hK; go_simp; (first | (with_reducible refine hK _ ?_) | (refine hK _ ?_)); clear hK K)
    iterate 2 ((first | (with_reducible refine Qt.q_val' rfl ?_) | ((with_reducible refine Qg.on_val' ?_); apply Exists.intro; apply Exists.intro; apply Exists.intro; refine ⟨?_, ?_, ?_, ?_⟩; (focus rfl); (focus rfl); (focus rfl))); apply Exists.intro; refine ⟨?_, ?_⟩; (focus (intro w' hw'; have hEw := hw'.1; have c0 := hEw.cell 0; have c1 := hEw.cell 1; have l0 := hEw.lt; go_simp; (first | done | (with_reducible rfl)))); intro K hK; go_simp; (first | (with_reducible refine hK _ ?_) | (refine hK _ ?_)); clear hK K)
    iterate 2 ((first | (with_reducible refine Qt.q_val' rfl ?_) | ((with_reducible refine Qg.on_val' ?_); apply Exists.intro; apply Exists.intro; apply Exists.intro; refine ⟨?_, ?_, ?_, ?_⟩; (focus rfl); (focus rfl); (focus rfl))); apply Exists.intro; refine ⟨?_, ?_⟩; (focus (intro w' hw'; have hEw := hw'.1; have c0 := hEw.cell 0; have c1 := hEw.cell 1; have l0 := hEw.lt; go_simp; (first | done | (with_reducible rfl)))); intro K hK; go_simp; (first | (with_reducible refine hK _ ?_) | (refine hK _ ?_)); clear hK K)
    iterate 2 ((first | (with_reducible refine Qt.q_val' rfl ?_) | ((with_reducible refine Qg.on_val' ?_); apply Exists.intro; apply Exists.intro; apply Exists.intro; refine ⟨?_, ?_, ?_, ?_⟩; (focus rfl); (focus rfl); (focus rfl))); apply Exists.intro; refine ⟨?_, ?_⟩; (focus (intro w' hw'; have hEw := hw'.1; have c0 := hEw.cell 0; have c1 := hEw.cell 1; have l0 := hEw.lt; go_simp; (first | done | (with_reducible rfl)))); intro K hK; go_simp; (first | (with_reducible refine hK _ ?_) | (refine hK _ ?_)); clear hK K)
    iterate 2 ((first | (with_reducible refine Qt.q_val' rfl ?_) | ((with_reducible refine Qg.on_val' ?_); apply Exists.intro; apply Exists.intro; apply Exists.intro; refine ⟨?_, ?_, ?_, ?_⟩; (focus rfl); (focus rfl); (focus rfl))); apply Exists.intro; refine ⟨?_, ?_⟩; (focus (intro w' hw'; have hEw := hw'.1; have c0 := hEw.cell 0; have c1 := hEw.cell 1; have l0 := hEw.lt; go_simp; (first | done | (with_reducible rfl)))); intro K hK; go_simp; (first | (with_reducible refine hK _ ?_) | (refine hK _ ?_)); clear hK K)
    iterate 2 ((first | ((with_reducible refine Qg.off' ?_); apply Exists.intro; apply Exists.intro; apply Exists.intro; refine ⟨?_, ?_, ?_, ?_⟩; (focus rfl); (focus rfl); (focus rfl)) | ((with_reducible refine Qg.never' ?_); apply Exists.intro; apply Exists.intro; apply Exists.intro; refine ⟨?_, ?_, ?_, ?_⟩; (focus rfl); (focus rfl); (focus rfl))); intro K hK; go_simp; (first | (with_reducible refine hK _ ?_) | (refine hK _ ?_)); clear hK K)
    iterate 1 ((first | (with_reducible refine Qt.q_val' rfl ?_) | ((with_reducible refine Qg.on_val' ?_); apply Exists.intro; apply Exists.intro; apply Exists.intro; refine ⟨?_, ?_, ?_, ?_⟩; (focus rfl); (focus rfl); (focus rfl))); apply Exists.intro; refine ⟨?_, ?_⟩; (focus (intro w' hw'; have hEw := hw'.1; have c0 := hEw.cell 0; have c1 := hEw.cell 1; have l0 := hEw.lt; go_simp; (first | done | (with_reducible rfl)))); intro K hK; go_simp; (first | (with_reducible refine hK _ ?_) | (refine hK _ ?_)); clear hK K)
    (refine wpQuiet_nil ?_; intro w' hw')
    have BE := Aside0.mk hw'.2
    clear hw'
    go_wp2
    go_ret3
    exact ⟨BE.out, .inl ⟨HBad.out, rfl⟩⟩
   have d3 : decide (ep < 1) = false := decide_eq_false h3
   by_cases h4 : ep > 4294967295
   case pos =>
    have d4 : decide (ep > 4294967295) = true := decide_eq_true h4
    have HBad := Aside0.mk (show openOk V a b h ep = false by unfold openOk; rw [d4]; simp)
    clear h1 h2 h3 h4
    refine Qt.wp_region_all (fun w' => Blk w' w.heap.size TRi #[.int .i64 a, .int .i64 b] ∧ Below w.heap.size w w') (by kernel_rfl) (by kernel_rfl) HE0 ?_
    clear HE0
    iterate 2 ((first | (with_reducible refine Qt.q_val' rfl ?_) | ((with_reducible refine Qg.on_val' ?_); apply Exists.intro; apply Exists.intro; apply Exists.intro; refine ⟨?_, ?_, ?_, ?_⟩; (focus rfl); (focus rfl); (focus rfl))); apply Exists.intro; refine ⟨?_, ?_⟩; (focus (intro w' hw'; have hEw := hw'.1; have c0 := hEw.cell 0; have c1 := hEw.cell 1; have l0 := hEw.lt; go_simp; (first | done | (with_reducible rfl)))); intro K hK; go_simp; (first | (with_reducible refine hK _ ?_) | (refine hK _ ?_)); clear hK K)
    ((first | (with_reducible refine Qt.q_call' rfl ?_) | ((with_reducible refine Qg.on_call' ?_); apply Exists.intro; apply Exists.intro; apply Exists.intro; refine ⟨?_, ?_, ?_, ?_⟩; (focus rfl); (focus rfl); (focus rfl))); apply Exists.intro; apply Exists.intro; refine ⟨?_, ?_⟩; (focus (intro w'; go_simp; (first | rfl | exact ⟨rfl, rfl⟩))); apply Exists.intro; refine ⟨?_, ?_⟩; (focus (intro w' hw'; first | exact under2 hw' (KS.out w' hw'.2))); intro K hK; go_simp; (first | (with_reducible refine hK _ ?_) | (refine hK _ ?_)); clear hK K)
    ((first | (with_reducible refine Qt.q_call' rfl ?_) | ((with_reducible refine Qg.on_call' ?_); apply Exists.intro; apply Exists.intro; apply Exists.intro; refine ⟨?_, ?_, ?_, ?_⟩; (focus rfl); (focus rfl); (focus rfl))); apply Exists.intro; apply Exists.intro; refine ⟨?_, ?_⟩; (focus (intro w'; go_simp; (first | rfl | exact ⟨rfl, rfl⟩))); apply Exists.intro; refine ⟨?_, ?_⟩; (focus (intro w' hw'; first | exact under2 hw' (KR.out w'))); intro K hK; go_simp; (first | (with_reducible refine hK _ ?_) | (refine hK _ ?_)); clear hK K)
    iterate 2 ((first | (with_reducible refine Qt.q_val' rfl ?_) | ((with_reducible refine Qg.on_val' ?_); apply Exists.intro; apply Exists.intro; apply Exists.intro; refine ⟨?_, ?_, ?_, ?_⟩; (focus rfl); (focus rfl); (focus rfl))); apply Exists.intro; refine ⟨?_, ?_⟩; (focus (intro w' hw'; have hEw := hw'.1; have c0 := hEw.cell 0; have c1 := hEw.cell 1; have l0 := hEw.lt; go_simp; (first | done | (with_reducible rfl)))); intro K hK; go_simp; (first | (with_reducible refine hK _ ?_) | (refine hK _ ?_)); clear hK K)
    iterate 2 ((first | (with_reducible refine Qt.q_val' rfl ?_) | ((with_reducible refine Qg.on_val' ?_); apply Exists.intro; apply Exists.intro; apply Exists.intro; refine ⟨?_, ?_, ?_, ?_⟩; (focus rfl); (focus rfl); (focus rfl))); apply Exists.intro; refine ⟨?_, ?_⟩; (focus (intro w' hw'; have hEw := hw'.1; have c0 := hEw.cell 0; have c1 := hEw.cell 1; have l0 := hEw.lt; go_simp; (first | done | (with_reducible rfl)))); intro K hK; go_simp; (first | (with_reducible refine hK _ ?_) | (refine hK _ ?_)); clear hK K)
    iterate 2 ((first | (with_reducible refine Qt.q_val' rfl ?_) | ((with_reducible refine Qg.on_val' ?_); apply Exists.intro; apply Exists.intro; apply Exists.intro; refine ⟨?_, ?_, ?_, ?_⟩; (focus rfl); (focus rfl); (focus rfl))); apply Exists.intro; refine ⟨?_, ?_⟩; (focus (intro w' hw'; have hEw := hw'.1; have c0 := hEw.cell 0; have c1 := hEw.cell 1; have l0 := hEw.lt; go_simp; (first | done | (with_reducible rfl)))); intro K hK; go_simp; (first | (with_reducible refine hK _ ?_) | (refine hK _ ?_)); clear hK K)
    iterate 2 ((first | (with_reducible refine Qt.q_val' rfl ?_) | ((with_reducible refine Qg.on_val' ?_); apply Exists.intro; apply Exists.intro; apply Exists.intro; refine ⟨?_, ?_, ?_, ?_⟩; (focus rfl); (focus rfl); (focus rfl))); apply Exists.intro; refine ⟨?_, ?_⟩; (focus (intro w' hw'; have hEw := hw'.1; have c0 := hEw.cell 0; have c1 := hEw.cell 1; have l0 := hEw.lt; go_simp; (first | done | (with_reducible rfl)))); intro K hK; go_simp; (first | (with_reducible refine hK _ ?_) | (refine hK _ ?_)); clear hK K)
    iterate 2 ((first | (with_reducible refine Qt.q_val' rfl ?_) | ((with_reducible refine Qg.on_val' ?_); apply Exists.intro; apply Exists.intro; apply Exists.intro; refine ⟨?_, ?_, ?_, ?_⟩; (focus rfl); (focus rfl); (focus rfl))); apply Exists.intro; refine ⟨?_, ?_⟩; (focus (intro w' hw'; have hEw := hw'.1; have c0 := hEw.cell 0; have c1 := hEw.cell 1; have l0 := hEw.lt; go_simp; (first | done | (with_reducible rfl)))); intro K hK; go_simp; (first | (with_reducible refine hK _ ?_) | (refine hK _ ?_)); clear hK K)
    iterate 2 ((first | (with_reducible refine Qt.q_val' rfl ?_) | ((with_reducible refine Qg.on_val' ?_); apply Exists.intro; apply Exists.intro; apply Exists.intro; refine ⟨?_, ?_, ?_, ?_⟩; (focus rfl); (focus rfl); (focus rfl))); apply Exists.intro; refine ⟨?_, ?_⟩; (focus (intro w' hw'; have hEw := hw'.1; have c0 := hEw.cell 0; have c1 := hEw.cell 1; have l0 := hEw.lt; go_simp; (first | done | (with_reducible rfl)))); intro K hK; go_simp; (first | (with_reducible refine hK _ ?_) | (refine hK _ ?_)); clear hK K)
    iterate 2 ((first | (with_reducible refine Qt.q_val' rfl ?_) | ((with_reducible refine Qg.on_val' ?_); apply Exists.intro; apply Exists.intro; apply Exists.intro; refine ⟨?_, ?_, ?_, ?_⟩; (focus rfl); (focus rfl); (focus rfl))); apply Exists.intro; refine ⟨?_, ?_⟩; (focus (intro w' hw'; have hEw := hw'.1; have c0 := hEw.cell 0; have c1 := hEw.cell 1; have l0 := hEw.lt; go_simp; (first | done | (with_reducible rfl)))); intro K hK; go_simp; (first | (with_reducible refine hK _ ?_) | (refine hK _ ?_)); clear hK K)
    iterate 2 ((first | (with_reducible refine Qt.q_val' rfl ?_) | ((with_reducible refine Qg.on_val' ?_); apply Exists.intro; apply Exists.intro; apply Exists.intro; refine ⟨?_, ?_, ?_, ?_⟩; (focus rfl); (focus rfl); (focus rfl))); apply Exists.intro; refine ⟨?_, ?_⟩; (focus (intro w' hw'; have hEw := hw'.1; have c0 := hEw.cell 0; have c1 := hEw.cell 1; have l0 := hEw.lt; go_simp; (first | done | (with_reducible rfl)))); intro K hK; go_simp; (first | (with_reducible refine hK _ ?_) | (refine hK _ ?_)); clear hK K)
    iterate 1 ((first | (with_reducible refine Qt.q_val' rfl ?_) | ((with_reducible refine Qg.on_val' ?_); apply Exists.intro; apply Exists.intro; apply Exists.intro; refine ⟨?_, ?_, ?_, ?_⟩; (focus rfl); (focus rfl); (focus rfl))); apply Exists.intro; refine ⟨?_, ?_⟩; (focus (intro w' hw'; have hEw := hw'.1; have c0 := hEw.cell 0; have c1 := hEw.cell 1; have l0 := hEw.lt; go_simp; (first | done | (with_reducible rfl)))); intro K hK; go_simp; (first | (with_reducible refine hK _ ?_) | (refine hK _ ?_)); clear hK K)
    (refine wpQuiet_nil ?_; intro w' hw')
    have BE := Aside0.mk hw'.2
    clear hw'
    go_wp2
    go_ret3
    exact ⟨BE.out, .inl ⟨HBad.out, rfl⟩⟩
   have d4 : decide (ep > 4294967295) = false := decide_eq_false h4
   have HOk := Aside0.mk (show openOk V a b h ep = true by unfold openOk; rw [HR.out, d1, d2, d3, d4]; rfl)
   clear h1 h2 h3 h4
   refine Qt.wp_region_all (fun w' => Blk w' w.heap.size TRi #[.int .i64 a, .int .i64 b] ∧ Below w.heap.size w w') (by kernel_rfl) (by kernel_rfl) HE0 ?_
   clear HE0
   iterate 2 ((first | (with_reducible refine Qt.q_val' rfl ?_) | ((with_reducible refine Qg.on_val' ?_); apply Exists.intro; apply Exists.intro; apply Exists.intro; refine ⟨?_, ?_, ?_, ?_⟩; (focus rfl); (focus rfl); (focus rfl))); apply Exists.intro; refine ⟨?_, ?_⟩; (focus (intro w' hw'; have hEw := hw'.1; have c0 := hEw.cell 0; have c1 := hEw.cell 1; have l0 := hEw.lt; go_simp; (first | done | (with_reducible rfl)))); intro K hK; go_simp; (first | (with_reducible refine hK _ ?_) | (refine hK _ ?_)); clear hK K)
   ((first | (with_reducible refine Qt.q_call' rfl ?_) | ((with_reducible refine Qg.on_call' ?_); apply Exists.intro; apply Exists.intro; apply Exists.intro; refine ⟨?_, ?_, ?_, ?_⟩; (focus rfl); (focus rfl); (focus rfl))); apply Exists.intro; apply Exists.intro; refine ⟨?_, ?_⟩; (focus (intro w'; go_simp; (first | rfl | exact ⟨rfl, rfl⟩))); apply Exists.intro; refine ⟨?_, ?_⟩; (focus (intro w' hw'; first | exact under2 hw' (KS.out w' hw'.2))); intro K hK; go_simp; (first | (with_reducible refine hK _ ?_) | (refine hK _ ?_)); clear hK K)
   ((first | (with_reducible refine Qt.q_call' rfl ?_) | ((with_reducible refine Qg.on_call' ?_); apply Exists.intro; apply Exists.intro; apply Exists.intro; refine ⟨?_, ?_, ?_, ?_⟩; (focus rfl); (focus rfl); (focus rfl))); apply Exists.intro; apply Exists.intro; refine ⟨?_, ?_⟩; (focus (intro w'; go_simp; (first | rfl | exact ⟨rfl, rfl⟩))); apply Exists.intro; refine ⟨?_, ?_⟩; (focus (intro w' hw'; first | exact under2 hw' (KR.out w'))); intro K hK; go_simp; (first | (with_reducible refine hK _ ?_) | (refine hK _ ?_)); clear hK K)
   iterate 2 ((first | (with_reducible refine Qt.q_val' rfl ?_) | ((with_reducible refine Qg.on_val' ?_); apply Exists.intro; apply Exists.intro; apply Exists.intro; refine ⟨?_, ?_, ?_, ?_⟩; (focus rfl); (focus rfl); (focus rfl))); apply Exists.intro; refine ⟨?_, ?_⟩; (focus (intro w' hw'; have hEw := hw'.1; have c0 := hEw.cell 0; have c1 := hEw.cell 1; have l0 := hEw.lt; go_simp; (first | done | (with_reducible rfl)))); intro K hK; go_simp; (first | (with_reducible refine hK _ ?_) | (refine hK _ ?_)); clear hK K)
   iterate 2 ((first | (with_reducible refine Qt.q_val' rfl ?_) | ((with_reducible refine Qg.on_val' ?_); apply Exists.intro; apply Exists.intro; apply Exists.intro; refine ⟨?_, ?_, ?_, ?_⟩; (focus rfl); (focus rfl); (focus rfl))); apply Exists.intro; refine ⟨?_, ?_⟩; (focus (intro w' hw'; have hEw := hw'.1; have c0 := hEw.cell 0; have c1 := hEw.cell 1; have l0 := hEw.lt; go_simp; (first | done | (with_reducible rfl)))); intro K hK; go_simp; (first | (with_reducible refine hK _ ?_) | (refine hK _ ?_)); clear hK K)
   iterate 2 ((first | (with_reducible refine Qt.q_val' rfl ?_) | ((with_reducible refine Qg.on_val' ?_); apply Exists.intro; apply Exists.intro; apply Exists.intro; refine ⟨?_, ?_, ?_, ?_⟩; (focus rfl); (focus rfl); (focus rfl))); apply Exists.intro; refine ⟨?_, ?_⟩; (focus (intro w' hw'; have hEw := hw'.1; have c0 := hEw.cell 0; have c1 := hEw.cell 1; have l0 := hEw.lt; go_simp; (first | done | (with_reducible rfl)))); intro K hK; go_simp; (first | (with_reducible refine hK _ ?_) | (refine hK _ ?_)); clear hK K)
   iterate 2 ((first | (with_reducible refine Qt.q_val' rfl ?_) | ((with_reducible refine Qg.on_val' ?_); apply Exists.intro; apply Exists.intro; apply Exists.intro; refine ⟨?_, ?_, ?_, ?_⟩; (focus rfl); (focus rfl); (focus rfl))); apply Exists.intro; refine ⟨?_, ?_⟩; (focus (intro w' hw'; have hEw := hw'.1; have c0 := hEw.cell 0; have c1 := hEw.cell 1; have l0 := hEw.lt; go_simp; (first | done | (with_reducible rfl)))); intro K hK; go_simp; (first | (with_reducible refine hK _ ?_) | (refine hK _ ?_)); clear hK K)
   iterate 2 ((first | (with_reducible refine Qt.q_val' rfl ?_) | ((with_reducible refine Qg.on_val' ?_); apply Exists.intro; apply Exists.intro; apply Exists.intro; refine ⟨?_, ?_, ?_, ?_⟩; (focus rfl); (focus rfl); (focus rfl))); apply Exists.intro; refine ⟨?_, ?_⟩; (focus (intro w' hw'; have hEw := hw'.1; have c0 := hEw.cell 0; have c1 := hEw.cell 1; have l0 := hEw.lt; go_simp; (first | done | (with_reducible rfl)))); intro K hK; go_simp; (first | (with_reducible refine hK _ ?_) | (refine hK _ ?_)); clear hK K)
   iterate 2 ((first | (with_reducible refine Qt.q_val' rfl ?_) | ((with_reducible refine Qg.on_val' ?_); apply Exists.intro; apply Exists.intro; apply Exists.intro; refine ⟨?_, ?_, ?_, ?_⟩; (focus rfl); (focus rfl); (focus rfl))); apply Exists.intro; refine ⟨?_, ?_⟩; (focus (intro w' hw'; have hEw := hw'.1; have c0 := hEw.cell 0; have c1 := hEw.cell 1; have l0 := hEw.lt; go_simp; (first | done | (with_reducible rfl)))); intro K hK; go_simp; (first | (with_reducible refine hK _ ?_) | (refine hK _ ?_)); clear hK K)
   iterate 2 ((first | (with_reducible refine Qt.q_val' rfl ?_) | ((with_reducible refine Qg.on_val' ?_); apply Exists.intro; apply Exists.intro; apply Exists.intro; refine ⟨?_, ?_, ?_, ?_⟩; (focus rfl); (focus rfl); (focus rfl))); apply Exists.intro; refine ⟨?_, ?_⟩; (focus (intro w' hw'; have hEw := hw'.1; have c0 := hEw.cell 0; have c1 := hEw.cell 1; have l0 := hEw.lt; go_simp; (first | done | (with_reducible rfl)))); intro K hK; go_simp; (first | (with_reducible refine hK _ ?_) | (refine hK _ ?_)); clear hK K)
   iterate 2 ((first | (with_reducible refine Qt.q_val' rfl ?_) | ((with_reducible refine Qg.on_val' ?_); apply Exists.intro; apply Exists.intro; apply Exists.intro; refine ⟨?_, ?_, ?_, ?_⟩; (focus rfl); (focus rfl); (focus rfl))); apply Exists.intro; refine ⟨?_, ?_⟩; (focus (intro w' hw'; have hEw := hw'.1; have c0 := hEw.cell 0; have c1 := hEw.cell 1; have l0 := hEw.lt; go_simp; (first | done | (with_reducible rfl)))); intro K hK; go_simp; (first | (with_reducible refine hK _ ?_) | (refine hK _ ?_)); clear hK K)
   iterate 1 ((first | (with_reducible refine Qt.q_val' rfl ?_) | ((with_reducible refine Qg.on_val' ?_); apply Exists.intro; apply Exists.intro; apply Exists.intro; refine ⟨?_, ?_, ?_, ?_⟩; (focus rfl); (focus rfl); (focus rfl))); apply Exists.intro; refine ⟨?_, ?_⟩; (focus (intro w' hw'; have hEw := hw'.1; have c0 := hEw.cell 0; have c1 := hEw.cell 1; have l0 := hEw.lt; go_simp; (first | done | (with_reducible rfl)))); intro K hK; go_simp; (first | (with_reducible refine hK _ ?_) | (refine hK _ ?_)); clear hK K)
   (refine wpQuiet_nil ?_; intro w' hw')
   obtain ⟨w2, rfl⟩ : ∃ w2, w2 = w' := ⟨_, rfl⟩
   have E2 := Aside0.mk hw'.1
   have B2 := Aside0.mk hw'.2
   have c0 := hw'.1.cell 0
   have c1 := hw'.1.cell 1
   have l0 := hw'.1.lt
   have hFit := open_facts HOk.out HA.out.2.1.len
   have hW3 : Below w2.heap.size w2 (w2.alloc (.cells (spoolC t ⟨a, b, ep, h, h, false⟩) TSp)) := (Below.refl _ _).alloc (Nat.le_refl _) _
   have hB3 := B2.out.trans (hW3.mono B2.out.size)
   have KF := Aside0.mk (find_calls (fun j => P j ∧ j < w.heap.size) w2.heap.size t V ⟨a, b, ep, h, h, false⟩ _ ((HA.out.1.mono (fun j hj hp => ⟨hp, hj⟩)).below hB3) (fun hp => absurd hp.2 (by have := B2.out.size; omega)) HA.out.2.1 HA.out.2.2.1 HA.out.2.2.2 hFit.1 hFit.2.1 (Blk.new w2 TSp _) (by show h ≤ _; have := hFit.2.2; omega) b.toNat (by show b - (h - h) ≤ _; have := hFit.1.count; simp only at this; omega))
   have B3 := Aside0.mk hB3
   clear hw' hFit hW3 hB3
   go_wp2_with fail
   refine KF.out.mono ?_
   rintro e w4 ⟨v, rfl, hrec, hblk, ho⟩
   have HREC := Aside0.mk hrec
   have HBLK := Aside0.mk hblk
   have HO := Aside0.mk ho
   clear hrec hblk ho KF
   go_wp2
   go_ret3
   have hsz : w.heap.size ≤ (w2.alloc (.cells (spoolC t ⟨a, b, ep, h, h, false⟩) TSp)).heap.size := B3.out.size
   refine ⟨?_, .inr ⟨HOk.out, w2.heap.size, v, rfl, B2.out.size, HREC.out.lower hsz, HBLK.out⟩⟩
   have hb4 := HO.out.below (B := w.heap.size) hsz (fun k hk => by have := B2.out.size; omega)
   exact B3.out.trans hb4
section
variable (s t : Nat) (S : SpoolV) (w : World) (H : Blk w s TSp (spoolC t S))
include H
set_option maxHeartbeats 4000000 in
theorem cut_calls : Calls Try.prog 22 #[ptrT s] w fun e w' => e = .returned (.tuple #[]) ∧ Blk w' s TSp (spoolC t { S with head := S.tail }) ∧ OnlyP (fun j => j = s) w w' := by
  have HH := Aside0.mk H
  have c5 := H.cell 5
  have c4 := H.cell 4
  have f4 := H.frozen 4
  have lt := H.lt
  clear H
  go_enter Try.func22, Try.ntmps22
  go_wp2
  go_end0
  exact ⟨rfl, by simpa using HH.out.set 4 (.int .i64 S.tail), (OnlyP.refl (fun j => j = s) w).setCell (p := ⟨s, 4, none⟩) (.inl rfl) _⟩
set_option maxHeartbeats 4000000 in
theorem head_calls : Calls Try.prog 23 #[ptrT s] w fun e w' => e = .returned (.int .i64 S.head) ∧ Below w.heap.size w w' := by
  have c4 := H.cell 4
  have lt := H.lt
  clear H
  go_enter Try.func23, Try.ntmps23
  go_wp2
  go_ret
  exact ⟨rfl, Below.refl _ _⟩
set_option maxHeartbeats 4000000 in
theorem tail_calls : Calls Try.prog 19 #[ptrT s] w fun e w' => e = .returned (.int .i64 S.tail) ∧ Below w.heap.size w w' := by
  have c5 := H.cell 5
  have lt := H.lt
  clear H
  go_enter Try.func19, Try.ntmps19
  go_wp2
  go_ret
  exact ⟨rfl, Below.refl _ _⟩
end
end Go.Proofs.Ytddhngalokmdoaa.Spo

/- A record is appended: Append. -/
namespace Go.Proofs.Ytddhngalokmdoaa.Spo
open Go.RowKit Go.Proofs.YtddhngalokmdoaaW.PrintWords Go.Proofs.YtddhngalokmdoaaW.PrintLast Go.Proofs.YtddhngalokmdoaaW.PrintMore Go.Proofs.Ytddhngalokmdoaa.Arr Go.Proofs.Ytddhngalokmdoaa.PSpoolPlays
set_option linter.unusedVariables false
set_option linter.unusedSimpArgs false

def nPieces (b : List Int) : Nat := max 1 ((b.length + 107) / 108)
def chunkB (b : List Int) (i : Nat) : List Int := (b.take (min (108 * (i + 1)) b.length)).drop (108 * i)
def chunkP (S : SpoolV) (b : List Int) (i : Nat) : PieceV := ⟨S.epoch, S.tail + i, i, nPieces b, chunkB b i⟩
def writesV (V : TrayV) (S : SpoolV) (b : List Int) : Nat → TrayV × Int
  | 0 => (V, 0)
  | k + 1 => if (writesV V S b k).2 = 0 then writeV (writesV V S b k).1 (onV S (S.tail + k)) (bytesV (chunkP S b k)) else writesV V S b k
def appendV (V : TrayV) (S : SpoolV) (b : List Int) : TrayV × SpoolV × Int :=
  if 60000 < b.length then (V, S, 1) else if roomV S < nPieces b then (V, S, 3) else if S.dead = true then (V, S, 20) else
    if (writesV V S b (nPieces b)).2 ≠ 0 then ((writesV V S b (nPieces b)).1, { S with dead := true }, (writesV V S b (nPieces b)).2) else
      if (flushV (writesV V S b (nPieces b)).1).2 ≠ 0 then ((flushV (writesV V S b (nPieces b)).1).1, { S with dead := true }, (flushV (writesV V S b (nPieces b)).1).2) else
        ((flushV (writesV V S b (nPieces b)).1).1, { S with tail := S.tail + nPieces b, dead := false }, 0)
theorem chunkB_length (b : List Int) (i : Nat) : (chunkB b i).length ≤ 108 := by
  unfold chunkB
  rw [List.length_drop, List.length_take]
  omega
theorem chunkB_bytes {b : List Int} (h : Bytes b) (i : Nat) : Bytes (chunkB b i) := (h.take _).drop _
theorem writes_stop {V : TrayV} {S : SpoolV} {b : List Int} {i : Nat} (h : (writesV V S b i).2 ≠ 0) : ∀ d, writesV V S b (i + d) = writesV V S b i
  | 0 => rfl
  | d + 1 => by
    have ih := writes_stop h d
    show writesV V S b (i + d + 1) = _
    rw [writesV, ih, if_neg h]
theorem write_len (V : TrayV) (at_ : Int) (b : List Int) : (writeV V at_ b).1.kept.length = V.kept.length ∧ (writeV V at_ b).1.cache.length ≤ V.cache.length + 1 ∧ (V.left ≤ 9223372036854775807 → (writeV V at_ b).1.left ≤ 9223372036854775807) := by
  unfold writeV
  split
  · exact ⟨rfl, Nat.le_succ _, fun h => h⟩
  · obtain ⟨h1, h2⟩ := step_kept V
    have h3 : V.left ≤ 9223372036854775807 → (stepV V).1.left ≤ 9223372036854775807 := by
      unfold stepV
      split
      · exact fun h => h
      · split
        · intro h; show V.left - 1 ≤ _; omega
        · exact fun h => h
    split
    · exact ⟨by show (stepV V).1.kept.length = _; rw [h1], by simp, h3⟩
    · exact ⟨by rw [h1], by rw [h2]; omega, h3⟩
theorem BytesT.step {V : TrayV} (h : BytesT V) : BytesT (stepV V).1 := by
  obtain ⟨h1, h2⟩ := step_kept V
  exact ⟨by rw [h1]; exact h.kept, by rw [h2]; exact h.cache⟩
theorem padB_bytes {b : List Int} (h : Bytes b) : Bytes (padB b) := h.append (Bytes.zeros _)
theorem BytesT.write {V : TrayV} (h : BytesT V) (at_ : Int) {b : List Int} (hb : Bytes b) : BytesT (writeV V at_ b).1 := by
  unfold writeV
  split
  · exact h
  · split
    · refine ⟨h.step.kept, fun x hx => ?_⟩
      rcases List.mem_append.1 hx with hx | hx
      · exact h.cache x hx
      · obtain rfl := List.mem_singleton.1 hx
        exact padB_bytes hb
    · exact h.step
theorem settle_bytes {l : List (Int × List Int)} (hl : ∀ x, x ∈ l → Bytes x.2) : ∀ k : List (List Int), (∀ b, b ∈ k → Bytes b) → ∀ b, b ∈ settleV k l → Bytes b := by
  induction l with
  | nil => intro k h; exact h
  | cons a l ih =>
    intro k h
    refine ih (fun x hx => hl x (by simp [hx])) (k.set a.1.toNat a.2) fun b hb => ?_
    rcases List.mem_or_eq_of_mem_set hb with h1 | h1
    · exact h b h1
    · rw [h1]; exact hl a (by simp)
theorem BytesT.flush {V : TrayV} (h : BytesT V) : BytesT (flushV V).1 := by
  unfold flushV
  split
  · exact ⟨settle_bytes h.cache _ h.kept, fun x hx => by cases hx⟩
  · exact h.step
theorem BytesT.lose {V : TrayV} (h : BytesT V) (c : List Bool) : BytesT (loseV V c) := ⟨settle_bytes (fun x hx => h.cache x (chosen_mem _ _ x hx)) _ h.kept, fun x hx => by cases hx⟩
theorem BytesT.power {V : TrayV} (h : BytesT V) (n : Int) : BytesT (powerV V n).1 := by
  unfold powerV
  split
  · exact h
  · exact ⟨h.kept, h.cache⟩
theorem BytesT.new (n : Nat) : BytesT (newV n) := ⟨fun b hb => by rw [(List.mem_replicate.1 hb).2]; exact Bytes.zeros _, fun x hx => by cases hx⟩
/-- What holds of the tray behind some writes. -/
theorem writes_keep {V : TrayV} {S : SpoolV} {b : List Int} (hS : Sound V) (hB : BytesT V) (hb : Bytes b) (hl : V.left ≤ 9223372036854775807) : ∀ k, Sound (writesV V S b k).1 ∧ BytesT (writesV V S b k).1 ∧ (writesV V S b k).1.kept.length = V.kept.length ∧ (writesV V S b k).1.cache.length ≤ V.cache.length + k ∧ (writesV V S b k).1.left ≤ 9223372036854775807
  | 0 => ⟨hS, hB, rfl, Nat.le_refl _, hl⟩
  | k + 1 => by
    obtain ⟨h1, h2, h3, h4, h5⟩ := writes_keep hS hB hb hl k
    rw [writesV]
    split
    · obtain ⟨k1, k2, k3⟩ := write_len (writesV V S b k).1 (onV S (S.tail + k)) (bytesV (chunkP S b k))
      exact ⟨h1.write _ _, h2.write _ (bytesV_bytes (chunkB_bytes hb k)), by rw [k1]; exact h3, by omega, k3 h5⟩
    · exact ⟨h1, h2, h3, by omega, h5⟩
theorem pieces_calls (b : List Int) (hl : b.length ≤ 1000000000) (A : Option Addr) (n c : Nat) (hn : b.length = n) (hc : n ≤ c) (w : World) (h : ReadsInt w .u8 A n b) :
    Calls Try.prog 40 #[.slice A n c] w fun e w' => e = .returned (.int .i64 (nPieces b : Int)) ∧ Below w.heap.size w w' := by
  subst hn
  refine (spool_pieces.calls A c b (nPieces b : Int) w (Kd.C_of_reads (d := (0 : Int)) h) hc ?_)
  rw [pieces_f b hl]
  congr 1
  unfold nPieces
  omega
theorem reads_only {w w' : World} {Q : Nat → Prop} {A : Option Addr} {n : Nat} {b : List Int} (h : ReadsInt w .u8 A n b) (ho : OnlyP Q w w') (hn : ∀ ad, A = some ad → 0 < n → ¬ Q ad.block) : ReadsInt w' .u8 A n b := ⟨h.1, h.2.1, fun h0 => by
  obtain ⟨ad, e, hc⟩ := h.2.2 h0
  refine ⟨ad, e, fun j hj => ?_⟩
  have h1 := hc j hj
  have hlt : (ad.add j).block < w.heap.size := World.block_lt_of_cell? w _ h1
  rw [← h1]
  unfold World.cell?
  rw [ho.block _ hlt (by rw [add_block]; exact hn ad e h0)]⟩
theorem row_form {w : World} {base : Nat} {ok : Nat → Prop} {v : Value} {xs : List Int} (h : Kd.R (Kd.int .u8) 5 w base ok v xs) (hn : 0 < xs.length) : ∃ g c, v = .slice (some ⟨g, 0, none⟩) xs.length c ∧ base ≤ g ∧ g < w.heap.size ∧ xs.length ≤ c ∧ ReadsInt w .u8 (some ⟨g, 0, none⟩) xs.length xs := by
  obtain ⟨A, c, h1, h2, h3⟩ := Kd.R_reads h
  obtain ⟨inner, ho⟩ := Kd.R_own h
  rcases ho.2 with ⟨e, h4⟩ | ⟨g, cap, cur, e, hg, hh, -⟩
  · omega
  · rw [h1] at e
    injection e with e1 e2 e3
    subst e1
    exact ⟨g, c, h1, hg, (Blk.mk hh).lt, h2, Kd.reads_of_C (d := (0 : Int)) h3⟩
/-- What the calls of the head tell. -/
def SW (a : Int) (bs : List Int) (B : Nat) (f : FuncId) (args : Array Value) (u : Value) (w : World) : Prop :=
  (f = 41 → u = .int .i64 a) ∧ (f = 42 → ∃ g c, u = .slice (some ⟨g, 0, none⟩) 128 c ∧ B ≤ g ∧ g < w.heap.size ∧ 128 ≤ c ∧ ReadsInt w .u8 (some ⟨g, 0, none⟩) 128 bs)
theorem sw_stb {a : Int} {bs : List Int} {B : Nat} {f : FuncId} {args : Array Value} {u : Value} : Qw.Stb (SW a bs B f args u) := fun w w' h hb => ⟨h.1, fun e => by
  obtain ⟨g, c, h1, h2, h3, h4, h5⟩ := h.2 e
  exact ⟨g, c, h1, h2, Nat.lt_of_lt_of_le h3 hb.size, h4, h5.below hb⟩⟩
/-- What Append returns. -/
def AppPost (P : Nat → Prop) (s t : Nat) (V : TrayV) (S : SpoolV) (b : List Int) (w : World) (e : Ending) (w' : World) : Prop :=
  e = .returned (.int .i64 (appendV V S b).2.2) ∧ TAt (fun j => P j ∨ w.heap.size ≤ j) w' t (appendV V S b).1 ∧ Blk w' s TSp (spoolC t (appendV V S b).2.1) ∧ OnlyP (fun j => P j ∨ j = s) w w'
set_option maxHeartbeats 16000000 in
set_option maxRecDepth 100000 in
theorem append_calls (P : Nat → Prop) (s t : Nat) (V : TrayV) (S : SpoolV) (b : List Int) (A : Option Addr) (n c : Nat) (w : World) (H : TAt P w t V) (hPs : ¬ P s) (hS : Sound V) (hB : BytesT V) (hcl : V.cache.length ≤ 900000000) (hl : V.left ≤ 9223372036854775807) (hk : 0 < V.kept.length)
    (hF : Fit S) (HS : Blk w s TSp (spoolC t S)) (hb : Bytes b) (hc : n ≤ c) (hr : ReadsInt w .u8 A n b) (hA : ∀ ad, A = some ad → 0 < n → ¬ (P ad.block ∨ ad.block = s)) (hn9 : n ≤ 1000000000) (ht9 : S.tail ≤ 140737480000000) :
    Calls Try.prog 20 #[ptrT s, .slice A n c] w (AppPost P s t V S b w) := by
  have hnb := hr.1
  have KP := Aside0.mk (pieces_calls b (by omega) A n c hnb hc w hr)
  have KROOM := Aside0.mk (fun w' (h : Blk w' s TSp (spoolC t S)) => room_calls s t S w' hF h)
  have ho : OnlyP (fun j => P j ∨ j = s) w w := OnlyP.refl _ _
  obtain ⟨N, hN⟩ : ∃ N, nPieces b = N := ⟨_, rfl⟩
  rw [hN] at KP
  have HN := Aside0.mk hN
  unfold AppPost
  obtain ⟨rm, hrm⟩ : ∃ rm, roomV S = rm := ⟨_, rfl⟩
  rw [hrm] at KROOM
  have HRM := Aside0.mk hrm
  have HH := Aside0.mk (⟨H, hS, hB, hcl, hl, hk⟩ : _ ∧ _ ∧ _ ∧ _ ∧ _ ∧ _)
  have HX := Aside0.mk (⟨hPs, hF, hb, hr, hA⟩ : _ ∧ _ ∧ _ ∧ _ ∧ _)
  have HS0 := Aside0.mk HS
  have HC := Aside0.mk hc
  clear H hPs hS hB hcl hl hk hF HS hb hr hA ho hN hrm hc
  go_enter Try.func20, Try.ntmps20
  go_wp2_with fail
  refine KP.out.mono ?_
  rintro e w1 ⟨rfl, b1⟩
  have B1 := Aside0.mk b1
  have S1 := Aside0.mk (HS0.out.below b1)
  clear b1 KP
  by_cases hlen : 60000 < b.length
  · have t1 : decide ((n : Int) > 60000) = true := decide_eq_true (by omega)
    have HAp := Aside0.mk (show appendV V S b = (V, S, 1) by unfold appendV; rw [if_pos hlen])
    go_wp2
    go_ret
    rw [HAp.out]
    exact ⟨rfl, (HH.out.1.below B1.out).mono (fun j _ hj => .inl hj), S1.out, OnlyP.of_below B1.out⟩
  have t1 : decide ((n : Int) > 60000) = false := decide_eq_false (by omega)
  have KR := Aside0.mk (KROOM.out w1 S1.out)
  go_wp2_with fail
  refine KR.out.mono ?_
  rintro e w2 ⟨rfl, b2⟩
  have B2 := Aside0.mk (B1.out.trans (b2.mono B1.out.size))
  have hs2 := S1.out.below b2
  have S2 := Aside0.mk hs2
  clear b2 KR KROOM S1 B1
  by_cases hroom : rm < (N : Int)
  · have t2 : decide ((N : Int) > rm) = true := decide_eq_true (by omega)
    have t3 : decide (rm < (N : Int)) = true := decide_eq_true hroom
    have HAp := Aside0.mk (show appendV V S b = (V, S, 3) by unfold appendV; rw [if_neg hlen, HRM.out, HN.out, if_pos hroom])
    clear hs2 hroom
    go_wp2
    go_ret
    rw [HAp.out]
    exact ⟨rfl, (HH.out.1.below B2.out).mono (fun j _ hj => .inl hj), S2.out, OnlyP.of_below B2.out⟩
  have t2 : decide ((N : Int) > rm) = false := decide_eq_false (by omega)
  have t3 : decide (rm < (N : Int)) = false := decide_eq_false hroom
  have f6 := hs2.frozen 6
  have l6 := hs2.lt
  cases hd : S.dead with
  | true =>
    have HAp := Aside0.mk (show appendV V S b = (V, S, 20) by unfold appendV; rw [if_neg hlen, HRM.out, HN.out, if_neg hroom, if_pos hd])
    have c6 : w2.cell? ⟨s, 6, none⟩ = some (.bool true) := by rw [hs2.cell 6, ← hd]; rfl
    clear hs2 hroom hd
    go_wp2
    go_ret
    rw [HAp.out]
    exact ⟨rfl, (HH.out.1.below B2.out).mono (fun j _ hj => .inl hj), S2.out, OnlyP.of_below B2.out⟩
  | false =>
  have c6 : w2.cell? ⟨s, 6, none⟩ = some (.bool false) := by rw [hs2.cell 6, ← hd]; rfl
  have HAp := Aside0.mk (show appendV V S b = if (writesV V S b N).2 ≠ 0 then ((writesV V S b N).1, { S with dead := true }, (writesV V S b N).2) else
      if (flushV (writesV V S b N).1).2 ≠ 0 then ((flushV (writesV V S b N).1).1, { S with dead := true }, (flushV (writesV V S b N).1).2) else
        ((flushV (writesV V S b N).1).1, { S with tail := S.tail + N, dead := false }, 0) by
    unfold appendV
    rw [if_neg hlen, HRM.out, HN.out, if_neg hroom, if_neg (by rw [hd]; decide)])
  have HD := Aside0.mk hd
  have hNB : N ≤ 600 ∧ n ≤ 60000 ∧ (N : Int) ≤ S.count ∧ S.tail + N ≤ 140737480005000 := by
    have h1 := HN.out
    unfold nPieces at h1
    have h2 := HRM.out
    unfold roomV at h2
    have h3 := HX.out.2.1
    have h4 := h3.tail
    have h5 := h3.head
    have h6 := h3.count
    omega
  have HNB := Aside0.mk hNB
  clear hs2 hroom hd hNB hlen t1
  go_wp2_with fail
  have hL6 : Blk (w2.setCell ⟨s, 6, none⟩ (.bool true)) s TSp (spoolC t { S with dead := true }) := by simpa using S2.out.set 6 (.bool true)
  have hO6 : OnlyP (fun j => P j ∨ j = s ∨ w.heap.size ≤ j) w (w2.setCell ⟨s, 6, none⟩ (.bool true)) := (OnlyP.of_below B2.out).setCell (p := ⟨s, 6, none⟩) (.inl (.inr (.inl rfl))) _
  have hT6 : TAt (fun j => P j ∨ w.heap.size ≤ j) (w2.setCell ⟨s, 6, none⟩ (.bool true)) t V := by
    have h1 := HH.out.1.below B2.out
    exact (h1.onlyP (Q := fun j => j = s) ((OnlyP.refl (fun j => j = s) w2).setCell (p := ⟨s, 6, none⟩) (.inl rfl) _) (fun j _ hp e => HX.out.1 (by rw [← e]; exact hp))).mono (fun j _ hp => .inl hp)
  have L6 := Aside0.mk hL6
  have O6 := Aside0.mk hO6
  have T6 := Aside0.mk hT6
  have hw1 : IntKind.i64.wrap (0 + 1) = 1 := rfl
  clear hL6 hO6 hT6 c6 f6 l6 t2 t3 hw1
  go_loopw [30] (fun v30 wr => ∃ i : Nat, v30 = .int .i64 (i : Int) ∧ Aside0 (i ≤ N) ∧ Aside0 ((writesV V S b i).2 = 0) ∧ Aside0 (TAt (fun j => P j ∨ w.heap.size ≤ j) wr t (writesV V S b i).1) ∧ Aside0 (Blk wr s TSp (spoolC t { S with dead := true })) ∧ Aside0 (OnlyP (fun j => P j ∨ j = s ∨ w.heap.size ≤ j) w wr)) (fun v30 _ => N - (intOf v30).toNat)
  case atStart => exact ⟨0, rfl, ⟨Nat.zero_le _⟩, ⟨rfl⟩, T6, L6, O6⟩
  case round =>
    obtain ⟨i, rfl, hin, hz, hT, hL, hO⟩ := hrel
    by_cases hi : i < N
    · have t1 : decide ((i : Int) < (N : Int)) = true := decide_eq_true (by omega)
      have t1n : decide (i < N) = true := decide_eq_true hi
      have hw : IntKind.i64.wrap ((i : Int) + 1) = ((i + 1 : Nat) : Int) := by rw [show ((i : Int) + 1) = ((i + 1 : Nat) : Int) by omega]; exact IntWalk.i64_in _ (by have := HNB.out; omega)
      have hls := hL.out.lt
      have HI := Aside0.mk hi
      obtain ⟨lo, hlo⟩ : ∃ lo : Nat, 108 * i = lo := ⟨_, rfl⟩
      obtain ⟨up, hup⟩ : ∃ up : Nat, 108 * (i + 1) = up := ⟨_, rfl⟩
      obtain ⟨hi2, hhi⟩ : ∃ hi2 : Nat, min up n = hi2 := ⟨_, rfl⟩
      have hlohi : lo ≤ hi2 ∧ hi2 ≤ n := by
        have h1 := HN.out
        unfold nPieces at h1
        omega
      have m1 : IntKind.i64.wrap ((i : Int) * 108) = (lo : Int) := by rw [show ((i : Int) * 108) = (lo : Int) by omega]; exact IntWalk.i64_in _ (by have := HNB.out; omega)
      have m2 : IntKind.i64.wrap (((i + 1 : Nat) : Int) * 108) = (up : Int) := by rw [show (((i + 1 : Nat) : Int) * 108) = (up : Int) by omega]; exact IntWalk.i64_in _ (by have := HNB.out; omega)
      obtain ⟨i1, hi1⟩ : ∃ i1 : Nat, i + 1 = i1 := ⟨_, rfl⟩
      rw [hi1] at hw m2
      have m3 : IntKind.i64.wrap (S.tail + (i : Int)) = S.tail + (i : Int) := IntWalk.i64_in _ (by have := HNB.out; have := HX.out.2.1.head; omega)
      have hmin : ∀ ats ty, Builtin.min_ ats ty #[.int .i64 (up : Int), .int .i64 (n : Int)] = pure (.int .i64 (hi2 : Int)) := by
        intro ats ty
        rw [min_two, min2_int, pure_bind]
        congr 2
        split <;> omega
      obtain ⟨iu, hiu, hiu2⟩ := Option.map_eq_some_iff.1 (show (Try.prog.info? TU8).map (·.size) = some 1 by kernel_rfl)
      obtain ⟨A2, hsl, hrd, hcap⟩ := print_mid_int (P := Try.prog) (k := .u8) TSl TU8 Try.underlying22 hiu hiu2 A c b (lo : Int) (hi2 : Int) (by omega) (by omega) (by omega) (by have := HC.out; omega)
      have hch : (b.take (hi2 : Int).toNat).drop (lo : Int).toNat = chunkB b i := by
        unfold chunkB
        rw [hlo, hup, hnb, hhi, Int.toNat_natCast, Int.toNat_natCast]
      rw [hch] at hsl hrd hcap
      rw [hnb] at hsl
      rw [Int.toNat_natCast] at hsl hcap
      obtain ⟨c2, hc2⟩ : ∃ c2, c - lo = c2 := ⟨_, rfl⟩
      rw [hc2] at hsl hcap
      obtain ⟨cl, hcl2⟩ : ∃ cl, (chunkB b i).length = cl := ⟨_, rfl⟩
      rw [hcl2] at hsl hcap
      have HCH := Aside0.mk (⟨hrd, hcap, hcl2, hi1⟩ : _ ∧ _ ∧ _ ∧ _)
      clear hiu hiu2 hch hcap hrd hlohi hhi hup hlo hi hc2 hcl2 hi1
      go_wp2_with fail
      have HST : Qw.Stb (fun w' => Blk w' s TSp (spoolC t { S with dead := true }) ∧ Below wr.heap.size wr w') := fun w1 w2 h hb => ⟨h.1.below hb, h.2.trans (hb.mono h.2.size)⟩
      have HE0 : Blk wr.drew s TSp (spoolC t { S with dead := true }) ∧ Below wr.heap.size wr wr.drew := ⟨hL.out.drew, (Below.refl _ _).drew⟩
      refine Qw.wp_region_tail (fun _ _ _ _ => True) _ HST 24 (by kernel_rfl) (by kernel_rfl) HE0 ?_
      clear HST HE0
      simp only [List.take_succ_cons, List.take_zero, List.drop_succ_cons, List.drop_zero]
      iterate 23 ((first | (with_reducible refine Qw.w_val ⟨fun _ _ _ hF h w' h1 h2 => h w' h1 fun k => hF k _ (h2 k)⟩ ?_ (Qw.wanted_none rfl) ?_) | ((with_reducible refine Qw.w_val ⟨fun _ _ _ hF h w' h1 h2 => h w' h1 fun k => hF k _ (h2 k)⟩ ?_ ?_ ?_); (focus (exact fun _ => trivial)); (focus (exact Qg.wanted_on rfl rfl rfl)))); (try (focus (exact fun _ => trivial))); apply Exists.intro; refine ⟨?_, ?_⟩; (focus (intro w' hw' hp'; have d3 := hw'.1.cell 3; have d5 := hw'.1.cell 5; have dl := hw'.1.lt; go_simp; (first | done | (with_reducible rfl)))); intro K hK; go_simp; (first | (with_reducible refine hK _ ?_) | (refine hK _ ?_)); clear hK K)
      obtain ⟨R, hR⟩ : ∃ R : Value → World → Prop, R = fun u w' => ∃ m, u = .pointer (some ⟨m, 0, none⟩) ∧ wr.heap.size ≤ m ∧ Blk w' m TPi zP := ⟨_, rfl⟩
      have HSN : ∀ u, Qw.Stb (R u) := by
        subst hR
        intro u w1 w2 h hb
        obtain ⟨m, e, h1, h2⟩ := h
        exact ⟨m, e, h1, h2.below hb⟩
      have hR' : ∀ u w', R u w' ↔ ∃ m, u = .pointer (some ⟨m, 0, none⟩) ∧ wr.heap.size ≤ m ∧ Blk w' m TPi zP := fun u w' => by rw [hR]
      clear hR
      with_reducible refine Qw.w_new R HSN (Qw.wanted_none rfl) ⟨?_, ?_⟩
      · intro w' hw'
        refine ⟨.pointer (some ⟨w'.heap.size, 0, none⟩), w'.alloc (.cells zP TPi), ?_, (Below.refl _ _).alloc (Nat.le_refl _) _, (hR' _ _).2 ⟨w'.heap.size, rfl, hw'.2.size, Blk.new _ _ _⟩⟩
        go_simp
      rintro u7 ⟨wv9, -, -, hu9⟩
      obtain ⟨m, rfl, hm, -⟩ := (hR' _ _).1 hu9
      clear hu9 wv9
      intro K hK
      go_simp
      refine hK _ ?_
      clear hK K
      ((with_reducible refine Qw.w_nil ?_); intro w' hw' hf')
      obtain ⟨m', e9, -, hM⟩ : ∃ m', Value.pointer (some ⟨m, 0, none⟩) = .pointer (some ⟨m', 0, none⟩) ∧ wr.heap.size ≤ m' ∧ Blk w' m' TPi zP := (hR' _ _).1 (hf' 23)
      obtain rfl : m = m' := by injection e9 with e9; injection e9 with e9; injection e9
      clear hf' hR' HSN R e9
      have hsm : s ≠ m := by omega
      have hL2 := hw'.1
      have hml := hM.lt
      have M0 := hM.cell 0
      have N0 := hM.frozen 0
      have M1 := hM.cell 1
      have N1 := hM.frozen 1
      have M2 := hM.cell 2
      have N2 := hM.frozen 2
      have M3 := hM.cell 3
      have N3 := hM.frozen 3
      have M4 := hM.cell 4
      have N4 := hM.frozen 4
      have B4 := Aside0.mk hw'.2
      have M4' := Aside0.mk hM
      have LL := Aside0.mk hL2
      obtain ⟨w4, rfl⟩ : ∃ w4, w4 = w' := ⟨_, rfl⟩
      clear hw' hM hL2 m1 m2 m3 hmin hsl t1 t1n hls
      go_upto_region 13 with fail
      obtain ⟨W5, hW5⟩ : ∃ W5, (((((w4.setCell ⟨m, 0, none⟩ (.int .i64 S.epoch)).setCell ⟨m, 1, none⟩ (.int .i64 (S.tail + (i : Int)))).setCell ⟨m, 2, none⟩ (.int .i64 (i : Int))).setCell ⟨m, 3, none⟩ (.int .i64 (N : Int))).setCell ⟨m, 4, none⟩ (.slice A2 cl c2)) = W5 := ⟨_, rfl⟩
      have hM5 : Blk W5 m TPi #[.int .i64 S.epoch, .int .i64 (S.tail + (i : Int)), .int .i64 (i : Int), .int .i64 (N : Int), .slice A2 cl c2] := by rw [← hW5]; exact blk_set5 M4'.out _ _ _ _ _
      have hL5 : Blk W5 s TSp (spoolC t { S with dead := true }) := by rw [← hW5]; exact blk_far5 LL.out hsm _ _ _ _ _
      have hb5 : Below wr.heap.size wr W5 := by rw [← hW5]; exact below_set5 B4.out hm _ _ _ _ _
      rw [hW5]
      have hrb : ReadsInt W5 .u8 A n b := (reads_only HX.out.2.2.2.1 hO.out (fun ad e h0 h => by
        rcases h with h | h | h
        · exact HX.out.2.2.2.2 ad e h0 (.inl h)
        · exact HX.out.2.2.2.2 ad e h0 (.inr h)
        · obtain ⟨ad', e', hc'⟩ := HX.out.2.2.2.1.2.2 h0
          rw [e] at e'
          cases e'
          have := World.block_lt_of_cell? w _ (hc' 0 h0)
          rw [add_block] at this
          omega)).below hb5
      have hrc : ReadsInt W5 .u8 A2 cl (chunkB b i) := by
        have := HCH.out.1 W5 (by rw [hnb]; exact hrb)
        rwa [HCH.out.2.2.1] at this
      have KB := Aside0.mk (fun w' (hb : Below W5.heap.size W5 w') => by
        have := bytes_calls (chunkP S b i) (chunkB_bytes HX.out.2.2.1 i) (chunkB_length b i) A2 c2 cl HCH.out.2.2.1 HCH.out.2.1 w' (hrc.below hb)
        rw [show (chunkP S b i).of = (N : Int) by show ((nPieces b : Nat) : Int) = _; rw [HN.out]] at this
        exact (this : Calls Try.prog 42 #[.agg #[.int .i64 S.epoch, .int .i64 (S.tail + (i : Int)), .int .i64 (i : Int), .int .i64 (N : Int), .slice A2 cl c2]] w' fun e w'' => ∃ v, e = .returned v ∧ Kd.R (Kd.int .u8) 5 w'' w'.heap.size (fun _ => True) v (bytesV (chunkP S b i)) ∧ Below w'.heap.size w' w''))
      have hcnt := HX.out.2.1.count
      have KO := Aside0.mk (fun w' => on_calls S.first S.count (S.tail + (i : Int)) w' (by have := HX.out.2.1.head; omega) (by have := HNB.out; have := HI.out; omega) HX.out.2.1.first hcnt)
      have hbl : (bytesV (chunkP S b i)).length = 128 := bytesV_length (chunkB_length b i)
      obtain ⟨bs, hbs⟩ : ∃ bs, bytesV (chunkP S b i) = bs := ⟨_, rfl⟩
      obtain ⟨a, ha⟩ : ∃ a, onV S (S.tail + (i : Int)) = a := ⟨_, rfl⟩
      rw [hbs] at KB hbl
      rw [show S.first + (S.tail + (i : Int)) % S.count = a from ha] at KO
      have HBS := Aside0.mk (⟨hbs, ha, hbl⟩ : _ ∧ _ ∧ _)
      have T5 := Aside0.mk (hT.out.below hb5)
      have B5 := Aside0.mk hb5
      have HST : Qw.Stb (fun w' => Blk w' s TSp (spoolC t { S with dead := true }) ∧ Blk w' m TPi #[.int .i64 S.epoch, .int .i64 (S.tail + (i : Int)), .int .i64 (i : Int), .int .i64 (N : Int), .slice A2 cl c2] ∧ Below W5.heap.size W5 w') := fun w1 w2 h hb => ⟨h.1.below hb, h.2.1.below hb, h.2.2.trans (hb.mono h.2.2.size)⟩
      have HE0 : Blk W5.drew s TSp (spoolC t { S with dead := true }) ∧ Blk W5.drew m TPi #[.int .i64 S.epoch, .int .i64 (S.tail + (i : Int)), .int .i64 (i : Int), .int .i64 (N : Int), .slice A2 cl c2] ∧ Below W5.heap.size W5 W5.drew := ⟨hL5.drew, hM5.drew, (Below.refl _ _).drew⟩
      clear hW5 hM5 hL5 hb5 hrb hrc hcnt hbs ha hbl hsm hm hml LL M4' B4 M0 M1 M2 M3 M4 N0 N1 N2 N3 N4
      refine Qw.wp_region_tail (SW a bs W5.heap.size) _ HST 13 (by kernel_rfl) (by kernel_rfl) HE0 ?_
      clear HST HE0
      simp only [List.take_succ_cons, List.take_zero, List.drop_succ_cons, List.drop_zero]
      iterate 10 ((first | (with_reducible refine Qw.w_val ⟨fun _ _ _ hF h w' h1 h2 => h w' h1 fun k => hF k _ (h2 k)⟩ ?_ (Qw.wanted_none rfl) ?_) | ((with_reducible refine Qw.w_val ⟨fun _ _ _ hF h w' h1 h2 => h w' h1 fun k => hF k _ (h2 k)⟩ ?_ ?_ ?_); (focus (exact fun _ => trivial)); (focus (exact Qg.wanted_on rfl rfl rfl)))); (try (focus (exact fun _ => trivial))); apply Exists.intro; refine ⟨?_, ?_⟩; (focus (intro w' hw' hp'; have d0 := hw'.1.cell 0; have d1 := hw'.1.cell 1; have d2 := hw'.1.cell 2; have dl := hw'.1.lt; have g1 := hw'.2.1.cell 1; have gl := hw'.2.1.lt; go_simp; (first | done | (with_reducible rfl)))); intro K hK; go_simp; (first | (with_reducible refine hK _ ?_) | (refine hK _ ?_)); clear hK K)
      ((with_reducible refine Qw.w_call ?_ ?_); (first | (focus (exact Qw.wanted_none rfl)) | (focus (exact Qg.wanted_on rfl rfl rfl))); apply Exists.intro; apply Exists.intro; refine ⟨?_, ?_, ?_, ?_⟩; (focus (intro w'; go_simp; (first | rfl | exact ⟨rfl, rfl⟩))); (focus (exact fun u => sw_stb)); (focus (intro w' hw' hp'; refine (KO.out w').mono ?_; rintro e w8 ⟨rfl, b8⟩; exact ⟨_, rfl, b8, ⟨fun _ => rfl, fun h => absurd h (by decide)⟩⟩)); rintro u8 ⟨wv8, -, -, hu8⟩; intro K hK; go_simp; (first | (with_reducible refine hK _ ?_) | (refine hK _ ?_)); clear hK K)
      obtain rfl := hu8.1 rfl
      clear hu8 wv8
      ((first | (with_reducible refine Qw.w_val ⟨fun _ _ _ hF h w' h1 h2 => h w' h1 fun k => hF k _ (h2 k)⟩ ?_ (Qw.wanted_none rfl) ?_) | ((with_reducible refine Qw.w_val ⟨fun _ _ _ hF h w' h1 h2 => h w' h1 fun k => hF k _ (h2 k)⟩ ?_ ?_ ?_); (focus (exact fun _ => trivial)); (focus (exact Qg.wanted_on rfl rfl rfl)))); (try (focus (exact fun _ => trivial))); apply Exists.intro; refine ⟨?_, ?_⟩; (focus (intro w' hw' hp'; have g0 := hw'.2.1.cell 0; have g1 := hw'.2.1.cell 1; have g2 := hw'.2.1.cell 2; have g3 := hw'.2.1.cell 3; have g4 := hw'.2.1.cell 4; have gl := hw'.2.1.lt; go_simp; (first | done | (with_reducible rfl)))); intro K hK; go_simp; (first | (with_reducible refine hK _ ?_) | (refine hK _ ?_)); clear hK K)
      ((with_reducible refine Qw.w_call ?_ ?_); (first | (focus (exact Qw.wanted_none rfl)) | (focus (exact Qg.wanted_on rfl rfl rfl))); apply Exists.intro; apply Exists.intro; refine ⟨?_, ?_, ?_, ?_⟩; (focus (intro w'; go_simp; (first | rfl | exact ⟨rfl, rfl⟩))); (focus (exact fun u => sw_stb)); (focus (intro w' hw' hp'; refine (KB.out w' hw'.2.2).mono ?_; rintro e w8 ⟨v8, rfl, hR8, b8⟩; obtain ⟨g8, c8, rfl, k1, k2, k3, k4⟩ := row_form hR8 (by rw [HBS.out.2.2]; decide); rw [HBS.out.2.2] at k3 k4; exact ⟨_, rfl, b8, ⟨fun h => absurd h (by decide), fun _ => ⟨g8, c8, by rw [HBS.out.2.2], Nat.le_trans hw'.2.2.size k1, k2, k3, k4⟩⟩⟩)); rintro u9 ⟨wv9, -, -, hu9⟩; intro K hK; go_simp; (first | (with_reducible refine hK _ ?_) | (refine hK _ ?_)); clear hK K)
      obtain ⟨g8, c8, rfl, hg8, -, hc8, -⟩ := hu9.2 rfl
      clear hu9 wv9
      ((with_reducible refine Qw.w_nil ?_); intro w' hw' hf')
      have hf9 : SW a bs W5.heap.size 42 #[.agg #[.int .i64 S.epoch, .int .i64 (S.tail + (i : Int)), .int .i64 (i : Int), .int .i64 (N : Int), .slice A2 cl c2]] (.slice (some ⟨g8, 0, none⟩) 128 c8) w' := hf' 12
      obtain ⟨g9, c9, e9, -, hlt9, -, hr9⟩ := hf9.2 rfl
      obtain ⟨rfl, rfl⟩ : g8 = g9 ∧ c8 = c9 := by simpa using e9
      obtain ⟨w6, rfl⟩ : ∃ w6, w6 = w' := ⟨_, rfl⟩
      have hT6 : TAt (fun j => ((P j ∨ w.heap.size ≤ j) ∧ j < W5.heap.size) ∨ w6.heap.size ≤ j) w6 t (writesV V S b i).1 := ((T5.out.mono (fun j hj hp => ⟨hp, hj⟩)).below hw'.2.2).mono (fun j _ hp => .inl hp)
      obtain ⟨ks, kb, kl, kc, kx⟩ := writes_keep (S := S) (b := b) HH.out.2.1 HH.out.2.2.1 HX.out.2.2.1 HH.out.2.2.2.2.1 i
      have KW := Aside0.mk (write_calls _ t (writesV V S b i).1 a bs (some ⟨g8, 0, none⟩) 128 c8 w6 hT6 kx hr9 (by have := HH.out.2.2.2.1; have := HNB.out; have := HI.out; omega) (fun ad e _ h => by
        cases e
        rcases h with h | h
        · exact absurd h.2 (by show ¬ g8 < _; omega)
        · exact absurd h (by show ¬ w6.heap.size ≤ g8; omega)) (fun j hj => .inr hj))
      have hnx : writesV V S b (i + 1) = writeV (writesV V S b i).1 a bs := by
        rw [writesV, if_pos hz.out, HBS.out.1, HBS.out.2.1]
      rw [← hnx] at KW
      have L6 := Aside0.mk hw'.1
      have B6 := Aside0.mk (B5.out.trans (hw'.2.2.mono B5.out.size))
      have SZ5 := Aside0.mk hw'.2.2.size
      clear hw' hf' hf9 e9 hr9 hT6 ks kb kl kc kx hnx KB KO hlt9 hg8
      go_wp2_with fail
      refine KW.out.mono ?_
      rintro e w7 ⟨rfl, hT7, hO7⟩
      have T7 := Aside0.mk (hT7.mono (Q := fun j => P j ∨ w.heap.size ≤ j) (fun j _ h => by
        rcases h with h | h
        · exact h.1
        · have := hO.out.size; have := B6.out.size; exact .inr (by omega)))
      have L7 := Aside0.mk (hO7.blk L6.out (fun h => by
        rcases h with h | h
        · exact HX.out.1 (h.1.resolve_right (by have := HS0.out.lt; omega))
        · exact absurd h (by have := L6.out.lt; omega)))
      have O7 := Aside0.mk ((hO.out.trans (OnlyP.of_below B6.out)).trans (hO7.mono (Q := fun j => P j ∨ j = s ∨ w.heap.size ≤ j) (fun j _ h => by
        rcases h with h | h
        · exact h.1.elim .inl (fun h => .inr (.inr h))
        · have := hO.out.size; have := B6.out.size; exact .inr (.inr (by omega)))))
      clear hT7 hO7 KW
      obtain ⟨cd, hcd⟩ : ∃ cd, (writesV V S b (i + 1)).2 = cd := ⟨_, rfl⟩
      rw [hcd]
      have HCD := Aside0.mk hcd
      clear hcd
      by_cases h0 : cd = 0
      · subst h0
        have i1e := HCH.out.2.2.2
        have HI1 := Aside0.mk i1e
        clear i1e
        go_wp2
        go_roundw
        case rel => exact ⟨i + 1, by rw [HI1.out], ⟨HI.out⟩, HCD, T7, L7, O7⟩
        case measure => have := HI.out; have := HI1.out; simp [intOf]; omega
      · have z1 : (cd != 0) = true := by simpa using h0
        have z2 : (cd == 0) = false := by simpa using h0
        have z3 : decide (cd = 0) = false := decide_eq_false h0
        have z4 : (cd = 0) = False := eq_false h0
        have HZ := Aside0.mk h0
        clear h0
        go_wp2
        go_ret
        have hst : writesV V S b N = writesV V S b (i + 1) := by
          have := writes_stop (V := V) (S := S) (b := b) (i := i + 1) (by rw [HCD.out]; exact HZ.out) (N - (i + 1))
          rw [show i + 1 + (N - (i + 1)) = N by have := HI.out; omega] at this
          exact this
        rw [HAp.out, if_pos (by rw [hst, HCD.out]; exact HZ.out), hst, HCD.out]
        exact ⟨rfl, T7.out, L7.out, O7.out.mono (fun j hj h => by
          rcases h with h | h | h
          · exact .inl h
          · exact .inr h
          · exact absurd hj (by omega))⟩
    · have t1 : decide ((i : Int) < (N : Int)) = false := decide_eq_false (by omega)
      have t1n : decide (i < N) = false := decide_eq_false hi
      obtain rfl : i = N := by have := hin.out; omega
      have HZ := Aside0.mk hz.out
      have c2 := hL.out.cell 2
      have ll := hL.out.lt
      obtain ⟨ks, kb, kl, kc, kx⟩ := writes_keep (S := S) (b := b) HH.out.2.1 HH.out.2.2.1 HX.out.2.2.1 HH.out.2.2.2.2.1 i
      have KF := Aside0.mk (flush_calls _ t (writesV V S b i).1 wr hT.out ks kx (by rw [kl]; exact HH.out.2.2.2.2.2) (by have := HH.out.2.2.2.1; have := HNB.out; omega))
      clear ks kb kl kc kx hi
      go_wp2_with fail
      refine KF.out.mono ?_
      rintro e w7 ⟨rfl, hT7, hO7⟩
      have hL7 := hO7.blk hL.out (fun h => HX.out.1 (h.resolve_right (by have := HS0.out.lt; omega)))
      have T7 := Aside0.mk hT7
      have L7 := Aside0.mk hL7
      have O7 := Aside0.mk (hO.out.trans (hO7.mono (Q := fun j => P j ∨ j = s ∨ w.heap.size ≤ j) (fun j _ h => h.elim .inl (fun h => .inr (.inr h)))))
      have hOQ : ∀ W, OnlyP (fun j => P j ∨ j = s ∨ w.heap.size ≤ j) w W → OnlyP (fun j => P j ∨ j = s) w W := fun W h => h.mono (fun j hj h => by
        rcases h with h | h | h
        · exact .inl h
        · exact .inr h
        · exact absurd hj (by omega))
      have OQ := Aside0.mk hOQ
      clear hOQ hT7 hO7 KF
      obtain ⟨cd, hcd⟩ : ∃ cd, (flushV (writesV V S b i).1).2 = cd := ⟨_, rfl⟩
      rw [hcd]
      have HCD := Aside0.mk hcd
      clear hcd
      by_cases h0 : cd = 0
      · subst h0
        have d5 := hL7.cell 5
        have d6 := hL7.cell 6
        have f5 := hL7.frozen 5
        have f6 := hL7.frozen 6
        have l7 := hL7.lt
        have hw : IntKind.i64.wrap (S.tail + (i : Int)) = S.tail + (i : Int) := IntWalk.i64_in _ (by have := HNB.out; have := HX.out.2.1.head; omega)
        clear hL7
        go_wp2
        go_ret
        rw [HAp.out, if_neg (fun h => h HZ.out), if_neg (fun h => h HCD.out)]
        have hset : ∀ (W : World) (k : Nat) (u : Value), TAt (fun j => P j ∨ w.heap.size ≤ j) W t (flushV (writesV V S b i).1).1 → TAt (fun j => P j ∨ w.heap.size ≤ j) (W.setCell ⟨s, k, none⟩ u) t (flushV (writesV V S b i).1).1 := fun W k u h => h.onlyP (Q := fun j => j = s) ((OnlyP.refl (fun j => j = s) W).setCell (p := ⟨s, k, none⟩) (.inl rfl) _) (fun j _ hp e => HX.out.1 (by rw [← e]; exact hp.resolve_right (by have := HS0.out.lt; omega)))
        refine ⟨rfl, hset _ _ _ (hset _ _ _ T7.out), ?_, OQ.out _ ((O7.out.setCell (p := ⟨s, 6, none⟩) (.inl (.inr (.inl rfl))) _).setCell (p := ⟨s, 5, none⟩) (.inl (.inr (.inl rfl))) _)⟩
        simpa using (L7.out.set 6 (.bool false)).set 5 (.int .i64 (S.tail + (i : Int)))
      · have z1 : (cd != 0) = true := by simpa using h0
        have z2 : (cd == 0) = false := by simpa using h0
        have z3 : decide (cd = 0) = false := decide_eq_false h0
        have z4 : (cd = 0) = False := eq_false h0
        have HZ0 := Aside0.mk h0
        clear h0 hL7
        go_wp2
        go_ret
        rw [HAp.out, if_neg (fun h => h HZ.out), if_pos (by rw [HCD.out]; exact HZ0.out), HCD.out]
        exact ⟨rfl, T7.out, L7.out, OQ.out _ O7.out⟩
end Go.Proofs.Ytddhngalokmdoaa.Spo

/- copy into a block that is known whole; a block as a slice of the call's own. Any program. -/
namespace Go.Proofs.Ytddhngalokmdoaa.Arr
open Go.RowKit Go.Proofs.YtddhngalokmdoaaW.PrintWords
set_option linter.unusedVariables false
set_option linter.unusedSimpArgs false
theorem numsA_list (k : IntKind) (xs : List Int) : (numsA k xs).toList = nums k xs := by simp [numsA, nums]
theorem wpList_copy_blk {P : Program} {w : World} {ops : Array Oper} {rest : List Oper} {o : Oper} {a : Act} {Q : Exit → Act → World → Prop} (hgd : o.guard = none) (d s : Operand) (dT sT : TypeId)
    (ho : o.op = .call { callee := .builtin .copy, args := #[d, s], argTypes := #[dT, sT] }) (elem : TypeId) (hu : P.underlying dT = some (.slice elem)) (hsz : (P.info? elem).map (·.size) = some 1)
    (g dCap : Nat) (k : IntKind) (xs ys : List Int) (A : Option Addr) (n c m : Nat) (hd : a.eval d = .slice (some ⟨g, 0, none⟩) m dCap) (hs : a.eval s = .slice A n c) (hm : m = xs.length)
    (T : TypeId) (hB : Blk w g T (numsA k xs)) (hr : ReadsInt w k A n ys) (hn : n ≤ xs.length)
    (h : wpList P ops Q rest (a.put o.dst (goInt n)) (w.setRow g (numsA k (ys ++ xs.drop n)))) : wpList P ops Q (o :: rest) a w := by
  subst hm
  have hl := hr.1
  by_cases h0 : n = 0
  · subst h0
    obtain rfl : ys = [] := List.eq_nil_of_length_eq_zero hl
    refine wpList_copy_nothing hgd d s dT sT ho elem hu hsz _ A _ dCap 0 c hd hs (by simp) ?_
    rw [List.nil_append, List.drop_zero, setRow_self w g _ T _ hB.out] at h
    simpa using h
  · obtain ⟨ad, rfl, hc⟩ := hr.2.2 (by omega)
    refine wpList_copy_own hgd d s dT sT ho elem hu hsz g 0 _ dCap ad n c hd hs (numsA k xs) T hB.out (nums k ys) (by rw [nums_length, hl]; exact (Nat.min_eq_left hn).symm) ?_ (by rw [numsA_size, nums_length]; omega) ?_ ?_
    · intro j v hj
      have hlt : j < ys.length := by
        have := (List.getElem?_eq_some_iff.1 hj).1
        simpa [nums] using this
      have hv : v = .int k (ys.getD j 0) := by
        simp [nums, List.getElem?_eq_getElem hlt] at hj
        simp [List.getD, List.getElem?_eq_getElem hlt, hj]
      rw [hv]
      exact hc j (by omega)
    · intro v hv
      obtain ⟨x, _, rfl⟩ := List.mem_map.1 hv
      rfl
    · rw [nums_length, numsA_list, hl, Nat.zero_add, List.take_zero, List.nil_append]
      have e : (nums k ys ++ (nums k xs).drop n).toArray = numsA k (ys ++ xs.drop n) := by
        simp [numsA, nums, List.map_drop]
      rw [e]
      exact h
theorem Blk.toRow {w : World} {g B : Nat} {T : TypeId} {k : IntKind} {xs : List Int} (h : Blk w g T (numsA k xs)) (hB : B ≤ g) {m c : Nat} (hm : m = xs.length) (hc : c = xs.length) (hx : xs.length ≤ 9223372036854775807) :
    Row w B T k (.slice (some ⟨g, 0, none⟩) m c) xs := by
  subst hm hc
  refine ⟨?_, .inr ⟨g, xs.length, numsA k xs, rfl, hB, h.out, Nat.le_refl _, hx, ?_, ?_⟩⟩
  · rw [nums_length, Nat.mul_one]
  · rw [numsA_size, Nat.mul_one]
  · rw [numsA_list, Nat.mul_one]
    exact List.take_of_length_le (by rw [nums_length]; omega)
end Go.Proofs.Ytddhngalokmdoaa.Arr

/- A tray without an end; a new tray has no records; awake. -/
namespace Go.Proofs.Ytddhngalokmdoaa.Spo
open Go.RowKit Go.Proofs.YtddhngalokmdoaaW.PrintWords Go.Proofs.YtddhngalokmdoaaW.PrintLast Go.Proofs.YtddhngalokmdoaaW.PrintMore Go.Proofs.Ytddhngalokmdoaa.Arr Go.Proofs.Ytddhngalokmdoaa.PSpoolPlays
set_option linter.unusedVariables false
set_option linter.unusedSimpArgs false

theorem okV_first {bs : List Int} (h : okV bs = true) : bs.head? = some 83 := by
  unfold okV at h
  simp only [Bool.and_eq_true, decide_eq_true_eq] at h
  rw [h.2]
  rfl
theorem last_nil (at_ : Int) (b : List Int) : lastV [] at_ b = b := rfl
theorem read_new {n : Nat} {a : Int} (h0 : 0 ≤ a) (h1 : a < n) : readV (newV n) a = List.replicate 128 0 := by
  unfold readV newV
  rw [last_nil, List.getD, List.getElem?_replicate, if_pos (by omega), Option.getD_some]
theorem zeros_bad : okV (List.replicate 128 0) = false := by
  cases h : okV (List.replicate 128 0) with
  | false => rfl
  | true =>
    have := okV_first h
    simp at this
theorem find_none {V : TrayV} {S : SpoolV} {k : Nat} {tl least : Int} {out : List (List Int)} (h : recOk V S tl = false) : findV V S k tl least out = (out, tl) := by
  cases k with
  | zero => rfl
  | succ k =>
    simp only [findV]
    rw [if_neg]
    intro h2
    have := h2.2
    unfold takeV at this
    rw [h] at this
    cases this
theorem rec_here {V : TrayV} {S : SpoolV} {n : Int} (h : hereV V S n = false) : recOk V S n = false := by
  unfold recOk headOk
  rw [h]
  rfl
theorem here_zero {V : TrayV} {S : SpoolV} {n : Int} (h : secV V S n = List.replicate 128 0) : hereV V S n = false := by
  unfold hereV
  rw [h, zeros_bad]
  rfl
theorem opened_new {n : Nat} {a b h ep : Int} (hn : n ≤ 4096) (ho : openOk (newV n) a b h ep = true) : opened (newV n) a b h ep = ([], h) := by
  have hk : (newV n).kept.length = n := by simp [newV]
  obtain ⟨hF, hR, -⟩ := open_facts ho (by rw [hk]; exact hn)
  refine find_none (rec_here (here_zero ?_))
  have hh := on_has (V := newV n) hF hR h (by have := hF.head; exact this.1)
  unfold hasV at hh
  rw [hk] at hh
  simp only [Bool.and_eq_true, decide_eq_true_eq] at hh
  exact read_new hh.1 hh.2
/-! ### a tray without an end -/
theorem step_free {V : TrayV} (h : V.left < 0) : stepV V = (V, true) := by
  unfold stepV
  rw [if_neg (by omega), if_neg (by omega)]
theorem write_free {V : TrayV} (h : V.left < 0) {at_ : Int} {b : List Int} (hh : hasV V at_ = true) (hb : b.length ≤ 128) : writeV V at_ b = ({ V with cache := V.cache ++ [(at_, padB b)] }, 0) := by
  unfold writeV
  rw [if_neg (by rw [hh]; rintro (h | h); cases h; omega), step_free h, if_pos rfl]
theorem flush_free {V : TrayV} (h : V.left < 0) : flushV V = ({ V with kept := settleV V.kept V.cache, cache := [] }, 0) := by
  unfold flushV
  rw [step_free h, if_pos rfl]
def lays (S : SpoolV) (b : List Int) : Nat → List (Int × List Int)
  | 0 => []
  | k + 1 => lays S b k ++ [(onV S (S.tail + k), padB (bytesV (chunkP S b k)))]
theorem padB_full {b : List Int} (h : b.length = 128) : padB b = b := by
  unfold padB
  rw [h]
  simp
theorem writes_free {V : TrayV} {S : SpoolV} {b : List Int} (h : V.left < 0) (hF : Fit S) (hR : S.first + S.count ≤ V.kept.length) : ∀ k, writesV V S b k = ({ V with cache := V.cache ++ lays S b k }, 0)
  | 0 => by simp [writesV, lays]
  | k + 1 => by
    rw [writesV, writes_free h hF hR k, if_pos rfl]
    show writeV { V with cache := V.cache ++ lays S b k } (onV S (S.tail + k)) (bytesV (chunkP S b k)) = _
    rw [write_free (V := { V with cache := V.cache ++ lays S b k }) h (on_has (V := { V with cache := V.cache ++ lays S b k }) hF hR _ (by have := hF.head; omega)) (by rw [bytesV_length (chunkB_length b k)]; omega)]
    simp [lays]
theorem append_free {V : TrayV} {S : SpoolV} {b : List Int} (h : V.left < 0) (hF : Fit S) (hR : S.first + S.count ≤ V.kept.length) (hb : b.length ≤ 60000) (hr : (nPieces b : Int) ≤ roomV S) (hd : S.dead = false) :
    appendV V S b = ({ V with kept := settleV V.kept (V.cache ++ lays S b (nPieces b)), cache := [] }, { S with tail := S.tail + nPieces b, dead := false }, 0) := by
  unfold appendV
  rw [if_neg (by omega), if_neg (by omega), if_neg (by rw [hd]; decide), writes_free h hF hR, if_neg (fun h => h rfl), flush_free (by exact h), if_neg (fun h => h rfl)]
/-! ### zeros -/
theorem made_zeros (n : Nat) : madeCells (Value.int .u8 0).cells (n * 1) = numsA .u8 (List.replicate n 0) := by
  unfold madeCells numsA
  apply Array.ext
  · simp
  · intro i h1 h2
    simp [Value.cells, Nat.mod_one]
theorem run_zeros (n : Nat) (hn : n ≤ 1000000000) (w : World) : (Instr.makeSlice TSl (.int .i64 (n : Int)) (.int .i64 (n : Int))).run Try.prog w = .ok (.slice (some ⟨w.heap.size, 0, none⟩) n n) (w.alloc (.cells (numsA .u8 (List.replicate n 0)) TU8)) := by
  obtain ⟨ie, hie, h1⟩ := Option.map_eq_some_iff.1 (show (Try.prog.info? TU8).map (fun i => (i.zero, i.size, i.bytes)) = some (some (.int .u8 0), 1, 1) by kernel_rfl)
  simp only [Prod.mk.injEq] at h1
  obtain ⟨h1, h2, h3⟩ := h1
  have := run_make (P := Try.prog) w TSl TU8 ie (.int .u8 0) Try.underlying22 hie h1 .i64 .i64 n n (by omega) (Int.le_refl _) (by rw [h3]; omega) (by omega)
  simp only [Int.toNat_natCast] at this
  rw [this, h2, made_zeros]
theorem reads_zeros {w : World} {n : Nat} (hn : n ≤ 1000000000) : ReadsInt (w.alloc (.cells (numsA .u8 (List.replicate n 0)) TU8)) .u8 (some ⟨w.heap.size, 0, none⟩) n (List.replicate n 0) := by
  have := (Blk.new w TU8 (numsA .u8 (List.replicate n 0))).readsNums (by simp; omega)
  simpa using this
theorem TAt.trim {P : Nat → Prop} {w : World} {t : Nat} {V : TrayV} (h : TAt P w t V) : TAt (fun j => P j ∧ j < w.heap.size) w t V := h.mono fun j hj hp => ⟨hp, hj⟩
theorem recs_form {w : World} {B : Nat} {v : Value} {xs : List (List Int)} (h : Recs w B v xs) : ∃ A c, v = .slice A xs.length c ∧ xs.length ≤ c := by
  obtain ⟨ss, h1, h2, h3⟩ := h.out
  rcases h1.2 with ⟨rfl, e⟩ | ⟨g, cap, cur, rfl, -, -, hc, -⟩
  · rw [h2] at e
    exact ⟨none, 0, by rw [e], by omega⟩
  · rw [h2] at hc ⊢
    exact ⟨_, _, rfl, hc⟩
theorem sum_calls (b : List Int) (hb : Bytes b) (hl : b.length ≤ 1000000) (A : Option Addr) (n c : Nat) (hn : b.length = n) (hc : n ≤ c) (w : World) (h : ReadsInt w .u8 A n b) :
    Calls Try.prog 10 #[.slice A n c] w fun e w' => e = .returned (.int .u32 (sumV b)) ∧ Below w.heap.size w w' := by
  subst hn
  refine (spool_Sum.calls (10 * b.length + 1) A c b (sumV b) w (Kd.C_of_reads (d := (0 : Int)) h) hc (sum_f b hb (by omega) _ (Nat.le_refl _))).mono ?_
  rintro e w1 ⟨rfl, hd⟩
  exact ⟨rfl, hd.below⟩
def nine : List Int := [49, 50, 51, 52, 53, 54, 55, 56, 57]
theorem nine_sum : sumV nine = 58124007 := by decide +kernel
theorem nine_bytes : Bytes nine := by unfold Bytes nine; decide
def rA : TrayV × SpoolV × Int := appendV (newV 8) ⟨2, 4, 1, 0, 0, false⟩ (List.replicate 109 0)
theorem awake_append : (appendV (newV 8) ⟨2, 4, 1, 0, 0, false⟩ (List.replicate 109 0)).2 = (⟨2, 4, 1, 0, 2, false⟩, 0) := by
  rw [append_free (by decide) ⟨by decide, by decide, by decide, by decide, by decide⟩ (by decide) (by decide) (by decide) rfl]
  rfl
theorem open8 : openOk (newV 8) 2 4 0 1 = true := by decide +kernel
set_option maxHeartbeats 8000000 in
set_option maxRecDepth 100000 in
theorem awake_calls (w : World) : Calls Try.prog 9 #[] w fun e w' => e = .returned (.bool true) ∧ Below w.heap.size w w' := by
  have KN := Aside0.mk (new_calls (fun j => w.heap.size ≤ j) 8 (by decide) (by decide) w (fun j h => h))
  go_enter Try.func9, Try.ntmps9
  go_wp2_with fail
  refine KN.out.mono ?_
  rintro e w1 ⟨t, rfl, hT, b1⟩
  have T1 := Aside0.mk hT.trim
  have B1 := Aside0.mk b1
  have KO := Aside0.mk (open_calls _ t (newV 8) 2 4 0 1 w1 T1.out (Sound.new (by decide)) (by decide) (BytesT.new 8))
  clear hT b1 KN
  go_wp2_with fail
  refine KO.out.mono ?_
  rintro e w2 ⟨b2, hp⟩
  rw [open8, opened_new (by decide) open8] at hp
  rcases hp with ⟨h, -⟩ | ⟨-, s, v, rfl, hs, hrec, hblk⟩
  · cases h
  obtain ⟨A, c, rfl, -⟩ := recs_form hrec
  have B2 := Aside0.mk (B1.out.trans (b2.mono B1.out.size))
  have T2 := Aside0.mk (T1.out.below b2)
  have L2 := Aside0.mk hblk
  have hsl := hblk.lt
  have hmk : ∀ w, (Instr.makeSlice TSl (.int .i64 109) (.int .i64 109)).run Try.prog w = .ok (.slice (some ⟨w.heap.size, 0, none⟩) 109 109) (w.alloc (.cells (numsA .u8 (List.replicate 109 0)) TU8)) := fun w => run_zeros 109 (by decide) w
  have b3 : Below w2.heap.size w2 (w2.alloc (.cells (numsA .u8 (List.replicate 109 0)) TU8)) := (Below.refl _ _).alloc (Nat.le_refl _) _
  have KA := Aside0.mk (append_calls _ s t (newV 8) ⟨2, 4, 1, 0, 0, false⟩ (List.replicate 109 0) (some ⟨w2.heap.size, 0, none⟩) 109 109 _ (T2.out.below b3) (fun h => by have := h.2; omega) (Sound.new (by decide)) (BytesT.new 8) (by decide) (by decide) (by decide) ⟨by decide, by decide, by decide, by decide, by decide⟩ (L2.out.below b3) (Bytes.zeros _) (Nat.le_refl _) (reads_zeros (by decide)) (fun ad e _ h => by
    cases e
    rcases h with h | h
    · have h2 := h.2; have := b2.size; simp at h2; omega
    · simp at h; omega) (by decide) (by decide))
  unfold AppPost at KA
  rw [awake_append] at KA
  have SZ := Aside0.mk (⟨hs, b2.size⟩ : _ ∧ _)
  have B3 := Aside0.mk (B2.out.trans (b3.mono B2.out.size))
  generalize hZ : numsA .u8 (List.replicate 109 0) = Z at *
  clear hrec hblk hs b2 b3 T1 KO hsl
  go_wp2_with fail
  refine KA.out.mono ?_
  rintro e w4 ⟨rfl, hT4, hL4, hO4⟩
  have hO : Below w.heap.size w w4 := B3.out.trans (hO4.below (B := w.heap.size) B3.out.size (fun j h => by
    rcases h with h | h
    · exact h.1
    · subst h; have := SZ.out; have := B1.out.size; omega))
  have B4 := Aside0.mk hO
  have KR := Aside0.mk (room_calls s t ⟨2, 4, 1, 0, 2, false⟩ w4 ⟨by decide, by decide, by decide, by decide, by decide⟩ hL4)
  clear hT4 hL4 hO4 hO KA
  go_wp2_with fail
  refine KR.out.mono ?_
  rintro e w5 ⟨rfl, b5⟩
  have B5 := Aside0.mk (B4.out.trans (b5.mono B4.out.size))
  have kc : (convert TSl TSl (.slice (some ⟨w5.heap.size, 0, none⟩) 9 9)).run Try.prog (w5.alloc (.cells #[.int .u8 49, .int .u8 50, .int .u8 51, .int .u8 52, .int .u8 53, .int .u8 54, .int .u8 55, .int .u8 56, .int .u8 57] TU8)) = .ok (.slice (some ⟨w5.heap.size, 0, none⟩) 9 9) (w5.alloc (.cells (numsA .u8 nine) TU8 (9, 10))) := Go.Joins.run_convert_bytes_const_at (P := Try.prog) w5 TSl TU8 (numsA .u8 nine) 9 9 w5.heap.size rfl Try.underlying22 Try.underlying5
  have rd : ReadsInt (w5.alloc (.cells (numsA .u8 nine) TU8 (9, 10))) .u8 (some ⟨w5.heap.size, 0, none⟩) 9 nine := by
    refine ⟨rfl, by decide, fun _ => ⟨_, rfl, fun j hj => ?_⟩⟩
    rw [add_plain, Go.Joins.cell_alloc_mark_at w5 _ _ _ _ _ rfl]
    exact numsA_get _ _ j hj
  have KS := Aside0.mk (sum_calls nine nine_bytes (by decide) (some ⟨w5.heap.size, 0, none⟩) 9 9 rfl (by decide) _ rd)
  rw [nine_sum] at KS
  have B6 := Aside0.mk ((B5.out).alloc B5.out.size (.cells (numsA .u8 nine) TU8 (9, 10)))
  clear rd
  clear b5 KR
  go_wp2_with fail
  refine KS.out.mono ?_
  rintro e w6 ⟨rfl, b6⟩
  have B7 := Aside0.mk (B6.out.trans (b6.mono B6.out.size))
  clear b6 KS
  go_wp2
  go_ret
  exact ⟨rfl, B7.out⟩
end Go.Proofs.Ytddhngalokmdoaa.Spo
