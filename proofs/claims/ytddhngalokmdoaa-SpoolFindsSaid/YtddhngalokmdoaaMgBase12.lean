/- Texts of this claim, merged: Sfi. -/
import Derived.Test.YtddhngalokmdoaaMgBase11
/- The records from the head on: find. -/
namespace Go.Proofs.Ytddhngalokmdoaa.Spo
open Go.RowKit Go.Proofs.YtddhngalokmdoaaW.PrintWords Go.Proofs.YtddhngalokmdoaaW.PrintLast Go.Proofs.YtddhngalokmdoaaW.PrintMore Go.Proofs.Ytddhngalokmdoaa.Arr Go.Proofs.Ytddhngalokmdoaa.PSpoolPlays
set_option linter.unusedVariables false
set_option linter.unusedSimpArgs false

/-! ### lists of lists of bytes in memory -/
structure Sl where
  A : Option Addr
  n : Nat
  c : Nat
abbrev encS (x : Sl) : Value := .slice x.A x.n x.c
theorem encS_one (x : Sl) : (encS x).oneCell' = true := rfl
/-- A slice of slices of the call's own. -/
structure Recs (w : World) (B : Nat) (v : Value) (xs : List (List Int)) : Prop where mk ::
  out : ∃ ss : List Sl, w.ownsRow B TSl 1 v ss.length (encs encS ss) ∧ ss.length = xs.length ∧ ∀ (i : Nat) (s : Sl) (x : List Int), ss[i]? = some s → xs[i]? = some x → Row w B TU8 .u8 (encS s) x
namespace Recs
variable {w w1 : World} {B : Nat} {v : Value} {xs : List (List Int)}
theorem nil (w : World) (B : Nat) : Recs w B (.slice none 0 0) [] := ⟨[], own_nil _ _ _ _, rfl, fun i s x h => by simp at h⟩
theorem below (h : Recs w B v xs) (hb : Below w.heap.size w w1) : Recs w1 B v xs := by
  obtain ⟨ss, h1, h2, h3⟩ := h.out
  exact ⟨ss, own_move h1 (fun g hg => hb.block g (own_lt h1 g hg)), h2, fun i s x a b => (h3 i s x a b).below hb⟩
theorem set (h : Recs w B v xs) {g : Nat} {T : TypeId} {cs : Array Value} (hb : Blk w g T cs) (hT : TSl ≠ T) (hT2 : TU8 ≠ T) (i : Nat) (u : Value) : Recs (w.setCell ⟨g, i, none⟩ u) B v xs := by
  obtain ⟨ss, h1, h2, h3⟩ := h.out
  exact ⟨ss, own_move h1 (fun k hk => Below.heap_setCell w _ _ k (fun e => own_ne h1 hb.out hT (by rw [hk, e]))), h2, fun j s x a b => (h3 j s x a b).set hb hT2 i u⟩
theorem ne (h : Recs w B v xs) {g : Nat} {T : TypeId} {cs : Array Value} (hb : Blk w g T cs) (hT : TSl ≠ T) : some g ≠ v.ownBlock := by
  obtain ⟨ss, h1, h2, h3⟩ := h.out
  exact own_ne h1 hb.out hT
theorem le (h : Recs w B v xs) : ∀ k, v.ownBlock = some k → B ≤ k := by
  obtain ⟨ss, h1, h2, h3⟩ := h.out
  exact own_base h1
theorem lower (h : Recs w B v xs) {B' : Nat} (hB : B' ≤ B) : Recs w B' v xs := by
  obtain ⟨ss, h1, h2, h3⟩ := h.out
  exact ⟨ss, own_weaken h1 hB, h2, fun i s x a b => (h3 i s x a b).lower hB⟩
end Recs
theorem infoSl : (Try.prog.info? TSl).map (fun i => (i.zero, i.size, i.bytes)) = some (some (.slice none 0 0), 1, 24) := by kernel_rfl
section
variable {ops : Array Oper} {rest : List Oper} {o : Oper} {a : Act} {Q : Exit → Act → World → Prop}
/-- append of one slice to a slice of slices; the slice lies in the block made last. -/
theorem app_rec {w0 W : World} (B : Nat) (hgd : o.guard = none) (s x : Operand)
    (ho : o.op = .call { callee := .builtin .append, args := #[s, x], argTypes := #[27, 27] })
    (v : Value) (xs : List (List Int)) (y : Sl) (b : List Int) (hs : a.eval s = v) (hx : a.eval x = .slice (some ⟨W.heap.size, 0, none⟩) 1 1)
    (HO : Recs W B v xs) (HR : Row W B TU8 .u8 (encS y) b) (HB : Below B w0 W) (hbase : B ≤ W.heap.size) (hl : xs.length ≤ 1000000000)
    (h : ∀ v1 w1, Recs w1 B v1 (xs ++ [b]) → Below B w0 w1 → (W.alloc (.cells #[encS y] TSl)).grownBy w1 v.ownBlock → wpList Try.prog ops Q rest (a.put o.dst v1) w1) :
    wpList Try.prog ops Q (o :: rest) a (W.alloc (.cells #[encS y] TSl)) := by
  obtain ⟨ss, h1, h2, h3⟩ := HO.out
  have hB1 : Below W.heap.size W (W.alloc (.cells #[encS y] TSl)) := (Below.refl _ _).alloc (Nat.le_refl _) _
  refine print_append_row_of (w0 := w0) encS ⟨none, 0, 0⟩ B hgd s x 27 TSl (.slice none 0 0) 24 ho Try.underlying27 infoSl rfl (by decide) encS_one v ss [y] (some ⟨W.heap.size, 0, none⟩) 1 1 hs hx
    (own_move h1 fun g hg => hB1.block g (own_lt h1 g hg)) ⟨rfl, by omega, fun _ => ⟨_, rfl, fun j hj => ?_⟩⟩ (HB.alloc hbase _) (by rw [World.size_alloc]; omega) (by omega) fun v1 w1 k1 k2 k3 k4 => h v1 w1 ⟨ss ++ [y], k1, by simp [h2], fun i s x e1 e2 => ?_⟩ k2 k3
  · obtain rfl : j = 0 := by omega
    rw [add_plain]
    exact (Blk.new W TSl #[encS y]).cell 0
  · have key : ∀ (s : Sl) (x : List Int), Row W B TU8 .u8 (encS s) x → Row w1 B TU8 .u8 (encS s) x := fun s x hr => by
      have hr1 := hr.below hB1
      refine hr1.grown k3 ?_
      rcases h1.2 with ⟨e, -⟩ | ⟨g, cap, cur, e, hg, hh, -⟩
      · subst e
        refine .imp_right (fun _ => ?_) (Classical.em _)
        intro e5
        have := hr1.ne (Blk.new W TSl #[encS y]) (by decide)
        rename_i hn
        exact hn e5
      · rw [e]
        have hb2 : Blk (W.alloc (.cells #[encS y] TSl)) g TSl cur := (Blk.mk hh).below hB1
        have := hr1.ne hb2 (by decide)
        exact .inr (fun e5 => this (by rw [e5]; rfl))
    by_cases hi : i < ss.length
    · rw [List.getElem?_append_left hi] at e1
      rw [List.getElem?_append_left (by omega)] at e2
      exact key _ _ (h3 i s x e1 e2)
    · rw [List.getElem?_append_right (by omega)] at e1
      rw [List.getElem?_append_right (by omega)] at e2
      have hi0 : i - ss.length = 0 := by
        have := (List.getElem?_eq_some_iff.1 e1).1
        simpa using this
      rw [hi0] at e1
      rw [← h2, hi0] at e2
      obtain rfl : y = s := by simpa using e1
      obtain rfl : b = x := by simpa using e2
      exact key _ _ HR
end
/-! ### what is found -/
def takeV (V : TrayV) (S : SpoolV) (tl least : Int) : Bool :=
  recOk V S tl && decide ((atV V S tl).of ≤ S.count - (tl - S.head)) && decide (least ≤ (atV V S tl).epoch) && decide ((atV V S tl).epoch < S.epoch)
def findV (V : TrayV) (S : SpoolV) : Nat → Int → Int → List (List Int) → List (List Int) × Int
  | 0, tl, _, out => (out, tl)
  | k + 1, tl, least, out => if 0 < S.count - (tl - S.head) ∧ takeV V S tl least = true then findV V S k (tl + (atV V S tl).of) (atV V S tl).epoch (out ++ [bodyR V S tl (atV V S tl).of.toNat]) else (out, tl)
section
variable {V : TrayV} {S S' : SpoolV} (h1 : S.first = S'.first) (h2 : S.count = S'.count)
include h1 h2
theorem sec_ring (n : Int) : secV V S n = secV V S' n := by unfold secV onV; rw [h1, h2]
theorem at_ring (n : Int) : atV V S n = atV V S' n := by unfold atV; rw [sec_ring h1 h2]
theorem here_ring (n : Int) : hereV V S n = hereV V S' n := by unfold hereV; rw [sec_ring h1 h2, at_ring h1 h2]
theorem body_ring (n : Int) : ∀ k, bodyR V S n k = bodyR V S' n k
  | 0 => rfl
  | k + 1 => by rw [bodyR, bodyR, body_ring n k, at_ring h1 h2]
theorem rec_ring (n : Int) : recOk V S n = recOk V S' n := by
  unfold recOk headOk followV
  simp only [here_ring h1 h2, at_ring h1 h2, h2]
theorem recPost_ring (n : Int) (w : World) (e : Ending) (w' : World) (h : RecPost V S n w e w') : RecPost V S' n w e w' := by
  unfold RecPost at *
  rw [rec_ring h1 h2, at_ring h1 h2, body_ring h1 h2] at h
  exact h
end
theorem at_of {V : TrayV} {S : SpoolV} {n : Int} (h : recOk V S n = true) (hl : (secV V S n).length = 128) : 1 ≤ (atV V S n).of ∧ (atV V S n).of ≤ S.count := by
  unfold recOk headOk at h
  simp only [Bool.and_eq_true, decide_eq_true_eq] at h
  have := (here_facts h.1.1.1 hl).2
  omega
set_option maxHeartbeats 16000000 in
set_option maxRecDepth 100000 in
theorem find_calls (P : Nat → Prop) (s t : Nat) (V : TrayV) (S : SpoolV) (w : World) (H : TAt P w t V) (hPs : ¬ P s) (hS : Sound V) (hcl : V.cache.length ≤ 1000000000) (hB : BytesT V) (hF : Fit S) (hR : S.first + S.count ≤ V.kept.length)
    (HS : Blk w s TSp (spoolC t S)) (hn2 : S.head ≤ 140737480000000) (k0 : Nat) (hk0 : S.count - (S.tail - S.head) ≤ k0) :
    Calls Try.prog 38 #[ptrT s] w fun e w' => ∃ v, e = .returned v ∧ Recs w' w.heap.size v (findV V S k0 S.tail 0 []).1 ∧ Blk w' s TSp (spoolC t { S with tail := (findV V S k0 S.tail 0 []).2 }) ∧ OnlyP (fun j => j = s) w w' := by
  have FitT := Aside0.mk (fun (tl : Int) (h : S.head ≤ tl ∧ tl - S.head ≤ S.count) => (⟨hF.first, hF.count, hF.epoch, ⟨hF.head.1, h.1⟩, ⟨by have := hF.count; show tl ≤ _; omega, h.2⟩⟩ : Fit { S with tail := tl }))
  have KROOM := Aside0.mk (fun (tl : Int) (h : S.head ≤ tl ∧ tl - S.head ≤ S.count) w' (hb : Blk w' s TSp (spoolC t { S with tail := tl })) => room_calls s t { S with tail := tl } w' (FitT.out tl h) hb)
  have KREC := Aside0.mk (fun (tl : Int) (h : S.head ≤ tl ∧ tl - S.head ≤ S.count) w' (ho : OnlyP (fun j => j = s) w w') (hb : Blk w' s TSp (spoolC t { S with tail := tl })) =>
    (record_calls P s t V { S with tail := tl } tl w' (H.onlyP ho (fun j _ hp e => hPs (by rw [← e]; exact hp))) hS hcl hB (FitT.out tl h) hR hb (by have := hF.head; omega) (by have := hF.count; omega)).mono fun e w'' h => recPost_ring (S := { S with tail := tl }) (S' := S) rfl rfl tl w' e w'' h)
  have KL := Aside0.mk (fun (k : Int) (hk : 0 ≤ k) => show (secV V S k).length = 128 from hS.read (on_has hF hR k hk))
  have HF := Aside0.mk hF
  have HS0 := Aside0.mk HS
  have HN2 := Aside0.mk hn2
  have HK0 := Aside0.mk hk0
  obtain ⟨R, hRes⟩ : ∃ R, findV V S k0 S.tail 0 [] = R := ⟨_, rfl⟩
  rw [hRes]
  have HRes := Aside0.mk hRes
  clear H hPs hS hcl hB hF hR hn2 HS hk0 hRes
  go_enter Try.func38, Try.ntmps38
  go_wp2_with fail
  go_loopw [3, 4] (fun v3 v4 wr => ∃ (tl least : Int) (xs : List (List Int)) (k : Nat), v4 = .int .i64 least ∧ Aside0 (S.head ≤ tl ∧ tl - S.head ≤ S.count ∧ S.count - (tl - S.head) ≤ k ∧ xs.length + S.count - (tl - S.head) ≤ S.count + S.count) ∧ Aside0 (findV V S k tl least xs = R) ∧ Aside0 (Recs wr w.heap.size v3 xs) ∧ Aside0 (Blk wr s TSp (spoolC t { S with tail := tl })) ∧ Aside0 (OnlyP (fun j => j = s) w wr)) (fun _ _ wr => (S.head + S.count - intOf ((wr.cell? ⟨s, 5, none⟩).getD (.int .i64 0))).toNat)
  case atStart =>
    have hF := HF.out
    have h1 := hF.head
    have h2 := hF.tail
    exact ⟨S.tail, 0, [], k0, rfl, ⟨h1.2, h2.2, HK0.out, by simp; omega⟩, HRes, ⟨Recs.nil _ _⟩, ⟨HS0.out⟩, ⟨OnlyP.refl _ _⟩⟩
  case round =>
    obtain ⟨tl, least, xs, k, rfl, hin, hfi, hrec, hblk, ho⟩ := hrel
    have hcount := HF.out.count
    have KR := Aside0.mk (KROOM.out tl ⟨hin.out.1, hin.out.2.1⟩ wr hblk.out)
    obtain ⟨rm, hrm⟩ : ∃ rm, S.count - (tl - S.head) = rm := ⟨_, rfl⟩
    have hrv : roomV { S with tail := tl } = rm := hrm
    rw [hrv] at KR
    have HRM := Aside0.mk hrm
    clear hrv hrm hcount
    by_cases hr0 : rm > 0
    · have t1 : decide (rm > 0) = true := decide_eq_true hr0
      go_wp2_with fail
      refine KR.out.mono ?_
      rintro e w1 ⟨rfl, b1⟩
      have hb1 := hblk.out.below b1
      have O1 := Aside0.mk (ho.out.trans (OnlyP.of_below b1))
      have R1 := Aside0.mk (hrec.out.below b1)
      have HB1 := Aside0.mk hb1
      have c5 := hb1.cell 5
      have l5 := hb1.lt
      have KK := Aside0.mk (KREC.out tl ⟨hin.out.1, hin.out.2.1⟩ w1 O1.out hb1)
      clear b1 hb1 KR
      go_wp2_with fail
      refine KK.out.mono ?_
      rintro e w2 ⟨b2, hpost⟩
      have HB2 := HB1.out.below b2
      have O2 := Aside0.mk (O1.out.trans (OnlyP.of_below b2))
      have R2 := Aside0.mk (R1.out.below b2)
      have HB2 := Aside0.mk HB2
      rcases hpost with ⟨hok, v, rfl, hrow⟩ | ⟨hok, rfl⟩
      · obtain ⟨A9, c9, rfl, -⟩ := hrow.reads
        have hof := at_of hok (KL.out tl (by have := HF.out.head; have := hin.out; omega))
        have hrow2 := hrow.lower (show w.heap.size ≤ w1.heap.size from O1.out.size)
        obtain ⟨ep, hep⟩ : ∃ ep, (atV V S tl).epoch = ep := ⟨_, rfl⟩
        obtain ⟨f, hf⟩ : ∃ f, (atV V S tl).of = f := ⟨_, rfl⟩
        obtain ⟨body, hbody⟩ : ∃ b, bodyR V S tl (atV V S tl).of.toNat = b := ⟨_, rfl⟩
        obtain ⟨bl, hbl⟩ : ∃ bl, (bodyR V S tl (atV V S tl).of.toNat).length = bl := ⟨_, rfl⟩
        rw [hbl] at hrow2 ⊢
        rw [hbody] at hrow2
        rw [hf] at hof
        rw [hep, hf]
        have HX := Aside0.mk (⟨hep, hf, hbody, hok⟩ : _ ∧ _ ∧ _ ∧ _)
        have ROW := Aside0.mk hrow2
        have t2 : decide (f = 0) = false := decide_eq_false (by omega)
        have t3 : (f == 0) = false := by simp; omega
        have HOF := Aside0.mk hof
        have KR2 := Aside0.mk (KROOM.out tl ⟨hin.out.1, hin.out.2.1⟩ w2 HB2.out)
        rw [show roomV { S with tail := tl } = rm from HRM.out] at KR2
        have HN : ∀ q : takeV V S tl least = false, findV V S k tl least xs = (xs, tl) := fun q => by
          cases k with
          | zero => rfl
          | succ k =>
            simp only [findV]
            rw [if_neg]
            intro h
            rw [q] at h
            cases h.2
        have HN := Aside0.mk HN
        clear hep hf hbody hok hrow hrow2 hof KK c5 l5 b2 hbl t1
        go_wp2_with fail
        refine KR2.out.mono ?_
        rintro e w3 ⟨rfl, b3⟩
        have HB3 := Aside0.mk (HB2.out.below b3)
        have O3 := Aside0.mk (O2.out.trans (OnlyP.of_below b3))
        have R3 := Aside0.mk (R2.out.below b3)
        have ROW3 := Aside0.mk (ROW.out.below b3)
        have c3 := HB3.out.cell 3
        have l3 := HB3.out.lt
        clear b3 KR2
        by_cases h1 : f > rm
        · have d1 : decide (f > rm) = true := decide_eq_true h1
          have HBad := Aside0.mk (HN.out (by unfold takeV; rw [HX.out.2.1, HRM.out, decide_eq_false (by omega)]; simp))
          clear h1
          go_wp2
          go_ret
          have hRe := hfi.out.symm.trans HBad.out
          refine ⟨_, rfl, ?_, ?_, O3.out⟩ <;> rw [hRe]
          · exact R3.out
          · exact HB3.out
        have d1 : decide (f > rm) = false := decide_eq_false h1
        by_cases h2 : ep < least
        · have d2 : decide (ep < least) = true := decide_eq_true h2
          have HBad := Aside0.mk (HN.out (by unfold takeV; rw [HX.out.1, decide_eq_false (show ¬ least ≤ ep by omega)]; simp))
          clear h1 h2
          go_wp2
          go_ret
          have hRe := hfi.out.symm.trans HBad.out
          refine ⟨_, rfl, ?_, ?_, O3.out⟩ <;> rw [hRe]
          · exact R3.out
          · exact HB3.out
        have d2 : decide (ep < least) = false := decide_eq_false h2
        by_cases h3 : ep ≥ S.epoch
        · have d3 : decide (ep ≥ S.epoch) = true := decide_eq_true h3
          have HBad := Aside0.mk (HN.out (by unfold takeV; rw [HX.out.1, decide_eq_false (show ¬ ep < S.epoch by omega)]; simp))
          clear h1 h2 h3
          go_wp2
          go_ret
          have hRe := hfi.out.symm.trans HBad.out
          refine ⟨_, rfl, ?_, ?_, O3.out⟩ <;> rw [hRe]
          · exact R3.out
          · exact HB3.out
        have d3 : decide (ep ≥ S.epoch) = false := decide_eq_false h3
        have HNX := Aside0.mk (show findV V S (k - 1) (tl + f) ep (xs ++ [body]) = R from by
          obtain ⟨k, rfl⟩ : ∃ j, k = j + 1 := ⟨k - 1, by have := hin.out; have := HRM.out; omega⟩
          have := hfi.out
          simp only [findV] at this
          rw [if_pos ⟨by rw [HRM.out]; exact hr0, by unfold takeV; rw [HX.out.2.2.2, HX.out.1, HX.out.2.1, HRM.out, decide_eq_true (show f ≤ rm by omega), decide_eq_true (show least ≤ ep by omega), decide_eq_true (show ep < S.epoch by omega)]; rfl⟩, HX.out.1, HX.out.2.2.1, HX.out.2.1] at this
          exact this)
        have HLE := Aside0.mk (show f ≤ rm by omega)
        have HR0 := Aside0.mk hr0
        have hxl : xs.length ≤ 1000000000 := by
          have := hin.out; have := HF.out.count; omega
        have hw : IntKind.i64.wrap (tl + f) = tl + f := IntWalk.i64_in _ (by have := hin.out; have := HF.out; have := HF.out.head; have := HF.out.tail; have := HF.out.count; have := HN2.out; have := HOF.out; omega)
        have hz3 : w.heap.size ≤ w3.heap.size := O3.out.size
        have tok1 : True := trivial
        clear h1 h2 h3
        go_wp2_with (at_builtin; have _t := tok1; have q1 := HB3.out.alloc (.cells #[.slice A9 bl c9] TSl); have q2 := R3.out.ne HB3.out (by decide); have q3 := R3.out.le; have q4 := O3.out.alloc (.cells #[.slice A9 bl c9] TSl); go_must (refine app_rec (w0 := w3) w.heap.size rfl _ _ rfl u3 xs ⟨A9, bl, c9⟩ body rfl rfl R3.out ROW3.out ((Below.refl _ _).mono hz3) hz3 hxl ?_); intro v4 w4 hv4 hb4 hg4; have hB4 := q1.grown hg4 q2; have hO4 := q4.grown hg4 (fun j hj => .inr (q3 j hj)); have c5 := hB4.cell 5; have f5 := hB4.frozen 5; have l5 := hB4.lt; have HV4 := Aside0.mk hv4; have HB4 := Aside0.mk hB4; have HO4 := Aside0.mk hO4; clear hg4 _t tok1 q1 q2 q3 q4 hb4 hv4 hB4 hO4)
        go_roundw
        case rel =>
          refine ⟨tl + f, ep, xs ++ [body], k - 1, by first | rfl | go_num, ⟨by have := hin.out; have := HOF.out; omega, ?_, ?_, ?_⟩, HNX, ⟨HV4.out.set HB4.out (by decide) (by decide) 5 _⟩, ⟨?_⟩, ⟨HO4.out.setCell (.inl rfl) _⟩⟩
          · have := HLE.out; have := HRM.out; omega
          · have := HLE.out; have := HRM.out; have := HOF.out; have := hin.out; omega
          · have := HOF.out; have := hin.out; simp; omega
          · simpa using HB4.out.set 5 (.int .i64 (tl + f))
        case measure =>
          have e1 := hblk.out.cell 5
          have e2 := (HB4.out.set 5 (.int .i64 (tl + f))).cell 5
          have := HOF.out
          have := HLE.out
          have := HRM.out
          have := HR0.out
          simp at e1 e2
          simp [intOf, e1, e2]
          omega
      · have HBad := Aside0.mk (show findV V S k tl least xs = (xs, tl) by
          cases k with
          | zero => rfl
          | succ k =>
            simp only [findV]
            rw [if_neg]
            intro h
            have := h.2
            unfold takeV at this
            rw [hok] at this
            cases this)
        clear hok
        go_wp2
        go_ret
        have hRe := hfi.out.symm.trans HBad.out
        refine ⟨_, rfl, ?_, ?_, O2.out⟩ <;> rw [hRe]
        · exact R2.out
        · exact HB2.out
    · have t1 : decide (rm > 0) = false := decide_eq_false hr0
      have HBad := Aside0.mk (show findV V S k tl least xs = (xs, tl) by
        cases k with
        | zero => rfl
        | succ k =>
          simp only [findV]
          rw [if_neg]
          intro h
          have := h.1
          rw [HRM.out] at this
          exact hr0 this)
      go_wp2_with fail
      refine KR.out.mono ?_
      rintro e w1 ⟨rfl, b1⟩
      have hb1 := hblk.out.below b1
      have O1 := Aside0.mk (ho.out.trans (OnlyP.of_below b1))
      have R1 := Aside0.mk (hrec.out.below b1)
      have HB1 := Aside0.mk hb1
      clear b1 hb1 KR hr0
      go_wp2
      go_ret
      have hRe := hfi.out.symm.trans HBad.out
      refine ⟨_, rfl, ?_, ?_, O1.out⟩ <;> rw [hRe]
      · exact R1.out
      · exact HB1.out
end Go.Proofs.Ytddhngalokmdoaa.Spo
