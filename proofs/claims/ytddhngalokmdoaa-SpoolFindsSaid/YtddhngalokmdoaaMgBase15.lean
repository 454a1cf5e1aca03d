/- Texts of this claim, merged: Saw, Sat. -/
import Derived.Test.YtddhngalokmdoaaMgBase14
import Derived.Lib.SmallJoins
/- A tray without an end; a new tray has no records; awake. -/
namespace Go.Proofs.Ytddhngalokmdoaa.Spo
open Go.RowKit Go.Proofs.YtddhngalokmdoaaW.PrintWords Go.Proofs.YtddhngalokmdoaaW.PrintLast Go.Proofs.YtddhngalokmdoaaW.PrintMore Go.Proofs.Ytddhngalokmdoaa.Arr Go.Proofs.Ytddhngalokmdoaa.PSpoolPlays
set_option linter.unusedVariables false
set_option linter.unusedSimpArgs false

theorem okV_first {bs : List Int} (h : okV bs = true) : bs.head? = some 83 := by
  unfold okV at h
  simp only [Bool.and_eq_true, decide_eq_true_eq] at h
  rw [h.2]
  rfl
theorem last_nil (at_ : Int) (b : List Int) : lastV [] at_ b = b := rfl
theorem read_new {n : Nat} {a : Int} (h0 : 0 ≤ a) (h1 : a < n) : readV (newV n) a = List.replicate 128 0 := by
  unfold readV newV
  rw [last_nil, List.getD, List.getElem?_replicate, if_pos (by omega), Option.getD_some]
theorem zeros_bad : okV (List.replicate 128 0) = false := by
  cases h : okV (List.replicate 128 0) with
  | false => rfl
  | true =>
    have := okV_first h
    simp at this
theorem find_none {V : TrayV} {S : SpoolV} {k : Nat} {tl least : Int} {out : List (List Int)} (h : recOk V S tl = false) : findV V S k tl least out = (out, tl) := by
  cases k with
  | zero => rfl
  | succ k =>
    simp only [findV]
    rw [if_neg]
    intro h2
    have := h2.2
    unfold takeV at this
    rw [h] at this
    cases this
theorem rec_here {V : TrayV} {S : SpoolV} {n : Int} (h : hereV V S n = false) : recOk V S n = false := by
  unfold recOk headOk
  rw [h]
  rfl
theorem here_zero {V : TrayV} {S : SpoolV} {n : Int} (h : secV V S n = List.replicate 128 0) : hereV V S n = false := by
  unfold hereV
  rw [h, zeros_bad]
  rfl
theorem opened_new {n : Nat} {a b h ep : Int} (hn : n ≤ 4096) (ho : openOk (newV n) a b h ep = true) : opened (newV n) a b h ep = ([], h) := by
  have hk : (newV n).kept.length = n := by simp [newV]
  obtain ⟨hF, hR, -⟩ := open_facts ho (by rw [hk]; exact hn)
  refine find_none (rec_here (here_zero ?_))
  have hh := on_has (V := newV n) hF hR h (by have := hF.head; exact this.1)
  unfold hasV at hh
  rw [hk] at hh
  simp only [Bool.and_eq_true, decide_eq_true_eq] at hh
  exact read_new hh.1 hh.2
/-! ### a tray without an end -/
theorem step_free {V : TrayV} (h : V.left < 0) : stepV V = (V, true) := by
  unfold stepV
  rw [if_neg (by omega), if_neg (by omega)]
theorem write_free {V : TrayV} (h : V.left < 0) {at_ : Int} {b : List Int} (hh : hasV V at_ = true) (hb : b.length ≤ 128) : writeV V at_ b = ({ V with cache := V.cache ++ [(at_, padB b)] }, 0) := by
  unfold writeV
  rw [if_neg (by rw [hh]; rintro (h | h); cases h; omega), step_free h, if_pos rfl]
theorem flush_free {V : TrayV} (h : V.left < 0) : flushV V = ({ V with kept := settleV V.kept V.cache, cache := [] }, 0) := by
  unfold flushV
  rw [step_free h, if_pos rfl]
def lays (S : SpoolV) (b : List Int) : Nat → List (Int × List Int)
  | 0 => []
  | k + 1 => lays S b k ++ [(onV S (S.tail + k), padB (bytesV (chunkP S b k)))]
theorem padB_full {b : List Int} (h : b.length = 128) : padB b = b := by
  unfold padB
  rw [h]
  simp
theorem writes_free {V : TrayV} {S : SpoolV} {b : List Int} (h : V.left < 0) (hF : Fit S) (hR : S.first + S.count ≤ V.kept.length) : ∀ k, writesV V S b k = ({ V with cache := V.cache ++ lays S b k }, 0)
  | 0 => by simp [writesV, lays]
  | k + 1 => by
    rw [writesV, writes_free h hF hR k, if_pos rfl]
    show writeV { V with cache := V.cache ++ lays S b k } (onV S (S.tail + k)) (bytesV (chunkP S b k)) = _
    rw [write_free (V := { V with cache := V.cache ++ lays S b k }) h (on_has (V := { V with cache := V.cache ++ lays S b k }) hF hR _ (by have := hF.head; omega)) (by rw [bytesV_length (chunkB_length b k)]; omega)]
    simp [lays]
theorem append_free {V : TrayV} {S : SpoolV} {b : List Int} (h : V.left < 0) (hF : Fit S) (hR : S.first + S.count ≤ V.kept.length) (hb : b.length ≤ 60000) (hr : (nPieces b : Int) ≤ roomV S) (hd : S.dead = false) :
    appendV V S b = ({ V with kept := settleV V.kept (V.cache ++ lays S b (nPieces b)), cache := [] }, { S with tail := S.tail + nPieces b, dead := false }, 0) := by
  unfold appendV
  rw [if_neg (by omega), if_neg (by omega), if_neg (by rw [hd]; decide), writes_free h hF hR, if_neg (fun h => h rfl), flush_free (by exact h), if_neg (fun h => h rfl)]
/-! ### zeros -/
theorem made_zeros (n : Nat) : madeCells (Value.int .u8 0).cells (n * 1) = numsA .u8 (List.replicate n 0) := by
  unfold madeCells numsA
  apply Array.ext
  · simp
  · intro i h1 h2
    simp [Value.cells, Nat.mod_one]
theorem run_zeros (n : Nat) (hn : n ≤ 1000000000) (w : World) : (Instr.makeSlice TSl (.int .i64 (n : Int)) (.int .i64 (n : Int))).run Try.prog w = .ok (.slice (some ⟨w.heap.size, 0, none⟩) n n) (w.alloc (.cells (numsA .u8 (List.replicate n 0)) TU8)) := by
  obtain ⟨ie, hie, h1⟩ := Option.map_eq_some_iff.1 (show (Try.prog.info? TU8).map (fun i => (i.zero, i.size, i.bytes)) = some (some (.int .u8 0), 1, 1) by kernel_rfl)
  simp only [Prod.mk.injEq] at h1
  obtain ⟨h1, h2, h3⟩ := h1
  have := run_make (P := Try.prog) w TSl TU8 ie (.int .u8 0) Try.underlying22 hie h1 .i64 .i64 n n (by omega) (Int.le_refl _) (by rw [h3]; omega) (by omega)
  simp only [Int.toNat_natCast] at this
  rw [this, h2, made_zeros]
theorem reads_zeros {w : World} {n : Nat} (hn : n ≤ 1000000000) : ReadsInt (w.alloc (.cells (numsA .u8 (List.replicate n 0)) TU8)) .u8 (some ⟨w.heap.size, 0, none⟩) n (List.replicate n 0) := by
  have := (Blk.new w TU8 (numsA .u8 (List.replicate n 0))).readsNums (by simp; omega)
  simpa using this
theorem TAt.trim {P : Nat → Prop} {w : World} {t : Nat} {V : TrayV} (h : TAt P w t V) : TAt (fun j => P j ∧ j < w.heap.size) w t V := h.mono fun j hj hp => ⟨hp, hj⟩
theorem recs_form {w : World} {B : Nat} {v : Value} {xs : List (List Int)} (h : Recs w B v xs) : ∃ A c, v = .slice A xs.length c ∧ xs.length ≤ c := by
  obtain ⟨ss, h1, h2, h3⟩ := h.out
  rcases h1.2 with ⟨rfl, e⟩ | ⟨g, cap, cur, rfl, -, -, hc, -⟩
  · rw [h2] at e
    exact ⟨none, 0, by rw [e], by omega⟩
  · rw [h2] at hc ⊢
    exact ⟨_, _, rfl, hc⟩
theorem sum_calls (b : List Int) (hb : Bytes b) (hl : b.length ≤ 1000000) (A : Option Addr) (n c : Nat) (hn : b.length = n) (hc : n ≤ c) (w : World) (h : ReadsInt w .u8 A n b) :
    Calls Try.prog 10 #[.slice A n c] w fun e w' => e = .returned (.int .u32 (sumV b)) ∧ Below w.heap.size w w' := by
  subst hn
  refine (spool_Sum.calls (10 * b.length + 1) A c b (sumV b) w (Kd.C_of_reads (d := (0 : Int)) h) hc (sum_f b hb (by omega) _ (Nat.le_refl _))).mono ?_
  rintro e w1 ⟨rfl, hd⟩
  exact ⟨rfl, hd.below⟩
def nine : List Int := [49, 50, 51, 52, 53, 54, 55, 56, 57]
theorem nine_sum : sumV nine = 58124007 := by decide +kernel
theorem nine_bytes : Bytes nine := by unfold Bytes nine; decide
def rA : TrayV × SpoolV × Int := appendV (newV 8) ⟨2, 4, 1, 0, 0, false⟩ (List.replicate 109 0)
theorem awake_append : (appendV (newV 8) ⟨2, 4, 1, 0, 0, false⟩ (List.replicate 109 0)).2 = (⟨2, 4, 1, 0, 2, false⟩, 0) := by
  rw [append_free (by decide) ⟨by decide, by decide, by decide, by decide, by decide⟩ (by decide) (by decide) (by decide) rfl]
  rfl
theorem open8 : openOk (newV 8) 2 4 0 1 = true := by decide +kernel
set_option maxHeartbeats 8000000 in
set_option maxRecDepth 100000 in
theorem awake_calls (w : World) : Calls Try.prog 9 #[] w fun e w' => e = .returned (.bool true) ∧ Below w.heap.size w w' := by
  have KN := Aside0.mk (new_calls (fun j => w.heap.size ≤ j) 8 (by decide) (by decide) w (fun j h => h))
  go_enter Try.func9, Try.ntmps9
  go_wp2_with fail
  refine KN.out.mono ?_
  rintro e w1 ⟨t, rfl, hT, b1⟩
  have T1 := Aside0.mk hT.trim
  have B1 := Aside0.mk b1
  have KO := Aside0.mk (open_calls _ t (newV 8) 2 4 0 1 w1 T1.out (Sound.new (by decide)) (by decide) (BytesT.new 8))
  clear hT b1 KN
  go_wp2_with fail
  refine KO.out.mono ?_
  rintro e w2 ⟨b2, hp⟩
  rw [open8, opened_new (by decide) open8] at hp
  rcases hp with ⟨h, -⟩ | ⟨-, s, v, rfl, hs, hrec, hblk⟩
  · cases h
  obtain ⟨A, c, rfl, -⟩ := recs_form hrec
  have B2 := Aside0.mk (B1.out.trans (b2.mono B1.out.size))
  have T2 := Aside0.mk (T1.out.below b2)
  have L2 := Aside0.mk hblk
  have hsl := hblk.lt
  have hmk : ∀ w, (Instr.makeSlice TSl (.int .i64 109) (.int .i64 109)).run Try.prog w = .ok (.slice (some ⟨w.heap.size, 0, none⟩) 109 109) (w.alloc (.cells (numsA .u8 (List.replicate 109 0)) TU8)) := fun w => run_zeros 109 (by decide) w
  have b3 : Below w2.heap.size w2 (w2.alloc (.cells (numsA .u8 (List.replicate 109 0)) TU8)) := (Below.refl _ _).alloc (Nat.le_refl _) _
  have KA := Aside0.mk (append_calls _ s t (newV 8) ⟨2, 4, 1, 0, 0, false⟩ (List.replicate 109 0) (some ⟨w2.heap.size, 0, none⟩) 109 109 _ (T2.out.below b3) (fun h => by have := h.2; omega) (Sound.new (by decide)) (BytesT.new 8) (by decide) (by decide) (by decide) ⟨by decide, by decide, by decide, by decide, by decide⟩ (L2.out.below b3) (Bytes.zeros _) (Nat.le_refl _) (reads_zeros (by decide)) (fun ad e _ h => by
    cases e
    rcases h with h | h
    · have h2 := h.2; have := b2.size; simp at h2; omega
    · simp at h; omega) (by decide) (by decide))
  unfold AppPost at KA
  rw [awake_append] at KA
  have SZ := Aside0.mk (⟨hs, b2.size⟩ : _ ∧ _)
  have B3 := Aside0.mk (B2.out.trans (b3.mono B2.out.size))
  generalize hZ : numsA .u8 (List.replicate 109 0) = Z at *
  clear hrec hblk hs b2 b3 T1 KO hsl
  go_wp2_with fail
  refine KA.out.mono ?_
  rintro e w4 ⟨rfl, hT4, hL4, hO4⟩
  have hO : Below w.heap.size w w4 := B3.out.trans (hO4.below (B := w.heap.size) B3.out.size (fun j h => by
    rcases h with h | h
    · exact h.1
    · subst h; have := SZ.out; have := B1.out.size; omega))
  have B4 := Aside0.mk hO
  have KR := Aside0.mk (room_calls s t ⟨2, 4, 1, 0, 2, false⟩ w4 ⟨by decide, by decide, by decide, by decide, by decide⟩ hL4)
  clear hT4 hL4 hO4 hO KA
  go_wp2_with fail
  refine KR.out.mono ?_
  rintro e w5 ⟨rfl, b5⟩
  have B5 := Aside0.mk (B4.out.trans (b5.mono B4.out.size))
  have kc : (convert TSl TSl (.slice (some ⟨w5.heap.size, 0, none⟩) 9 9)).run Try.prog (w5.alloc (.cells #[.int .u8 49, .int .u8 50, .int .u8 51, .int .u8 52, .int .u8 53, .int .u8 54, .int .u8 55, .int .u8 56, .int .u8 57] TU8)) = .ok (.slice (some ⟨w5.heap.size, 0, none⟩) 9 9) (w5.alloc (.cells (numsA .u8 nine) TU8 (9, 10))) := Go.Joins.run_convert_bytes_const_at (P := Try.prog) w5 TSl TU8 (numsA .u8 nine) 9 9 w5.heap.size rfl Try.underlying22 Try.underlying5
  have rd : ReadsInt (w5.alloc (.cells (numsA .u8 nine) TU8 (9, 10))) .u8 (some ⟨w5.heap.size, 0, none⟩) 9 nine := by
    refine ⟨rfl, by decide, fun _ => ⟨_, rfl, fun j hj => ?_⟩⟩
    rw [add_plain, Go.Joins.cell_alloc_mark_at w5 _ _ _ _ _ rfl]
    exact numsA_get _ _ j hj
  have KS := Aside0.mk (sum_calls nine nine_bytes (by decide) (some ⟨w5.heap.size, 0, none⟩) 9 9 rfl (by decide) _ rd)
  rw [nine_sum] at KS
  have B6 := Aside0.mk ((B5.out).alloc B5.out.size (.cells (numsA .u8 nine) TU8 (9, 10)))
  clear rd
  clear b5 KR
  go_wp2_with fail
  refine KS.out.mono ?_
  rintro e w6 ⟨rfl, b6⟩
  have B7 := Aside0.mk (B6.out.trans (b6.mono B6.out.size))
  clear b6 KS
  go_wp2
  go_ret
  exact ⟨rfl, B7.out⟩
end Go.Proofs.Ytddhngalokmdoaa.Spo

/- A tray, and a spool on it, of a law's own: what each call leaves. -/
namespace Go.Proofs.Ytddhngalokmdoaa.Spo
open Go.RowKit Go.Proofs.YtddhngalokmdoaaW.PrintWords Go.Proofs.YtddhngalokmdoaaW.PrintLast Go.Proofs.YtddhngalokmdoaaW.PrintMore Go.Proofs.Ytddhngalokmdoaa.Arr Go.Proofs.Ytddhngalokmdoaa.PSpoolPlays
set_option linter.unusedVariables false
set_option linter.unusedSimpArgs false

theorem flush_len (V : TrayV) : (flushV V).1.kept.length = V.kept.length ∧ (flushV V).1.cache.length ≤ V.cache.length ∧ (V.left ≤ 9223372036854775807 → (flushV V).1.left ≤ 9223372036854775807) := by
  obtain ⟨h1, h2⟩ := step_kept V
  have h3 : V.left ≤ 9223372036854775807 → (stepV V).1.left ≤ 9223372036854775807 := by
    unfold stepV
    split
    · exact fun h => h
    · split
      · intro h; show V.left - 1 ≤ _; omega
      · exact fun h => h
  unfold flushV
  split
  · exact ⟨by show (settleV V.kept V.cache).length = _; rw [settle_length], Nat.zero_le _, h3⟩
  · exact ⟨by rw [h1], by rw [h2]; omega, h3⟩
theorem append_keep {V : TrayV} {S : SpoolV} {b : List Int} (hS : Sound V) (hB : BytesT V) (hb : Bytes b) (hl : V.left ≤ 9223372036854775807) :
    Sound (appendV V S b).1 ∧ BytesT (appendV V S b).1 ∧ (appendV V S b).1.kept.length = V.kept.length ∧ (appendV V S b).1.cache.length ≤ V.cache.length + nPieces b ∧ (appendV V S b).1.left ≤ 9223372036854775807 := by
  have h0 : Sound V ∧ BytesT V ∧ V.kept.length = V.kept.length ∧ V.cache.length ≤ V.cache.length + nPieces b ∧ V.left ≤ 9223372036854775807 := ⟨hS, hB, rfl, by omega, hl⟩
  obtain ⟨k1, k2, k3, k4, k5⟩ := writes_keep (S := S) (b := b) hS hB hb hl (nPieces b)
  obtain ⟨f1, f2, f3⟩ := flush_len (writesV V S b (nPieces b)).1
  unfold appendV
  split
  · exact h0
  · split
    · exact h0
    · split
      · exact h0
      · split
        · exact ⟨k1, k2, k3, k4, k5⟩
        · split
          · exact ⟨k1.flush, k2.flush, f1.trans k3, Nat.le_trans f2 k4, f3 k5⟩
          · exact ⟨k1.flush, k2.flush, f1.trans k3, Nat.le_trans f2 k4, f3 k5⟩
theorem append_ring {V : TrayV} {S : SpoolV} {b : List Int} : (appendV V S b).2.1.first = S.first ∧ (appendV V S b).2.1.count = S.count ∧ (appendV V S b).2.1.epoch = S.epoch ∧ (appendV V S b).2.1.head = S.head := by
  unfold appendV
  split
  · exact ⟨rfl, rfl, rfl, rfl⟩
  · split
    · exact ⟨rfl, rfl, rfl, rfl⟩
    · split
      · exact ⟨rfl, rfl, rfl, rfl⟩
      · split
        · exact ⟨rfl, rfl, rfl, rfl⟩
        · split <;> exact ⟨rfl, rfl, rfl, rfl⟩
theorem append_fit {V : TrayV} {S : SpoolV} {b : List Int} (hF : Fit S) (ht : S.tail ≤ 140737480000000) : Fit (appendV V S b).2.1 := by
  obtain ⟨h1, h2, h3, h4, h5⟩ := hF
  unfold appendV
  split
  · exact ⟨h1, h2, h3, h4, h5⟩
  next hl =>
    split
    · exact ⟨h1, h2, h3, h4, h5⟩
    next hr =>
      unfold roomV at hr
      split
      · exact ⟨h1, h2, h3, h4, h5⟩
      · split
        · exact ⟨h1, h2, h3, h4, h5⟩
        · split
          · exact ⟨h1, h2, h3, h4, h5⟩
          · exact ⟨h1, h2, h3, ⟨h4.1, by show S.head ≤ S.tail + _; omega⟩, by show S.tail + _ ≤ _; omega, by show S.tail + _ - S.head ≤ S.count; omega⟩
/-- A tray of the law's own. -/
structure TrAt (w0 w : World) (t : Nat) (V : TrayV) : Prop where mk ::
  tray : ∃ P, TAt P w t V ∧ ∀ j, P j → w0.heap.size ≤ j
  sound : Sound V
  bytes : BytesT V
  left : V.left ≤ 9223372036854775807
  low : Below w0.heap.size w0 w
/-- A spool of the law's own. -/
structure SAt (w0 w : World) (s t : Nat) (V : TrayV) (S : SpoolV) : Prop where mk ::
  tray : ∃ P, TAt P w t V ∧ ¬ P s ∧ ∀ j, P j → w0.heap.size ≤ j
  sound : Sound V
  bytes : BytesT V
  left : V.left ≤ 9223372036854775807
  low : Below w0.heap.size w0 w
  blk : Blk w s TSp (spoolC t S)
  new : w0.heap.size ≤ s
  fit : Fit S
  right : S.first + S.count ≤ V.kept.length
section
variable {w0 w w1 : World} {s t : Nat} {V : TrayV} {S : SpoolV}
theorem TrAt.below (h : TrAt w0 w t V) (hb : Below w.heap.size w w1) : TrAt w0 w1 t V := by
  obtain ⟨⟨P, h1, h2⟩, h3, h4, h5, h6⟩ := h
  exact ⟨⟨P, h1.below hb, h2⟩, h3, h4, h5, h6.trans (hb.mono h6.size)⟩
theorem SAt.below (h : SAt w0 w s t V S) (hb : Below w.heap.size w w1) : SAt w0 w1 s t V S := by
  obtain ⟨⟨P, h1, h2, h3⟩, h4, h5, h6, h7, h8, h9, h10, h11⟩ := h
  exact ⟨⟨P, h1.below hb, h2, h3⟩, h4, h5, h6, h7.trans (hb.mono h7.size), h8.below hb, h9, h10, h11⟩
theorem SAt.tr (h : SAt w0 w s t V S) : TrAt w0 w t V := by
  obtain ⟨⟨P, h1, h2, h3⟩, h4, h5, h6, h7, h8, h9, h10, h11⟩ := h
  exact ⟨⟨P, h1, h3⟩, h4, h5, h6, h7⟩
theorem tr_new (n : Nat) (hn : 4 ≤ n) (hn2 : n ≤ 4096) (w0 w : World) (hb : Below w0.heap.size w0 w) :
    Calls Try.prog 12 #[.int .i64 (n : Int)] w fun e w' => ∃ t, e = .returned (.tuple #[ptrT t, .int .i64 0]) ∧ TrAt w0 w' t (newV n) ∧ Below w.heap.size w w' := by
  refine (new_calls (fun j => w0.heap.size ≤ j) n hn hn2 w (fun j hj => Nat.le_trans hb.size hj)).mono ?_
  rintro e w' ⟨t, rfl, hT, hb'⟩
  exact ⟨t, rfl, ⟨⟨_, hT, fun j h => h⟩, Sound.new hn2, BytesT.new n, by show (-1 : Int) ≤ _; decide, hb.trans (hb'.mono hb.size)⟩, hb'⟩
theorem tr_open (H : TrAt w0 w t V) (hcl : V.cache.length ≤ 900000000) (a b h ep : Int) :
    Calls Try.prog 16 #[ptrT t, .agg #[.int .i64 a, .int .i64 b], .int .i64 h, .int .i64 ep] w fun e w' => Below w.heap.size w w' ∧ ((openOk V a b h ep = false ∧ e = .returned (.tuple #[.pointer none, .slice none 0 0, .int .i64 1])) ∨
      (openOk V a b h ep = true ∧ ∃ s v, e = .returned (.tuple #[ptrT s, v, .int .i64 0]) ∧ w.heap.size ≤ s ∧ Recs w' w.heap.size v (opened V a b h ep).1 ∧ Blk w' s TSp (spoolC t ⟨a, b, ep, h, (opened V a b h ep).2, false⟩) ∧ (Fit ⟨a, b, ep, h, (opened V a b h ep).2, false⟩ → SAt w0 w' s t V ⟨a, b, ep, h, (opened V a b h ep).2, false⟩))) := by
  obtain ⟨⟨P, h1, h2⟩, h3, h4, h5, h6⟩ := H
  refine (open_calls P t V a b h ep w h1 h3 (by omega) h4).mono ?_
  rintro e w' ⟨hb, hp⟩
  refine ⟨hb, ?_⟩
  rcases hp with hp | ⟨ho, s, v, he, hs, hr, hB⟩
  · exact .inl hp
  · have ⟨hF, hR, _⟩ := open_facts ho h3.len
    refine .inr ⟨ho, s, v, he, hs, hr, hB, fun hfit => ⟨⟨fun j => P j ∧ j < w.heap.size, h1.trim.below hb, fun h => by have := h.2; omega, fun j h => h2 j h.1⟩, h3, h4, h5, h6.trans (hb.mono h6.size), hB, Nat.le_trans h6.size hs, hfit, hR⟩⟩
theorem sat_append (H : SAt w0 w s t V S) (hb : Below w.heap.size w w1) (hcl : V.cache.length ≤ 900000000) (ht : S.tail ≤ 140737480000000) (b : List Int) (A : Option Addr) (n c : Nat) (hby : Bytes b) (hc : n ≤ c) (hr : ReadsInt w1 .u8 A n b) (hA : ∀ ad, A = some ad → 0 < n → ad.block < w0.heap.size ∨ w.heap.size ≤ ad.block) (hn9 : n ≤ 1000000000) :
    Calls Try.prog 20 #[ptrT s, .slice A n c] w1 fun e w' => e = .returned (.int .i64 (appendV V S b).2.2) ∧ SAt w0 w' s t (appendV V S b).1 (appendV V S b).2.1 := by
  have H1 := H.below hb
  obtain ⟨⟨P, h1, h2, h3⟩, h4, h5, h6, h7, h8, h9, h10, h11⟩ := H
  have hk : 0 < V.kept.length := by have := h10.count; have := h10.first; omega
  have hs := h8.lt
  refine (append_calls (fun j => P j ∧ j < w.heap.size) s t V S b A n c w1 (h1.trim.below hb) (fun h => h2 h.1) h4 h5 hcl h6 hk h10 H1.blk hby hc hr (fun ad e h0 h => ?_) hn9 ht).mono ?_
  · rcases hA ad e h0 with h5 | h5
    · rcases h with h | h
      · have := h3 _ h.1; omega
      · omega
    · rcases h with h | h
      · have := h.2; omega
      · omega
  · rintro e w' ⟨rfl, hT, hB, hO⟩
    obtain ⟨k1, k2, k3, k4, k5⟩ := append_keep (S := S) h4 h5 hby h6
    obtain ⟨r1, r2, r3, r4⟩ := append_ring (V := V) (S := S) (b := b)
    have hw01 := H1.low
    refine ⟨rfl, ⟨_, hT, ?_, ?_⟩, k1, k2, k5, hw01.trans (hO.below hw01.size (fun j h => ?_)), hB, h9, append_fit h10 ht, by rw [r1, r2, k3]; exact h11⟩
    · intro h
      have := hb.size
      rcases h with h | h
      · exact h2 h.1
      · omega
    · intro j h
      rcases h with h | h
      · exact h3 j h.1
      · have := hw01.size; omega
    · rcases h with h | h
      · exact h3 j h.1
      · subst h; exact h9
theorem sat_room (H : SAt w0 w s t V S) : Calls Try.prog 21 #[ptrT s] w fun e w' => e = .returned (.int .i64 (roomV S)) ∧ Below w.heap.size w w' := room_calls s t S w H.fit H.blk
theorem sat_cut (H : SAt w0 w s t V S) : Calls Try.prog 22 #[ptrT s] w fun e w' => e = .returned (.tuple #[]) ∧ SAt w0 w' s t V { S with head := S.tail } := by
  refine (cut_calls s t S w H.blk).mono ?_
  rintro e w' ⟨rfl, hB, hO⟩
  obtain ⟨⟨P, h1, h2, h3⟩, h4, h5, h6, h7, h8, h9, h10, h11⟩ := H
  refine ⟨rfl, ⟨P, h1.onlyP hO (fun j _ hp e => h2 (by rw [← e]; exact hp)), h2, h3⟩, h4, h5, h6, h7.trans (hO.below h7.size (fun j h => by subst h; exact h9)), hB, h9, ⟨h10.first, h10.count, h10.epoch, ⟨by have := h10.head; show 0 ≤ S.tail; omega, Int.le_refl _⟩, h10.tail.1, by have := h10.count; show S.tail - S.tail ≤ S.count; omega⟩, h11⟩
end
end Go.Proofs.Ytddhngalokmdoaa.Spo
