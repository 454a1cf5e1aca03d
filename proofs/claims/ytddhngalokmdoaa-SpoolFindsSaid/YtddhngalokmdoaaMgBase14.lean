/- Texts of this claim, merged: Sap, Copy. -/
import Derived.Test.YtddhngalokmdoaaMgBase13
import Derived.Test.YtddhngalokmdoaaMgBase1
import Derived.Laws.CopyOwn
/- A record is appended: Append. -/
namespace Go.Proofs.Ytddhngalokmdoaa.Spo
open Go.RowKit Go.Proofs.YtddhngalokmdoaaW.PrintWords Go.Proofs.YtddhngalokmdoaaW.PrintLast Go.Proofs.YtddhngalokmdoaaW.PrintMore Go.Proofs.Ytddhngalokmdoaa.Arr Go.Proofs.Ytddhngalokmdoaa.PSpoolPlays
set_option linter.unusedVariables false
set_option linter.unusedSimpArgs false

def nPieces (b : List Int) : Nat := max 1 ((b.length + 107) / 108)
def chunkB (b : List Int) (i : Nat) : List Int := (b.take (min (108 * (i + 1)) b.length)).drop (108 * i)
def chunkP (S : SpoolV) (b : List Int) (i : Nat) : PieceV := ⟨S.epoch, S.tail + i, i, nPieces b, chunkB b i⟩
def writesV (V : TrayV) (S : SpoolV) (b : List Int) : Nat → TrayV × Int
  | 0 => (V, 0)
  | k + 1 => if (writesV V S b k).2 = 0 then writeV (writesV V S b k).1 (onV S (S.tail + k)) (bytesV (chunkP S b k)) else writesV V S b k
def appendV (V : TrayV) (S : SpoolV) (b : List Int) : TrayV × SpoolV × Int :=
  if 60000 < b.length then (V, S, 1) else if roomV S < nPieces b then (V, S, 3) else if S.dead = true then (V, S, 20) else
    if (writesV V S b (nPieces b)).2 ≠ 0 then ((writesV V S b (nPieces b)).1, { S with dead := true }, (writesV V S b (nPieces b)).2) else
      if (flushV (writesV V S b (nPieces b)).1).2 ≠ 0 then ((flushV (writesV V S b (nPieces b)).1).1, { S with dead := true }, (flushV (writesV V S b (nPieces b)).1).2) else
        ((flushV (writesV V S b (nPieces b)).1).1, { S with tail := S.tail + nPieces b, dead := false }, 0)
theorem chunkB_length (b : List Int) (i : Nat) : (chunkB b i).length ≤ 108 := by
  unfold chunkB
  rw [List.length_drop, List.length_take]
  omega
theorem chunkB_bytes {b : List Int} (h : Bytes b) (i : Nat) : Bytes (chunkB b i) := (h.take _).drop _
theorem writes_stop {V : TrayV} {S : SpoolV} {b : List Int} {i : Nat} (h : (writesV V S b i).2 ≠ 0) : ∀ d, writesV V S b (i + d) = writesV V S b i
  | 0 => rfl
  | d + 1 => by
    have ih := writes_stop h d
    show writesV V S b (i + d + 1) = _
    rw [writesV, ih, if_neg h]
theorem write_len (V : TrayV) (at_ : Int) (b : List Int) : (writeV V at_ b).1.kept.length = V.kept.length ∧ (writeV V at_ b).1.cache.length ≤ V.cache.length + 1 ∧ (V.left ≤ 9223372036854775807 → (writeV V at_ b).1.left ≤ 9223372036854775807) := by
  unfold writeV
  split
  · exact ⟨rfl, Nat.le_succ _, fun h => h⟩
  · obtain ⟨h1, h2⟩ := step_kept V
    have h3 : V.left ≤ 9223372036854775807 → (stepV V).1.left ≤ 9223372036854775807 := by
      unfold stepV
      split
      · exact fun h => h
      · split
        · intro h; show V.left - 1 ≤ _; omega
        · exact fun h => h
    split
    · exact ⟨by show (stepV V).1.kept.length = _; rw [h1], by simp, h3⟩
    · exact ⟨by rw [h1], by rw [h2]; omega, h3⟩
theorem BytesT.step {V : TrayV} (h : BytesT V) : BytesT (stepV V).1 := by
  obtain ⟨h1, h2⟩ := step_kept V
  exact ⟨by rw [h1]; exact h.kept, by rw [h2]; exact h.cache⟩
theorem padB_bytes {b : List Int} (h : Bytes b) : Bytes (padB b) := h.append (Bytes.zeros _)
theorem BytesT.write {V : TrayV} (h : BytesT V) (at_ : Int) {b : List Int} (hb : Bytes b) : BytesT (writeV V at_ b).1 := by
  unfold writeV
  split
  · exact h
  · split
    · refine ⟨h.step.kept, fun x hx => ?_⟩
      rcases List.mem_append.1 hx with hx | hx
      · exact h.cache x hx
      · obtain rfl := List.mem_singleton.1 hx
        exact padB_bytes hb
    · exact h.step
theorem settle_bytes {l : List (Int × List Int)} (hl : ∀ x, x ∈ l → Bytes x.2) : ∀ k : List (List Int), (∀ b, b ∈ k → Bytes b) → ∀ b, b ∈ settleV k l → Bytes b := by
  induction l with
  | nil => intro k h; exact h
  | cons a l ih =>
    intro k h
    refine ih (fun x hx => hl x (by simp [hx])) (k.set a.1.toNat a.2) fun b hb => ?_
    rcases List.mem_or_eq_of_mem_set hb with h1 | h1
    · exact h b h1
    · rw [h1]; exact hl a (by simp)
theorem BytesT.flush {V : TrayV} (h : BytesT V) : BytesT (flushV V).1 := by
  unfold flushV
  split
  · exact ⟨settle_bytes h.cache _ h.kept, fun x hx => by cases hx⟩
  · exact h.step
theorem BytesT.lose {V : TrayV} (h : BytesT V) (c : List Bool) : BytesT (loseV V c) := ⟨settle_bytes (fun x hx => h.cache x (chosen_mem _ _ x hx)) _ h.kept, fun x hx => by cases hx⟩
theorem BytesT.power {V : TrayV} (h : BytesT V) (n : Int) : BytesT (powerV V n).1 := by
  unfold powerV
  split
  · exact h
  · exact ⟨h.kept, h.cache⟩
theorem BytesT.new (n : Nat) : BytesT (newV n) := ⟨fun b hb => by rw [(List.mem_replicate.1 hb).2]; exact Bytes.zeros _, fun x hx => by cases hx⟩
/-- What holds of the tray behind some writes. -/
theorem writes_keep {V : TrayV} {S : SpoolV} {b : List Int} (hS : Sound V) (hB : BytesT V) (hb : Bytes b) (hl : V.left ≤ 9223372036854775807) : ∀ k, Sound (writesV V S b k).1 ∧ BytesT (writesV V S b k).1 ∧ (writesV V S b k).1.kept.length = V.kept.length ∧ (writesV V S b k).1.cache.length ≤ V.cache.length + k ∧ (writesV V S b k).1.left ≤ 9223372036854775807
  | 0 => ⟨hS, hB, rfl, Nat.le_refl _, hl⟩
  | k + 1 => by
    obtain ⟨h1, h2, h3, h4, h5⟩ := writes_keep hS hB hb hl k
    rw [writesV]
    split
    · obtain ⟨k1, k2, k3⟩ := write_len (writesV V S b k).1 (onV S (S.tail + k)) (bytesV (chunkP S b k))
      exact ⟨h1.write _ _, h2.write _ (bytesV_bytes (chunkB_bytes hb k)), by rw [k1]; exact h3, by omega, k3 h5⟩
    · exact ⟨h1, h2, h3, by omega, h5⟩
theorem pieces_calls (b : List Int) (hl : b.length ≤ 1000000000) (A : Option Addr) (n c : Nat) (hn : b.length = n) (hc : n ≤ c) (w : World) (h : ReadsInt w .u8 A n b) :
    Calls Try.prog 40 #[.slice A n c] w fun e w' => e = .returned (.int .i64 (nPieces b : Int)) ∧ Below w.heap.size w w' := by
  subst hn
  refine (spool_pieces.calls A c b (nPieces b : Int) w (Kd.C_of_reads (d := (0 : Int)) h) hc ?_)
  rw [pieces_f b hl]
  congr 1
  unfold nPieces
  omega
theorem reads_only {w w' : World} {Q : Nat → Prop} {A : Option Addr} {n : Nat} {b : List Int} (h : ReadsInt w .u8 A n b) (ho : OnlyP Q w w') (hn : ∀ ad, A = some ad → 0 < n → ¬ Q ad.block) : ReadsInt w' .u8 A n b := ⟨h.1, h.2.1, fun h0 => by
  obtain ⟨ad, e, hc⟩ := h.2.2 h0
  refine ⟨ad, e, fun j hj => ?_⟩
  have h1 := hc j hj
  have hlt : (ad.add j).block < w.heap.size := World.block_lt_of_cell? w _ h1
  rw [← h1]
  unfold World.cell?
  rw [ho.block _ hlt (by rw [add_block]; exact hn ad e h0)]⟩
theorem row_form {w : World} {base : Nat} {ok : Nat → Prop} {v : Value} {xs : List Int} (h : Kd.R (Kd.int .u8) 5 w base ok v xs) (hn : 0 < xs.length) : ∃ g c, v = .slice (some ⟨g, 0, none⟩) xs.length c ∧ base ≤ g ∧ g < w.heap.size ∧ xs.length ≤ c ∧ ReadsInt w .u8 (some ⟨g, 0, none⟩) xs.length xs := by
  obtain ⟨A, c, h1, h2, h3⟩ := Kd.R_reads h
  obtain ⟨inner, ho⟩ := Kd.R_own h
  rcases ho.2 with ⟨e, h4⟩ | ⟨g, cap, cur, e, hg, hh, -⟩
  · omega
  · rw [h1] at e
    injection e with e1 e2 e3
    subst e1
    exact ⟨g, c, h1, hg, (Blk.mk hh).lt, h2, Kd.reads_of_C (d := (0 : Int)) h3⟩
/-- What the calls of the head tell. -/
def SW (a : Int) (bs : List Int) (B : Nat) (f : FuncId) (args : Array Value) (u : Value) (w : World) : Prop :=
  (f = 41 → u = .int .i64 a) ∧ (f = 42 → ∃ g c, u = .slice (some ⟨g, 0, none⟩) 128 c ∧ B ≤ g ∧ g < w.heap.size ∧ 128 ≤ c ∧ ReadsInt w .u8 (some ⟨g, 0, none⟩) 128 bs)
theorem sw_stb {a : Int} {bs : List Int} {B : Nat} {f : FuncId} {args : Array Value} {u : Value} : Qw.Stb (SW a bs B f args u) := fun w w' h hb => ⟨h.1, fun e => by
  obtain ⟨g, c, h1, h2, h3, h4, h5⟩ := h.2 e
  exact ⟨g, c, h1, h2, Nat.lt_of_lt_of_le h3 hb.size, h4, h5.below hb⟩⟩
/-- What Append returns. -/
def AppPost (P : Nat → Prop) (s t : Nat) (V : TrayV) (S : SpoolV) (b : List Int) (w : World) (e : Ending) (w' : World) : Prop :=
  e = .returned (.int .i64 (appendV V S b).2.2) ∧ TAt (fun j => P j ∨ w.heap.size ≤ j) w' t (appendV V S b).1 ∧ Blk w' s TSp (spoolC t (appendV V S b).2.1) ∧ OnlyP (fun j => P j ∨ j = s) w w'
set_option maxHeartbeats 16000000 in
set_option maxRecDepth 100000 in
theorem append_calls (P : Nat → Prop) (s t : Nat) (V : TrayV) (S : SpoolV) (b : List Int) (A : Option Addr) (n c : Nat) (w : World) (H : TAt P w t V) (hPs : ¬ P s) (hS : Sound V) (hB : BytesT V) (hcl : V.cache.length ≤ 900000000) (hl : V.left ≤ 9223372036854775807) (hk : 0 < V.kept.length)
    (hF : Fit S) (HS : Blk w s TSp (spoolC t S)) (hb : Bytes b) (hc : n ≤ c) (hr : ReadsInt w .u8 A n b) (hA : ∀ ad, A = some ad → 0 < n → ¬ (P ad.block ∨ ad.block = s)) (hn9 : n ≤ 1000000000) (ht9 : S.tail ≤ 140737480000000) :
    Calls Try.prog 20 #[ptrT s, .slice A n c] w (AppPost P s t V S b w) := by
  have hnb := hr.1
  have KP := Aside0.mk (pieces_calls b (by omega) A n c hnb hc w hr)
  have KROOM := Aside0.mk (fun w' (h : Blk w' s TSp (spoolC t S)) => room_calls s t S w' hF h)
  have ho : OnlyP (fun j => P j ∨ j = s) w w := OnlyP.refl _ _
  obtain ⟨N, hN⟩ : ∃ N, nPieces b = N := ⟨_, rfl⟩
  rw [hN] at KP
  have HN := Aside0.mk hN
  unfold AppPost
  obtain ⟨rm, hrm⟩ : ∃ rm, roomV S = rm := ⟨_, rfl⟩
  rw [hrm] at KROOM
  have HRM := Aside0.mk hrm
  have HH := Aside0.mk (⟨H, hS, hB, hcl, hl, hk⟩ : _ ∧ _ ∧ _ ∧ _ ∧ _ ∧ _)
  have HX := Aside0.mk (⟨hPs, hF, hb, hr, hA⟩ : _ ∧ _ ∧ _ ∧ _ ∧ _)
  have HS0 := Aside0.mk HS
  have HC := Aside0.mk hc
  clear H hPs hS hB hcl hl hk hF HS hb hr hA ho hN hrm hc
  go_enter Try.func20, Try.ntmps20
  go_wp2_with fail
  refine KP.out.mono ?_
  rintro e w1 ⟨rfl, b1⟩
  have B1 := Aside0.mk b1
  have S1 := Aside0.mk (HS0.out.below b1)
  clear b1 KP
  by_cases hlen : 60000 < b.length
  · have t1 : decide ((n : Int) > 60000) = true := decide_eq_true (by omega)
    have HAp := Aside0.mk (show appendV V S b = (V, S, 1) by unfold appendV; rw [if_pos hlen])
    go_wp2
    go_ret
    rw [HAp.out]
    exact ⟨rfl, (HH.out.1.below B1.out).mono (fun j _ hj => .inl hj), S1.out, OnlyP.of_below B1.out⟩
  have t1 : decide ((n : Int) > 60000) = false := decide_eq_false (by omega)
  have KR := Aside0.mk (KROOM.out w1 S1.out)
  go_wp2_with fail
  refine KR.out.mono ?_
  rintro e w2 ⟨rfl, b2⟩
  have B2 := Aside0.mk (B1.out.trans (b2.mono B1.out.size))
  have hs2 := S1.out.below b2
  have S2 := Aside0.mk hs2
  clear b2 KR KROOM S1 B1
  by_cases hroom : rm < (N : Int)
  · have t2 : decide ((N : Int) > rm) = true := decide_eq_true (by omega)
    have t3 : decide (rm < (N : Int)) = true := decide_eq_true hroom
    have HAp := Aside0.mk (show appendV V S b = (V, S, 3) by unfold appendV; rw [if_neg hlen, HRM.out, HN.out, if_pos hroom])
    clear hs2 hroom
    go_wp2
    go_ret
    rw [HAp.out]
    exact ⟨rfl, (HH.out.1.below B2.out).mono (fun j _ hj => .inl hj), S2.out, OnlyP.of_below B2.out⟩
  have t2 : decide ((N : Int) > rm) = false := decide_eq_false (by omega)
  have t3 : decide (rm < (N : Int)) = false := decide_eq_false hroom
  have f6 := hs2.frozen 6
  have l6 := hs2.lt
  cases hd : S.dead with
  | true =>
    have HAp := Aside0.mk (show appendV V S b = (V, S, 20) by unfold appendV; rw [if_neg hlen, HRM.out, HN.out, if_neg hroom, if_pos hd])
    have c6 : w2.cell? ⟨s, 6, none⟩ = some (.bool true) := by rw [hs2.cell 6, ← hd]; rfl
    clear hs2 hroom hd
    go_wp2
    go_ret
    rw [HAp.out]
    exact ⟨rfl, (HH.out.1.below B2.out).mono (fun j _ hj => .inl hj), S2.out, OnlyP.of_below B2.out⟩
  | false =>
  have c6 : w2.cell? ⟨s, 6, none⟩ = some (.bool false) := by rw [hs2.cell 6, ← hd]; rfl
  have HAp := Aside0.mk (show appendV V S b = if (writesV V S b N).2 ≠ 0 then ((writesV V S b N).1, { S with dead := true }, (writesV V S b N).2) else
      if (flushV (writesV V S b N).1).2 ≠ 0 then ((flushV (writesV V S b N).1).1, { S with dead := true }, (flushV (writesV V S b N).1).2) else
        ((flushV (writesV V S b N).1).1, { S with tail := S.tail + N, dead := false }, 0) by
    unfold appendV
    rw [if_neg hlen, HRM.out, HN.out, if_neg hroom, if_neg (by rw [hd]; decide)])
  have HD := Aside0.mk hd
  have hNB : N ≤ 600 ∧ n ≤ 60000 ∧ (N : Int) ≤ S.count ∧ S.tail + N ≤ 140737480005000 := by
    have h1 := HN.out
    unfold nPieces at h1
    have h2 := HRM.out
    unfold roomV at h2
    have h3 := HX.out.2.1
    have h4 := h3.tail
    have h5 := h3.head
    have h6 := h3.count
    omega
  have HNB := Aside0.mk hNB
  clear hs2 hroom hd hNB hlen t1
  go_wp2_with fail
  have hL6 : Blk (w2.setCell ⟨s, 6, none⟩ (.bool true)) s TSp (spoolC t { S with dead := true }) := by simpa using S2.out.set 6 (.bool true)
  have hO6 : OnlyP (fun j => P j ∨ j = s ∨ w.heap.size ≤ j) w (w2.setCell ⟨s, 6, none⟩ (.bool true)) := (OnlyP.of_below B2.out).setCell (p := ⟨s, 6, none⟩) (.inl (.inr (.inl rfl))) _
  have hT6 : TAt (fun j => P j ∨ w.heap.size ≤ j) (w2.setCell ⟨s, 6, none⟩ (.bool true)) t V := by
    have h1 := HH.out.1.below B2.out
    exact (h1.onlyP (Q := fun j => j = s) ((OnlyP.refl (fun j => j = s) w2).setCell (p := ⟨s, 6, none⟩) (.inl rfl) _) (fun j _ hp e => HX.out.1 (by rw [← e]; exact hp))).mono (fun j _ hp => .inl hp)
  have L6 := Aside0.mk hL6
  have O6 := Aside0.mk hO6
  have T6 := Aside0.mk hT6
  have hw1 : IntKind.i64.wrap (0 + 1) = 1 := rfl
  clear hL6 hO6 hT6 c6 f6 l6 t2 t3 hw1
  go_loopw [30] (fun v30 wr => ∃ i : Nat, v30 = .int .i64 (i : Int) ∧ Aside0 (i ≤ N) ∧ Aside0 ((writesV V S b i).2 = 0) ∧ Aside0 (TAt (fun j => P j ∨ w.heap.size ≤ j) wr t (writesV V S b i).1) ∧ Aside0 (Blk wr s TSp (spoolC t { S with dead := true })) ∧ Aside0 (OnlyP (fun j => P j ∨ j = s ∨ w.heap.size ≤ j) w wr)) (fun v30 _ => N - (intOf v30).toNat)
  case atStart => exact ⟨0, rfl, ⟨Nat.zero_le _⟩, ⟨rfl⟩, T6, L6, O6⟩
  case round =>
    obtain ⟨i, rfl, hin, hz, hT, hL, hO⟩ := hrel
    by_cases hi : i < N
    · have t1 : decide ((i : Int) < (N : Int)) = true := decide_eq_true (by omega)
      have t1n : decide (i < N) = true := decide_eq_true hi
      have hw : IntKind.i64.wrap ((i : Int) + 1) = ((i + 1 : Nat) : Int) := by rw [show ((i : Int) + 1) = ((i + 1 : Nat) : Int) by omega]; exact IntWalk.i64_in _ (by have := HNB.out; omega)
      have hls := hL.out.lt
      have HI := Aside0.mk hi
      obtain ⟨lo, hlo⟩ : ∃ lo : Nat, 108 * i = lo := ⟨_, rfl⟩
      obtain ⟨up, hup⟩ : ∃ up : Nat, 108 * (i + 1) = up := ⟨_, rfl⟩
      obtain ⟨hi2, hhi⟩ : ∃ hi2 : Nat, min up n = hi2 := ⟨_, rfl⟩
      have hlohi : lo ≤ hi2 ∧ hi2 ≤ n := by
        have h1 := HN.out
        unfold nPieces at h1
        omega
      have m1 : IntKind.i64.wrap ((i : Int) * 108) = (lo : Int) := by rw [show ((i : Int) * 108) = (lo : Int) by omega]; exact IntWalk.i64_in _ (by have := HNB.out; omega)
      have m2 : IntKind.i64.wrap (((i + 1 : Nat) : Int) * 108) = (up : Int) := by rw [show (((i + 1 : Nat) : Int) * 108) = (up : Int) by omega]; exact IntWalk.i64_in _ (by have := HNB.out; omega)
      obtain ⟨i1, hi1⟩ : ∃ i1 : Nat, i + 1 = i1 := ⟨_, rfl⟩
      rw [hi1] at hw m2
      have m3 : IntKind.i64.wrap (S.tail + (i : Int)) = S.tail + (i : Int) := IntWalk.i64_in _ (by have := HNB.out; have := HX.out.2.1.head; omega)
      have hmin : ∀ ats ty, Builtin.min_ ats ty #[.int .i64 (up : Int), .int .i64 (n : Int)] = pure (.int .i64 (hi2 : Int)) := by
        intro ats ty
        rw [min_two, min2_int, pure_bind]
        congr 2
        split <;> omega
      obtain ⟨iu, hiu, hiu2⟩ := Option.map_eq_some_iff.1 (show (Try.prog.info? TU8).map (·.size) = some 1 by kernel_rfl)
      obtain ⟨A2, hsl, hrd, hcap⟩ := print_mid_int (P := Try.prog) (k := .u8) TSl TU8 Try.underlying22 hiu hiu2 A c b (lo : Int) (hi2 : Int) (by omega) (by omega) (by omega) (by have := HC.out; omega)
      have hch : (b.take (hi2 : Int).toNat).drop (lo : Int).toNat = chunkB b i := by
        unfold chunkB
        rw [hlo, hup, hnb, hhi, Int.toNat_natCast, Int.toNat_natCast]
      rw [hch] at hsl hrd hcap
      rw [hnb] at hsl
      rw [Int.toNat_natCast] at hsl hcap
      obtain ⟨c2, hc2⟩ : ∃ c2, c - lo = c2 := ⟨_, rfl⟩
      rw [hc2] at hsl hcap
      obtain ⟨cl, hcl2⟩ : ∃ cl, (chunkB b i).length = cl := ⟨_, rfl⟩
      rw [hcl2] at hsl hcap
      have HCH := Aside0.mk (⟨hrd, hcap, hcl2, hi1⟩ : _ ∧ _ ∧ _ ∧ _)
      clear hiu hiu2 hch hcap hrd hlohi hhi hup hlo hi hc2 hcl2 hi1
      go_wp2_with fail
      have HST : Qw.Stb (fun w' => Blk w' s TSp (spoolC t { S with dead := true }) ∧ Below wr.heap.size wr w') := fun w1 w2 h hb => ⟨h.1.below hb, h.2.trans (hb.mono h.2.size)⟩
      have HE0 : Blk wr.drew s TSp (spoolC t { S with dead := true }) ∧ Below wr.heap.size wr wr.drew := ⟨hL.out.drew, (Below.refl _ _).drew⟩
      refine Qw.wp_region_tail (fun _ _ _ _ => True) _ HST 24 (by kernel_rfl) (by kernel_rfl) HE0 ?_
      clear HST HE0
      simp only [List.take_succ_cons, List.take_zero, List.drop_succ_cons, List.drop_zero]
      iterate 23 ((first | (with_reducible refine Qw.w_val ⟨fun _ _ _ hF h w' h1 h2 => h w' h1 fun k => hF k _ (h2 k)⟩ ?_ (Qw.wanted_none rfl) ?_) | ((with_reducible refine Qw.w_val ⟨fun _ _ _ hF h w' h1 h2 => h w' h1 fun k => hF k _ (h2 k)⟩ ?_ ?_ ?_); (focus (exact fun _ => trivial)); (focus (exact Qg.wanted_on rfl rfl rfl)))); (try (focus (exact fun _ => trivial))); apply Exists.intro; refine ⟨?_, ?_⟩; (focus (intro w' hw' hp'; have d3 := hw'.1.cell 3; have d5 := hw'.1.cell 5; have dl := hw'.1.lt; go_simp; (first | done | (with_reducible rfl)))); intro K hK; go_simp; (first | (with_reducible refine hK _ ?_) | (refine hK _ ?_)); clear hK K)
      obtain ⟨R, hR⟩ : ∃ R : Value → World → Prop, R = fun u w' => ∃ m, u = .pointer (some ⟨m, 0, none⟩) ∧ wr.heap.size ≤ m ∧ Blk w' m TPi zP := ⟨_, rfl⟩
      have HSN : ∀ u, Qw.Stb (R u) := by
        subst hR
        intro u w1 w2 h hb
        obtain ⟨m, e, h1, h2⟩ := h
        exact ⟨m, e, h1, h2.below hb⟩
      have hR' : ∀ u w', R u w' ↔ ∃ m, u = .pointer (some ⟨m, 0, none⟩) ∧ wr.heap.size ≤ m ∧ Blk w' m TPi zP := fun u w' => by rw [hR]
      clear hR
      with_reducible refine Qw.w_new R HSN (Qw.wanted_none rfl) ⟨?_, ?_⟩
      · intro w' hw'
        refine ⟨.pointer (some ⟨w'.heap.size, 0, none⟩), w'.alloc (.cells zP TPi), ?_, (Below.refl _ _).alloc (Nat.le_refl _) _, (hR' _ _).2 ⟨w'.heap.size, rfl, hw'.2.size, Blk.new _ _ _⟩⟩
        go_simp
      rintro u7 ⟨wv9, -, -, hu9⟩
      obtain ⟨m, rfl, hm, -⟩ := (hR' _ _).1 hu9
      clear hu9 wv9
      intro K hK
      go_simp
      refine hK _ ?_
      clear hK K
      ((with_reducible refine Qw.w_nil ?_); intro w' hw' hf')
      obtain ⟨m', e9, -, hM⟩ : ∃ m', Value.pointer (some ⟨m, 0, none⟩) = .pointer (some ⟨m', 0, none⟩) ∧ wr.heap.size ≤ m' ∧ Blk w' m' TPi zP := (hR' _ _).1 (hf' 23)
      obtain rfl : m = m' := by injection e9 with e9; injection e9 with e9; injection e9
      clear hf' hR' HSN R e9
      have hsm : s ≠ m := by omega
      have hL2 := hw'.1
      have hml := hM.lt
      have M0 := hM.cell 0
      have N0 := hM.frozen 0
      have M1 := hM.cell 1
      have N1 := hM.frozen 1
      have M2 := hM.cell 2
      have N2 := hM.frozen 2
      have M3 := hM.cell 3
      have N3 := hM.frozen 3
      have M4 := hM.cell 4
      have N4 := hM.frozen 4
      have B4 := Aside0.mk hw'.2
      have M4' := Aside0.mk hM
      have LL := Aside0.mk hL2
      obtain ⟨w4, rfl⟩ : ∃ w4, w4 = w' := ⟨_, rfl⟩
      clear hw' hM hL2 m1 m2 m3 hmin hsl t1 t1n hls
      go_upto_region 13 with fail
      obtain ⟨W5, hW5⟩ : ∃ W5, (((((w4.setCell ⟨m, 0, none⟩ (.int .i64 S.epoch)).setCell ⟨m, 1, none⟩ (.int .i64 (S.tail + (i : Int)))).setCell ⟨m, 2, none⟩ (.int .i64 (i : Int))).setCell ⟨m, 3, none⟩ (.int .i64 (N : Int))).setCell ⟨m, 4, none⟩ (.slice A2 cl c2)) = W5 := ⟨_, rfl⟩
      have hM5 : Blk W5 m TPi #[.int .i64 S.epoch, .int .i64 (S.tail + (i : Int)), .int .i64 (i : Int), .int .i64 (N : Int), .slice A2 cl c2] := by rw [← hW5]; exact blk_set5 M4'.out _ _ _ _ _
      have hL5 : Blk W5 s TSp (spoolC t { S with dead := true }) := by rw [← hW5]; exact blk_far5 LL.out hsm _ _ _ _ _
      have hb5 : Below wr.heap.size wr W5 := by rw [← hW5]; exact below_set5 B4.out hm _ _ _ _ _
      rw [hW5]
      have hrb : ReadsInt W5 .u8 A n b := (reads_only HX.out.2.2.2.1 hO.out (fun ad e h0 h => by
        rcases h with h | h | h
        · exact HX.out.2.2.2.2 ad e h0 (.inl h)
        · exact HX.out.2.2.2.2 ad e h0 (.inr h)
        · obtain ⟨ad', e', hc'⟩ := HX.out.2.2.2.1.2.2 h0
          rw [e] at e'
          cases e'
          have := World.block_lt_of_cell? w _ (hc' 0 h0)
          rw [add_block] at this
          omega)).below hb5
      have hrc : ReadsInt W5 .u8 A2 cl (chunkB b i) := by
        have := HCH.out.1 W5 (by rw [hnb]; exact hrb)
        rwa [HCH.out.2.2.1] at this
      have KB := Aside0.mk (fun w' (hb : Below W5.heap.size W5 w') => by
        have := bytes_calls (chunkP S b i) (chunkB_bytes HX.out.2.2.1 i) (chunkB_length b i) A2 c2 cl HCH.out.2.2.1 HCH.out.2.1 w' (hrc.below hb)
        rw [show (chunkP S b i).of = (N : Int) by show ((nPieces b : Nat) : Int) = _; rw [HN.out]] at this
        exact (this : Calls Try.prog 42 #[.agg #[.int .i64 S.epoch, .int .i64 (S.tail + (i : Int)), .int .i64 (i : Int), .int .i64 (N : Int), .slice A2 cl c2]] w' fun e w'' => ∃ v, e = .returned v ∧ Kd.R (Kd.int .u8) 5 w'' w'.heap.size (fun _ => True) v (bytesV (chunkP S b i)) ∧ Below w'.heap.size w' w''))
      have hcnt := HX.out.2.1.count
      have KO := Aside0.mk (fun w' => on_calls S.first S.count (S.tail + (i : Int)) w' (by have := HX.out.2.1.head; omega) (by have := HNB.out; have := HI.out; omega) HX.out.2.1.first hcnt)
      have hbl : (bytesV (chunkP S b i)).length = 128 := bytesV_length (chunkB_length b i)
      obtain ⟨bs, hbs⟩ : ∃ bs, bytesV (chunkP S b i) = bs := ⟨_, rfl⟩
      obtain ⟨a, ha⟩ : ∃ a, onV S (S.tail + (i : Int)) = a := ⟨_, rfl⟩
      rw [hbs] at KB hbl
      rw [show S.first + (S.tail + (i : Int)) % S.count = a from ha] at KO
      have HBS := Aside0.mk (⟨hbs, ha, hbl⟩ : _ ∧ _ ∧ _)
      have T5 := Aside0.mk (hT.out.below hb5)
      have B5 := Aside0.mk hb5
      have HST : Qw.Stb (fun w' => Blk w' s TSp (spoolC t { S with dead := true }) ∧ Blk w' m TPi #[.int .i64 S.epoch, .int .i64 (S.tail + (i : Int)), .int .i64 (i : Int), .int .i64 (N : Int), .slice A2 cl c2] ∧ Below W5.heap.size W5 w') := fun w1 w2 h hb => ⟨h.1.below hb, h.2.1.below hb, h.2.2.trans (hb.mono h.2.2.size)⟩
      have HE0 : Blk W5.drew s TSp (spoolC t { S with dead := true }) ∧ Blk W5.drew m TPi #[.int .i64 S.epoch, .int .i64 (S.tail + (i : Int)), .int .i64 (i : Int), .int .i64 (N : Int), .slice A2 cl c2] ∧ Below W5.heap.size W5 W5.drew := ⟨hL5.drew, hM5.drew, (Below.refl _ _).drew⟩
      clear hW5 hM5 hL5 hb5 hrb hrc hcnt hbs ha hbl hsm hm hml LL M4' B4 M0 M1 M2 M3 M4 N0 N1 N2 N3 N4
      refine Qw.wp_region_tail (SW a bs W5.heap.size) _ HST 13 (by kernel_rfl) (by kernel_rfl) HE0 ?_
      clear HST HE0
      simp only [List.take_succ_cons, List.take_zero, List.drop_succ_cons, List.drop_zero]
      iterate 10 ((first | (with_reducible refine Qw.w_val ⟨fun _ _ _ hF h w' h1 h2 => h w' h1 fun k => hF k _ (h2 k)⟩ ?_ (Qw.wanted_none rfl) ?_) | ((with_reducible refine Qw.w_val ⟨fun _ _ _ hF h w' h1 h2 => h w' h1 fun k => hF k _ (h2 k)⟩ ?_ ?_ ?_); (focus (exact fun _ => trivial)); (focus (exact Qg.wanted_on rfl rfl rfl)))); (try (focus (exact fun _ => trivial))); apply Exists.intro; refine ⟨?_, ?_⟩; (focus (intro w' hw' hp'; have d0 := hw'.1.cell 0; have d1 := hw'.1.cell 1; have d2 := hw'.1.cell 2; have dl := hw'.1.lt; have g1 := hw'.2.1.cell 1; have gl := hw'.2.1.lt; go_simp; (first | done | (with_reducible rfl)))); intro K hK; go_simp; (first | (with_reducible refine hK _ ?_) | (refine hK _ ?_)); clear hK K)
      ((with_reducible refine Qw.w_call ?_ ?_); (first | (focus (exact Qw.wanted_none rfl)) | (focus (exact Qg.wanted_on rfl rfl rfl))); apply Exists.intro; apply Exists.intro; refine ⟨?_, ?_, ?_, ?_⟩; (focus (intro w'; go_simp; (first | rfl | exact ⟨rfl, rfl⟩))); (focus (exact fun u => sw_stb)); (focus (intro w' hw' hp'; refine (KO.out w').mono ?_; rintro e w8 ⟨rfl, b8⟩; exact ⟨_, rfl, b8, ⟨fun _ => rfl, fun h => absurd h (by decide)⟩⟩)); rintro u8 ⟨wv8, -, -, hu8⟩; intro K hK; go_simp; (first | (with_reducible refine hK _ ?_) | (refine hK _ ?_)); clear hK K)
      obtain rfl := hu8.1 rfl
      clear hu8 wv8
      ((first | (with_reducible refine Qw.w_val ⟨fun _ _ _ hF h w' h1 h2 => h w' h1 fun k => hF k _ (h2 k)⟩ ?_ (Qw.wanted_none rfl) ?_) | ((with_reducible refine Qw.w_val ⟨fun _ _ _ hF h w' h1 h2 => h w' h1 fun k => hF k _ (h2 k)⟩ ?_ ?_ ?_); (focus (exact fun _ => trivial)); (focus (exact Qg.wanted_on rfl rfl rfl)))); (try (focus (exact fun _ => trivial))); apply Exists.intro; refine ⟨?_, ?_⟩; (focus (intro w' hw' hp'; have g0 := hw'.2.1.cell 0; have g1 := hw'.2.1.cell 1; have g2 := hw'.2.1.cell 2; have g3 := hw'.2.1.cell 3; have g4 := hw'.2.1.cell 4; have gl := hw'.2.1.lt; go_simp; (first | done | (with_reducible rfl)))); intro K hK; go_simp; (first | (with_reducible refine hK _ ?_) | (refine hK _ ?_)); clear hK K)
      ((with_reducible refine Qw.w_call ?_ ?_); (first | (focus (exact Qw.wanted_none rfl)) | (focus (exact Qg.wanted_on rfl rfl rfl))); apply Exists.intro; apply Exists.intro; refine ⟨?_, ?_, ?_, ?_⟩; (focus (intro w'; go_simp; (first | rfl | exact ⟨rfl, rfl⟩))); (focus (exact fun u => sw_stb)); (focus (intro w' hw' hp'; refine (KB.out w' hw'.2.2).mono ?_; rintro e w8 ⟨v8, rfl, hR8, b8⟩; obtain ⟨g8, c8, rfl, k1, k2, k3, k4⟩ := row_form hR8 (by rw [HBS.out.2.2]; decide); rw [HBS.out.2.2] at k3 k4; exact ⟨_, rfl, b8, ⟨fun h => absurd h (by decide), fun _ => ⟨g8, c8, by rw [HBS.out.2.2], Nat.le_trans hw'.2.2.size k1, k2, k3, k4⟩⟩⟩)); rintro u9 ⟨wv9, -, -, hu9⟩; intro K hK; go_simp; (first | (with_reducible refine hK _ ?_) | (refine hK _ ?_)); clear hK K)
      obtain ⟨g8, c8, rfl, hg8, -, hc8, -⟩ := hu9.2 rfl
      clear hu9 wv9
      ((with_reducible refine Qw.w_nil ?_); intro w' hw' hf')
      have hf9 : SW a bs W5.heap.size 42 #[.agg #[.int .i64 S.epoch, .int .i64 (S.tail + (i : Int)), .int .i64 (i : Int), .int .i64 (N : Int), .slice A2 cl c2]] (.slice (some ⟨g8, 0, none⟩) 128 c8) w' := hf' 12
      obtain ⟨g9, c9, e9, -, hlt9, -, hr9⟩ := hf9.2 rfl
      obtain ⟨rfl, rfl⟩ : g8 = g9 ∧ c8 = c9 := by simpa using e9
      obtain ⟨w6, rfl⟩ : ∃ w6, w6 = w' := ⟨_, rfl⟩
      have hT6 : TAt (fun j => ((P j ∨ w.heap.size ≤ j) ∧ j < W5.heap.size) ∨ w6.heap.size ≤ j) w6 t (writesV V S b i).1 := ((T5.out.mono (fun j hj hp => ⟨hp, hj⟩)).below hw'.2.2).mono (fun j _ hp => .inl hp)
      obtain ⟨ks, kb, kl, kc, kx⟩ := writes_keep (S := S) (b := b) HH.out.2.1 HH.out.2.2.1 HX.out.2.2.1 HH.out.2.2.2.2.1 i
      have KW := Aside0.mk (write_calls _ t (writesV V S b i).1 a bs (some ⟨g8, 0, none⟩) 128 c8 w6 hT6 kx hr9 (by have := HH.out.2.2.2.1; have := HNB.out; have := HI.out; omega) (fun ad e _ h => by
        cases e
        rcases h with h | h
        · exact absurd h.2 (by show ¬ g8 < _; omega)
        · exact absurd h (by show ¬ w6.heap.size ≤ g8; omega)) (fun j hj => .inr hj))
      have hnx : writesV V S b (i + 1) = writeV (writesV V S b i).1 a bs := by
        rw [writesV, if_pos hz.out, HBS.out.1, HBS.out.2.1]
      rw [← hnx] at KW
      have L6 := Aside0.mk hw'.1
      have B6 := Aside0.mk (B5.out.trans (hw'.2.2.mono B5.out.size))
      have SZ5 := Aside0.mk hw'.2.2.size
      clear hw' hf' hf9 e9 hr9 hT6 ks kb kl kc kx hnx KB KO hlt9 hg8
      go_wp2_with fail
      refine KW.out.mono ?_
      rintro e w7 ⟨rfl, hT7, hO7⟩
      have T7 := Aside0.mk (hT7.mono (Q := fun j => P j ∨ w.heap.size ≤ j) (fun j _ h => by
        rcases h with h | h
        · exact h.1
        · have := hO.out.size; have := B6.out.size; exact .inr (by omega)))
      have L7 := Aside0.mk (hO7.blk L6.out (fun h => by
        rcases h with h | h
        · exact HX.out.1 (h.1.resolve_right (by have := HS0.out.lt; omega))
        · exact absurd h (by have := L6.out.lt; omega)))
      have O7 := Aside0.mk ((hO.out.trans (OnlyP.of_below B6.out)).trans (hO7.mono (Q := fun j => P j ∨ j = s ∨ w.heap.size ≤ j) (fun j _ h => by
        rcases h with h | h
        · exact h.1.elim .inl (fun h => .inr (.inr h))
        · have := hO.out.size; have := B6.out.size; exact .inr (.inr (by omega)))))
      clear hT7 hO7 KW
      obtain ⟨cd, hcd⟩ : ∃ cd, (writesV V S b (i + 1)).2 = cd := ⟨_, rfl⟩
      rw [hcd]
      have HCD := Aside0.mk hcd
      clear hcd
      by_cases h0 : cd = 0
      · subst h0
        have i1e := HCH.out.2.2.2
        have HI1 := Aside0.mk i1e
        clear i1e
        go_wp2
        go_roundw
        case rel => exact ⟨i + 1, by rw [HI1.out], ⟨HI.out⟩, HCD, T7, L7, O7⟩
        case measure => have := HI.out; have := HI1.out; simp [intOf]; omega
      · have z1 : (cd != 0) = true := by simpa using h0
        have z2 : (cd == 0) = false := by simpa using h0
        have z3 : decide (cd = 0) = false := decide_eq_false h0
        have z4 : (cd = 0) = False := eq_false h0
        have HZ := Aside0.mk h0
        clear h0
        go_wp2
        go_ret
        have hst : writesV V S b N = writesV V S b (i + 1) := by
          have := writes_stop (V := V) (S := S) (b := b) (i := i + 1) (by rw [HCD.out]; exact HZ.out) (N - (i + 1))
          rw [show i + 1 + (N - (i + 1)) = N by have := HI.out; omega] at this
          exact this
        rw [HAp.out, if_pos (by rw [hst, HCD.out]; exact HZ.out), hst, HCD.out]
        exact ⟨rfl, T7.out, L7.out, O7.out.mono (fun j hj h => by
          rcases h with h | h | h
          · exact .inl h
          · exact .inr h
          · exact absurd hj (by omega))⟩
    · have t1 : decide ((i : Int) < (N : Int)) = false := decide_eq_false (by omega)
      have t1n : decide (i < N) = false := decide_eq_false hi
      obtain rfl : i = N := by have := hin.out; omega
      have HZ := Aside0.mk hz.out
      have c2 := hL.out.cell 2
      have ll := hL.out.lt
      obtain ⟨ks, kb, kl, kc, kx⟩ := writes_keep (S := S) (b := b) HH.out.2.1 HH.out.2.2.1 HX.out.2.2.1 HH.out.2.2.2.2.1 i
      have KF := Aside0.mk (flush_calls _ t (writesV V S b i).1 wr hT.out ks kx (by rw [kl]; exact HH.out.2.2.2.2.2) (by have := HH.out.2.2.2.1; have := HNB.out; omega))
      clear ks kb kl kc kx hi
      go_wp2_with fail
      refine KF.out.mono ?_
      rintro e w7 ⟨rfl, hT7, hO7⟩
      have hL7 := hO7.blk hL.out (fun h => HX.out.1 (h.resolve_right (by have := HS0.out.lt; omega)))
      have T7 := Aside0.mk hT7
      have L7 := Aside0.mk hL7
      have O7 := Aside0.mk (hO.out.trans (hO7.mono (Q := fun j => P j ∨ j = s ∨ w.heap.size ≤ j) (fun j _ h => h.elim .inl (fun h => .inr (.inr h)))))
      have hOQ : ∀ W, OnlyP (fun j => P j ∨ j = s ∨ w.heap.size ≤ j) w W → OnlyP (fun j => P j ∨ j = s) w W := fun W h => h.mono (fun j hj h => by
        rcases h with h | h | h
        · exact .inl h
        · exact .inr h
        · exact absurd hj (by omega))
      have OQ := Aside0.mk hOQ
      clear hOQ hT7 hO7 KF
      obtain ⟨cd, hcd⟩ : ∃ cd, (flushV (writesV V S b i).1).2 = cd := ⟨_, rfl⟩
      rw [hcd]
      have HCD := Aside0.mk hcd
      clear hcd
      by_cases h0 : cd = 0
      · subst h0
        have d5 := hL7.cell 5
        have d6 := hL7.cell 6
        have f5 := hL7.frozen 5
        have f6 := hL7.frozen 6
        have l7 := hL7.lt
        have hw : IntKind.i64.wrap (S.tail + (i : Int)) = S.tail + (i : Int) := IntWalk.i64_in _ (by have := HNB.out; have := HX.out.2.1.head; omega)
        clear hL7
        go_wp2
        go_ret
        rw [HAp.out, if_neg (fun h => h HZ.out), if_neg (fun h => h HCD.out)]
        have hset : ∀ (W : World) (k : Nat) (u : Value), TAt (fun j => P j ∨ w.heap.size ≤ j) W t (flushV (writesV V S b i).1).1 → TAt (fun j => P j ∨ w.heap.size ≤ j) (W.setCell ⟨s, k, none⟩ u) t (flushV (writesV V S b i).1).1 := fun W k u h => h.onlyP (Q := fun j => j = s) ((OnlyP.refl (fun j => j = s) W).setCell (p := ⟨s, k, none⟩) (.inl rfl) _) (fun j _ hp e => HX.out.1 (by rw [← e]; exact hp.resolve_right (by have := HS0.out.lt; omega)))
        refine ⟨rfl, hset _ _ _ (hset _ _ _ T7.out), ?_, OQ.out _ ((O7.out.setCell (p := ⟨s, 6, none⟩) (.inl (.inr (.inl rfl))) _).setCell (p := ⟨s, 5, none⟩) (.inl (.inr (.inl rfl))) _)⟩
        simpa using (L7.out.set 6 (.bool false)).set 5 (.int .i64 (S.tail + (i : Int)))
      · have z1 : (cd != 0) = true := by simpa using h0
        have z2 : (cd == 0) = false := by simpa using h0
        have z3 : decide (cd = 0) = false := decide_eq_false h0
        have z4 : (cd = 0) = False := eq_false h0
        have HZ0 := Aside0.mk h0
        clear h0 hL7
        go_wp2
        go_ret
        rw [HAp.out, if_neg (fun h => h HZ.out), if_pos (by rw [HCD.out]; exact HZ0.out), HCD.out]
        exact ⟨rfl, T7.out, L7.out, OQ.out _ O7.out⟩
end Go.Proofs.Ytddhngalokmdoaa.Spo

/- copy into a block that is known whole; a block as a slice of the call's own. Any program. -/
namespace Go.Proofs.Ytddhngalokmdoaa.Arr
open Go.RowKit Go.Proofs.YtddhngalokmdoaaW.PrintWords
set_option linter.unusedVariables false
set_option linter.unusedSimpArgs false
theorem numsA_list (k : IntKind) (xs : List Int) : (numsA k xs).toList = nums k xs := by simp [numsA, nums]
theorem wpList_copy_blk {P : Program} {w : World} {ops : Array Oper} {rest : List Oper} {o : Oper} {a : Act} {Q : Exit → Act → World → Prop} (hgd : o.guard = none) (d s : Operand) (dT sT : TypeId)
    (ho : o.op = .call { callee := .builtin .copy, args := #[d, s], argTypes := #[dT, sT] }) (elem : TypeId) (hu : P.underlying dT = some (.slice elem)) (hsz : (P.info? elem).map (·.size) = some 1)
    (g dCap : Nat) (k : IntKind) (xs ys : List Int) (A : Option Addr) (n c m : Nat) (hd : a.eval d = .slice (some ⟨g, 0, none⟩) m dCap) (hs : a.eval s = .slice A n c) (hm : m = xs.length)
    (T : TypeId) (hB : Blk w g T (numsA k xs)) (hr : ReadsInt w k A n ys) (hn : n ≤ xs.length)
    (h : wpList P ops Q rest (a.put o.dst (goInt n)) (w.setRow g (numsA k (ys ++ xs.drop n)))) : wpList P ops Q (o :: rest) a w := by
  subst hm
  have hl := hr.1
  by_cases h0 : n = 0
  · subst h0
    obtain rfl : ys = [] := List.eq_nil_of_length_eq_zero hl
    refine wpList_copy_nothing hgd d s dT sT ho elem hu hsz _ A _ dCap 0 c hd hs (by simp) ?_
    rw [List.nil_append, List.drop_zero, setRow_self w g _ T _ hB.out] at h
    simpa using h
  · obtain ⟨ad, rfl, hc⟩ := hr.2.2 (by omega)
    refine wpList_copy_own hgd d s dT sT ho elem hu hsz g 0 _ dCap ad n c hd hs (numsA k xs) T hB.out (nums k ys) (by rw [nums_length, hl]; exact (Nat.min_eq_left hn).symm) ?_ (by rw [numsA_size, nums_length]; omega) ?_ ?_
    · intro j v hj
      have hlt : j < ys.length := by
        have := (List.getElem?_eq_some_iff.1 hj).1
        simpa [nums] using this
      have hv : v = .int k (ys.getD j 0) := by
        simp [nums, List.getElem?_eq_getElem hlt] at hj
        simp [List.getD, List.getElem?_eq_getElem hlt, hj]
      rw [hv]
      exact hc j (by omega)
    · intro v hv
      obtain ⟨x, _, rfl⟩ := List.mem_map.1 hv
      rfl
    · rw [nums_length, numsA_list, hl, Nat.zero_add, List.take_zero, List.nil_append]
      have e : (nums k ys ++ (nums k xs).drop n).toArray = numsA k (ys ++ xs.drop n) := by
        simp [numsA, nums, List.map_drop]
      rw [e]
      exact h
theorem Blk.toRow {w : World} {g B : Nat} {T : TypeId} {k : IntKind} {xs : List Int} (h : Blk w g T (numsA k xs)) (hB : B ≤ g) {m c : Nat} (hm : m = xs.length) (hc : c = xs.length) (hx : xs.length ≤ 9223372036854775807) :
    Row w B T k (.slice (some ⟨g, 0, none⟩) m c) xs := by
  subst hm hc
  refine ⟨?_, .inr ⟨g, xs.length, numsA k xs, rfl, hB, h.out, Nat.le_refl _, hx, ?_, ?_⟩⟩
  · rw [nums_length, Nat.mul_one]
  · rw [numsA_size, Nat.mul_one]
  · rw [numsA_list, Nat.mul_one]
    exact List.take_of_length_le (by rw [nums_length]; omega)
end Go.Proofs.Ytddhngalokmdoaa.Arr
