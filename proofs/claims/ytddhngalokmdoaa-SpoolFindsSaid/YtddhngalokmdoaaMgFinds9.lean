/- Texts of this claim, merged: Spi, Skp, Skq. -/
import Derived.Test.YtddhngalokmdoaaMgFinds1
namespace Go.Proofs.Ytddhngalokmdoaa.Spo
open Go.RowKit Go.Proofs.YtddhngalokmdoaaW.PrintWords Go.Proofs.YtddhngalokmdoaaW.PrintLast Go.Proofs.YtddhngalokmdoaaW.PrintMore Go.Proofs.Ytddhngalokmdoaa.Arr Go.Proofs.Ytddhngalokmdoaa.PSpoolPlays
set_option linter.unusedVariables false
set_option linter.unusedSimpArgs false

def partP (ep n : Int) (b : List Int) (i : Nat) : PieceV := ⟨ep, n + i, i, nPieces b, chunkB b i⟩
theorem part_good {ep n : Int} {b : List Int} (he : 0 ≤ ep ∧ ep < 4294967296) (hn : 0 ≤ n) (hn2 : n ≤ 140737488355328) (hl : b.length ≤ 60000) {i : Nat} (hi : i < nPieces b) : GoodP (partP ep n b i) := by
  have h0 : nPieces b ≤ 600 := by unfold nPieces; omega
  refine ⟨he, ?_, ?_, ?_, chunkB_length b i, fun h => chunk_len (b := b) ?_⟩
  · show 0 ≤ n + i ∧ n + i < _; omega
  · show (0 : Int) ≤ i ∧ (i : Int) < nPieces b; omega
  · show (nPieces b : Int) < _; omega
  · have h : (i : Int) < (nPieces b : Int) - 1 := h
    omega
def RecAt (V : TrayV) (S : SpoolV) (ep n : Int) (b : List Int) : Prop := b.length ≤ 60000 ∧ ∀ i : Nat, i < nPieces b → secV V S (n + i) = bytesV (partP ep n b i)
def Lies (V : TrayV) (S : SpoolV) (ep : Int) : Int → List (List Int) → Int → Prop
  | n, [], tl => n = tl
  | n, b :: xs, tl => RecAt V S ep n b ∧ Lies V S ep (n + nPieces b) xs tl
theorem nP_pos (b : List Int) : 1 ≤ nPieces b := by unfold nPieces; omega
section
variable {V : TrayV} {S : SpoolV} {ep n : Int} {b : List Int}
theorem rec_at (he : 0 ≤ ep ∧ ep < 4294967296) (hn : 0 ≤ n) (hn2 : n ≤ 140737488355328) (h : RecAt V S ep n b) {i : Nat} (hi : i < nPieces b) : hereV V S (n + i) = true ∧ atV V S (n + i) = partP ep n b i := by
  have hg := part_good he hn hn2 h.1 hi
  obtain ⟨h1, h2⟩ := here_piece hg (h.2 i hi)
  exact ⟨by rw [h1]; exact decide_eq_true rfl, h2⟩
theorem rec_found (he : 0 ≤ ep ∧ ep < 4294967296) (hn : 0 ≤ n) (hn2 : n ≤ 140737488355328) (h : RecAt V S ep n b) (hc : (nPieces b : Int) ≤ S.count) :
    recOk V S n = true ∧ (atV V S n).epoch = ep ∧ (atV V S n).of = nPieces b ∧ bodyR V S n (nPieces b) = b := by
  have h0 := rec_at he hn hn2 h (nP_pos b)
  rw [show n + ((0 : Nat) : Int) = n by omega] at h0
  have hat : (atV V S n).at_ = 0 := by rw [h0.2]; rfl
  have hof : (atV V S n).of = nPieces b := by rw [h0.2]; rfl
  have hep : (atV V S n).epoch = ep := by rw [h0.2]; rfl
  refine ⟨?_, hep, hof, ?_⟩
  · unfold recOk headOk
    rw [h0.1, hat, hof, decide_eq_true (show (0 : Int) = 0 from rfl), decide_eq_true hc]
    simp only [Bool.true_and, Bool.and_true, List.all_eq_true]
    intro j hj
    have hj2 : j + 1 < nPieces b := by have := List.mem_range.1 hj; omega
    obtain ⟨h1, h2⟩ := rec_at he hn hn2 h hj2
    unfold followV
    rw [h1, h2, hof, hep]
    simp [partP]
  · have : ∀ k : Nat, k ≤ nPieces b → bodyR V S n k = (List.range k).flatMap (chunkB b) := by
      intro k
      induction k with
      | zero => intro _; rfl
      | succ k ih =>
        intro hk
        rw [bodyR, ih (by omega), (rec_at he hn hn2 h (show k < nPieces b by omega)).2, List.range_succ, List.flatMap_append]
        simp [partP]
    rw [this _ (Nat.le_refl _), chunks_all, List.take_of_length_le]
    unfold nPieces
    omega
end
theorem find_lies {V : TrayV} {S : SpoolV} {ep : Int} (he : 0 ≤ ep ∧ ep < S.epoch) (hF : Fit S) (tl : Int) (ht : tl ≤ 140737488355328) (hend : 0 < S.count - (tl - S.head) → hereV V S tl = false) :
    ∀ (xs : List (List Int)) (n least : Int) (k : Nat) (out : List (List Int)), S.head ≤ n → n ≤ tl → tl - S.head ≤ S.count → Lies V S ep n xs tl → S.count - (n - S.head) ≤ k → least ≤ ep → findV V S k n least out = (out ++ xs, tl)
  | [], n, least, k, out, h1, h2, h3, hl, hk, hle => by
    have hl : n = tl := hl
    subst hl
    rw [List.append_nil]
    cases k with
    | zero => rfl
    | succ k =>
      simp only [findV]
      rw [if_neg]
      rintro ⟨h4, h5⟩
      unfold takeV at h5
      rw [rec_here (hend h4)] at h5
      cases h5
  | b :: xs, n, least, k, out, h1, h2, h3, hl, hk, hle => by
    obtain ⟨hr, hl⟩ := hl
    have hnp := nP_pos b
    have hle2 : n + nPieces b ≤ tl := by
      have : ∀ (ys : List (List Int)) (m : Int), Lies V S ep m ys tl → m ≤ tl := by
        intro ys
        induction ys with
        | nil => intro m h; exact Int.le_of_eq h
        | cons y ys ih => intro m h; have := ih _ h.2; have := nP_pos y; omega
      exact this xs _ hl
    have hh := hF.head
    have he2 := hF.epoch
    obtain ⟨f1, f2, f3, f4⟩ := rec_found (V := V) (S := S) (ep := ep) (n := n) (b := b) ⟨he.1, by omega⟩ (by omega) (by omega) hr (by omega)
    obtain ⟨k, rfl⟩ : ∃ j, k = j + 1 := ⟨k - 1, by omega⟩
    simp only [findV]
    rw [if_pos ⟨by omega, by unfold takeV; rw [f1, f2, f3, decide_eq_true (show (nPieces b : Int) ≤ S.count - (n - S.head) by omega), decide_eq_true hle, decide_eq_true he.2]; rfl⟩, f2, f3, Int.toNat_natCast, f4,
      find_lies he hF tl ht hend xs (n + nPieces b) ep k (out ++ [b]) (by omega) hle2 h3 hl (by omega) (Int.le_refl _)]
    simp
def Elder (V : TrayV) (S : SpoolV) (tl : Int) : Prop := ∀ m : Int, 0 ≤ m → secV V S m = List.replicate 128 0 ∨ ∃ p, GoodP p ∧ secV V S m = bytesV p ∧ p.number < tl
theorem Elder.here {V : TrayV} {S : SpoolV} {tl : Int} (h : Elder V S tl) (ht : 0 ≤ tl) : hereV V S tl = false := by
  rcases h tl ht with h | ⟨p, hp, h1, h2⟩
  · exact here_zero h
  · rw [(here_piece hp h1).1]
    exact decide_eq_false (by omega)
section
variable {V : TrayV} {S : SpoolV} {b : List Int}
theorem app_sec (hF : Fit S) (hR : S.first + S.count ≤ V.kept.length) (hc : V.cache = []) (m : Int) (hm : 0 ≤ m) : readV { V with kept := settleV V.kept (V.cache ++ lays S b (nPieces b)), cache := [] } (onV S m) = lastV (lays S b (nPieces b)) (onV S m) (secV V S m) := by
  have hh := on_has hF hR m hm
  unfold hasV at hh
  simp only [Bool.and_eq_true, decide_eq_true_eq] at hh
  obtain ⟨a, ha⟩ : ∃ a : Nat, onV S m = (a : Int) := ⟨(onV S m).toNat, by omega⟩
  unfold secV readV
  rw [ha, hc]
  show lastV [] _ ((settleV V.kept ([] ++ lays S b (nPieces b))).getD a []) = _
  rw [List.nil_append, last_nil, settle_get _ (lays_at hF _) a V.kept (by omega), last_nil]
  rfl
theorem app_keep (hF : Fit S) (hR : S.first + S.count ≤ V.kept.length) (hc : V.cache = []) (hl : V.left < 0) (hd : S.dead = false) (hb : b.length ≤ 60000) (hr : (nPieces b : Int) ≤ roomV S) (he : Elder V S S.tail) (ht : S.tail ≤ 140737480000000) :
    Elder (appendV V S b).1 (appendV V S b).2.1 (S.tail + nPieces b) ∧ RecAt (appendV V S b).1 (appendV V S b).2.1 S.epoch S.tail b ∧
      ∀ m, S.head ≤ m → m < S.tail → secV (appendV V S b).1 (appendV V S b).2.1 m = secV V S m := by
  rw [append_free hl hF hR hb hr hd]
  have hsec : ∀ m, 0 ≤ m → secV { V with kept := settleV V.kept (V.cache ++ lays S b (nPieces b)), cache := [] } { S with tail := S.tail + nPieces b, dead := false } m = lastV (lays S b (nPieces b)) (onV S m) (secV V S m) := fun m hm => app_sec hF hR hc m hm
  have hh := hF.head
  have hcn := hF.count
  unfold roomV at hr
  refine ⟨fun m hm => ?_, ⟨hb, fun i hi => ?_⟩, fun m h1 h2 => ?_⟩
  · rw [hsec m hm]
    by_cases hex : ∃ i : Nat, i < nPieces b ∧ onV S (S.tail + i) = onV S m
    · obtain ⟨i, hi, e⟩ := hex
      refine .inr ⟨chunkP S b i, chunk_good hF hb hi, ?_, ?_⟩
      · rw [← e]
        exact lays_hit hF i _ hi (by omega)
      · show S.tail + i < _; omega
    · rw [lays_miss _ (fun i hi e => hex ⟨i, hi, e⟩)]
      rcases he m hm with h | ⟨p, hp, h1, h2⟩
      · exact .inl h
      · exact .inr ⟨p, hp, h1, by omega⟩
  · rw [hsec _ (by omega)]
    exact lays_hit hF i _ hi (by omega)
  · rw [hsec m (by omega)]
    refine lays_miss _ fun i hi e => ?_
    have := on_apart hF e (by omega) (by omega)
    omega
end
theorem lies_sec {V V' : TrayV} {S S' : SpoolV} {ep : Int} {lo : Int} : ∀ (xs : List (List Int)) (n tl : Int), lo ≤ n → (∀ m, lo ≤ m → m < tl → secV V' S' m = secV V S m) → Lies V S ep n xs tl → Lies V' S' ep n xs tl
  | [], n, tl, _, _, h => h
  | b :: xs, n, tl, hn, hs, h => by
    have hle : n + nPieces b ≤ tl := by
      have : ∀ (ys : List (List Int)) (m : Int), Lies V S ep m ys tl → m ≤ tl := by
        intro ys
        induction ys with
        | nil => intro m h; exact Int.le_of_eq h
        | cons y ys ih => intro m h; have := ih _ h.2; have := nP_pos y; omega
      exact this xs _ h.2
    exact ⟨⟨h.1.1, fun i hi => by rw [hs _ (by omega) (by omega)]; exact h.1.2 i hi⟩, lies_sec xs _ tl (by omega) hs h.2⟩
theorem lies_snoc {V : TrayV} {S : SpoolV} {ep : Int} {b : List Int} {tl : Int} : ∀ (xs : List (List Int)) (n : Int), Lies V S ep n xs tl → RecAt V S ep tl b → Lies V S ep n (xs ++ [b]) (tl + nPieces b)
  | [], n, h, hr => by
    have h : n = tl := h
    subst h
    exact ⟨hr, rfl⟩
  | y :: xs, n, h, hr => ⟨h.1, lies_snoc xs _ h.2 hr⟩
def LiesE (V : TrayV) (S : SpoolV) (hi : Int) : Int → Int → List (List Int) → Int → Prop
  | _, n, [], tl => n = tl
  | lo, n, b :: xs, tl => ∃ ep, lo ≤ ep ∧ ep ≤ hi ∧ RecAt V S ep n b ∧ LiesE V S hi ep (n + nPieces b) xs tl
section
variable {V V' : TrayV} {S S' : SpoolV} {hi hi' : Int}
theorem liesE_le : ∀ (xs : List (List Int)) (lo n tl : Int), LiesE V S hi lo n xs tl → n ≤ tl
  | [], _, _, _, h => Int.le_of_eq h
  | b :: xs, lo, n, tl, ⟨ep, _, _, _, h⟩ => by have := liesE_le xs _ _ _ h; have := nP_pos b; omega
theorem liesE_sec (hh : hi ≤ hi') : ∀ (xs : List (List Int)) (lo n tl a : Int), a ≤ n → (∀ m, a ≤ m → m < tl → secV V' S' m = secV V S m) → LiesE V S hi lo n xs tl → LiesE V' S' hi' lo n xs tl
  | [], _, _, _, _, _, _, h => h
  | b :: xs, lo, n, tl, a, hn, hs, ⟨ep, h1, h2, h3, h4⟩ => by
    have hle := liesE_le xs _ _ _ h4
    exact ⟨ep, h1, by omega, ⟨h3.1, fun i hi => by rw [hs _ (by omega) (by omega)]; exact h3.2 i hi⟩, liesE_sec hh xs _ _ tl a (by omega) hs h4⟩
theorem liesE_snoc {ep : Int} {b : List Int} {tl : Int} (he : ep = hi) (hr : RecAt V S ep tl b) : ∀ (xs : List (List Int)) (lo n : Int), lo ≤ hi → LiesE V S hi lo n xs tl → LiesE V S hi lo n (xs ++ [b]) (tl + nPieces b)
  | [], lo, n, hl, h => by
    have h : n = tl := h
    subst h
    exact ⟨ep, by omega, by omega, hr, rfl⟩
  | y :: xs, lo, n, hl, ⟨e1, h1, h2, h3, h4⟩ => ⟨e1, h1, h2, h3, liesE_snoc he hr xs _ _ h2 h4⟩
end
theorem find_liesE {V : TrayV} {S : SpoolV} {hi : Int} (he : hi < S.epoch) (hF : Fit S) (tl : Int) (ht : tl ≤ 140737488355328) (hend : 0 < S.count - (tl - S.head) → recOk V S tl = false) :
    ∀ (xs : List (List Int)) (lo n least : Int) (k : Nat) (out : List (List Int)), 0 ≤ lo → S.head ≤ n → n ≤ tl → tl - S.head ≤ S.count → LiesE V S hi lo n xs tl → S.count - (n - S.head) ≤ k → least ≤ lo → findV V S k n least out = (out ++ xs, tl)
  | [], lo, n, least, k, out, h0, h1, h2, h3, hl, hk, hle => by
    have hl : n = tl := hl
    subst hl
    rw [List.append_nil]
    cases k with
    | zero => rfl
    | succ k =>
      simp only [findV]
      rw [if_neg]
      rintro ⟨h4, h5⟩
      unfold takeV at h5
      rw [hend h4] at h5
      cases h5
  | b :: xs, lo, n, least, k, out, h0, h1, h2, h3, ⟨ep, g1, g2, hr, hl⟩, hk, hle => by
    have hnp := nP_pos b
    have hle2 := liesE_le xs _ _ _ hl
    have hh := hF.head
    have he2 := hF.epoch
    obtain ⟨f1, f2, f3, f4⟩ := rec_found (V := V) (S := S) (ep := ep) (n := n) (b := b) ⟨by omega, by omega⟩ (by omega) (by omega) hr (by omega)
    obtain ⟨k, rfl⟩ : ∃ j, k = j + 1 := ⟨k - 1, by omega⟩
    simp only [findV]
    rw [if_pos ⟨by omega, by unfold takeV; rw [f1, f2, f3, decide_eq_true (show (nPieces b : Int) ≤ S.count - (n - S.head) by omega), decide_eq_true (show least ≤ ep by omega), decide_eq_true (show ep < S.epoch by omega)]; rfl⟩, f2, f3, Int.toNat_natCast, f4,
      find_liesE he hF tl ht hend xs ep (n + nPieces b) ep k (out ++ [b]) (by omega) (by omega) hle2 h3 hl (by omega) (Int.le_refl _)]
    simp
def Ring1 (V : TrayV) (S : SpoolV) : Prop := ∀ m : Int, 0 ≤ m → secV V S m = List.replicate 128 0 ∨ ∃ p, GoodP p ∧ secV V S m = bytesV p ∧ p.number - p.at_ ≤ S.tail ∧ p.epoch ≤ S.epoch ∧ (S.tail ≤ p.number → p.epoch < S.epoch)
structure Alive (V : TrayV) (S : SpoolV) (xs : List (List Int)) : Prop where mk ::
  fit : Fit S
  right : S.first + S.count ≤ V.kept.length
  dead : S.dead = false
  cache : V.cache = []
  ring : Ring1 V S
  lies : LiesE V S S.epoch 0 S.head xs S.tail
  free : recOk V S S.tail = false
structure Dying (V : TrayV) (S : SpoolV) (xs : List (List Int)) (b : List Int) : Prop where mk ::
  elder : ∃ V0 S0, Alive V0 S0 xs ∧ V.kept = V0.kept ∧ (∃ j, j ≤ nPieces b ∧ V.cache = lays S0 b j) ∧ S = { S0 with dead := true } ∧ (nPieces b : Int) ≤ roomV S0 ∧ b.length ≤ 60000
theorem here_at {V : TrayV} {S : SpoolV} (hr : Ring1 V S) {m : Int} (hm : 0 ≤ m) (h : hereV V S m = true) : (atV V S m).number = m ∧ m - (atV V S m).at_ ≤ S.tail ∧ (atV V S m).epoch ≤ S.epoch ∧ (S.tail ≤ m → (atV V S m).epoch < S.epoch) ∧ secV V S m = bytesV (atV V S m) := by
  rcases hr m hm with h0 | ⟨p, hp, h1, h2, h3, h4⟩
  · rw [here_zero h0] at h; cases h
  · obtain ⟨k1, k2⟩ := here_piece hp h1
    rw [k1] at h
    have h := of_decide_eq_true h
    rw [k2]
    exact ⟨h, by omega, h3, fun h5 => h4 (by omega), h1⟩
theorem rec_none {V : TrayV} {S : SpoolV} {m : Int} (h : hereV V S m = true → (atV V S m).at_ ≠ 0) : recOk V S m = false := by
  unfold recOk headOk
  cases hh : hereV V S m with
  | false => rfl
  | true => rw [decide_eq_false (h hh)]; rfl
section
variable {V : TrayV} {S : SpoolV} {b : List Int}
theorem writes_form (hF : Fit S) (hR : S.first + S.count ≤ V.kept.length) : ∀ k : Nat, (writesV V S b k).1.kept = V.kept ∧ (((writesV V S b k).2 = 0 ∧ (writesV V S b k).1.cache = V.cache ++ lays S b k) ∨ ((writesV V S b k).2 = 20 ∧ ∃ j, j ≤ k ∧ (writesV V S b k).1.cache = V.cache ++ lays S b j))
  | 0 => ⟨rfl, .inl ⟨rfl, by simp [writesV, lays]⟩⟩
  | k + 1 => by
    obtain ⟨h1, h2⟩ := writes_form hF hR k
    rw [writesV]
    rcases h2 with ⟨h2, h3⟩ | ⟨h2, j, hj, h3⟩
    · rw [if_pos h2]
      have hh : hasV (writesV V S b k).1 (onV S (S.tail + k)) = true := on_has hF (by rw [h1]; exact hR) _ (by have := hF.head; omega)
      have hlen := bytesV_length (p := chunkP S b k) (chunkB_length b k)
      obtain ⟨s1, s2⟩ := step_kept (writesV V S b k).1
      unfold writeV
      rw [if_neg (by rw [hh]; rintro (h | h); cases h; omega)]
      by_cases hs : (stepV (writesV V S b k).1).2 = true
      · rw [if_pos hs]
        refine ⟨s1.trans h1, .inl ⟨rfl, ?_⟩⟩
        show (writesV V S b k).1.cache ++ _ = _
        rw [h3, lays, List.append_assoc]
      · rw [if_neg hs]
        exact ⟨s1.trans h1, .inr ⟨rfl, k, by omega, s2.trans h3⟩⟩
    · rw [if_neg (by rw [h2]; decide)]
      exact ⟨h1, .inr ⟨h2, j, by omega, h3⟩⟩
theorem append_form (hF : Fit S) (hR : S.first + S.count ≤ V.kept.length) (hc : V.cache = []) (hb : b.length ≤ 60000) (hd : S.dead = false) :
    (roomV S < nPieces b ∧ appendV V S b = (V, S, 3)) ∨
    ((nPieces b : Int) ≤ roomV S ∧ (appendV V S b).2 = ({ S with tail := S.tail + nPieces b, dead := false }, 0) ∧ (appendV V S b).1.kept = settleV V.kept (lays S b (nPieces b)) ∧ (appendV V S b).1.cache = []) ∨
    ((nPieces b : Int) ≤ roomV S ∧ (appendV V S b).2 = ({ S with dead := true }, 20) ∧ (appendV V S b).1.kept = V.kept ∧ ∃ j, j ≤ nPieces b ∧ (appendV V S b).1.cache = lays S b j) := by
  obtain ⟨h1, h2⟩ := writes_form (b := b) hF hR (nPieces b)
  rw [hc] at h2
  simp only [List.nil_append] at h2
  unfold appendV
  rw [if_neg (by omega)]
  by_cases hr : roomV S < nPieces b
  · rw [if_pos hr]; exact .inl ⟨hr, rfl⟩
  rw [if_neg hr, if_neg (by rw [hd]; decide)]
  rcases h2 with ⟨h2, h3⟩ | ⟨h2, j, hj, h3⟩
  · rw [if_neg (fun h => h h2)]
    obtain ⟨s1, s2⟩ := step_kept (writesV V S b (nPieces b)).1
    by_cases hs : (stepV (writesV V S b (nPieces b)).1).2 = true
    · have e : flushV (writesV V S b (nPieces b)).1 = ({ (stepV (writesV V S b (nPieces b)).1).1 with kept := settleV (writesV V S b (nPieces b)).1.kept (writesV V S b (nPieces b)).1.cache, cache := [] }, 0) := by unfold flushV; rw [if_pos hs]
      rw [e, if_neg (fun h => h rfl)]
      exact .inr (.inl ⟨by omega, rfl, by show settleV _ _ = _; rw [h1, h3], rfl⟩)
    · have e : flushV (writesV V S b (nPieces b)).1 = ((stepV (writesV V S b (nPieces b)).1).1, 20) := by unfold flushV; rw [if_neg hs]
      rw [e, if_pos (by show (20 : Int) ≠ 0; decide)]
      exact .inr (.inr ⟨by omega, rfl, s1.trans h1, _, Nat.le_refl _, s2.trans h3⟩)
  · rw [if_pos (by rw [h2]; decide), h2]
    exact .inr (.inr ⟨by omega, rfl, h1, j, hj, h3⟩)
end
theorem sec_settle {V V' : TrayV} {S S' : SpoolV} {L : List (Int × List Int)} (hF : Fit S) (hR : S.first + S.count ≤ V.kept.length) (hc : V.cache = []) (h1 : V'.kept = settleV V.kept L) (h2 : V'.cache = []) (hL : ∀ x, x ∈ L → 0 ≤ x.1) (e1 : S'.first = S.first) (e2 : S'.count = S.count) (m : Int) (hm : 0 ≤ m) :
    secV V' S' m = lastV L (onV S m) (secV V S m) := by
  rw [sec_ring (S' := S) e1 e2]
  have hh := on_has hF hR m hm
  unfold hasV at hh
  simp only [Bool.and_eq_true, decide_eq_true_eq] at hh
  obtain ⟨a, ha⟩ : ∃ a : Nat, onV S m = (a : Int) := ⟨(onV S m).toNat, by omega⟩
  unfold secV readV
  rw [ha, hc, h1, h2, last_nil, Int.toNat_natCast, settle_get _ hL a V.kept (by omega), last_nil]
theorem sec_same {V V' : TrayV} {S S' : SpoolV} (hc : V'.cache = V.cache) (h1 : V'.kept = V.kept) (e1 : S'.first = S.first) (e2 : S'.count = S.count) (m : Int) : secV V' S' m = secV V S m := by
  rw [sec_ring (S' := S) e1 e2]
  unfold secV readV
  rw [hc, h1]
theorem rec_sec {V V' : TrayV} {S S' : SpoolV} {n : Int} (hn : 0 ≤ n) (e2 : S'.count = S.count) (h : ∀ m, 0 ≤ m → secV V' S' m = secV V S m) : recOk V' S' n = recOk V S n := by
  have ha : ∀ m, 0 ≤ m → atV V' S' m = atV V S m := fun m hm => by unfold atV; rw [h m hm]
  have hh : ∀ m, 0 ≤ m → hereV V' S' m = hereV V S m := fun m hm => by unfold hereV; rw [h m hm, ha m hm]
  unfold recOk headOk
  rw [hh n hn, ha n hn, e2]
  congr 1
  refine congrArg (fun f => List.all _ f) (funext fun j => ?_)
  unfold followV
  rw [hh _ (by omega), ha _ (by omega), ha n hn]
theorem lays_mem {S : SpoolV} {b : List Int} : ∀ (k : Nat) (x : Int × List Int), x ∈ lays S b k → ∃ i : Nat, i < k ∧ x = (onV S (S.tail + i), bytesV (chunkP S b i))
  | 0, x, h => by cases h
  | k + 1, x, h => by
    rw [lays] at h
    rcases List.mem_append.1 h with h | h
    · obtain ⟨i, hi, e⟩ := lays_mem k x h
      exact ⟨i, by omega, e⟩
    · obtain rfl := List.mem_singleton.1 h
      exact ⟨k, by omega, by rw [padB_full (bytesV_length (chunkB_length b k))]⟩
theorem last_or (a : Int) : ∀ (l : List (Int × List Int)) (d : List Int), lastV l a d = d ∨ ∃ x, x ∈ l ∧ x.1 = a ∧ lastV l a d = x.2
  | [], d => .inl rfl
  | x :: l, d => by
    show lastV l a (if x.1 = a then x.2 else d) = d ∨ _
    rcases last_or a l (if x.1 = a then x.2 else d) with h | ⟨y, hy, h1, h2⟩
    · by_cases hx : x.1 = a
      · rw [if_pos hx] at h
        exact .inr ⟨x, by simp, hx, by show lastV l a (if x.1 = a then x.2 else d) = _; rw [if_pos hx]; exact h⟩
      · rw [if_neg hx] at h
        exact .inl (by rw [if_neg hx]; exact h)
    · exact .inr ⟨y, by simp [hy], h1, h2⟩
theorem sec_lose {V V' : TrayV} {S S' : SpoolV} {b : List Int} {j : Nat} {L : List (Int × List Int)} (hF : Fit S) (hR : S.first + S.count ≤ V.kept.length) (hc : V.cache = []) (h1 : V'.kept = settleV V.kept L) (h2 : V'.cache = []) (hL : ∀ x, x ∈ L → x ∈ lays S b j) (e1 : S'.first = S.first) (e2 : S'.count = S.count) (m : Int) (hm : 0 ≤ m) :
    secV V' S' m = secV V S m ∨ ∃ i : Nat, i < j ∧ onV S (S.tail + i) = onV S m ∧ secV V' S' m = bytesV (chunkP S b i) := by
  rw [sec_settle hF hR hc h1 h2 (fun x hx => lays_at hF j x (hL x hx)) e1 e2 m hm]
  rcases last_or (onV S m) L (secV V S m) with h | ⟨x, hx, k1, k2⟩
  · exact .inl h
  · obtain ⟨i, hi, e⟩ := lays_mem j x (hL x hx)
    subst e
    exact .inr ⟨i, hi, k1, k2⟩
section
variable {V : TrayV} {S : SpoolV} {xs : List (List Int)} {b : List Int}
theorem chunk_num (i : Nat) : (chunkP S b i).number = S.tail + i ∧ (chunkP S b i).at_ = i ∧ (chunkP S b i).epoch = S.epoch ∧ (chunkP S b i).of = nPieces b := ⟨rfl, rfl, rfl, rfl⟩
theorem Alive.add {V' : TrayV} {S' : SpoolV} {e' : Int} (h : Alive V S xs) (hb : b.length ≤ 60000) (hr : (nPieces b : Int) ≤ roomV S) (hc : V'.cache = []) (hlen : V'.kept.length = V.kept.length)
    (hsec : ∀ m, 0 ≤ m → secV V' S' m = secV V S m ∨ ∃ i : Nat, i < nPieces b ∧ onV S (S.tail + i) = onV S m ∧ secV V' S' m = bytesV (chunkP S b i)) (hall : ∀ i : Nat, i < nPieces b → secV V' S' (S.tail + i) = bytesV (chunkP S b i))
    (hS : S' = { S with epoch := e', tail := S.tail + nPieces b }) (he : S.epoch ≤ e') (he2 : e' ≤ 4294967295) (ht : S.tail ≤ 140737480000000) : Alive V' S' (xs ++ [b]) ∧ LiesE V' S' S.epoch 0 S.head (xs ++ [b]) (S.tail + nPieces b) := by
  have hF := h.fit
  have hh := hF.head
  have hcn := hF.count
  have hep := hF.epoch
  have hnp := nP_pos b
  have hN : nPieces b ≤ 600 := by unfold nPieces; omega
  unfold roomV at hr
  have hring : Ring1 V' S' := fun m hm => by
    rcases hsec m hm with e | ⟨i, hi, -, e⟩
    · rw [e]
      rcases h.ring m hm with h0 | ⟨p, hp, h1, h2, h3, h4⟩
      · exact .inl h0
      · refine .inr ⟨p, hp, h1, ?_, ?_, fun h5 => ?_⟩
        · rw [hS]; show p.number - p.at_ ≤ S.tail + nPieces b; omega
        · rw [hS]; show p.epoch ≤ e'; omega
        · rw [hS] at h5 ⊢
          have h5 : S.tail + nPieces b ≤ p.number := h5
          have := h4 (by omega)
          show p.epoch < e'; omega
    · refine .inr ⟨chunkP S b i, chunk_good hF hb hi, e, ?_, ?_, fun h5 => ?_⟩
      · rw [hS]; show S.tail + (i : Int) - i ≤ S.tail + nPieces b; omega
      · rw [hS]; exact he
      · rw [hS] at h5
        have h5 : S.tail + nPieces b ≤ S.tail + i := h5
        omega
  have hold : ∀ m, S.head ≤ m → m < S.tail → secV V' S' m = secV V S m := fun m m1 m2 => by
    rcases hsec m (by omega) with e | ⟨i, hi, e, -⟩
    · exact e
    · have := on_apart hF e (by omega) (by omega)
      omega
  have hrec : RecAt V' S' S.epoch S.tail b := ⟨hb, fun i hi => hall i hi⟩
  subst hS
  have hlies := liesE_snoc (V := V') (S := { S with epoch := e', tail := S.tail + nPieces b }) (hi := S.epoch) (ep := S.epoch) rfl hrec xs 0 S.head (by omega) (liesE_sec (Int.le_refl _) xs 0 S.head S.tail S.head (Int.le_refl _) hold h.lies)
  refine ⟨⟨⟨hF.first, hF.count, ⟨by show 1 ≤ e'; omega, he2⟩, ⟨hh.1, by show S.head ≤ S.tail + nPieces b; omega⟩, ⟨by show S.tail + nPieces b ≤ _; omega, by show S.tail + nPieces b - S.head ≤ S.count; omega⟩⟩, by rw [hlen]; exact h.right, h.dead, hc, hring, ?_, ?_⟩, hlies⟩
  · have := hlies
    exact liesE_sec (V := V') (S := { S with epoch := e', tail := S.tail + nPieces b }) he _ _ _ _ S.head (Int.le_refl _) (fun _ _ _ => rfl) this
  · refine rec_none fun hhere => ?_
    obtain ⟨k1, k2, k3, k4, k5⟩ := here_at hring (by show 0 ≤ S.tail + nPieces b; omega) hhere
    rcases hsec (S.tail + nPieces b) (by omega) with e | ⟨i, hi, -, e⟩
    · rw [e] at k5
      rcases h.ring (S.tail + nPieces b) (by omega) with h0 | ⟨p, hp, h1, h2, h3, h4⟩
      · exfalso
        have := here_zero (V := V') (S := { S with epoch := e', tail := S.tail + nPieces b }) (n := S.tail + nPieces b) (e.trans h0)
        have hhere : hereV V' { S with epoch := e', tail := S.tail + nPieces b } (S.tail + nPieces b) = true := hhere
        rw [this] at hhere; cases hhere
      · obtain ⟨q1, q2⟩ := here_piece (V := V') (S := { S with epoch := e', tail := S.tail + nPieces b }) (n := S.tail + nPieces b) hp (e.trans h1)
        rw [q1] at hhere
        have := of_decide_eq_true hhere
        show (atV V' { S with epoch := e', tail := S.tail + nPieces b } (S.tail + nPieces b)).at_ ≠ 0
        rw [q2]
        omega
    · obtain ⟨q1, q2⟩ := here_piece (V := V') (S := { S with epoch := e', tail := S.tail + nPieces b }) (n := S.tail + nPieces b) (chunk_good hF hb hi) e
      rw [q1] at hhere
      have h5 : S.tail + i = S.tail + nPieces b := of_decide_eq_true hhere
      omega
theorem Alive.later {V' : TrayV} {S' : SpoolV} {e' : Int} (h : Alive V S xs) (hc : V'.cache = []) (h1 : V'.kept = V.kept) (hS : S' = { S with epoch := e' }) (he : S.epoch ≤ e') (he2 : e' ≤ 4294967295) : Alive V' S' xs := by
  have hF := h.fit
  have hep := hF.epoch
  subst hS
  have hs : ∀ m, secV V' { S with epoch := e' } m = secV V S m := fun m => sec_same (by rw [hc, h.cache]) h1 rfl rfl m
  refine ⟨⟨hF.first, hF.count, ⟨by show 1 ≤ e'; omega, he2⟩, hF.head, hF.tail⟩, by rw [h1]; exact h.right, h.dead, hc, fun m hm => ?_, liesE_sec he xs 0 S.head S.tail S.head (Int.le_refl _) (fun m _ _ => hs m) h.lies, ?_⟩
  · rw [hs m]
    rcases h.ring m hm with h0 | ⟨p, hp, k1, k2, k3, k4⟩
    · exact .inl h0
    · exact .inr ⟨p, hp, k1, k2, by show p.epoch ≤ e'; omega, fun h5 => by have := k4 h5; show p.epoch < e'; omega⟩
  · have := h.free
    rw [← this]
    exact rec_sec (by have := hF.head; show 0 ≤ S.tail; omega) rfl (fun m _ => hs m)
theorem Alive.append_ok (h : Alive V S xs) (hb : b.length ≤ 60000) (ht : S.tail ≤ 140737480000000) :
    (appendV V S b = (V, S, 3)) ∨ ((appendV V S b).2.2 = 0 ∧ Alive (appendV V S b).1 (appendV V S b).2.1 (xs ++ [b]) ∧ (appendV V S b).2.1.tail = S.tail + nPieces b) ∨ ((appendV V S b).2.2 = 20 ∧ Dying (appendV V S b).1 (appendV V S b).2.1 xs b ∧ (appendV V S b).2.1.tail = S.tail) := by
  rcases append_form (b := b) h.fit h.right h.cache hb h.dead with ⟨-, e⟩ | ⟨h1, h2, h3, h4⟩ | ⟨h1, h2, h3, h4⟩
  · exact .inl e
  · refine .inr (.inl ⟨by rw [h2], ?_, by rw [h2]⟩)
    have hc : (nPieces b : Int) ≤ S.count := by have := h.fit.tail; have := h.fit.head; unfold roomV at h1; omega
    refine (h.add hb h1 h4 (by rw [h3, settle_length]) (fun m hm => sec_lose h.fit h.right h.cache h3 h4 (fun x hx => hx) (by rw [h2]) (by rw [h2]) m hm) (fun i hi => ?_) (e' := S.epoch) ?_ (Int.le_refl _) h.fit.epoch.2 ht).1
    · rw [sec_settle h.fit h.right h.cache h3 h4 (lays_at h.fit _) (by rw [h2]) (by rw [h2]) _ (by have := h.fit.head; omega)]
      exact lays_hit h.fit i _ hi hc
    · rw [h2]
      have := h.dead
      obtain ⟨a1, a2, a3, a4, a5, a6⟩ := S
      simp only at this
      subst this
      rfl
  · refine .inr (.inr ⟨by rw [h2], ⟨V, S, h, h3, h4, by rw [h2], h1, hb⟩, by rw [h2]⟩)
theorem Alive.lose (h : Alive V S xs) (c : List Bool) (he : S.epoch + 1 ≤ 4294967295) : Alive (loseV V c) { S with epoch := S.epoch + 1 } xs ∧ LiesE (loseV V c) { S with epoch := S.epoch + 1 } S.epoch 0 S.head xs S.tail := by
  have hk : (loseV V c).kept = V.kept := by
    show settleV V.kept (chosen V.cache c) = V.kept
    rw [h.cache]
    rfl
  refine ⟨h.later rfl hk rfl (by omega) he, liesE_sec (V := V) (V' := loseV V c) (S := S) (S' := { S with epoch := S.epoch + 1 }) (Int.le_refl _) xs 0 S.head S.tail S.head (Int.le_refl _) (fun m _ _ => sec_same (by rw [h.cache]; rfl) hk rfl rfl m) h.lies⟩
theorem Dying.lose (h : Dying V S xs b) (c : List Bool) (he : S.epoch + 1 ≤ 4294967295) (ht : S.tail ≤ 140737480000000) :
    (Alive (loseV V c) { S with epoch := S.epoch + 1, dead := false } xs ∧ LiesE (loseV V c) { S with epoch := S.epoch + 1, dead := false } S.epoch 0 S.head xs S.tail) ∨
    (Alive (loseV V c) { S with epoch := S.epoch + 1, tail := S.tail + nPieces b, dead := false } (xs ++ [b]) ∧ LiesE (loseV V c) { S with epoch := S.epoch + 1, tail := S.tail + nPieces b, dead := false } S.epoch 0 S.head (xs ++ [b]) (S.tail + nPieces b)) := by
  obtain ⟨V0, S0, ha, hk, ⟨j, hj, hc⟩, hS, hr, hb⟩ := h.elder
  have hd := ha.dead
  have hF := ha.fit
  have hh := hF.head
  have hcn := hF.count
  have hep := hF.epoch
  have hL : ∀ x, x ∈ chosen V.cache c → x ∈ lays S0 b j := fun x hx => by
    have := chosen_mem _ _ x hx
    rwa [hc] at this
  have hkept : (loseV V c).kept = settleV V0.kept (chosen V.cache c) := by show settleV V.kept _ = _; rw [hk]
  subst hS
  have hSe : ({ S0 with dead := true } : SpoolV).epoch = S0.epoch := rfl
  unfold roomV at hr
  have hsec : ∀ (S' : SpoolV), S'.first = S0.first → S'.count = S0.count → ∀ m, 0 ≤ m → secV (loseV V c) S' m = secV V0 S0 m ∨ ∃ i : Nat, i < nPieces b ∧ onV S0 (S0.tail + i) = onV S0 m ∧ secV (loseV V c) S' m = bytesV (chunkP S0 b i) := fun S' e1 e2 m hm => by
    rcases sec_lose hF ha.right ha.cache hkept rfl hL e1 e2 m hm with e | ⟨i, hi, k1, k2⟩
    · exact .inl e
    · exact .inr ⟨i, by omega, k1, k2⟩
  have hdd : ∀ (e' t' : Int), ({ S0 with epoch := e', tail := t', dead := false } : SpoolV) = { S0 with epoch := e', tail := t' } := fun e' t' => by
    obtain ⟨a1, a2, a3, a4, a5, a6⟩ := S0
    simp only at hd
    subst hd
    rfl
  by_cases hall : ∀ i : Nat, i < nPieces b → secV (loseV V c) S0 (S0.tail + i) = bytesV (chunkP S0 b i)
  · refine .inr ?_
    show Alive (loseV V c) { S0 with epoch := S0.epoch + 1, tail := S0.tail + nPieces b, dead := false } (xs ++ [b]) ∧ LiesE (loseV V c) { S0 with epoch := S0.epoch + 1, tail := S0.tail + nPieces b, dead := false } S0.epoch 0 S0.head (xs ++ [b]) (S0.tail + nPieces b)
    rw [hdd]
    exact ha.add hb hr rfl (by rw [hkept, settle_length]) (hsec _ rfl rfl) (fun i hi => (sec_ring rfl rfl _).trans (hall i hi)) rfl (by omega) he ht
  · refine .inl ?_
    show Alive (loseV V c) { S0 with epoch := S0.epoch + 1, tail := S0.tail, dead := false } xs ∧ LiesE (loseV V c) { S0 with epoch := S0.epoch + 1, tail := S0.tail, dead := false } S0.epoch 0 S0.head xs S0.tail
    rw [hdd]
    have hold : ∀ m, S0.head ≤ m → m < S0.tail → secV (loseV V c) S0 m = secV V0 S0 m := fun m m1 m2 => by
      rcases hsec S0 rfl rfl m (by omega) with e | ⟨i, hi, e, -⟩
      · exact e
      · have := on_apart hF e (by omega) (by omega)
        omega
    refine ⟨⟨⟨hF.first, hF.count, ⟨by show 1 ≤ S0.epoch + 1; omega, he⟩, hF.head, hF.tail⟩, by rw [hkept, settle_length]; exact ha.right, hd, rfl, fun m hm => ?_, ?_, ?_⟩, liesE_sec (Int.le_refl _) xs 0 S0.head S0.tail S0.head (Int.le_refl _) (fun m m1 m2 => (sec_ring rfl rfl _).trans (hold m m1 m2)) ha.lies⟩
    · rcases hsec { S0 with epoch := S0.epoch + 1, tail := S0.tail } rfl rfl m hm with e | ⟨i, hi, -, e⟩
      · rw [e]
        rcases ha.ring m hm with h0 | ⟨p, hp, k1, k2, k3, k4⟩
        · exact .inl h0
        · exact .inr ⟨p, hp, k1, k2, by show p.epoch ≤ S0.epoch + 1; omega, fun h5 => by have := k4 h5; show p.epoch < S0.epoch + 1; omega⟩
      · exact .inr ⟨chunkP S0 b i, chunk_good hF hb hi, e, by show S0.tail + (i : Int) - i ≤ S0.tail; omega, by show S0.epoch ≤ S0.epoch + 1; omega, fun _ => by show S0.epoch < S0.epoch + 1; omega⟩
    · exact liesE_sec (by show S0.epoch ≤ S0.epoch + 1; omega) xs 0 S0.head S0.tail S0.head (Int.le_refl _) (fun m m1 m2 => (sec_ring rfl rfl _).trans (hold m m1 m2)) ha.lies
    · have hfree := ha.free
      show recOk (loseV V c) { S0 with epoch := S0.epoch + 1, tail := S0.tail } S0.tail = false
      refine (rec_ring (S' := S0) rfl rfl _).trans ?_
      cases hrec : recOk (loseV V c) S0 S0.tail with
      | false => rfl
      | true =>
        exfalso
        have hring : ∀ m, 0 ≤ m → ∀ p, GoodP p → secV (loseV V c) S0 m = bytesV p → hereV (loseV V c) S0 m = decide (p.number = m) ∧ atV (loseV V c) S0 m = p := fun m _ p hp e => here_piece hp e
        have h0 : hereV (loseV V c) S0 S0.tail = true ∧ (atV (loseV V c) S0 S0.tail).at_ = 0 ∧ (atV (loseV V c) S0 S0.tail).of ≤ S0.count ∧ ∀ j, j < (atV (loseV V c) S0 S0.tail).of.toNat - 1 → followV (loseV V c) S0 S0.tail (j + 1) = true := by
          unfold recOk headOk at hrec
          simp only [Bool.and_eq_true, decide_eq_true_eq, List.all_eq_true] at hrec
          exact ⟨hrec.1.1.1, hrec.1.1.2, hrec.1.2, fun j hj => hrec.2 j (List.mem_range.2 hj)⟩
        obtain ⟨g1, g2, g3, g4⟩ := h0
        obtain ⟨o, ho⟩ : ∃ o, (atV (loseV V c) S0 S0.tail).of = o := ⟨_, rfl⟩
        obtain ⟨ep, hepp⟩ : ∃ ep, (atV (loseV V c) S0 S0.tail).epoch = ep := ⟨_, rfl⟩
        rw [ho] at g3 g4
        have hfo : ∀ i : Nat, (i : Int) < o → hereV (loseV V c) S0 (S0.tail + i) = true ∧ (atV (loseV V c) S0 (S0.tail + i)).at_ = i ∧ (atV (loseV V c) S0 (S0.tail + i)).of = o ∧ (atV (loseV V c) S0 (S0.tail + i)).epoch = ep := fun i hi => by
          cases i with
          | zero => rw [show S0.tail + ((0 : Nat) : Int) = S0.tail by omega]; exact ⟨g1, g2, ho, hepp⟩
          | succ i =>
            have := g4 i (by omega)
            unfold followV at this
            simp only [Bool.and_eq_true, decide_eq_true_eq] at this
            exact ⟨this.1.1.1, this.1.1.2, this.1.2.trans ho, this.2.trans hepp⟩
        have hcl : ∀ i : Nat, (i : Int) < o → secV (loseV V c) S0 (S0.tail + i) = secV V0 S0 (S0.tail + i) ∨ (i < nPieces b ∧ secV (loseV V c) S0 (S0.tail + i) = bytesV (chunkP S0 b i)) := fun i hi => by
          rcases hsec S0 rfl rfl (S0.tail + i) (by omega) with e | ⟨i', hi', e1, e2⟩
          · exact .inl e
          · have := on_apart hF e1 (by omega) (by omega)
            obtain rfl : i' = i := by omega
            exact .inr ⟨hi', e2⟩
        have hop : 0 < o := by
          have := (here_facts g1 (by
            have hsnd : Sound (loseV V c) → (secV (loseV V c) S0 S0.tail).length = 128 := fun hs => hs.read (on_has hF (by rw [hkept, settle_length]; exact ha.right) _ (by omega))
            rcases hsec S0 rfl rfl S0.tail (by omega) with e | ⟨i, hi, -, e⟩
            · rw [e]
              rcases ha.ring S0.tail (by omega) with e0 | ⟨p, hp, e0, -⟩
              · rw [e0]; simp
              · rw [e0, bytesV_length hp.len.1]
            · rw [e, bytesV_length (chunkB_length b i)])).2
          rw [g2, ho] at this
          exact this
        have holdp : ∀ i : Nat, (i : Int) < o → secV (loseV V c) S0 (S0.tail + i) = secV V0 S0 (S0.tail + i) → ep < S0.epoch := fun i hi e => by
          obtain ⟨f1, f2, f3, f4⟩ := hfo i hi
          have f1' : hereV V0 S0 (S0.tail + i) = true := by unfold hereV atV at *; rw [← e]; exact f1
          have f4' : (atV V0 S0 (S0.tail + i)).epoch = ep := by unfold atV at *; rw [← e]; exact f4
          have := (here_at ha.ring (by omega) f1').2.2.2.1 (by omega)
          omega
        have hnewp : ∀ i : Nat, (i : Int) < o → i < nPieces b → secV (loseV V c) S0 (S0.tail + i) = bytesV (chunkP S0 b i) → ep = S0.epoch ∧ o = nPieces b := fun i hi hi2 e => by
          obtain ⟨f1, f2, f3, f4⟩ := hfo i hi
          obtain ⟨q1, q2⟩ := here_piece (chunk_good hF hb hi2) e
          rw [q2] at f3 f4
          exact ⟨f4.symm, f3.symm⟩
        rcases hcl 0 (by omega) with e0 | ⟨h00, e0⟩
        · have hlt := holdp 0 (by omega) e0
          have hso : ∀ i : Nat, (i : Int) < o → secV (loseV V c) S0 (S0.tail + i) = secV V0 S0 (S0.tail + i) := fun i hi => by
            rcases hcl i hi with e | ⟨k1, k2⟩
            · exact e
            · have := (hnewp i hi k1 k2).1
              omega
          have hat0 : atV V0 S0 S0.tail = atV (loseV V c) S0 S0.tail := by
            have := hso 0 (by omega)
            rw [show S0.tail + ((0 : Nat) : Int) = S0.tail by omega] at this
            unfold atV
            rw [this]
          have hhe0 : hereV V0 S0 S0.tail = hereV (loseV V c) S0 S0.tail := by
            have := hso 0 (by omega)
            rw [show S0.tail + ((0 : Nat) : Int) = S0.tail by omega] at this
            unfold hereV
            rw [hat0, this]
          have : recOk V0 S0 S0.tail = true := by
            unfold recOk headOk
            rw [hhe0, hat0, g1, g2, ho, decide_eq_true g3]
            simp only [decide_true, Bool.and_true, Bool.true_and, List.all_eq_true]
            intro j hj
            have hj := List.mem_range.1 hj
            have e := hso (j + 1) (by omega)
            have hf := g4 j hj
            unfold followV at hf ⊢
            have ea : atV V0 S0 (S0.tail + ((j + 1 : Nat) : Int)) = atV (loseV V c) S0 (S0.tail + ((j + 1 : Nat) : Int)) := by unfold atV; rw [e]
            have eh : hereV V0 S0 (S0.tail + ((j + 1 : Nat) : Int)) = hereV (loseV V c) S0 (S0.tail + ((j + 1 : Nat) : Int)) := by unfold hereV; rw [ea, e]
            rw [eh, ea, hat0]
            exact hf
          rw [this] at hfree
          cases hfree
        · obtain ⟨ee, oo⟩ := hnewp 0 (by omega) h00 e0
          refine hall fun i hi => ?_
          rcases hcl i (by omega) with e | ⟨k1, k2⟩
          · have := holdp i (by omega) e
            omega
          · exact k2
theorem alive_opened {hi : Int} (h : Alive V S xs) (hl : LiesE V S hi 0 S.head xs S.tail) (hh : hi < S.epoch) (ht : S.tail ≤ 140737480000000) : opened V S.first S.count S.head S.epoch = (xs, S.tail) := by
  have hF := h.fit
  have hh0 := hF.head
  have ht0 := hF.tail
  have hc := hF.count
  unfold opened
  have := find_liesE (V := V) (S := ⟨S.first, S.count, S.epoch, S.head, S.head, false⟩) (hi := hi) hh ⟨hF.first, hF.count, hF.epoch, ⟨hh0.1, Int.le_refl _⟩, ⟨by show S.head ≤ _; omega, by show S.head - S.head ≤ S.count; omega⟩⟩ S.tail (by omega)
    (fun hr => (rec_ring rfl rfl _).trans h.free) xs 0 S.head 0 S.count.toNat [] (Int.le_refl _) (Int.le_refl _) hh0.2 ht0.2 (liesE_sec (V := V) (V' := V) (S := S) (S' := ⟨S.first, S.count, S.epoch, S.head, S.head, false⟩) (Int.le_refl _) xs 0 S.head S.tail S.head (Int.le_refl _) (fun m _ _ => sec_ring rfl rfl m) hl) (by show S.count - (S.head - S.head) ≤ _; omega) (Int.le_refl _)
  rw [this]
  rfl
theorem Alive.cut (h : Alive V S xs) : Alive V { S with head := S.tail } [] := by
  have hF := h.fit
  refine ⟨⟨hF.first, hF.count, hF.epoch, ⟨by have := hF.head; show 0 ≤ S.tail; omega, Int.le_refl _⟩, hF.tail.1, by have := hF.count; show S.tail - S.tail ≤ S.count; omega⟩, h.right, h.dead, h.cache, fun m hm => h.ring m hm, rfl, (rec_ring (S' := S) rfl rfl _).trans h.free⟩
end
end Go.Proofs.Ytddhngalokmdoaa.Spo
