/- Texts of this claim, merged: Spl, Spi, Skp. -/
import Derived.Test.YtddhngalokmdoaaMgBase15
/- What lies on a ring, plainly: pieces read back, records found. -/
namespace Go.Proofs.Ytddhngalokmdoaa.Spo
open Go.RowKit Go.Proofs.YtddhngalokmdoaaW.PrintWords Go.Proofs.YtddhngalokmdoaaW.PrintLast Go.Proofs.YtddhngalokmdoaaW.PrintMore Go.Proofs.Ytddhngalokmdoaa.Arr Go.Proofs.Ytddhngalokmdoaa.PSpoolPlays
set_option linter.unusedVariables false
set_option linter.unusedSimpArgs false

theorem num_big2 {n : Int} (h0 : 0 ≤ n) (h1 : n < 65536) : numV (bigV n 2) = n := by
  simp only [numV, bigV, List.foldl_cons, List.foldl_nil, Int.pow_zero, Int.pow_succ]
  omega
theorem num_big4 {n : Int} (h0 : 0 ≤ n) (h1 : n < 4294967296) : numV (bigV n 4) = n := by
  simp only [numV, bigV, List.foldl_cons, List.foldl_nil, Int.pow_zero, Int.pow_succ]
  omega
theorem num_big6 {n : Int} (h0 : 0 ≤ n) (h1 : n < 281474976710656) : numV (bigV n 6) = n := by
  simp only [numV, bigV, List.foldl_cons, List.foldl_nil, Int.pow_zero, Int.pow_succ]
  omega
structure GoodP (p : PieceV) : Prop where mk ::
  epoch : 0 ≤ p.epoch ∧ p.epoch < 4294967296
  number : 0 ≤ p.number ∧ p.number < 281474976710656
  at_ : 0 ≤ p.at_ ∧ p.at_ < p.of
  of : p.of < 65536
  len : p.b.length ≤ 108 ∧ (p.at_ < p.of - 1 → p.b.length = 108)
theorem seg {X Y Z : List Int} {i n : Nat} (hi : X.length = i) (hn : Y.length = n) : ((X ++ (Y ++ Z)).drop i).take n = Y := by
  subst hi hn
  rw [List.drop_left, List.take_left]
theorem size_bytes {p : PieceV} (h : p.b.length ≤ 108) : sizeV (bytesV p) = p.b.length := by
  have e : bytesV p = ([83] ++ bigV p.epoch 4 ++ bigV p.number 6 ++ bigV p.at_ 2 ++ bigV p.of 2) ++ ((p.b.length : Int) % 256 :: (p.b ++ List.replicate (108 - p.b.length) 0 ++ bigV (sumV (bodyV p)) 4)) := by
    simp [bytesV, bodyV, headV]
  have hl : ([83] ++ bigV p.epoch 4 ++ bigV p.number 6 ++ bigV p.at_ 2 ++ bigV p.of 2 : List Int).length = 15 := by simp [bigV_length]
  have : rd (bytesV p) 15 = (p.b.length : Int) % 256 := by
    unfold Go.Proofs.YtddhngalokmdoaaW.PrintWords.rd
    rw [e, List.getD, show (15 : Int).toNat = 15 from rfl, List.getElem?_append_right (by rw [hl]; exact Nat.le_refl _), hl]
    rfl
  unfold sizeV
  rw [this]
  omega
theorem piece_bytes {p : PieceV} (h : GoodP p) : pieceV (bytesV p) = p := by
  obtain ⟨epoch, number, at_, of, b⟩ := p
  obtain ⟨h1, h2, h3, h4, h5, h6⟩ := h
  simp only at h1 h2 h3 h4 h5
  have hs := size_bytes (p := ⟨epoch, number, at_, of, b⟩) h5
  unfold pieceV
  rw [hs]
  have e : bytesV ⟨epoch, number, at_, of, b⟩ = 83 :: (bigV epoch 4 ++ (bigV number 6 ++ (bigV at_ 2 ++ (bigV of 2 ++ ((b.length : Int) % 256 :: (b ++ (List.replicate (108 - b.length) 0 ++ bigV (sumV (bodyV ⟨epoch, number, at_, of, b⟩)) 4))))))) := by
    simp [bytesV, bodyV, headV]
  obtain ⟨Z, hZ⟩ : ∃ Z, List.replicate (108 - b.length) 0 ++ bigV (sumV (bodyV ⟨epoch, number, at_, of, b⟩)) 4 = Z := ⟨_, rfl⟩
  rw [e, hZ]
  have s1 := seg (X := [83]) (Y := bigV epoch 4) (Z := bigV number 6 ++ (bigV at_ 2 ++ (bigV of 2 ++ ((b.length : Int) % 256 :: (b ++ Z))))) (i := 1) rfl (bigV_length _ _)
  have s2 := seg (X := [83] ++ bigV epoch 4) (Y := bigV number 6) (Z := bigV at_ 2 ++ (bigV of 2 ++ ((b.length : Int) % 256 :: (b ++ Z)))) (i := 5) (by simp [bigV_length]) (bigV_length _ _)
  have s3 := seg (X := [83] ++ bigV epoch 4 ++ bigV number 6) (Y := bigV at_ 2) (Z := bigV of 2 ++ ((b.length : Int) % 256 :: (b ++ Z))) (i := 11) (by simp [bigV_length]) (bigV_length _ _)
  have s4 := seg (X := [83] ++ bigV epoch 4 ++ bigV number 6 ++ bigV at_ 2) (Y := bigV of 2) (Z := (b.length : Int) % 256 :: (b ++ Z)) (i := 13) (by simp [bigV_length]) (bigV_length _ _)
  have s5 := seg (X := [83] ++ bigV epoch 4 ++ bigV number 6 ++ bigV at_ 2 ++ bigV of 2 ++ [(b.length : Int) % 256]) (Y := b) (Z := Z) (i := 16) (n := b.length) (by simp [bigV_length]) rfl
  simp only [List.append_assoc, List.singleton_append, List.cons_append, List.nil_append] at s1 s2 s3 s4 s5
  simp only [Int.toNat_natCast]
  rw [s1, s2, s3, s4, s5, num_big4 h1.1 h1.2, num_big6 h2.1 h2.2, num_big2 h3.1 (by omega), num_big2 (by omega) h4]
theorem ok_bytes {p : PieceV} (h : GoodP p) : okV (bytesV p) = true := by
  unfold okV
  rw [piece_bytes h, size_bytes h.len.1]
  have h1 := h.at_
  have h2 := h.len
  simp only [Bool.and_eq_true, decide_eq_true_eq, Bool.not_eq_true', Bool.or_eq_false_iff, Bool.and_eq_false_iff, decide_eq_false_iff_not]
  refine ⟨⟨by omega, by omega, ?_⟩, trivial⟩
  by_cases h3 : p.at_ < p.of - 1
  · exact .inr (by rw [h2.2 h3]; decide)
  · exact .inl h3
section
variable {V : TrayV} {S : SpoolV} {n : Int}
theorem here_piece {p : PieceV} (hp : GoodP p) (h : secV V S n = bytesV p) : hereV V S n = decide (p.number = n) ∧ atV V S n = p := by
  unfold hereV atV
  rw [h, ok_bytes hp, piece_bytes hp]
  exact ⟨rfl, rfl⟩
end
theorem emod_apart {x y c : Int} (hc : 0 < c) (h : x % c = y % c) (h1 : x - y < c) (h2 : y - x < c) : x = y := by
  have e1 := Int.emod_add_mul_ediv x c
  have e2 := Int.emod_add_mul_ediv y c
  have e3 : x - y = c * (x / c - y / c) := by rw [Int.mul_sub]; omega
  obtain ⟨k, hk⟩ : ∃ k, x / c - y / c = k := ⟨_, rfl⟩
  rw [hk] at e3
  rcases Int.lt_trichotomy k 0 with h3 | h3 | h3
  · have := Int.mul_le_mul_of_nonneg_left (show k ≤ -1 by omega) (Int.le_of_lt hc)
    omega
  · subst h3; omega
  · have := Int.mul_le_mul_of_nonneg_left (show 1 ≤ k by omega) (Int.le_of_lt hc)
    omega
theorem settle_get (l : List (Int × List Int)) (hl : ∀ x, x ∈ l → 0 ≤ x.1) (a : Nat) : ∀ k : List (List Int), a < k.length → (settleV k l).getD a [] = lastV l (a : Int) (k.getD a []) := by
  induction l with
  | nil => intro k _; rfl
  | cons x l ih =>
    intro k ha
    show (settleV (k.set x.1.toNat x.2) l).getD a [] = lastV l a (if x.1 = a then x.2 else k.getD a [])
    rw [ih (fun y hy => hl y (by simp [hy])) _ (by rw [List.length_set]; exact ha)]
    congr 1
    have h0 := hl x (by simp)
    by_cases h : x.1 = a
    · rw [if_pos h]
      have : x.1.toNat = a := by omega
      rw [this, List.getD, List.getElem?_set_self ha, Option.getD_some]
    · rw [if_neg h, List.getD, List.getD, List.getElem?_set_ne (by omega)]
section
variable {S : SpoolV} {b : List Int}
theorem on_apart (hF : Fit S) {x y : Int} (h : onV S x = onV S y) (h1 : x - y < S.count) (h2 : y - x < S.count) : x = y := by
  unfold onV at h
  exact emod_apart (by have := hF.count; omega) (by omega) h1 h2
theorem lays_miss {a : Int} {d : List Int} : ∀ k : Nat, (∀ i : Nat, i < k → onV S (S.tail + i) ≠ a) → lastV (lays S b k) a d = d
  | 0, _ => rfl
  | k + 1, h => by
    rw [lays, last_snoc, if_neg (h k (by omega)), lays_miss k (fun i hi => h i (by omega))]
theorem lays_hit (hF : Fit S) {d : List Int} (i : Nat) : ∀ k : Nat, i < k → (k : Int) ≤ S.count → lastV (lays S b k) (onV S (S.tail + i)) d = bytesV (chunkP S b i)
  | 0, h, _ => absurd h (Nat.not_lt_zero _)
  | k + 1, h, hk => by
    rw [lays, last_snoc]
    by_cases hi : i = k
    · subst hi
      rw [if_pos rfl, padB_full (bytesV_length (chunkB_length b i))]
    · rw [if_neg, lays_hit hF i k (by omega) (by omega)]
      intro e
      have := on_apart hF e (by omega) (by omega)
      omega
theorem lays_at (hF : Fit S) : ∀ k : Nat, ∀ x, x ∈ lays S b k → 0 ≤ x.1
  | 0, x, h => by cases h
  | k + 1, x, h => by
    rw [lays] at h
    rcases List.mem_append.1 h with h | h
    · exact lays_at hF k x h
    · obtain rfl := List.mem_singleton.1 h
      unfold onV
      have := Int.emod_nonneg (S.tail + k) (show S.count ≠ 0 by have := hF.count; omega)
      have := hF.first
      show 0 ≤ S.first + _
      omega
end
theorem chunk_len {b : List Int} {i : Nat} (h : i + 1 < nPieces b) : (chunkB b i).length = 108 := by
  unfold nPieces at h
  unfold chunkB
  rw [List.length_drop, List.length_take]
  omega
theorem chunk_good {S : SpoolV} {b : List Int} (hF : Fit S) (hl : b.length ≤ 60000) {i : Nat} (hi : i < nPieces b) : GoodP (chunkP S b i) := by
  have h0 : nPieces b ≤ 600 := by unfold nPieces; omega
  refine ⟨?_, ?_, ?_, ?_, chunkB_length b i, fun h => chunk_len (b := b) ?_⟩
  · have := hF.epoch; show 0 ≤ S.epoch ∧ S.epoch < _; omega
  · have := hF.head; have := hF.tail; show 0 ≤ S.tail + i ∧ S.tail + i < _; omega
  · show (0 : Int) ≤ i ∧ (i : Int) < nPieces b; omega
  · show (nPieces b : Int) < _; omega
  · have h : (i : Int) < (nPieces b : Int) - 1 := h
    omega
theorem chunks_all (b : List Int) : ∀ k : Nat, (List.range k).flatMap (chunkB b) = b.take (108 * k)
  | 0 => by simp
  | k + 1 => by
    rw [List.range_succ, List.flatMap_append, chunks_all b k]
    simp only [List.flatMap_cons, List.flatMap_nil, List.append_nil]
    unfold chunkB
    by_cases h : 108 * (k + 1) ≤ b.length
    · rw [Nat.min_eq_left h]
      have := List.take_append_drop (108 * k) (b.take (108 * (k + 1)))
      rw [List.take_take, Nat.min_eq_left (by omega)] at this
      exact this
    · rw [Nat.min_eq_right (by omega), List.take_of_length_le (Nat.le_refl _), List.take_append_drop, List.take_of_length_le (by omega)]
end Go.Proofs.Ytddhngalokmdoaa.Spo

/- A ring whose pieces are all of elder numbers: what is found from the head on. -/
namespace Go.Proofs.Ytddhngalokmdoaa.Spo
open Go.RowKit Go.Proofs.YtddhngalokmdoaaW.PrintWords Go.Proofs.YtddhngalokmdoaaW.PrintLast Go.Proofs.YtddhngalokmdoaaW.PrintMore Go.Proofs.Ytddhngalokmdoaa.Arr Go.Proofs.Ytddhngalokmdoaa.PSpoolPlays
set_option linter.unusedVariables false
set_option linter.unusedSimpArgs false

/-- The piece i of a record b at n. -/
def partP (ep n : Int) (b : List Int) (i : Nat) : PieceV := ⟨ep, n + i, i, nPieces b, chunkB b i⟩
theorem part_good {ep n : Int} {b : List Int} (he : 0 ≤ ep ∧ ep < 4294967296) (hn : 0 ≤ n) (hn2 : n ≤ 140737488355328) (hl : b.length ≤ 60000) {i : Nat} (hi : i < nPieces b) : GoodP (partP ep n b i) := by
  have h0 : nPieces b ≤ 600 := by unfold nPieces; omega
  refine ⟨he, ?_, ?_, ?_, chunkB_length b i, fun h => chunk_len (b := b) ?_⟩
  · show 0 ≤ n + i ∧ n + i < _; omega
  · show (0 : Int) ≤ i ∧ (i : Int) < nPieces b; omega
  · show (nPieces b : Int) < _; omega
  · have h : (i : Int) < (nPieces b : Int) - 1 := h
    omega
/-- A record lies at n. -/
def RecAt (V : TrayV) (S : SpoolV) (ep n : Int) (b : List Int) : Prop := b.length ≤ 60000 ∧ ∀ i : Nat, i < nPieces b → secV V S (n + i) = bytesV (partP ep n b i)
/-- Records lie one behind the other. -/
def Lies (V : TrayV) (S : SpoolV) (ep : Int) : Int → List (List Int) → Int → Prop
  | n, [], tl => n = tl
  | n, b :: xs, tl => RecAt V S ep n b ∧ Lies V S ep (n + nPieces b) xs tl
theorem nP_pos (b : List Int) : 1 ≤ nPieces b := by unfold nPieces; omega
section
variable {V : TrayV} {S : SpoolV} {ep n : Int} {b : List Int}
theorem rec_at (he : 0 ≤ ep ∧ ep < 4294967296) (hn : 0 ≤ n) (hn2 : n ≤ 140737488355328) (h : RecAt V S ep n b) {i : Nat} (hi : i < nPieces b) : hereV V S (n + i) = true ∧ atV V S (n + i) = partP ep n b i := by
  have hg := part_good he hn hn2 h.1 hi
  obtain ⟨h1, h2⟩ := here_piece hg (h.2 i hi)
  exact ⟨by rw [h1]; exact decide_eq_true rfl, h2⟩
theorem rec_found (he : 0 ≤ ep ∧ ep < 4294967296) (hn : 0 ≤ n) (hn2 : n ≤ 140737488355328) (h : RecAt V S ep n b) (hc : (nPieces b : Int) ≤ S.count) :
    recOk V S n = true ∧ (atV V S n).epoch = ep ∧ (atV V S n).of = nPieces b ∧ bodyR V S n (nPieces b) = b := by
  have h0 := rec_at he hn hn2 h (nP_pos b)
  rw [show n + ((0 : Nat) : Int) = n by omega] at h0
  have hat : (atV V S n).at_ = 0 := by rw [h0.2]; rfl
  have hof : (atV V S n).of = nPieces b := by rw [h0.2]; rfl
  have hep : (atV V S n).epoch = ep := by rw [h0.2]; rfl
  refine ⟨?_, hep, hof, ?_⟩
  · unfold recOk headOk
    rw [h0.1, hat, hof, decide_eq_true (show (0 : Int) = 0 from rfl), decide_eq_true hc]
    simp only [Bool.true_and, Bool.and_true, List.all_eq_true]
    intro j hj
    have hj2 : j + 1 < nPieces b := by have := List.mem_range.1 hj; omega
    obtain ⟨h1, h2⟩ := rec_at he hn hn2 h hj2
    unfold followV
    rw [h1, h2, hof, hep]
    simp [partP]
  · have : ∀ k : Nat, k ≤ nPieces b → bodyR V S n k = (List.range k).flatMap (chunkB b) := by
      intro k
      induction k with
      | zero => intro _; rfl
      | succ k ih =>
        intro hk
        rw [bodyR, ih (by omega), (rec_at he hn hn2 h (show k < nPieces b by omega)).2, List.range_succ, List.flatMap_append]
        simp [partP]
    rw [this _ (Nat.le_refl _), chunks_all, List.take_of_length_le]
    unfold nPieces
    omega
end
/-- Nothing stands at a number. -/
theorem find_lies {V : TrayV} {S : SpoolV} {ep : Int} (he : 0 ≤ ep ∧ ep < S.epoch) (hF : Fit S) (tl : Int) (ht : tl ≤ 140737488355328) (hend : 0 < S.count - (tl - S.head) → hereV V S tl = false) :
    ∀ (xs : List (List Int)) (n least : Int) (k : Nat) (out : List (List Int)), S.head ≤ n → n ≤ tl → tl - S.head ≤ S.count → Lies V S ep n xs tl → S.count - (n - S.head) ≤ k → least ≤ ep → findV V S k n least out = (out ++ xs, tl)
  | [], n, least, k, out, h1, h2, h3, hl, hk, hle => by
    have hl : n = tl := hl
    subst hl
    rw [List.append_nil]
    cases k with
    | zero => rfl
    | succ k =>
      simp only [findV]
      rw [if_neg]
      rintro ⟨h4, h5⟩
      unfold takeV at h5
      rw [rec_here (hend h4)] at h5
      cases h5
  | b :: xs, n, least, k, out, h1, h2, h3, hl, hk, hle => by
    obtain ⟨hr, hl⟩ := hl
    have hnp := nP_pos b
    have hle2 : n + nPieces b ≤ tl := by
      have : ∀ (ys : List (List Int)) (m : Int), Lies V S ep m ys tl → m ≤ tl := by
        intro ys
        induction ys with
        | nil => intro m h; exact Int.le_of_eq h
        | cons y ys ih => intro m h; have := ih _ h.2; have := nP_pos y; omega
      exact this xs _ hl
    have hh := hF.head
    have he2 := hF.epoch
    obtain ⟨f1, f2, f3, f4⟩ := rec_found (V := V) (S := S) (ep := ep) (n := n) (b := b) ⟨he.1, by omega⟩ (by omega) (by omega) hr (by omega)
    obtain ⟨k, rfl⟩ : ∃ j, k = j + 1 := ⟨k - 1, by omega⟩
    simp only [findV]
    rw [if_pos ⟨by omega, by unfold takeV; rw [f1, f2, f3, decide_eq_true (show (nPieces b : Int) ≤ S.count - (n - S.head) by omega), decide_eq_true hle, decide_eq_true he.2]; rfl⟩, f2, f3, Int.toNat_natCast, f4,
      find_lies he hF tl ht hend xs (n + nPieces b) ep k (out ++ [b]) (by omega) hle2 h3 hl (by omega) (Int.le_refl _)]
    simp
/-- Every sector of the ring is empty, or has a piece of an elder number. -/
def Elder (V : TrayV) (S : SpoolV) (tl : Int) : Prop := ∀ m : Int, 0 ≤ m → secV V S m = List.replicate 128 0 ∨ ∃ p, GoodP p ∧ secV V S m = bytesV p ∧ p.number < tl
theorem Elder.here {V : TrayV} {S : SpoolV} {tl : Int} (h : Elder V S tl) (ht : 0 ≤ tl) : hereV V S tl = false := by
  rcases h tl ht with h | ⟨p, hp, h1, h2⟩
  · exact here_zero h
  · rw [(here_piece hp h1).1]
    exact decide_eq_false (by omega)
section
variable {V : TrayV} {S : SpoolV} {b : List Int}
theorem app_sec (hF : Fit S) (hR : S.first + S.count ≤ V.kept.length) (hc : V.cache = []) (m : Int) (hm : 0 ≤ m) : readV { V with kept := settleV V.kept (V.cache ++ lays S b (nPieces b)), cache := [] } (onV S m) = lastV (lays S b (nPieces b)) (onV S m) (secV V S m) := by
  have hh := on_has hF hR m hm
  unfold hasV at hh
  simp only [Bool.and_eq_true, decide_eq_true_eq] at hh
  obtain ⟨a, ha⟩ : ∃ a : Nat, onV S m = (a : Int) := ⟨(onV S m).toNat, by omega⟩
  unfold secV readV
  rw [ha, hc]
  show lastV [] _ ((settleV V.kept ([] ++ lays S b (nPieces b))).getD a []) = _
  rw [List.nil_append, last_nil, settle_get _ (lays_at hF _) a V.kept (by omega), last_nil]
  rfl
/-- What an append leaves of the ring. -/
theorem app_keep (hF : Fit S) (hR : S.first + S.count ≤ V.kept.length) (hc : V.cache = []) (hl : V.left < 0) (hd : S.dead = false) (hb : b.length ≤ 60000) (hr : (nPieces b : Int) ≤ roomV S) (he : Elder V S S.tail) (ht : S.tail ≤ 140737480000000) :
    Elder (appendV V S b).1 (appendV V S b).2.1 (S.tail + nPieces b) ∧ RecAt (appendV V S b).1 (appendV V S b).2.1 S.epoch S.tail b ∧
      ∀ m, S.head ≤ m → m < S.tail → secV (appendV V S b).1 (appendV V S b).2.1 m = secV V S m := by
  rw [append_free hl hF hR hb hr hd]
  have hsec : ∀ m, 0 ≤ m → secV { V with kept := settleV V.kept (V.cache ++ lays S b (nPieces b)), cache := [] } { S with tail := S.tail + nPieces b, dead := false } m = lastV (lays S b (nPieces b)) (onV S m) (secV V S m) := fun m hm => app_sec hF hR hc m hm
  have hh := hF.head
  have hcn := hF.count
  unfold roomV at hr
  refine ⟨fun m hm => ?_, ⟨hb, fun i hi => ?_⟩, fun m h1 h2 => ?_⟩
  · rw [hsec m hm]
    by_cases hex : ∃ i : Nat, i < nPieces b ∧ onV S (S.tail + i) = onV S m
    · obtain ⟨i, hi, e⟩ := hex
      refine .inr ⟨chunkP S b i, chunk_good hF hb hi, ?_, ?_⟩
      · rw [← e]
        exact lays_hit hF i _ hi (by omega)
      · show S.tail + i < _; omega
    · rw [lays_miss _ (fun i hi e => hex ⟨i, hi, e⟩)]
      rcases he m hm with h | ⟨p, hp, h1, h2⟩
      · exact .inl h
      · exact .inr ⟨p, hp, h1, by omega⟩
  · rw [hsec _ (by omega)]
    exact lays_hit hF i _ hi (by omega)
  · rw [hsec m (by omega)]
    refine lays_miss _ fun i hi e => ?_
    have := on_apart hF e (by omega) (by omega)
    omega
end
theorem lies_sec {V V' : TrayV} {S S' : SpoolV} {ep : Int} {lo : Int} : ∀ (xs : List (List Int)) (n tl : Int), lo ≤ n → (∀ m, lo ≤ m → m < tl → secV V' S' m = secV V S m) → Lies V S ep n xs tl → Lies V' S' ep n xs tl
  | [], n, tl, _, _, h => h
  | b :: xs, n, tl, hn, hs, h => by
    have hle : n + nPieces b ≤ tl := by
      have : ∀ (ys : List (List Int)) (m : Int), Lies V S ep m ys tl → m ≤ tl := by
        intro ys
        induction ys with
        | nil => intro m h; exact Int.le_of_eq h
        | cons y ys ih => intro m h; have := ih _ h.2; have := nP_pos y; omega
      exact this xs _ h.2
    exact ⟨⟨h.1.1, fun i hi => by rw [hs _ (by omega) (by omega)]; exact h.1.2 i hi⟩, lies_sec xs _ tl (by omega) hs h.2⟩
theorem lies_snoc {V : TrayV} {S : SpoolV} {ep : Int} {b : List Int} {tl : Int} : ∀ (xs : List (List Int)) (n : Int), Lies V S ep n xs tl → RecAt V S ep tl b → Lies V S ep n (xs ++ [b]) (tl + nPieces b)
  | [], n, h, hr => by
    have h : n = tl := h
    subst h
    exact ⟨hr, rfl⟩
  | y :: xs, n, h, hr => ⟨h.1, lies_snoc xs _ h.2 hr⟩
end Go.Proofs.Ytddhngalokmdoaa.Spo

/- The law SpoolKeeps, plainly: what lies on the ring through losses of power. -/
namespace Go.Proofs.Ytddhngalokmdoaa.Spo
open Go.RowKit Go.Proofs.YtddhngalokmdoaaW.PrintWords Go.Proofs.YtddhngalokmdoaaW.PrintLast Go.Proofs.YtddhngalokmdoaaW.PrintMore Go.Proofs.Ytddhngalokmdoaa.Arr Go.Proofs.Ytddhngalokmdoaa.PSpoolPlays
set_option linter.unusedVariables false
set_option linter.unusedSimpArgs false

/-- Records lie one behind the other; their epochs don't fall. -/
def LiesE (V : TrayV) (S : SpoolV) (hi : Int) : Int → Int → List (List Int) → Int → Prop
  | _, n, [], tl => n = tl
  | lo, n, b :: xs, tl => ∃ ep, lo ≤ ep ∧ ep ≤ hi ∧ RecAt V S ep n b ∧ LiesE V S hi ep (n + nPieces b) xs tl
section
variable {V V' : TrayV} {S S' : SpoolV} {hi hi' : Int}
theorem liesE_le : ∀ (xs : List (List Int)) (lo n tl : Int), LiesE V S hi lo n xs tl → n ≤ tl
  | [], _, _, _, h => Int.le_of_eq h
  | b :: xs, lo, n, tl, ⟨ep, _, _, _, h⟩ => by have := liesE_le xs _ _ _ h; have := nP_pos b; omega
theorem liesE_sec (hh : hi ≤ hi') : ∀ (xs : List (List Int)) (lo n tl a : Int), a ≤ n → (∀ m, a ≤ m → m < tl → secV V' S' m = secV V S m) → LiesE V S hi lo n xs tl → LiesE V' S' hi' lo n xs tl
  | [], _, _, _, _, _, _, h => h
  | b :: xs, lo, n, tl, a, hn, hs, ⟨ep, h1, h2, h3, h4⟩ => by
    have hle := liesE_le xs _ _ _ h4
    exact ⟨ep, h1, by omega, ⟨h3.1, fun i hi => by rw [hs _ (by omega) (by omega)]; exact h3.2 i hi⟩, liesE_sec hh xs _ _ tl a (by omega) hs h4⟩
theorem liesE_snoc {ep : Int} {b : List Int} {tl : Int} (he : ep = hi) (hr : RecAt V S ep tl b) : ∀ (xs : List (List Int)) (lo n : Int), lo ≤ hi → LiesE V S hi lo n xs tl → LiesE V S hi lo n (xs ++ [b]) (tl + nPieces b)
  | [], lo, n, hl, h => by
    have h : n = tl := h
    subst h
    exact ⟨ep, by omega, by omega, hr, rfl⟩
  | y :: xs, lo, n, hl, ⟨e1, h1, h2, h3, h4⟩ => ⟨e1, h1, h2, h3, liesE_snoc he hr xs _ _ h2 h4⟩
end
theorem find_liesE {V : TrayV} {S : SpoolV} {hi : Int} (he : hi < S.epoch) (hF : Fit S) (tl : Int) (ht : tl ≤ 140737488355328) (hend : 0 < S.count - (tl - S.head) → recOk V S tl = false) :
    ∀ (xs : List (List Int)) (lo n least : Int) (k : Nat) (out : List (List Int)), 0 ≤ lo → S.head ≤ n → n ≤ tl → tl - S.head ≤ S.count → LiesE V S hi lo n xs tl → S.count - (n - S.head) ≤ k → least ≤ lo → findV V S k n least out = (out ++ xs, tl)
  | [], lo, n, least, k, out, h0, h1, h2, h3, hl, hk, hle => by
    have hl : n = tl := hl
    subst hl
    rw [List.append_nil]
    cases k with
    | zero => rfl
    | succ k =>
      simp only [findV]
      rw [if_neg]
      rintro ⟨h4, h5⟩
      unfold takeV at h5
      rw [hend h4] at h5
      cases h5
  | b :: xs, lo, n, least, k, out, h0, h1, h2, h3, ⟨ep, g1, g2, hr, hl⟩, hk, hle => by
    have hnp := nP_pos b
    have hle2 := liesE_le xs _ _ _ hl
    have hh := hF.head
    have he2 := hF.epoch
    obtain ⟨f1, f2, f3, f4⟩ := rec_found (V := V) (S := S) (ep := ep) (n := n) (b := b) ⟨by omega, by omega⟩ (by omega) (by omega) hr (by omega)
    obtain ⟨k, rfl⟩ : ∃ j, k = j + 1 := ⟨k - 1, by omega⟩
    simp only [findV]
    rw [if_pos ⟨by omega, by unfold takeV; rw [f1, f2, f3, decide_eq_true (show (nPieces b : Int) ≤ S.count - (n - S.head) by omega), decide_eq_true (show least ≤ ep by omega), decide_eq_true (show ep < S.epoch by omega)]; rfl⟩, f2, f3, Int.toNat_natCast, f4,
      find_liesE he hF tl ht hend xs ep (n + nPieces b) ep k (out ++ [b]) (by omega) (by omega) hle2 h3 hl (by omega) (Int.le_refl _)]
    simp
/-- Every sector of the ring: empty, or a piece whose record begins no later than the tail; those behind the tail are of elder epochs. -/
def Ring1 (V : TrayV) (S : SpoolV) : Prop := ∀ m : Int, 0 ≤ m → secV V S m = List.replicate 128 0 ∨ ∃ p, GoodP p ∧ secV V S m = bytesV p ∧ p.number - p.at_ ≤ S.tail ∧ p.epoch ≤ S.epoch ∧ (S.tail ≤ p.number → p.epoch < S.epoch)
structure Alive (V : TrayV) (S : SpoolV) (xs : List (List Int)) : Prop where mk ::
  fit : Fit S
  right : S.first + S.count ≤ V.kept.length
  dead : S.dead = false
  cache : V.cache = []
  ring : Ring1 V S
  lies : LiesE V S S.epoch 0 S.head xs S.tail
  free : recOk V S S.tail = false
/-- A record was being appended when a step was refused. -/
structure Dying (V : TrayV) (S : SpoolV) (xs : List (List Int)) (b : List Int) : Prop where mk ::
  elder : ∃ V0 S0, Alive V0 S0 xs ∧ V.kept = V0.kept ∧ (∃ j, j ≤ nPieces b ∧ V.cache = lays S0 b j) ∧ S = { S0 with dead := true } ∧ (nPieces b : Int) ≤ roomV S0 ∧ b.length ≤ 60000
theorem here_at {V : TrayV} {S : SpoolV} (hr : Ring1 V S) {m : Int} (hm : 0 ≤ m) (h : hereV V S m = true) : (atV V S m).number = m ∧ m - (atV V S m).at_ ≤ S.tail ∧ (atV V S m).epoch ≤ S.epoch ∧ (S.tail ≤ m → (atV V S m).epoch < S.epoch) ∧ secV V S m = bytesV (atV V S m) := by
  rcases hr m hm with h0 | ⟨p, hp, h1, h2, h3, h4⟩
  · rw [here_zero h0] at h; cases h
  · obtain ⟨k1, k2⟩ := here_piece hp h1
    rw [k1] at h
    have h := of_decide_eq_true h
    rw [k2]
    exact ⟨h, by omega, h3, fun h5 => h4 (by omega), h1⟩
/-- Nothing begins where every piece of that number is of an elder record. -/
theorem rec_none {V : TrayV} {S : SpoolV} {m : Int} (h : hereV V S m = true → (atV V S m).at_ ≠ 0) : recOk V S m = false := by
  unfold recOk headOk
  cases hh : hereV V S m with
  | false => rfl
  | true => rw [decide_eq_false (h hh)]; rfl
section
variable {V : TrayV} {S : SpoolV} {b : List Int}
/-- Writes that may be refused. -/
theorem writes_form (hF : Fit S) (hR : S.first + S.count ≤ V.kept.length) : ∀ k : Nat, (writesV V S b k).1.kept = V.kept ∧ (((writesV V S b k).2 = 0 ∧ (writesV V S b k).1.cache = V.cache ++ lays S b k) ∨ ((writesV V S b k).2 = 20 ∧ ∃ j, j ≤ k ∧ (writesV V S b k).1.cache = V.cache ++ lays S b j))
  | 0 => ⟨rfl, .inl ⟨rfl, by simp [writesV, lays]⟩⟩
  | k + 1 => by
    obtain ⟨h1, h2⟩ := writes_form hF hR k
    rw [writesV]
    rcases h2 with ⟨h2, h3⟩ | ⟨h2, j, hj, h3⟩
    · rw [if_pos h2]
      have hh : hasV (writesV V S b k).1 (onV S (S.tail + k)) = true := on_has hF (by rw [h1]; exact hR) _ (by have := hF.head; omega)
      have hlen := bytesV_length (p := chunkP S b k) (chunkB_length b k)
      obtain ⟨s1, s2⟩ := step_kept (writesV V S b k).1
      unfold writeV
      rw [if_neg (by rw [hh]; rintro (h | h); cases h; omega)]
      by_cases hs : (stepV (writesV V S b k).1).2 = true
      · rw [if_pos hs]
        refine ⟨s1.trans h1, .inl ⟨rfl, ?_⟩⟩
        show (writesV V S b k).1.cache ++ _ = _
        rw [h3, lays, List.append_assoc]
      · rw [if_neg hs]
        exact ⟨s1.trans h1, .inr ⟨rfl, k, by omega, s2.trans h3⟩⟩
    · rw [if_neg (by rw [h2]; decide)]
      exact ⟨h1, .inr ⟨h2, j, by omega, h3⟩⟩
theorem append_form (hF : Fit S) (hR : S.first + S.count ≤ V.kept.length) (hc : V.cache = []) (hb : b.length ≤ 60000) (hd : S.dead = false) :
    (roomV S < nPieces b ∧ appendV V S b = (V, S, 3)) ∨
    ((nPieces b : Int) ≤ roomV S ∧ (appendV V S b).2 = ({ S with tail := S.tail + nPieces b, dead := false }, 0) ∧ (appendV V S b).1.kept = settleV V.kept (lays S b (nPieces b)) ∧ (appendV V S b).1.cache = []) ∨
    ((nPieces b : Int) ≤ roomV S ∧ (appendV V S b).2 = ({ S with dead := true }, 20) ∧ (appendV V S b).1.kept = V.kept ∧ ∃ j, j ≤ nPieces b ∧ (appendV V S b).1.cache = lays S b j) := by
  obtain ⟨h1, h2⟩ := writes_form (b := b) hF hR (nPieces b)
  rw [hc] at h2
  simp only [List.nil_append] at h2
  unfold appendV
  rw [if_neg (by omega)]
  by_cases hr : roomV S < nPieces b
  · rw [if_pos hr]; exact .inl ⟨hr, rfl⟩
  rw [if_neg hr, if_neg (by rw [hd]; decide)]
  rcases h2 with ⟨h2, h3⟩ | ⟨h2, j, hj, h3⟩
  · rw [if_neg (fun h => h h2)]
    obtain ⟨s1, s2⟩ := step_kept (writesV V S b (nPieces b)).1
    by_cases hs : (stepV (writesV V S b (nPieces b)).1).2 = true
    · have e : flushV (writesV V S b (nPieces b)).1 = ({ (stepV (writesV V S b (nPieces b)).1).1 with kept := settleV (writesV V S b (nPieces b)).1.kept (writesV V S b (nPieces b)).1.cache, cache := [] }, 0) := by unfold flushV; rw [if_pos hs]
      rw [e, if_neg (fun h => h rfl)]
      exact .inr (.inl ⟨by omega, rfl, by show settleV _ _ = _; rw [h1, h3], rfl⟩)
    · have e : flushV (writesV V S b (nPieces b)).1 = ((stepV (writesV V S b (nPieces b)).1).1, 20) := by unfold flushV; rw [if_neg hs]
      rw [e, if_pos (by show (20 : Int) ≠ 0; decide)]
      exact .inr (.inr ⟨by omega, rfl, s1.trans h1, _, Nat.le_refl _, s2.trans h3⟩)
  · rw [if_pos (by rw [h2]; decide), h2]
    exact .inr (.inr ⟨by omega, rfl, h1, j, hj, h3⟩)
end
end Go.Proofs.Ytddhngalokmdoaa.Spo
