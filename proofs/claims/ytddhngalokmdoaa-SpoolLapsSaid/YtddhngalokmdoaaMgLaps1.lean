/- Texts of this claim, merged: Spl, Spi, Ssm. -/
import Derived.Test.YtddhngalokmdoaaMgBase15
import Derived.Test.YtddhngalokmdoaaMgBase4
/- What lies on a ring, plainly: pieces read back, records found. -/
namespace Go.Proofs.Ytddhngalokmdoaa.Spo
open Go.RowKit Go.Proofs.YtddhngalokmdoaaW.PrintWords Go.Proofs.YtddhngalokmdoaaW.PrintLast Go.Proofs.YtddhngalokmdoaaW.PrintMore Go.Proofs.Ytddhngalokmdoaa.Arr Go.Proofs.Ytddhngalokmdoaa.PSpoolPlays
set_option linter.unusedVariables false
set_option linter.unusedSimpArgs false

theorem num_big2 {n : Int} (h0 : 0 ≤ n) (h1 : n < 65536) : numV (bigV n 2) = n := by
  simp only [numV, bigV, List.foldl_cons, List.foldl_nil, Int.pow_zero, Int.pow_succ]
  omega
theorem num_big4 {n : Int} (h0 : 0 ≤ n) (h1 : n < 4294967296) : numV (bigV n 4) = n := by
  simp only [numV, bigV, List.foldl_cons, List.foldl_nil, Int.pow_zero, Int.pow_succ]
  omega
theorem num_big6 {n : Int} (h0 : 0 ≤ n) (h1 : n < 281474976710656) : numV (bigV n 6) = n := by
  simp only [numV, bigV, List.foldl_cons, List.foldl_nil, Int.pow_zero, Int.pow_succ]
  omega
structure GoodP (p : PieceV) : Prop where mk ::
  epoch : 0 ≤ p.epoch ∧ p.epoch < 4294967296
  number : 0 ≤ p.number ∧ p.number < 281474976710656
  at_ : 0 ≤ p.at_ ∧ p.at_ < p.of
  of : p.of < 65536
  len : p.b.length ≤ 108 ∧ (p.at_ < p.of - 1 → p.b.length = 108)
theorem seg {X Y Z : List Int} {i n : Nat} (hi : X.length = i) (hn : Y.length = n) : ((X ++ (Y ++ Z)).drop i).take n = Y := by
  subst hi hn
  rw [List.drop_left, List.take_left]
theorem size_bytes {p : PieceV} (h : p.b.length ≤ 108) : sizeV (bytesV p) = p.b.length := by
  have e : bytesV p = ([83] ++ bigV p.epoch 4 ++ bigV p.number 6 ++ bigV p.at_ 2 ++ bigV p.of 2) ++ ((p.b.length : Int) % 256 :: (p.b ++ List.replicate (108 - p.b.length) 0 ++ bigV (sumV (bodyV p)) 4)) := by
    simp [bytesV, bodyV, headV]
  have hl : ([83] ++ bigV p.epoch 4 ++ bigV p.number 6 ++ bigV p.at_ 2 ++ bigV p.of 2 : List Int).length = 15 := by simp [bigV_length]
  have : rd (bytesV p) 15 = (p.b.length : Int) % 256 := by
    unfold Go.Proofs.YtddhngalokmdoaaW.PrintWords.rd
    rw [e, List.getD, show (15 : Int).toNat = 15 from rfl, List.getElem?_append_right (by rw [hl]; exact Nat.le_refl _), hl]
    rfl
  unfold sizeV
  rw [this]
  omega
theorem piece_bytes {p : PieceV} (h : GoodP p) : pieceV (bytesV p) = p := by
  obtain ⟨epoch, number, at_, of, b⟩ := p
  obtain ⟨h1, h2, h3, h4, h5, h6⟩ := h
  simp only at h1 h2 h3 h4 h5
  have hs := size_bytes (p := ⟨epoch, number, at_, of, b⟩) h5
  unfold pieceV
  rw [hs]
  have e : bytesV ⟨epoch, number, at_, of, b⟩ = 83 :: (bigV epoch 4 ++ (bigV number 6 ++ (bigV at_ 2 ++ (bigV of 2 ++ ((b.length : Int) % 256 :: (b ++ (List.replicate (108 - b.length) 0 ++ bigV (sumV (bodyV ⟨epoch, number, at_, of, b⟩)) 4))))))) := by
    simp [bytesV, bodyV, headV]
  obtain ⟨Z, hZ⟩ : ∃ Z, List.replicate (108 - b.length) 0 ++ bigV (sumV (bodyV ⟨epoch, number, at_, of, b⟩)) 4 = Z := ⟨_, rfl⟩
  rw [e, hZ]
  have s1 := seg (X := [83]) (Y := bigV epoch 4) (Z := bigV number 6 ++ (bigV at_ 2 ++ (bigV of 2 ++ ((b.length : Int) % 256 :: (b ++ Z))))) (i := 1) rfl (bigV_length _ _)
  have s2 := seg (X := [83] ++ bigV epoch 4) (Y := bigV number 6) (Z := bigV at_ 2 ++ (bigV of 2 ++ ((b.length : Int) % 256 :: (b ++ Z)))) (i := 5) (by simp [bigV_length]) (bigV_length _ _)
  have s3 := seg (X := [83] ++ bigV epoch 4 ++ bigV number 6) (Y := bigV at_ 2) (Z := bigV of 2 ++ ((b.length : Int) % 256 :: (b ++ Z))) (i := 11) (by simp [bigV_length]) (bigV_length _ _)
  have s4 := seg (X := [83] ++ bigV epoch 4 ++ bigV number 6 ++ bigV at_ 2) (Y := bigV of 2) (Z := (b.length : Int) % 256 :: (b ++ Z)) (i := 13) (by simp [bigV_length]) (bigV_length _ _)
  have s5 := seg (X := [83] ++ bigV epoch 4 ++ bigV number 6 ++ bigV at_ 2 ++ bigV of 2 ++ [(b.length : Int) % 256]) (Y := b) (Z := Z) (i := 16) (n := b.length) (by simp [bigV_length]) rfl
  simp only [List.append_assoc, List.singleton_append, List.cons_append, List.nil_append] at s1 s2 s3 s4 s5
  simp only [Int.toNat_natCast]
  rw [s1, s2, s3, s4, s5, num_big4 h1.1 h1.2, num_big6 h2.1 h2.2, num_big2 h3.1 (by omega), num_big2 (by omega) h4]
theorem ok_bytes {p : PieceV} (h : GoodP p) : okV (bytesV p) = true := by
  unfold okV
  rw [piece_bytes h, size_bytes h.len.1]
  have h1 := h.at_
  have h2 := h.len
  simp only [Bool.and_eq_true, decide_eq_true_eq, Bool.not_eq_true', Bool.or_eq_false_iff, Bool.and_eq_false_iff, decide_eq_false_iff_not]
  refine ⟨⟨by omega, by omega, ?_⟩, trivial⟩
  by_cases h3 : p.at_ < p.of - 1
  · exact .inr (by rw [h2.2 h3]; decide)
  · exact .inl h3
section
variable {V : TrayV} {S : SpoolV} {n : Int}
theorem here_piece {p : PieceV} (hp : GoodP p) (h : secV V S n = bytesV p) : hereV V S n = decide (p.number = n) ∧ atV V S n = p := by
  unfold hereV atV
  rw [h, ok_bytes hp, piece_bytes hp]
  exact ⟨rfl, rfl⟩
end
theorem emod_apart {x y c : Int} (hc : 0 < c) (h : x % c = y % c) (h1 : x - y < c) (h2 : y - x < c) : x = y := by
  have e1 := Int.emod_add_mul_ediv x c
  have e2 := Int.emod_add_mul_ediv y c
  have e3 : x - y = c * (x / c - y / c) := by rw [Int.mul_sub]; omega
  obtain ⟨k, hk⟩ : ∃ k, x / c - y / c = k := ⟨_, rfl⟩
  rw [hk] at e3
  rcases Int.lt_trichotomy k 0 with h3 | h3 | h3
  · have := Int.mul_le_mul_of_nonneg_left (show k ≤ -1 by omega) (Int.le_of_lt hc)
    omega
  · subst h3; omega
  · have := Int.mul_le_mul_of_nonneg_left (show 1 ≤ k by omega) (Int.le_of_lt hc)
    omega
theorem settle_get (l : List (Int × List Int)) (hl : ∀ x, x ∈ l → 0 ≤ x.1) (a : Nat) : ∀ k : List (List Int), a < k.length → (settleV k l).getD a [] = lastV l (a : Int) (k.getD a []) := by
  induction l with
  | nil => intro k _; rfl
  | cons x l ih =>
    intro k ha
    show (settleV (k.set x.1.toNat x.2) l).getD a [] = lastV l a (if x.1 = a then x.2 else k.getD a [])
    rw [ih (fun y hy => hl y (by simp [hy])) _ (by rw [List.length_set]; exact ha)]
    congr 1
    have h0 := hl x (by simp)
    by_cases h : x.1 = a
    · rw [if_pos h]
      have : x.1.toNat = a := by omega
      rw [this, List.getD, List.getElem?_set_self ha, Option.getD_some]
    · rw [if_neg h, List.getD, List.getD, List.getElem?_set_ne (by omega)]
section
variable {S : SpoolV} {b : List Int}
theorem on_apart (hF : Fit S) {x y : Int} (h : onV S x = onV S y) (h1 : x - y < S.count) (h2 : y - x < S.count) : x = y := by
  unfold onV at h
  exact emod_apart (by have := hF.count; omega) (by omega) h1 h2
theorem lays_miss {a : Int} {d : List Int} : ∀ k : Nat, (∀ i : Nat, i < k → onV S (S.tail + i) ≠ a) → lastV (lays S b k) a d = d
  | 0, _ => rfl
  | k + 1, h => by
    rw [lays, last_snoc, if_neg (h k (by omega)), lays_miss k (fun i hi => h i (by omega))]
theorem lays_hit (hF : Fit S) {d : List Int} (i : Nat) : ∀ k : Nat, i < k → (k : Int) ≤ S.count → lastV (lays S b k) (onV S (S.tail + i)) d = bytesV (chunkP S b i)
  | 0, h, _ => absurd h (Nat.not_lt_zero _)
  | k + 1, h, hk => by
    rw [lays, last_snoc]
    by_cases hi : i = k
    · subst hi
      rw [if_pos rfl, padB_full (bytesV_length (chunkB_length b i))]
    · rw [if_neg, lays_hit hF i k (by omega) (by omega)]
      intro e
      have := on_apart hF e (by omega) (by omega)
      omega
theorem lays_at (hF : Fit S) : ∀ k : Nat, ∀ x, x ∈ lays S b k → 0 ≤ x.1
  | 0, x, h => by cases h
  | k + 1, x, h => by
    rw [lays] at h
    rcases List.mem_append.1 h with h | h
    · exact lays_at hF k x h
    · obtain rfl := List.mem_singleton.1 h
      unfold onV
      have := Int.emod_nonneg (S.tail + k) (show S.count ≠ 0 by have := hF.count; omega)
      have := hF.first
      show 0 ≤ S.first + _
      omega
end
theorem chunk_len {b : List Int} {i : Nat} (h : i + 1 < nPieces b) : (chunkB b i).length = 108 := by
  unfold nPieces at h
  unfold chunkB
  rw [List.length_drop, List.length_take]
  omega
theorem chunk_good {S : SpoolV} {b : List Int} (hF : Fit S) (hl : b.length ≤ 60000) {i : Nat} (hi : i < nPieces b) : GoodP (chunkP S b i) := by
  have h0 : nPieces b ≤ 600 := by unfold nPieces; omega
  refine ⟨?_, ?_, ?_, ?_, chunkB_length b i, fun h => chunk_len (b := b) ?_⟩
  · have := hF.epoch; show 0 ≤ S.epoch ∧ S.epoch < _; omega
  · have := hF.head; have := hF.tail; show 0 ≤ S.tail + i ∧ S.tail + i < _; omega
  · show (0 : Int) ≤ i ∧ (i : Int) < nPieces b; omega
  · show (nPieces b : Int) < _; omega
  · have h : (i : Int) < (nPieces b : Int) - 1 := h
    omega
theorem chunks_all (b : List Int) : ∀ k : Nat, (List.range k).flatMap (chunkB b) = b.take (108 * k)
  | 0 => by simp
  | k + 1 => by
    rw [List.range_succ, List.flatMap_append, chunks_all b k]
    simp only [List.flatMap_cons, List.flatMap_nil, List.append_nil]
    unfold chunkB
    by_cases h : 108 * (k + 1) ≤ b.length
    · rw [Nat.min_eq_left h]
      have := List.take_append_drop (108 * k) (b.take (108 * (k + 1)))
      rw [List.take_take, Nat.min_eq_left (by omega)] at this
      exact this
    · rw [Nat.min_eq_right (by omega), List.take_of_length_le (Nat.le_refl _), List.take_append_drop, List.take_of_length_le (by omega)]
end Go.Proofs.Ytddhngalokmdoaa.Spo

/- A ring whose pieces are all of elder numbers: what is found from the head on. -/
namespace Go.Proofs.Ytddhngalokmdoaa.Spo
open Go.RowKit Go.Proofs.YtddhngalokmdoaaW.PrintWords Go.Proofs.YtddhngalokmdoaaW.PrintLast Go.Proofs.YtddhngalokmdoaaW.PrintMore Go.Proofs.Ytddhngalokmdoaa.Arr Go.Proofs.Ytddhngalokmdoaa.PSpoolPlays
set_option linter.unusedVariables false
set_option linter.unusedSimpArgs false

/-- The piece i of a record b at n. -/
def partP (ep n : Int) (b : List Int) (i : Nat) : PieceV := ⟨ep, n + i, i, nPieces b, chunkB b i⟩
theorem part_good {ep n : Int} {b : List Int} (he : 0 ≤ ep ∧ ep < 4294967296) (hn : 0 ≤ n) (hn2 : n ≤ 140737488355328) (hl : b.length ≤ 60000) {i : Nat} (hi : i < nPieces b) : GoodP (partP ep n b i) := by
  have h0 : nPieces b ≤ 600 := by unfold nPieces; omega
  refine ⟨he, ?_, ?_, ?_, chunkB_length b i, fun h => chunk_len (b := b) ?_⟩
  · show 0 ≤ n + i ∧ n + i < _; omega
  · show (0 : Int) ≤ i ∧ (i : Int) < nPieces b; omega
  · show (nPieces b : Int) < _; omega
  · have h : (i : Int) < (nPieces b : Int) - 1 := h
    omega
/-- A record lies at n. -/
def RecAt (V : TrayV) (S : SpoolV) (ep n : Int) (b : List Int) : Prop := b.length ≤ 60000 ∧ ∀ i : Nat, i < nPieces b → secV V S (n + i) = bytesV (partP ep n b i)
/-- Records lie one behind the other. -/
def Lies (V : TrayV) (S : SpoolV) (ep : Int) : Int → List (List Int) → Int → Prop
  | n, [], tl => n = tl
  | n, b :: xs, tl => RecAt V S ep n b ∧ Lies V S ep (n + nPieces b) xs tl
theorem nP_pos (b : List Int) : 1 ≤ nPieces b := by unfold nPieces; omega
section
variable {V : TrayV} {S : SpoolV} {ep n : Int} {b : List Int}
theorem rec_at (he : 0 ≤ ep ∧ ep < 4294967296) (hn : 0 ≤ n) (hn2 : n ≤ 140737488355328) (h : RecAt V S ep n b) {i : Nat} (hi : i < nPieces b) : hereV V S (n + i) = true ∧ atV V S (n + i) = partP ep n b i := by
  have hg := part_good he hn hn2 h.1 hi
  obtain ⟨h1, h2⟩ := here_piece hg (h.2 i hi)
  exact ⟨by rw [h1]; exact decide_eq_true rfl, h2⟩
theorem rec_found (he : 0 ≤ ep ∧ ep < 4294967296) (hn : 0 ≤ n) (hn2 : n ≤ 140737488355328) (h : RecAt V S ep n b) (hc : (nPieces b : Int) ≤ S.count) :
    recOk V S n = true ∧ (atV V S n).epoch = ep ∧ (atV V S n).of = nPieces b ∧ bodyR V S n (nPieces b) = b := by
  have h0 := rec_at he hn hn2 h (nP_pos b)
  rw [show n + ((0 : Nat) : Int) = n by omega] at h0
  have hat : (atV V S n).at_ = 0 := by rw [h0.2]; rfl
  have hof : (atV V S n).of = nPieces b := by rw [h0.2]; rfl
  have hep : (atV V S n).epoch = ep := by rw [h0.2]; rfl
  refine ⟨?_, hep, hof, ?_⟩
  · unfold recOk headOk
    rw [h0.1, hat, hof, decide_eq_true (show (0 : Int) = 0 from rfl), decide_eq_true hc]
    simp only [Bool.true_and, Bool.and_true, List.all_eq_true]
    intro j hj
    have hj2 : j + 1 < nPieces b := by have := List.mem_range.1 hj; omega
    obtain ⟨h1, h2⟩ := rec_at he hn hn2 h hj2
    unfold followV
    rw [h1, h2, hof, hep]
    simp [partP]
  · have : ∀ k : Nat, k ≤ nPieces b → bodyR V S n k = (List.range k).flatMap (chunkB b) := by
      intro k
      induction k with
      | zero => intro _; rfl
      | succ k ih =>
        intro hk
        rw [bodyR, ih (by omega), (rec_at he hn hn2 h (show k < nPieces b by omega)).2, List.range_succ, List.flatMap_append]
        simp [partP]
    rw [this _ (Nat.le_refl _), chunks_all, List.take_of_length_le]
    unfold nPieces
    omega
end
/-- Nothing stands at a number. -/
theorem find_lies {V : TrayV} {S : SpoolV} {ep : Int} (he : 0 ≤ ep ∧ ep < S.epoch) (hF : Fit S) (tl : Int) (ht : tl ≤ 140737488355328) (hend : 0 < S.count - (tl - S.head) → hereV V S tl = false) :
    ∀ (xs : List (List Int)) (n least : Int) (k : Nat) (out : List (List Int)), S.head ≤ n → n ≤ tl → tl - S.head ≤ S.count → Lies V S ep n xs tl → S.count - (n - S.head) ≤ k → least ≤ ep → findV V S k n least out = (out ++ xs, tl)
  | [], n, least, k, out, h1, h2, h3, hl, hk, hle => by
    have hl : n = tl := hl
    subst hl
    rw [List.append_nil]
    cases k with
    | zero => rfl
    | succ k =>
      simp only [findV]
      rw [if_neg]
      rintro ⟨h4, h5⟩
      unfold takeV at h5
      rw [rec_here (hend h4)] at h5
      cases h5
  | b :: xs, n, least, k, out, h1, h2, h3, hl, hk, hle => by
    obtain ⟨hr, hl⟩ := hl
    have hnp := nP_pos b
    have hle2 : n + nPieces b ≤ tl := by
      have : ∀ (ys : List (List Int)) (m : Int), Lies V S ep m ys tl → m ≤ tl := by
        intro ys
        induction ys with
        | nil => intro m h; exact Int.le_of_eq h
        | cons y ys ih => intro m h; have := ih _ h.2; have := nP_pos y; omega
      exact this xs _ hl
    have hh := hF.head
    have he2 := hF.epoch
    obtain ⟨f1, f2, f3, f4⟩ := rec_found (V := V) (S := S) (ep := ep) (n := n) (b := b) ⟨he.1, by omega⟩ (by omega) (by omega) hr (by omega)
    obtain ⟨k, rfl⟩ : ∃ j, k = j + 1 := ⟨k - 1, by omega⟩
    simp only [findV]
    rw [if_pos ⟨by omega, by unfold takeV; rw [f1, f2, f3, decide_eq_true (show (nPieces b : Int) ≤ S.count - (n - S.head) by omega), decide_eq_true hle, decide_eq_true he.2]; rfl⟩, f2, f3, Int.toNat_natCast, f4,
      find_lies he hF tl ht hend xs (n + nPieces b) ep k (out ++ [b]) (by omega) hle2 h3 hl (by omega) (Int.le_refl _)]
    simp
/-- Every sector of the ring is empty, or has a piece of an elder number. -/
def Elder (V : TrayV) (S : SpoolV) (tl : Int) : Prop := ∀ m : Int, 0 ≤ m → secV V S m = List.replicate 128 0 ∨ ∃ p, GoodP p ∧ secV V S m = bytesV p ∧ p.number < tl
theorem Elder.here {V : TrayV} {S : SpoolV} {tl : Int} (h : Elder V S tl) (ht : 0 ≤ tl) : hereV V S tl = false := by
  rcases h tl ht with h | ⟨p, hp, h1, h2⟩
  · exact here_zero h
  · rw [(here_piece hp h1).1]
    exact decide_eq_false (by omega)
section
variable {V : TrayV} {S : SpoolV} {b : List Int}
theorem app_sec (hF : Fit S) (hR : S.first + S.count ≤ V.kept.length) (hc : V.cache = []) (m : Int) (hm : 0 ≤ m) : readV { V with kept := settleV V.kept (V.cache ++ lays S b (nPieces b)), cache := [] } (onV S m) = lastV (lays S b (nPieces b)) (onV S m) (secV V S m) := by
  have hh := on_has hF hR m hm
  unfold hasV at hh
  simp only [Bool.and_eq_true, decide_eq_true_eq] at hh
  obtain ⟨a, ha⟩ : ∃ a : Nat, onV S m = (a : Int) := ⟨(onV S m).toNat, by omega⟩
  unfold secV readV
  rw [ha, hc]
  show lastV [] _ ((settleV V.kept ([] ++ lays S b (nPieces b))).getD a []) = _
  rw [List.nil_append, last_nil, settle_get _ (lays_at hF _) a V.kept (by omega), last_nil]
  rfl
/-- What an append leaves of the ring. -/
theorem app_keep (hF : Fit S) (hR : S.first + S.count ≤ V.kept.length) (hc : V.cache = []) (hl : V.left < 0) (hd : S.dead = false) (hb : b.length ≤ 60000) (hr : (nPieces b : Int) ≤ roomV S) (he : Elder V S S.tail) (ht : S.tail ≤ 140737480000000) :
    Elder (appendV V S b).1 (appendV V S b).2.1 (S.tail + nPieces b) ∧ RecAt (appendV V S b).1 (appendV V S b).2.1 S.epoch S.tail b ∧
      ∀ m, S.head ≤ m → m < S.tail → secV (appendV V S b).1 (appendV V S b).2.1 m = secV V S m := by
  rw [append_free hl hF hR hb hr hd]
  have hsec : ∀ m, 0 ≤ m → secV { V with kept := settleV V.kept (V.cache ++ lays S b (nPieces b)), cache := [] } { S with tail := S.tail + nPieces b, dead := false } m = lastV (lays S b (nPieces b)) (onV S m) (secV V S m) := fun m hm => app_sec hF hR hc m hm
  have hh := hF.head
  have hcn := hF.count
  unfold roomV at hr
  refine ⟨fun m hm => ?_, ⟨hb, fun i hi => ?_⟩, fun m h1 h2 => ?_⟩
  · rw [hsec m hm]
    by_cases hex : ∃ i : Nat, i < nPieces b ∧ onV S (S.tail + i) = onV S m
    · obtain ⟨i, hi, e⟩ := hex
      refine .inr ⟨chunkP S b i, chunk_good hF hb hi, ?_, ?_⟩
      · rw [← e]
        exact lays_hit hF i _ hi (by omega)
      · show S.tail + i < _; omega
    · rw [lays_miss _ (fun i hi e => hex ⟨i, hi, e⟩)]
      rcases he m hm with h | ⟨p, hp, h1, h2⟩
      · exact .inl h
      · exact .inr ⟨p, hp, h1, by omega⟩
  · rw [hsec _ (by omega)]
    exact lays_hit hF i _ hi (by omega)
  · rw [hsec m (by omega)]
    refine lays_miss _ fun i hi e => ?_
    have := on_apart hF e (by omega) (by omega)
    omega
end
theorem lies_sec {V V' : TrayV} {S S' : SpoolV} {ep : Int} {lo : Int} : ∀ (xs : List (List Int)) (n tl : Int), lo ≤ n → (∀ m, lo ≤ m → m < tl → secV V' S' m = secV V S m) → Lies V S ep n xs tl → Lies V' S' ep n xs tl
  | [], n, tl, _, _, h => h
  | b :: xs, n, tl, hn, hs, h => by
    have hle : n + nPieces b ≤ tl := by
      have : ∀ (ys : List (List Int)) (m : Int), Lies V S ep m ys tl → m ≤ tl := by
        intro ys
        induction ys with
        | nil => intro m h; exact Int.le_of_eq h
        | cons y ys ih => intro m h; have := ih _ h.2; have := nP_pos y; omega
      exact this xs _ h.2
    exact ⟨⟨h.1.1, fun i hi => by rw [hs _ (by omega) (by omega)]; exact h.1.2 i hi⟩, lies_sec xs _ tl (by omega) hs h.2⟩
theorem lies_snoc {V : TrayV} {S : SpoolV} {ep : Int} {b : List Int} {tl : Int} : ∀ (xs : List (List Int)) (n : Int), Lies V S ep n xs tl → RecAt V S ep tl b → Lies V S ep n (xs ++ [b]) (tl + nPieces b)
  | [], n, h, hr => by
    have h : n = tl := h
    subst h
    exact ⟨hr, rfl⟩
  | y :: xs, n, h, hr => ⟨h.1, lies_snoc xs _ h.2 hr⟩
end Go.Proofs.Ytddhngalokmdoaa.Spo

/- The same records: same. -/
namespace Go.Proofs.Ytddhngalokmdoaa.Spo
open Go.RowKit Go.Proofs.YtddhngalokmdoaaW.PrintWords Go.Proofs.YtddhngalokmdoaaW.PrintLast Go.Proofs.YtddhngalokmdoaaW.PrintMore Go.Proofs.Ytddhngalokmdoaa.Arr Go.Proofs.Ytddhngalokmdoaa.PSpoolPlays
set_option linter.unusedVariables false
set_option linter.unusedSimpArgs false

theorem recs_at {w : World} {B : Nat} {A : Option Addr} {n c : Nat} {xs : List (List Int)} (h : Recs w B (.slice A n c) xs) (i : Nat) (hi : i < xs.length) :
    ∃ g Ai ni ci, A = some ⟨g, 0, none⟩ ∧ w.cell? ⟨g, i, none⟩ = some (.slice Ai ni ci) ∧ ReadsInt w .u8 Ai ni xs[i] := by
  obtain ⟨ss, h1, h2, h3⟩ := h.out
  have hs : i < ss.length := by omega
  obtain ⟨A', c', e, hr⟩ := (h3 i ss[i] xs[i] (List.getElem?_eq_getElem hs) (List.getElem?_eq_getElem hi)).reads
  rcases h1.2 with ⟨e1, e2⟩ | ⟨g, cap, cur, e1, hg, hh, r1, r2, r3, r4⟩
  · omega
  · injection e1 with e1 e2 e3
    refine ⟨g, A', xs[i].length, c', e1, ?_, hr⟩
    rw [(Blk.mk hh).cell i]
    have hlen : (encs encS ss).length = ss.length := by simp [encs]
    have r4' : cur.toList.take (ss.length * 1) = encs encS ss := r4
    have : (cur.toList.take (ss.length * 1))[i]? = some (encS ss[i]) := by rw [r4']; simp [encs, List.getElem?_eq_getElem hs]
    rw [List.getElem?_take_of_lt (by omega)] at this
    rw [← e]
    simpa using this
theorem str_inj {a b : List Int} (ha : Bytes a) (hb : Bytes b) (h : strOfNums a = strOfNums b) : a = b := by
  have key : ∀ l : List Int, Bytes l → bytesOf (strOfNums l) = l := by
    intro l hl
    unfold bytesOf strOfNums
    simp only [List.map_map]
    refine (List.map_congr_left fun x hx => ?_).trans (List.map_id l)
    have := hl x hx
    simp [Function.comp]
    omega
  rw [← key a ha, ← key b hb, h]
theorem toList_inj {a b : ByteArray} : (a.toList == b.toList) = decide (a = b) := by
  rw [Bool.eq_iff_iff, beq_iff_eq, decide_eq_true_eq]
  constructor
  · intro h
    rw [Lib.toList_data, Lib.toList_data] at h
    cases a; cases b
    simp at h
    rw [h]
  · intro h; rw [h]
set_option maxHeartbeats 4000000 in
set_option maxRecDepth 100000 in
theorem same_calls (xs ys : List (List Int)) (hx : ∀ b, b ∈ xs → Bytes b) (hy : ∀ b, b ∈ ys → Bytes b) (B B' : Nat) (A A' : Option Addr) (n n' c c' : Nat) (w : World) (h : Recs w B (.slice A n c) xs) (h' : Recs w B' (.slice A' n' c') ys) (hn : xs.length = n) (hn' : ys.length = n') (hl : n ≤ 1000000000) (hl' : n' ≤ 1000000000) :
    Calls Try.prog 18 #[.slice A n c, .slice A' n' c'] w fun e w' => e = .returned (.bool (decide (xs = ys))) ∧ Below w.heap.size w w' := by
  by_cases hne : n = n'
  · subst hne
    have H := Aside0.mk h
    have H' := Aside0.mk h'
    have t1 : ((n : Int) != (n : Int)) = false := by simp
    have t2 : ((n : Int) == (n : Int)) = true := by simp
    have HN := Aside0.mk (⟨hn, hn'⟩ : _ ∧ _)
    have HB := Aside0.mk (⟨hx, hy⟩ : _ ∧ _)
    clear h h' hn hn' hx hy
    go_enter Try.func18, Try.ntmps18
    go_wp2_with fail
    go_loopw [13] (fun v13 wr => ∃ i : Nat, v13 = .int .i64 (i : Int) ∧ Aside0 (i ≤ n) ∧ Aside0 (∀ j, j < i → xs[j]? = ys[j]?) ∧ Aside0 (Below w.heap.size w wr)) (fun v13 _ => n - (intOf v13).toNat)
    case atStart => exact ⟨0, rfl, ⟨Nat.zero_le _⟩, ⟨fun j hj => absurd hj (Nat.not_lt_zero _)⟩, ⟨Below.refl _ _⟩⟩
    case round =>
      obtain ⟨i, rfl, hi, hs, hb⟩ := hrel
      by_cases hin : i < n
      · have u1 : decide ((i : Int) < (n : Int)) = true := decide_eq_true (by omega)
        have u1n : decide (i < n) = true := decide_eq_true hin
        have hix : i < xs.length := by have := HN.out; omega
        have hiy : i < ys.length := by have := HN.out; omega
        obtain ⟨g, Ai, ni, ci, e1, h1, h2⟩ := recs_at (H.out.below hb.out) i hix
        obtain ⟨g', Ai', ni', ci', e1', h1', h2'⟩ := recs_at (H'.out.below hb.out) i hiy
        subst e1 e1'
        have hbx := HB.out.1 _ (List.getElem_mem hix)
        have hby := HB.out.2 _ (List.getElem_mem hiy)
        obtain ⟨x, hx⟩ : ∃ x, xs[i] = x := ⟨_, rfl⟩
        obtain ⟨y, hy⟩ : ∃ y, ys[i] = y := ⟨_, rfl⟩
        rw [hx] at h2 hbx
        rw [hy] at h2' hby
        have p0 : (0 : Int) ≤ (i : Int) := by omega
        have p1 : (i : Int) < (n : Int) := by omega
        have q0 := eq_true p0
        have q1 := eq_true p1
        have q2 := eq_true hin
        have hw : IntKind.i64.wrap ((i : Int) + 1) = ((i + 1 : Nat) : Int) := by rw [show ((i : Int) + 1) = ((i + 1 : Nat) : Int) by omega]; exact IntWalk.i64_in _ (by omega)
        have HW := Aside0.mk hw
        have HXY := Aside0.mk (⟨by rw [List.getElem?_eq_getElem hix, hx], by rw [List.getElem?_eq_getElem hiy, hy], hbx, hby⟩ : xs[i]? = some x ∧ ys[i]? = some y ∧ Bytes x ∧ Bytes y)
        have R1 := Aside0.mk h2
        have R2 := Aside0.mk h2'
        have C1 := Aside0.mk h1
        have C2 := Aside0.mk h1'
        have HI := Aside0.mk hin
        have hstr : ∀ w', Below wr.heap.size wr w' → (convert TSl 9 (.slice Ai ni ci)).run Try.prog w' = .ok (.string (strOfNums x)) w' := fun w' hb' => string_of_reads Try.underlying22 Try.underlying5 Try.underlying9 (R1.out.below hb')
        have hstr' : ∀ w', Below wr.heap.size wr w' → (convert TSl 9 (.slice Ai' ni' ci')).run Try.prog w' = .ok (.string (strOfNums y)) w' := fun w' hb' => string_of_reads Try.underlying22 Try.underlying5 Try.underlying9 (R2.out.below hb')
        have HS1 := Aside0.mk hstr
        have HS2 := Aside0.mk hstr'
        clear hx hy hbx hby hix hiy h1 h1' h2 h2' hstr hstr' hw hin
        obtain ⟨bq, hbq⟩ : ∃ bq, decide (x = y) = bq := ⟨_, rfl⟩
        have hcmp : ((strOfNums x).toList == (strOfNums y).toList) = bq := by
          rw [toList_inj, ← hbq, Bool.eq_iff_iff, decide_eq_true_eq, decide_eq_true_eq]
          exact ⟨fun h => str_inj HXY.out.2.2.1 HXY.out.2.2.2 h, fun h => by rw [h]⟩
        have hcmp2 : decide (strOfNums x = strOfNums y) = bq := by rw [← toList_inj]; exact hcmp
        obtain ⟨sx, hsx⟩ : ∃ s, strOfNums x = s := ⟨_, rfl⟩
        obtain ⟨sy, hsy⟩ : ∃ s, strOfNums y = s := ⟨_, rfl⟩
        rw [hsx] at HS1
        rw [hsy] at HS2
        rw [hsx, hsy] at hcmp hcmp2
        have HBQ := Aside0.mk hbq
        clear hbq hsx hsy
        go_wp2_with fail
        refine Qt.wp_region_all (fun w' => Below wr.heap.size wr w') (by kernel_rfl) (by kernel_rfl) (Below.refl _ _).drew ?_
        iterate 11 ((first | (with_reducible refine Qt.q_val' rfl ?_) | ((with_reducible refine Qg.on_val' ?_); apply Exists.intro; apply Exists.intro; apply Exists.intro; refine ⟨?_, ?_, ?_, ?_⟩; (focus rfl); (focus rfl); (focus rfl))); apply Exists.intro; refine ⟨?_, ?_⟩; (focus (intro w' hw'; have k1 := C1.out; have k2 := C2.out; have b1 := (hw'.cell (World.block_lt_of_cell? wr _ k1)).trans k1; have b2 := (hw'.cell (World.block_lt_of_cell? wr _ k2)).trans k2; have s1 := HS1.out w' hw'; have s2 := HS2.out w' hw'; clear k1 k2; go_simp; (first | done | (with_reducible rfl)))); intro K hK; go_simp; (first | (with_reducible refine hK _ ?_) | (refine hK _ ?_)); clear hK K)
        (refine wpQuiet_nil ?_; intro w' hw')
        have BW := Aside0.mk (hb.out.trans (hw'.mono hb.out.size))
        clear hw'
        have hw := HW.out
        cases bq with
        | false =>
          go_wp2
          go_ret
          refine ⟨?_, BW.out⟩
          have hne : decide (xs = ys) = false := by
           rw [decide_eq_false_iff_not]
           intro e
           subst e
           obtain ⟨e1, e2, -⟩ := HXY.out
           exact absurd (Option.some.inj (e1.symm.trans e2)) (of_decide_eq_false HBQ.out)
          rw [hne]; rfl
        | true =>
          go_wp2
          go_roundw
          case rel => exact ⟨i + 1, by first | rfl | (rw [HW.out]) | go_num, ⟨HI.out⟩, ⟨fun j hj => by
            rcases Nat.lt_or_ge j i with h | h
            · exact hs.out j h
            · obtain rfl : j = i := by omega
              obtain ⟨e1, e2, -, -⟩ := HXY.out
              rw [e1, e2, of_decide_eq_true HBQ.out]⟩, BW⟩
          case measure => have := HI.out; simp [intOf, HW.out]; omega
      · have u1 : decide ((i : Int) < (n : Int)) = false := decide_eq_false (by omega)
        have u1n : decide (i < n) = false := decide_eq_false hin
        have HE := Aside0.mk (show xs = ys by
          apply List.ext_getElem?
          intro j
          by_cases hj : j < i
          · exact hs.out j hj
          · have := HN.out
            rw [List.getElem?_eq_none (by omega), List.getElem?_eq_none (by omega)])
        clear hin
        go_wp2
        go_ret
        exact ⟨by rw [decide_eq_true HE.out]; rfl, hb.out⟩
  · have t1 : ((n : Int) != (n' : Int)) = true := by simp; omega
    have t2 : ((n : Int) == (n' : Int)) = false := by simp; omega
    have t3 : decide ((n : Int) = (n' : Int)) = false := decide_eq_false (by omega)
    have t4 : ((n : Int) = (n' : Int)) = False := eq_false (by omega)
    have t5 : (n = n') = False := eq_false hne
    have t6 : decide (n = n') = false := decide_eq_false hne
    have t7 : (n == n') = false := by simpa using hne
    have t8 : (n != n') = true := by simpa using hne
    have HE := Aside0.mk (show decide (xs = ys) = false by
      rw [decide_eq_false_iff_not]
      intro e
      exact hne (by rw [← hn, ← hn', e]))
    clear h h' hn hn' hx hy hne
    go_enter Try.func18, Try.ntmps18
    go_wp2
    go_ret
    exact ⟨by rw [HE.out]; rfl, Below.refl _ _⟩
end Go.Proofs.Ytddhngalokmdoaa.Spo
