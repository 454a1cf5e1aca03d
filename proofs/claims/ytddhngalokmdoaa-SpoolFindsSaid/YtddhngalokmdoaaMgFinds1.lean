/- Texts of this claim, merged: Da1, Spl, Sur, Suv, Da2. -/
import Derived.Test.YtddhngalokmdoaaMgBase4
import Derived.Test.YtddhngalokmdoaaMgBase15
import Derived.Test.YtddhngalokmdoaaMgBase1
import Derived.Test.YtddhngalokmdoaaMgBase3
namespace Go.Proofs.Ytddhngalokmdoaa.Spo
open Go.RowKit Go.Proofs.YtddhngalokmdoaaW.PrintWords Go.Proofs.YtddhngalokmdoaaW.PrintLast Go.Proofs.YtddhngalokmdoaaW.PrintMore Go.Proofs.Ytddhngalokmdoaa.Arr Go.Proofs.Ytddhngalokmdoaa.PSpoolPlays
set_option linter.unusedVariables false
set_option linter.unusedSimpArgs false

abbrev TDa : TypeId := 71
theorem zeroDa : ∀ w, (zeroValue TDa).run Try.prog w = .ok (.agg (numsA .u8 zB)) w := fun w => by kernel_rfl
theorem noneDa : ∀ w, (Instr.build TDa #[]).run Try.prog w = .ok (.agg (numsA .u8 zB)) w := fun w => by kernel_rfl
theorem infoDa : (Try.prog.info? TDa).map (·.size) = some 128 := by kernel_rfl
theorem zB_length : zB.length = 128 := by simp [zB]
def putB (b : List Int) (a k : Nat) (n : Int) : List Int := b.take a ++ bigV n k ++ b.drop (a + k)
theorem putB_length (b : List Int) (a k : Nat) (n : Int) (h : a + k ≤ b.length) : (putB b a k n).length = b.length := by
  unfold putB
  simp [bigV_length]
  omega
def fillP (b : List Int) (a k : Nat) (n : Int) (j : Nat) : List Int := b.take (a + j) ++ bigV n (k - j) ++ b.drop (a + k)
theorem fillP_length {b : List Int} {a k : Nat} {n : Int} {j : Nat} (h : a + k ≤ b.length) (hj : j ≤ k) : (fillP b a k n j).length = b.length := by
  unfold fillP
  simp [bigV_length]
  omega
theorem fillP_set {b : List Int} {a k : Nat} {n : Int} {j : Nat} (h : a + k ≤ b.length) (hj : j < k) : (fillP b a k n (j + 1)).set (a + j) (n / 256 ^ (k - (j + 1)) % 256) = fillP b a k n j := by
  unfold fillP
  have e1 : k - j = (k - (j + 1)) + 1 := by omega
  have hl : (b.take (a + (j + 1))).length = a + j + 1 := by simp; omega
  have e2 : b.take (a + (j + 1)) = b.take (a + j) ++ [b[a + j]'(by omega)] := by
    rw [← Nat.add_assoc, List.take_add_one, List.getElem?_eq_getElem (by omega)]
    rfl
  rw [e1, e2, bigV]
  have hl2 : (b.take (a + j)).length = a + j := by simp; omega
  simp only [List.append_assoc]
  rw [List.set_append_right _ _ (by omega), hl2, Nat.sub_self]
  rfl
theorem fillP_start (b : List Int) (a k : Nat) (n : Int) : fillP b a k n k = b := by
  unfold fillP
  rw [Nat.sub_self, bigV, List.append_nil, List.take_append_drop]
theorem fillP_end (b : List Int) (a k : Nat) (n : Int) : fillP b a k n 0 = putB b a k n := rfl
theorem div_div (n : Int) (m : Nat) : n / 256 ^ m / 256 = n / 256 ^ (m + 1) := by
  rw [Int.ediv_ediv_of_nonneg (Int.pow_nonneg (by decide)), Int.pow_succ]
set_option maxHeartbeats 4000000 in
set_option maxRecDepth 100000 in
theorem dput_calls (b : List Int) (hb : b.length = 128) (a k : Nat) (hak : a + k ≤ 128) (n : Int) (h0 : 0 ≤ n) (h1 : n ≤ 9223372036854775807) (w : World) :
    Calls Try.prog 50 #[.agg (numsA .u8 b), .int .i64 (a : Int), .int .i64 (k : Int), .int .i64 n] w fun e w' => e = .returned (.agg (numsA .u8 (putB b a k n))) ∧ Below w.heap.size w w' := by
  have w1 : IntKind.i64.wrap ((a : Int) + k) = (a : Int) + k := IntWalk.i64_in _ (by omega)
  have w2 : IntKind.i64.wrap ((a : Int) + k - 1) = (a : Int) + k - 1 := IntWalk.i64_in _ (by omega)
  have HN := Aside0.mk (⟨hb, hak, h0, h1⟩ : _ ∧ _ ∧ _ ∧ _)
  clear h0 h1
  obtain ⟨Z, hZ⟩ : ∃ Z, numsA .u8 zB = Z := ⟨_, rfl⟩
  have hzr := zeroDa
  rw [hZ] at hzr
  have HZ := Aside0.mk hZ
  obtain ⟨B0, hB0⟩ : ∃ B0, numsA .u8 b = B0 := ⟨_, rfl⟩
  have HB0 := Aside0.mk hB0
  rw [hB0]
  clear hZ hB0 hb hak
  go_enter Try.func50, Try.ntmps50
  go_wp2_with (with_reducible refine wpList_alloc_agg rfl TDa _ rfl hzr ?_)
  go_loopw [3, 9] (fun v3 v9 wr => ∃ j : Nat, v9 = .int .i64 ((a : Int) + (j : Int) - 1) ∧ v3 = .int .i64 (n / 256 ^ (k - j)) ∧ Aside0 (j ≤ k) ∧ Aside0 (Blk wr w.heap.size TDa (numsA .u8 (fillP b a k n j))) ∧ Aside0 (Blk wr (w.heap.size + 1) TDa Z) ∧ Aside0 (Below w.heap.size w wr)) (fun _ v9 _ => (intOf v9 + 1 - a).toNat)
  case atStart => exact ⟨k, rfl, by rw [Nat.sub_self, Int.pow_zero, Int.ediv_one], ⟨Nat.le_refl _⟩, ⟨by rw [fillP_start, HB0.out]; exact (Blk.newAt rfl).alloc _⟩, ⟨Blk.newAt (by simp)⟩, ⟨below_alloc (below_alloc (Below.refl _ _) _) _⟩⟩
  case round =>
    obtain ⟨j, rfl, rfl, hj, hA, hR, hbl⟩ := hrel
    rcases j with _ | j
    · have t1 : decide ((a : Int) + ((0 : Nat) : Int) - 1 ≥ (a : Int)) = false := decide_eq_false (by omega)
      have eA := fillP_end b a k n
      have hl2 : (numsA .u8 (fillP b a k n 0)).size = 128 := by rw [numsA_size, fillP_length (by have := HN.out; omega) (Nat.zero_le _)]; exact HN.out.1
      go_wp2_with (first | (with_reducible refine wpList_load_blk rfl TDa _ rfl _ _ _ rfl Try.underlying71 rfl infoDa hA.out hl2 ?_) | (with_reducible refine wpList_store_blk rfl TDa _ _ rfl _ _ rfl rfl infoDa hl2 (numsA_one _ _) hR.out (by rw [← HZ.out, numsA_size, zB_length]) ?_))
      have RR := hR.out.row (numsA .u8 (fillP b a k n 0))
      refine bodyPost_ret (results_blk rfl _ _ _ _ _ rfl infoDa Try.underlying71 rfl RR hl2) rfl ⟨by rw [eA], ?_⟩
      exact below_setRow hbl.out (by omega) _
    · have e1 : (a : Int) + ((j + 1 : Nat) : Int) - 1 = ((a + j : Nat) : Int) := by omega
      rw [e1]
      have t1 : decide (((a + j : Nat) : Int) ≥ (a : Int)) = true := decide_eq_true (by omega)
      have hn := HN.out
      have hd0 : 0 ≤ n / 256 ^ (k - (j + 1)) := Int.ediv_nonneg hn.2.2.1 (Int.pow_nonneg (by decide))
      have hd1 : n / 256 ^ (k - (j + 1)) ≤ n := Int.ediv_le_self _ hn.2.2.1
      have hdd := div_div n (k - (j + 1))
      rw [show k - (j + 1) + 1 = k - j by have := hj.out; omega] at hdd
      have hset := fillP_set (b := b) (a := a) (k := k) (n := n) (j := j) (by omega) (by have := hj.out; omega)
      obtain ⟨d, hd⟩ : ∃ d, n / 256 ^ (k - (j + 1)) = d := ⟨_, rfl⟩
      rw [hd] at hd0 hd1 hdd hset
      rw [hd]
      have m1 : Int.tmod d 256 = d % 256 := Int.tmod_eq_emod_of_nonneg hd0
      have m2 : IntKind.i64.wrap (d % 256) = d % 256 := IntWalk.i64_in _ (by omega)
      have m3 : IntKind.u8.wrap (d % 256) = d % 256 := IntWalk.u8_in _ (by omega)
      have m4 : Int.tdiv d 256 = d / 256 := Int.tdiv_eq_ediv_of_nonneg hd0
      have m5 : IntKind.i64.wrap (d / 256) = d / 256 := IntWalk.i64_in _ (by omega)
      have m6 : IntKind.i64.wrap (((a + j : Nat) : Int) - 1) = ((a + j : Nat) : Int) - 1 := IntWalk.i64_in _ (by have := hj.out; omega)
      have p0 := eq_true (show (0 : Int) ≤ ((a + j : Nat) : Int) by omega)
      have p1 := eq_true (show ((a + j : Nat) : Int) < 128 by have := hj.out; omega)
      have p2 := eq_true (show a + j < 128 by have := hj.out; omega)
      have hjk : j ≤ k := by have := hj.out; omega
      have HJ := Aside0.mk hjk
      have fj := hA.out.frozen (a + j)
      have lj := hA.out.lt
      have cj := hA.out.cell (a + j)
      rw [numsA_get _ _ _ (by rw [fillP_length (by omega) (by have := hj.out; omega)]; have := hj.out; omega)] at cj
      have HS := Aside0.mk (⟨hset, hdd, m6⟩ : _ ∧ _ ∧ _)
      clear hn hset hd hjk e1 hdd
      generalize hq : a + j = q at *
      go_wp2
      go_roundw
      case rel => exact ⟨j, by first | (rw [HS.out.2.2]; congr 1; omega) | (congr 1; omega), by rw [HS.out.2.1], HJ, ⟨by rw [← HS.out.1, ← numsA_set]; exact hA.out.set q _⟩, ⟨hR.out.far (by simp only; have := hR.out.lt; omega) _⟩, ⟨hbl.out.setCell (Nat.le_refl _) _⟩⟩
      case measure => simp [intOf]; omega
theorem num_big2 {n : Int} (h0 : 0 ≤ n) (h1 : n < 65536) : numV (bigV n 2) = n := by
  simp only [numV, bigV, List.foldl_cons, List.foldl_nil, Int.pow_zero, Int.pow_succ]
  omega
theorem num_big4 {n : Int} (h0 : 0 ≤ n) (h1 : n < 4294967296) : numV (bigV n 4) = n := by
  simp only [numV, bigV, List.foldl_cons, List.foldl_nil, Int.pow_zero, Int.pow_succ]
  omega
theorem num_big6 {n : Int} (h0 : 0 ≤ n) (h1 : n < 281474976710656) : numV (bigV n 6) = n := by
  simp only [numV, bigV, List.foldl_cons, List.foldl_nil, Int.pow_zero, Int.pow_succ]
  omega
structure GoodP (p : PieceV) : Prop where mk ::
  epoch : 0 ≤ p.epoch ∧ p.epoch < 4294967296
  number : 0 ≤ p.number ∧ p.number < 281474976710656
  at_ : 0 ≤ p.at_ ∧ p.at_ < p.of
  of : p.of < 65536
  len : p.b.length ≤ 108 ∧ (p.at_ < p.of - 1 → p.b.length = 108)
theorem seg {X Y Z : List Int} {i n : Nat} (hi : X.length = i) (hn : Y.length = n) : ((X ++ (Y ++ Z)).drop i).take n = Y := by
  subst hi hn
  rw [List.drop_left, List.take_left]
theorem size_bytes {p : PieceV} (h : p.b.length ≤ 108) : sizeV (bytesV p) = p.b.length := by
  have e : bytesV p = ([83] ++ bigV p.epoch 4 ++ bigV p.number 6 ++ bigV p.at_ 2 ++ bigV p.of 2) ++ ((p.b.length : Int) % 256 :: (p.b ++ List.replicate (108 - p.b.length) 0 ++ bigV (sumV (bodyV p)) 4)) := by
    simp [bytesV, bodyV, headV]
  have hl : ([83] ++ bigV p.epoch 4 ++ bigV p.number 6 ++ bigV p.at_ 2 ++ bigV p.of 2 : List Int).length = 15 := by simp [bigV_length]
  have : rd (bytesV p) 15 = (p.b.length : Int) % 256 := by
    unfold Go.Proofs.YtddhngalokmdoaaW.PrintWords.rd
    rw [e, List.getD, show (15 : Int).toNat = 15 from rfl, List.getElem?_append_right (by rw [hl]; exact Nat.le_refl _), hl]
    rfl
  unfold sizeV
  rw [this]
  omega
theorem piece_bytes {p : PieceV} (h : GoodP p) : pieceV (bytesV p) = p := by
  obtain ⟨epoch, number, at_, of, b⟩ := p
  obtain ⟨h1, h2, h3, h4, h5, h6⟩ := h
  simp only at h1 h2 h3 h4 h5
  have hs := size_bytes (p := ⟨epoch, number, at_, of, b⟩) h5
  unfold pieceV
  rw [hs]
  have e : bytesV ⟨epoch, number, at_, of, b⟩ = 83 :: (bigV epoch 4 ++ (bigV number 6 ++ (bigV at_ 2 ++ (bigV of 2 ++ ((b.length : Int) % 256 :: (b ++ (List.replicate (108 - b.length) 0 ++ bigV (sumV (bodyV ⟨epoch, number, at_, of, b⟩)) 4))))))) := by
    simp [bytesV, bodyV, headV]
  obtain ⟨Z, hZ⟩ : ∃ Z, List.replicate (108 - b.length) 0 ++ bigV (sumV (bodyV ⟨epoch, number, at_, of, b⟩)) 4 = Z := ⟨_, rfl⟩
  rw [e, hZ]
  have s1 := seg (X := [83]) (Y := bigV epoch 4) (Z := bigV number 6 ++ (bigV at_ 2 ++ (bigV of 2 ++ ((b.length : Int) % 256 :: (b ++ Z))))) (i := 1) rfl (bigV_length _ _)
  have s2 := seg (X := [83] ++ bigV epoch 4) (Y := bigV number 6) (Z := bigV at_ 2 ++ (bigV of 2 ++ ((b.length : Int) % 256 :: (b ++ Z)))) (i := 5) (by simp [bigV_length]) (bigV_length _ _)
  have s3 := seg (X := [83] ++ bigV epoch 4 ++ bigV number 6) (Y := bigV at_ 2) (Z := bigV of 2 ++ ((b.length : Int) % 256 :: (b ++ Z))) (i := 11) (by simp [bigV_length]) (bigV_length _ _)
  have s4 := seg (X := [83] ++ bigV epoch 4 ++ bigV number 6 ++ bigV at_ 2) (Y := bigV of 2) (Z := (b.length : Int) % 256 :: (b ++ Z)) (i := 13) (by simp [bigV_length]) (bigV_length _ _)
  have s5 := seg (X := [83] ++ bigV epoch 4 ++ bigV number 6 ++ bigV at_ 2 ++ bigV of 2 ++ [(b.length : Int) % 256]) (Y := b) (Z := Z) (i := 16) (n := b.length) (by simp [bigV_length]) rfl
  simp only [List.append_assoc, List.singleton_append, List.cons_append, List.nil_append] at s1 s2 s3 s4 s5
  simp only [Int.toNat_natCast]
  rw [s1, s2, s3, s4, s5, num_big4 h1.1 h1.2, num_big6 h2.1 h2.2, num_big2 h3.1 (by omega), num_big2 (by omega) h4]
theorem ok_bytes {p : PieceV} (h : GoodP p) : okV (bytesV p) = true := by
  unfold okV
  rw [piece_bytes h, size_bytes h.len.1]
  have h1 := h.at_
  have h2 := h.len
  simp only [Bool.and_eq_true, decide_eq_true_eq, Bool.not_eq_true', Bool.or_eq_false_iff, Bool.and_eq_false_iff, decide_eq_false_iff_not]
  refine ⟨⟨by omega, by omega, ?_⟩, trivial⟩
  by_cases h3 : p.at_ < p.of - 1
  · exact .inr (by rw [h2.2 h3]; decide)
  · exact .inl h3
section
variable {V : TrayV} {S : SpoolV} {n : Int}
theorem here_piece {p : PieceV} (hp : GoodP p) (h : secV V S n = bytesV p) : hereV V S n = decide (p.number = n) ∧ atV V S n = p := by
  unfold hereV atV
  rw [h, ok_bytes hp, piece_bytes hp]
  exact ⟨rfl, rfl⟩
end
theorem emod_apart {x y c : Int} (hc : 0 < c) (h : x % c = y % c) (h1 : x - y < c) (h2 : y - x < c) : x = y := by
  have e1 := Int.emod_add_mul_ediv x c
  have e2 := Int.emod_add_mul_ediv y c
  have e3 : x - y = c * (x / c - y / c) := by rw [Int.mul_sub]; omega
  obtain ⟨k, hk⟩ : ∃ k, x / c - y / c = k := ⟨_, rfl⟩
  rw [hk] at e3
  rcases Int.lt_trichotomy k 0 with h3 | h3 | h3
  · have := Int.mul_le_mul_of_nonneg_left (show k ≤ -1 by omega) (Int.le_of_lt hc)
    omega
  · subst h3; omega
  · have := Int.mul_le_mul_of_nonneg_left (show 1 ≤ k by omega) (Int.le_of_lt hc)
    omega
theorem settle_get (l : List (Int × List Int)) (hl : ∀ x, x ∈ l → 0 ≤ x.1) (a : Nat) : ∀ k : List (List Int), a < k.length → (settleV k l).getD a [] = lastV l (a : Int) (k.getD a []) := by
  induction l with
  | nil => intro k _; rfl
  | cons x l ih =>
    intro k ha
    show (settleV (k.set x.1.toNat x.2) l).getD a [] = lastV l a (if x.1 = a then x.2 else k.getD a [])
    rw [ih (fun y hy => hl y (by simp [hy])) _ (by rw [List.length_set]; exact ha)]
    congr 1
    have h0 := hl x (by simp)
    by_cases h : x.1 = a
    · rw [if_pos h]
      have : x.1.toNat = a := by omega
      rw [this, List.getD, List.getElem?_set_self ha, Option.getD_some]
    · rw [if_neg h, List.getD, List.getD, List.getElem?_set_ne (by omega)]
section
variable {S : SpoolV} {b : List Int}
theorem on_apart (hF : Fit S) {x y : Int} (h : onV S x = onV S y) (h1 : x - y < S.count) (h2 : y - x < S.count) : x = y := by
  unfold onV at h
  exact emod_apart (by have := hF.count; omega) (by omega) h1 h2
theorem lays_miss {a : Int} {d : List Int} : ∀ k : Nat, (∀ i : Nat, i < k → onV S (S.tail + i) ≠ a) → lastV (lays S b k) a d = d
  | 0, _ => rfl
  | k + 1, h => by
    rw [lays, last_snoc, if_neg (h k (by omega)), lays_miss k (fun i hi => h i (by omega))]
theorem lays_hit (hF : Fit S) {d : List Int} (i : Nat) : ∀ k : Nat, i < k → (k : Int) ≤ S.count → lastV (lays S b k) (onV S (S.tail + i)) d = bytesV (chunkP S b i)
  | 0, h, _ => absurd h (Nat.not_lt_zero _)
  | k + 1, h, hk => by
    rw [lays, last_snoc]
    by_cases hi : i = k
    · subst hi
      rw [if_pos rfl, padB_full (bytesV_length (chunkB_length b i))]
    · rw [if_neg, lays_hit hF i k (by omega) (by omega)]
      intro e
      have := on_apart hF e (by omega) (by omega)
      omega
theorem lays_at (hF : Fit S) : ∀ k : Nat, ∀ x, x ∈ lays S b k → 0 ≤ x.1
  | 0, x, h => by cases h
  | k + 1, x, h => by
    rw [lays] at h
    rcases List.mem_append.1 h with h | h
    · exact lays_at hF k x h
    · obtain rfl := List.mem_singleton.1 h
      unfold onV
      have := Int.emod_nonneg (S.tail + k) (show S.count ≠ 0 by have := hF.count; omega)
      have := hF.first
      show 0 ≤ S.first + _
      omega
end
theorem chunk_len {b : List Int} {i : Nat} (h : i + 1 < nPieces b) : (chunkB b i).length = 108 := by
  unfold nPieces at h
  unfold chunkB
  rw [List.length_drop, List.length_take]
  omega
theorem chunk_good {S : SpoolV} {b : List Int} (hF : Fit S) (hl : b.length ≤ 60000) {i : Nat} (hi : i < nPieces b) : GoodP (chunkP S b i) := by
  have h0 : nPieces b ≤ 600 := by unfold nPieces; omega
  refine ⟨?_, ?_, ?_, ?_, chunkB_length b i, fun h => chunk_len (b := b) ?_⟩
  · have := hF.epoch; show 0 ≤ S.epoch ∧ S.epoch < _; omega
  · have := hF.head; have := hF.tail; show 0 ≤ S.tail + i ∧ S.tail + i < _; omega
  · show (0 : Int) ≤ i ∧ (i : Int) < nPieces b; omega
  · show (nPieces b : Int) < _; omega
  · have h : (i : Int) < (nPieces b : Int) - 1 := h
    omega
theorem chunks_all (b : List Int) : ∀ k : Nat, (List.range k).flatMap (chunkB b) = b.take (108 * k)
  | 0 => by simp
  | k + 1 => by
    rw [List.range_succ, List.flatMap_append, chunks_all b k]
    simp only [List.flatMap_cons, List.flatMap_nil, List.append_nil]
    unfold chunkB
    by_cases h : 108 * (k + 1) ≤ b.length
    · rw [Nat.min_eq_left h]
      have := List.take_append_drop (108 * k) (b.take (108 * (k + 1)))
      rw [List.take_take, Nat.min_eq_left (by omega)] at this
      exact this
    · rw [Nat.min_eq_right (by omega), List.take_of_length_le (Nat.le_refl _), List.take_append_drop, List.take_of_length_le (by omega)]
theorem xor_half (a b : Nat) : a ^^^ b = 2 * ((a / 2) ^^^ (b / 2)) + (if a % 2 = b % 2 then 0 else 1) := by
  have h1 : (a ^^^ b) / 2 = (a / 2) ^^^ (b / 2) := Nat.xor_div_two
  have h2 : (a ^^^ b) % 2 = (a + b) % 2 := by
    have h := Nat.xor_mod_two_pow (a := a) (b := b) (n := 1)
    rw [Nat.pow_one] at h
    rw [h]
    rcases Nat.mod_two_eq_zero_or_one a with h1 | h1 <;> rcases Nat.mod_two_eq_zero_or_one b with h2 | h2 <;> rw [h1, h2] <;> first | (show _ = _; have : (0 : Nat) ^^^ 0 = 0 := rfl; omega) | (have : (0 : Nat) ^^^ 1 = 1 := rfl; omega) | (have : (1 : Nat) ^^^ 0 = 1 := rfl; omega) | (have : (1 : Nat) ^^^ 1 = 0 := rfl; omega)
  have h3 := Nat.div_add_mod (a ^^^ b) 2
  rw [h1] at h3
  split <;> omega
theorem turned_ev (d : Nat) : ∀ (i a b out k : Nat), i + d = 32 → a < 4294967296 → b < 4294967296 → a < 2 ^ d → b < 2 ^ d → out < 2 ^ i → d < k →
    stileref13_turned.l0 k (a : Int) (b : Int) (out : Int) ((2 ^ i : Nat) : Int) (i : Int) = some ((out + 2 ^ i * (a ^^^ b) : Nat) : Int) := by
  induction d with
  | zero =>
    intro i a b out k hi ha hb ha' hb' ho hk
    obtain ⟨k, rfl⟩ : ∃ j, k = j + 1 := ⟨k - 1, by omega⟩
    simp only [stileref13_turned.l0]
    rw [if_neg (by omega)]
    have : a = 0 := by simpa using ha'
    have : b = 0 := by simpa using hb'
    subst_vars
    simp
  | succ d ih =>
    intro i a b out k hi ha hb ha' hb' ho hk
    obtain ⟨k, rfl⟩ : ∃ j, k = j + 1 := ⟨k - 1, by omega⟩
    have hi31 : i ≤ 31 := by omega
    have hp : (2 : Nat) ^ i ≤ 2 ^ 31 := Nat.pow_le_pow_right (by decide) hi31
    have hp2 : (2 : Nat) ^ (i + 1) = 2 * 2 ^ i := by rw [Nat.pow_succ]; omega
    have hp31 : (2 : Nat) ^ 31 = 2147483648 := rfl
    have c1 : (i : Int) < 32 := by omega
    have E : (IntKind.u64.wrap (Int.tdiv (a : Int) 2) = ((a / 2 : Nat) : Int)) ∧ True := ⟨by rw [Int.tdiv_eq_ediv_of_nonneg (by omega), IntWalk.u64_in _ (by omega)]; omega, trivial⟩
    clear E
    have e1 : IntKind.u64.wrap (Int.tdiv (a : Int) 2) = ((a / 2 : Nat) : Int) := by
      rw [Int.tdiv_eq_ediv_of_nonneg (by omega), IntWalk.u64_in _ (by omega)]; omega
    have e2 : IntKind.u64.wrap (Int.tdiv (b : Int) 2) = ((b / 2 : Nat) : Int) := by
      rw [Int.tdiv_eq_ediv_of_nonneg (by omega), IntWalk.u64_in _ (by omega)]; omega
    have e3 : IntKind.u64.wrap (((2 ^ i : Nat) : Int) * 2) = ((2 ^ (i + 1) : Nat) : Int) := by
      rw [hp2, IntWalk.u64_in _ (by omega)]; omega
    have e4 : wrap64 ((i : Int) + 1) = ((i + 1 : Nat) : Int) := by rw [w64s _ (by omega) (by omega)]; omega
    have e5 : IntKind.u64.wrap ((out : Int) + ((2 ^ i : Nat) : Int)) = ((out + 2 ^ i : Nat) : Int) := by
      rw [IntWalk.u64_in _ (by omega)]; omega
    have m1 : Int.tmod (a : Int) 2 = ((a % 2 : Nat) : Int) := by rw [Int.tmod_eq_emod_of_nonneg (by omega)]; omega
    have m2 : Int.tmod (b : Int) 2 = ((b % 2 : Nat) : Int) := by rw [Int.tmod_eq_emod_of_nonneg (by omega)]; omega
    have hd1 : (2 : Nat) ^ (d + 1) = 2 * 2 ^ d := by rw [Nat.pow_succ]; omega
    unfold stileref13_turned.l0
    rw [if_pos c1, e1, e2, e3, e4, e5, m1, m2]
    clear e1 e2 e3 e4 e5 m1 m2
    have hx := xor_half a b
    by_cases h : a % 2 = b % 2
    · rw [if_pos (by rw [h]), ih (i + 1) (a / 2) (b / 2) out k (by omega) (by omega) (by omega) (by omega) (by omega) (by omega) (by omega), hx, if_pos h, hp2, Nat.add_zero]
      congr 2
      rw [Nat.mul_assoc, Nat.mul_left_comm]
    · rw [if_neg (by omega), ih (i + 1) (a / 2) (b / 2) (out + 2 ^ i) k (by omega) (by omega) (by omega) (by omega) (by omega) (by omega) (by omega), hx, if_neg h, hp2]
      congr 2
      obtain ⟨z, hz⟩ : ∃ z, (a / 2) ^^^ (b / 2) = z := ⟨_, rfl⟩
      obtain ⟨p, hp⟩ : ∃ p, 2 ^ i = p := ⟨_, rfl⟩
      rw [hz, hp, Nat.mul_add, Nat.mul_one, Nat.mul_assoc, Nat.mul_left_comm]
      omega
theorem turned_f (a b : Nat) (ha : a < 4294967296) (hb : b < 4294967296) (k : Nat) (hk : 33 ≤ k) : stileref13_turned.f k (a : Int) (b : Int) = some ((a ^^^ b : Nat) : Int) := by
  have := turned_ev 32 0 a b 0 k rfl ha hb (by simpa using ha) (by simpa using hb) (by decide) (by omega)
  unfold stileref13_turned.f
  simpa using this
def refBit (c x : Nat) : Nat := if (decide (c ≥ 2147483648) != decide (x ≥ 128)) = true then (c * 2 % 4294967296) ^^^ 79764919 else c * 2 % 4294967296
theorem bit_same (c x : Nat) (hc : c < 4294967296) (hx : x < 256) : crcBit (c ^^^ (x * 16777216)) = refBit c x ^^^ ((x * 2 % 256) * 16777216) := by
  have hy : x * 16777216 < 4294967296 := by omega
  obtain ⟨y, hyy⟩ : ∃ y, x * 16777216 = y := ⟨_, rfl⟩
  have h1 : (c ^^^ y) * 2 % 4294967296 = (c * 2 % 4294967296) ^^^ (y * 2 % 4294967296) := by
    have e1 : (c ^^^ y) * 2 = (c * 2) ^^^ (y * 2) := by
      have := Nat.shiftLeft_xor_distrib (a := c) (b := y) (i := 1)
      simpa [Nat.shiftLeft_eq] using this
    rw [e1]
    exact Nat.xor_mod_two_pow (n := 32)
  have h2 : y * 2 % 4294967296 = (x * 2 % 256) * 16777216 := by omega
  have h3 : ((c ^^^ y) ≥ 2147483648) ↔ ((decide (c ≥ 2147483648) != decide (x ≥ 128)) = true) := by
    have e1 : (c ^^^ y) / 2 ^ 31 = (c / 2 ^ 31) ^^^ (y / 2 ^ 31) := Nat.xor_div_two_pow
    have e2 : (2 : Nat) ^ 31 = 2147483648 := by decide
    rw [e2] at e1
    have hl : c ^^^ y < 4294967296 := Nat.xor_lt_two_pow (n := 32) hc (by omega)
    by_cases a1 : c ≥ 2147483648
    · have f1 : c / 2147483648 = 1 := by omega
      by_cases a2 : x ≥ 128
      · have f2 : y / 2147483648 = 1 := by omega
        rw [f1, f2] at e1
        have : (1 : Nat) ^^^ 1 = 0 := by decide
        rw [this] at e1
        simp only [a1, a2, decide_true, bne_self_eq_false, Bool.false_eq_true, iff_false]
        omega
      · have f2 : y / 2147483648 = 0 := by omega
        rw [f1, f2] at e1
        have : (1 : Nat) ^^^ 0 = 1 := by decide
        rw [this] at e1
        simp only [a1, a2, decide_true, decide_false]
        constructor
        · intro _; rfl
        · intro _; omega
    · have f1 : c / 2147483648 = 0 := by omega
      by_cases a2 : x ≥ 128
      · have f2 : y / 2147483648 = 1 := by omega
        rw [f1, f2] at e1
        have : (0 : Nat) ^^^ 1 = 1 := by decide
        rw [this] at e1
        simp only [a1, a2, decide_true, decide_false]
        constructor
        · intro _; rfl
        · intro _; omega
      · have f2 : y / 2147483648 = 0 := by omega
        rw [f1, f2] at e1
        have : (0 : Nat) ^^^ 0 = 0 := by decide
        rw [this] at e1
        simp only [a1, a2, decide_false, bne_self_eq_false, Bool.false_eq_true, iff_false]
        omega
  unfold crcBit refBit
  rw [hyy, h1, h2]
  by_cases h : (decide (c ≥ 2147483648) != decide (x ≥ 128)) = true
  · rw [if_pos (h3.2 h), if_pos h, Nat.xor_assoc, Nat.xor_assoc, Nat.xor_comm 79764919]
  · rw [if_neg (fun h' => h (h3.1 h')), if_neg h, Nat.xor_zero]
theorem refBit_lt (c x : Nat) : refBit c x < 4294967296 := by
  unfold refBit
  split
  · exact Nat.xor_lt_two_pow (n := 32) (Nat.mod_lt _ (by decide)) (by decide)
  · exact Nat.mod_lt _ (by decide)
def refBits : Nat → Nat → Nat → Nat
  | 0, c, _ => c
  | k + 1, c, x => refBits k (refBit c x) (x * 2 % 256)
theorem refBits_same : ∀ (k c x : Nat), c < 4294967296 → x < 256 → crcBits k (c ^^^ (x * 16777216)) = refBits k c x ^^^ ((x * 2 ^ k % 256) * 16777216)
  | 0, c, x, hc, hx => by
    show c ^^^ (x * 16777216) = c ^^^ ((x * 1 % 256) * 16777216)
    rw [Nat.mul_one, Nat.mod_eq_of_lt hx]
  | k + 1, c, x, hc, hx => by
    show crcBits k (crcBit (c ^^^ (x * 16777216))) = refBits k (refBit c x) (x * 2 % 256) ^^^ _
    rw [bit_same c x hc hx, refBits_same k _ _ (refBit_lt c x) (Nat.mod_lt _ (by decide))]
    congr 2
    rw [Nat.pow_succ, Nat.mod_mul_mod, Nat.mul_assoc, Nat.mul_comm (2 ^ k) 2]
theorem refByte (c x : Nat) (hc : c < 4294967296) (hx : x < 256) : crcByte c x = refBits 8 c x := by
  unfold crcByte
  rw [refBits_same 8 c x hc hx]
  have : x * 2 ^ 8 % 256 = 0 := Nat.mul_mod_left x 256
  rw [this, Nat.zero_mul, Nat.xor_zero]
theorem ref_sum_ev (l : List Int) (hB : Bytes l) (hl : l.length ≤ 1000000000) : ∀ (d i c k : Nat), i + d = l.length → c < 4294967296 → 50 * d + 50 ≤ k → stileref13_Sum.l0 k l (c : Int) (l.length : Int) (i : Int) = some ((sumN (l.drop i) c : Nat) : Int)
  | 0, i, c, k + 1, hi, hc, hk => by
    simp only [stileref13_Sum.l0]
    rw [if_neg (by omega), List.drop_eq_nil_of_le (by omega)]
    show some ((c : Int) % 4294967296) = some (c : Int)
    congr 1
    omega
  | d + 1, i, c, k + 1, hi, hc, hk => by
    have hil : i < l.length := by omega
    obtain ⟨h1, h2⟩ := hB.rd i hil
    simp only [stileref13_Sum.l0]
    rw [if_pos (by omega), if_pos (by omega), if_pos (by omega), h1, w64s _ (by omega) (by omega)]
    have inner : ∀ (b t c' x' k' : Nat), t + b = 8 → c' < 4294967296 → x' < 256 → 50 * d + 50 + b + 1 ≤ k' → stileref13_Sum.l1 k' l (c' : Int) (x' : Int) (t : Int) (l.length : Int) (i : Int) = some ((sumN (l.drop (i + 1)) (refBits b c' x') : Nat) : Int) := by
      intro b
      induction b with
      | zero =>
        intro t c' x' k' ht hc' hx' hk'
        obtain ⟨k', rfl⟩ : ∃ j, k' = j + 1 := ⟨k' - 1, by omega⟩
        simp only [stileref13_Sum.l1]
        rw [if_neg (by omega), w64s _ (by omega) (by omega), show (i : Int) + 1 = ((i + 1 : Nat) : Int) by omega]
        exact ref_sum_ev l hB hl d (i + 1) c' k' (by omega) hc' (by omega)
      | succ b ih =>
        intro t c' x' k' ht hc' hx' hk'
        obtain ⟨k', rfl⟩ : ∃ j, k' = j + 1 := ⟨k' - 1, by omega⟩
        have q1 : (t : Int) < 8 := by omega
        have q8 : 33 ≤ k' := by omega
        have q9 : 50 * d + 50 + b + 1 ≤ k' := by omega
        have q10 : t + 1 + b = 8 := by omega
        have q2 : wrap64 ((t : Int) + 1) = ((t + 1 : Nat) : Int) := by rw [w64s _ (by omega) (by omega)]; omega
        have q3 : Int.tmod (wrap64 ((x' : Int) * 2)) 256 = ((x' * 2 % 256 : Nat) : Int) := by rw [w64s _ (by omega) (by omega), Int.tmod_eq_emod_of_nonneg (by omega)]; omega
        have q4 : Int.tmod (IntKind.u64.wrap ((c' : Int) * 2)) 4294967296 = ((c' * 2 % 4294967296 : Nat) : Int) := by rw [IntWalk.u64_in _ (by omega), Int.tmod_eq_emod_of_nonneg (by omega)]; omega
        have q5 : (decide ((c' : Int) ≥ 2147483648) != decide ((x' : Int) ≥ 128)) = (decide (c' ≥ 2147483648) != decide (x' ≥ 128)) := by
          congr 1 <;> (rw [Bool.eq_iff_iff, decide_eq_true_eq, decide_eq_true_eq]; omega)
        have q6 := Nat.mod_lt (c' * 2) (show 0 < 4294967296 by decide)
        have q7 := Nat.mod_lt (x' * 2) (show 0 < 256 by decide)
        simp only [stileref13_Sum.l1]
        rw [if_pos q1, q2, q3, q4, q5]
        by_cases h : (decide (c' ≥ 2147483648) != decide (x' ≥ 128)) = true
        · rw [if_pos h, show (79764919 : Int) = ((79764919 : Nat) : Int) from rfl, turned_f _ _ q6 (by decide) k' q8, Option.bind_some]
          have e : refBit c' x' = (c' * 2 % 4294967296) ^^^ 79764919 := by unfold refBit; rw [if_pos h]
          rw [← e]
          exact ih (t + 1) (refBit c' x') (x' * 2 % 256) k' q10 (refBit_lt _ _) q7 q9
        · rw [if_neg h]
          have e : refBit c' x' = c' * 2 % 4294967296 := by unfold refBit; rw [if_neg h]
          rw [← e]
          exact ih (t + 1) (refBit c' x') (x' * 2 % 256) k' q10 (refBit_lt _ _) q7 q9
    have h0 := inner 8 0 c l[i].toNat k (by omega) hc h2 (by omega)
    rw [← refByte c _ hc h2] at h0
    rw [List.drop_eq_getElem_cons hil]
    exact h0
theorem ref_sum_f (l : List Int) (hB : Bytes l) (hl : l.length ≤ 1000000000) (k : Nat) (hk : 50 * l.length + 50 ≤ k) : stileref13_Sum.f k l = some (sumV l) := by
  have := ref_sum_ev l hB hl l.length 0 4294967295 k (by omega) (by decide) hk
  unfold stileref13_Sum.f sumV
  rw [List.drop_zero] at this
  exact this
theorem numV_snoc (l : List Int) (x : Int) : numV (l ++ [x]) = numV l * 256 + x := by simp [numV, List.foldl_append]
def getV (b : List Int) (a k : Nat) : Int := numV ((b.drop a).take k)
theorem getV_succ {b : List Int} {a k : Nat} (h : a + k < b.length) : getV b a (k + 1) = getV b a k * 256 + b.getD (a + k) 0 := by
  unfold getV
  rw [List.take_add_one, List.getElem?_drop, List.getElem?_eq_getElem h, Option.toList_some, numV_snoc, List.getD, List.getElem?_eq_getElem h, Option.getD_some]
theorem getV_lt {b : List Int} {a k : Nat} (hB : Bytes b) (h : a + k ≤ b.length) (hk : k ≤ 6) : 0 ≤ getV b a k ∧ getV b a k < 281474976710656 := by
  have h1 : Bytes ((b.drop a).take k) := fun x hx => hB x (List.mem_of_mem_drop (List.mem_of_mem_take hx))
  have h2 := numV_lt _ h1 k (by simp; omega)
  refine ⟨h2.1, Int.lt_of_lt_of_le h2.2 ?_⟩
  have : k = 0 ∨ k = 1 ∨ k = 2 ∨ k = 3 ∨ k = 4 ∨ k = 5 ∨ k = 6 := by omega
  rcases this with rfl | rfl | rfl | rfl | rfl | rfl | rfl <;> decide
set_option maxHeartbeats 4000000 in
set_option maxRecDepth 100000 in
theorem dget_calls (b : List Int) (hb : b.length = 128) (hB : Bytes b) (a k : Nat) (hak : a + k ≤ 128) (hk6 : k ≤ 6) (w : World) :
    Calls Try.prog 48 #[.agg (numsA .u8 b), .int .i64 (a : Int), .int .i64 (k : Int)] w fun e w' => e = .returned (.int .i64 (getV b a k)) ∧ Below w.heap.size w w' := by
  have w1 : IntKind.i64.wrap ((a : Int) + k) = (a : Int) + k := IntWalk.i64_in _ (by omega)
  have HN := Aside0.mk (⟨hb, hB, hak, hk6⟩ : _ ∧ _ ∧ _ ∧ _)
  obtain ⟨B0, hB0⟩ : ∃ B0, numsA .u8 b = B0 := ⟨_, rfl⟩
  have HB0 := Aside0.mk hB0
  rw [hB0]
  clear hB0 hb hak hB hk6
  go_enter Try.func48, Try.ntmps48
  go_wp2
  go_loopw [7, 8] (fun v7 v8 wr => ∃ j : Nat, v8 = .int .i64 ((a + j : Nat) : Int) ∧ v7 = .int .i64 (getV b a j) ∧ Aside0 (j ≤ k) ∧ Aside0 (Blk wr w.heap.size TDa (numsA .u8 b)) ∧ Aside0 (Below w.heap.size w wr)) (fun _ v8 _ => (a + k - (intOf v8)).toNat)
  case atStart => exact ⟨0, rfl, rfl, ⟨Nat.zero_le _⟩, ⟨by rw [HB0.out]; exact Blk.newAt rfl⟩, ⟨below_alloc (Below.refl _ _) _⟩⟩
  case round =>
    obtain ⟨j, rfl, rfl, hj, hA, hbl⟩ := hrel
    have hn := HN.out
    by_cases hjk : j < k
    · have t1 : decide (((a + j : Nat) : Int) < (a : Int) + k) = true := decide_eq_true (by omega)
      have p0 := eq_true (show (0 : Int) ≤ ((a + j : Nat) : Int) by omega)
      have p1 := eq_true (show ((a + j : Nat) : Int) < 128 by omega)
      have p2 := eq_true (show a + j < 128 by omega)
      have lj := hA.out.lt
      have cj := hA.out.cell (a + j)
      rw [numsA_get _ _ _ (by omega)] at cj
      have hx := hn.2.1.rd (a + j) (by omega)
      have hg := getV_lt (a := a) (k := j) hn.2.1 (by omega) (by omega)
      have hs := getV_succ (b := b) (a := a) (k := j) (by omega)
      have hx2 : 0 ≤ b.getD (a + j) 0 ∧ b.getD (a + j) 0 < 256 := by
        have := hn.2.1 _ (List.getElem_mem (show a + j < b.length by omega))
        rw [List.getD, List.getElem?_eq_getElem (by omega), Option.getD_some]
        exact this
      obtain ⟨x, hx3⟩ : ∃ x, b.getD (a + j) 0 = x := ⟨_, rfl⟩
      rw [hx3] at hs hx2 cj
      obtain ⟨g, hgg⟩ : ∃ g, getV b a j = g := ⟨_, rfl⟩
      rw [hgg] at hs hg
      rw [hgg]
      have m1 : IntKind.i64.wrap (g * 256) = g * 256 := IntWalk.i64_in _ (by omega)
      have m2 : IntKind.i64.wrap x = x := IntWalk.i64_in _ (by omega)
      have m3 : IntKind.i64.wrap (g * 256 + x) = g * 256 + x := IntWalk.i64_in _ (by omega)
      have m4 : IntKind.i64.wrap (((a + j : Nat) : Int) + 1) = ((a + (j + 1) : Nat) : Int) := by rw [show ((a + j : Nat) : Int) + 1 = ((a + (j + 1) : Nat) : Int) by omega]; exact IntWalk.i64_in _ (by omega)
      have HS := Aside0.mk (⟨hs, m4, hjk⟩ : _ ∧ _ ∧ _)
      clear hx hn hgg hx3 hx2 hg hs hjk
      generalize hq : a + j = q at *
      go_wp2
      go_roundw
      case rel => exact ⟨j + 1, by first | rfl | rw [HS.out.2.1], by rw [HS.out.1], ⟨HS.out.2.2⟩, hA, hbl⟩
      case measure => have := HS.out; simp [intOf, HS.out.2.1]; omega
    · have t1 : decide (((a + j : Nat) : Int) < (a : Int) + k) = false := decide_eq_false (by omega)
      obtain rfl : j = k := by have := hj.out; omega
      clear hjk hn
      go_wp2
      go_ret
      exact ⟨rfl, hbl.out⟩
end Go.Proofs.Ytddhngalokmdoaa.Spo
