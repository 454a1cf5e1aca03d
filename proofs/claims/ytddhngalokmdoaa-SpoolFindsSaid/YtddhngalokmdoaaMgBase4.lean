/- Texts of this claim, merged: Spp, Qt, Qg, Tra, Tse. -/
import Derived.Test.YtddhngalokmdoaaMgBase1
import Derived.Test.YtddhngalokmdoaaMgBase2
import Derived.Test.YtddhngalokmdoaaPSpoolPlaysx2
import Derived.Test.YtddhngalokmdoaaMgBase3
import Derived.StillTail
import Derived.Deep.Quiet
import Derived.Deep.QuietTactic
import Derived.Test.YtddhngalokmdoaaPSpoolPlaysx0
/- Pieces of a spool, plainly: the bytes of a piece, and the piece of bytes. What the printed functions come to. -/
namespace Go.Proofs.Ytddhngalokmdoaa.Spo
open Go.RowKit Go.Proofs.YtddhngalokmdoaaW.PrintWords Go.Proofs.YtddhngalokmdoaaW.PrintLast Go.Proofs.YtddhngalokmdoaaW.PrintMore Go.Proofs.Ytddhngalokmdoaa.Arr Go.Proofs.Ytddhngalokmdoaa.PSpoolPlays
set_option linter.unusedVariables false
set_option linter.unusedSimpArgs false

def numV (l : List Int) : Int := l.foldl (fun n c => n * 256 + c) 0
def bigV (n : Int) : Nat → List Int
  | 0 => []
  | k + 1 => n / 256 ^ k % 256 :: bigV n k
structure PieceV where
  epoch : Int
  number : Int
  at_ : Int
  of : Int
  b : List Int
def headV (p : PieceV) : List Int := 83 :: (bigV p.epoch 4 ++ bigV p.number 6 ++ bigV p.at_ 2 ++ bigV p.of 2 ++ [(p.b.length : Int) % 256])
def bodyV (p : PieceV) : List Int := headV p ++ p.b ++ List.replicate (108 - p.b.length) 0
def bytesV (p : PieceV) : List Int := bodyV p ++ bigV (sumV (bodyV p)) 4
def sizeV (bs : List Int) : Int := rd bs 15
def pieceV (bs : List Int) : PieceV := ⟨numV ((bs.drop 1).take 4), numV ((bs.drop 5).take 6), numV ((bs.drop 11).take 2), numV ((bs.drop 13).take 2), (bs.drop 16).take (sizeV bs).toNat⟩
def okV (bs : List Int) : Bool := decide (sizeV bs ≤ 108) && !(decide ((pieceV bs).of ≤ (pieceV bs).at_) || (decide ((pieceV bs).at_ < (pieceV bs).of - 1) && decide (sizeV bs < 108))) && decide (bs = bytesV (pieceV bs))
theorem bigV_length (n : Int) : ∀ k, (bigV n k).length = k
  | 0 => rfl
  | k + 1 => by simp [bigV, bigV_length n k]
theorem bigV_bytes (n : Int) : ∀ k, Bytes (bigV n k)
  | 0 => fun x hx => by cases hx
  | k + 1 => fun x hx => by
    rcases List.mem_cons.1 hx with rfl | hx
    · omega
    · exact bigV_bytes n k x hx
theorem headV_length (p : PieceV) : (headV p).length = 16 := by simp [headV, bigV_length]
theorem bodyV_length {p : PieceV} (h : p.b.length ≤ 108) : (bodyV p).length = 124 := by simp [bodyV, headV_length]; omega
theorem bytesV_length {p : PieceV} (h : p.b.length ≤ 108) : (bytesV p).length = 128 := by simp [bytesV, bodyV_length h, bigV_length]
theorem Bytes.append {a b : List Int} (ha : Bytes a) (hb : Bytes b) : Bytes (a ++ b) := fun x hx => (List.mem_append.1 hx).elim (ha x) (hb x)
theorem Bytes.zeros (n : Nat) : Bytes (List.replicate n 0) := fun x hx => by rw [(List.mem_replicate.1 hx).2]; decide
theorem Bytes.nil : Bytes [] := fun x hx => by cases hx
theorem Bytes.cons {x : Int} {l : List Int} (h0 : 0 ≤ x) (h1 : x < 256) (hl : Bytes l) : Bytes (x :: l) := fun y hy => (List.mem_cons.1 hy).elim (fun e => by subst e; exact ⟨h0, h1⟩) (hl y)
theorem Bytes.take {l : List Int} (h : Bytes l) (n : Nat) : Bytes (l.take n) := fun x hx => h x (List.mem_of_mem_take hx)
theorem Bytes.drop {l : List Int} (h : Bytes l) (n : Nat) : Bytes (l.drop n) := fun x hx => h x (List.mem_of_mem_drop hx)
theorem headV_bytes (p : PieceV) : Bytes (headV p) := by
  unfold headV
  exact Bytes.cons (by decide) (by decide) (((((bigV_bytes _ _).append (bigV_bytes _ _)).append (bigV_bytes _ _)).append (bigV_bytes _ _)).append (Bytes.cons (by omega) (by omega) Bytes.nil))
theorem bodyV_bytes {p : PieceV} (h : Bytes p.b) : Bytes (bodyV p) := ((headV_bytes p).append h).append (Bytes.zeros _)
theorem bytesV_bytes {p : PieceV} (h : Bytes p.b) : Bytes (bytesV p) := (bodyV_bytes h).append (bigV_bytes _ _)
theorem sumV_range {l : List Int} (h : Bytes l) : 0 ≤ sumV l ∧ sumV l < 4294967296 := by
  have := sumN_lt l 4294967295 h (by decide)
  unfold sumV
  omega
/-! ### numbers -/
theorem or_add (x y : Nat) (hx : x < 281474976710656) (hy : y < 256) : Go.bits .or .i64 ((x : Int) * 256) (y : Int) = ((x * 256 + y : Nat) : Int) := by
  have e0 : (x : Int) * 256 = ((x * 256 : Nat) : Int) := by omega
  rw [e0]
  unfold Go.bits
  have b1 : (BitVec.ofInt IntKind.i64.bits ((x * 256 : Nat) : Int)) = BitVec.ofNat 64 (x * 256) := by rw [BitVec.ofInt_natCast]; rfl
  have b2 : (BitVec.ofInt IntKind.i64.bits (y : Int)) = BitVec.ofNat 64 y := by rw [BitVec.ofInt_natCast]; rfl
  simp only [b1, b2]
  have e1 : ((BitVec.ofNat 64 (x * 256) ||| BitVec.ofNat 64 y).toNat : Nat) = x * 256 + y := by
    rw [BitVec.toNat_or, BitVec.toNat_ofNat, BitVec.toNat_ofNat, Nat.mod_eq_of_lt (by omega), Nat.mod_eq_of_lt (by omega)]
    have := Nat.shiftLeft_add_eq_or_of_lt (a := x) (b := y) (i := 8) (by omega)
    rw [Nat.shiftLeft_eq] at this
    exact this.symm
  refine (congrArg (fun n : Nat => IntKind.i64.wrap (n : Int)) e1).trans ?_
  exact IntWalk.i64_in _ (by omega)
theorem number_ev (l : List Int) (hB : Bytes l) (hl : l.length ≤ 6) : ∀ (d i k : Nat) (n : Int), i + d = l.length → 0 ≤ n → n < 256 ^ i → d + 1 ≤ k → spool_number.l0 k n l (l.length : Int) (i : Int) = some ((l.drop i).foldl (fun n c => n * 256 + c) n)
  | 0, i, k + 1, n, hi, hn0, hn, hk => by
    simp only [spool_number.l0]
    rw [if_neg (by omega), List.drop_eq_nil_of_le (by omega)]
    rfl
  | d + 1, i, k + 1, n, hi, hn0, hn, hk => by
    have hil : i < l.length := by omega
    obtain ⟨h1, h2⟩ := hB.rd i hil
    have h3 := hB _ (List.getElem_mem hil)
    have h5 : (256 : Int) ^ i ≤ 256 ^ 5 := by
      have h4 : i ≤ 5 := by omega
      match i, h4 with
      | 0, _ => decide
      | 1, _ => decide
      | 2, _ => decide
      | 3, _ => decide
      | 4, _ => decide
      | 5, _ => decide
      | i + 6, h => omega
    have h6 : (256 : Int) ^ 5 = 1099511627776 := by decide
    obtain ⟨x, rfl⟩ : ∃ x : Nat, n = (x : Int) := ⟨n.toNat, by omega⟩
    simp only [spool_number.l0]
    rw [if_pos (by omega), if_pos (by omega), if_pos (by omega), h1, w64s _ (by omega) (by omega), w64s _ (by omega) (by omega), or_add x _ (by omega) h2, w64s _ (by omega) (by omega), show (i : Int) + 1 = ((i + 1 : Nat) : Int) by omega]
    have e : (((x * 256 + l[i].toNat : Nat)) : Int) = (x : Int) * 256 + l[i] := by omega
    rw [e, number_ev l hB hl d (i + 1) k _ (by omega) (by omega) (by rw [Int.pow_succ]; omega) (by omega), List.drop_eq_getElem_cons hil]
    rfl
theorem number_f (l : List Int) (hB : Bytes l) (hl : l.length ≤ 6) : spool_number.f 9 l = some (numV l) := by
  have := number_ev l hB hl l.length 0 9 0 (by omega) (by decide) (by decide) (by omega)
  rw [List.drop_zero] at this
  exact this
theorem big_ev (n : Int) : ∀ (d k : Nat) (l : List Int), d ≤ 6 → l.length + d ≤ 1000 → d + 1 ≤ k → spool_big.l0 k l n (d : Int) = some (l ++ bigV n d)
  | 0, k + 1, l, hd, hl, hk => by
    simp only [spool_big.l0]
    rw [if_neg (by omega)]
    simp [bigV]
  | d + 1, k + 1, l, hd, hl, hk => by
    simp only [spool_big.l0]
    rw [w64s (((d + 1 : Nat) : Int) - 1) (by omega) (by omega), show (((d + 1 : Nat) : Int) - 1) = (d : Int) by omega, w64s _ (by omega) (by omega), if_pos (by omega), if_pos (by omega), if_pos (by omega)]
    have e : shr .i64 n (8 * (d : Int)) = n / 256 ^ d := by
      unfold shr
      have : min (8 * (d : Int)).toNat IntKind.i64.bits = 8 * d := by show min _ 64 = _; omega
      rw [this, Int.pow_mul]
      rfl
    rw [e, big_ev n d k _ (by omega) (by simp; omega) (by omega), List.append_assoc]
    rfl
theorem big_f (n : Int) (d : Nat) (l : List Int) (hd : d ≤ 6) (hl : l.length ≤ 990) (k : Nat) (hk : 8 ≤ k) : spool_big.f k l n (d : Int) = some (l ++ bigV n d) := big_ev n d k l hd (by omega) (by omega)
theorem big_f2 (n : Int) (l : List Int) (hl : l.length ≤ 990) (k : Nat) (hk : 8 ≤ k) : spool_big.f k l n 2 = some (l ++ bigV n 2) := big_f n 2 l (by decide) hl k hk
theorem big_f4 (n : Int) (l : List Int) (hl : l.length ≤ 990) (k : Nat) (hk : 8 ≤ k) : spool_big.f k l n 4 = some (l ++ bigV n 4) := big_f n 4 l (by decide) hl k hk
theorem big_f6 (n : Int) (l : List Int) (hl : l.length ≤ 990) (k : Nat) (hk : 8 ≤ k) : spool_big.f k l n 6 = some (l ++ bigV n 6) := big_f n 6 l (by decide) hl k hk
theorem pieces_f (l : List Int) (hl : l.length ≤ 1000000000) : spool_pieces.f l = some (max 1 (((l.length : Int) + 107) / 108)) := by
  unfold spool_pieces.f
  rw [w64s ((l.length : Int) + 108) (by omega) (by omega), w64s ((l.length : Int) + 108 - 1) (by omega) (by omega), Int.tdiv_eq_ediv_of_nonneg (by omega), w64s _ (by omega) (by omega), show (l.length : Int) + 108 - 1 = l.length + 107 by omega]
  congr 1
  unfold mx
  split <;> omega
theorem equal_ev (a b : List Int) (hl : a.length = b.length) (ha : a.length ≤ 1000000000) : ∀ (d i k : Nat), i + d = a.length → d + 1 ≤ k → slices_Equal_byte_byte.l0 k a b (a.length : Int) (i : Int) = some (decide (a.drop i = b.drop i))
  | 0, i, k + 1, hi, hk => by
    simp only [slices_Equal_byte_byte.l0]
    rw [if_neg (by omega), List.drop_eq_nil_of_le (by omega), List.drop_eq_nil_of_le (by omega)]
    rfl
  | d + 1, i, k + 1, hi, hk => by
    have hia : i < a.length := by omega
    have hib : i < b.length := by omega
    simp only [slices_Equal_byte_byte.l0]
    have r1 : rd a (i : Int) = a[i] := by unfold Go.Proofs.YtddhngalokmdoaaW.PrintWords.rd; rw [Int.toNat_natCast, List.getD, List.getElem?_eq_getElem hia, Option.getD_some]
    have r2 : rd b (i : Int) = b[i] := by unfold Go.Proofs.YtddhngalokmdoaaW.PrintWords.rd; rw [Int.toNat_natCast, List.getD, List.getElem?_eq_getElem hib, Option.getD_some]
    rw [if_pos (by omega), if_pos (by omega), if_pos (by omega), if_pos (by omega), r1, r2, w64s _ (by omega) (by omega), show (i : Int) + 1 = ((i + 1 : Nat) : Int) by omega, List.drop_eq_getElem_cons hia, List.drop_eq_getElem_cons hib]
    by_cases h : a[i] = b[i]
    · rw [if_pos h, equal_ev a b hl ha d (i + 1) k (by omega) (by omega), h]
      exact congrArg some (decide_eq_decide.2 ⟨fun e => by rw [e], fun e => (List.cons.inj e).2⟩)
    · rw [if_neg h]
      exact congrArg some (decide_eq_false (fun e => h (List.cons.inj e).1)).symm
theorem equal_f (a b : List Int) (ha : a.length ≤ 1000000000) : slices_Equal_byte_byte.f (a.length + 1) a b = some (decide (a = b)) := by
  unfold slices_Equal_byte_byte.f
  by_cases hl : a.length = b.length
  · rw [if_pos (by omega)]
    have := equal_ev a b hl ha a.length 0 (a.length + 1) (by omega) (by omega)
    rw [List.drop_zero, List.drop_zero] at this
    exact this
  · rw [if_neg (by omega), decide_eq_false]
    intro h
    exact hl (by rw [h])
theorem bytes_f (p : PieceV) (hb : Bytes p.b) (hl : p.b.length ≤ 108) : spool_piece_bytes.f 1300 p.epoch p.number p.at_ p.of p.b = some (bytesV p) := by
  unfold spool_piece_bytes.f
  have e1 : ([83] ++ bigV p.epoch 4 ++ bigV p.number 6 ++ bigV p.at_ 2 ++ bigV p.of 2 : List Int).length = 15 := by simp [bigV_length]
  rw [big_f4 _ _ (by decide) 1300 (by decide), Option.bind_some, big_f6 _ _ (by simp [bigV_length]) 1300 (by decide), Option.bind_some, big_f2 _ _ (by simp [bigV_length]) 1300 (by decide), Option.bind_some, big_f2 _ _ (by simp [bigV_length]) 1300 (by decide), Option.bind_some, Option.bind_some]
  obtain ⟨h0, hh0⟩ : ∃ h0 : List Int, [83] ++ bigV p.epoch 4 ++ bigV p.number 6 ++ bigV p.at_ 2 ++ bigV p.of 2 = h0 := ⟨_, rfl⟩
  have e2 : h0 ++ [(p.b.length : Int) % 256] = headV p := by rw [← hh0]; simp [headV]
  rw [hh0, if_pos (by rw [← hh0, e1]; simp), Option.bind_some, e2]
  have e3 : (headV p ++ p.b).length = 16 + p.b.length := by simp [headV_length]
  rw [if_pos (by rw [headV_length]; omega), Option.bind_some, e3, w64s _ (by omega) (by omega), if_pos (by omega), if_pos (by omega), Option.bind_some]
  have e4 : headV p ++ p.b ++ List.replicate ((124 : Int) - ((16 + p.b.length : Nat) : Int)).toNat 0 = bodyV p := by
    unfold bodyV
    congr 2
    omega
  rw [e4, sum_f _ (bodyV_bytes hb) (by rw [bodyV_length hl]; decide) 1300 (by rw [bodyV_length hl]; decide), Option.bind_some]
  have := sumV_range (bodyV_bytes hb)
  rw [w64s _ (by omega) (by omega), big_f4 _ _ (by rw [bodyV_length hl]; decide) 1300 (by decide)]
  rfl
theorem right_f (a b n : Int) (h : 0 ≤ n) (hn : n ≤ 4096) : spool_Ring_right.f a b n = some (decide (b ≥ 2) && decide (b ≤ 4096) && decide (a ≥ 0) && decide (a < n) && decide (b ≤ n - a)) := by
  unfold spool_Ring_right.f
  by_cases h1 : b ≥ 2
  · by_cases h2 : b ≤ 4096
    · by_cases h3 : a ≥ 0
      · by_cases h4 : a < n
        · simp [h1, h2, h3, h4, w64s (n - a) (by omega) (by omega)]
        · simp [h1, h2, h3, h4]
      · simp [h1, h2, h3]
    · simp [h1, h2]
  · simp [h1]
end Go.Proofs.Ytddhngalokmdoaa.Spo

/- Regions that draw their order, whose head only reads and calls, the worlds staying in a class; and whose tail comes in one order. Any program. -/
namespace Go.Proofs.Ytddhngalokmdoaa.Qt
open Go.RowKit Go.Proofs.Ytddhngalokmdoaa.Arr
set_option linter.unusedVariables false
set_option linter.unusedSimpArgs false
section
variable {P : Program} {ops : Array Oper} {md : Region.Mode} {C : World → Prop}

/-- The head in any order; then L. -/
def anyHead (P : Program) (md : Region.Mode) (ops : Array Oper) (C : World → Prop) (n : Nat) (L : Array Bool → Act → Prop) : Nat → Array Bool → Act → Prop
  | 0, listed, a => L listed a
  | f + 1, listed, a => Region.ready md ops listed ≠ [] ∧ ∀ i ∈ Region.ready md ops listed, i < n ∧ qOp P ops C i (anyHead P md ops C n L f (listed.setIfInBounds i true)) a

theorem any_of_head {n g : Nat} {L : Array Bool → Act → Prop} {Q' : Exit → Act → World → Prop} (hL : ∀ listed a w, C w → L listed a → wpAny P md ops Q' g listed a w) :
    ∀ (f : Nat) (listed : Array Bool) (a : Act) (w : World), C w → anyHead P md ops C n L f listed a → wpAny P md ops Q' (f + g) listed a w
  | 0, listed, a, w, hw, h => by rw [Nat.zero_add]; exact hL _ _ _ hw h
  | f + 1, listed, a, w, hw, h => by
    rw [show f + 1 + g = (f + g) + 1 by omega]
    exact ⟨fun h0 => absurd h0 h.1, fun i hi => wpOp_of_qOp hw (fun a' w' hw' h' => any_of_head hL f _ a' w' hw' h') (h.2 i hi).2⟩

theorem head_first {n i : Nat} {oi : Oper} {v : Value} {L : Array Bool → Act → Prop} (hi : ops[i]? = some oi) (hsel : ∀ (j : Nat) (o : Oper) cs b, ops[j]? = some o → o.op ≠ .select cs b)
    (hs : Region.sinkB md ops n = true) (hc : Region.chainB md ops n = true) (hn : n < ops.size) (hin : i < n)
    (hdone : ∀ listed a, L listed a → ∀ j ∈ Region.ready md ops listed, n ≤ j) :
    ∀ (f : Nat) (listed : Array Bool) (a : Act), HeadInv md ops n listed →
      (∀ j oj, ops[j]? = some oj → j ≠ i → listed.getD j true = false → (∀ e ∈ oj.after, Region.binds md e = true → e.on ≠ i) → oi.apart ops oj = true) →
      i ∈ Region.ready md ops listed → YieldsIn P ops C oi v a →
      anyHead P md ops C n L f (listed.setIfInBounds i true) (a.put oi.dst v) → anyHead P md ops C n L (f + 1) listed a := by
  intro f
  induction f with
  | zero =>
    intro listed a inv _ hr hy H
    have hun := (mem_ready.1 hr).1
    refine ⟨fun h => (by rw [h] at hr; cases hr), fun j hj => ?_⟩
    have hjn : j < n := (Nat.lt_or_ge j n).resolve_right fun h => absurd hj (tail_waits hs hc hn inv _ i rfl hin hun j h)
    refine ⟨hjn, ?_⟩
    by_cases hji : j = i
    · subst hji; exact hy.qOp hi H
    · have := hdone _ _ H j (ready_mono hj hji)
      omega
  | succ f ih =>
    intro listed a inv hfree hr hy H
    have hun := (mem_ready.1 hr).1
    refine ⟨fun h => (by rw [h] at hr; cases hr), fun j hj => ?_⟩
    have hjn : j < n := (Nat.lt_or_ge j n).resolve_right fun h => absurd hj (tail_waits hs hc hn inv _ i rfl hin hun j h)
    refine ⟨hjn, ?_⟩
    by_cases hji : j = i
    · subst hji; exact hy.qOp hi H
    · have h1 := (H.2 j (ready_mono hj hji)).2
      obtain ⟨hjun, oj, hoj, hall⟩ := mem_ready.1 hj
      have hnot : ∀ e ∈ oj.after, Region.binds md e = true → e.on ≠ i := fun e he hb heq => by
        have h1 := hall e he hb
        rw [heq, getD_both hun] at h1
        cases h1
      have h2 := qOp_put hoj (hfree j oj hoj hji hjun hnot) (fun cs b => hsel i oi cs b hi) (fun cs b => hsel j oj cs b hoj) hy h1
      have hfree' : ∀ k ok, ops[k]? = some ok → k ≠ i → (listed.setIfInBounds j true).getD k true = false →
          (∀ e ∈ ok.after, Region.binds md e = true → e.on ≠ i) → oi.apart ops ok = true := fun k ok hk hki hun' hno => by
        refine hfree k ok hk hki ?_ hno
        by_cases hjk : j = k
        · subst hjk; exact hjun
        · rw [getD_set_ne true hjk] at hun'; exact hun'
      refine qOp_mono (fun a' h3 => ih (listed.setIfInBounds j true) a' (inv.set hj hjn) hfree' (ready_mono hr (Ne.symm hji)) h3.1 ?_) h2
      rw [Array.setIfInBounds_comm _ _ hji]
      exact h3.2

theorem head_lex {n g : Nat} {Lq : Act → Prop} (hsel : Region.noSelect ops = true) (hs : Region.sinkB md ops n = true) (hc : Region.chainB md ops n = true) (hn : n < ops.size) :
    ∀ (l : List Oper) (k : Nat) (listed : Array Bool) (a : Act), (∀ j, j < l.length → l[j]? = ops[k + j]?) → k + l.length = n → HeadInv md ops n listed →
    Region.lexHead md ops g l.length k listed = true → wpQuiet P ops C Lq l a →
    anyHead P md ops C n (fun listed' a' => Region.seqB md ops g n listed' = true ∧ Lq a') l.length listed a
  | [], k, listed, a, _, hk, _, hB, h => by
    have : k = n := by simpa using hk
    subst this
    exact ⟨by simpa [Region.lexHead] using hB, h⟩
  | o :: l, k, listed, a, hl, hk, inv, hB, h => by
    have h0 : ops[k]? = some o := by simpa using (hl 0 (by simp)).symm
    simp only [List.length_cons, Region.lexHead, Bool.and_eq_true] at hB
    obtain ⟨⟨hr, hf⟩, hB'⟩ := hB
    have hkn : k < n := by simp only [List.length_cons] at hk; omega
    have hr' : k ∈ Region.ready md ops listed := by simpa using hr
    have hst : qOp P ops C k (wpQuiet P ops C Lq l) a := by unfold qOp; simp only [h0]; exact h
    obtain ⟨v, hy, hK⟩ := yieldsIn_of_qOp h0 hst
    exact head_first h0 (Region.noSelect_spec hsel) hs hc hn hkn (fun listed' a' hL => seqB_ready hL.1) l.length listed a inv (Region.free_spec h0 hf) hr' hy
      (head_lex hsel hs hc hn l (k + 1) _ _ (fun j hj => by have := hl (j + 1) (by simp; omega); simpa [Nat.add_assoc, Nat.add_comm 1 j] using this) (by simp only [List.length_cons] at hk; omega) (inv.set hr' hkn) hB' hK)

/-- **The head in the text's order, in a class of worlds; then the tail.** -/
theorem wp_region_tail {id : Nat} {Q : Exit → Act → World → Prop} {a : Act} {w : World} {l : List Oper} (C : World → Prop) (n : Nat) (hm : P.follows .mixedOrders = true) (hB : Region.lexTailB .any l.toArray n = true)
    (hC : C w.drew) (h : wpQuiet P l.toArray C (fun a' => ∀ w', C w' → wpList P l.toArray Q (l.drop n) a' w') (l.take n) a) : (Code.region id l.toArray true).wp P Q a w := by
  simp only [Region.lexTailB, Bool.and_eq_true, decide_eq_true_eq] at hB
  obtain ⟨⟨⟨⟨hsel, hn⟩, hs⟩, hc⟩, hlex⟩ := hB
  have hn' : n < l.length := by simpa using hn
  have htl : (l.take n).length = n := by simp; omega
  have hdl : (l.drop n).length = l.toArray.size - n := by simp
  have inv0 : HeadInv .any l.toArray n (Array.replicate l.toArray.size false) :=
    ⟨by simp, fun j oj _ hl => (by rw [getD_replicate_false] at hl; cases hl), fun t _ ht => getD_in (by simpa using ht) (getD_replicate_false _ _)⟩
  have H := head_lex (md := .any) (g := l.toArray.size - n) hsel hs hc hn (l.take n) 0 _ a (fun j hj => by
    have hj' : j < n := by rw [htl] at hj; exact hj
    simp [hj']) (by simpa using htl) inv0 (by rw [htl]; exact hlex) h
  refine wp_region_any hm ?_
  have := any_of_head (Q' := Q) (g := l.toArray.size - n) (fun listed a' w' hw' hL => by
    have := wpAny_of_seq (md := .any) (Q' := Q) (l.drop n) n listed a' w' (fun j => by simp [List.getElem?_drop]) (by rw [hdl]; exact hL.1) (hL.2 w' hw')
    rwa [hdl] at this) _ _ _ _ hC H
  rw [htl, show n + (l.toArray.size - n) = l.toArray.size by omega] at this
  exact this

/-- A region that has no tail. -/
theorem wp_region_all {id : Nat} {Q : Exit → Act → World → Prop} {a : Act} {w : World} {l : List Oper} (C : World → Prop) (hm : P.follows .mixedOrders = true) (hB : Region.lexB .any l.toArray = true)
    (hC : C w.drew) (h : wpQuiet P l.toArray C (fun a' => ∀ w', C w' → Q .normal a' w') l a) : (Code.region id l.toArray true).wp P Q a w :=
  wp_region_quiet (C := C) hm hB hC (by simpa using h)

/-! ### one operation of the head -/
variable {Q : Act → Prop} {a : Act} {o : Oper} {rest : List Oper}
theorem q_call (f : FuncId) (args : Array Value) (v : Value) (hgd : o.guard = none) (hr : ∀ w, (execOp a.eval o).run P w = .ok (.enter f args) w)
    (hc : ∀ w, C w → Calls P f args w fun e w' => e = .returned v ∧ C w')
    (h : ∀ K : Act → Prop, (∀ a, wpQuiet P ops C Q rest a → K a) → K (a.put o.dst v)) : wpQuiet P ops C Q (o :: rest) a := by
  refine wpQuiet_step fun K hK => ?_
  rw [if_pos (by simp [Region.wanted, hgd])]
  refine ⟨v, fun w hw => ?_, h K hK⟩
  unfold Oper.quietAt
  rw [hr w]
  exact ⟨rfl, hc w hw⟩
theorem q_val (v : Value) (hgd : o.guard = none) (hr : ∀ w, C w → (execOp a.eval o).run P w = .ok (.value v) w)
    (h : ∀ K : Act → Prop, (∀ a, wpQuiet P ops C Q rest a → K a) → K (a.put o.dst v)) : wpQuiet P ops C Q (o :: rest) a := by
  refine wpQuiet_step fun K hK => ?_
  rw [if_pos (by simp [Region.wanted, hgd])]
  refine ⟨v, fun w hw => ?_, h K hK⟩
  unfold Oper.quietAt
  rw [hr w hw]
  exact ⟨rfl, rfl⟩
theorem q_load_blk (hgd : o.guard = none) (T : TypeId) (x : Operand) (ho : o.op = .load T x) (g : Nat) (cs : Array Value) (d : TypeDesc) (hx : a.eval x = .pointer (some ⟨g, 0, none⟩))
    (hu : P.underlying T = some d) (hd : (match d with | .struct _ | .array _ _ => true | _ => false) = true) {n : Nat} (hi : (P.info? T).map (·.size) = some n) {U : TypeId} (hb : ∀ w, C w → Blk w g U cs) (hc : cs.size = n)
    (h : ∀ K : Act → Prop, (∀ a, wpQuiet P ops C Q rest a → K a) → K (a.put o.dst (.agg cs))) : wpQuiet P ops C Q (o :: rest) a := by
  refine q_val (.agg cs) hgd (fun w hw => ?_) h
  unfold execOp
  simp only [ho, hx, Instr.loadAt, Instr.sureAddr, Sem.run_bind, Sem.run_pure, Result.andThen_ok, run_loadVar_row w g U T cs (0, 0) d (hb w hw).out hu hd (by rw [hi, hc])]

/-- The value is found by running it. -/
theorem q_val' (hgd : o.guard = none)
    (h : ∃ v, (∀ w, C w → (execOp a.eval o).run P w = .ok (.value v) w) ∧ ∀ K : Act → Prop, (∀ a, wpQuiet P ops C Q rest a → K a) → K (a.put o.dst v)) : wpQuiet P ops C Q (o :: rest) a := by
  obtain ⟨v, hr, h⟩ := h
  exact q_val v hgd hr h
theorem q_call' (hgd : o.guard = none)
    (h : ∃ f args, (∀ w, (execOp a.eval o).run P w = .ok (.enter f args) w) ∧ ∃ v, (∀ w, C w → Calls P f args w fun e w' => e = .returned v ∧ C w') ∧
      ∀ K : Act → Prop, (∀ a, wpQuiet P ops C Q rest a → K a) → K (a.put o.dst v)) : wpQuiet P ops C Q (o :: rest) a := by
  obtain ⟨f, args, hr, v, hc, h⟩ := h
  exact q_call f args v hgd hr hc h
/-- A callee that makes memory alone, in a world that is the elder one but for what is new. -/
theorem under {f : FuncId} {args : Array Value} {v : Value} {B w : World} (hb : Below B.heap.size B w) (h : Calls P f args w fun e w' => e = .returned v ∧ Below w.heap.size w w') :
    Calls P f args w fun e w' => e = .returned v ∧ Below B.heap.size B w' :=
  h.mono fun _ _ ⟨he, hw⟩ => ⟨he, hb.trans (hw.mono hb.size)⟩
end
end Go.Proofs.Ytddhngalokmdoaa.Qt

/- The head's operations, a guard ahead of them or none. Any program. -/
namespace Go.Proofs.Ytddhngalokmdoaa.Qg
open Go.RowKit
set_option linter.unusedVariables false
section
variable {P : Program} {ops : Array Oper} {C : World → Prop} {Q : Act → Prop} {a : Act} {o : Oper} {rest : List Oper}
theorem q_val (hw : Region.wanted o (yielded ops a.tmps) = true)
    (h : ∃ v, (∀ w, C w → (execOp a.eval o).run P w = .ok (.value v) w) ∧ ∀ K : Act → Prop, (∀ a, wpQuiet P ops C Q rest a → K a) → K (a.put o.dst v)) : wpQuiet P ops C Q (o :: rest) a := by
  obtain ⟨v, hr, h⟩ := h
  refine wpQuiet_step fun K hK => ?_
  rw [if_pos hw]
  refine ⟨v, fun w hw => ?_, h K hK⟩
  unfold Oper.quietAt
  rw [hr w hw]
  exact ⟨rfl, rfl⟩
theorem q_call (hw : Region.wanted o (yielded ops a.tmps) = true)
    (h : ∃ f args, (∀ w, (execOp a.eval o).run P w = .ok (.enter f args) w) ∧ ∃ v, (∀ w, C w → Calls P f args w fun e w' => e = .returned v ∧ C w') ∧
      ∀ K : Act → Prop, (∀ a, wpQuiet P ops C Q rest a → K a) → K (a.put o.dst v)) : wpQuiet P ops C Q (o :: rest) a := by
  obtain ⟨f, args, hr, v, hc, h⟩ := h
  refine wpQuiet_step fun K hK => ?_
  rw [if_pos hw]
  refine ⟨v, fun w hw => ?_, h K hK⟩
  unfold Oper.quietAt
  rw [hr w]
  exact ⟨rfl, hc w hw⟩
theorem q_skip (hw : Region.wanted o (yielded ops a.tmps) = false) (h : ∀ K : Act → Prop, (∀ a, wpQuiet P ops C Q rest a → K a) → K (a.put o.dst undef)) : wpQuiet P ops C Q (o :: rest) a := by
  refine wpQuiet_step fun K hK => ?_
  rw [if_neg (by rw [hw]; decide)]
  exact h K hK
theorem wanted_on {j d : Nat} {b : Bool} (hg : o.guard = some (j, b)) (hd : (ops[j]?).bind (·.dst) = some d) (hv : a.tmps[d]? = some (.bool b)) : Region.wanted o (yielded ops a.tmps) = true := by
  simp [Region.wanted, yielded, hg, hd, hv]
theorem wanted_off {j d : Nat} {b : Bool} (hg : o.guard = some (j, b)) (hd : (ops[j]?).bind (·.dst) = some d) (hv : a.tmps[d]? = some (.bool (!b))) : Region.wanted o (yielded ops a.tmps) = false := by
  simp [Region.wanted, yielded, hg, hd, hv]
theorem wanted_never {j d : Nat} {b : Bool} (hg : o.guard = some (j, b)) (hd : (ops[j]?).bind (·.dst) = some d) (hv : a.tmps[d]? = some undef) : Region.wanted o (yielded ops a.tmps) = false := by
  simp [Region.wanted, yielded, hg, hd, hv, undef]
/-- A guard that lets by. -/
theorem on_val {j d : Nat} {b : Bool} (hg : o.guard = some (j, b)) (hd : (ops[j]?).bind (·.dst) = some d) (hv : a.tmps[d]? = some (.bool b))
    (h : ∃ v, (∀ w, C w → (execOp a.eval o).run P w = .ok (.value v) w) ∧ ∀ K : Act → Prop, (∀ a, wpQuiet P ops C Q rest a → K a) → K (a.put o.dst v)) : wpQuiet P ops C Q (o :: rest) a :=
  q_val (wanted_on hg hd hv) h
theorem on_call {j d : Nat} {b : Bool} (hg : o.guard = some (j, b)) (hd : (ops[j]?).bind (·.dst) = some d) (hv : a.tmps[d]? = some (.bool b))
    (h : ∃ f args, (∀ w, (execOp a.eval o).run P w = .ok (.enter f args) w) ∧ ∃ v, (∀ w, C w → Calls P f args w fun e w' => e = .returned v ∧ C w') ∧
      ∀ K : Act → Prop, (∀ a, wpQuiet P ops C Q rest a → K a) → K (a.put o.dst v)) : wpQuiet P ops C Q (o :: rest) a :=
  q_call (wanted_on hg hd hv) h
theorem off {j d : Nat} {b : Bool} (hg : o.guard = some (j, b)) (hd : (ops[j]?).bind (·.dst) = some d) (hv : a.tmps[d]? = some (.bool (!b)))
    (h : ∀ K : Act → Prop, (∀ a, wpQuiet P ops C Q rest a → K a) → K (a.put o.dst undef)) : wpQuiet P ops C Q (o :: rest) a :=
  q_skip (wanted_off hg hd hv) h
/-- A guard that was not reckoned itself. -/
theorem never {j d : Nat} {b : Bool} (hg : o.guard = some (j, b)) (hd : (ops[j]?).bind (·.dst) = some d) (hv : a.tmps[d]? = some undef)
    (h : ∀ K : Act → Prop, (∀ a, wpQuiet P ops C Q rest a → K a) → K (a.put o.dst undef)) : wpQuiet P ops C Q (o :: rest) a :=
  q_skip (wanted_never hg hd hv) h
theorem on_val' (h : ∃ j b d, o.guard = some (j, b) ∧ (ops[j]?).bind (·.dst) = some d ∧ a.tmps[d]? = some (.bool b) ∧
      ∃ v, (∀ w, C w → (execOp a.eval o).run P w = .ok (.value v) w) ∧ ∀ K : Act → Prop, (∀ a, wpQuiet P ops C Q rest a → K a) → K (a.put o.dst v)) : wpQuiet P ops C Q (o :: rest) a := by
  obtain ⟨j, b, d, hg, hd, hv, h⟩ := h
  exact on_val hg hd hv h
theorem on_call' (h : ∃ j b d, o.guard = some (j, b) ∧ (ops[j]?).bind (·.dst) = some d ∧ a.tmps[d]? = some (.bool b) ∧
      ∃ f args, (∀ w, (execOp a.eval o).run P w = .ok (.enter f args) w) ∧ ∃ v, (∀ w, C w → Calls P f args w fun e w' => e = .returned v ∧ C w') ∧
      ∀ K : Act → Prop, (∀ a, wpQuiet P ops C Q rest a → K a) → K (a.put o.dst v)) : wpQuiet P ops C Q (o :: rest) a := by
  obtain ⟨j, b, d, hg, hd, hv, h⟩ := h
  exact on_call hg hd hv h
theorem off' (h : ∃ j b d, o.guard = some (j, b) ∧ (ops[j]?).bind (·.dst) = some d ∧ a.tmps[d]? = some (.bool (!b)) ∧
      ∀ K : Act → Prop, (∀ a, wpQuiet P ops C Q rest a → K a) → K (a.put o.dst undef)) : wpQuiet P ops C Q (o :: rest) a := by
  obtain ⟨j, b, d, hg, hd, hv, h⟩ := h
  exact off hg hd hv h
theorem never' (h : ∃ j b d, o.guard = some (j, b) ∧ (ops[j]?).bind (·.dst) = some d ∧ a.tmps[d]? = some undef ∧
      ∀ K : Act → Prop, (∀ a, wpQuiet P ops C Q rest a → K a) → K (a.put o.dst undef)) : wpQuiet P ops C Q (o :: rest) a := by
  obtain ⟨j, b, d, hg, hd, hv, h⟩ := h
  exact never hg hd hv h
end
end Go.Proofs.Ytddhngalokmdoaa.Qg

/- A tray in memory: Sectors, has, step, Power. -/
namespace Go.Proofs.Ytddhngalokmdoaa.Spo
open Go.RowKit Go.Proofs.YtddhngalokmdoaaW.PrintWords Go.Proofs.YtddhngalokmdoaaW.PrintLast Go.Proofs.YtddhngalokmdoaaW.PrintMore Go.Proofs.Ytddhngalokmdoaa.Arr Go.Proofs.Ytddhngalokmdoaa.PSpoolPlays
set_option linter.unusedVariables false
set_option linter.unusedSimpArgs false

abbrev TTr : TypeId := 79
abbrev TSe : TypeId := 81
abbrev TCa : TypeId := 83
abbrev kSe : Kd (List Int) := bytesK 128
abbrev kCa : Kd (Int × List Int) := stampK 128
abbrev trayC (kv cv : Value) (V : TrayV) : Array Value := #[kv, cv, .int .i64 V.left, .bool V.dark]
abbrev ptrT (t : Nat) : Value := .pointer (some ⟨t, 0, none⟩)
/-- A tray in memory; its blocks are of P. -/
structure TAt (P : Nat → Prop) (w : World) (t : Nat) (V : TrayV) : Prop where mk ::
  out : ∃ kv cv, Blk w t TTr (trayC kv cv V) ∧ kSe.R TSe w 0 P kv V.kept ∧ kCa.R TCa w 0 P cv V.cache ∧ P t
section
variable {P : Nat → Prop} {w w1 : World} {t : Nat} {V : TrayV}
theorem TAt.below (h : TAt P w t V) (hb : Below w.heap.size w w1) : TAt P w1 t V := by
  obtain ⟨kv, cv, h1, h2, h3, h4⟩ := h.out
  exact ⟨kv, cv, h1.below hb, Kd.R_below h2 hb, Kd.R_below h3 hb, h4⟩
theorem TAt.mono {Q : Nat → Prop} (h : TAt P w t V) (hP : ∀ j, j < w.heap.size → P j → Q j) : TAt Q w t V := by
  obtain ⟨kv, cv, h1, h2, h3, h4⟩ := h.out
  refine ⟨kv, cv, h1, ?_, ?_, hP _ h1.lt h4⟩
  · exact Kd.R_mono (Kd.R_bound h2) fun k hk => hP k hk.2.2.1 hk.1
  · exact Kd.R_mono (Kd.R_bound h3) fun k hk => hP k hk.2.2.1 hk.1
/-- What a call on another shape has turned leaves it. -/
theorem TAt.onlyP {Q : Nat → Prop} (h : TAt P w t V) (ho : OnlyP Q w w1) (hn : ∀ j, j < w.heap.size → P j → ¬ Q j) : TAt P w1 t V := by
  obtain ⟨kv, cv, h1, h2, h3, h4⟩ := h.out
  exact ⟨kv, cv, ho.blk h1 (hn _ h1.lt h4), flat_move h2 (fun k hk => ho.block k (flat_lt h2 k hk).1 (hn k (flat_lt h2 k hk).1 (flat_lt h2 k hk).2)), flat_move h3 (fun k hk => ho.block k (flat_lt h3 k hk).1 (hn k (flat_lt h3 k hk).1 (flat_lt h3 k hk).2)), h4⟩
end
set_option maxHeartbeats 4000000 in
theorem sectors_calls (P : Nat → Prop) (t : Nat) (V : TrayV) (w : World) (H : TAt P w t V) :
    Calls Try.prog 37 #[ptrT t] w fun e w' => e = .returned (.int .i64 (V.kept.length : Int)) ∧ Below w.heap.size w w' := by
  obtain ⟨kv, cv, h1, h2, h3, h4⟩ := H.out
  obtain ⟨Ak, ck, rfl⟩ := Kd.R_slice h2
  have c0 := h1.cell 0
  have lt := h1.lt
  clear H h2 h3 h4
  go_enter Try.func37, Try.ntmps37
  go_wp2
  go_ret
  exact ⟨rfl, Below.refl _ _⟩
set_option maxHeartbeats 4000000 in
theorem has_calls (P : Nat → Prop) (t : Nat) (V : TrayV) (at_ : Int) (w : World) (H : TAt P w t V) :
    Calls Try.prog 33 #[ptrT t, .int .i64 at_] w fun e w' => e = .returned (.bool (hasV V at_)) ∧ Below w.heap.size w w' := by
  obtain ⟨kv, cv, h1, h2, h3, h4⟩ := H.out
  obtain ⟨Ak, ck, rfl⟩ := Kd.R_slice h2
  have c0 := h1.cell 0
  have lt := h1.lt
  obtain ⟨n, hn⟩ : ∃ n, V.kept.length = n := ⟨_, rfl⟩
  unfold hasV
  rw [hn] at c0 ⊢
  clear H h1 h2 h3 h4 hn
  by_cases h0 : 0 ≤ at_
  · have t1 : decide (at_ ≥ 0) = true := decide_eq_true h0
    rw [decide_eq_true h0]
    by_cases h5 : at_ < (n : Int)
    · have t2 : decide (at_ < (n : Int)) = true := decide_eq_true h5
      rw [t2]
      clear h0 h5
      go_enter Try.func33, Try.ntmps33
      go_wp2
      go_ret
      exact ⟨rfl, Below.refl _ _⟩
    · have t2 : decide (at_ < (n : Int)) = false := decide_eq_false h5
      rw [t2]
      clear h0 h5
      go_enter Try.func33, Try.ntmps33
      go_wp2
      go_ret
      exact ⟨rfl, Below.refl _ _⟩
  · have t1 : decide (at_ ≥ 0) = false := decide_eq_false h0
    rw [decide_eq_false h0]
    clear h0
    go_enter Try.func33, Try.ntmps33
    go_wp2
    go_ret
    exact ⟨by first | rfl | simp, Below.refl _ _⟩
/-- A tray whose own cells are stored into. -/
theorem TAt.set {P : Nat → Prop} {w : World} {t : Nat} {V V' : TrayV} {kv cv : Value} {w1 : World} {cs : Array Value} (h2 : kSe.R TSe w 0 P kv V.kept) (h3 : kCa.R TCa w 0 P cv V.cache) (h4 : P t)
    (hB : Blk w1 t TTr cs) (hc : cs = trayC kv cv V') (hk : V'.kept = V.kept) (hk2 : V'.cache = V.cache) (hb : ∀ k, k ≠ t → w1.heap[k]? = w.heap[k]?) (ht : ∃ cs0, Blk w t TTr cs0) : TAt P w1 t V' := by
  obtain ⟨cs0, ht⟩ := ht
  refine ⟨kv, cv, by rw [← hc]; exact hB, ?_, ?_, h4⟩
  · rw [hk]
    exact flat_move h2 fun k hk => hb k fun e => Kd.R_ne h2 ht.out (by decide) (by rw [hk, e])
  · rw [hk2]
    exact flat_move h3 fun k hk => hb k fun e => Kd.R_ne h3 ht.out (by decide) (by rw [hk, e])
set_option maxHeartbeats 4000000 in
theorem step_calls (P : Nat → Prop) (t : Nat) (V : TrayV) (w : World) (hl : V.left ≤ 9223372036854775807) (H : TAt P w t V) :
    Calls Try.prog 34 #[ptrT t] w fun e w' => e = .returned (.bool (stepV V).2) ∧ TAt P w' t (stepV V).1 ∧ OnlyP P w w' := by
  obtain ⟨kv, cv, h1, h2, h3, h4⟩ := H.out
  have c2 := h1.cell 2
  have c3 := h1.cell 3
  have f2 := h1.frozen 2
  have f3 := h1.frozen 3
  have lt := h1.lt
  obtain ⟨kept, cache, left, dark⟩ := V
  simp only at c2 c3 hl h1 h2 h3
  have K := Aside0.mk (⟨h1, h2, h3, h4⟩ : _ ∧ _ ∧ _ ∧ _)
  unfold stepV
  simp only
  clear H h1 h2 h3 h4
  by_cases h0 : left = 0
  · rw [if_pos h0]
    subst h0
    go_enter Try.func34, Try.ntmps34
    go_wp2
    go_ret
    obtain ⟨h1, h2, h3, h4⟩ := K.out
    refine ⟨rfl, TAt.set (V := ⟨kept, cache, 0, dark⟩) h2 h3 h4 (h1.set 3 (.bool true)) rfl rfl rfl (fun k hk => Below.heap_setCell w _ _ k hk) ⟨_, h1⟩, (OnlyP.refl P w).setCell (.inl h4) _⟩
  · rw [if_neg h0]
    have t0 : decide (left = 0) = false := decide_eq_false h0
    have t1 : (left == 0) = false := by simpa using h0
    have t2 : (left = 0) = False := eq_false h0
    by_cases hp : 0 < left
    · rw [if_pos hp]
      have t3 : decide (left > 0) = true := decide_eq_true hp
      have hw : IntKind.i64.wrap (left - 1) = left - 1 := IntWalk.i64_in _ (by omega)
      clear h0 hp
      go_enter Try.func34, Try.ntmps34
      go_wp2
      go_ret
      obtain ⟨h1, h2, h3, h4⟩ := K.out
      refine ⟨rfl, TAt.set (V := ⟨kept, cache, left, dark⟩) h2 h3 h4 (h1.set 2 (.int .i64 (left - 1))) rfl rfl rfl (fun k hk => Below.heap_setCell w _ _ k hk) ⟨_, h1⟩, (OnlyP.refl P w).setCell (.inl h4) _⟩
    · rw [if_neg hp]
      have t3 : decide (left > 0) = false := decide_eq_false hp
      clear h0 hp
      go_enter Try.func34, Try.ntmps34
      go_wp2
      go_ret
      obtain ⟨h1, h2, h3, h4⟩ := K.out
      exact ⟨rfl, ⟨kv, cv, h1, h2, h3, h4⟩, OnlyP.refl P w⟩
end Go.Proofs.Ytddhngalokmdoaa.Spo

/- A tray: settle. -/
namespace Go.Proofs.Ytddhngalokmdoaa.Spo
open Go.RowKit Go.Proofs.YtddhngalokmdoaaW.PrintWords Go.Proofs.YtddhngalokmdoaaW.PrintLast Go.Proofs.YtddhngalokmdoaaW.PrintMore Go.Proofs.Ytddhngalokmdoaa.Arr Go.Proofs.Ytddhngalokmdoaa.PSpoolPlays
set_option linter.unusedVariables false
set_option linter.unusedSimpArgs false

/-- 128 zeros. -/
def zB : List Int := List.replicate 128 0
def zCa : List Value := Value.int .i64 0 :: nums .u8 zB
theorem zCa_len : zCa.toArray.size = 129 := by simp [zCa, zB, nums]
theorem zeroCa : ∀ w, (zeroValue TCa).run Try.prog w = .ok (.agg zCa.toArray) w := fun w => by kernel_rfl
theorem infoCa : (Try.prog.info? TCa).map (·.size) = some 129 := by kernel_rfl
theorem infoSe : (Try.prog.info? TSe).map (·.size) = some 128 := by kernel_rfl
def stampC (x : Int × List Int) : List Value := Value.int .i64 x.1 :: nums .u8 x.2
theorem stampC_length {x : Int × List Int} (h : x.2.length = 128) : (stampC x).length = 129 := by simp [stampC, nums, h]
theorem nums_len (l : List Int) : (nums .u8 l).length = l.length := by simp [nums]
theorem stamp_one (x : Int × List Int) : (stampC x).toArray.all (·.oneCell') = true := all_oneCell_toArray fun v hv => by
  rcases List.mem_cons.1 hv with rfl | hv
  · rfl
  · exact nums_one .u8 _ v hv
/-- A variable that holds a stamp: its number and its bytes. -/
theorem stamp_blk {w : World} {g : Nat} {T : TypeId} {x : Int × List Int} (h : Blk w g T (stampC x).toArray) : w.cell? ⟨g, 0, none⟩ = some (.int .i64 x.1) ∧ w.rangeAt g 1 (nums .u8 x.2) := by
  refine ⟨by rw [h.cell]; rfl, fun j v hj => ?_⟩
  rw [h.cell, Nat.add_comm]
  simpa [stampC] using hj
set_option maxHeartbeats 8000000 in
set_option maxRecDepth 100000 in
theorem settle_calls (P Q : Nat → Prop) (kept : List (List Int)) (l : List (Int × List Int)) (gk n ck : Nat) (Ac : Option Addr) (cc m : Nat) (w : World)
    (hR : kSe.R TSe w 0 P (.slice (some ⟨gk, 0, none⟩) n ck) kept) (hC : kCa.R TCa w 0 Q (.slice Ac m cc) l) (hl : ∀ x, x ∈ l → 0 ≤ x.1 ∧ x.1 < kept.length ∧ x.2.length = 128) (hk : 0 < kept.length) (hn : kept.length ≤ 4096) (hm : l.length ≤ 1000000000) :
    Calls Try.prog 44 #[.slice (some ⟨gk, 0, none⟩) n ck, .slice Ac m cc] w fun e w' => e = .returned (.tuple #[]) ∧ kSe.R TSe w' 0 P (.slice (some ⟨gk, 0, none⟩) n ck) (settleV kept l) ∧ OnlyP (fun j => j = gk) w w' := by
  have hml : m = l.length := by
    obtain ⟨A, c, e, _⟩ := Kd.R_reads hC
    injection e
  have hnl : n = kept.length := by
    obtain ⟨A, c, e, _⟩ := Kd.R_reads hR
    injection e
  have hgk : gk < w.heap.size := (flat_lt hR gk rfl).1
  have HC := Aside0.mk hC
  have HL := Aside0.mk hl
  have HML := Aside0.mk hml
  have HNL := Aside0.mk hnl
  have HR := Aside0.mk hR
  have h83 := Try.underlying83
  have h81 := Try.underlying81
  rw [← hml] at hm
  rw [← hnl] at hn hk
  clear hR hC hl hml hnl
  go_enter Try.func44, Try.ntmps44
  go_wp2_with fail
  go_loopw [5, 8] (fun v5 v8 wr => ∃ i : Nat, v8 = .int .i64 (i : Int) ∧ Aside0 (i ≤ m) ∧ Aside0 (kSe.R TSe wr 0 P (.slice (some ⟨gk, 0, none⟩) n ck) (settleV kept (l.take i))) ∧ Aside0 (OnlyP (fun j => j = gk) w wr)) (fun _ v8 _ => m - (intOf v8).toNat)
  case atStart => exact ⟨0, rfl, ⟨Nat.zero_le _⟩, HR, ⟨OnlyP.refl _ _⟩⟩
  case round =>
    obtain ⟨i, rfl, hin, hRi, hO⟩ := hrel
    by_cases hi : i < m
    · have t1 : decide ((i : Int) < (m : Int)) = true := decide_eq_true (by omega)
      have hil : i < l.length := by have := HML.out; omega
      have h0 : (0 : Int) ≤ (i : Int) := by omega
      have h1 : (i : Int) < (m : Int) := by omega
      have p0 := eq_true h0
      have p1 := eq_true h1
      have hw : IntKind.i64.wrap ((i : Int) + 1) = ((i + 1 : Nat) : Int) := by rw [show ((i : Int) + 1) = ((i + 1 : Nat) : Int) by omega]; exact IntWalk.i64_in _ (by omega)
      obtain ⟨gc, eA, -, hgc, hrng, hlen, -⟩ := flat_at HC.out i hil
      cases eA
      obtain ⟨hx0, hx1, hx2⟩ := HL.out l[i] (List.getElem_mem hil)
      have hsn : l.take (i + 1) = l.take i ++ [l[i]] := (List.take_append_getElem hil).symm
      obtain ⟨x, hx⟩ : ∃ x, l[i] = x := ⟨_, rfl⟩
      rw [hx] at hrng hlen hx0 hx1 hx2 hsn
      have HSN := Aside0.mk hsn
      have hne : gc ≠ gk := fun e => by
        obtain ⟨cells, hcc⟩ := Kd.R_own HC.out |>.elim fun inner ho => own_typed ho gc rfl
        exact Kd.R_ne HR.out hcc (by decide) (by rw [e]; rfl)
      have hrng2 : wr.rangeAt gc (i * 129) (stampC x) := fun j v hj => by
        have := hrng j v hj
        rw [← this]
        have hb := hO.out.block gc hgc (fun e => hne e)
        simp only [World.cell?, hb]
      obtain ⟨x1, bs⟩ := x
      obtain ⟨a, rfl⟩ : ∃ a : Nat, x1 = (a : Int) := ⟨x1.toNat, by simp only at hx0; omega⟩
      simp only at hx0 hx1 hx2
      have hab : a < kept.length := by omega
      have hset : (settleV kept (l.take i)).length = kept.length := settle_length _ _
      obtain ⟨gk', eA, -, hgk', -, -, hthere⟩ := flat_at hRi.out a (by omega)
      cases eA
      have hfin : settleV kept (l.take (i + 1)) = (settleV kept (l.take i)).set a bs := by
        rw [HSN.out, settle_snoc]
        rfl
      have hab2 : (a : Int) < (n : Int) := by have := HNL.out; omega
      have q0 := eq_true (show (0 : Int) ≤ (a : Int) by omega)
      have q1 := eq_true hab2
      obtain ⟨W9, hW9⟩ : ∃ W9, wr.alloc (.cells (stampC ((a : Int), bs)).toArray TCa) = W9 := ⟨_, rfl⟩
      have b9 : Below wr.heap.size wr W9 := by rw [← hW9]; exact (Below.refl _ _).alloc (Nat.le_refl _) _
      have hE9 : Blk W9 wr.heap.size TCa (stampC ((a : Int), bs)).toArray := by rw [← hW9]; exact Blk.new _ _ _
      have hset2 := flat_set (Kd.R_below hRi.out b9) a (by omega) bs (by simp [nums, hx2]) rfl
      rw [← hfin] at hset2
      obtain ⟨k0, k1⟩ := stamp_blk hE9
      have hth : W9.there gk (a * 128) 128 := fun j hj => by
        obtain ⟨y1, y2⟩ := hthere j hj
        have hb := b9.block gk hgk'
        exact ⟨by simp only [World.cell?, hb]; exact y1, by simp only [World.frozen?, hb]; exact y2⟩
      have hlen2 : (stampC ((a : Int), bs)).toArray.size = 129 := by simp [stampC, nums, hx2]
      have hone := stamp_one ((a : Int), bs)
      have hlen3 : (nums .u8 bs).length = 128 := by simp [nums, hx2]
      have hone2 := all_oneCell_toArray (nums_one .u8 bs)
      obtain ⟨S, hS⟩ : ∃ S, stampC ((a : Int), bs) = S := ⟨_, rfl⟩
      rw [hS] at hW9 hlen2 hone hrng2
      have HW9 := Aside0.mk hW9
      clear hW9 hset hfin hS
      go_wp2_with (first
        | (with_reducible refine wpList_load_mid rfl TCa (.tmp 10) rfl gc (i * 129) ?_ S _ hrng2 h83 rfl ?_ ?_; (focus simp [Act.eval, Act.put]); (focus (rw [infoCa]; simpa using hlen2.symm)))
        | (with_reducible refine wpList_alloc_agg rfl TCa _ rfl zeroCa ?_)
        | (with_reducible refine wpList_store_blk rfl TCa (.tmp 5) (.tmp 11) rfl wr.heap.size S.toArray ?_ ?_ infoCa hlen2 hone (Blk.newAt rfl) zCa_len ?_; (focus simp [Act.eval, Act.put]); (focus simp [Act.eval, Act.put]); rw [setRow_top rfl]; rw [HW9.out])
        | (with_reducible refine wpList_load_mid rfl TSe (.tmp 15) rfl wr.heap.size 1 ?_ (nums .u8 bs) _ k1 h81 rfl ?_ ?_; (focus simp [Act.eval, Act.put]); (focus (rw [infoSe, hlen3])))
        | (with_reducible refine wpList_store_mid rfl TSe (.tmp 17) (.tmp 16) rfl gk (a * 128) (nums .u8 bs).toArray ?_ ?_ ?_ ?_ hone2 ?_; (focus simp [Act.eval, Act.put]); (focus simp [Act.eval, Act.put]); (focus (simpa [hlen3] using hth)); (focus (rw [infoSe]; simp [hlen3]))))
      go_roundw
      case rel =>
        refine ⟨i + 1, by first | rfl | (rw [hw]) | go_num | simp [hw], ⟨by omega⟩, ⟨?_⟩, ⟨?_⟩⟩
        · exact hset2
        · exact (hO.out.step b9).setCells (.inl rfl) _ _
      case measure => simp [intOf, hw]; omega
    · have t1 : decide ((i : Int) < (m : Int)) = false := decide_eq_false (by omega)
      have e3 : i = m := by have := hin.out; omega
      have HF : Aside0 (kSe.R TSe wr 0 P (.slice (some ⟨gk, 0, none⟩) n ck) (settleV kept l)) := ⟨by
        have := hRi.out
        rw [List.take_of_length_le (by have := HML.out; omega)] at this
        exact this⟩
      clear e3
      go_wp2
      go_end0
      exact ⟨rfl, HF.out, hO.out⟩
end Go.Proofs.Ytddhngalokmdoaa.Spo
