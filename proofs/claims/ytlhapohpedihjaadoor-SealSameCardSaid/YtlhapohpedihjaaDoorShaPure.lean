/- SHA-256 twice: words as numbers, and words as lists of bits: the two come to the same. Plain Lean. -/
namespace Go.Proofs.YtlhapohpedihjaaDoor.Sha
set_option linter.unusedVariables false
set_option linter.unusedSimpArgs false

/-! ### bits -/
def ofN (n : Nat) : List Bool := (List.range 32).map fun i => n.testBit i
def numN : List Bool → Nat
  | [] => 0
  | b :: l => numN l * 2 + (if b then 1 else 0)
def bitAt (l : List Bool) (i : Nat) : Bool := l.getD i false
def turnF (l : List Bool) (k : Nat) : List Bool := (List.range 32).map fun i => bitAt l ((i + k) % 32)
def moveF (l : List Bool) (k : Nat) : List Bool := (List.range 32).map fun i => if i + k < 32 then bitAt l (i + k) else false
def oddF (a b c : List Bool) : List Bool := (List.range 32).map fun i => (bitAt a i != bitAt b i) != bitAt c i
def choiceF (a b c : List Bool) : List Bool := (List.range 32).map fun i => if bitAt a i then bitAt b i else bitAt c i
def mostF (a b c : List Bool) : List Bool := (List.range 32).map fun i => bitAt a i && bitAt b i || bitAt a i && bitAt c i || bitAt b i && bitAt c i

theorem bitAt_map (f : Nat → Bool) (i : Nat) (h : i < 32) : bitAt ((List.range 32).map f) i = f i := by
  unfold bitAt
  simp [List.getD, h]
theorem bitAt_map_ge (f : Nat → Bool) (i : Nat) (h : 32 ≤ i) : bitAt ((List.range 32).map f) i = false := by
  unfold bitAt
  simp [List.getD, List.getElem?_eq_none, h]
theorem bitAt_ofN (n i : Nat) (h : i < 32) : bitAt (ofN n) i = n.testBit i := bitAt_map _ i h

theorem numN_bit (l : List Bool) : ∀ i, (numN l).testBit i = bitAt l i := by
  induction l with
  | nil => intro i; simp [numN, bitAt]
  | cons b l ih =>
    intro i
    cases i with
    | zero =>
      simp only [numN, Nat.testBit_zero, bitAt, List.getD_cons_zero]
      cases b <;> simp <;> omega
    | succ i =>
      rw [Nat.testBit_succ]
      have : numN (b :: l) / 2 = numN l := by
        simp only [numN]
        cases b <;> simp <;> omega
      rw [this, ih i]
      simp [bitAt]
theorem numN_lt (l : List Bool) : numN l < 2 ^ l.length := by
  induction l with
  | nil => simp [numN]
  | cons b l ih =>
    simp only [numN, List.length_cons, Nat.pow_succ]
    cases b <;> simp <;> omega
theorem numN_map_lt (f : Nat → Bool) : numN ((List.range 32).map f) < 4294967296 := by
  have := numN_lt ((List.range 32).map f)
  simpa using this

/-- A number below 2^32 is what its 32 bits are. -/
theorem eq_numN (x : Nat) (f : Nat → Bool) (hx : x < 4294967296) (h : ∀ i, i < 32 → x.testBit i = f i) : x = numN ((List.range 32).map f) := by
  apply Nat.eq_of_testBit_eq
  intro i
  rw [numN_bit]
  by_cases hi : i < 32
  · rw [h i hi, bitAt_map f i hi]
  · rw [bitAt_map_ge f i (by omega)]
    exact Nat.testBit_lt_two_pow (Nat.lt_of_lt_of_le hx (by
      have : 2 ^ 32 ≤ 2 ^ i := Nat.pow_le_pow_right (by decide) (by omega)
      simpa using this))

/-! ### words as numbers -/
def rotN (x a : Nat) : Nat := (x <<< (32 - a)) % 4294967296 ||| x >>> a
theorem rotN_bit (x a i : Nat) (hx : x < 4294967296) (ha : 0 < a) (ha' : a < 32) (hi : i < 32) : (rotN x a).testBit i = x.testBit ((i + a) % 32) := by
  unfold rotN
  rw [show (4294967296 : Nat) = 2 ^ 32 from rfl, Nat.testBit_or, Nat.testBit_mod_two_pow, Nat.testBit_shiftLeft, Nat.testBit_shiftRight]
  by_cases h : i + a < 32
  · rw [Nat.mod_eq_of_lt h, Nat.add_comm a i]
    have : ¬ (32 - a ≤ i) := by omega
    simp [this]
  · have e : (i + a) % 32 = i + a - 32 := by omega
    have h2 : x.testBit (a + i) = false := Nat.testBit_lt_two_pow (Nat.lt_of_lt_of_le hx (by
      have : 2 ^ 32 ≤ 2 ^ (a + i) := Nat.pow_le_pow_right (by decide) (by omega)
      simpa using this))
    have h3 : 32 - a ≤ i := by omega
    have h4 : i - (32 - a) = i + a - 32 := by omega
    simp [e, h2, h3, hi, h4]
theorem rotN_lt (x a : Nat) (hx : x < 4294967296) : rotN x a < 4294967296 := by
  unfold rotN
  rw [show (4294967296 : Nat) = 2 ^ 32 from rfl]
  refine Nat.or_lt_two_pow (Nat.mod_lt _ (by decide)) ?_
  exact Nat.lt_of_le_of_lt (Nat.shiftRight_le x a) (by simpa using hx)

def mixN (x a b c : Nat) (move : Bool) : Nat := rotN x a ^^^ rotN x b ^^^ (if move then x >>> c else rotN x c)
theorem mixN_lt (x a b c : Nat) (move : Bool) (hx : x < 4294967296) : mixN x a b c move < 4294967296 := by
  unfold mixN
  rw [show (4294967296 : Nat) = 2 ^ 32 from rfl]
  refine Nat.xor_lt_two_pow (Nat.xor_lt_two_pow (rotN_lt x a hx) (rotN_lt x b hx)) ?_
  cases move
  · exact rotN_lt x c hx
  · exact Nat.lt_of_le_of_lt (Nat.shiftRight_le x c) (by simpa using hx)
theorem mixN_move (x a b c : Nat) (hx : x < 4294967296) (ha : 0 < a) (ha' : a < 32) (hb : 0 < b) (hb' : b < 32) :
    numN (oddF (turnF (ofN x) a) (turnF (ofN x) b) (moveF (ofN x) c)) = mixN x a b c true := by
  refine (eq_numN _ _ (mixN_lt x a b c true hx) fun i hi => ?_).symm
  have h1 : ∀ f : Nat → Bool, bitAt ((List.range 32).map f) i = f i := fun f => bitAt_map f i hi
  unfold mixN turnF moveF
  rw [Nat.testBit_xor, Nat.testBit_xor, rotN_bit x a i hx ha ha' hi, rotN_bit x b i hx hb hb' hi, h1, h1, h1, bitAt_ofN _ _ (by omega), bitAt_ofN _ _ (by omega)]
  simp only [if_true, Nat.testBit_shiftRight]
  by_cases h : i + c < 32
  · rw [if_pos h, bitAt_ofN _ _ h, Nat.add_comm c i]
  · rw [if_neg h]
    have h2 : x.testBit (c + i) = false := Nat.testBit_lt_two_pow (Nat.lt_of_lt_of_le hx (by
      have : 2 ^ 32 ≤ 2 ^ (c + i) := Nat.pow_le_pow_right (by decide) (by omega)
      simpa using this))
    rw [h2]
theorem mixN_turn (x a b c : Nat) (hx : x < 4294967296) (ha : 0 < a) (ha' : a < 32) (hb : 0 < b) (hb' : b < 32) (hc : 0 < c) (hc' : c < 32) :
    numN (oddF (turnF (ofN x) a) (turnF (ofN x) b) (turnF (ofN x) c)) = mixN x a b c false := by
  refine (eq_numN _ _ (mixN_lt x a b c false hx) fun i hi => ?_).symm
  have h1 : ∀ f : Nat → Bool, bitAt ((List.range 32).map f) i = f i := fun f => bitAt_map f i hi
  unfold mixN turnF
  rw [Nat.testBit_xor, Nat.testBit_xor, rotN_bit x a i hx ha ha' hi, rotN_bit x b i hx hb hb' hi]
  simp only [Bool.false_eq_true, if_false]
  rw [rotN_bit x c i hx hc hc' hi, h1, h1, h1, bitAt_ofN _ _ (by omega), bitAt_ofN _ _ (by omega), bitAt_ofN _ _ (by omega)]

def choiceN (e f g : Nat) : Nat := (e &&& f) ^^^ ((4294967295 - e) &&& g)
def mostN (a b c : Nat) : Nat := (a &&& b) ^^^ (a &&& c) ^^^ (b &&& c)
theorem not_bit (e i : Nat) (he : e < 4294967296) (hi : i < 32) : (4294967295 - e).testBit i = !e.testBit i := by
  have h := Nat.testBit_two_pow_sub_succ (x := e) (n := 32) (by simpa using he) i
  rw [show (4294967295 - e) = 2 ^ 32 - (e + 1) by omega, h]
  simp [hi]
theorem choiceN_lt (e f g : Nat) (hf : f < 4294967296) (hg : g < 4294967296) : choiceN e f g < 4294967296 := by
  unfold choiceN
  rw [show (4294967296 : Nat) = 2 ^ 32 from rfl]
  exact Nat.xor_lt_two_pow (Nat.lt_of_le_of_lt Nat.and_le_right (by simpa using hf)) (Nat.lt_of_le_of_lt Nat.and_le_right (by simpa using hg))
theorem mostN_lt (a b c : Nat) (hb : b < 4294967296) (hc : c < 4294967296) : mostN a b c < 4294967296 := by
  unfold mostN
  rw [show (4294967296 : Nat) = 2 ^ 32 from rfl]
  exact Nat.xor_lt_two_pow (Nat.xor_lt_two_pow (Nat.lt_of_le_of_lt Nat.and_le_right (by simpa using hb)) (Nat.lt_of_le_of_lt Nat.and_le_right (by simpa using hc))) (Nat.lt_of_le_of_lt Nat.and_le_right (by simpa using hc))
theorem choiceN_eq (e f g : Nat) (he : e < 4294967296) (hf : f < 4294967296) (hg : g < 4294967296) : numN (choiceF (ofN e) (ofN f) (ofN g)) = choiceN e f g := by
  refine (eq_numN _ _ (choiceN_lt e f g hf hg) fun i hi => ?_).symm
  unfold choiceN
  rw [Nat.testBit_xor, Nat.testBit_and, Nat.testBit_and, not_bit e i he hi, bitAt_ofN _ _ hi, bitAt_ofN _ _ hi, bitAt_ofN _ _ hi]
  cases e.testBit i <;> simp
theorem mostN_eq (a b c : Nat) (ha : a < 4294967296) (hb : b < 4294967296) (hc : c < 4294967296) : numN (mostF (ofN a) (ofN b) (ofN c)) = mostN a b c := by
  refine (eq_numN _ _ (mostN_lt a b c hb hc) fun i hi => ?_).symm
  unfold mostN
  rw [Nat.testBit_xor, Nat.testBit_xor, Nat.testBit_and, Nat.testBit_and, Nat.testBit_and, bitAt_ofN _ _ hi, bitAt_ofN _ _ hi, bitAt_ofN _ _ hi]
  cases a.testBit i <;> cases b.testBit i <;> cases c.testBit i <;> rfl

/-! ### the words of a block, the rounds -/
def beN (b : Nat → Nat) (i : Nat) : Nat := ((b (4 * i) * 256 + b (4 * i + 1)) * 256 + b (4 * i + 2)) * 256 + b (4 * i + 3)
/-- The first k bytes of a word. -/
def beP (b : Nat → Nat) (i : Nat) : Nat → Nat
  | 0 => 0
  | k + 1 => beP b i k * 256 + b (4 * i + k)
theorem beP_four (b : Nat → Nat) (i : Nat) : beP b i 4 = beN b i := by simp [beP, beN]
theorem beP_lt (b : Nat → Nat) (hb : ∀ j, b j < 256) (i k : Nat) (hk : k < 4) : beP b i k < 16777216 := by
  have h0 := hb (4 * i); have h1 := hb (4 * i + 1); have h2 := hb (4 * i + 2)
  match k, hk with
  | 0, _ => simp [beP]
  | 1, _ => simp only [beP, Nat.add_zero]; omega
  | 2, _ => simp only [beP, Nat.add_zero]; omega
  | 3, _ => simp only [beP, Nat.add_zero]; omega
/-- Word i of a block. -/
def W (b : Nat → Nat) (i : Nat) : Nat :=
  if i < 16 then beN b i else (W b (i - 16) + mixN (W b (i - 15)) 7 18 3 true + W b (i - 7) + mixN (W b (i - 2)) 17 19 10 true) % 4294967296
termination_by i
decreasing_by all_goals omega
theorem W_small (b : Nat → Nat) (i : Nat) (h : i < 16) : W b i = beN b i := by rw [W, if_pos h]
theorem W_great (b : Nat → Nat) (i : Nat) (h : 16 ≤ i) : W b i = (W b (i - 16) + mixN (W b (i - 15)) 7 18 3 true + W b (i - 7) + mixN (W b (i - 2)) 17 19 10 true) % 4294967296 := by rw [W, if_neg (by omega)]
theorem beN_lt (b : Nat → Nat) (hb : ∀ j, b j < 256) (i : Nat) : beN b i < 4294967296 := by
  unfold beN
  have h0 := hb (4 * i); have h1 := hb (4 * i + 1); have h2 := hb (4 * i + 2); have h3 := hb (4 * i + 3)
  omega
theorem W_lt (b : Nat → Nat) (hb : ∀ j, b j < 256) (i : Nat) : W b i < 4294967296 := by
  by_cases h : i < 16
  · rw [W_small b i h]; exact beN_lt b hb i
  · rw [W_great b i (by omega)]; omega

structure S8 where
  (a b c d e f g h : Nat)
def S8.list (s : S8) : List Int := [s.a, s.b, s.c, s.d, s.e, s.f, s.g, s.h]
def S8.ok (s : S8) : Prop := s.a < 4294967296 ∧ s.b < 4294967296 ∧ s.c < 4294967296 ∧ s.d < 4294967296 ∧ s.e < 4294967296 ∧ s.f < 4294967296 ∧ s.g < 4294967296 ∧ s.h < 4294967296
def oneN (s : S8) (k w : Nat) : Nat := (s.h + mixN s.e 6 11 25 false + choiceN s.e s.f s.g + k + w) % 4294967296
def twoN (s : S8) : Nat := (mixN s.a 2 13 22 false + mostN s.a s.b s.c) % 4294967296
def stepN (s : S8) (k w : Nat) : S8 := ⟨(oneN s k w + twoN s) % 4294967296, s.a, s.b, s.c, (s.d + oneN s k w) % 4294967296, s.e, s.f, s.g⟩
theorem stepN_ok (s : S8) (k w : Nat) (h : s.ok) : (stepN s k w).ok := by
  obtain ⟨h1, h2, h3, h4, h5, h6, h7, h8⟩ := h
  exact ⟨Nat.mod_lt _ (by decide), h1, h2, h3, Nat.mod_lt _ (by decide), h5, h6, h7⟩

def keysL : List Nat := [1116352408, 1899447441, 3049323471, 3921009573, 961987163, 1508970993, 2453635748, 2870763221, 3624381080, 310598401, 607225278, 1426881987, 1925078388, 2162078206, 2614888103, 3248222580, 3835390401, 4022224774, 264347078, 604807628, 770255983, 1249150122, 1555081692, 1996064986, 2554220882, 2821834349, 2952996808, 3210313671, 3336571891, 3584528711, 113926993, 338241895, 666307205, 773529912, 1294757372, 1396182291, 1695183700, 1986661051, 2177026350, 2456956037, 2730485921, 2820302411, 3259730800, 3345764771, 3516065817, 3600352804, 4094571909, 275423344, 430227734, 506948616, 659060556, 883997877, 958139571, 1322822218, 1537002063, 1747873779, 1955562222, 2024104815, 2227730452, 2361852424, 2428436474, 2756734187, 3204031479, 3329325298]
def keyN (i : Nat) : Nat := keysL.getD i 0
theorem keysL_length : keysL.length = 64 := rfl
theorem keyN_lt (i : Nat) : keyN i < 4294967296 := by
  by_cases h : i < 64
  · have : ∀ j, j < 64 → keyN j < 4294967296 := by decide
    exact this i h
  · have : keyN i = 0 := by
      unfold keyN
      simp [List.getD, List.getElem?_eq_none (show keysL.length ≤ i by rw [keysL_length]; omega)]
    omega
/-- Behind i rounds. -/
def roundsN (b : Nat → Nat) (s : S8) : Nat → S8
  | 0 => s
  | i + 1 => stepN (roundsN b s i) (keyN i) (W b i)
theorem roundsN_ok (b : Nat → Nat) (s : S8) (h : s.ok) : ∀ i, (roundsN b s i).ok
  | 0 => h
  | i + 1 => stepN_ok _ _ _ (roundsN_ok b s h i)
def addN (s x : S8) : S8 := ⟨(s.a + x.a) % 4294967296, (s.b + x.b) % 4294967296, (s.c + x.c) % 4294967296, (s.d + x.d) % 4294967296, (s.e + x.e) % 4294967296, (s.f + x.f) % 4294967296, (s.g + x.g) % 4294967296, (s.h + x.h) % 4294967296⟩
theorem addN_ok (s x : S8) : (addN s x).ok := ⟨Nat.mod_lt _ (by decide), Nat.mod_lt _ (by decide), Nat.mod_lt _ (by decide), Nat.mod_lt _ (by decide), Nat.mod_lt _ (by decide), Nat.mod_lt _ (by decide), Nat.mod_lt _ (by decide), Nat.mod_lt _ (by decide)⟩
/-- A block is taken in. -/
def takeN (s : S8) (b : Nat → Nat) : S8 := addN s (roundsN b s 64)
theorem takeN_ok (s : S8) (b : Nat → Nat) : (takeN s b).ok := addN_ok _ _

/-- The sum of a later word, as the reference makes it. -/
theorem W_sum (b : Nat → Nat) (hb : ∀ j, b j < 256) (j : Nat) (p q x y : Nat) (hp : W b (j + 1) = p) (hq : W b (j + 14) = q) (hx : W b j = x) (hy : W b (j + 9) = y) (n1 n2 : Nat)
    (h1 : n1 = numN (oddF (turnF (ofN p) 7) (turnF (ofN p) 18) (moveF (ofN p) 3))) (h2 : n2 = numN (oddF (turnF (ofN q) 17) (turnF (ofN q) 19) (moveF (ofN q) 10))) :
    ((x : Int) + n1 + y + n2) % 4294967296 = (W b (j + 16) : Int) := by
  have lp : p < 4294967296 := hp ▸ W_lt b hb _
  have lq : q < 4294967296 := hq ▸ W_lt b hb _
  rw [mixN_move p 7 18 3 lp (by decide) (by decide) (by decide) (by decide)] at h1
  rw [mixN_move q 17 19 10 lq (by decide) (by decide) (by decide) (by decide)] at h2
  rw [W_great b (j + 16) (by omega), show j + 16 - 16 = j by omega, show j + 16 - 15 = j + 1 by omega, show j + 16 - 7 = j + 9 by omega, show j + 16 - 2 = j + 14 by omega, hp, hq, hx, hy, ← h1, ← h2]
  omega

/-! ### a round's sums, as both make them -/
theorem one_sum (a b c d e f g h k w n1 n2 : Nat) (he : e < 4294967296) (hf : f < 4294967296) (hg : g < 4294967296)
    (h1 : n1 = numN (oddF (turnF (ofN e) 6) (turnF (ofN e) 11) (turnF (ofN e) 25))) (h2 : n2 = numN (choiceF (ofN e) (ofN f) (ofN g))) :
    ((h : Int) + n1 + n2 + k + w) % 4294967296 = (oneN ⟨a, b, c, d, e, f, g, h⟩ k w : Int) := by
  rw [mixN_turn e 6 11 25 he (by decide) (by decide) (by decide) (by decide) (by decide) (by decide)] at h1
  rw [choiceN_eq e f g he hf hg] at h2
  unfold oneN
  simp only [← h1, ← h2]
  omega
theorem two_sum (a b c d e f g h n1 n2 : Nat) (ha : a < 4294967296) (hb : b < 4294967296) (hc : c < 4294967296)
    (h1 : n1 = numN (oddF (turnF (ofN a) 2) (turnF (ofN a) 13) (turnF (ofN a) 22))) (h2 : n2 = numN (mostF (ofN a) (ofN b) (ofN c))) :
    ((n1 : Int) + n2) % 4294967296 = (twoN ⟨a, b, c, d, e, f, g, h⟩ : Int) := by
  rw [mixN_turn a 2 13 22 ha (by decide) (by decide) (by decide) (by decide) (by decide) (by decide)] at h1
  rw [mostN_eq a b c ha hb hc] at h2
  unfold twoN
  simp only [← h1, ← h2]
  omega
theorem oneN_lt (s : S8) (k w : Nat) : oneN s k w < 4294967296 := Nat.mod_lt _ (by decide)
theorem twoN_lt (s : S8) : twoN s < 4294967296 := Nat.mod_lt _ (by decide)
theorem add_at (s x : S8) (i : Nat) (hi : i < 8) : (s.list.getD i 0 + x.list.getD i 0) % 4294967296 = (addN s x).list.getD i 0 := by
  match i, hi with
  | 0, _ => simp [S8.list, addN]
  | 1, _ => simp [S8.list, addN]
  | 2, _ => simp [S8.list, addN]
  | 3, _ => simp [S8.list, addN]
  | 4, _ => simp [S8.list, addN]
  | 5, _ => simp [S8.list, addN]
  | 6, _ => simp [S8.list, addN]
  | 7, _ => simp [S8.list, addN]
theorem list_range (s : S8) : (List.range 8).map (fun i => s.list.getD i 0) = s.list := by
  simp [S8.list, List.range_succ]
theorem list_lt (s : S8) (h : s.ok) (i : Nat) : 0 ≤ s.list.getD i 0 ∧ s.list.getD i 0 < 4294967296 := by
  obtain ⟨h1, h2, h3, h4, h5, h6, h7, h8⟩ := h
  match i with
  | 0 => simp [S8.list]; omega
  | 1 => simp [S8.list]; omega
  | 2 => simp [S8.list]; omega
  | 3 => simp [S8.list]; omega
  | 4 => simp [S8.list]; omega
  | 5 => simp [S8.list]; omega
  | 6 => simp [S8.list]; omega
  | 7 => simp [S8.list]; omega
  | i + 8 => simp [S8.list]
end Go.Proofs.YtlhapohpedihjaaDoor.Sha
