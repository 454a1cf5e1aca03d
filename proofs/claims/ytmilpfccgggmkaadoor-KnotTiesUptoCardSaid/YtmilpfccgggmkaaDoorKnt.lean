/- What was tied: the program's Knot. -/
import Derived.Test.YtmilpfccgggmkaaDoorItoa
namespace Go.Proofs.YtmilpfccgggmkaaDoor.Knt
open Go.RowKit Go.Proofs.YtmilpfccgggmkaaDoorW.PrintWords Go.Proofs.YtmilpfccgggmkaaDoor.Arr
set_option linter.unusedVariables false
set_option linter.unusedSimpArgs false

abbrev TK : TypeId := 62
/-- A Knot at block g that holds l; S: its blocks. -/
def KAt (B : Nat) (w : World) (g : Nat) (l : List UInt8) (S : List Nat) : Prop := ∃ v, Blk w g TK #[v] ∧ Own B w v l ∧ S = g :: rowB v ∧ B ≤ g
def KPut (B : Nat) (S : List Nat) (w w' : World) (g : Nat) (l' : List UInt8) : Prop := ∃ S', KAt B w' g l' S' ∧ Only S w w' ∧ ∀ k, k ∈ S' → k ∈ S ∨ w.heap.size ≤ k
theorem KAt.base {B : Nat} {w : World} {g : Nat} {l : List UInt8} {S : List Nat} (h : KAt B w g l S) : ∀ k, k ∈ S → B ≤ k ∧ k < w.heap.size := by
  obtain ⟨v, hb, ho, rfl, hB⟩ := h
  intro k hk
  rcases List.mem_cons.1 hk with rfl | hk
  · exact ⟨hB, hb.lt⟩
  · exact ho.lt k hk
theorem KAt.only {B : Nat} {w w1 : World} {g : Nat} {l : List UInt8} {S S1 : List Nat} (h : KAt B w g l S) (ho : Only S1 w w1) (hn : ∀ k, k ∈ S → k ∉ S1) : KAt B w1 g l S := by
  obtain ⟨v, hb, how, rfl, hB⟩ := h
  exact ⟨v, hb.only ho (hn g (by simp)), how.only ho (fun k hk => hn k (by simp [hk])), rfl, hB⟩
theorem KAt.below {B : Nat} {w w1 : World} {g : Nat} {l : List UInt8} {S : List Nat} (h : KAt B w g l S) (hb : Below w.heap.size w w1) : KAt B w1 g l S := h.only (Only.of_below hb []) (fun _ _ hh => by cases hh)
theorem KPut.refl {B : Nat} {w : World} {g : Nat} {l : List UInt8} {S : List Nat} (h : KAt B w g l S) : KPut B S w w g l := ⟨S, h, Only.refl _ _, fun k hk => .inl hk⟩
theorem KPut.trans {B : Nat} {S : List Nat} {w w1 w2 : World} {g : Nat} {l1 l2 : List UInt8} (h : KPut B S w w1 g l1) (h' : ∀ S1, KAt B w1 g l1 S1 → KPut B S1 w1 w2 g l2) : KPut B S w w2 g l2 := by
  obtain ⟨S1, hk1, ho1, hs1⟩ := h
  obtain ⟨S2, hk2, ho2, hs2⟩ := h' S1 hk1
  exact ⟨S2, hk2, ho1.trans ho2 hs1, fun k hk => by
    rcases hs2 k hk with h | h
    · exact hs1 k h
    · exact .inr (Nat.le_trans ho1.size h)⟩
/-- Laid open, with blocks T that are none of its. -/
theorem KPut.take {B : Nat} {S : List Nat} {w w1 : World} {g : Nat} {l1 : List UInt8} (h : KPut B S w w1 g l1) (T : List Nat) (hT : ∀ i, i ∈ T → i < w.heap.size ∧ i ∉ S) : ∃ S1, KAt B w1 g l1 S1 ∧ Only S w w1 ∧ (∀ k, k ∈ S1 → k ∈ S ∨ w.heap.size ≤ k) ∧ ∀ i, i ∈ T → i < w1.heap.size ∧ i ∉ S1 := by
  obtain ⟨S1, hk1, ho1, hs1⟩ := h
  exact ⟨S1, hk1, ho1, hs1, fun i hi => ⟨Nat.lt_of_lt_of_le (hT i hi).1 ho1.size, fun hm => by
    rcases hs1 i hm with h | h
    · exact (hT i hi).2 h
    · have := (hT i hi).1; omega⟩⟩
/-- Laid open beside another Knot. -/
theorem KPut.beside {B : Nat} {S S2 : List Nat} {w w1 : World} {g g2 : Nat} {l1 l2 : List UInt8} (h : KPut B S w w1 g l1) (hb : KAt B w g2 l2 S2) (hd : ∀ i, i ∈ S2 → i ∉ S) :
    ∃ S1, KAt B w1 g l1 S1 ∧ KAt B w1 g2 l2 S2 ∧ Only S w w1 ∧ (∀ i, i ∈ S2 → i ∉ S1) ∧ ∀ i, i ∈ S1 → i ∉ S2 := by
  obtain ⟨S1, hk1, ho1, -, ht⟩ := h.take S2 (fun i hi => ⟨(hb.base i hi).2, hd i hi⟩)
  exact ⟨S1, hk1, hb.only ho1 hd, ho1, fun i hi => (ht i hi).2, fun i hi hm => (ht i hm).2 hi⟩
theorem PowB.up {B B' : Nat} {w : World} (h : Lib.TabBelow Tryd.prog B w "internal/strconv.uint64pow10" .u64 Lib.pow10Tab) (hB : B ≤ B') : Lib.TabBelow Tryd.prog B' w "internal/strconv.uint64pow10" .u64 Lib.pow10Tab := fun w' hb => h w' (hb.mono hB)
theorem KPut.step {B : Nat} {S : List Nat} {w w1 w2 : World} {g : Nat} {l : List UInt8} (h : KPut B S w w1 g l) (hb : Below w1.heap.size w1 w2) : KPut B S w w2 g l := by
  obtain ⟨S1, hk1, ho1, hs1⟩ := h
  exact ⟨S1, hk1.below hb, ho1.step hb, hs1⟩
/-- The store of a row that was put behind v's. -/
theorem kput_of_put {B : Nat} {w w1 : World} {g : Nat} {l l' : List UInt8} {v v' : Value} (hb : Blk w g TK #[v]) (ho : Own B w v l) (hB : B ≤ g) (hp : Put B v w v' w1 l') : KPut B (g :: rowB v) w (w1.setCell ⟨g, 0, none⟩ v') g l' := by
  have hne := ho.ne hb (by decide)
  have hb1 : Blk w1 g TK #[v] := hb.only hp.2.1 hne
  have hne1 : g ∉ rowB v' := fun hm => by
    rcases hp.2.2 g hm with h | h
    · exact hne h
    · have := hb.lt; omega
  have ho1 : Only [g] w1 (w1.setCell ⟨g, 0, none⟩ v') := (Only.refl _ _).setCell (.inl (by simp)) _
  refine ⟨g :: rowB v', ⟨v', hb1.set 0 v', hp.1.only ho1 (fun k hk hm => hne1 (by rw [List.mem_singleton.1 hm] at hk; exact hk)), rfl, hB⟩, ?_, fun k hk => ?_⟩
  · exact (hp.2.1.mono (S' := g :: rowB v) (fun k hk => .inl (by simp [hk]))).trans ho1 (fun k hk => .inl (by rw [List.mem_singleton.1 hk]; simp))
  · rcases List.mem_cons.1 hk with rfl | hk
    · exact .inl (by simp)
    · rcases hp.2.2 k hk with h | h
      · exact .inl (by simp [h])
      · exact .inr h
/-- The powers of ten stand, whatever is written from B on. -/
abbrev PowB (B : Nat) (w : World) : Prop := Lib.TabBelow Tryd.prog B w "internal/strconv.uint64pow10" .u64 Lib.pow10Tab
theorem PowB.on {B : Nat} {w w1 : World} (h : PowB B w) (hb : Below B w w1) : PowB B w1 := Lib.TabBelow.on h hb
theorem KAt.belowB {B : Nat} {w w1 : World} {g : Nat} {l : List UInt8} {S : List Nat} (h : KAt B w g l S) (ho : Only S w w1) : Below B w w1 :=
  ho.below (by obtain ⟨v, hb, _, _, hB⟩ := h; have := hb.lt; omega) (fun k hk => (h.base k hk).1)
theorem KPut.belowB {B : Nat} {w w1 : World} {g : Nat} {l l' : List UInt8} {S : List Nat} (h : KAt B w g l S) (hp : KPut B S w w1 g l') : Below B w w1 := by
  obtain ⟨_, _, ho, _⟩ := hp
  exact h.belowB ho
theorem KAt.size {B : Nat} {w : World} {g : Nat} {l : List UInt8} {S : List Nat} (h : KAt B w g l S) : B ≤ w.heap.size := by
  obtain ⟨v, hb, _, _, hB⟩ := h
  have := hb.lt
  omega

set_option maxHeartbeats 2000000 in
theorem new_calls (w : World) : Calls Tryd.prog 9 #[] w fun e w' => e = .returned (.pointer (some ⟨w.heap.size, 0, none⟩)) ∧ w' = w.alloc (.cells #[.slice none 0 0] TK) := by
  go_enter Tryd.func9, Tryd.ntmps9
  go_wp2
  go_ret
  exact ⟨rfl, rfl⟩
theorem kat_new (B : Nat) (w : World) (hB : B ≤ w.heap.size) : KAt B (w.alloc (.cells #[.slice none 0 0] TK)) w.heap.size [] [w.heap.size] := ⟨_, Blk.new w TK _, Own.nil _ _, rfl, hB⟩

/-- A number's bytes. -/
def numT (n : Nat) : List UInt8 := Lib.decDigits n ++ [59]
theorem dig_len (n : Nat) (hn : n < 18446744073709551616) : (Lib.decDigits n).length ≤ 20 := by
  rw [Lib.decDigits_length]
  by_cases h : n = 0
  · subst h; rw [Lib.nDigits_small (by omega)]; omega
  · have := Lib.numDigits_eq n (by omega) hn
    split at this <;> omega
theorem numT_len (n : Nat) (hn : n < 18446744073709551616) : (numT n).length ≤ 21 := by
  unfold numT
  have := dig_len n hn
  simp
  omega
set_option maxHeartbeats 4000000 in
set_option maxRecDepth 100000 in
theorem number_calls (B : Nat) (g : Nat) (l : List UInt8) (S : List Nat) (n : Nat) (hn : n ≤ 9007199254740992) (hl : l.length + 30 ≤ 140737488355328) (w : World) (hk : KAt B w g l S) (hP : PowB B w) :
    Calls Tryd.prog 12 #[.pointer (some ⟨g, 0, none⟩), .int .i64 (n : Int)] w fun e w' => e = .returned (.int .i64 0) ∧ KPut B S w w' g (l ++ numT n) := by
  have hBw := hk.size
  obtain ⟨v, hb, ho, rfl, hB⟩ := hk
  have t1 : decide ((n : Int) < 0) = false := decide_eq_false (by omega)
  have t2 : decide ((n : Int) > 9007199254740992) = false := decide_eq_false (by omega)
  have KA := Aside0.mk (api_calls B n (by omega) v l w ho hBw (by omega) hP.here)
  have hdl := dig_len n (by omega)
  have c0 := hb.cell 0
  have hlt := hb.lt
  have HBk := Aside0.mk hb
  have HO := Aside0.mk ho
  clear hb ho hP
  go_enter Tryd.func12, Tryd.ntmps12
  go_wp2_with fail
  refine KA.out.mono ?_
  rintro e w1 ⟨v1, rfl, hp1⟩
  have HP1 := Aside0.mk hp1
  have hs1 := hp1.2.1.size
  clear KA c0 hp1
  go_wp2_with (at_builtin; refine wp_put_byte B rfl _ _ rfl v1 (l ++ Lib.decDigits n) 59 59 rfl rfl rfl HP1.out.1 (by rw [List.length_append]; omega) (by omega) ?_)
  intro v2 w2 hp2
  have hp := HP1.out.trans hp2
  have hb2 := HBk.out.only hp.2.1 (HO.out.ne HBk.out (by decide))
  have c2 := hb2.cell 0
  have f2 := hb2.frozen 0
  have hlt2 := hb2.lt
  have HP := Aside0.mk hp
  obtain ⟨A2, n2, k2, rfl⟩ := hp2.1.some
  clear hp2 hp hb2 HP1
  go_wp2
  go_ret
  refine ⟨rfl, ?_⟩
  have := kput_of_put HBk.out HO.out hB HP.out
  exact this
theorem number_bad (g : Nat) (n : Int) (hn : n < 0 ∨ 9007199254740992 < n) (w : World) :
    Calls Tryd.prog 12 #[.pointer (some ⟨g, 0, none⟩), .int .i64 n] w fun e w' => e = .returned (.int .i64 1) ∧ w' = w := by
  by_cases h : n < 0
  · have t1 : decide (n < 0) = true := decide_eq_true h
    clear hn h
    go_enter Tryd.func12, Tryd.ntmps12
    go_wp2
    go_ret
    exact ⟨rfl, rfl⟩
  · have t1 : decide (n < 0) = false := decide_eq_false h
    have t2 : decide (n > 9007199254740992) = true := decide_eq_true (by omega)
    clear hn h
    go_enter Tryd.func12, Tryd.ntmps12
    go_wp2
    go_ret
    exact ⟨rfl, rfl⟩
/-- A text's bytes. -/
def textT (s : ByteArray) : List UInt8 := numT s.size ++ s.data.toList ++ [44]
theorem size_list (s : ByteArray) : s.data.toList.length = s.size := by rw [Array.length_toList]; rfl
theorem textT_len (s : ByteArray) (hn : s.size < 18446744073709551616) : (textT s).length ≤ s.size + 22 := by
  unfold textT
  have := numT_len s.size hn
  rw [List.length_append, List.length_append, size_list]
  simp
  omega
set_option maxHeartbeats 4000000 in
set_option maxRecDepth 100000 in
theorem text_calls (B : Nat) (g : Nat) (l : List UInt8) (S : List Nat) (s : ByteArray) (hs : s.size ≤ 9007199254740992) (hl : l.length + s.size + 60 ≤ 140737488355328) (w : World) (hk : KAt B w g l S) (hP : PowB B w) :
    Calls Tryd.prog 10 #[.pointer (some ⟨g, 0, none⟩), .string s] w fun e w' => e = .returned (.tuple #[]) ∧ KPut B S w w' g (l ++ textT s) := by
  have hBw := hk.size
  have KN := Aside0.mk (number_calls B g l S s.size hs (by omega) w hk hP)
  have hnl := numT_len s.size (by omega)
  clear hk hP
  go_enter Tryd.func10, Tryd.ntmps10
  go_wp2_with fail
  refine KN.out.mono ?_
  rintro e w1 ⟨rfl, hp1⟩
  obtain ⟨S1, hk1, ho1, hs1⟩ := hp1
  obtain ⟨v, hb, ho, rfl, hB⟩ := hk1
  have hz1 := ho1.size
  have c0 := hb.cell 0
  have hlt := hb.lt
  have HBk := Aside0.mk hb
  have HO := Aside0.mk ho
  have HO1 := Aside0.mk ho1
  have HS1 := Aside0.mk hs1
  clear hb ho ho1 hs1 KN
  go_wp2_with (at_builtin; refine wp_put_str B rfl _ _ 9 Tryd.underlying9 rfl v (l ++ numT s.size) rfl HO.out s rfl (by rw [List.length_append]; omega) (by omega) ?_)
  intro v1 w2 hp2
  have HP2 := Aside0.mk hp2
  have hz2 := hp2.2.1.size
  have hsl : (s.data.toList).length = s.size := size_list s
  have HSL := Aside0.mk hsl
  clear hp2 c0 hsl
  go_wp2_with (at_builtin; refine wp_put_byte B rfl _ _ rfl v1 (l ++ (numT s.size ++ s.data.toList)) 44 44 rfl rfl rfl HP2.out.1 (by rw [List.length_append, List.length_append, HSL.out]; omega) (by omega) ?_)
  intro v2 w3 hp3
  have hp := HP2.out.trans hp3
  have hb2 := HBk.out.only hp.2.1 (HO.out.ne HBk.out (by decide))
  have c2 := hb2.cell 0
  have f2 := hb2.frozen 0
  have hlt2 := hb2.lt
  have HP := Aside0.mk hp
  obtain ⟨A2, n2, k2, rfl⟩ := hp3.1.some
  clear hp3 hp hb2 HP2
  go_wp2
  go_end0
  have hkp := kput_of_put HBk.out HO.out hB HP.out
  have e1 : l ++ (numT s.size ++ (s.data.toList ++ [44])) = l ++ textT s := by simp [textT]
  rw [e1] at hkp
  obtain ⟨S2, q1, q2, q3⟩ := hkp
  refine ⟨rfl, S2, q1, HO1.out.trans q2 HS1.out, fun k hk => ?_⟩
  rcases q3 k hk with h | h
  · exact HS1.out k h
  · exact .inr (by omega)

def markT (b : Bool) : List UInt8 := [if b = true then 43 else 45]
set_option maxHeartbeats 4000000 in
set_option maxRecDepth 100000 in
theorem mark_calls (B : Nat) (g : Nat) (l : List UInt8) (S : List Nat) (b : Bool) (hl : l.length + 2 ≤ 140737488355328) (w : World) (hk : KAt B w g l S) :
    Calls Tryd.prog 14 #[.pointer (some ⟨g, 0, none⟩), .bool b] w fun e w' => e = .returned (.tuple #[]) ∧ KPut B S w w' g (l ++ markT b) := by
  have hBw := hk.size
  obtain ⟨v, hb, ho, rfl, hB⟩ := hk
  have c0 := hb.cell 0
  have hlt := hb.lt
  have HBk := Aside0.mk hb
  have HO := Aside0.mk ho
  clear hb ho
  cases b with
  | true =>
    go_enter Tryd.func14, Tryd.ntmps14
    go_wp2_with (at_builtin; refine wp_put_byte B rfl _ _ rfl v l 43 43 rfl rfl rfl HO.out (by omega) (by omega) ?_)
    intro v2 w3 hp
    have hb2 := HBk.out.only hp.2.1 (HO.out.ne HBk.out (by decide))
    have c2 := hb2.cell 0
    have f2 := hb2.frozen 0
    have hlt2 := hb2.lt
    have HP := Aside0.mk hp
    obtain ⟨A2, n2, k2, rfl⟩ := hp.1.some
    clear hp hb2 c0
    go_wp2
    refine bodyPost_ret (results_none rfl _ _ _) rfl ?_
    exact ⟨rfl, kput_of_put HBk.out HO.out hB HP.out⟩
  | false =>
    go_enter Tryd.func14, Tryd.ntmps14
    go_wp2_with (at_builtin; refine wp_put_byte B rfl _ _ rfl v l 45 45 rfl rfl rfl HO.out (by omega) (by omega) ?_)
    intro v2 w3 hp
    have hb2 := HBk.out.only hp.2.1 (HO.out.ne HBk.out (by decide))
    have c2 := hb2.cell 0
    have f2 := hb2.frozen 0
    have hlt2 := hb2.lt
    have HP := Aside0.mk hp
    obtain ⟨A2, n2, k2, rfl⟩ := hp.1.some
    clear hp hb2 c0
    go_wp2
    go_end0
    exact ⟨rfl, kput_of_put HBk.out HO.out hB HP.out⟩

theorem Own.reads {B : Nat} {w : World} {v : Value} {l : List UInt8} (h : Own B w v l) : ∃ A c, v = .slice A l.length c ∧ ReadsInt w .u8 A l.length (l.map fun b => (b.toNat : Int)) := by
  have e0 : nums .u8 (l.map fun b => (b.toNat : Int)) = Lib.byteCells l := by simp [nums, Lib.byteCells]
  have h' : w.ownsRow B TU 1 v l.length (nums .u8 (l.map fun b => (b.toNat : Int))) := by rw [e0]; exact h
  exact own_reads h'
set_option maxHeartbeats 4000000 in
set_option maxRecDepth 100000 in
theorem bytes_calls (B : Nat) (g : Nat) (l : List UInt8) (S : List Nat) (hl : l.length ≤ 140737488355328) (w : World) (hk : KAt B w g l S) :
    Calls Tryd.prog 11 #[.pointer (some ⟨g, 0, none⟩)] w fun e w' => ∃ v, e = .returned v ∧ Own w.heap.size w' v l ∧ Below w.heap.size w w' := by
  obtain ⟨v, hb, ho, rfl, hB⟩ := hk
  obtain ⟨A, c, rfl, hr⟩ := ho.reads
  have c0 := hb.cell 0
  have hlt := hb.lt
  have HR := Aside0.mk hr
  clear hb ho hr
  go_enter Tryd.func11, Tryd.ntmps11
  go_wp2_with (at_builtin; refine wp_put_row w.heap.size rfl _ _ rfl (.slice (some ⟨w.heap.size, 0, none⟩) 0 0) [] l A c rfl rfl ?c1 ?c2 (by simp; omega) (by simp) ?_)
  case c1 => exact own_lit w w.heap.size TU .u8 [] (Nat.le_refl _) (by simp)
  case c2 => exact HR.out.below ((Below.refl _ _).alloc (Nat.le_refl _) _)
  intro v1 w1 hp
  have hb1 : Below w.heap.size w w1 := by
    refine ((Below.refl w.heap.size w).alloc (Nat.le_refl _) _).trans (hp.2.1.below (by simp) fun k hk => ?_)
    have : k = w.heap.size := by simpa [rowB, Value.ownBlock] using hk
    omega
  have HP := Aside0.mk hp
  clear hp
  go_wp2
  go_ret
  exact ⟨v1, rfl, HP.out.1, hb1⟩
end Go.Proofs.YtmilpfccgggmkaaDoor.Knt
