/- Untying: the program's In: Open, fail, Number. -/
import Derived.Test.YtmilpfccgggmkaaDoorKnt
import Derived.Test.YtmilpfccgggmkaaDoorGly
namespace Go.Proofs.YtmilpfccgggmkaaDoor.Knt
open Go.RowKit Go.Proofs.YtmilpfccgggmkaaDoorW.PrintWords Go.Proofs.YtmilpfccgggmkaaDoor.Arr Go.Proofs.YtmilpfccgggmkaaDoor.Utf Go.Proofs.YtmilpfccgggmkaaDoor.Gly
set_option linter.unusedVariables false
set_option linter.unusedSimpArgs false

abbrev TI : TypeId := 66
def str (l : List UInt8) : ByteArray := ⟨l.toArray⟩
theorem str_size (l : List UInt8) : (str l).size = l.length := by simp [str, ByteArray.size]
theorem str_list (s : ByteArray) : str s.data.toList = s := by cases s; simp [str]
theorem str_inj {l m : List UInt8} (h : str l = str m) : l = m := by
  have := congrArg (fun b : ByteArray => b.data.toList) h
  simpa [str] using this
theorem str_drop (l : List UInt8) (k : Nat) : (str l).extract k (str l).size = str (l.drop k) := by
  apply ByteArray.ext
  apply Array.toList_inj.1
  rw [ByteArray.data_extract]
  simp [str, ByteArray.size]
  exact List.take_of_length_le (by simp)
theorem str_take (l : List UInt8) (k : Nat) : (str l).extract 0 k = str (l.take k) := by
  apply ByteArray.ext
  apply Array.toList_inj.1
  rw [ByteArray.data_extract]
  simp [str]
theorem gb_str (l : List UInt8) (d : Nat) (h : d < l.length) : gb (str l) d = (l[d]).toNat := by
  have h1 : d < (str l).size := by rw [str_size]; exact h
  rw [← gb_get _ _ h1]
  rfl
/-- What an In holds; f: it has failed. -/
abbrev IBlk (w : World) (g : Nat) (l : List UInt8) (f : Bool) : Prop := Blk w g TI #[.string (str l), .bool f]
theorem str_nil : str [] = ⟨#[]⟩ := rfl

/-! ### the number at the front -/
def numR (z : Bool) (most : Int) : List UInt8 → Nat → Nat → Option (Nat × List UInt8)
  | [], _, _ => none
  | c :: m, n, d =>
    if c.toNat = 59 ∧ 0 < d ∧ (n : Int) ≤ most ∧ (d = 1 ∨ z = false) then some (n, m)
    else if c.toNat < 48 ∨ 57 < c.toNat ∨ 16 < d then none
    else numR z most m (n * 10 + (c.toNat - 48)) (d + 1)
def zeroB (l : List UInt8) : Bool := (l.headD 0).toNat == 48
def numP (most : Int) (l : List UInt8) : Option (Nat × List UInt8) := numR (zeroB l) most l 0 0
theorem numR_at {z : Bool} {most : Int} {l : List UInt8} {n d : Nat} (h : d < l.length) :
    numR z most (l.drop d) n d = if (l[d]).toNat = 59 ∧ 0 < d ∧ (n : Int) ≤ most ∧ (d = 1 ∨ z = false) then some (n, l.drop (d + 1))
      else if (l[d]).toNat < 48 ∨ 57 < (l[d]).toNat ∨ 16 < d then none else numR z most (l.drop (d + 1)) (n * 10 + ((l[d]).toNat - 48)) (d + 1) := by
  rw [List.drop_eq_getElem_cons h]
  rfl

theorem strOfNums_str (l : List UInt8) : strOfNums (l.map fun b => (b.toNat : Int)) = str l := by
  unfold strOfNums str
  congr 1
  apply Array.ext'
  simp only [List.map_map]
  induction l with
  | nil => rfl
  | cons a l ih => simp; exact ih
theorem Own.string {B : Nat} {w : World} {v : Value} {l : List UInt8} (h : Own B w v l) : (convert TB 9 v).run Tryd.prog w = .ok (.string (str l)) w := by
  have e0 : nums .u8 (l.map fun b => (b.toNat : Int)) = Lib.byteCells l := by simp [nums, Lib.byteCells]
  have h' : w.ownsRow B TU 1 v l.length (nums .u8 (l.map fun b => (b.toNat : Int))) := by rw [e0]; exact h
  have := own_string (P := Tryd.prog) (src := TB) (dst := 9) Tryd.underlying27 Tryd.underlying5 Tryd.underlying9 h'
  rwa [strOfNums_str] at this
/-- A slice of bytes that reads as l: its string. -/
theorem reads_string {w : World} {A : Option Addr} {l : List UInt8} {c : Nat} (h : ReadsInt w .u8 A l.length (l.map fun b => (b.toNat : Int))) : (convert TB 9 (.slice A l.length c)).run Tryd.prog w = .ok (.string (str l)) w := by
  rw [run_convert_bytes_string (P := Tryd.prog) w TB 9 TU A l.length c Tryd.underlying27 Tryd.underlying5 Tryd.underlying9]
  cases A with
  | none =>
    have hn : l = [] := by
      rcases Nat.eq_zero_or_pos l.length with h0 | h0
      · exact List.eq_nil_of_length_eq_zero h0
      · obtain ⟨ad, h1, _⟩ := h.2.2 h0
        cases h1
    subst hn
    rfl
  | some ad =>
    have hl : (loadCells ad l.length).run Tryd.prog w = .ok ((l.map fun b => (b.toNat : Int)).map (Value.int .u8)).toArray w := by
      have := run_loadCells_list (P := Tryd.prog) w ad ((l.map fun b => (b.toNat : Int)).map (Value.int .u8)) (fun j v hj => by
        have hjl : j < l.length := by
          have := (List.getElem?_eq_some_iff.1 hj).1
          simpa using this
        obtain ⟨ad', h1, h2⟩ := h.2.2 (by omega)
        injection h1 with h1
        subst h1
        rw [h2 j hjl]
        simp [hjl] at hj
        subst hj
        simp [hjl])
      simpa using this
    rw [run_bytesToString w ad l.length c (l.map fun b => (b.toNat : Int)) hl, foldl_push_bytes]
    have e1 := strOfNums_str l
    unfold strOfNums at e1
    rw [← e1]
    simp [ByteArray.empty, ByteArray.emptyWithCapacity]
    rfl
theorem open_calls (A : Option Addr) (c : Nat) (l : List UInt8) (w : World) (hr : ReadsInt w .u8 A l.length (l.map fun b => (b.toNat : Int))) :
    Calls Tryd.prog 23 #[.slice A l.length c] w fun e w' => e = .returned (.pointer (some ⟨w.heap.size, 0, none⟩)) ∧ w' = w.alloc (.cells #[.string (str l), .bool false] TI) := by
  have hcv := reads_string (c := c) hr
  clear hr
  go_enter Tryd.func23, Tryd.ntmps23
  go_wp2
  go_ret
  exact ⟨rfl, rfl⟩
theorem fail_calls (g : Nat) (l : List UInt8) (f : Bool) (w : World) (h : IBlk w g l f) :
    Calls Tryd.prog 37 #[.pointer (some ⟨g, 0, none⟩)] w fun e w' => e = .returned (.tuple #[]) ∧ IBlk w' g [] true ∧ Only [g] w w' := by
  have c0 := h.cell 0
  have c1 := h.cell 1
  have f0 := h.frozen 0
  have f1 := h.frozen 1
  have hlt := h.lt
  have H := Aside0.mk h
  clear h
  go_enter Tryd.func37, Tryd.ntmps37
  go_wp2
  go_end0
  refine ⟨rfl, (H.out.set 1 (.bool true)).set 0 (.string ⟨#[]⟩), ?_⟩
  exact ((Only.refl _ _).setCell (.inl (by simp)) _).setCell (.inl (by simp)) _
/-- Where the runes of a list's string are bytes. -/
theorem dec_byte (l : List UInt8) (d : Nat) (h : d < l.length) : ((l[d]).toNat < 128 ∧ Utf8.decode (str l) d = ((l[d]).toNat, 1)) ∨ (128 ≤ (l[d]).toNat ∧ 128 ≤ (Utf8.decode (str l) d).1) := by
  have hg := gb_str l d h
  by_cases h1 : (l[d]).toNat < 128
  · refine .inl ⟨h1, ?_⟩
    rw [dec_ascii _ _ (by omega), hg]
  · exact .inr ⟨by omega, dec_high _ _ (by omega)⟩
def NumPost (g : Nat) (f : Bool) (w : World) (r : Option (Nat × List UInt8)) (e : Ending) (w' : World) : Prop :=
  match r with
  | some (n, m) => e = .returned (.int .i64 (n : Int)) ∧ IBlk w' g m f ∧ Only [g] w w'
  | none => e = .returned (.int .i64 0) ∧ IBlk w' g [] true ∧ Only [g] w w'
theorem ten_pow (n d : Nat) (h : n < 10 ^ d) (hd : d ≤ 17) : n < 100000000000000000 := by
  have := Nat.pow_le_pow_right (n := 10) (by omega) hd
  have e : (10 : Nat) ^ 17 = 100000000000000000 := by decide
  omega
theorem ten_step (n d c : Nat) (h : n < 10 ^ d) (hc : c ≤ 9) : n * 10 + c < 10 ^ (d + 1) := by
  rw [Nat.pow_succ]
  omega
set_option maxHeartbeats 8000000 in
set_option maxRecDepth 100000 in
theorem inum_calls (g : Nat) (l : List UInt8) (hl : l.length ≤ 140737488355328) (f : Bool) (most : Int) (w : World) (h : IBlk w g l f) :
    Calls Tryd.prog 24 #[.pointer (some ⟨g, 0, none⟩), .int .i64 most] w (NumPost g f w (numP most l)) := by
  have c0 := h.cell 0
  have hlt := h.lt
  have H := Aside0.mk h
  have hz := str_size l
  clear h
  obtain ⟨s, hs⟩ : ∃ s, str l = s := ⟨_, rfl⟩
  have HS := Aside0.mk hs
  rw [hs] at c0 hz
  have HZ := Aside0.mk hz
  have hsz : s.size ≤ 140737488355328 := by omega
  obtain ⟨res, hres⟩ : ∃ res, numP most l = res := ⟨_, rfl⟩
  have HRES := Aside0.mk hres
  rw [hres]
  clear hs hz hres
  go_enter Tryd.func24, Tryd.ntmps24
  go_wp2
  go_loopw [5, 6] (fun v5 v6 wr => ∃ (n d : Nat), v5 = .int .i64 (n : Int) ∧ v6 = .int .i64 (d : Int) ∧ wr.heap[w.heap.size]? = some (.stringIter s d) ∧ Aside0 (numR (zeroB l) most (l.drop d) n d = res) ∧ Aside0 (n < 10 ^ d) ∧ Aside0 (d ≤ 17 ∧ d ≤ s.size) ∧ Aside0 (Below w.heap.size w wr)) (fun _ _ wr => s.size - wr.iterPos w.heap.size)
  case atStart => exact ⟨0, 0, rfl, rfl, World.iter_heap w s 0, ⟨HRES.out⟩, ⟨by decide⟩, ⟨by omega, by omega⟩, ⟨(Below.refl _ _).alloc (Nat.le_refl _) _⟩⟩
  case round =>
    obtain ⟨n, d, rfl, rfl, hit, hR, hn, hd, hb⟩ := hrel
    have hpos := iterPos_of hit
    obtain ⟨hd17, hds⟩ := hd.out
    have hn17 := ten_pow n d hn.out hd17
    by_cases hp : d < s.size
    · have hnx : ∀ ty, (Instr.next (.pointer (some ⟨w.heap.size, 0, none⟩)) true ty).run Tryd.prog wr = _ := fun ty => Lib.run_next_any_at wr w.heap.size s d ty hit hp
      have hdl : d < l.length := by have := HZ.out; omega
      have hst := numR_at (z := zeroB l) (most := most) (n := n) hdl
      rw [hR.out] at hst
      have hby := dec_byte l d hdl
      rw [HS.out] at hby
      have hit2 := Lib.iterAt_heap wr w.heap.size s d (d + (Utf8.decode s d).2) hit
      have hb2 := Lib.below_iterAt hb.out (Nat.le_refl _) s (d + (Utf8.decode s d).2)
      have c0' := (H.out.below hb2).cell 0
      rw [HS.out] at c0'
      have f0' := (H.out.below hb2).frozen 0
      have lt' := (H.out.below hb2).lt
      have hs0 : 0 < s.size := by omega
      have hz0 : zeroB l = ((s[0]'hs0).toNat == 48) := by
        have h1 := gb_str l 0 (by omega)
        have h2 := gb_get s 0 hs0
        rw [HS.out] at h1
        unfold zeroB
        rw [h2, h1]
        cases l with
        | nil => exact absurd hdl (by simp)
        | cons a l => rfl
      have HP := Aside0.mk hpos
      have HI2 := Aside0.mk hit2
      have HD1 : Aside0 (str (l.drop (d + 1)) = s.extract (d + 1) s.size) := ⟨by rw [← HS.out, str_drop]⟩
      obtain ⟨c, hc⟩ : ∃ c, (l[d]).toNat = c := ⟨_, rfl⟩
      rw [hc] at hst hby
      obtain ⟨z, hzz⟩ : ∃ z, zeroB l = z := ⟨_, rfl⟩
      have HZZ := Aside0.mk hzz
      rw [hzz] at hst hz0 hR
      obtain ⟨r, hr⟩ : ∃ r, (Utf8.decode s d).1 = r := ⟨_, rfl⟩
      obtain ⟨wd, hwd⟩ : ∃ wd, (Utf8.decode s d).2 = wd := ⟨_, rfl⟩
      have hrw : (c < 128 ∧ r = c ∧ wd = 1) ∨ (128 ≤ c ∧ 128 ≤ r) := by
        rcases hby with ⟨h1, h2⟩ | h1
        · rw [h2] at hr hwd
          exact .inl ⟨h1, hr.symm, hwd.symm⟩
        · exact .inr ⟨h1.1, by rw [← hr]; exact h1.2⟩
      rw [hr, hwd] at hnx
      rw [hwd] at hit2 hb2 HI2 c0' f0' lt'
      clear hby hr hwd hc hit hpos hR c0
      have HNX := Aside0.mk hnx
      clear hit2
      by_cases hA : c = 59 ∧ 0 < d ∧ (n : Int) ≤ most ∧ (d = 1 ∨ z = false)
      · rw [if_pos hA] at hst
        have hwd : wd = 1 := by omega
        have hr59 : r = 59 := by omega
        subst hwd hr59 hst
        have t2 : decide ((d : Int) > 0) = true := decide_eq_true (by omega)
        have t2' : 0 < d := hA.2.1
        have t3 : decide ((n : Int) ≤ most) = true := decide_eq_true hA.2.2.1
        have q1 : (0 : Int) ≤ ((d + 1 : Nat) : Int) := by omega
        have q2 : ((d : Int) + 1) ≤ (s.size : Int) := by omega
        have q3 : (0 : Int) ≤ (d : Int) + 1 := by omega
        have t4 : ((d : Int) == 1) = true ∨ (((d : Int) == 1) = false ∧ (((s[0]'hs0).toNat : Int) != 48) = true) := by
          by_cases h1 : d = 1
          · exact .inl (beq_iff_eq.2 (by omega))
          · refine .inr ⟨beq_eq_false_iff_ne.2 (by omega), ?_⟩
            have hz1 : z = false := by rcases hA.2.2.2 with h | h; exact absurd h h1; exact h
            rw [hz1] at hz0
            have hz2 : (s[0]'hs0).toNat ≠ 48 := beq_eq_false_iff_ne.1 hz0.symm
            exact bne_iff_ne.2 (by omega)
        have HB2 := Aside0.mk hb2
        have hnx := HNX.out
        clear hz0 hzz hA hrw hb2 HI2
        rcases t4 with t4 | ⟨t4, t5⟩
        all_goals
          go_wp2
          go_ret
          refine ⟨rfl, ?_, ?_⟩
          · have h3 := (H.out.below HB2.out).set 0 (.string (s.extract (d + 1) s.size))
            show Blk _ g TI #[.string (str (l.drop (d + 1))), .bool f]
            rw [HD1.out]
            exact h3
          · exact ((Only.of_below HB2.out [g])).setCell (.inl (by simp)) _
      rw [if_neg hA] at hst
      by_cases hB : c < 48 ∨ 57 < c ∨ 16 < d
      · rw [if_pos hB] at hst
        subst hst
        have hnx := HNX.out
        have key : (((r : Int) == 59) = false ∧ (decide ((r : Int) < 48) = true ∨ (decide ((r : Int) < 48) = false ∧ (decide ((r : Int) > 57) = true ∨ (decide ((r : Int) > 57) = false ∧ decide ((d : Int) > 16) = true))))) ∨
            (r = 59 ∧ ((decide ((d : Int) > 0) = false ∧ ¬ 0 < d) ∨ ((decide ((d : Int) > 0) = true ∧ 0 < d) ∧ (decide ((n : Int) ≤ most) = false ∨ (decide ((n : Int) ≤ most) = true ∧ ((d : Int) == 1) = false ∧ (((s[0]'hs0).toNat : Int) != 48) = false))))) := by
          by_cases h59 : r = 59
          · refine .inr ⟨h59, ?_⟩
            have hc59 : c = 59 := by omega
            by_cases h0 : 0 < d
            · refine .inr ⟨⟨decide_eq_true (by omega), h0⟩, ?_⟩
              by_cases hm : (n : Int) ≤ most
              · refine .inr ⟨decide_eq_true hm, ?_⟩
                have hn1 : ¬ (d = 1 ∨ z = false) := fun h => hA ⟨hc59, h0, hm, h⟩
                refine ⟨beq_eq_false_iff_ne.2 (by omega), ?_⟩
                have hz1 : z = true := by cases z with
                  | true => rfl
                  | false => exact absurd (.inr rfl) hn1
                rw [hz1] at hz0
                have hz2 : (s[0]'hs0).toNat = 48 := beq_iff_eq.1 hz0.symm
                exact bne_eq_false_iff_eq.2 (by omega)
              · exact .inl (decide_eq_false hm)
            · exact .inl ⟨decide_eq_false (by omega), h0⟩
          · refine .inl ⟨beq_eq_false_iff_ne.2 (by omega), ?_⟩
            by_cases h1 : r < 48
            · exact .inl (decide_eq_true (by omega))
            · refine .inr ⟨decide_eq_false (by omega), ?_⟩
              by_cases h2 : 57 < r
              · exact .inl (decide_eq_true (by omega))
              · exact .inr ⟨decide_eq_false (by omega), decide_eq_true (by omega)⟩
        clear hz0 hzz hA hB hrw hn17
        rcases key with ⟨t1, t2 | ⟨t2, t3 | ⟨t3, t4⟩⟩⟩ | ⟨rfl, ⟨t2, t2'⟩ | ⟨⟨t2, t2'⟩, t3 | ⟨t3, t4, t5⟩⟩⟩
        all_goals
          have KF := Aside0.mk (fail_calls g l f _ (H.out.below hb2))
          have HB2 := Aside0.mk hb2
          clear hb2 HI2
          go_wp2_with fail
          refine KF.out.mono ?_
          rintro e w2 ⟨rfl, hi2, ho2⟩
          have HI := Aside0.mk hi2
          have HO := Aside0.mk ((Only.of_below HB2.out [g]).trans ho2 (fun k hk => .inl hk))
          clear hi2 ho2 KF
          go_wp2
          go_ret
          exact ⟨rfl, HI.out, HO.out⟩
      · rw [if_neg hB] at hst
        have hwd : wd = 1 := by omega
        have hrc : r = c := by omega
        subst hwd hrc
        have t1 : ((r : Int) == 59) = false := beq_eq_false_iff_ne.2 (by omega)
        have t2 : decide ((r : Int) < 48) = false := decide_eq_false (by omega)
        have t3 : decide ((r : Int) > 57) = false := decide_eq_false (by omega)
        have t4 : decide ((d : Int) > 16) = false := decide_eq_false (by omega)
        have b1 : (48 : Int) ≤ (r : Int) := by omega
        have b2 : (r : Int) ≤ 57 := by omega
        have b3 : (n : Int) ≤ 100000000000000000 := by omega
        have hd16 : d ≤ 16 := by omega
        have hn' := ten_step n d (r - 48) hn.out (by omega)
        have HN := Aside0.mk hn'
        have HST := Aside0.mk hst
        have HB2 := Aside0.mk hb2
        have hnx := HNX.out
        clear hz0 hzz hA hB hrw hn' hst hb2
        go_wp2
        go_roundw
        case rel => exact ⟨n * 10 + (r - 48), d + 1, by rw [show ((n * 10 + (r - 48) : Nat) : Int) = (n : Int) * 10 + ((r : Int) - 48) by omega], by go_num, HI2.out, ⟨by rw [HZZ.out]; exact HST.out.symm⟩, HN, ⟨by omega, by omega⟩, HB2⟩
        case measure =>
          rw [iterPos_of HI2.out, HP.out]
          omega
    · have hnx : ∀ ty, (Instr.next (.pointer (some ⟨w.heap.size, 0, none⟩)) true ty).run Tryd.prog wr = _ := fun ty => Lib.run_next_end_at wr w.heap.size s d ty hit hp
      have hr0 : res = none := by
        rw [← hR.out, List.drop_eq_nil_of_le (by have := HZ.out; omega)]
        rfl
      subst hr0
      have hI := H.out.below hb.out
      rw [HS.out] at hI
      have KF := Aside0.mk (fail_calls g l f wr (H.out.below hb.out))
      clear hit hpos hI c0
      go_wp2_with fail
      refine KF.out.mono ?_
      rintro e w2 ⟨rfl, hi2, ho2⟩
      have HI := Aside0.mk hi2
      have HO := Aside0.mk ((Only.of_below hb.out [g]).trans ho2 (fun k hk => .inl hk))
      clear hi2 ho2 KF
      go_wp2
      go_ret
      exact ⟨rfl, HI.out, HO.out⟩
end Go.Proofs.YtmilpfccgggmkaaDoor.Knt
