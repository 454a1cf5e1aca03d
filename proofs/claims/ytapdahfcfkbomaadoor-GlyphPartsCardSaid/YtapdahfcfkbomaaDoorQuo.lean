/- The program's glyph.itself, glyph.Quote. -/
import Derived.Test.YtapdahfcfkbomaaDoorHxx
import Derived.Test.YtapdahfcfkbomaaDoorGly
namespace Go.Proofs.YtapdahfcfkbomaaDoor.Quo
open Go.RowKit Go.Proofs.YtapdahfcfkbomaaDoorW.PrintWords Go.Proofs.YtapdahfcfkbomaaDoor.Arr Go.Proofs.YtapdahfcfkbomaaDoor.Utf Go.Proofs.YtapdahfcfkbomaaDoor.Gly Go.Proofs.YtapdahfcfkbomaaDoor.Hex Go.Proofs.YtapdahfcfkbomaaDoor.Bld
set_option linter.unusedVariables false
set_option linter.unusedSimpArgs false

def itselfR (r : Nat) : Bool := decide (r ≥ 32) && (r != 34) && (r != 92) && (decide (r < 127) || decide (r > 160))
set_option maxHeartbeats 2000000 in
theorem itself_calls (r : Nat) (w : World) :
    Calls Tryd.prog 34 #[.int .i32 (r : Int)] w fun e w' => e = .returned (.bool (itselfR r)) ∧ Below w.heap.size w w' := by
  have t1 : decide ((r : Int) ≥ 32) = decide (r ≥ 32) := by rw [decide_eq_decide]; omega
  have t2 : ((r : Int) != 34) = (r != 34) := by rw [Bool.eq_iff_iff]; simp; omega
  have t3 : ((r : Int) != 92) = (r != 92) := by rw [Bool.eq_iff_iff]; simp; omega
  have t4 : decide ((r : Int) < 127) = decide (r < 127) := by rw [decide_eq_decide]; omega
  have t5 : decide ((r : Int) > 160) = decide (r > 160) := by rw [decide_eq_decide]; omega
  unfold itselfR
  generalize decide (r ≥ 32) = b1 at *
  generalize (r != 34) = b2 at *
  generalize (r != 92) = b3 at *
  generalize decide (r < 127) = b4 at *
  generalize decide (r > 160) = b5 at *
  cases b1 <;> cases b2 <;> cases b3 <;> cases b4 <;> cases b5 <;>
    (go_enter Tryd.func34, Tryd.ntmps34
     go_wp2
     go_ret
     exact ⟨rfl, Below.refl _ _⟩)
/-- What one rune, or one byte that is none, becomes. -/
def piece (s : ByteArray) (p : Nat) : List UInt8 :=
  if brokenB s p = true then [92, 120, 123] ++ (hexV (gb s p) 2).data.toList ++ [125]
  else if itselfR (Utf8.decode s p).1 = true then Lib.encodeRune (Utf8.decode s p).1
  else [92, 117, 123] ++ (hexV (Utf8.decode s p).1 1).data.toList ++ [125]
def quoteT (s : ByteArray) (p : Nat) : List UInt8 :=
  if h : p < s.size then piece s p ++ quoteT s (p + (Utf8.decode s p).2) else []
termination_by s.size - p
decreasing_by
  have := dec_w s p h
  omega

theorem gb_at (s : ByteArray) (p : Nat) (hp : p < s.size) : gb s p = (s[p]'hp).toNat := (gb_get s p hp).symm
theorem hexV_size (u least : Nat) (hl : least ≤ 2) (hu : u < 4294967296) : (hexV u least).size ≤ 10 := by
  have h8 : (hexD u).length ≤ 8 := hexD_len 7 u (by omega)
  unfold hexV
  rw [ByteArray.size_append, hexS_size]
  have : (⟨(List.replicate (least - (hexD u).length) 48).toArray⟩ : ByteArray).size = least - (hexD u).length := by simp [ByteArray.size]
  omega
theorem step_cells (l q : List UInt8) (t : ByteArray) (ht : t.data.toList = q) : Lib.byteCells (34 :: l) ++ Lib.strCells t = Lib.byteCells (34 :: (l ++ q)) := by
  subst ht
  simp [Lib.byteCells, Lib.strCells]
theorem three_bytes (a x c : ByteArray) : ((a ++ x) ++ c).data.toList = a.data.toList ++ x.data.toList ++ c.data.toList := by
  simp [ByteArray.data_append]
theorem quoteT_step (s : ByteArray) (p : Nat) (hp : p < s.size) : quoteT s p = piece s p ++ quoteT s (p + (Utf8.decode s p).2) := by
  rw [quoteT, dif_pos hp]
theorem quoteT_end (s : ByteArray) (p : Nat) (hp : ¬ p < s.size) : quoteT s p = [] := by
  rw [quoteT, dif_neg hp]
theorem bld_below {T e : TypeId} {B b : Nat} {p : Value} {bs : List Value} {w w' : World} (h : Lib.BuilderAtF T e B b p bs w) (hb : Below w.heap.size w w') : Lib.BuilderAtF T e B b p bs w' := by
  obtain ⟨hB, v, hbk, ⟨h1, h2⟩, hne⟩ := h
  refine ⟨hB, v, (hb.block b (Array.getElem?_eq_some_iff.1 hbk).1).trans hbk, ⟨h1, ?_⟩, hne⟩
  rcases h2 with hn | ⟨g, cap, cur, fz, hv, hbg, hg, rest⟩
  · exact .inl hn
  · exact .inr ⟨g, cap, cur, fz, hv, hbg, (hb.block g (Array.getElem?_eq_some_iff.1 hg).1).trans hg, rest⟩
theorem isb_below {T e : TypeId} {B b : Nat} {bs : List Value} {w w' : World} (h : Lib.IsBuilderF T e B b bs w) (hb : Below w.heap.size w w') : Lib.IsBuilderF T e B b bs w' :=
  h.elim (fun x => .inl (bld_below x hb)) (fun x => .inr (bld_below x hb))
set_option maxHeartbeats 4000000 in
set_option maxRecDepth 100000 in
theorem quote_calls (s : ByteArray) (hs : s.size ≤ 1000000) (w : World) (hT : Tabs w) (hD : Deb w) :
    Calls Tryd.prog 22 #[.string s] w fun e w' => e = .returned (.string ⟨(34 :: (quoteT s 0 ++ [34])).toArray⟩) ∧ Below w.heap.size w w' := by
  have HT := Aside0.mk hT
  have HD := Aside0.mk hD
  clear hT hD
  go_enter Tryd.func22, Tryd.ntmps22
  go_wp2_with fail
  refine (writeByte w.heap.size w.heap.size [] 34 _ (.of (Lib.fresh_isBuilder _ _ w)) (by simp) (by simp)).mono ?_
  rintro e w1 ⟨rfl, hq1, hb1, ho1⟩
  have hb1' := (Below.refl w.heap.size w).alloc (Nat.le_refl _) (.cells #[.pointer none, .slice none 0 0] 49)
  have hb2 := hb1'.trans hb1
  have hlt := hq1.lt
  have HB := Aside0.mk hb2
  have HQ := Aside0.mk hq1
  clear hb1 ho1 hb1' hb2 hq1
  go_wp2_with fail
  go_loopw [9] (fun v9 wr => ∃ (pos : Nat) (l : List UInt8), wr.heap[w1.heap.size]? = some (.stringIter s pos) ∧ Aside0 (l ++ quoteT s pos = quoteT s 0) ∧ Aside0 (l.length ≤ 14 * pos) ∧ Aside0 (pos ≤ s.size) ∧ Aside0 (Lib.IsBuilderF TB TU w.heap.size w.heap.size (Lib.byteCells (34 :: l)) wr) ∧ Aside0 (Below w.heap.size w wr)) (fun _ wr => s.size - wr.iterPos w1.heap.size)
  case atStart =>
    refine ⟨0, [], World.iter_heap w1 s 0, ⟨rfl⟩, ⟨by simp⟩, ⟨Nat.zero_le _⟩, ⟨?_⟩, ⟨HB.out.alloc (by omega) _⟩⟩
    exact .inr (HQ.out.alloc _)
  case round =>
    obtain ⟨pos, l, hit, hl, hlen, hposle, hq, hb⟩ := hrel
    have hpos := iterPos_of hit
    by_cases hp : pos < s.size
    · have hnx : ∀ ty, (Instr.next (.pointer (some ⟨w1.heap.size, 0, none⟩)) true ty).run Tryd.prog wr = _ := fun ty => Lib.run_next_any_at wr w1.heap.size s pos ty hit hp
      have hw := dec_w s pos hp
      have hit2 := Lib.iterAt_heap wr w1.heap.size s pos (pos + (Utf8.decode s pos).2) hit
      have hb2 := Lib.below_iterAt hb.out (k := w1.heap.size) (by omega) s (pos + (Utf8.decode s pos).2)
      have hq2 := Lib.IsBuilderF.iterAt hq.out hit (pos + (Utf8.decode s pos).2)
      have hTT := HT.out.below hb2
      have hgw : IntKind.u64.wrap (((s[pos]'hp).toNat : Nat) : Int) = ((gb s pos : Nat) : Int) := by
        rw [gb_at s pos hp]
        have := (s[pos]'hp).toNat_lt
        simp only [IntKind.wrap_u64]
        omega
      cases hbk : brokenB s pos with
      | true =>
        have HBK := Aside0.mk hbk
        have HI := Aside0.mk hit2
        have HB2 := Aside0.mk hb2
        have HQ2 := Aside0.mk hq2
        have HTT := Aside0.mk hTT
        have HP := Aside0.mk hpos
        clear hbk hit2 hb2 hq2 hTT hit hpos
        go_wp2_with fail
        refine (broken_as true s pos hp (by omega) HBK.out _ rfl _ HTT.out).mono ?_
        rintro e w2 ⟨rfl, hb3⟩
        have HB3 := Aside0.mk (HB2.out.trans (hb3.mono HB2.out.size))
        have HQ3 := Aside0.mk (isb_below HQ2.out hb3)
        have hI3 := Aside0.mk ((hb3.block _ (Array.getElem?_eq_some_iff.1 HI.out).1).trans HI.out)
        have HD3 := Aside0.mk (HD.out.below HB3.out)
        have hz := hexV_size (gb s pos) 2 (by omega) (by have := gb_lt s pos; omega)
        obtain ⟨x, hx⟩ : ∃ x, hexV (gb s pos) 2 = x := ⟨_, rfl⟩
        have CH := Aside0.mk (hex_calls (gb s pos) 2 (by have := gb_lt s pos; omega) (by omega) w2 HD3.out)
        rw [hx] at CH hz
        have y1 : ((⟨#[92, 120, 123]⟩ : ByteArray) ++ x).size = 3 + x.size := by rw [ByteArray.size_append]; rfl
        have b1 : ¬ 9223372036854775807 < 3 + x.size := by omega
        have b2 : ¬ 9223372036854775807 < 3 + x.size + 1 := by omega
        have z3 : (⟨#[92, 120, 123]⟩ : ByteArray).size = 3 := rfl
        have HX := Aside0.mk hx
        clear hb3 HQ2 HB2 HI HTT hx
        go_wp2_with fail
        refine CH.out.mono ?_
        rintro e w3 ⟨rfl, hb4⟩
        have HB4 := Aside0.mk (HB3.out.trans (hb4.mono HB3.out.size))
        have HQ4 := Aside0.mk (isb_below HQ3.out hb4)
        have hI4 := Aside0.mk ((hb4.block _ (Array.getElem?_eq_some_iff.1 hI3.out).1).trans hI3.out)
        clear CH HB3 HQ3 hI3 HD3 hb4
        have hpc : ((⟨#[92, 120, 123]⟩ : ByteArray) ++ x ++ ⟨#[125]⟩).data.toList = piece s pos := by
          rw [three_bytes]
          unfold piece
          rw [HBK.out, if_pos rfl, HX.out]
        have hps : ((⟨#[92, 120, 123]⟩ : ByteArray) ++ x ++ ⟨#[125]⟩).size ≤ 14 := by
          rw [ByteArray.size_append, y1]
          have : (⟨#[125]⟩ : ByteArray).size = 1 := rfl
          omega
        have hst := quoteT_step s pos hp
        have hpl : (piece s pos).length ≤ 14 := by rw [← hpc, Array.length_toList]; exact hps
        have W1 := Aside0.mk (writeString w.heap.size w.heap.size (Lib.byteCells (34 :: l)) (⟨#[92, 120, 123]⟩ ++ x ++ ⟨#[125]⟩) w3 HQ4.out (by rw [Lib.byteCells_length, List.length_cons]; have := hlen.out; omega) (by have := HB4.out.size; omega))
        rw [step_cells l _ _ hpc] at W1
        have HST := Aside0.mk hst
        have HPL := Aside0.mk hpl
        clear hpc hps hst hpl
        go_wp2_with fail
        refine W1.out.mono ?_
        rintro e w4 ⟨rfl, hq5, hb5, ho5⟩
        have hI5 := ho5.iter hI4.out (by omega)
        have HQ5 := Aside0.mk hq5
        have HI5 := Aside0.mk hI5
        have HB5 := Aside0.mk (HB4.out.trans hb5)
        clear W1 hq5 hI5 hb5 ho5
        go_wp2
        go_roundw
        case rel => exact ⟨_, l ++ piece s pos, HI5.out, ⟨by rw [List.append_assoc, ← HST.out]; exact hl.out⟩, ⟨by have := hlen.out; have := HPL.out; rw [List.length_append]; omega⟩, ⟨by omega⟩, ⟨.inr HQ5.out⟩, HB5⟩
        case measure =>
          rw [iterPos_of HI5.out, HP.out]
          omega
      | false =>
        have HBK := Aside0.mk hbk
        have HI := Aside0.mk hit2
        have HB2 := Aside0.mk hb2
        have HQ2 := Aside0.mk hq2
        have HTT := Aside0.mk hTT
        have HP := Aside0.mk hpos
        clear hbk hit2 hb2 hq2 hTT hit hpos
        go_wp2_with fail
        refine (broken_as false s pos hp (by omega) HBK.out _ rfl _ HTT.out).mono ?_
        rintro e w2 ⟨rfl, hb3⟩
        have HB3 := Aside0.mk (HB2.out.trans (hb3.mono HB2.out.size))
        have HQ3 := Aside0.mk (isb_below HQ2.out hb3)
        have hI3 := Aside0.mk ((hb3.block _ (Array.getElem?_eq_some_iff.1 HI.out).1).trans HI.out)
        have HD3 := Aside0.mk (HD.out.below HB3.out)
        have hru := dec_le s pos
        have hrw : IntKind.u64.wrap (((Utf8.decode s pos).1 : Nat) : Int) = (((Utf8.decode s pos).1 : Nat) : Int) := by
          simp only [IntKind.wrap_u64]
          omega
        obtain ⟨it, hit0⟩ : ∃ it, itselfR (Utf8.decode s pos).1 = it := ⟨_, rfl⟩
        have CI := itself_calls (Utf8.decode s pos).1 w2
        rw [hit0] at CI
        have HIT := Aside0.mk hit0
        have CI := Aside0.mk CI
        clear hit0 hb3 HQ2 HB2 HI HTT
        go_wp2_with fail
        refine CI.out.mono ?_
        rintro e w2b ⟨rfl, hb3b⟩
        have HB3 := Aside0.mk (HB3.out.trans (hb3b.mono HB3.out.size))
        have HQ3 := Aside0.mk (isb_below HQ3.out hb3b)
        have hI3 := Aside0.mk ((hb3b.block _ (Array.getElem?_eq_some_iff.1 hI3.out).1).trans hI3.out)
        have HD3 := Aside0.mk (HD.out.below HB3.out)
        clear CI hb3b
        cases it with
        | true =>
          have hst := quoteT_step s pos hp
          have hpc : piece s pos = Lib.encodeRune (Utf8.decode s pos).1 := by
            unfold piece
            rw [HBK.out, if_neg (by decide), HIT.out, if_pos rfl]
          have h4 := Lib.runeCells_le ((Utf8.decode s pos).1 : Int)
          have W1 := Aside0.mk (writeRune w.heap.size w.heap.size (Lib.byteCells (34 :: l)) (((Utf8.decode s pos).1 : Nat) : Int) (by omega) (by omega) w2b HQ3.out (by rw [Lib.byteCells_length, List.length_cons]; have := hlen.out; omega) (by have := HB3.out.size; omega))
          have hcc : Lib.byteCells (34 :: l) ++ Lib.runeCells ((Utf8.decode s pos).1 : Int) = Lib.byteCells (34 :: (l ++ piece s pos)) := by
            rw [hpc, ← Lib.byteCells_encodeRune]
            simp [Lib.byteCells]
          have hpl : (piece s pos).length ≤ 14 := by
            rw [hpc]
            have : (Lib.byteCells (Lib.encodeRune ((Utf8.decode s pos).1 : Int))).length ≤ 4 := by rw [Lib.byteCells_encodeRune]; exact h4.2
            rw [Lib.byteCells_length] at this
            omega
          rw [hcc] at W1
          have HST := Aside0.mk hst
          have HPL := Aside0.mk hpl
          clear hpc h4 hcc hpl hst
          go_wp2_with fail
          refine W1.out.mono ?_
          rintro e w4 ⟨rfl, hq5, hb5, ho5⟩
          have hI5 := ho5.iter hI3.out (by omega)
          have HQ5 := Aside0.mk hq5
          have HI5 := Aside0.mk hI5
          have HB5 := Aside0.mk (HB3.out.trans hb5)
          clear W1 hq5 hI5 hb5 ho5
          go_wp2
          go_roundw
          case rel => exact ⟨_, l ++ piece s pos, HI5.out, ⟨by rw [List.append_assoc, ← HST.out]; exact hl.out⟩, ⟨by have := hlen.out; have := HPL.out; rw [List.length_append]; omega⟩, ⟨by omega⟩, ⟨.inr HQ5.out⟩, HB5⟩
          case measure =>
            rw [iterPos_of HI5.out, HP.out]
            omega
        | false =>
          have hz := hexV_size (Utf8.decode s pos).1 1 (by omega) (by omega)
          obtain ⟨x, hx⟩ : ∃ x, hexV (Utf8.decode s pos).1 1 = x := ⟨_, rfl⟩
          have CH := Aside0.mk (hex_calls (Utf8.decode s pos).1 1 (by omega) (by omega) w2b HD3.out)
          rw [hx] at CH hz
          have y1 : ((⟨#[92, 117, 123]⟩ : ByteArray) ++ x).size = 3 + x.size := by rw [ByteArray.size_append]; rfl
          have b1 : ¬ 9223372036854775807 < 3 + x.size := by omega
          have b2 : ¬ 9223372036854775807 < 3 + x.size + 1 := by omega
          have z3 : (⟨#[92, 117, 123]⟩ : ByteArray).size = 3 := rfl
          have HX := Aside0.mk hx
          clear hx
          go_wp2_with fail
          refine CH.out.mono ?_
          rintro e w3 ⟨rfl, hb4⟩
          have HB4 := Aside0.mk (HB3.out.trans (hb4.mono HB3.out.size))
          have HQ4 := Aside0.mk (isb_below HQ3.out hb4)
          have hI4 := Aside0.mk ((hb4.block _ (Array.getElem?_eq_some_iff.1 hI3.out).1).trans hI3.out)
          clear CH HB3 HQ3 hI3 HD3 hb4
          have hpc : ((⟨#[92, 117, 123]⟩ : ByteArray) ++ x ++ ⟨#[125]⟩).data.toList = piece s pos := by
            rw [three_bytes]
            unfold piece
            rw [HBK.out, if_neg (by decide), HIT.out, if_neg (by decide), HX.out]
          have hps : ((⟨#[92, 117, 123]⟩ : ByteArray) ++ x ++ ⟨#[125]⟩).size ≤ 14 := by
            rw [ByteArray.size_append, y1]
            have : (⟨#[125]⟩ : ByteArray).size = 1 := rfl
            omega
          have hst := quoteT_step s pos hp
          have hpl : (piece s pos).length ≤ 14 := by rw [← hpc, Array.length_toList]; exact hps
          have W1 := Aside0.mk (writeString w.heap.size w.heap.size (Lib.byteCells (34 :: l)) (⟨#[92, 117, 123]⟩ ++ x ++ ⟨#[125]⟩) w3 HQ4.out (by rw [Lib.byteCells_length, List.length_cons]; have := hlen.out; omega) (by have := HB4.out.size; omega))
          rw [step_cells l _ _ hpc] at W1
          have HST := Aside0.mk hst
          have HPL := Aside0.mk hpl
          clear hpc hps hst hpl
          go_wp2_with fail
          refine W1.out.mono ?_
          rintro e w4 ⟨rfl, hq5, hb5, ho5⟩
          have hI5 := ho5.iter hI4.out (by omega)
          have HQ5 := Aside0.mk hq5
          have HI5 := Aside0.mk hI5
          have HB5 := Aside0.mk (HB4.out.trans hb5)
          clear W1 hq5 hI5 hb5 ho5
          go_wp2
          go_roundw
          case rel => exact ⟨_, l ++ piece s pos, HI5.out, ⟨by rw [List.append_assoc, ← HST.out]; exact hl.out⟩, ⟨by have := hlen.out; have := HPL.out; rw [List.length_append]; omega⟩, ⟨by omega⟩, ⟨.inr HQ5.out⟩, HB5⟩
          case measure =>
            rw [iterPos_of HI5.out, HP.out]
            omega
    · have hnx : ∀ ty, (Instr.next (.pointer (some ⟨w1.heap.size, 0, none⟩)) true ty).run Tryd.prog wr = _ := fun ty => Lib.run_next_end_at wr w1.heap.size s pos ty hit hp
      have hle : l = quoteT s 0 := by
        have := hl.out
        rw [quoteT_end s pos hp, List.append_nil] at this
        exact this
      have hps : pos ≤ s.size := hposle.out
      have W1 := Aside0.mk (writeByte w.heap.size w.heap.size (Lib.byteCells (34 :: l)) 34 wr hq.out (by rw [Lib.byteCells_length, List.length_cons]; have := hlen.out; omega) (by have := hb.out.size; omega))
      have HLE := Aside0.mk hle
      clear hle hit hpos
      go_wp2_with fail
      refine W1.out.mono ?_
      rintro e w4 ⟨rfl, hq5, hb5, ho5⟩
      have hcc : Lib.byteCells (34 :: l) ++ [Value.int .u8 34] = Lib.byteCells (34 :: (l ++ [34])) := by simp [Lib.byteCells]
      rw [hcc] at hq5
      have HB5 := Aside0.mk (hb.out.trans hb5)
      have W2 := Aside0.mk (Tryd.Builder_String_any_k w.heap.size w.heap.size (34 :: (l ++ [34])) w4 (.inr hq5) (by have := HB5.out.size; omega))
      clear hq5 hb5 ho5 W1 hcc
      go_wp2_with fail
      refine W2.out.mono ?_
      rintro e w5 ⟨rfl, _, hb6, _⟩
      have HB6 := HB5.out.trans hb6
      go_wp2
      go_ret
      exact ⟨by rw [HLE.out]; rfl, HB6⟩
end Go.Proofs.YtapdahfcfkbomaaDoor.Quo
