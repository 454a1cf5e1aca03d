/- Texts of this claim, merged: Trd. -/
import Derived.Test.YtddhngalokmdoaaMgBase4
/- A tray: Read. -/
namespace Go.Proofs.Ytddhngalokmdoaa.Spo
open Go.RowKit Go.Proofs.YtddhngalokmdoaaW.PrintWords Go.Proofs.YtddhngalokmdoaaW.PrintLast Go.Proofs.YtddhngalokmdoaaW.PrintMore Go.Proofs.Ytddhngalokmdoaa.Arr Go.Proofs.Ytddhngalokmdoaa.PSpoolPlays
set_option linter.unusedVariables false
set_option linter.unusedSimpArgs false

theorem zeroSe : ∀ w, (zeroValue TSe).run Try.prog w = .ok (.agg (nums .u8 zB).toArray) w := fun w => by kernel_rfl
theorem zB_len : (nums .u8 zB).toArray.size = 128 := by simp [zB, nums]
theorem nums_size {l : List Int} (h : l.length = 128) : (nums .u8 l).toArray.size = 128 := by simp [nums, h]
theorem hasV_iff {V : TrayV} {at_ : Int} (h : hasV V at_ = true) : ∃ a : Nat, at_ = (a : Int) ∧ a < V.kept.length := by
  unfold hasV at h
  simp only [Bool.and_eq_true, decide_eq_true_eq] at h
  exact ⟨at_.toNat, by omega, by omega⟩
theorem own_typedR {α : Type} {d : Kd α} {e : Nat} {w : World} {base : Nat} {ok : Nat → Prop} {v : Value} {xs : List α} (h : d.R e w base ok v xs) (k : Nat) (hk : v.ownBlock = some k) : ∃ cells, Blk w k e cells := by
  obtain ⟨_, inner, ho, _⟩ := h
  obtain ⟨c, hc⟩ := own_typed ho k hk
  exact ⟨c, ⟨hc⟩⟩
/-- What Read returns. -/
def ReadPost (V : TrayV) (at_ : Int) (w : World) (e : Ending) (w' : World) : Prop :=
  Below w.heap.size w w' ∧ ((hasV V at_ = false ∧ e = .returned (.tuple #[.slice none 0 0, .int .i64 1])) ∨
    (hasV V at_ = true ∧ ∃ g, e = .returned (.tuple #[.slice (some ⟨g, 0, none⟩) 128 128, .int .i64 0]) ∧ w.heap.size ≤ g ∧ Blk w' g TSe (nums .u8 (readV V at_)).toArray))
set_option maxHeartbeats 8000000 in
set_option maxRecDepth 100000 in
theorem read_calls (P : Nat → Prop) (t : Nat) (V : TrayV) (at_ : Int) (w : World) (H : TAt P w t V) (hS : Sound V) (hcl : V.cache.length ≤ 1000000000) :
    Calls Try.prog 30 #[ptrT t, .int .i64 at_] w (ReadPost V at_ w) := by
  have KH := Aside0.mk (has_calls P t V at_ w H)
  cases hh : hasV V at_ with
  | false =>
    rw [hh] at KH
    have HH := Aside0.mk hh
    clear hh
    go_enter Try.func30, Try.ntmps30
    go_wp2_with fail
    refine KH.out.mono ?_
    rintro e w1 ⟨rfl, b1⟩
    have B1 := Aside0.mk b1
    clear b1 KH
    go_wp2
    go_ret2
    exact ⟨B1.out, .inl ⟨HH.out, rfl⟩⟩
  | true =>
    rw [hh] at KH
    have HH := Aside0.mk hh
    obtain ⟨a, rfl, hak⟩ := hasV_iff hh
    have HS := Aside0.mk hS
    have h83 := Try.underlying83
    have h81 := Try.underlying81
    clear hh hS
    go_enter Try.func30, Try.ntmps30
    go_wp2_with fail
    refine KH.out.mono ?_
    rintro e w1 ⟨rfl, b1⟩
    have H1 := H.below b1
    have B1 := Aside0.mk b1
    obtain ⟨kv, cv, hT, hK, hC, hP⟩ := H1.out
    obtain ⟨Ak, ck, rfl⟩ := Kd.R_slice hK
    obtain ⟨Ac, cc, rfl⟩ := Kd.R_slice hC
    obtain ⟨gk, eA, -, hgk, hrng, hlen, -⟩ := flat_at hK a hak
    cases eA
    have c0 := hT.cell 0
    have c1 := hT.cell 1
    have tl := hT.lt
    obtain ⟨n, hn⟩ : ∃ n, V.kept.length = n := ⟨_, rfl⟩
    obtain ⟨m, hm⟩ : ∃ m, V.cache.length = m := ⟨_, rfl⟩
    have hread : readV V (a : Int) = lastV V.cache (a : Int) V.kept[a] := by
      unfold readV
      rw [Int.toNat_natCast, List.getD, List.getElem?_eq_getElem hak, Option.getD_some]
    have hb0 : V.kept[a].length = 128 := HS.out.kept _ (List.getElem_mem hak)
    obtain ⟨bs, hbs⟩ : ∃ bs, V.kept[a] = bs := ⟨_, rfl⟩
    rw [hbs] at hrng hread hb0
    have hrng' : w1.rangeAt gk (a * 128) (nums .u8 bs) := hrng
    have HRD := Aside0.mk hread
    have HB0 := Aside0.mk hb0
    have h0 : (0 : Int) ≤ (a : Int) := by omega
    have h1 : (a : Int) < (n : Int) := by omega
    have p0 := eq_true h0
    have p1 := eq_true h1
    rw [hn, hm] at c0
    rw [hn, hm] at c1
    have HC := Aside0.mk hC
    have HM := Aside0.mk hm
    have hm9 : m ≤ 1000000000 := by omega
    obtain ⟨W9, hW9⟩ : ∃ W9, w1.alloc (.cells (nums .u8 bs).toArray TSe) = W9 := ⟨_, rfl⟩
    have b9 : Below w1.heap.size w1 W9 := by rw [← hW9]; exact (Below.refl _ _).alloc (Nat.le_refl _) _
    have hE9 : Blk W9 w1.heap.size TSe (nums .u8 bs).toArray := by rw [← hW9]; exact Blk.new _ _ _
    have hT9 := hT.below b9
    have d1 := hT9.cell 1
    have dl := hT9.lt
    rw [hm] at d1
    rw [hn] at d1
    have E9 := Aside0.mk hE9
    have B9 := Aside0.mk (b1.trans (b9.mono b1.size))
    have HW9 := Aside0.mk hW9
    have hsz := nums_size hb0
    have hone := all_oneCell_toArray (nums_one .u8 bs)
    have hl3 : (nums .u8 bs).length = 128 := by simp [nums, hb0]
    have hg9 := B1.out.size
    clear H1 hK hC hT hP hbs hn hm hrng hlen hread hb0 hW9 hE9 hT9 b1 b9 H KH hak hcl
    go_wp2_with (first
      | (with_reducible refine wpList_load_mid rfl TSe (.tmp 18) rfl gk (a * 128) ?_ (nums .u8 bs) _ hrng' h81 rfl ?_ ?_; (focus simp [Act.eval, Act.put]); (focus (rw [infoSe, hl3])))
      | (with_reducible refine wpList_alloc_agg rfl TSe _ rfl zeroSe ?_)
      | (with_reducible refine wpList_store_blk rfl TSe (.tmp 6) (.tmp 19) rfl w1.heap.size (nums .u8 bs).toArray ?_ ?_ infoSe hsz hone (Blk.newAt rfl) zB_len ?_; (focus simp [Act.eval, Act.put]); (focus simp [Act.eval, Act.put]); rw [setRow_top rfl]; rw [HW9.out]))
    clear c0 c1 tl d1 dl hrng' hsz hone hl3
    go_loopw [8, 25] (fun v8 v25 wr => ∃ i : Nat, v25 = .int .i64 (i : Int) ∧ Aside0 (i ≤ m) ∧ Aside0 (Blk wr w1.heap.size TSe (nums .u8 (lastV (V.cache.take i) (a : Int) bs)).toArray) ∧ Aside0 (Below w.heap.size w wr) ∧ Aside0 (Below w1.heap.size w1 wr)) (fun _ v25 _ => m - (intOf v25).toNat)
    case atStart => exact ⟨0, rfl, ⟨Nat.zero_le _⟩, E9, B9, ⟨by rw [← HW9.out]; exact (Below.refl _ _).alloc (Nat.le_refl _) _⟩⟩
    case round =>
      obtain ⟨i, rfl, hin, hE, hb, hb1⟩ := hrel
      by_cases hi : i < m
      · have t1 : decide ((i : Int) < (m : Int)) = true := decide_eq_true (by omega)
        have hil : i < V.cache.length := by have := HM.out; omega
        have h0 : (0 : Int) ≤ (i : Int) := by omega
        have h1 : (i : Int) < (m : Int) := by omega
        have r0 := eq_true h0
        have r1 := eq_true h1
        have hw : IntKind.i64.wrap ((i : Int) + 1) = ((i + 1 : Nat) : Int) := by rw [show ((i : Int) + 1) = ((i + 1 : Nat) : Int) by omega]; exact IntWalk.i64_in _ (by omega)
        have HCr := Kd.R_below HC.out hb1.out
        rw [HM.out] at HCr
        obtain ⟨gc, eA, -, hgc, hrng, hlen, -⟩ := flat_at HCr i hil
        cases eA
        obtain ⟨hx0, hx1, hx2⟩ := HS.out.cache V.cache[i] (List.getElem_mem hil)
        have hsn : V.cache.take (i + 1) = V.cache.take i ++ [V.cache[i]] := (List.take_append_getElem hil).symm
        have hln : (lastV (V.cache.take i) (a : Int) bs).length = 128 := last_length (fun x hx => (HS.out.cache x (List.mem_of_mem_take hx)).2.2) _ _ HB0.out
        obtain ⟨x, hx⟩ : ∃ x, V.cache[i] = x := ⟨_, rfl⟩
        rw [hx] at hrng hlen hx0 hx1 hx2 hsn
        have hrng2 : wr.rangeAt gc (i * 129) (stampC x) := hrng
        obtain ⟨x1, cs⟩ := x
        simp only at hx0 hx1 hx2
        have hfin : lastV (V.cache.take (i + 1)) (a : Int) bs = if x1 = (a : Int) then cs else lastV (V.cache.take i) (a : Int) bs := by
          rw [hsn, last_snoc]
        obtain ⟨cur, hcur⟩ : ∃ cur, lastV (V.cache.take i) (a : Int) bs = cur := ⟨_, rfl⟩
        rw [hcur] at hE hln hfin
        have hE' := hE.out
        obtain ⟨W8, hW8⟩ : ∃ W8, wr.alloc (.cells (stampC (x1, cs)).toArray TCa) = W8 := ⟨_, rfl⟩
        have b8 : Below wr.heap.size wr W8 := by rw [← hW8]; exact (Below.refl _ _).alloc (Nat.le_refl _) _
        have hE8 : Blk W8 wr.heap.size TCa (stampC (x1, cs)).toArray := by rw [← hW8]; exact Blk.new _ _ _
        obtain ⟨k0, k1⟩ := stamp_blk hE8
        have kl := hE8.lt
        have hEb := hE'.below b8
        have hlen2 : (stampC (x1, cs)).toArray.size = 129 := by simp [stampC, nums, hx2]
        have hone := stamp_one (x1, cs)
        have hlen3 : (nums .u8 cs).length = 128 := by simp [nums, hx2]
        have hone2 := all_oneCell_toArray (nums_one .u8 cs)
        have hsz2 := nums_size hx2
        have hszc := nums_size hln
        have B8 := Aside0.mk b8
        obtain ⟨S, hS⟩ : ∃ S, stampC (x1, cs) = S := ⟨_, rfl⟩
        rw [hS] at hW8 hlen2 hone hrng2
        have HW8 := Aside0.mk hW8
        have HFIN := Aside0.mk hfin
        clear hW8 hS hx hsn hrng hlen hfin hx0 hx1 HCr hcur hE' hE8 b8
        by_cases hxa : x1 = (a : Int)
        · have u1 : decide (x1 = (a : Int)) = true := decide_eq_true hxa
          have u2 : (x1 == (a : Int)) = true := by simpa using hxa
          have u3 : (x1 = (a : Int)) = True := eq_true hxa
          have HFIN2 := Aside0.mk (by have := HFIN.out; rwa [if_pos hxa] at this : lastV (V.cache.take (i + 1)) (a : Int) bs = cs)
          clear hxa
          go_wp2_with (first
            | (with_reducible refine wpList_load_mid rfl TCa (.tmp 27) rfl gc (i * 129) ?_ S _ hrng2 h83 rfl ?_ ?_; (focus simp [Act.eval, Act.put]); (focus (rw [infoCa]; simpa using hlen2.symm)))
            | (with_reducible refine wpList_alloc_agg rfl TCa _ rfl zeroCa ?_)
            | (with_reducible refine wpList_store_blk rfl TCa (.tmp 8) (.tmp 28) rfl wr.heap.size S.toArray ?_ ?_ infoCa hlen2 hone (Blk.newAt rfl) zCa_len ?_; (focus simp [Act.eval, Act.put]); (focus simp [Act.eval, Act.put]); rw [setRow_top rfl]; rw [HW8.out])
            | (with_reducible refine wpList_load_mid rfl TSe (.tmp 33) rfl wr.heap.size 1 ?_ (nums .u8 cs) _ k1 h81 rfl ?_ ?_; (focus simp [Act.eval, Act.put]); (focus (rw [infoSe, hlen3])))
            | (with_reducible refine wpList_store_blk rfl TSe (.tmp 6) (.tmp 34) rfl w1.heap.size (nums .u8 cs).toArray ?_ ?_ infoSe hsz2 hone2 hEb hszc ?_; (focus simp [Act.eval, Act.put]); (focus simp [Act.eval, Act.put])))
          go_roundw
          case rel => exact ⟨i + 1, by first | rfl | (rw [hw]) | go_num | simp [hw], ⟨by omega⟩, ⟨by rw [HFIN2.out]; exact hEb.row _⟩, ⟨below_setRow (hb.out.trans (B8.out.mono hb.out.size)) hg9 _⟩, ⟨below_setRow (hb1.out.trans (B8.out.mono hb1.out.size)) (Nat.le_refl _) _⟩⟩
          case measure => simp [intOf, hw]; omega
        · have u1 : decide (x1 = (a : Int)) = false := decide_eq_false hxa
          have u2 : (x1 == (a : Int)) = false := by simpa using hxa
          have u3 : (x1 = (a : Int)) = False := eq_false hxa
          have HFIN2 := Aside0.mk (by have := HFIN.out; rwa [if_neg hxa] at this : lastV (V.cache.take (i + 1)) (a : Int) bs = cur)
          clear hxa
          go_wp2_with (first
            | (with_reducible refine wpList_load_mid rfl TCa (.tmp 27) rfl gc (i * 129) ?_ S _ hrng2 h83 rfl ?_ ?_; (focus simp [Act.eval, Act.put]); (focus (rw [infoCa]; simpa using hlen2.symm)))
            | (with_reducible refine wpList_alloc_agg rfl TCa _ rfl zeroCa ?_)
            | (with_reducible refine wpList_store_blk rfl TCa (.tmp 8) (.tmp 28) rfl wr.heap.size S.toArray ?_ ?_ infoCa hlen2 hone (Blk.newAt rfl) zCa_len ?_; (focus simp [Act.eval, Act.put]); (focus simp [Act.eval, Act.put]); rw [setRow_top rfl]; rw [HW8.out]))
          go_roundw
          case rel => exact ⟨i + 1, by first | rfl | (rw [hw]) | go_num | simp [hw], ⟨by omega⟩, ⟨by rw [HFIN2.out]; exact hEb⟩, ⟨hb.out.trans (B8.out.mono hb.out.size)⟩, ⟨hb1.out.trans (B8.out.mono hb1.out.size)⟩⟩
          case measure => simp [intOf, hw]; omega
      · have t1 : decide ((i : Int) < (m : Int)) = false := decide_eq_false (by omega)
        have HF : Aside0 (Blk wr w1.heap.size TSe (nums .u8 (readV V (a : Int))).toArray) := ⟨by
          have := hE.out
          rw [List.take_of_length_le (by have := HM.out; have := hin.out; omega)] at this
          rw [HRD.out]
          exact this⟩
        have hsl : (nums .u8 (readV V (a : Int))).toArray.size = 128 := nums_size (HS.out.read HH.out)
        go_wp2
        go_ret2
        exact ⟨hb.out, .inr ⟨HH.out, _, rfl, hg9, HF.out⟩⟩
end Go.Proofs.Ytddhngalokmdoaa.Spo
