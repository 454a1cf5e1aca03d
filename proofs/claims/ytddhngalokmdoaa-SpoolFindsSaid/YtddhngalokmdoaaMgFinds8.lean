/- Texts of this claim, merged: Ssm, Lf1, Okd. -/
import Derived.Test.YtddhngalokmdoaaMgBase15
import Derived.Test.YtddhngalokmdoaaMgBase4
import Derived.Test.YtddhngalokmdoaaMgFinds7
import Derived.Test.YtddhngalokmdoaaWWords
import Derived.Deep.Slices
import Derived.ChangeSlices
import Derived.ChangeArms
import Derived.WalkKit
import Derived.ProofKit
import Derived.OpenShut
import Derived.Lib.LaidTab
namespace Go.Proofs.Ytddhngalokmdoaa.Spo
open Go.RowKit Go.Proofs.YtddhngalokmdoaaW.PrintWords Go.Proofs.YtddhngalokmdoaaW.PrintLast Go.Proofs.YtddhngalokmdoaaW.PrintMore Go.Proofs.Ytddhngalokmdoaa.Arr Go.Proofs.Ytddhngalokmdoaa.PSpoolPlays
set_option linter.unusedVariables false
set_option linter.unusedSimpArgs false

theorem recs_at {w : World} {B : Nat} {A : Option Addr} {n c : Nat} {xs : List (List Int)} (h : Recs w B (.slice A n c) xs) (i : Nat) (hi : i < xs.length) :
    ∃ g Ai ni ci, A = some ⟨g, 0, none⟩ ∧ w.cell? ⟨g, i, none⟩ = some (.slice Ai ni ci) ∧ ReadsInt w .u8 Ai ni xs[i] := by
  obtain ⟨ss, h1, h2, h3⟩ := h.out
  have hs : i < ss.length := by omega
  obtain ⟨A', c', e, hr⟩ := (h3 i ss[i] xs[i] (List.getElem?_eq_getElem hs) (List.getElem?_eq_getElem hi)).reads
  rcases h1.2 with ⟨e1, e2⟩ | ⟨g, cap, cur, e1, hg, hh, r1, r2, r3, r4⟩
  · omega
  · injection e1 with e1 e2 e3
    refine ⟨g, A', xs[i].length, c', e1, ?_, hr⟩
    rw [(Blk.mk hh).cell i]
    have hlen : (encs encS ss).length = ss.length := by simp [encs]
    have r4' : cur.toList.take (ss.length * 1) = encs encS ss := r4
    have : (cur.toList.take (ss.length * 1))[i]? = some (encS ss[i]) := by rw [r4']; simp [encs, List.getElem?_eq_getElem hs]
    rw [List.getElem?_take_of_lt (by omega)] at this
    rw [← e]
    simpa using this
theorem str_inj {a b : List Int} (ha : Bytes a) (hb : Bytes b) (h : strOfNums a = strOfNums b) : a = b := by
  have key : ∀ l : List Int, Bytes l → bytesOf (strOfNums l) = l := by
    intro l hl
    unfold bytesOf strOfNums
    simp only [List.map_map]
    refine (List.map_congr_left fun x hx => ?_).trans (List.map_id l)
    have := hl x hx
    simp [Function.comp]
    omega
  rw [← key a ha, ← key b hb, h]
theorem toList_inj {a b : ByteArray} : (a.toList == b.toList) = decide (a = b) := by
  rw [Bool.eq_iff_iff, beq_iff_eq, decide_eq_true_eq]
  constructor
  · intro h
    rw [Lib.toList_data, Lib.toList_data] at h
    cases a; cases b
    simp at h
    rw [h]
  · intro h; rw [h]
set_option maxHeartbeats 4000000 in
set_option maxRecDepth 100000 in
theorem same_calls (xs ys : List (List Int)) (hx : ∀ b, b ∈ xs → Bytes b) (hy : ∀ b, b ∈ ys → Bytes b) (B B' : Nat) (A A' : Option Addr) (n n' c c' : Nat) (w : World) (h : Recs w B (.slice A n c) xs) (h' : Recs w B' (.slice A' n' c') ys) (hn : xs.length = n) (hn' : ys.length = n') (hl : n ≤ 1000000000) (hl' : n' ≤ 1000000000) :
    Calls Try.prog 18 #[.slice A n c, .slice A' n' c'] w fun e w' => e = .returned (.bool (decide (xs = ys))) ∧ Below w.heap.size w w' := by
  by_cases hne : n = n'
  · subst hne
    have H := Aside0.mk h
    have H' := Aside0.mk h'
    have t1 : ((n : Int) != (n : Int)) = false := by simp
    have t2 : ((n : Int) == (n : Int)) = true := by simp
    have HN := Aside0.mk (⟨hn, hn'⟩ : _ ∧ _)
    have HB := Aside0.mk (⟨hx, hy⟩ : _ ∧ _)
    clear h h' hn hn' hx hy
    go_enter Try.func18, Try.ntmps18
    go_wp2_with fail
    go_loopw [13] (fun v13 wr => ∃ i : Nat, v13 = .int .i64 (i : Int) ∧ Aside0 (i ≤ n) ∧ Aside0 (∀ j, j < i → xs[j]? = ys[j]?) ∧ Aside0 (Below w.heap.size w wr)) (fun v13 _ => n - (intOf v13).toNat)
    case atStart => exact ⟨0, rfl, ⟨Nat.zero_le _⟩, ⟨fun j hj => absurd hj (Nat.not_lt_zero _)⟩, ⟨Below.refl _ _⟩⟩
    case round =>
      obtain ⟨i, rfl, hi, hs, hb⟩ := hrel
      by_cases hin : i < n
      · have u1 : decide ((i : Int) < (n : Int)) = true := decide_eq_true (by omega)
        have u1n : decide (i < n) = true := decide_eq_true hin
        have hix : i < xs.length := by have := HN.out; omega
        have hiy : i < ys.length := by have := HN.out; omega
        obtain ⟨g, Ai, ni, ci, e1, h1, h2⟩ := recs_at (H.out.below hb.out) i hix
        obtain ⟨g', Ai', ni', ci', e1', h1', h2'⟩ := recs_at (H'.out.below hb.out) i hiy
        subst e1 e1'
        have hbx := HB.out.1 _ (List.getElem_mem hix)
        have hby := HB.out.2 _ (List.getElem_mem hiy)
        obtain ⟨x, hx⟩ : ∃ x, xs[i] = x := ⟨_, rfl⟩
        obtain ⟨y, hy⟩ : ∃ y, ys[i] = y := ⟨_, rfl⟩
        rw [hx] at h2 hbx
        rw [hy] at h2' hby
        have p0 : (0 : Int) ≤ (i : Int) := by omega
        have p1 : (i : Int) < (n : Int) := by omega
        have q0 := eq_true p0
        have q1 := eq_true p1
        have q2 := eq_true hin
        have hw : IntKind.i64.wrap ((i : Int) + 1) = ((i + 1 : Nat) : Int) := by rw [show ((i : Int) + 1) = ((i + 1 : Nat) : Int) by omega]; exact IntWalk.i64_in _ (by omega)
        have HW := Aside0.mk hw
        have HXY := Aside0.mk (⟨by rw [List.getElem?_eq_getElem hix, hx], by rw [List.getElem?_eq_getElem hiy, hy], hbx, hby⟩ : xs[i]? = some x ∧ ys[i]? = some y ∧ Bytes x ∧ Bytes y)
        have R1 := Aside0.mk h2
        have R2 := Aside0.mk h2'
        have C1 := Aside0.mk h1
        have C2 := Aside0.mk h1'
        have HI := Aside0.mk hin
        have hstr : ∀ w', Below wr.heap.size wr w' → (convert TSl 9 (.slice Ai ni ci)).run Try.prog w' = .ok (.string (strOfNums x)) w' := fun w' hb' => string_of_reads Try.underlying22 Try.underlying5 Try.underlying9 (R1.out.below hb')
        have hstr' : ∀ w', Below wr.heap.size wr w' → (convert TSl 9 (.slice Ai' ni' ci')).run Try.prog w' = .ok (.string (strOfNums y)) w' := fun w' hb' => string_of_reads Try.underlying22 Try.underlying5 Try.underlying9 (R2.out.below hb')
        have HS1 := Aside0.mk hstr
        have HS2 := Aside0.mk hstr'
        clear hx hy hbx hby hix hiy h1 h1' h2 h2' hstr hstr' hw hin
        obtain ⟨bq, hbq⟩ : ∃ bq, decide (x = y) = bq := ⟨_, rfl⟩
        have hcmp : ((strOfNums x).toList == (strOfNums y).toList) = bq := by
          rw [toList_inj, ← hbq, Bool.eq_iff_iff, decide_eq_true_eq, decide_eq_true_eq]
          exact ⟨fun h => str_inj HXY.out.2.2.1 HXY.out.2.2.2 h, fun h => by rw [h]⟩
        have hcmp2 : decide (strOfNums x = strOfNums y) = bq := by rw [← toList_inj]; exact hcmp
        obtain ⟨sx, hsx⟩ : ∃ s, strOfNums x = s := ⟨_, rfl⟩
        obtain ⟨sy, hsy⟩ : ∃ s, strOfNums y = s := ⟨_, rfl⟩
        rw [hsx] at HS1
        rw [hsy] at HS2
        rw [hsx, hsy] at hcmp hcmp2
        have HBQ := Aside0.mk hbq
        clear hbq hsx hsy
        go_wp2_with fail
        refine Qt.wp_region_all (fun w' => Below wr.heap.size wr w') (by kernel_rfl) (by kernel_rfl) (Below.refl _ _).drew ?_
        iterate 11 ((first | (with_reducible refine Qt.q_val' rfl ?_) | ((with_reducible refine Qg.on_val' ?_); apply Exists.intro; apply Exists.intro; apply Exists.intro; refine ⟨?_, ?_, ?_, ?_⟩; (focus rfl); (focus rfl); (focus rfl))); apply Exists.intro; refine ⟨?_, ?_⟩; (focus (intro w' hw'; have k1 := C1.out; have k2 := C2.out; have b1 := (hw'.cell (World.block_lt_of_cell? wr _ k1)).trans k1; have b2 := (hw'.cell (World.block_lt_of_cell? wr _ k2)).trans k2; have s1 := HS1.out w' hw'; have s2 := HS2.out w' hw'; clear k1 k2; go_simp; (first | done | (with_reducible rfl)))); intro K hK; go_simp; (first | (with_reducible refine hK _ ?_) | (refine hK _ ?_)); clear hK K)
        (refine wpQuiet_nil ?_; intro w' hw')
        have BW := Aside0.mk (hb.out.trans (hw'.mono hb.out.size))
        clear hw'
        have hw := HW.out
        cases bq with
        | false =>
          go_wp2
          go_ret
          refine ⟨?_, BW.out⟩
          have hne : decide (xs = ys) = false := by
           rw [decide_eq_false_iff_not]
           intro e
           subst e
           obtain ⟨e1, e2, -⟩ := HXY.out
           exact absurd (Option.some.inj (e1.symm.trans e2)) (of_decide_eq_false HBQ.out)
          rw [hne]; rfl
        | true =>
          go_wp2
          go_roundw
          case rel => exact ⟨i + 1, by first | rfl | (rw [HW.out]) | go_num, ⟨HI.out⟩, ⟨fun j hj => by
            rcases Nat.lt_or_ge j i with h | h
            · exact hs.out j h
            · obtain rfl : j = i := by omega
              obtain ⟨e1, e2, -, -⟩ := HXY.out
              rw [e1, e2, of_decide_eq_true HBQ.out]⟩, BW⟩
          case measure => have := HI.out; simp [intOf, HW.out]; omega
      · have u1 : decide ((i : Int) < (n : Int)) = false := decide_eq_false (by omega)
        have u1n : decide (i < n) = false := decide_eq_false hin
        have HE := Aside0.mk (show xs = ys by
          apply List.ext_getElem?
          intro j
          by_cases hj : j < i
          · exact hs.out j hj
          · have := HN.out
            rw [List.getElem?_eq_none (by omega), List.getElem?_eq_none (by omega)])
        clear hin
        go_wp2
        go_ret
        exact ⟨by rw [decide_eq_true HE.out]; rfl, hb.out⟩
  · have t1 : ((n : Int) != (n' : Int)) = true := by simp; omega
    have t2 : ((n : Int) == (n' : Int)) = false := by simp; omega
    have t3 : decide ((n : Int) = (n' : Int)) = false := decide_eq_false (by omega)
    have t4 : ((n : Int) = (n' : Int)) = False := eq_false (by omega)
    have t5 : (n = n') = False := eq_false hne
    have t6 : decide (n = n') = false := decide_eq_false hne
    have t7 : (n == n') = false := by simpa using hne
    have t8 : (n != n') = true := by simpa using hne
    have HE := Aside0.mk (show decide (xs = ys) = false by
      rw [decide_eq_false_iff_not]
      intro e
      exact hne (by rw [← hn, ← hn', e]))
    clear h h' hn hn' hx hy hne
    go_enter Try.func18, Try.ntmps18
    go_wp2
    go_ret
    exact ⟨by rw [HE.out]; rfl, Below.refl _ _⟩
def Two (w0 w : World) (t g : Nat) (nk : Nat) (V : TrayV) (m : Nat) : Prop := TrAt w0 w t V ∧ V.kept.length = nk ∧ V.cache.length ≤ m ∧ ∃ A1 A2 n1 n2 c1 c2, DocT w (.slice A1 n1 c1) (.slice A2 n2 c2) V m ∧ Blk w g TDt (docC nk (.slice A1 n1 c1) (.slice A2 n2 c2) V.left V.dark)
theorem Two.below {w0 w w1 : World} {t g nk : Nat} {V : TrayV} {m : Nat} (H : Two w0 w t g nk V m) (hb : Below w.heap.size w w1) (h0 : Below w0.heap.size w0 w) : Two w0 w1 t g nk V m := by
  obtain ⟨⟨⟨P, h1, h2⟩, h3, h4, h5, h6⟩, hk, hc, A1, A2, n1, n2, c1, c2, k1, k2⟩ := H
  exact ⟨⟨⟨P, h1.below hb, h2⟩, h3, h4, h5, h0.trans (hb.mono h0.size)⟩, hk, hc, A1, A2, n1, n2, c1, c2, k1.below hb, k2.below hb⟩
theorem recs_form' {w : World} {B : Nat} {v : Value} {xs : List (List Int)} (h : Recs w B v xs) : ∃ A c, v = .slice A xs.length c ∧ xs.length ≤ c := by
  obtain ⟨ss, h1, h2, h3⟩ := h.out
  rcases h1.2 with ⟨rfl, e⟩ | ⟨g, cap, cur, rfl, -, -, hc, -⟩
  · rw [h2] at e
    exact ⟨none, 0, by rw [e], by omega⟩
  · rw [h2] at hc ⊢
    exact ⟨_, _, rfl, hc⟩
def SFd (tl : Int) (f : FuncId) (args : Array Value) (u : Value) (w : World) : Prop := (f = 18 → u = .bool true) ∧ (f = 19 → u = .int .i64 tl)
theorem sfd_stb {tl : Int} {f : FuncId} {args : Array Value} {u : Value} : Qw.Stb (SFd tl f args u) := fun w w' h hb => h
set_option maxHeartbeats 16000000 in
set_option maxRecDepth 100000 in
theorem lawFinds_calls (xs : List (List Int)) (hby : ∀ b, b ∈ xs → Bytes b) (hl : xs.length ≤ 9223372036854775807) (A : Option Addr) (c : Nat) (hd ep : Int) (w : World) (hC : Kd.C (Kd.slice 5 (Kd.int .u8)) w A xs.length xs) (hc : xs.length ≤ c) :
    Calls Try.prog 4 #[.slice A xs.length c, .int .i64 hd, .int .i64 ep] w fun e w' => e = .returned (.bool true) ∧ Below w.heap.size w w' := by
  have HA := Aside0.mk (⟨hC, hby⟩ : _ ∧ _)
  obtain ⟨n, hn⟩ : ∃ n, xs.length = n := ⟨_, rfl⟩
  have HN := Aside0.mk hn
  rw [hn] at hl ⊢
  have HL := Aside0.mk hl
  clear hC hby hl hc hn
  have KN := Aside0.mk (tr_new 8 (by decide) (by decide) w w (Below.refl _ _))
  go_enter Try.func4, Try.ntmps4
  go_wp2_with fail
  refine KN.out.mono ?_
  rintro e w1 ⟨t, rfl, hT, b1⟩
  have T1 := Aside0.mk hT
  clear hT b1 KN
  go_wp2_with fail
  refine (dnew_calls 8 (by decide) (by decide) w1).mono ?_
  rintro e w2 ⟨rfl, b2⟩
  have hT2 : TrAt w w2 t (newV 8) := by
    obtain ⟨⟨P, h1, h2⟩, h3, h4, h5, h6⟩ := T1.out
    exact ⟨⟨P, h1.below b2, h2⟩, h3, h4, h5, h6.trans (b2.mono h6.size)⟩
  obtain ⟨g, hg⟩ : ∃ g, w2.heap.size = g := ⟨_, rfl⟩
  have hgw0 : w.heap.size ≤ g := by rw [← hg]; exact hT2.low.size
  obtain ⟨W3, hW3⟩ : ∃ W3, w2.alloc (.cells (docC 8 (.slice none 0 0) (.slice none 0 0) (-1) false) TDt) = W3 := ⟨_, rfl⟩
  have HW3 := Aside0.mk hW3
  have b3 : Below w2.heap.size w2 W3 := by rw [← hW3]; exact (Below.refl _ _).alloc (Nat.le_refl _) _
  have L3 := Aside0.mk (hT2.low.trans (b3.mono hT2.low.size))
  have TW3 := Aside0.mk (⟨by
    obtain ⟨⟨P, h1, h2⟩, h3, h4, h5, h6⟩ := hT2
    exact ⟨⟨P, h1.below b3, h2⟩, h3, h4, h5, h6.trans (b3.mono h6.size)⟩, by simp [newV], Nat.zero_le _, none, none, 0, 0, 0, 0, DocT.new W3 8, by rw [← hW3]; exact Blk.newAt hg.symm⟩ : Two w W3 t g 8 (newV 8) 0)
  clear hT2 b3 hW3 b2 T1
  go_wp2_with fail
  try rw [HW3.out]
  refine (awake_calls W3).mono ?_
  rintro e w4 ⟨rfl, b4⟩
  have L4 := Aside0.mk (L3.out.trans (b4.mono L3.out.size))
  have TW4 := Aside0.mk (Two.below TW3.out b4 L3.out)
  clear b4 TW3 L3 HW3
  by_cases h8 : n > 8
  · have t1 : decide ((n : Int) > 8) = true := decide_eq_true (by omega)
    clear h8
    go_wp2_with fail
    refine (awake_calls w4).mono ?_
    rintro e w5 ⟨rfl, b5⟩
    have L5 := Aside0.mk (L4.out.trans (b5.mono L4.out.size))
    clear b5
    go_wp2
    go_ret
    exact ⟨rfl, L5.out⟩
  have t1 : decide ((n : Int) > 8) = false := decide_eq_false (by omega)
  have H8 := Aside0.mk (by omega : n ≤ 8)
  have HGW := Aside0.mk hgw0
  clear hgw0
  clear h8
  go_wp2_with fail
  go_loopw [11, 12, 45] (fun v11 v12 v45 wr => ∃ (i : Nat) (V : TrayV), v45 = .int .i64 (i : Int) ∧ Aside0 (i ≤ n) ∧ Aside0 (Two w wr t g 8 V i) ∧ Aside0 (Below w.heap.size w wr)) (fun _ _ v45 _ => n - (intOf v45).toNat)
  case atStart => exact ⟨0, newV 8, rfl, ⟨Nat.zero_le _⟩, TW4, L4⟩
  case round =>
    obtain ⟨i, V, rfl, hin, hT, hb⟩ := hrel
    by_cases hi : i < n
    · have u1 : decide ((i : Int) < (n : Int)) = true := decide_eq_true (by omega)
      have u1n : decide (i < n) = true := decide_eq_true hi
      have hil : i < xs.length := by have := HN.out; omega
      obtain ⟨ad, A0, c0, eA, hx, lc, hg0⟩ := at_L1 HA.out.1 (i : Int) (by omega) (by omega)
      cases eA
      rw [Int.toNat_natCast] at hx
      have hrd : rd_L1 xs (i : Int) = xs[i] := by
        unfold rd_L1
        rw [Int.toNat_natCast, List.getD, List.getElem?_eq_getElem hil, Option.getD_some]
      rw [hrd] at hx lc hg0
      have hbb := HA.out.2 _ (List.getElem_mem hil)
      have hx9 := (hb.out.cell (World.block_lt_of_cell? w _ hx)).trans hx
      have hr0 : ReadsInt w .u8 A0 xs[i].length xs[i] := Kd.reads_of_C (enc := Value.int .u8) (d := (0 : Int)) (h1 := fun _ => rfl) hg0
      have hel : ∀ ad, A0 = some ad → 0 < xs[i].length → ad.block < w.heap.size := fun ad e h0 => by
        obtain ⟨ad', e', hc⟩ := hr0.2.2 h0
        rw [e] at e'
        cases e'
        have := World.block_lt_of_cell? w _ (hc 0 h0)
        rwa [add_block] at this
      obtain ⟨bs, hbs⟩ : ∃ bs, xs[i] = bs := ⟨_, rfl⟩
      rw [hbs] at hx9 lc hr0 hel hbb
      obtain ⟨L, hL⟩ : ∃ L, bs.length = L := ⟨_, rfl⟩
      rw [hL] at hx9 lc hr0 hel
      have r0 := eq_true (show (0 : Int) ≤ (i : Int) by omega)
      have r1 := eq_true (show (i : Int) < (n : Int) by omega)
      have r2 := eq_true hi
      have hw : IntKind.i64.wrap ((i : Int) + 1) = ((i + 1 : Nat) : Int) := by rw [show ((i : Int) + 1) = ((i + 1 : Nat) : Int) by omega]; exact IntWalk.i64_in _ (by have := H8.out; omega)
      have HI := Aside0.mk (⟨hi, hw⟩ : _ ∧ _)
      have HB2 := Aside0.mk (⟨hr0, hel, hbb, hL⟩ : _ ∧ _ ∧ _ ∧ _)
      clear hx hg0 hbb hrd hr0 hel hbs hL hi hil
      by_cases h128 : L > 128
      · have u2 : decide ((L : Int) > 128) = true := decide_eq_true (by omega)
        clear h128
        go_wp2
        go_ret
        exact ⟨rfl, hb.out⟩
      have u2 : decide ((L : Int) > 128) = false := decide_eq_false (by omega)
      clear h128
      obtain ⟨hTr, hk8, hcl, A1, A2, n1, n2, c1, c2, hD, hG⟩ := hT.out
      have KW := Aside0.mk (tr_write2 hTr (i : Int) bs A0 L c0 (HB2.out.1.below hb.out) HB2.out.2.2.1 (by have := hin.out; have := H8.out; omega) HB2.out.2.1)
      have HT := Aside0.mk (⟨hk8, hcl, hD, hG, hTr.left⟩ : _ ∧ _ ∧ _ ∧ _ ∧ _)
      clear hTr hk8 hcl hD hG
      go_wp2_with fail
      refine KW.out.mono ?_
      rintro e w5 ⟨rfl, hT5, hF5⟩
      obtain ⟨hk8, hcl, hD, hG, hlf⟩ := HT.out
      have hG5 := hF5 _ _ _ hG (by decide) (by decide) (by decide) (by decide)
      have hD5 := hD.frame hF5
      have KP := Aside0.mk (dputT_calls 8 _ _ V i w5 hD5 hk8 hlf (by have := hin.out; have := H8.out; omega) (i : Int) bs A0 L c0 HB2.out.2.2.2 (HB2.out.1.below hT5.low))
      have T5 := Aside0.mk hT5
      have G5 := Aside0.mk hG5
      have HV := Aside0.mk (⟨hk8, hcl, hlf⟩ : _ ∧ _ ∧ _)
      clear hk8 hcl hD hG hlf hG5 hD5 hF5 hT5 KW HT
      obtain ⟨D5, hD5⟩ : ∃ D5, docC ((8 : Nat) : Int) (.slice A1 n1 c1) (.slice A2 n2 c2) V.left V.dark = D5 := ⟨_, rfl⟩
      have hds : D5.size = 5 := by rw [← hD5]; rfl
      rw [hD5] at KP G5
      clear hD5
      go_wp2_with (with_reducible refine wpList_load_blk rfl TDt (.tmp 9) rfl _ _ _ rfl Try.underlying34 rfl infoDt G5.out hds ?_)
      refine KP.out.mono ?_
      rintro e w6 ⟨K', C', rfl, hD6, b6⟩
      obtain ⟨A3, A4, n3, n4, c3, c4, rfl, rfl, -⟩ := hD6.form
      have L6 := T5.out.low.trans (b6.mono T5.out.low.size)
      have hT6 : TrAt w w6 t (writeV V (i : Int) bs).1 := by
        obtain ⟨⟨P, h1, h2⟩, h3, h4, h5, h6⟩ := T5.out
        exact ⟨⟨P, h1.below b6, h2⟩, h3, h4, h5, L6⟩
      have G6 := Aside0.mk (G5.out.below b6)
      obtain ⟨V6, hV6⟩ : ∃ V6, (writeV V (i : Int) bs).1 = V6 := ⟨_, rfl⟩
      have hwl := write_left (a := (i : Int)) (bs := bs) HV.out.2.2
      rw [hV6] at hD6 hT6 hwl
      rw [hV6]
      have hs1 := one_doc ((8 : Nat) : Int) A3 A4 n3 n4 c3 c4 V6.left V6.dark
      obtain ⟨D6, hD6'⟩ : ∃ D6, docC ((8 : Nat) : Int) (.slice A3 n3 c3) (.slice A4 n4 c4) V6.left V6.dark = D6 := ⟨_, rfl⟩
      have hsz : D6.size = 5 := by rw [← hD6']; rfl
      rw [hD6'] at hs1
      rw [hD6']
      have HD6' := Aside0.mk hD6'
      have HD6 := Aside0.mk (⟨hD6, hT6, hwl, L6⟩ : _ ∧ _ ∧ _ ∧ _)
      clear hD6 hT6 hwl L6 b6 KP T5 hV6 hD6'
      have hw := HI.out.2
      go_wp2_with (with_reducible refine wpList_store_blk rfl TDt (.tmp 9) _ rfl _ _ rfl rfl infoDt hsz hs1 G6.out hds ?_)
      have hgw : w.heap.size ≤ g := HGW.out
      have T7 : Two w (w6.setRow g D6) t g 8 V6 (i + 1) := by
        rw [← HD6'.out]
        obtain ⟨hD6, hT6, hwl, L6⟩ := HD6.out
        exact ⟨hT6.setRow G6.out (by decide) (by decide) (by decide) hgw _, by rw [hwl.2.1]; exact HV.out.1, by have := HV.out.2.1; omega, A3, A4, n3, n4, c3, c4, hD6.setRow G6.out (by decide) _, G6.out.row _⟩
      have T7' := Aside0.mk T7
      have L7 := Aside0.mk (below_setRow HD6.out.2.2.2 hgw D6)
      clear T7
      go_roundw
      case rel => exact ⟨i + 1, V6, by first | rfl | (rw [HI.out.2]) | go_num, ⟨HI.out.1⟩, T7', L7⟩
      case measure => have := HI.out; simp [intOf, HI.out.2]; omega
    · have u1 : decide ((i : Int) < (n : Int)) = false := decide_eq_false (by omega)
      have u1n : decide (i < n) = false := decide_eq_false hi
      obtain ⟨hTr, hk8, hcl, A1, A2, n1, n2, c1, c2, hD, hG⟩ := hT.out
      have KO := Aside0.mk (tr_open hTr (by have := H8.out; have := hin.out; omega) 1 6 hd ep)
      have HT := Aside0.mk (⟨hTr.sound, hTr.bytes, hk8, hD, hG⟩ : _ ∧ _ ∧ _ ∧ _ ∧ _)
      clear hi hTr hk8 hcl hD hG
      go_wp2_with fail
      refine KO.out.mono ?_
      rintro e w5 ⟨b5, hp⟩
      obtain ⟨hS, hB, hk8, hD, hG⟩ := HT.out
      have KD := Aside0.mk (dopen_calls 8 _ _ V i w5 (hD.below b5) hS hB hk8 (by have := H8.out; have := hin.out; omega) V.left V.dark 1 6 hd ep)
      have G5 := Aside0.mk (hG.below b5)
      have L5 := Aside0.mk (hb.out.trans (b5.mono hb.out.size))
      have HKB := Aside0.mk (⟨hS, hB, hk8⟩ : _ ∧ _ ∧ _)
      obtain ⟨D5, hD5⟩ : ∃ D5, docC ((8 : Nat) : Int) (.slice A1 n1 c1) (.slice A2 n2 c2) V.left V.dark = D5 := ⟨_, rfl⟩
      have hds : D5.size = 5 := by rw [← hD5]; rfl
      rw [hD5] at KD G5
      clear hS hB hk8 hD hG HT b5 hD5
      rcases hp with ⟨hok, rfl⟩ | ⟨hok, s, v, rfl, hsz, hrec, hsp, -⟩
      · have HOK := Aside0.mk hok
        clear hok
        go_wp2_with (with_reducible refine wpList_load_blk rfl TDt (.tmp 9) rfl _ _ _ rfl Try.underlying34 rfl infoDt G5.out hds ?_)
        refine KD.out.mono ?_
        rintro e w6 ⟨b6, hq⟩
        rcases hq with ⟨-, rfl⟩ | ⟨hok2, -⟩
        rotate_left
        · rw [HOK.out] at hok2; cases hok2
        have L6 := Aside0.mk (L5.out.trans (b6.mono L5.out.size))
        clear b6
        go_upto_region 15 with fail
        obtain ⟨W7, hW7⟩ : ∃ W7, w6.alloc (.cells zDs TDs) = W7 := ⟨_, rfl⟩
        have L7 := Aside0.mk (by rw [← hW7]; exact L6.out.alloc L6.out.size _ : Below w.heap.size w W7)
        try rw [hW7]
        have KSm := Aside0.mk (fun w' => same_calls [] [] (fun b hb => by cases hb) (fun b hb => by cases hb) 0 0 none none 0 0 0 0 w' (Recs.nil _ _) (Recs.nil _ _) rfl rfl (by decide) (by decide))
        have HST : Qw.Stb (fun w' => Below W7.heap.size W7 w') := fun w1 w2 kk hb => kk.trans (hb.mono kk.size)
        have HE0 : Below W7.heap.size W7 W7.drew := (Below.refl _ _).drew
        clear hW7
        go_wp2_with fail
        refine Qw.wp_region_all (SFd 0) _ HST (by kernel_rfl) (by kernel_rfl) HE0 ?_
        clear HST HE0
        iterate 6 ((first | (with_reducible refine Qw.w_val ⟨fun _ _ _ hF h w' h1 h2 => h w' h1 fun k => hF k _ (h2 k)⟩ ?_ (Qw.wanted_none rfl) ?_) | ((with_reducible refine Qw.w_val ⟨fun _ _ _ hF h w' h1 h2 => h w' h1 fun k => hF k _ (h2 k)⟩ ?_ ?_ ?_); (focus (exact fun _ => trivial)); (focus (exact Qg.wanted_on rfl rfl rfl)))); (try (focus (exact fun _ => trivial))); apply Exists.intro; refine ⟨?_, ?_⟩; (focus (intro w' hw' hp'; skip; go_simp; (first | done | (with_reducible rfl)))); intro K hK; go_simp; (first | (with_reducible refine hK _ ?_) | (refine hK _ ?_)); clear hK K)
        ((with_reducible refine Qw.w_call ?_ ?_); (first | (focus (exact Qw.wanted_none rfl)) | (focus (exact Qg.wanted_on rfl rfl rfl))); apply Exists.intro; apply Exists.intro; refine ⟨?_, ?_, ?_, ?_⟩; (focus (intro w'; go_simp; (first | rfl | exact ⟨rfl, rfl⟩))); (focus (exact fun u => sfd_stb)); (focus (intro w' hw' hp'; refine (KSm.out w').mono ?_; rintro e w8 ⟨rfl, b8⟩; exact ⟨_, rfl, b8, ⟨fun _ => rfl, fun h => absurd h (by decide)⟩⟩)); rintro u8 ⟨wv8, -, -, hu8⟩; intro K hK; go_simp; (first | (with_reducible refine hK _ ?_) | (refine hK _ ?_)); clear hK K)
        obtain rfl := hu8.1 rfl
        clear hu8 wv8
        iterate 12 ((first | (with_reducible refine Qw.w_val ⟨fun _ _ _ hF h w' h1 h2 => h w' h1 fun k => hF k _ (h2 k)⟩ ?_ (Qw.wanted_none rfl) ?_) | ((with_reducible refine Qw.w_val ⟨fun _ _ _ hF h w' h1 h2 => h w' h1 fun k => hF k _ (h2 k)⟩ ?_ ?_ ?_); (focus (exact fun _ => trivial)); (focus (exact Qg.wanted_on rfl rfl rfl)))); (try (focus (exact fun _ => trivial))); apply Exists.intro; refine ⟨?_, ?_⟩; (focus (intro w' hw' hp'; skip; go_simp; (first | done | (with_reducible rfl)))); intro K hK; go_simp; (first | (with_reducible refine hK _ ?_) | (refine hK _ ?_)); clear hK K)
        iterate 5 ((with_reducible refine Qw.w_skip ⟨fun _ _ _ hF h w' h1 h2 => h w' h1 fun k => hF k _ (h2 k)⟩ ?_ ?_ ?_); (focus (exact fun _ => trivial)); (first | (focus (exact Qg.wanted_off rfl rfl rfl)) | (focus (exact Qg.wanted_never rfl rfl rfl))); intro K hK; go_simp; (first | (with_reducible refine hK _ ?_) | (refine hK _ ?_)); clear hK K)
        iterate 3 ((first | (with_reducible refine Qw.w_val ⟨fun _ _ _ hF h w' h1 h2 => h w' h1 fun k => hF k _ (h2 k)⟩ ?_ (Qw.wanted_none rfl) ?_) | ((with_reducible refine Qw.w_val ⟨fun _ _ _ hF h w' h1 h2 => h w' h1 fun k => hF k _ (h2 k)⟩ ?_ ?_ ?_); (focus (exact fun _ => trivial)); (focus (exact Qg.wanted_on rfl rfl rfl)))); (try (focus (exact fun _ => trivial))); apply Exists.intro; refine ⟨?_, ?_⟩; (focus (intro w' hw' hp'; skip; go_simp; (first | done | (with_reducible rfl)))); intro K hK; go_simp; (first | (with_reducible refine hK _ ?_) | (refine hK _ ?_)); clear hK K)
        ((with_reducible refine Qw.w_nil ?_); intro w' hw' hf')
        have L8 := Aside0.mk (L7.out.trans (hw'.mono L7.out.size))
        clear hw' hf'
        go_wp2
        go_ret
        exact ⟨rfl, L8.out⟩
      · have HOK := Aside0.mk hok
        have hany := opened_any HKB.out.2.1 1 6 hd ep
        obtain ⟨R, hR⟩ : ∃ R, (opened V 1 6 hd ep).1 = R := ⟨_, rfl⟩
        obtain ⟨tl, htl⟩ : ∃ tl, (opened V 1 6 hd ep).2 = tl := ⟨_, rfl⟩
        rw [hR] at hrec hany
        rw [htl] at hsp
        have HRT := Aside0.mk (⟨hR, htl⟩ : _ ∧ _)
        obtain ⟨A5, c5, rfl, -⟩ := recs_form' hrec
        obtain ⟨m5, hm5⟩ : ∃ m5, R.length = m5 := ⟨_, rfl⟩
        rw [hm5] at hrec hany
        rw [hm5]
        have HM5 := Aside0.mk (⟨hm5, hany.1, hany.2⟩ : _ ∧ _ ∧ m5 ≤ 6)
        have C5 := Aside0.mk hrec
        have S5 := Aside0.mk hsp
        clear hok hR htl hany hm5 hrec hsp hsz
        go_wp2_with (with_reducible refine wpList_load_blk rfl TDt (.tmp 9) rfl _ _ _ rfl Try.underlying34 rfl infoDt G5.out hds ?_)
        refine KD.out.mono ?_
        rintro e w6 ⟨b6, hq⟩
        rcases hq with ⟨hok2, -⟩ | ⟨-, v6, rfl, hrec6⟩
        · rw [HOK.out] at hok2; cases hok2
        rw [HRT.out.1] at hrec6
        rw [HRT.out.2]
        obtain ⟨A6, c6, rfl, -⟩ := recs_form' hrec6
        rw [HM5.out.1] at hrec6
        rw [HM5.out.1]
        have L6 := Aside0.mk (L5.out.trans (b6.mono L5.out.size))
        have C6 := Aside0.mk (C5.out.below b6)
        have S6 := Aside0.mk (S5.out.below b6)
        have D6 := Aside0.mk hrec6
        clear b6 hrec6
        go_upto_region 15 with fail
        obtain ⟨W7, hW7⟩ : ∃ W7, w6.alloc (.cells (docS ⟨1, 6, ep, hd, tl, false⟩) TDs) = W7 := ⟨_, rfl⟩
        have b67 : Below w6.heap.size w6 W7 := by rw [← hW7]; exact (Below.refl _ _).alloc (Nat.le_refl _) _
        have L7 := Aside0.mk (L6.out.trans (b67.mono L6.out.size))
        have C7 := Aside0.mk (C6.out.below b67)
        have D7 := Aside0.mk (D6.out.below b67)
        have S7 := Aside0.mk (S6.out.below b67)
        have G7 := Aside0.mk (by rw [← hW7]; exact Blk.new _ _ _ : Blk W7 w6.heap.size TDs (docS ⟨1, 6, ep, hd, tl, false⟩))
        obtain ⟨g6, hg6⟩ : ∃ g6, w6.heap.size = g6 := ⟨_, rfl⟩
        rw [hg6] at G7
        try rw [hW7]
        try rw [hg6]
        have KSm := Aside0.mk (fun w' (hb : Below W7.heap.size W7 w') => same_calls R R HM5.out.2.1 HM5.out.2.1 _ _ A5 A6 m5 m5 c5 c6 w' (C7.out.below hb) (D7.out.below hb) HM5.out.1 HM5.out.1 (by have := HM5.out.2.2; omega) (by have := HM5.out.2.2; omega))
        have KTl := Aside0.mk (fun w' (hb : Below W7.heap.size W7 w') => tail_calls s t ⟨1, 6, ep, hd, tl, false⟩ w' (S7.out.below hb))
        have HST : Qw.Stb (fun w' => Blk w' g6 TDs (docS ⟨1, 6, ep, hd, tl, false⟩) ∧ Below W7.heap.size W7 w') := fun w1 w2 kk hb => ⟨kk.1.below hb, kk.2.trans (hb.mono kk.2.size)⟩
        have HE0 : Blk W7.drew g6 TDs (docS ⟨1, 6, ep, hd, tl, false⟩) ∧ Below W7.heap.size W7 W7.drew := ⟨G7.out.drew, (Below.refl _ _).drew⟩
        clear hW7 hg6 b67
        go_wp2_with fail
        refine Qw.wp_region_all (SFd tl) _ HST (by kernel_rfl) (by kernel_rfl) HE0 ?_
        clear HST HE0
        iterate 6 ((first | (with_reducible refine Qw.w_val ⟨fun _ _ _ hF h w' h1 h2 => h w' h1 fun k => hF k _ (h2 k)⟩ ?_ (Qw.wanted_none rfl) ?_) | ((with_reducible refine Qw.w_val ⟨fun _ _ _ hF h w' h1 h2 => h w' h1 fun k => hF k _ (h2 k)⟩ ?_ ?_ ?_); (focus (exact fun _ => trivial)); (focus (exact Qg.wanted_on rfl rfl rfl)))); (try (focus (exact fun _ => trivial))); apply Exists.intro; refine ⟨?_, ?_⟩; (focus (intro w' hw' hp'; skip; go_simp; (first | done | (with_reducible rfl)))); intro K hK; go_simp; (first | (with_reducible refine hK _ ?_) | (refine hK _ ?_)); clear hK K)
        ((with_reducible refine Qw.w_call ?_ ?_); (first | (focus (exact Qw.wanted_none rfl)) | (focus (exact Qg.wanted_on rfl rfl rfl))); apply Exists.intro; apply Exists.intro; refine ⟨?_, ?_, ?_, ?_⟩; (focus (intro w'; go_simp; (first | rfl | exact ⟨rfl, rfl⟩))); (focus (exact fun u => sfd_stb)); (focus (intro w' hw' hp'; refine (KSm.out w' hw'.2).mono ?_; rintro e w8 ⟨rfl, b8⟩; exact ⟨_, rfl, b8, ⟨fun _ => by simp, fun h => absurd h (by decide)⟩⟩)); rintro u8 ⟨wv8, -, -, hu8⟩; intro K hK; go_simp; (first | (with_reducible refine hK _ ?_) | (refine hK _ ?_)); clear hK K)
        obtain rfl := hu8.1 rfl
        clear hu8 wv8
        iterate 13 ((first | (with_reducible refine Qw.w_val ⟨fun _ _ _ hF h w' h1 h2 => h w' h1 fun k => hF k _ (h2 k)⟩ ?_ (Qw.wanted_none rfl) ?_) | ((with_reducible refine Qw.w_val ⟨fun _ _ _ hF h w' h1 h2 => h w' h1 fun k => hF k _ (h2 k)⟩ ?_ ?_ ?_); (focus (exact fun _ => trivial)); (focus (exact Qg.wanted_on rfl rfl rfl)))); (try (focus (exact fun _ => trivial))); apply Exists.intro; refine ⟨?_, ?_⟩; (focus (intro w' hw' hp'; skip; go_simp; (first | done | (with_reducible rfl)))); intro K hK; go_simp; (first | (with_reducible refine hK _ ?_) | (refine hK _ ?_)); clear hK K)
        ((with_reducible refine Qw.w_call ?_ ?_); (first | (focus (exact Qw.wanted_none rfl)) | (focus (exact Qg.wanted_on rfl rfl rfl))); apply Exists.intro; apply Exists.intro; refine ⟨?_, ?_, ?_, ?_⟩; (focus (intro w'; go_simp; (first | rfl | exact ⟨rfl, rfl⟩))); (focus (exact fun u => sfd_stb)); (focus (intro w' hw' hp'; refine (KTl.out w' hw'.2).mono ?_; rintro e w8 ⟨rfl, b8⟩; exact ⟨_, rfl, b8, ⟨fun h => absurd h (by decide), fun _ => rfl⟩⟩)); rintro u8 ⟨wv8, -, -, hu8⟩; intro K hK; go_simp; (first | (with_reducible refine hK _ ?_) | (refine hK _ ?_)); clear hK K)
        obtain rfl := hu8.2 rfl
        clear hu8 wv8
        iterate 6 ((first | (with_reducible refine Qw.w_val ⟨fun _ _ _ hF h w' h1 h2 => h w' h1 fun k => hF k _ (h2 k)⟩ ?_ (Qw.wanted_none rfl) ?_) | ((with_reducible refine Qw.w_val ⟨fun _ _ _ hF h w' h1 h2 => h w' h1 fun k => hF k _ (h2 k)⟩ ?_ ?_ ?_); (focus (exact fun _ => trivial)); (focus (exact Qg.wanted_on rfl rfl rfl)))); (try (focus (exact fun _ => trivial))); apply Exists.intro; refine ⟨?_, ?_⟩; (focus (intro w' hw' hp'; have e4 := hw'.1.cell 4; have el := hw'.1.lt; go_simp; (first | done | (with_reducible rfl)))); intro K hK; go_simp; (first | (with_reducible refine hK _ ?_) | (refine hK _ ?_)); clear hK K)
        ((with_reducible refine Qw.w_nil ?_); intro w' hw' hf')
        have L8 := Aside0.mk (L7.out.trans (hw'.2.mono L7.out.size))
        clear hw' hf'
        go_wp2
        go_ret
        exact ⟨rfl, L8.out⟩
end Go.Proofs.Ytddhngalokmdoaa.Spo

namespace Go.Proofs.Ytddhngalokmdoaa.Okd
open Go.Deep Go.ChangeShapes Go.WideShapes Go.ChangeAt Go.RowKit Go.Proofs.YtddhngalokmdoaaW.PrintWords
set_option linter.unusedVariables false
set_option linter.unusedSimpArgs false

section
variable {H : Type} {enc : TypeId × Value → H} {P : Program} {w : World} {base : Nat} {sp : Nat → Bool} {held : Bool}
theorem add_blk (a : Addr) (k : Nat) : (a.add k).block = a.block := by unfold Addr.add; split <;> rfl
theorem add_two (a : Addr) (k i : Nat) : a.add (k + i) = (a.add k).add i := by
  unfold Addr.add
  by_cases h1 : k = 0
  · subst h1
    by_cases h2 : i = 0 <;> simp [h2]
  · by_cases h2 : i = 0
    · simp [h1, h2]
    · simp [h1, h2, Nat.add_assoc]
theorem mapM_length {α β : Type} {f : α → Option β} : ∀ {l : List α} {r : List β}, l.mapM f = some r → r.length = l.length
  | [], r, h => by simp at h; subst h; rfl
  | x :: l, r, h => by
    rw [List.mapM_cons] at h
    cases hx : f x with
    | none => rw [hx] at h; simp at h
    | some y =>
      rw [hx] at h
      cases hl : l.mapM f with
      | none => rw [hl] at h; simp at h
      | some ys => rw [hl] at h; simp at h; subst h; simp [mapM_length hl]
theorem open_cells {α : Type} [Inhabited α] (d : Kd α) {t e : TypeId} {fuel : Nat} {cs : List Value} {y : DataW H × List MemPlace} (good : α → Prop) (ht : P.underlying t = some (.slice e)) (hs : P.cellsOf e = d.sz)
    (htr : ∀ n cs y, DataW.trod enc P w base sp held n e cs = some y → ∃ x, d.K w x cs ∧ good x) (h : DataW.trod enc P w base sp held fuel t cs = some y) :
    ∃ (A : Option Addr) (cap : Nat) (xs : List α), cs = [.slice A xs.length cap] ∧ xs.length ≤ cap ∧ xs.length ≤ 9223372036854775807 ∧ d.C w A xs.length xs ∧ ∀ k, k ∈ xs → good k := by
  rcases open_slice ht h with ⟨hcs, hx⟩ | ⟨a, len, cap, m, n, D, Pl, hcs, hb, hl, hmx, hm, hx, hel⟩
  · exact ⟨none, 0, [], hcs, Nat.le_refl _, Nat.zero_le _, Kd.C_nil d w, fun k hk => by simp at hk⟩
  · have hlm : len ≤ m := by rw [hm]; split <;> omega
    obtain ⟨X, hX⟩ := choose_lt (α := α) (n := len) (p := fun i x => ∃ c, w.cells? base (a.add (i * d.sz)) d.sz = some c ∧ d.K w x c ∧ good x) (fun i hi => by
      obtain ⟨cs', h1, h2⟩ := hel i (by omega)
      rw [hs] at h1
      obtain ⟨x, h3, h4⟩ := htr _ _ _ h2
      exact ⟨x, cs', h1, h3, h4⟩)
    have hlen : ((List.range len).map X).length = len := by simp
    have hmx' : len ≤ 9223372036854775807 := by unfold maxLen at hmx; omega
    refine ⟨some a, cap, (List.range len).map X, by rw [hlen]; exact hcs, by rw [hlen]; exact hl, by rw [hlen]; exact hmx', ?_, fun k hk => ?_⟩
    · rw [hlen]
      refine ⟨hlen, by omega, fun _ => ⟨a, rfl, fun j p hj => ?_⟩⟩
      have hjl : j < len := by have := (List.getElem?_eq_some_iff.1 hj).1; simpa using this
      obtain rfl : X j = p := by simpa [hjl] using hj
      obtain ⟨c, h1, h2, h3⟩ := hX j hjl
      refine ⟨c, d.K_len h2, h2, fun i u hi => ?_⟩
      unfold World.cells? at h1
      rw [if_pos (by rw [add_blk]; exact hb)] at h1
      have hi3 : i < d.sz := by rw [← d.K_len h2]; exact (List.getElem?_eq_some_iff.1 hi).1
      obtain ⟨b, hb1, hb2⟩ := Lib.mapM_at h1 i i (by simp [hi3])
      rw [hi] at hb1
      obtain rfl := Option.some.inj hb1
      rw [← hb2]
      show w.cell? (a.add (j * d.sz + i)) = _
      rw [add_two]
    · obtain ⟨i, hi, rfl⟩ := List.mem_map.1 hk
      obtain ⟨_, -, -, h⟩ := hX i (List.mem_range.1 hi)
      exact h
theorem open_kd {α : Type} [Inhabited α] (k : Kd α) {r : Reach} {b0 : Nat} {t e : TypeId} {v : Value} {d : DataW H} {ps : List MemPlace} (good : α → Prop) (ht : P.underlying t = some (.slice e)) (hs : P.cellsOf e = k.sz)
    (htr : ∀ n cs y, DataW.trod enc P w base sp held n e cs = some y → ∃ x, k.K w x cs ∧ good x) (hv : Value.okWide P w r b0 t v) (h : DataW.Trod enc P w base sp held t v d ps) :
    ∃ (A : Option Addr) (cap : Nat) (xs : List α), v = .slice A xs.length cap ∧ xs.length ≤ cap ∧ xs.length ≤ 9223372036854775807 ∧ k.C w A xs.length xs ∧ ∀ x, x ∈ xs → good x := by
  obtain ⟨a1, len, cap, rfl⟩ := okWide_slice ht hv
  obtain ⟨fuel, hf⟩ := h
  obtain ⟨A, cap', xs, h1, h2⟩ := open_cells k good ht hs htr hf
  refine ⟨A, cap', xs, ?_, h2⟩
  simpa [Value.cells] using h1
theorem el_int {t : TypeId} {k : IntKind} (ht : P.underlying t = some (.int k)) {n : Nat} {cs : List Value} {y : DataW H × List MemPlace} (h : DataW.trod enc P w base sp held n t cs = some y) : ∃ x : Int, (Kd.int k).K w x cs ∧ (Lit.int k x).wf = true := by
  obtain ⟨x, h1, h2, h3⟩ := DataW.trod_int ht h
  exact ⟨x, h1, h3⟩
theorem el_bool {t : TypeId} (ht : P.underlying t = some .bool) {n : Nat} {cs : List Value} {y : DataW H × List MemPlace} (h : DataW.trod enc P w base sp held n t cs = some y) : ∃ x : Bool, Kd.bool.K w x cs ∧ True := by
  obtain ⟨x, h1, h2⟩ := DataW.trod_bool ht h
  exact ⟨x, h1, trivial⟩
theorem el_string {t : TypeId} (ht : P.underlying t = some .string) {n : Nat} {cs : List Value} {y : DataW H × List MemPlace} (h : DataW.trod enc P w base sp held n t cs = some y) : ∃ x : ByteArray, Kd.string.K w x cs ∧ x.size ≤ 9223372036854775807 := by
  obtain ⟨x, h1, h2, h3⟩ := DataW.trod_string ht h
  exact ⟨x, h1, by unfold maxLen at h3; omega⟩
theorem el_slice {α : Type} [Inhabited α] (d : Kd α) (q : Nat) {t e : TypeId} (good : α → Prop) (ht : P.underlying t = some (.slice e)) (hs : P.cellsOf e = d.sz)
    (htr : ∀ n cs y, DataW.trod enc P w base sp held n e cs = some y → ∃ x, d.K w x cs ∧ good x) {n : Nat} {cs : List Value} {y : DataW H × List MemPlace} (h : DataW.trod enc P w base sp held n t cs = some y) :
    ∃ xs : List α, (Kd.slice q d).K w xs cs ∧ (xs.length ≤ 9223372036854775807 ∧ ∀ x, x ∈ xs → good x) := by
  obtain ⟨A, cap, xs, h1, h2, h3, h4, h5⟩ := open_cells d good ht hs htr h
  exact ⟨xs, ⟨A, cap, h1, h2, h4⟩, h3, h5⟩
end
end Go.Proofs.Ytddhngalokmdoaa.Okd
