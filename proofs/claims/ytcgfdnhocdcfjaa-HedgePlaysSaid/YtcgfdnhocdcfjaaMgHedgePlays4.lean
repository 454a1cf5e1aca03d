/- Texts of this claim, merged: Hlx, Hlp. -/
import Derived.Test.YtcgfdnhocdcfjaaMgHedgePlays3
import Derived.Deep.DeepCutAuto
import Derived.Deep.CutBlock
/- A hedge in memory, by its sorted list, its blocks kept in a class; a list of the document's entries apart from it. -/
namespace Go.Proofs.Ytcgfdnhocdcfjaa.Hed
open Go.RowKit Go.Proofs.YtcgfdnhocdcfjaaW.PrintWords Go.Proofs.YtcgfdnhocdcfjaaW.PrintLast Go.Proofs.YtcgfdnhocdcfjaaW.PrintMore Go.Proofs.Ytcgfdnhocdcfjaa.Arr Go.Proofs.Ytcgfdnhocdcfjaa.Utf Go.Proofs.Ytcgfdnhocdcfjaa.PHedgePlays T
set_option linter.unusedVariables false
set_option linter.unusedSimpArgs false

def HLP (P : Nat → Prop) (w : World) (h : Nat) (l : List Ent) : Prop := ∃ t, HAt w h t ∧ t.ents = l ∧ Srt l ∧ P h ∧ ∀ j, j ∈ t.blocks → P j
/-- Of the elder blocks only some of P's may have turned. -/
structure OnlyP (P : Nat → Prop) (w w' : World) : Prop where mk ::
  os : w'.os = w.os
  tape : w'.tape = w.tape
  output : w'.output = w.output
  size : w.heap.size ≤ w'.heap.size
  block : ∀ k, k < w.heap.size → ¬ P k → w'.heap[k]? = w.heap[k]?
section
variable {P Q : Nat → Prop} {w w1 : World} {h : Nat} {l : List Ent}
theorem HLP.hl {B : Nat} (H : HLP P w h l) (hP : ∀ j, P j → B ≤ j) : HL B w h l := by
  obtain ⟨t, h1, h2, h3, h4, h5⟩ := H
  exact ⟨t, h1, h2, h3, hP _ h4, fun j hj => hP _ (h5 j hj)⟩
theorem HLP.below (H : HLP P w h l) (hb : Below w.heap.size w w1) : HLP P w1 h l := by
  obtain ⟨t, h1, h2, h3, h4, h5⟩ := H
  exact ⟨t, h1.below hb, h2, h3, h4, h5⟩
theorem HLP.mono (H : HLP P w h l) (hP : ∀ j, j < w.heap.size → P j → Q j) : HLP Q w h l := by
  obtain ⟨t, h1, h2, h3, h4, h5⟩ := H
  exact ⟨t, h1, h2, h3, hP _ h1.blk.lt h4, fun j hj => hP _ (h1.at_.lt j hj) (h5 j hj)⟩
theorem HLP.srt (H : HLP P w h l) : Srt l := by
  obtain ⟨t, h1, h2, h3, h4, h5⟩ := H
  exact h3
theorem OnlyP.below {B : Nat} (h : OnlyP P w w1) (hB : B ≤ w.heap.size) (hP : ∀ k, P k → B ≤ k) : Below B w w1 :=
  ⟨h.os, h.tape, h.output, h.size, fun k hk => h.block k (by omega) (fun hm => by have := hP k hm; omega)⟩
theorem OnlyP.of {S : List Nat} (ho : Only S w w1) (hS : ∀ k, k ∈ S → P k) : OnlyP P w w1 := ⟨ho.os, ho.tape, ho.output, ho.size, fun k hk hn => ho.block k hk (fun hm => hn (hS k hm))⟩
theorem Blk.onlyP {g : Nat} {T : TypeId} {cs : Array Value} (h : Blk w g T cs) (ho : OnlyP P w w1) (hn : ¬ P g) : Blk w1 g T cs := ⟨(ho.block g h.lt hn).trans h.out⟩
theorem putP_calls (H : HLP P w h l) (key : ByteArray) (v : Int) (hz : l.length + 1 ≤ 1000000) (hk : key.size ≤ 1000000) (hP : ∀ j, w.heap.size ≤ j → P j) :
    Calls Try.prog 9 #[.pointer (some ⟨h, 0, none⟩), .string key, .int .i64 v] w fun e w' => e = .returned (.bool (!(l.any (eqK key)))) ∧ HLP P w' h (putE l key v) ∧ OnlyP P w w' := by
  obtain ⟨t, h1, rfl, h3, h4, h5⟩ := H
  refine (put_calls h t key v (by rw [← size_ents]; exact hz) hk w h1).mono ?_
  rintro e w' ⟨g, wt, he, hA, hO, hm⟩
  rw [isNil_has t key h3] at he
  exact ⟨he, ⟨_, hA, put_ents t key h3 g wt v, srt_put h3 key v, h4, fun j hj => (hm j hj).elim (h5 j) (fun h' => hP j h')⟩, .of hO (fun k hk => by
    rcases List.mem_cons.1 hk with rfl | hk
    · exact h4
    · exact h5 k hk)⟩
theorem dropP_calls (H : HLP P w h l) (key : ByteArray) (hz : l.length ≤ 1000000) (hk : key.size ≤ 1000000) :
    Calls Try.prog 17 #[.pointer (some ⟨h, 0, none⟩), .string key] w fun e w' => e = .returned (.int .i64 (if l.any (eqK key) then 0 else 19)) ∧ HLP P w' h (dropE l key) ∧ OnlyP P w w' := by
  obtain ⟨t, h1, rfl, h3, h4, h5⟩ := H
  refine (drop_calls h t key (by rw [← size_ents]; exact hz) hk w h1).mono ?_
  rintro e w' ⟨he, hA, hO, hm⟩
  rw [isNil_has t key h3] at he
  refine ⟨?_, ⟨_, hA, drop_ents t key h3, srt_drop h3 key, h4, fun j hj => h5 j (hm j hj)⟩, .of hO (fun k hk => by
    rcases List.mem_cons.1 hk with rfl | hk
    · exact h4
    · exact h5 k hk)⟩
  rw [he]
  cases t.ents.any (eqK key) <;> rfl
theorem newP_calls (w : World) (hP : ∀ j, w.heap.size ≤ j → P j) : Calls Try.prog 7 #[] w fun e w' => ∃ h, e = .returned (.pointer (some ⟨h, 0, none⟩)) ∧ HLP P w' h [] ∧ Below w.heap.size w w' :=
  (new_calls w).mono fun e w' ⟨h, he, h1, h2, h3⟩ => ⟨h, he, ⟨T.nil, h1, rfl, List.Pairwise.nil, hP h h2, fun j hj => by simp [blocks] at hj⟩, h3⟩
/-- The list of entries is kept where its row is none of P's. -/
theorem RL.onlyP {A : Option Addr} {L : List Ent} (hR : RL w A L) (ho : OnlyP P w w1) (hn : ∀ ad, A = some ad → 0 < L.length → ¬ P ad.block) : RL w1 A L := by
  refine ⟨hR.1, hR.2.1, fun hp => ?_⟩
  obtain ⟨ad, e, hj⟩ := hR.2.2 hp
  refine ⟨ad, e, fun j p hjp => ?_⟩
  obtain ⟨c, hc1, hc2, hc3⟩ := hj j p hjp
  refine ⟨c, hc1, by rw [k71_open hc2]; exact k71_mk w1 p, fun i u hi => ?_⟩
  have h1 := hc3 i u hi
  have h2 : (ad.add (j * k71.sz + i)).block = ad.block := add_blk _ _
  have hlt := World.block_lt_of_cell? w _ h1
  have h3 := ho.block (ad.add (j * k71.sz + i)).block hlt (by rw [h2]; exact hn ad e hp)
  have h4 : w1.cell? (ad.add (j * k71.sz + i)) = w.cell? (ad.add (j * k71.sz + i)) := by
    simp only [World.cell?, h3]
  rw [h4]
  exact h1
theorem RL.lt {A : Option Addr} {L : List Ent} (hR : RL w A L) (ad : Addr) (e : A = some ad) (hp : 0 < L.length) : ad.block < w.heap.size := by
  obtain ⟨ad', e', x0, -⟩ := at_T71 hR 0 (Int.le_refl _) (by omega)
  rw [e] at e'
  cases e'
  have := World.block_lt_of_cell? w _ x0
  rwa [add_blk] at this
theorem own_base {base : Nat} {ok : Nat → Prop} {A : Option Addr} {n c : Nat} {xs : List S71} (h : Kd.R k71 71 w base ok (.slice A n c) xs) : ∀ ad, A = some ad → base ≤ ad.block := by
  obtain ⟨h0, inner, ho, hr⟩ := h
  intro ad e
  rcases ho.2 with ⟨e1, h2⟩ | ⟨g, cap, cur, e1, hg, hh, r⟩
  · injection e1 with e1 e2 e3
    rw [e1] at e; cases e
  · injection e1 with e1 e2 e3
    rw [e1] at e; cases e
    exact hg
end
section
variable {L : List Ent} {A : Option Addr} {c : Nat} {w : World} (hR : RL w A L) (hc : L.length ≤ c) (key : ByteArray) (hk : key.size ≤ 1000) (hL : L.length ≤ 1000) (hS : Sh L) (hs : Srt L)
include hR hc hk hL hS hs
theorem refPutP_calls (v : Int) : Calls Try.prog 16 #[.slice A L.length c, .string key, .int .i64 v] w fun e w' => ∃ A' c', e = .returned (.slice A' (putE L key v).length c') ∧ (putE L key v).length ≤ c' ∧ RL w' A' (putE L key v) ∧ (∀ ad, A' = some ad → w.heap.size ≤ ad.block) ∧ Below w.heap.size w w' := by
  have h := stileref15_Put.calls 3004 A c (L.map toR) key v _ w hR.c (by rw [List.length_map]; exact hc) (put_f L hs key v hk hL hS 3004 (Nat.le_refl _))
  rw [List.length_map] at h
  refine h.mono ?_
  rintro e w' ⟨v0, rfl, h1, h2⟩
  obtain ⟨A', c', rfl, h3, h4⟩ := Kd.R_reads h1
  have h5 := own_base h1
  refine ⟨A', c', by rw [List.length_map], by rw [List.length_map] at h3; exact h3, .of h4, h5, h2⟩
end
theorem refDropP_calls {L : List Ent} {A : Option Addr} {c : Nat} {w : World} (hR : RL w A L) (hc : L.length ≤ c) (key : ByteArray) (hL : L.length ≤ 1000) (hs : Srt L) : Calls Try.prog 18 #[.slice A L.length c, .string key] w fun e w' => ∃ A' c', e = .returned (.slice A' (dropE L key).length c') ∧ (dropE L key).length ≤ c' ∧ RL w' A' (dropE L key) ∧ (∀ ad, A' = some ad → w.heap.size ≤ ad.block) ∧ Below w.heap.size w w' := by
  have h := stileref15_Drop.calls 1001 A c (L.map toR) key _ w hR.c (by rw [List.length_map]; exact hc) (drop_f L hs key hL 1001 (Nat.le_refl _))
  rw [List.length_map] at h
  refine h.mono ?_
  rintro e w' ⟨v0, rfl, h1, h2⟩
  obtain ⟨A', c', rfl, h3, h4⟩ := Kd.R_reads h1
  have h5 := own_base h1
  refine ⟨A', c', by rw [List.length_map], by rw [List.length_map] at h3; exact h3, .of h4, h5, h2⟩
/-- The hedge stands apart from a list's row. -/
def Apart (B : Nat) (A : Option Addr) (n : Nat) (j : Nat) : Prop := B ≤ j ∧ ∀ ad, A = some ad → 0 < n → j ≠ ad.block
end Go.Proofs.Ytcgfdnhocdcfjaa.Hed

/- The law HedgePlays: its walk. -/
namespace Go.Proofs.Ytcgfdnhocdcfjaa.Hed
open Go.RowKit Go.Proofs.YtcgfdnhocdcfjaaW.PrintWords Go.Proofs.YtcgfdnhocdcfjaaW.PrintLast Go.Proofs.YtcgfdnhocdcfjaaW.PrintMore Go.Proofs.Ytcgfdnhocdcfjaa.Arr Go.Proofs.Ytcgfdnhocdcfjaa.Utf Go.Proofs.Ytcgfdnhocdcfjaa.PHedgePlays T
set_option linter.unusedVariables false
set_option linter.unusedSimpArgs false

set_option maxHeartbeats 16000000 in
set_option maxRecDepth 100000 in
theorem lawPlays_calls (xs : List SAct) (m : Int) (hxs : ∀ k, k ∈ xs → k.f2.size ≤ 9223372036854775807) (A : Option Addr) (c : Nat) (w : World) (hC : Kd.C kAct w A xs.length xs) (hc : xs.length ≤ c) (hxl : xs.length ≤ 9223372036854775807) :
    Calls Try.prog 5 #[.slice A xs.length c, .int .i64 m] w fun e w' => e = .returned (.bool true) ∧ Below w.heap.size w w' := by
  have hu32 := Try.underlying32
  have hu71 := Try.underlying71
  have hu41 := Try.underlying41
  have HC := Aside0.mk hC
  have HXS := Aside0.mk hxs
  clear hC hxs
  go_enter Try.func5, Try.ntmps5
  go_wp2_with fail
  refine (newP_calls (P := Apart w.heap.size none 0) w (fun j hj => ⟨hj, fun ad e => by cases e⟩)).mono ?_
  rintro e w1 ⟨h, rfl, hH, b1⟩
  have H1 := Aside0.mk hH
  have B1 := Aside0.mk b1
  clear hH b1
  go_wp2_with fail
  refine (awake_calls w1).mono ?_
  rintro e w2 ⟨rfl, b2⟩
  have H2 := Aside0.mk (H1.out.below b2)
  have B2 := Aside0.mk (B1.out.trans (b2.mono B1.out.size))
  clear b2 H1 B1
  by_cases h100 : xs.length > 100
  · have t1 : decide ((xs.length : Int) > 100) = true := decide_eq_true (by omega)
    go_wp2_with fail
    refine (awake_calls w2).mono ?_
    rintro e w3 ⟨rfl, b3⟩
    have B3 := Aside0.mk (B2.out.trans (b3.mono B2.out.size))
    clear b3
    go_wp2
    go_ret
    exact ⟨rfl, B3.out⟩
  have hk100 : xs.length ≤ 100 := by omega
  have t1 : decide ((xs.length : Int) > 100) = false := decide_eq_false (by omega)
  obtain ⟨n, hn⟩ : ∃ n, xs.length = n := ⟨_, rfl⟩
  have HN := Aside0.mk hn
  rw [hn] at t1 hk100 hc hxl ⊢
  clear h100 hn
  go_wp2_with fail
  clear t1
  go_loopw [6, 8, 9, 10, 11, 12, 13, 14, 15, 31] (fun v6 v8 v9 v10 v11 v12 v13 v14 v15 v31 wr => ∃ (i : Nat) (L : List Ent) (Am : Option Addr) (cm : Nat), v31 = .int .i64 (i : Int) ∧ v6 = .slice Am L.length cm ∧ Aside0 (L.length ≤ cm) ∧ Aside0 (i ≤ n) ∧ Aside0 (L.length ≤ i) ∧ Aside0 (Sh L) ∧ Aside0 (HLP (Apart w.heap.size Am L.length) wr h L) ∧ Aside0 (RL wr Am L) ∧ Aside0 (Below w.heap.size w wr)) (fun _ _ _ _ _ _ _ _ _ v31 _ => n - (intOf v31).toNat)
  case atStart => exact ⟨0, [], none, 0, rfl, rfl, ⟨Nat.zero_le _⟩, ⟨Nat.zero_le _⟩, ⟨Nat.zero_le _⟩, ⟨fun e he => by cases he⟩, H2, ⟨RL.nil _⟩, B2⟩
  case round =>
    obtain ⟨i, L, Am, cm, rfl, rfl, hcm, hin, hLi, hS, hH, hR, hb⟩ := hrel
    by_cases hi : i < n
    · have t1 : decide ((i : Int) < (n : Int)) = true := decide_eq_true (by omega)
      have hik : i < xs.length := by have := HN.out; omega
      obtain ⟨ad, eA, x0, x1, x2⟩ := at_act (by rw [HN.out]; exact Kd.C_below (by have := HC.out; rwa [HN.out] at this) hb.out) i hik
      cases eA
      have hsz := HXS.out xs[i] (List.getElem_mem hik)
      obtain ⟨xx, hxx⟩ : ∃ xx, xs[i] = xx := ⟨_, rfl⟩
      rw [hxx] at x0 x1 x2 hsz
      obtain ⟨kind, nn, key⟩ := xx
      simp only at x0 x1 x2 hsz
      clear hxx
      have h0 : (0 : Int) ≤ (i : Int) := by omega
      have h1 : (i : Int) < (n : Int) := by omega
      have p0 := eq_true h0
      have p1 := eq_true h1
      have hw : IntKind.i64.wrap ((i : Int) + 1) = ((i + 1 : Nat) : Int) := by rw [show ((i : Int) + 1) = ((i + 1 : Nat) : Int) by omega]; exact IntWalk.i64_in _ (by omega)
      obtain ⟨W9, hW9⟩ : ∃ W9, wr.alloc (.cells #[.int .i64 kind, .int .i64 nn, .string key] 41) = W9 := ⟨_, rfl⟩
      have b9 : Below wr.heap.size wr W9 := by rw [← hW9]; exact (Below.refl _ _).alloc (Nat.le_refl _) _
      have hE9 : Blk W9 wr.heap.size 41 #[.int .i64 kind, .int .i64 nn, .string key] := by rw [← hW9]; exact Blk.new _ _ _
      have e0 := hE9.cell 0
      have e1 := hE9.cell 1
      have e2 := hE9.cell 2
      have el := hE9.lt
      have E9 := Aside0.mk hE9
      have H9 := Aside0.mk ((hH.out.mono (Q := fun j => Apart w.heap.size Am L.length j ∧ j < wr.heap.size) (fun j hlt hj => ⟨hj, hlt⟩)).below b9)
      have R9 := Aside0.mk (hR.out.below b9)
      have B9 := Aside0.mk (hb.out.trans (b9.mono hb.out.size))
      clear hE9 b9
      by_cases hs : key.size > 200
      · have t3 : decide ((key.size : Int) > 200) = true := decide_eq_true (by omega)
        go_wp2
        go_roundw
        case rel => exact ⟨i + 1, L, Am, cm, by first | rfl | (rw [hw]) | go_num | simp [hw], rfl, hcm, ⟨by omega⟩, ⟨by have := hLi.out; omega⟩, hS, ⟨H9.out.mono fun j _ hj => hj.1⟩, R9, B9⟩
        case measure => simp [intOf, hw]; omega
      have t3 : decide ((key.size : Int) > 200) = false := decide_eq_false (by omega)
      have hks : key.size ≤ 1000 := by omega
      have hL1000 : L.length ≤ 100 := by have := hLi.out; omega
      have KG := Aside0.mk (refGet_calls R9.out hcm.out key (by omega))
      clear hR hH
      go_wp2_with fail
      refine KG.out.mono ?_
      rintro e w3 ⟨rfl, b3⟩
      have hE3 := E9.out.below b3
      have E3 := Aside0.mk hE3
      have H3 := Aside0.mk (H9.out.below b3)
      have R3 := Aside0.mk (R9.out.below b3)
      have B3 := Aside0.mk (B9.out.trans (b3.mono B9.out.size))
      have f0 := hE3.cell 0
      have f1 := hE3.cell 1
      have f2 := hE3.cell 2
      have fl := hE3.lt
      have KH := Aside0.mk (getL_calls (H3.out.hl (B := w.heap.size) fun j hj => hj.1.1) key)
      clear b3 hE3 KG H9 R9 B9 E9 e0 e1 e2 el x0 x1 x2
      go_wp2_with fail
      refine KH.out.mono ?_
      rintro e w4 ⟨rfl, b4⟩
      have hE4 := E3.out.below b4
      have E4 := Aside0.mk hE4
      have H4 := Aside0.mk (H3.out.below b4)
      have R4 := Aside0.mk (R3.out.below b4)
      have B4 := Aside0.mk (B3.out.trans (b4.mono B3.out.size))
      have e0 := hE4.cell 0
      have e1 := hE4.cell 1
      have e2 := hE4.cell 2
      have el := hE4.lt
      clear b4 hE4 KH H3 R3 B3 E3 f0 f1 f2 fl hW9
      obtain ⟨g0, hg0⟩ : ∃ g0, ((L.find? (eqK key)).map (·.2)).getD 0 = g0 := ⟨_, rfl⟩
      obtain ⟨th, hth⟩ : ∃ th, (L.find? (eqK key)).isSome = th := ⟨_, rfl⟩
      have hcd : codeG ((L.find? (eqK key)).map (·.2)) = if th then 0 else 19 := by
        rw [← hth]
        cases L.find? (eqK key) <;> rfl
      rw [hg0, hth, hcd]
      have HTH := Aside0.mk hth
      clear hg0 hth hcd
      obtain ⟨cd, hcd⟩ : ∃ cd : Int, (if th then (0 : Int) else 19) = cd := ⟨_, rfl⟩
      rw [hcd]
      have HCD := Aside0.mk hcd
      clear hcd
      go_upto_region 11 with fail
      go_cut [69] (fun v69 wx => v69 = .bool false ∧ wx = w4)
      case first =>
        have hcd := HCD.out
        cases th with
        | true =>
          simp only [if_true] at hcd
          subst hcd
          go_wp2_with fail
          go_meet
          exact ⟨rfl, rfl⟩
        | false =>
          simp only [Bool.false_eq_true, if_false] at hcd
          subst hcd
          go_wp2_with fail
          go_meet
          exact ⟨rfl, rfl⟩
      case rest =>
      obtain ⟨rfl, hwc⟩ := hcut
      have hwc := hwc.symm
      subst hwc
      go_upto_block 2 with fail
      go_cut [6, 13] (fun v6 v13 wx => ∃ (L' : List Ent) (Am' : Option Addr) (cm' : Nat), v6 = .slice Am' L'.length cm' ∧ Aside0 (L'.length ≤ cm') ∧ Aside0 (L'.length ≤ L.length + 1) ∧ Aside0 (Sh L') ∧ Aside0 (HLP (Apart w.heap.size Am' L'.length) wx h L') ∧ Aside0 (RL wx Am' L') ∧ Aside0 (Below w.heap.size w wx) ∧ Aside0 (Blk wx wr.heap.size 41 #[.int .i64 kind, .int .i64 nn, .string key]))
      case first =>
        have hany : L.any (eqK key) = th := by rw [any_find]; exact HTH.out
        have hPB : ∀ j, ((Apart w.heap.size Am L.length j ∧ j < wr.heap.size) ∨ w4.heap.size ≤ j) → w.heap.size ≤ j := fun j hj => hj.elim (fun h => h.1.1) (fun h => Nat.le_trans B4.out.size h)
        have hPa : ¬ ((Apart w.heap.size Am L.length wr.heap.size ∧ wr.heap.size < wr.heap.size) ∨ w4.heap.size ≤ wr.heap.size) := by
          have := E4.out.lt
          rintro (h | h)
          · exact absurd h.2 (Nat.lt_irrefl _)
          · omega
        have hPm : ∀ ad, Am = some ad → 0 < L.length → ¬ ((Apart w.heap.size Am L.length ad.block ∧ ad.block < wr.heap.size) ∨ w4.heap.size ≤ ad.block) := by
          intro ad e hp
          have hlt := R4.out.lt ad e hp
          rintro (h | h)
          · exact h.1.2 ad e hp rfl
          · omega
        have HPB := Aside0.mk hPB
        have HPA := Aside0.mk hPa
        have HPM := Aside0.mk hPm
        have HP4 := Aside0.mk (H4.out.mono (Q := fun j => (Apart w.heap.size Am L.length j ∧ j < wr.heap.size) ∨ w4.heap.size ≤ j) (fun j _ hj => Or.inl hj))
        clear hPB hPa hPm
        by_cases hk1 : kind = 1
        · subst hk1
          have KP := Aside0.mk (putP_calls HP4.out key nn (by omega) (by omega) (fun j hj => Or.inr hj))
          rw [hany] at KP
          clear hany
          go_wp2_with fail
          refine KP.out.mono ?_
          rintro e w5 ⟨rfl, hH5, hO5⟩
          have H5 := Aside0.mk hH5
          have R5 := Aside0.mk (R4.out.onlyP hO5 HPM.out)
          have hE5 := Blk.onlyP E4.out hO5 HPA.out
          have E5 := Aside0.mk hE5
          have B5 := Aside0.mk (B4.out.trans (hO5.below B4.out.size HPB.out))
          have f0 := hE5.cell 0
          have f1 := hE5.cell 1
          have f2 := hE5.cell 2
          have fl := hE5.lt
          clear hH5 hO5 hE5 KP e0 e1 e2 el
          have KR := Aside0.mk (refPutP_calls R5.out hcm.out key hks (by omega) hS.out H4.out.srt nn)
          cases th with
          | true =>
            go_wp2_with fail
            refine KR.out.mono ?_
            rintro e w6 ⟨A6, c6, rfl, hc6, hR6, hA6, b6⟩
            have B6 := Aside0.mk (B5.out.trans (b6.mono B5.out.size))
            have H6 := Aside0.mk ((H5.out.mono (Q := Apart w.heap.size A6 (putE L key nn).length) (fun j hlt hj => ⟨HPB.out j hj, fun ad e _ hx => by have := hA6 ad e; omega⟩)).below b6)
            have E6 := Aside0.mk (E5.out.below b6)
            have R6 := Aside0.mk hR6
            have hpl := put_len L key nn H4.out.srt
            clear b6 hR6 hA6 KR f0 f1 f2 fl
            go_wp2_with fail
            go_meet
            exact ⟨putE L key nn, A6, c6, rfl, ⟨hc6⟩, ⟨hpl⟩, ⟨sh_put hS.out hks nn⟩, H6, R6, B6, E6⟩
          | false =>
            go_wp2_with fail
            refine KR.out.mono ?_
            rintro e w6 ⟨A6, c6, rfl, hc6, hR6, hA6, b6⟩
            have B6 := Aside0.mk (B5.out.trans (b6.mono B5.out.size))
            have H6 := Aside0.mk ((H5.out.mono (Q := Apart w.heap.size A6 (putE L key nn).length) (fun j hlt hj => ⟨HPB.out j hj, fun ad e _ hx => by have := hA6 ad e; omega⟩)).below b6)
            have E6 := Aside0.mk (E5.out.below b6)
            have R6 := Aside0.mk hR6
            have hpl := put_len L key nn H4.out.srt
            clear b6 hR6 hA6 KR f0 f1 f2 fl
            go_wp2_with fail
            go_meet
            exact ⟨putE L key nn, A6, c6, rfl, ⟨hc6⟩, ⟨hpl⟩, ⟨sh_put hS.out hks nn⟩, H6, R6, B6, E6⟩
        by_cases hk2 : kind = 2
        · subst hk2
          have KP := Aside0.mk (dropP_calls HP4.out key (by omega) (by omega))
          rw [hany] at KP
          clear hany
          go_wp2_with fail
          refine KP.out.mono ?_
          rintro e w5 ⟨rfl, hH5, hO5⟩
          have H5 := Aside0.mk hH5
          have R5 := Aside0.mk (R4.out.onlyP hO5 HPM.out)
          have hE5 := Blk.onlyP E4.out hO5 HPA.out
          have E5 := Aside0.mk hE5
          have B5 := Aside0.mk (B4.out.trans (hO5.below B4.out.size HPB.out))
          have f0 := hE5.cell 0
          have f1 := hE5.cell 1
          have f2 := hE5.cell 2
          have fl := hE5.lt
          clear hH5 hO5 hE5 KP e0 e1 e2 el
          have KR := Aside0.mk (refDropP_calls R5.out hcm.out key (by omega) H4.out.srt)
          cases th with
          | true =>
            simp only [if_true]
            go_wp2_with fail
            refine KR.out.mono ?_
            rintro e w6 ⟨A6, c6, rfl, hc6, hR6, hA6, b6⟩
            have B6 := Aside0.mk (B5.out.trans (b6.mono B5.out.size))
            have H6 := Aside0.mk ((H5.out.mono (Q := Apart w.heap.size A6 (dropE L key).length) (fun j hlt hj => ⟨HPB.out j hj, fun ad e _ hx => by have := hA6 ad e; omega⟩)).below b6)
            have E6 := Aside0.mk (E5.out.below b6)
            have R6 := Aside0.mk hR6
            have hpl := drop_len H4.out.srt key
            clear b6 hR6 hA6 KR f0 f1 f2 fl
            go_wp2_with fail
            go_meet
            exact ⟨dropE L key, A6, c6, rfl, ⟨hc6⟩, ⟨by omega⟩, ⟨sh_drop hS.out key⟩, H6, R6, B6, E6⟩
          | false =>
            simp only [Bool.false_eq_true, if_false]
            go_wp2_with fail
            refine KR.out.mono ?_
            rintro e w6 ⟨A6, c6, rfl, hc6, hR6, hA6, b6⟩
            have B6 := Aside0.mk (B5.out.trans (b6.mono B5.out.size))
            have H6 := Aside0.mk ((H5.out.mono (Q := Apart w.heap.size A6 (dropE L key).length) (fun j hlt hj => ⟨HPB.out j hj, fun ad e _ hx => by have := hA6 ad e; omega⟩)).below b6)
            have E6 := Aside0.mk (E5.out.below b6)
            have R6 := Aside0.mk hR6
            have hpl := drop_len H4.out.srt key
            clear b6 hR6 hA6 KR f0 f1 f2 fl
            go_wp2_with fail
            go_meet
            exact ⟨dropE L key, A6, c6, rfl, ⟨hc6⟩, ⟨by omega⟩, ⟨sh_drop hS.out key⟩, H6, R6, B6, E6⟩
        · have k1 : decide (kind = 1) = false := decide_eq_false hk1
          have k2 : decide (kind = 2) = false := decide_eq_false hk2
          have k3 : (kind == 1) = false := by simpa using hk1
          have k4 : (kind == 2) = false := by simpa using hk2
          have k5 : (kind = 1) = False := eq_false hk1
          have k6 : (kind = 2) = False := eq_false hk2
          go_wp2_with fail
          go_meet
          exact ⟨L, Am, cm, rfl, hcm, ⟨by omega⟩, hS, ⟨H4.out.mono fun j _ hj => hj.1⟩, R4, B4, E4⟩
      case rest =>
      obtain ⟨L', Am', cm', rfl, hcm', hLL, hS', hH5, hR5, hB5, hE5⟩ := hcut
      clear H4 R4 B4 E4 e0 e1 e2 el hS hcm HTH HCD
      have e2 := hE5.out.cell 2
      have el := hE5.out.lt
      have hLi' : L'.length ≤ 101 := by have := hLL.out; omega
      have KF := Aside0.mk (fromL_calls (hH5.out.hl (B := w.heap.size) fun j hj => hj.1) key m (by omega))
      rw [← from_same] at KF
      obtain ⟨F, hF⟩ : ∃ F, (L'.filter (okF key ⟨#[]⟩)).take m.toNat = F := ⟨_, rfl⟩
      obtain ⟨U, hU⟩ : ∃ U, (L'.filter (okF key key)).take m.toNat = U := ⟨_, rfl⟩
      have hFl : F.length ≤ 101 := by rw [← hF, List.length_take]; have := List.length_filter_le (okF key ⟨#[]⟩) L'; omega
      have hUl : U.length ≤ 101 := by rw [← hU, List.length_take]; have := List.length_filter_le (okF key key) L'; omega
      have hus := under_same L' hH5.out.srt key m.toNat
      rw [hU] at hus
      rw [hF] at KF
      have HF := Aside0.mk hF
      have HU := Aside0.mk hU
      have HUS := Aside0.mk hus
      clear hF hU hus
      go_wp2_with fail
      refine KF.out.mono ?_
      rintro e w6 ⟨vo, rfl, hRF, b6⟩
      obtain ⟨AF, cF, rfl, hcF, hCF⟩ := Kd.R_reads hRF
      rw [List.length_map] at hcF hCF hRF ⊢
      have E6 := Aside0.mk (hE5.out.below b6)
      have H6 := Aside0.mk (hH5.out.below b6)
      have R6 := Aside0.mk (hR5.out.below b6)
      have B6 := Aside0.mk (Below.refl wc.heap.size wc |>.trans b6)
      have RF := Aside0.mk hRF
      have CF := Aside0.mk hCF
      have hlt := hE5.out.lt
      clear hRF hCF b6 KF e2 el
      have e2 := E6.out.cell 2
      have el := E6.out.lt
      have HH := Aside0.mk (H6.out.hl (B := w.heap.size) fun j hj => hj.1)
      go_wp2_with fail
      refine Qw.wp_region_all (SP L' F U key (.slice Am' L'.length cm') m) (fun w' => Below w6.heap.size w6 w') (fun w1 w2 h hb => h.trans (hb.mono h.size)) (by kernel_rfl) (by kernel_rfl) (Below.refl _ _).drew ?_
      ((first | (with_reducible refine Qw.w_val ⟨fun _ _ _ hF h w' h1 h2 => h w' h1 fun k => hF k _ (h2 k)⟩ ?_ (Qw.wanted_none rfl) ?_) | ((with_reducible refine Qw.w_val ⟨fun _ _ _ hF h w' h1 h2 => h w' h1 fun k => hF k _ (h2 k)⟩ ?_ ?_ ?_); (focus (exact fun _ => trivial)); (focus (exact Qg.wanted_on rfl rfl rfl)))); (try (focus (exact fun _ => trivial))); apply Exists.intro; refine ⟨?_, ?_⟩; (focus (intro w' hw' hp'; skip; go_simp; (first | done | (with_reducible rfl)))); intro K hK; go_simp; (first | (with_reducible refine hK _ ?_) | (refine hK _ ?_)); clear hK K)
      ((with_reducible refine Qw.w_call ?_ ?_); (first | (focus (exact Qw.wanted_none rfl)) | (focus (exact Qg.wanted_on rfl rfl rfl))); apply Exists.intro; apply Exists.intro; refine ⟨?_, ?_, ?_, ?_⟩; (focus (intro w'; go_simp; (first | rfl | exact ⟨rfl, rfl⟩))); (focus (exact fun u => sp_stb)); (focus (intro w' hw' hp'; refine (lenL_calls (HH.out.below hw')).mono ?_; rintro e w8 ⟨rfl, b8⟩; exact ⟨_, rfl, b8, sp_len⟩)); rintro u ⟨wx, -, -, hS9⟩; obtain rfl := hS9.1 rfl; intro K hK; go_simp; (first | (with_reducible refine hK _ ?_) | (refine hK _ ?_)); clear hK K)
      iterate 6 ((first | (with_reducible refine Qw.w_val ⟨fun _ _ _ hF h w' h1 h2 => h w' h1 fun k => hF k _ (h2 k)⟩ ?_ (Qw.wanted_none rfl) ?_) | ((with_reducible refine Qw.w_val ⟨fun _ _ _ hF h w' h1 h2 => h w' h1 fun k => hF k _ (h2 k)⟩ ?_ ?_ ?_); (focus (exact fun _ => trivial)); (focus (exact Qg.wanted_on rfl rfl rfl)))); (try (focus (exact fun _ => trivial))); apply Exists.intro; refine ⟨?_, ?_⟩; (focus (intro w' hw' hp'; have hEw := E6.out.below hw'; have e2 := hEw.cell 2; have el := hEw.lt; go_simp; (first | done | (with_reducible rfl)))); intro K hK; go_simp; (first | (with_reducible refine hK _ ?_) | (refine hK _ ?_)); clear hK K)
      ((first | (with_reducible refine Qw.w_val ⟨fun _ _ _ hF h w' h1 h2 => h w' h1 fun k => hF k _ (h2 k)⟩ ?_ (Qw.wanted_none rfl) ?_) | ((with_reducible refine Qw.w_val ⟨fun _ _ _ hF h w' h1 h2 => h w' h1 fun k => hF k _ (h2 k)⟩ ?_ ?_ ?_); (focus (exact fun _ => trivial)); (focus (exact Qg.wanted_on rfl rfl rfl)))); (try (focus (exact fun _ => trivial))); apply Exists.intro; refine ⟨?_, ?_⟩; (focus (intro w' hw' hp'; have hEw := E6.out.below hw'; have e2 := hEw.cell 2; have el := hEw.lt; go_simp; (first | done | (with_reducible rfl)))); intro K hK; go_simp; (first | (with_reducible refine hK _ ?_) | (refine hK _ ?_)); clear hK K)
      ((with_reducible refine Qw.w_call ?_ ?_); (first | (focus (exact Qw.wanted_none rfl)) | (focus (exact Qg.wanted_on rfl rfl rfl))); apply Exists.intro; apply Exists.intro; refine ⟨?_, ?_, ?_, ?_⟩; (focus (intro w'; go_simp; (first | rfl | exact ⟨rfl, rfl⟩))); (focus (exact fun u => sp_stb)); (focus (intro w' hw' hp'; refine (rankL_calls (HH.out.below hw') key (by omega)).mono ?_; rintro e w8 ⟨rfl, b8⟩; exact ⟨_, rfl, b8, sp_rank⟩)); rintro u ⟨wx, -, -, hS9⟩; obtain rfl := hS9.2.1 rfl; intro K hK; go_simp; (first | (with_reducible refine hK _ ?_) | (refine hK _ ?_)); clear hK K)
      iterate 3 ((first | (with_reducible refine Qw.w_val ⟨fun _ _ _ hF h w' h1 h2 => h w' h1 fun k => hF k _ (h2 k)⟩ ?_ (Qw.wanted_none rfl) ?_) | ((with_reducible refine Qw.w_val ⟨fun _ _ _ hF h w' h1 h2 => h w' h1 fun k => hF k _ (h2 k)⟩ ?_ ?_ ?_); (focus (exact fun _ => trivial)); (focus (exact Qg.wanted_on rfl rfl rfl)))); (try (focus (exact fun _ => trivial))); apply Exists.intro; refine ⟨?_, ?_⟩; (focus (intro w' hw' hp'; have hEw := E6.out.below hw'; have e2 := hEw.cell 2; have el := hEw.lt; go_simp; (first | done | (with_reducible rfl)))); intro K hK; go_simp; (first | (with_reducible refine hK _ ?_) | (refine hK _ ?_)); clear hK K)
      ((with_reducible refine Qw.w_call ?_ ?_); (first | (focus (exact Qw.wanted_none rfl)) | (focus (exact Qg.wanted_on rfl rfl rfl))); apply Exists.intro; apply Exists.intro; refine ⟨?_, ?_, ?_, ?_⟩; (focus (intro w'; go_simp; (first | rfl | exact ⟨rfl, rfl⟩))); (focus (exact fun u => sp_stb)); (focus (intro w' hw' hp'; refine (refRank_calls (R6.out.below hw') hcm'.out key hks (by omega) hS'.out).mono ?_; rintro e w8 ⟨rfl, b8⟩; exact ⟨_, rfl, b8, sp_rrank⟩)); rintro u ⟨wx, -, -, hS9⟩; obtain rfl := hS9.2.2.1 rfl; intro K hK; go_simp; (first | (with_reducible refine hK _ ?_) | (refine hK _ ?_)); clear hK K)
      iterate 8 ((first | (with_reducible refine Qw.w_val ⟨fun _ _ _ hF h w' h1 h2 => h w' h1 fun k => hF k _ (h2 k)⟩ ?_ (Qw.wanted_none rfl) ?_) | ((with_reducible refine Qw.w_val ⟨fun _ _ _ hF h w' h1 h2 => h w' h1 fun k => hF k _ (h2 k)⟩ ?_ ?_ ?_); (focus (exact fun _ => trivial)); (focus (exact Qg.wanted_on rfl rfl rfl)))); (try (focus (exact fun _ => trivial))); apply Exists.intro; refine ⟨?_, ?_⟩; (focus (intro w' hw' hp'; have hEw := E6.out.below hw'; have e2 := hEw.cell 2; have el := hEw.lt; go_simp; (first | done | (with_reducible rfl)))); intro K hK; go_simp; (first | (with_reducible refine hK _ ?_) | (refine hK _ ?_)); clear hK K)
      ((with_reducible refine Qw.w_call ?_ ?_); (first | (focus (exact Qw.wanted_none rfl)) | (focus (exact Qg.wanted_on rfl rfl rfl))); apply Exists.intro; apply Exists.intro; refine ⟨?_, ?_, ?_, ?_⟩; (focus (intro w'; go_simp; (first | rfl | exact ⟨rfl, rfl⟩))); (focus (exact fun u => sp_stb)); (focus (intro w' hw' hp'; refine (refFrom_calls (R6.out.below hw') hcm'.out key hks (by omega) hS'.out ⟨#[]⟩ m).mono ?_; rintro e w8 ⟨A8, c8, rfl, hc8, hR8, b8⟩; rw [HF.out] at hR8 ⊢; exact ⟨_, rfl, b8, sp_from (fun _ => ⟨A8, c8, rfl, hR8⟩) (fun ha => by have hx := key_of_args ha; have hFU : F = U := (by rw [← HF.out, ← HU.out, hx]); rw [← hFU]; exact ⟨A8, c8, rfl, hR8⟩)⟩)); rintro u ⟨wx, -, -, hS9⟩; obtain ⟨A8, c8, rfl, -⟩ := (hS9.2.2.2.2.2 rfl).1 rfl; intro K hK; go_simp; (first | (with_reducible refine hK _ ?_) | (refine hK _ ?_)); clear hK K)
      ((with_reducible refine Qw.w_call ?_ ?_); (first | (focus (exact Qw.wanted_none rfl)) | (focus (exact Qg.wanted_on rfl rfl rfl))); apply Exists.intro; apply Exists.intro; refine ⟨?_, ?_, ?_, ?_⟩; (focus (intro w'; go_simp; (first | rfl | exact ⟨rfl, rfl⟩))); (focus (exact fun u => sp_stb)); (focus (intro w' hw' hp'; have q : SP L' F U key (.slice Am' L'.length cm') m 21 #[.slice Am' L'.length cm', .string key, .string ⟨#[]⟩, .int .i64 m] (.slice A8 F.length c8) w' := Qw.fact hp' 22 rfl; obtain ⟨A', c', ea, hR8⟩ := (q.2.2.2.2.2 rfl).1 rfl; injection ea with ea1 ea2 ea3; subst ea1; refine (same_calls F (by omega) AF A8 cF c8 w' (Kd.C_below CF.out hw') hR8).mono ?_; rintro e w8 ⟨rfl, b8⟩; exact ⟨_, rfl, b8, sp_same⟩)); rintro u ⟨wx, -, -, hS9⟩; obtain rfl := hS9.2.2.2.1 rfl; intro K hK; go_simp; (first | (with_reducible refine hK _ ?_) | (refine hK _ ?_)); clear hK K)
      iterate 7 ((first | (with_reducible refine Qw.w_val ⟨fun _ _ _ hF h w' h1 h2 => h w' h1 fun k => hF k _ (h2 k)⟩ ?_ (Qw.wanted_none rfl) ?_) | ((with_reducible refine Qw.w_val ⟨fun _ _ _ hF h w' h1 h2 => h w' h1 fun k => hF k _ (h2 k)⟩ ?_ ?_ ?_); (focus (exact fun _ => trivial)); (focus (exact Qg.wanted_on rfl rfl rfl)))); (try (focus (exact fun _ => trivial))); apply Exists.intro; refine ⟨?_, ?_⟩; (focus (intro w' hw' hp'; have hEw := E6.out.below hw'; have e2 := hEw.cell 2; have el := hEw.lt; go_simp; (first | done | (with_reducible rfl)))); intro K hK; go_simp; (first | (with_reducible refine hK _ ?_) | (refine hK _ ?_)); clear hK K)
      ((with_reducible refine Qw.w_call ?_ ?_); (first | (focus (exact Qw.wanted_none rfl)) | (focus (exact Qg.wanted_on rfl rfl rfl))); apply Exists.intro; apply Exists.intro; refine ⟨?_, ?_, ?_, ?_⟩; (focus (intro w'; go_simp; (first | rfl | exact ⟨rfl, rfl⟩))); (focus (exact fun u => sp_stb)); (focus (intro w' hw' hp'; refine (underL_calls (HH.out.below hw') key m (by omega)).mono ?_; rintro e w8 ⟨vo, rfl, hR8, b8⟩; rw [← HUS.out] at hR8; obtain ⟨A8, c8, rfl, hc8, hC8⟩ := Kd.R_reads hR8; rw [List.length_map] at hC8 ⊢; exact ⟨_, rfl, b8, sp_under hC8⟩)); rintro u ⟨wx, -, -, hS9⟩; obtain ⟨AU, cU, rfl, -⟩ := hS9.2.2.2.2.1 rfl; intro K hK; go_simp; (first | (with_reducible refine hK _ ?_) | (refine hK _ ?_)); clear hK K)
      iterate 6 ((first | (with_reducible refine Qw.w_val ⟨fun _ _ _ hF h w' h1 h2 => h w' h1 fun k => hF k _ (h2 k)⟩ ?_ (Qw.wanted_none rfl) ?_) | ((with_reducible refine Qw.w_val ⟨fun _ _ _ hF h w' h1 h2 => h w' h1 fun k => hF k _ (h2 k)⟩ ?_ ?_ ?_); (focus (exact fun _ => trivial)); (focus (exact Qg.wanted_on rfl rfl rfl)))); (try (focus (exact fun _ => trivial))); apply Exists.intro; refine ⟨?_, ?_⟩; (focus (intro w' hw' hp'; have hEw := E6.out.below hw'; have e2 := hEw.cell 2; have el := hEw.lt; go_simp; (first | done | (with_reducible rfl)))); intro K hK; go_simp; (first | (with_reducible refine hK _ ?_) | (refine hK _ ?_)); clear hK K)
      ((with_reducible refine Qw.w_call ?_ ?_); (first | (focus (exact Qw.wanted_none rfl)) | (focus (exact Qg.wanted_on rfl rfl rfl))); apply Exists.intro; apply Exists.intro; refine ⟨?_, ?_, ?_, ?_⟩; (focus (intro w'; go_simp; (first | rfl | exact ⟨rfl, rfl⟩))); (focus (exact fun u => sp_stb)); (focus (intro w' hw' hp'; refine (refFrom_calls (R6.out.below hw') hcm'.out key hks (by omega) hS'.out key m).mono ?_; rintro e w8 ⟨A9, c9, rfl, hc9, hR9, b9⟩; rw [HU.out] at hR9 ⊢; exact ⟨_, rfl, b9, sp_from (fun ha => by have hx : key = ⟨#[]⟩ := (by simpa using ha); have hFU : F = U := (by rw [← HF.out, ← HU.out, hx]); rw [hFU]; exact ⟨A9, c9, rfl, hR9⟩) (fun _ => ⟨A9, c9, rfl, hR9⟩)⟩)); rintro u ⟨wx, -, -, hS9⟩; obtain ⟨A9, c9, rfl, -⟩ := (hS9.2.2.2.2.2 rfl).2 rfl; intro K hK; go_simp; (first | (with_reducible refine hK _ ?_) | (refine hK _ ?_)); clear hK K)
      ((with_reducible refine Qw.w_call ?_ ?_); (first | (focus (exact Qw.wanted_none rfl)) | (focus (exact Qg.wanted_on rfl rfl rfl))); apply Exists.intro; apply Exists.intro; refine ⟨?_, ?_, ?_, ?_⟩; (focus (intro w'; go_simp; (first | rfl | exact ⟨rfl, rfl⟩))); (focus (exact fun u => sp_stb)); (focus (intro w' hw' hp'; have q1 : SP L' F U key (.slice Am' L'.length cm') m 10 #[.pointer (some ⟨h, 0, none⟩), .string key, .int .i64 m] (.slice AU U.length cU) w' := Qw.fact hp' 31 rfl; obtain ⟨A', c', ea, hC8⟩ := q1.2.2.2.2.1 rfl; injection ea with ea1 ea2 ea3; subst ea1; have q : SP L' F U key (.slice Am' L'.length cm') m 21 #[.slice Am' L'.length cm', .string key, .string key, .int .i64 m] (.slice A9 U.length c9) w' := Qw.fact hp' 38 rfl; obtain ⟨A', c', ea, hR9⟩ := (q.2.2.2.2.2 rfl).2 rfl; injection ea with ea1 ea2 ea3; subst ea1; refine (same_calls U (by omega) AU A9 cU c9 w' hC8 hR9).mono ?_; rintro e w8 ⟨rfl, b8⟩; exact ⟨_, rfl, b8, sp_same⟩)); rintro u ⟨wx, -, -, hS9⟩; obtain rfl := hS9.2.2.2.1 rfl; intro K hK; go_simp; (first | (with_reducible refine hK _ ?_) | (refine hK _ ?_)); clear hK K)
      iterate 2 ((first | (with_reducible refine Qw.w_val ⟨fun _ _ _ hF h w' h1 h2 => h w' h1 fun k => hF k _ (h2 k)⟩ ?_ (Qw.wanted_none rfl) ?_) | ((with_reducible refine Qw.w_val ⟨fun _ _ _ hF h w' h1 h2 => h w' h1 fun k => hF k _ (h2 k)⟩ ?_ ?_ ?_); (focus (exact fun _ => trivial)); (focus (exact Qg.wanted_on rfl rfl rfl)))); (try (focus (exact fun _ => trivial))); apply Exists.intro; refine ⟨?_, ?_⟩; (focus (intro w' hw' hp'; have hEw := E6.out.below hw'; have e2 := hEw.cell 2; have el := hEw.lt; go_simp; (first | done | (with_reducible rfl)))); intro K hK; go_simp; (first | (with_reducible refine hK _ ?_) | (refine hK _ ?_)); clear hK K)
      ((with_reducible refine Qw.w_nil ?_); intro w' hw' hf')
      have b7 := (Below.refl w6.heap.size w6).trans hw'
      have BB7 := Aside0.mk (B6.out.trans (b7.mono B6.out.size))
      have RF7 := Aside0.mk (Kd.R_below RF.out b7)
      clear hw' hf' b7 e2 el
      obtain ⟨we, rfl⟩ : ∃ we : World, we = wr := ⟨_, rfl⟩
      have HG : Aside0 (0 < F.length → ∃ g cur, AF = some ⟨g, 0, none⟩ ∧ wc.heap.size ≤ g ∧ Blk w' g TEn cur ∧ F.length * 2 ≤ cur.size) := ⟨fun hp => by
        obtain ⟨g, cur, h1, h2, h3, h4⟩ := own_row2 RF7.out (by rw [List.length_map]; exact hp)
        rw [List.length_map] at h4
        exact ⟨g, cur, h1, h2, h3, h4⟩⟩
      clear RF7 RF CF
      go_wp2_with fail
      go_loopw [15, 159] (fun v15 v159 wr2 => ∃ j : Nat, v159 = .int .i64 (j : Int) ∧ Aside0 (j ≤ F.length) ∧ Aside0 (Below wc.heap.size wc wr2) ∧ Aside0 (0 < F.length → ∃ g cur, AF = some ⟨g, 0, none⟩ ∧ wc.heap.size ≤ g ∧ Blk wr2 g TEn cur ∧ F.length * 2 ≤ cur.size)) (fun _ v159 _ => F.length - (intOf v159).toNat)
      case atStart => exact ⟨0, rfl, ⟨Nat.zero_le _⟩, BB7, HG⟩
      case round =>
        obtain ⟨j, rfl, hjn, hjb, hG⟩ := hrel
        by_cases hj : j < F.length
        · have t7 : decide ((j : Int) < (F.length : Int)) = true := decide_eq_true (by omega)
          obtain ⟨g, cur, rfl, hg, hB, hcur⟩ := hG.out (by omega)
          have h0 : (0 : Int) ≤ (j : Int) := by omega
          have h1 : (j : Int) < (F.length : Int) := by omega
          have p0 := eq_true h0
          have p1 := eq_true h1
          have y0 := (hB.cell (j * 2)).trans (Array.getElem?_eq_getElem (show j * 2 < cur.size by omega))
          have y1 := (hB.cell (j * 2 + 1)).trans (Array.getElem?_eq_getElem (show j * 2 + 1 < cur.size by omega))
          have z0 := hB.frozen (j * 2)
          have z1 := hB.frozen (j * 2 + 1)
          have yl := hB.lt
          generalize cur[j * 2]'(by omega) = q0 at y0
          generalize cur[j * 2 + 1]'(by omega) = q1 at y1
          have hw2 : IntKind.i64.wrap ((j : Int) + 1) = ((j + 1 : Nat) : Int) := by rw [show ((j : Int) + 1) = ((j + 1 : Nat) : Int) by omega]; exact IntWalk.i64_in _ (by omega)
          obtain ⟨W8, hW8, b8, cur8, K8, s8⟩ := zero_row2 (i := j) hjb.out hB hg (.string ⟨#[]⟩) (.int .i64 0)
          have HW8 := Aside0.mk hW8
          have B8 := Aside0.mk b8
          have KK8 := Aside0.mk K8
          clear hW8 b8 K8 hB
          go_wp2
          rw [HW8.out]
          refine ⟨⟨j + 1, by first | rfl | (rw [hw2]) | go_num | simp [hw2], ⟨by omega⟩, B8, ⟨fun _ => ⟨g, cur8, rfl, hg, KK8.out, by omega⟩⟩⟩, ?_⟩
          simp [intOf, hw2]; omega
        · have t7 : decide ((j : Int) < (F.length : Int)) = false := decide_eq_false (by omega)
          have H9 := Aside0.mk (hH5.out.below hjb.out)
          have R9 := Aside0.mk (hR5.out.below hjb.out)
          have B9 := Aside0.mk (hB5.out.trans (hjb.out.mono hB5.out.size))
          go_wp2
          go_roundw
          case rel => exact ⟨i + 1, L', Am', cm', by first | rfl | (rw [hw]) | go_num | simp [hw], rfl, hcm', ⟨by omega⟩, ⟨by have := hLL.out; have := hLi.out; omega⟩, hS', H9, R9, B9⟩
          case measure => simp [intOf, hw]; omega
    · have t1 : decide ((i : Int) < (n : Int)) = false := decide_eq_false (by omega)
      have KF := Aside0.mk (fromL_calls (hH.out.hl (B := w.heap.size) fun j hj => hj.1) ⟨#[]⟩ 1073741824 (by have := hLi.out; have := hin.out; omega))
      rw [hi_empty, List.take_of_length_le (show L.length ≤ (1073741824 : Int).toNat by show _ ≤ 1073741824; have := hLi.out; have := hin.out; omega)] at KF
      go_wp2_with fail
      refine KF.out.mono ?_
      rintro e w3 ⟨vo, rfl, hRF, b3⟩
      obtain ⟨AF, cF, rfl, hcF, hCF⟩ := Kd.R_reads hRF
      rw [List.length_map] at hcF hCF ⊢
      have B3 := Aside0.mk (hb.out.trans (b3.mono hb.out.size))
      have KS := Aside0.mk (same_calls L (by have := hLi.out; have := hin.out; omega) AF Am cF cm w3 hCF (hR.out.below b3))
      clear hRF hCF b3 hH KF
      go_wp2_with fail
      refine KS.out.mono ?_
      rintro e w4 ⟨rfl, b4⟩
      have B4 := Aside0.mk (B3.out.trans (b4.mono B3.out.size))
      clear b4 KS
      go_wp2
      go_ret
      exact ⟨rfl, B4.out⟩
end Go.Proofs.Ytcgfdnhocdcfjaa.Hed
