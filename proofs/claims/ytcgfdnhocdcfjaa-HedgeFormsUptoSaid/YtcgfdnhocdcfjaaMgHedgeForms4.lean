/- Texts of this claim, merged: Hlx, Hfm, Hlf. -/
import Derived.Test.YtcgfdnhocdcfjaaMgHedgeForms3
import Derived.Test.YtcgfdnhocdcfjaaRows
import Derived.Deep.DeepCutAuto
/- A hedge in memory, by its sorted list, its blocks kept in a class; a list of the document's entries apart from it. -/
namespace Go.Proofs.Ytcgfdnhocdcfjaa.Hed
open Go.RowKit Go.Proofs.YtcgfdnhocdcfjaaW.PrintWords Go.Proofs.YtcgfdnhocdcfjaaW.PrintLast Go.Proofs.YtcgfdnhocdcfjaaW.PrintMore Go.Proofs.Ytcgfdnhocdcfjaa.Arr Go.Proofs.Ytcgfdnhocdcfjaa.Utf Go.Proofs.Ytcgfdnhocdcfjaa.PHedgePlays T
set_option linter.unusedVariables false
set_option linter.unusedSimpArgs false

def HLP (P : Nat → Prop) (w : World) (h : Nat) (l : List Ent) : Prop := ∃ t, HAt w h t ∧ t.ents = l ∧ Srt l ∧ P h ∧ ∀ j, j ∈ t.blocks → P j
/-- Of the elder blocks only some of P's may have turned. -/
structure OnlyP (P : Nat → Prop) (w w' : World) : Prop where mk ::
  os : w'.os = w.os
  tape : w'.tape = w.tape
  output : w'.output = w.output
  size : w.heap.size ≤ w'.heap.size
  block : ∀ k, k < w.heap.size → ¬ P k → w'.heap[k]? = w.heap[k]?
section
variable {P Q : Nat → Prop} {w w1 : World} {h : Nat} {l : List Ent}
theorem HLP.hl {B : Nat} (H : HLP P w h l) (hP : ∀ j, P j → B ≤ j) : HL B w h l := by
  obtain ⟨t, h1, h2, h3, h4, h5⟩ := H
  exact ⟨t, h1, h2, h3, hP _ h4, fun j hj => hP _ (h5 j hj)⟩
theorem HLP.below (H : HLP P w h l) (hb : Below w.heap.size w w1) : HLP P w1 h l := by
  obtain ⟨t, h1, h2, h3, h4, h5⟩ := H
  exact ⟨t, h1.below hb, h2, h3, h4, h5⟩
theorem HLP.mono (H : HLP P w h l) (hP : ∀ j, j < w.heap.size → P j → Q j) : HLP Q w h l := by
  obtain ⟨t, h1, h2, h3, h4, h5⟩ := H
  exact ⟨t, h1, h2, h3, hP _ h1.blk.lt h4, fun j hj => hP _ (h1.at_.lt j hj) (h5 j hj)⟩
theorem HLP.srt (H : HLP P w h l) : Srt l := by
  obtain ⟨t, h1, h2, h3, h4, h5⟩ := H
  exact h3
theorem OnlyP.below {B : Nat} (h : OnlyP P w w1) (hB : B ≤ w.heap.size) (hP : ∀ k, P k → B ≤ k) : Below B w w1 :=
  ⟨h.os, h.tape, h.output, h.size, fun k hk => h.block k (by omega) (fun hm => by have := hP k hm; omega)⟩
theorem OnlyP.of {S : List Nat} (ho : Only S w w1) (hS : ∀ k, k ∈ S → P k) : OnlyP P w w1 := ⟨ho.os, ho.tape, ho.output, ho.size, fun k hk hn => ho.block k hk (fun hm => hn (hS k hm))⟩
theorem Blk.onlyP {g : Nat} {T : TypeId} {cs : Array Value} (h : Blk w g T cs) (ho : OnlyP P w w1) (hn : ¬ P g) : Blk w1 g T cs := ⟨(ho.block g h.lt hn).trans h.out⟩
theorem putP_calls (H : HLP P w h l) (key : ByteArray) (v : Int) (hz : l.length + 1 ≤ 1000000) (hk : key.size ≤ 100000000) (hP : ∀ j, w.heap.size ≤ j → P j) :
    Calls Try.prog 9 #[.pointer (some ⟨h, 0, none⟩), .string key, .int .i64 v] w fun e w' => e = .returned (.bool (!(l.any (eqK key)))) ∧ HLP P w' h (putE l key v) ∧ OnlyP P w w' := by
  obtain ⟨t, h1, rfl, h3, h4, h5⟩ := H
  refine (put_calls h t key v (by rw [← size_ents]; exact hz) hk w h1).mono ?_
  rintro e w' ⟨g, wt, he, hA, hO, hm⟩
  rw [isNil_has t key h3] at he
  exact ⟨he, ⟨_, hA, put_ents t key h3 g wt v, srt_put h3 key v, h4, fun j hj => (hm j hj).elim (h5 j) (fun h' => hP j h')⟩, .of hO (fun k hk => by
    rcases List.mem_cons.1 hk with rfl | hk
    · exact h4
    · exact h5 k hk)⟩
theorem dropP_calls (H : HLP P w h l) (key : ByteArray) (hz : l.length ≤ 1000000) (hk : key.size ≤ 100000000) :
    Calls Try.prog 17 #[.pointer (some ⟨h, 0, none⟩), .string key] w fun e w' => e = .returned (.int .i64 (if l.any (eqK key) then 0 else 19)) ∧ HLP P w' h (dropE l key) ∧ OnlyP P w w' := by
  obtain ⟨t, h1, rfl, h3, h4, h5⟩ := H
  refine (drop_calls h t key (by rw [← size_ents]; exact hz) hk w h1).mono ?_
  rintro e w' ⟨he, hA, hO, hm⟩
  rw [isNil_has t key h3] at he
  refine ⟨?_, ⟨_, hA, drop_ents t key h3, srt_drop h3 key, h4, fun j hj => h5 j (hm j hj)⟩, .of hO (fun k hk => by
    rcases List.mem_cons.1 hk with rfl | hk
    · exact h4
    · exact h5 k hk)⟩
  rw [he]
  cases t.ents.any (eqK key) <;> rfl
theorem newP_calls (w : World) (hP : ∀ j, w.heap.size ≤ j → P j) : Calls Try.prog 7 #[] w fun e w' => ∃ h, e = .returned (.pointer (some ⟨h, 0, none⟩)) ∧ HLP P w' h [] ∧ Below w.heap.size w w' :=
  (new_calls w).mono fun e w' ⟨h, he, h1, h2, h3⟩ => ⟨h, he, ⟨T.nil, h1, rfl, List.Pairwise.nil, hP h h2, fun j hj => by simp [blocks] at hj⟩, h3⟩
/-- The list of entries is kept where its row is none of P's. -/
theorem RL.onlyP {A : Option Addr} {L : List Ent} (hR : RL w A L) (ho : OnlyP P w w1) (hn : ∀ ad, A = some ad → 0 < L.length → ¬ P ad.block) : RL w1 A L := by
  refine ⟨hR.1, hR.2.1, fun hp => ?_⟩
  obtain ⟨ad, e, hj⟩ := hR.2.2 hp
  refine ⟨ad, e, fun j p hjp => ?_⟩
  obtain ⟨c, hc1, hc2, hc3⟩ := hj j p hjp
  refine ⟨c, hc1, by rw [k71_open hc2]; exact k71_mk w1 p, fun i u hi => ?_⟩
  have h1 := hc3 i u hi
  have h2 : (ad.add (j * k71.sz + i)).block = ad.block := add_blk _ _
  have hlt := World.block_lt_of_cell? w _ h1
  have h3 := ho.block (ad.add (j * k71.sz + i)).block hlt (by rw [h2]; exact hn ad e hp)
  have h4 : w1.cell? (ad.add (j * k71.sz + i)) = w.cell? (ad.add (j * k71.sz + i)) := by
    simp only [World.cell?, h3]
  rw [h4]
  exact h1
theorem RL.lt {A : Option Addr} {L : List Ent} (hR : RL w A L) (ad : Addr) (e : A = some ad) (hp : 0 < L.length) : ad.block < w.heap.size := by
  obtain ⟨ad', e', x0, -⟩ := at_T71 hR 0 (Int.le_refl _) (by omega)
  rw [e] at e'
  cases e'
  have := World.block_lt_of_cell? w _ x0
  rwa [add_blk] at this
theorem own_base {base : Nat} {ok : Nat → Prop} {A : Option Addr} {n c : Nat} {xs : List S71} (h : Kd.R k71 71 w base ok (.slice A n c) xs) : ∀ ad, A = some ad → base ≤ ad.block := by
  obtain ⟨h0, inner, ho, hr⟩ := h
  intro ad e
  rcases ho.2 with ⟨e1, h2⟩ | ⟨g, cap, cur, e1, hg, hh, r⟩
  · injection e1 with e1 e2 e3
    rw [e1] at e; cases e
  · injection e1 with e1 e2 e3
    rw [e1] at e; cases e
    exact hg
end
section
variable {L : List Ent} {A : Option Addr} {c : Nat} {w : World} (hR : RL w A L) (hc : L.length ≤ c) (key : ByteArray) (hk : key.size ≤ 1000) (hL : L.length ≤ 1000) (hS : Sh L) (hs : Srt L)
include hR hc hk hL hS hs
theorem refPutP_calls (v : Int) : Calls Try.prog 16 #[.slice A L.length c, .string key, .int .i64 v] w fun e w' => ∃ A' c', e = .returned (.slice A' (putE L key v).length c') ∧ (putE L key v).length ≤ c' ∧ RL w' A' (putE L key v) ∧ (∀ ad, A' = some ad → w.heap.size ≤ ad.block) ∧ Below w.heap.size w w' := by
  have h := stileref15_Put.calls 3004 A c (L.map toR) key v _ w hR.c (by rw [List.length_map]; exact hc) (put_f L hs key v hk hL hS 3004 (Nat.le_refl _))
  rw [List.length_map] at h
  refine h.mono ?_
  rintro e w' ⟨v0, rfl, h1, h2⟩
  obtain ⟨A', c', rfl, h3, h4⟩ := Kd.R_reads h1
  have h5 := own_base h1
  refine ⟨A', c', by rw [List.length_map], by rw [List.length_map] at h3; exact h3, .of h4, h5, h2⟩
end
theorem refDropP_calls {L : List Ent} {A : Option Addr} {c : Nat} {w : World} (hR : RL w A L) (hc : L.length ≤ c) (key : ByteArray) (hL : L.length ≤ 1000) (hs : Srt L) : Calls Try.prog 18 #[.slice A L.length c, .string key] w fun e w' => ∃ A' c', e = .returned (.slice A' (dropE L key).length c') ∧ (dropE L key).length ≤ c' ∧ RL w' A' (dropE L key) ∧ (∀ ad, A' = some ad → w.heap.size ≤ ad.block) ∧ Below w.heap.size w w' := by
  have h := stileref15_Drop.calls 1001 A c (L.map toR) key _ w hR.c (by rw [List.length_map]; exact hc) (drop_f L hs key hL 1001 (Nat.le_refl _))
  rw [List.length_map] at h
  refine h.mono ?_
  rintro e w' ⟨v0, rfl, h1, h2⟩
  obtain ⟨A', c', rfl, h3, h4⟩ := Kd.R_reads h1
  have h5 := own_base h1
  refine ⟨A', c', by rw [List.length_map], by rw [List.length_map] at h3; exact h3, .of h4, h5, h2⟩
/-- The hedge stands apart from a list's row. -/
def Apart (B : Nat) (A : Option Addr) (n : Nat) (j : Nat) : Prop := B ≤ j ∧ ∀ ad, A = some ad → 0 < n → j ≠ ad.block
end Go.Proofs.Ytcgfdnhocdcfjaa.Hed

/- slices.Index, Contains, Equal; a list of keys that came in, its letters counted; what HedgeForms' last region calls. -/
namespace Go.Proofs.Ytcgfdnhocdcfjaa.Hed
open Go.Deep Go.ChangeShapes Go.WideShapes Go.ChangeAt Go.RowKit Go.Proofs.YtcgfdnhocdcfjaaW.PrintWords Go.Proofs.YtcgfdnhocdcfjaaW.PrintLast Go.Proofs.YtcgfdnhocdcfjaaW.PrintMore Go.Proofs.Ytcgfdnhocdcfjaa.Arr Go.Proofs.Ytcgfdnhocdcfjaa.Utf Go.Proofs.Ytcgfdnhocdcfjaa.PHedgePlays T
set_option linter.unusedVariables false
set_option linter.unusedSimpArgs false

/-- The first place of a text in a list, or -1. -/
def idxV (ks : List ByteArray) (x : ByteArray) : Int :=
  match ks.findIdx? (fun y => decide (x = y)) with
  | some i => (i : Int)
  | none => -1
theorem idx_at {ks : List ByteArray} {x : ByteArray} {i : Nat} (hi : i < ks.length) (he : x = ks[i]) (hb : ∀ j (h : j < ks.length), j < i → x ≠ ks[j]) : idxV ks x = (i : Int) := by
  have : ks.findIdx? (fun y => decide (x = y)) = some i := by
    rw [List.findIdx?_eq_some_iff_getElem]
    exact ⟨hi, decide_eq_true he, fun j hj => by simpa using hb j (by omega) hj⟩
  unfold idxV
  rw [this]
theorem idx_none {ks : List ByteArray} {x : ByteArray} (hb : ∀ j (h : j < ks.length), x ≠ ks[j]) : idxV ks x = -1 := by
  have : ks.findIdx? (fun y => decide (x = y)) = none := by
    rw [List.findIdx?_eq_none_iff]
    intro y hy
    obtain ⟨j, hj, rfl⟩ := List.getElem_of_mem hy
    exact decide_eq_false (hb j hj)
  unfold idxV
  rw [this]
theorem idx_mem {ks : List ByteArray} {x : ByteArray} (h : x ∈ ks) : ∃ i, ∃ hi : i < ks.length, ks[i] = x ∧ idxV ks x = (i : Int) := by
  cases hf : ks.findIdx? (fun y => decide (x = y)) with
  | none =>
    rw [List.findIdx?_eq_none_iff] at hf
    have := hf x h
    simp at this
  | some i =>
    have hf' := hf
    rw [List.findIdx?_eq_some_iff_getElem] at hf
    obtain ⟨hi, h1, h2⟩ := hf
    refine ⟨i, hi, (of_decide_eq_true h1).symm, ?_⟩
    unfold idxV
    rw [hf']
theorem idx_neg {ks : List ByteArray} {x : ByteArray} : (0 ≤ idxV ks x) ↔ x ∈ ks := by
  constructor
  · intro h
    apply Classical.byContradiction
    intro hn
    rw [idx_none (fun j hj e => hn (by rw [e]; exact List.getElem_mem hj))] at h
    omega
  · intro h
    obtain ⟨i, hi, -, e⟩ := idx_mem h
    rw [e]; omega
/-- Whether a text is one of a list. -/
def hasV (ks : List ByteArray) (x : ByteArray) : Bool := decide (0 ≤ idxV ks x)
theorem has_iff (ks : List ByteArray) (x : ByteArray) : hasV ks x = true ↔ x ∈ ks := by
  unfold hasV
  rw [decide_eq_true_eq]
  exact idx_neg
theorem beq_list (a b : ByteArray) : (a.toList == b.toList) = decide (a = b) := by
  rw [Bool.eq_iff_iff, beq_iff_eq, decide_eq_true_eq]
  exact toList_iff a b
set_option maxHeartbeats 4000000 in
set_option maxRecDepth 100000 in
theorem index_calls (ks : List ByteArray) (x : ByteArray) (A : Option Addr) (c : Nat) (w : World) (hl : ks.length ≤ 1000) (h0 : Kd.C Kd.string w A ks.length ks) :
    Calls Try.prog 22 #[.slice A ks.length c, .string x] w fun e w' => e = .returned (.int .i64 (idxV ks x)) ∧ Below w.heap.size w w' := by
  have H0 := Aside0.mk h0
  clear h0
  obtain ⟨n, hn⟩ : ∃ n, ks.length = n := ⟨_, rfl⟩
  have HN := Aside0.mk hn
  rw [hn] at hl ⊢
  clear hn
  go_enter Try.func22, Try.ntmps22
  go_wp2_with fail
  go_loopw [5, 8] (fun v5 v8 wr => ∃ i : Nat, v8 = .int .i64 (i : Int) ∧ Aside0 (i ≤ n) ∧ Aside0 (∀ j (h : j < ks.length), j < i → x ≠ ks[j]) ∧ Aside0 (Below w.heap.size w wr)) (fun _ v8 _ => n - (intOf v8).toNat)
  case atStart => exact ⟨0, rfl, ⟨Nat.zero_le _⟩, ⟨fun j h hj => absurd hj (Nat.not_lt_zero _)⟩, ⟨Below.refl _ _⟩⟩
  case round =>
    obtain ⟨i, rfl, hin, hbe, hb⟩ := hrel
    by_cases hi : i < n
    · have t1 : decide ((i : Int) < (n : Int)) = true := decide_eq_true (by omega)
      have hil : i < ks.length := by have := HN.out; omega
      have p0 : (0 : Int) ≤ (i : Int) := by omega
      have p1 : (i : Int) < (n : Int) := by omega
      obtain ⟨ad, eA, hx⟩ := str_at (Kd.C_below H0.out hb.out) i hil
      cases eA
      obtain ⟨kk, hkk⟩ : ∃ kk, ks[i] = kk := ⟨_, rfl⟩
      rw [hkk] at hx
      have HKK := Aside0.mk hkk
      clear hkk
      have q0 := eq_true p0
      have q1 := eq_true p1
      have hw : IntKind.i64.wrap ((i : Int) + 1) = ((i + 1 : Nat) : Int) := by rw [show ((i : Int) + 1) = ((i + 1 : Nat) : Int) by omega]; exact IntWalk.i64_in _ (by omega)
      by_cases he : x = kk
      · have t2 : (x.toList == kk.toList) = true := by rw [beq_list]; exact decide_eq_true he
        have hv := idx_at hil (by rw [HKK.out]; exact he) hbe.out
        have HV := Aside0.mk hv
        clear hv he
        go_wp2
        go_ret
        exact ⟨by rw [HV.out]; rfl, hb.out⟩
      · have t2 : (x.toList == kk.toList) = false := by rw [beq_list]; exact decide_eq_false he
        have hbe2 : Aside0 (∀ j (h : j < ks.length), j < i + 1 → x ≠ ks[j]) := ⟨fun j h hj => by
          rcases Nat.lt_or_ge j i with h1 | h1
          · exact hbe.out j h h1
          · obtain rfl : j = i := by omega
            rw [HKK.out]; exact he⟩
        clear he
        go_wp2
        go_roundw
        case rel => exact ⟨i + 1, by first | rfl | (rw [hw]) | go_num | simp [hw], ⟨by omega⟩, hbe2, hb⟩
        case measure => simp [intOf, hw]; omega
    · have t1 : decide ((i : Int) < (n : Int)) = false := decide_eq_false (by omega)
      have hv : idxV ks x = -1 := idx_none fun j h => hbe.out j h (by have := HN.out; have := hin.out; omega)
      have HV := Aside0.mk hv
      clear hv
      go_wp2
      go_ret
      exact ⟨by rw [HV.out]; rfl, hb.out⟩
set_option maxHeartbeats 4000000 in
set_option maxRecDepth 100000 in
theorem contains_calls (ks : List ByteArray) (x : ByteArray) (A : Option Addr) (c : Nat) (w : World) (hl : ks.length ≤ 1000) (h0 : Kd.C Kd.string w A ks.length ks) :
    Calls Try.prog 23 #[.slice A ks.length c, .string x] w fun e w' => e = .returned (.bool (hasV ks x)) ∧ Below w.heap.size w w' := by
  have K := Aside0.mk (index_calls ks x A c w hl h0)
  have hv : decide (idxV ks x ≥ 0) = hasV ks x := by
    rfl
  obtain ⟨v, hvv⟩ : ∃ v, idxV ks x = v := ⟨_, rfl⟩
  rw [hvv] at K hv
  obtain ⟨b, hb⟩ : ∃ b, hasV ks x = b := ⟨_, rfl⟩
  rw [hb] at hv ⊢
  clear h0 hvv hb
  go_enter Try.func23, Try.ntmps23
  go_wp2_with fail
  refine K.out.mono ?_
  rintro e w1 ⟨rfl, b1⟩
  have B1 := Aside0.mk b1
  clear b1 K
  go_wp2
  go_ret
  exact ⟨by first | rfl | (rw [hv]; rfl) | (rw [← hv]; rfl) | (simp [hv]; done), B1.out⟩
set_option maxHeartbeats 4000000 in
set_option maxRecDepth 100000 in
theorem equal_calls (l : List Ent) (hl : l.length ≤ 1000) (A0 A1 : Option Addr) (c0 c1 : Nat) (w : World) (h0 : Kd.C k32 w A0 l.length (l.map toS)) (h1 : Kd.C k32 w A1 l.length (l.map toS)) :
    Calls Try.prog 24 #[.slice A0 l.length c0, .slice A1 l.length c1] w fun e w' => e = .returned (.bool true) ∧ Below w.heap.size w w' := by
  have H0 := Aside0.mk h0
  have H1 := Aside0.mk h1
  clear h0 h1
  obtain ⟨n, hn⟩ : ∃ n, l.length = n := ⟨_, rfl⟩
  have HN := Aside0.mk hn
  rw [hn] at hl H0 H1 ⊢
  clear hn
  have hu32 := Try.underlying32
  go_enter Try.func24, Try.ntmps24
  go_wp2_with fail
  go_loopw [5, 13] (fun v5 v13 wr => ∃ i : Nat, v13 = .int .i64 (i : Int) ∧ Aside0 (i ≤ n) ∧ Aside0 (Below w.heap.size w wr)) (fun _ v13 _ => n - (intOf v13).toNat)
  case atStart => exact ⟨0, rfl, ⟨Nat.zero_le _⟩, ⟨Below.refl _ _⟩⟩
  case round =>
    obtain ⟨i, rfl, hin, hb⟩ := hrel
    by_cases hi : i < n
    · have t1 : decide ((i : Int) < (n : Int)) = true := decide_eq_true (by omega)
      have hil : i < l.length := by have := HN.out; omega
      have p0 : (0 : Int) ≤ (i : Int) := by omega
      have p1 : (i : Int) < (n : Int) := by omega
      obtain ⟨ad, eA, x0, x1⟩ := at_T32 (Kd.C_below H0.out hb.out) (i : Int) p0 p1
      cases eA
      obtain ⟨ad', eA, y0, y1⟩ := at_T32 (Kd.C_below H1.out hb.out) (i : Int) p0 p1
      cases eA
      have e1 : rd_T32 (l.map toS) (i : Int) = toS l[i] := by unfold rd_T32; simp [List.getD, hil]
      rw [e1] at x0 x1 y0 y1
      obtain ⟨⟨k0, n0⟩, hk⟩ : ∃ e, l[i] = e := ⟨_, rfl⟩
      rw [hk] at x0 x1 y0 y1
      rw [Int.toNat_natCast] at x0 x1 y0 y1
      simp only [toS] at x0 x1 y0 y1
      clear e1 hk
      have q0 := eq_true p0
      have q1 := eq_true p1
      have hw : IntKind.i64.wrap ((i : Int) + 1) = ((i + 1 : Nat) : Int) := by rw [show ((i : Int) + 1) = ((i + 1 : Nat) : Int) by omega]; exact IntWalk.i64_in _ (by omega)
      go_wp2_with fail
      refine Qt.wp_region_all (fun w' => Below wr.heap.size wr w') (by kernel_rfl) (by kernel_rfl) (Below.refl _ _).drew ?_
      iterate 9 ((first | (with_reducible refine Qt.q_val' rfl ?_) | ((with_reducible refine Qg.on_val' ?_); apply Exists.intro; apply Exists.intro; apply Exists.intro; refine ⟨?_, ?_, ?_, ?_⟩; (focus rfl); (focus rfl); (focus rfl))); apply Exists.intro; refine ⟨?_, ?_⟩; (focus (intro w' hw'; have z0 := (hw'.cell (World.block_lt_of_cell? wr _ x0)).trans x0; have z1 := (hw'.cell (World.block_lt_of_cell? wr _ x1)).trans x1; have z2 := (hw'.cell (World.block_lt_of_cell? wr _ y0)).trans y0; have z3 := (hw'.cell (World.block_lt_of_cell? wr _ y1)).trans y1; go_simp; (first | done | (with_reducible rfl)))); intro K hK; go_simp; (first | (with_reducible refine hK _ ?_) | (refine hK _ ?_)); clear hK K)
      (refine wpQuiet_nil ?_; intro w' hw')
      have BW := Aside0.mk (hb.out.trans (hw'.mono hb.out.size))
      clear hw'
      go_wp2
      go_roundw
      case rel => exact ⟨i + 1, by first | rfl | (rw [hw]) | go_num | simp [hw], ⟨by omega⟩, BW⟩
      case measure => simp [intOf, hw]; omega
    · have t1 : decide ((i : Int) < (n : Int)) = false := decide_eq_false (by omega)
      go_wp2
      go_ret
      exact ⟨rfl, hb.out⟩
/-! ### two hedges -/
theorem HLP.onlyP {P Q : Nat → Prop} {w w1 : World} {h : Nat} {l : List Ent} (H : HLP Q w h l) (ho : OnlyP P w w1) (hn : ∀ j, j < w.heap.size → Q j → ¬ P j) : HLP Q w1 h l := by
  obtain ⟨t, h1, h2, h3, h4, h5⟩ := H
  refine ⟨t, ⟨Blk.onlyP h1.blk ho (hn _ h1.blk.lt h4), h1.at_.keep fun k hk => ?_, h1.nd⟩, h2, h3, h4, h5⟩
  exact ho.block k (h1.at_.lt k hk) (hn _ (h1.at_.lt k hk) (h5 k hk))
/-! ### members of sorted lists -/
theorem mem_put {l : List Ent} {key : ByteArray} {v : Int} {e : Ent} : e ∈ putE l key v ↔ e = (key, v) ∨ (e ∈ l ∧ e.1 ≠ key) := by
  have hne : ∀ e : Ent, e.1 ≠ key → lo key e = true ∨ gtK key e = true := fun e h => by
    cases h1 : lo key e with
    | true => exact .inl rfl
    | false =>
      right
      rw [ne_lo key e (decide_eq_false h), h1]
      rfl
  have heq : ∀ e : Ent, (lo key e = true ∨ gtK key e = true) → e.1 ≠ key := fun e h h1 => by
    have := eq_lo key e (decide_eq_true h1)
    rw [this.1, this.2] at h
    rcases h with h | h <;> cases h
  unfold putE
  simp only [List.mem_append, List.mem_cons, List.mem_filter]
  constructor
  · rintro (⟨h1, h2⟩ | rfl | ⟨h1, h2⟩)
    · exact .inr ⟨h1, heq e (.inl h2)⟩
    · exact .inl rfl
    · exact .inr ⟨h1, heq e (.inr h2)⟩
  · rintro (rfl | ⟨h1, h2⟩)
    · exact .inr (.inl rfl)
    · rcases hne e h2 with h | h
      · exact .inl ⟨h1, h⟩
      · exact .inr (.inr ⟨h1, h⟩)
theorem mem_drop {l : List Ent} (hs : Srt l) {key : ByteArray} {e : Ent} : e ∈ dropE l key ↔ e ∈ l ∧ e.1 ≠ key := by
  rw [← drop_eq key l hs, List.mem_filter]
  unfold eqK
  simp
theorem srt_ext : ∀ {l m : List Ent}, Srt l → Srt m → (∀ e, e ∈ l ↔ e ∈ m) → l = m
  | [], [], _, _, _ => rfl
  | [], b :: m, _, _, h => by have := (h b).2 (by simp); cases this
  | a :: l, [], _, _, h => by have := (h a).1 (by simp); cases this
  | a :: l, b :: m, hl, hm, h => by
    have hl' := List.pairwise_cons.1 hl
    have hm' := List.pairwise_cons.1 hm
    have hab : a = b := by
      rcases List.mem_cons.1 ((h a).1 (by simp)) with h1 | h1
      · exact h1
      · rcases List.mem_cons.1 ((h b).2 (by simp)) with h2 | h2
        · exact h2.symm
        · have := lt_asymm (hm'.1 a h1)
          rw [hl'.1 b h2] at this
          cases this
    subst hab
    congr 1
    refine srt_ext hl'.2 hm'.2 fun e => ?_
    have hn : ∀ k : List Ent, (∀ e, e ∈ k → T.lt a.1 e.1 = true) → a ∉ k := fun k hk hm => by
      have := hk a hm
      rw [lt_irrefl] at this
      cases this
    have h1 := h e
    simp only [List.mem_cons] at h1
    constructor
    · intro he
      rcases h1.1 (.inr he) with h2 | h2
      · subst h2; exact absurd he (hn l hl'.1)
      · exact h2
    · intro he
      rcases h1.2 (.inr he) with h2 | h2
      · subst h2; exact absurd he (hn m hm'.1)
      · exact h2
/-! ### the region's calls -/
def SF (L F : List Ent) (key : ByteArray) (f : FuncId) (args : Array Value) (u : Value) (w : World) : Prop :=
  (f = 13 → u = .int .i64 (L.length : Int)) ∧ (f = 12 → u = .int .i64 ((L.filter (lo key)).length : Int)) ∧ (f = 24 → u = .bool true) ∧
  (f = 11 → ∀ q, (args = #[q, .string ⟨#[]⟩, .int .i64 1073741824] → ∃ A c, u = .slice A L.length c ∧ Kd.C k32 w A L.length (L.map toS)) ∧ (args = #[q, .string key, .int .i64 3] → ∃ A c, u = .slice A F.length c ∧ Kd.C k32 w A F.length (F.map toS)))
section
variable {L F : List Ent} {key : ByteArray} {args : Array Value} {u : Value} {w : World}
theorem sf_stb {f : FuncId} : Qw.Stb (SF L F key f args u) := fun w w' h hb => ⟨h.1, h.2.1, h.2.2.1, fun e q => ⟨fun e1 => by
    obtain ⟨A, c, h1, h2⟩ := (h.2.2.2 e q).1 e1
    exact ⟨A, c, h1, Kd.C_below h2 hb⟩, fun e1 => by
    obtain ⟨A, c, h1, h2⟩ := (h.2.2.2 e q).2 e1
    exact ⟨A, c, h1, Kd.C_below h2 hb⟩⟩⟩
theorem sf_len : SF L F key 13 args (.int .i64 (L.length : Int)) w := ⟨fun _ => rfl, fun h => absurd h (by decide), fun h => absurd h (by decide), fun h => absurd h (by decide)⟩
theorem sf_rank : SF L F key 12 args (.int .i64 ((L.filter (lo key)).length : Int)) w := ⟨fun h => absurd h (by decide), fun _ => rfl, fun h => absurd h (by decide), fun h => absurd h (by decide)⟩
theorem sf_same : SF L F key 24 args (.bool true) w := ⟨fun h => absurd h (by decide), fun h => absurd h (by decide), fun _ => rfl, fun h => absurd h (by decide)⟩
theorem sf_all {q : Value} {A : Option Addr} {c : Nat} (h : Kd.C k32 w A L.length (L.map toS)) : SF L F key 11 #[q, .string ⟨#[]⟩, .int .i64 1073741824] (.slice A L.length c) w :=
  ⟨fun h => absurd h (by decide), fun h => absurd h (by decide), fun h => absurd h (by decide), fun _ q' => ⟨fun _ => ⟨A, c, rfl, h⟩, fun e => by simp at e⟩⟩
theorem sf_some {q : Value} {A : Option Addr} {c : Nat} (h : Kd.C k32 w A F.length (F.map toS)) : SF L F key 11 #[q, .string key, .int .i64 3] (.slice A F.length c) w :=
  ⟨fun h => absurd h (by decide), fun h => absurd h (by decide), fun h => absurd h (by decide), fun _ q' => ⟨fun e => by simp at e, fun _ => ⟨A, c, rfl, h⟩⟩⟩
end
/-! ### strings that came in, counted -/
theorem bulk_mem {H : Type} : ∀ (ds : List (DataW H)) (d : DataW H), d ∈ ds → Rows.uptoBulk d ≤ Rows.uptoBulkAll ds
  | [], _, h => by cases h
  | a :: ds, d, h => by
    simp only [Rows.uptoBulkAll]
    rcases List.mem_cons.1 h with rfl | h
    · omega
    · have := bulk_mem ds d h; omega
set_option maxRecDepth 100000 in
theorem open_strb {H : Type} {enc : TypeId × Value → H} {w : World} {base : Nat} {sp : Nat → Bool} {held : Bool} {r : Reach} {b0 : Nat} {v : Value} {d : DataW H} {ps : List MemPlace} (hv : Value.okWide Try.prog w r b0 22 v) (h : DataW.Trod enc Try.prog w base sp held 22 v d ps) :
    ∃ (A : Option Addr) (cap : Nat) (xs : List ByteArray), v = .slice A xs.length cap ∧ xs.length ≤ cap ∧ xs.length ≤ 9223372036854775807 ∧ Kd.C Kd.string w A xs.length xs ∧ ∀ k, k ∈ xs → k.size ≤ Rows.uptoBulk d := by
  obtain ⟨a1, len, cap, rfl⟩ := okWide_slice Try.underlying22 hv
  obtain ⟨fuel, hf⟩ := h
  have hC : Try.prog.cellsOf 9 = 1 := by kernel_rfl
  rcases open_strs Try.underlying22 Try.underlying9 hC hf with ⟨hcs, hx⟩ | ⟨a, len', cap', m, Sx, hcs, hb, hl, hmx, hm, hx, hel⟩
  · simp [Value.cells] at hcs
    obtain ⟨rfl, rfl, rfl⟩ := hcs
    exact ⟨none, 0, [], rfl, Nat.le_refl _, Nat.zero_le _, Kd.C_nil Kd.string w, fun k hk => by simp at hk⟩
  · simp [Value.cells] at hcs
    obtain ⟨rfl, rfl, rfl⟩ := hcs
    have hlm : len ≤ m := by rw [hm]; split <;> omega
    have hlen : ((List.range len).map Sx).length = len := by simp
    have hmx' : len ≤ 9223372036854775807 := by unfold maxLen at hmx; omega
    simp only [Prod.mk.injEq] at hx
    refine ⟨some a, cap, (List.range len).map Sx, by rw [hlen], by rw [hlen]; exact hl, by rw [hlen]; exact hmx', ?_, fun k hk => ?_⟩
    · rw [hlen]
      refine Kd.C_of_reads (enc := Value.string) (d := ByteArray.empty) (h1 := fun _ => rfl) ⟨hlen, hmx', fun hn => ⟨a, rfl, fun j hj => ?_⟩⟩
      rw [(hel j (by omega)).1]
      simp [List.getD, hj]
    · obtain ⟨i, hi, rfl⟩ := List.mem_map.1 hk
      rw [hx.1]
      simp only [Rows.uptoBulk]
      have h1 := bulk_mem (H := H) ((List.range len).map fun i => .lit (.string (Sx i).data.toList)) (.lit (.string (Sx i).data.toList)) (List.mem_map.2 ⟨i, hi, rfl⟩)
      simp only [Rows.uptoBulk, Array.length_toList] at h1
      have h2 : (Sx i).size = (Sx i).data.size := rfl
      omega
end Go.Proofs.Ytcgfdnhocdcfjaa.Hed

/- The law HedgeForms: its walk. -/
namespace Go.Proofs.Ytcgfdnhocdcfjaa.Hed
open Go.RowKit Go.Proofs.YtcgfdnhocdcfjaaW.PrintWords Go.Proofs.YtcgfdnhocdcfjaaW.PrintLast Go.Proofs.YtcgfdnhocdcfjaaW.PrintMore Go.Proofs.Ytcgfdnhocdcfjaa.Arr Go.Proofs.Ytcgfdnhocdcfjaa.Utf Go.Proofs.Ytcgfdnhocdcfjaa.PHedgePlays T
set_option linter.unusedVariables false
set_option linter.unusedSimpArgs false

/-- What a hedge holds: the keys of S with their places, and what of M is none of S. -/
def Ch (ks : List ByteArray) (S : ByteArray → Prop) (M L : List Ent) : Prop := ∀ e : Ent, e ∈ L ↔ (S e.1 ∧ e.2 = idxV ks e.1) ∨ (¬ S e.1 ∧ e ∈ M)
theorem Ch.put {ks : List ByteArray} {S : ByteArray → Prop} {M L : List Ent} (h : Ch ks S M L) (s : ByteArray) : Ch ks (fun x => S x ∨ x = s) M (putE L s (idxV ks s)) := fun e => by
  rw [mem_put, h e]
  by_cases hs : e.1 = s
  · constructor
    · rintro (rfl | ⟨_, h2⟩)
      · exact .inl ⟨.inr rfl, rfl⟩
      · exact absurd hs h2
    · rintro (⟨_, h2⟩ | ⟨h1, _⟩)
      · left
        rw [← hs, ← h2]
      · exact absurd (.inr hs) h1
  · constructor
    · rintro (rfl | ⟨h1, h2⟩)
      · exact absurd rfl hs
      · rcases h1 with ⟨a, b⟩ | ⟨a, b⟩
        · exact .inl ⟨.inl a, b⟩
        · exact .inr ⟨fun h => h.elim a h2, b⟩
    · rintro (⟨h1, h2⟩ | ⟨h1, h2⟩)
      · exact .inr ⟨.inl ⟨h1.resolve_right hs, h2⟩, hs⟩
      · exact .inr ⟨.inr ⟨fun h => h1 (.inl h), h2⟩, hs⟩
theorem Ch.congr {ks : List ByteArray} {S S' : ByteArray → Prop} {M L : List Ent} (h : Ch ks S M L) (hS : ∀ x, S x ↔ S' x) : Ch ks S' M L := fun e => by rw [h e, hS e.1]
def InT (ks : List ByteArray) (i : Nat) (x : ByteArray) : Prop := ∃ j, ∃ h : j < ks.length, j < i ∧ ks[j] = x
def InR (ks : List ByteArray) (q i : Nat) (x : ByteArray) : Prop := ∃ j, ∃ h : (j + q) % ks.length < ks.length, j < i ∧ ks[(j + q) % ks.length] = x
theorem inT_zero (ks : List ByteArray) (x : ByteArray) : ¬ InT ks 0 x := fun ⟨j, h, h1, _⟩ => absurd h1 (Nat.not_lt_zero _)
theorem inT_succ {ks : List ByteArray} {i : Nat} (hi : i < ks.length) (x : ByteArray) : (InT ks i x ∨ x = ks[i]) ↔ InT ks (i + 1) x := by
  constructor
  · rintro (⟨j, h, h1, h2⟩ | rfl)
    · exact ⟨j, h, by omega, h2⟩
    · exact ⟨i, hi, by omega, rfl⟩
  · rintro ⟨j, h, h1, h2⟩
    rcases Nat.lt_or_ge j i with h3 | h3
    · exact .inl ⟨j, h, h3, h2⟩
    · obtain rfl : j = i := by omega
      exact .inr h2.symm
theorem inT_all {ks : List ByteArray} (x : ByteArray) : InT ks ks.length x ↔ x ∈ ks := by
  constructor
  · rintro ⟨j, h, _, rfl⟩
    exact List.getElem_mem h
  · intro h
    obtain ⟨j, hj, rfl⟩ := List.getElem_of_mem h
    exact ⟨j, hj, hj, rfl⟩
theorem inT_old {ks : List ByteArray} {i : Nat} (hi : i < ks.length) (hn : idxV ks ks[i] ≠ (i : Int)) (x : ByteArray) : InT ks i x ↔ InT ks (i + 1) x := by
  rw [← inT_succ hi]
  refine ⟨.inl, fun h => h.elim id ?_⟩
  rintro rfl
  apply Classical.byContradiction
  intro hno
  exact hn (idx_at hi rfl fun j h hj e => hno ⟨j, h, hj, e.symm⟩)
theorem inR_zero (ks : List ByteArray) (q : Nat) (x : ByteArray) : ¬ InR ks q 0 x := fun ⟨j, h, h1, _⟩ => absurd h1 (Nat.not_lt_zero _)
theorem inR_succ {ks : List ByteArray} {q i : Nat} (h0 : (i + q) % ks.length < ks.length) (x : ByteArray) : (InR ks q i x ∨ x = ks[(i + q) % ks.length]) ↔ InR ks q (i + 1) x := by
  constructor
  · rintro (⟨j, h, h1, h2⟩ | rfl)
    · exact ⟨j, h, by omega, h2⟩
    · exact ⟨i, h0, by omega, rfl⟩
  · rintro ⟨j, h, h1, h2⟩
    rcases Nat.lt_or_ge j i with h3 | h3
    · exact .inl ⟨j, h, h3, h2⟩
    · obtain rfl : j = i := by omega
      exact .inr h2.symm
theorem inR_all {ks : List ByteArray} {q : Nat} (hq : q < ks.length) (x : ByteArray) : InR ks q ks.length x ↔ x ∈ ks := by
  constructor
  · rintro ⟨j, h, _, rfl⟩
    exact List.getElem_mem h
  · intro h
    obtain ⟨j, hj, rfl⟩ := List.getElem_of_mem h
    have hm : (((j + (ks.length - q)) % ks.length) + q) % ks.length = j := by
      rw [Nat.mod_add_mod, show j + (ks.length - q) + q = j + ks.length by omega, Nat.add_mod_right]
      exact Nat.mod_eq_of_lt hj
    refine ⟨(j + (ks.length - q)) % ks.length, Nat.mod_lt _ (by omega), Nat.mod_lt _ (by omega), ?_⟩
    congr 1
theorem forms_same {ks more : List ByteArray} {M L1 L3 L4 : List Ent} (h1 : Ch ks (· ∈ ks) [] L1) (h3 : Ch ks (· ∈ ks) M L3) (hM : ∀ e, e ∈ M → e.1 ∈ more) (h4 : ∀ e : Ent, e ∈ L4 ↔ e ∈ L3 ∧ ¬ (InT more more.length e.1 ∧ e.1 ∉ ks)) (s1 : Srt L1) (s4 : Srt L4) : L4 = L1 := by
  refine srt_ext s4 s1 fun e => ?_
  rw [h4 e, h3 e, h1 e]
  constructor
  · rintro ⟨h | ⟨ha, hb⟩, hc⟩
    · exact .inl h
    · exact absurd ⟨(inT_all _).2 (hM e hb), ha⟩ hc
  · rintro (⟨ha, hb⟩ | ⟨_, hb⟩)
    · exact ⟨.inl ⟨ha, hb⟩, fun h => h.2 ha⟩
    · cases hb
theorem drop_step {ks more : List ByteArray} {L3 L : List Ent} {i : Nat} (hi : i < more.length) (hs : Srt L) (h : ∀ e : Ent, e ∈ L ↔ e ∈ L3 ∧ ¬ (InT more i e.1 ∧ e.1 ∉ ks)) (hn : more[i] ∉ ks) : ∀ e : Ent, e ∈ dropE L more[i] ↔ e ∈ L3 ∧ ¬ (InT more (i + 1) e.1 ∧ e.1 ∉ ks) := fun e => by
  rw [mem_drop hs, h e, ← inT_succ hi]
  constructor
  · rintro ⟨⟨a, b⟩, c⟩
    exact ⟨a, fun d => d.1.elim (fun d1 => b ⟨d1, d.2⟩) c⟩
  · rintro ⟨a, b⟩
    exact ⟨⟨a, fun d => b ⟨.inl d.1, d.2⟩⟩, fun d => b ⟨.inr d, by rw [d]; exact hn⟩⟩
theorem keep_step {ks more : List ByteArray} {L3 L : List Ent} {i : Nat} (hi : i < more.length) (h : ∀ e : Ent, e ∈ L ↔ e ∈ L3 ∧ ¬ (InT more i e.1 ∧ e.1 ∉ ks)) (hn : more[i] ∈ ks) : ∀ e : Ent, e ∈ L ↔ e ∈ L3 ∧ ¬ (InT more (i + 1) e.1 ∧ e.1 ∉ ks) := fun e => by
  rw [h e, ← inT_succ hi]
  constructor
  · rintro ⟨a, b⟩
    refine ⟨a, fun d => d.1.elim (fun d1 => b ⟨d1, d.2⟩) fun d1 => d.2 (by rw [d1]; exact hn)⟩
  · rintro ⟨a, b⟩
    exact ⟨a, fun d => b ⟨.inl d.1, d.2⟩⟩
set_option maxHeartbeats 16000000 in
set_option maxRecDepth 100000 in
theorem lawForms_calls (ks : List ByteArray) (turn : Int) (more : List ByteArray) (hks : ∀ k, k ∈ ks → k.size ≤ 2000000) (hmo : ∀ k, k ∈ more → k.size ≤ 2000000) (A A2 : Option Addr) (c c2 : Nat) (w : World) (hC : Kd.C Kd.string w A ks.length ks) (hC2 : Kd.C Kd.string w A2 more.length more) (hkl : ks.length ≤ 9223372036854775807) (hml : more.length ≤ 9223372036854775807) :
    Calls Try.prog 6 #[.slice A ks.length c, .int .i64 turn, .slice A2 more.length c2] w fun e w' => e = .returned (.bool true) ∧ Below w.heap.size w w' := by
  have HC := Aside0.mk hC
  have HC2 := Aside0.mk hC2
  have HKS := Aside0.mk hks
  have HMO := Aside0.mk hmo
  clear hC hC2 hks hmo
  go_enter Try.func6, Try.ntmps6
  go_wp2_with fail
  refine (newP_calls (P := fun j => w.heap.size ≤ j) w (fun j hj => hj)).mono ?_
  rintro e w1 ⟨ha, rfl, hH, b1⟩
  have H1 := Aside0.mk (hH.mono (Q := fun j => w.heap.size ≤ j ∧ j < w1.heap.size) (fun j h1 h2 => ⟨h2, h1⟩))
  have B1 := Aside0.mk b1
  clear hH b1
  go_wp2_with fail
  refine (newP_calls (P := fun j => w1.heap.size ≤ j) w1 (fun j hj => hj)).mono ?_
  rintro e w2 ⟨hb, rfl, hH, b2⟩
  have G2 := Aside0.mk (hH.mono (Q := fun j => w1.heap.size ≤ j ∧ j < w2.heap.size) (fun j h1 h2 => ⟨h2, h1⟩))
  have H2 := Aside0.mk (H1.out.below b2)
  have B2 := Aside0.mk (B1.out.trans (b2.mono B1.out.size))
  have s01 := B1.out.size
  have s12 := b2.size
  clear hH b2 H1 B1
  go_wp2_with fail
  refine (awake_calls w2).mono ?_
  rintro e w3 ⟨rfl, b3⟩
  have G3 := Aside0.mk (G2.out.below b3)
  have H3 := Aside0.mk (H2.out.below b3)
  have B3 := Aside0.mk (B2.out.trans (b3.mono B2.out.size))
  have s23 := b3.size
  clear b3 H2 G2 B2
  by_cases h60 : ks.length > 60
  · have t1 : decide ((ks.length : Int) > 60) = true := decide_eq_true (by omega)
    go_wp2_with fail
    refine (awake_calls w3).mono ?_
    rintro e w4 ⟨rfl, b4⟩
    have B4 := Aside0.mk (B3.out.trans (b4.mono B3.out.size))
    clear b4
    go_wp2
    go_ret
    exact ⟨rfl, B4.out⟩
  have t1 : decide ((ks.length : Int) > 60) = false := decide_eq_false (by omega)
  by_cases h61 : more.length > 60
  · have t2 : decide ((more.length : Int) > 60) = true := decide_eq_true (by omega)
    go_wp2_with fail
    refine (awake_calls w3).mono ?_
    rintro e w4 ⟨rfl, b4⟩
    have B4 := Aside0.mk (B3.out.trans (b4.mono B3.out.size))
    clear b4
    go_wp2
    go_ret
    exact ⟨rfl, B4.out⟩
  have t2 : decide ((more.length : Int) > 60) = false := decide_eq_false (by omega)
  by_cases h0 : ks.length = 0
  · have t3 : decide ((ks.length : Int) = 0) = true := decide_eq_true (by omega)
    have t4 : ((ks.length : Int) == 0) = true := by simp [h0]
    have t5 : ((ks.length : Int) = 0) = True := eq_true (by omega)
    have t6 : (ks.length = 0) = True := eq_true h0
    go_wp2_with fail
    refine (awake_calls w3).mono ?_
    rintro e w4 ⟨rfl, b4⟩
    have B4 := Aside0.mk (B3.out.trans (b4.mono B3.out.size))
    clear b4
    go_wp2
    go_ret
    exact ⟨rfl, B4.out⟩
  obtain ⟨n, hn⟩ : ∃ n, ks.length = n := ⟨_, rfl⟩
  have HN := Aside0.mk hn
  rw [hn] at t1 h60 h0 hkl ⊢
  clear hn
  obtain ⟨m, hm⟩ : ∃ m, more.length = m := ⟨_, rfl⟩
  have HM := Aside0.mk hm
  rw [hm] at t2 h61 hml ⊢
  clear hm
  have t3 : decide ((n : Int) = 0) = false := decide_eq_false (by omega)
  have t4 : ((n : Int) == 0) = false := by simp [h0]
  have t5 : ((n : Int) = 0) = False := eq_false (by omega)
  have t6 : (n = 0) = False := eq_false h0
  have HQ : Aside0 (∃ q : Nat, q < n ∧ wrap64 ((IntKind.u64.wrap turn).tmod (n : Int)) = (q : Int) ∧ (IntKind.u64.wrap turn).tmod (n : Int) = (q : Int)) := by
    have hu0 : 0 ≤ IntKind.u64.wrap turn := by
      rw [IntKind.wrap_u64]
      omega
    have hnp : (0 : Int) < (n : Int) := by omega
    have hq0 := Int.tmod_nonneg (n : Int) hu0
    have hq1 := Int.tmod_lt_of_pos (IntKind.u64.wrap turn) hnp
    refine ⟨((IntKind.u64.wrap turn).tmod (n : Int)).toNat, by omega, ?_, by omega⟩
    rw [w64 _ (by omega) (by omega)]
    omega
  go_wp2_with fail
  obtain ⟨q, hqn, hq1, hq2⟩ := HQ.out
  rw [hq1, hq2]
  clear hq1 hq2 HQ
  clear t1 t2 t3 t4 t6
  have HA0 := Aside0.mk (H3.out.mono (Q := fun j => w.heap.size ≤ j ∧ (j < w1.heap.size ∨ w2.heap.size ≤ j)) (fun j _ h => ⟨h.1, .inl h.2⟩))
  have C0 : Aside0 (Ch ks (InT ks 0) [] []) := ⟨fun e => by
    constructor
    · intro h; cases h
    · rintro (⟨h, _⟩ | ⟨_, h⟩)
      · exact absurd h (inT_zero ks _)
      · cases h⟩
  clear H3
  go_loopw [10, 11, 55] (fun v10 v11 v55 wr => ∃ (i : Nat) (L : List Ent), v55 = .int .i64 (i : Int) ∧ Aside0 (i ≤ n) ∧ Aside0 (∀ j (h : j < ks.length), j < i → ks[j].size ≤ 200) ∧ Aside0 (L.length ≤ i) ∧ Aside0 (Ch ks (InT ks i) [] L) ∧
    Aside0 (HLP (fun j => w.heap.size ≤ j ∧ (j < w1.heap.size ∨ w2.heap.size ≤ j)) wr ha L) ∧ Aside0 (HLP (fun j => w1.heap.size ≤ j ∧ j < w2.heap.size) wr hb []) ∧ Aside0 (Below w.heap.size w wr) ∧ Aside0 (w3.heap.size ≤ wr.heap.size)) (fun _ _ v55 _ => n - (intOf v55).toNat)
  case atStart => exact ⟨0, [], rfl, ⟨Nat.zero_le _⟩, ⟨fun j h hj => absurd hj (Nat.not_lt_zero _)⟩, ⟨Nat.le_refl _⟩, C0, HA0, G3, B3, ⟨Nat.le_refl _⟩⟩
  case round =>
    obtain ⟨i, L, rfl, hin, hsh, hlen, hch, hHa, hHb, hbl, hsz⟩ := hrel
    by_cases hi : i < n
    · have t1 : decide ((i : Int) < (n : Int)) = true := decide_eq_true (by omega)
      have hik : i < ks.length := by have := HN.out; omega
      obtain ⟨ad, eA, hx⟩ := str_at (Kd.C_below HC.out hbl.out) i hik
      cases eA
      obtain ⟨kk, hkk⟩ : ∃ kk, ks[i] = kk := ⟨_, rfl⟩
      rw [hkk] at hx
      have HKK := Aside0.mk hkk
      clear hkk
      have h0 : (0 : Int) ≤ (i : Int) := by omega
      have h1 : (i : Int) < (n : Int) := by omega
      have p0 := eq_true h0
      have p1 := eq_true h1
      have hw : IntKind.i64.wrap ((i : Int) + 1) = ((i + 1 : Nat) : Int) := by rw [show ((i : Int) + 1) = ((i + 1 : Nat) : Int) by omega]; exact IntWalk.i64_in _ (by omega)
      by_cases hs : kk.size > 200
      · have t3 : decide ((kk.size : Int) > 200) = true := decide_eq_true (by omega)
        go_wp2
        go_ret
        exact ⟨rfl, hbl.out⟩
      have t3 : decide ((kk.size : Int) > 200) = false := decide_eq_false (by omega)
      have hsh2 : Aside0 (∀ j (h : j < ks.length), j < i + 1 → ks[j].size ≤ 200) := ⟨fun j h hj => by
        rcases Nat.lt_or_ge j i with h3 | h3
        · exact hsh.out j h h3
        · obtain rfl : j = i := by omega
          rw [HKK.out]; omega⟩
      have KI := Aside0.mk (index_calls ks kk (some ad) c wr (by have := HN.out; omega) (Kd.C_below HC.out hbl.out))
      rw [HN.out] at KI
      obtain ⟨v, hv⟩ : ∃ v, idxV ks kk = v := ⟨_, rfl⟩
      rw [hv] at KI
      have HV := Aside0.mk hv
      clear hv
      go_wp2_with fail
      refine KI.out.mono ?_
      rintro e w5 ⟨rfl, b5⟩
      have Ha5 := Aside0.mk (hHa.out.below b5)
      have Hb5 := Aside0.mk (hHb.out.below b5)
      have B5 := Aside0.mk (hbl.out.trans (b5.mono hbl.out.size))
      have S5 := Aside0.mk (Nat.le_trans hsz.out b5.size)
      clear b5 KI hx
      by_cases he : v = (i : Int)
      · subst he
        have KP := Aside0.mk (putP_calls Ha5.out kk (i : Int) (by have := hlen.out; omega) (by omega) (fun j hj => ⟨Nat.le_trans B5.out.size hj, .inr (by have := S5.out; omega)⟩))
        obtain ⟨qq, hqq⟩ : ∃ qq, (!(L.any (eqK kk))) = qq := ⟨_, rfl⟩
        rw [hqq] at KP
        clear hqq
        have hpl := put_len L kk (i : Int) Ha5.out.srt
        have hch2 : Aside0 (Ch ks (InT ks (i + 1)) [] (putE L kk (i : Int))) := ⟨by
          have := hch.out.put kk
          rw [HV.out] at this
          exact this.congr fun x => by rw [← HKK.out]; exact inT_succ hik x⟩
        go_wp2_with fail
        refine KP.out.mono ?_
        rintro e w6 ⟨rfl, hH6, hO6⟩
        have Ha6 := Aside0.mk hH6
        have Hb6 := Aside0.mk (Hb5.out.onlyP hO6 (fun j _ hj hp => by have := hj; have := hp; omega))
        have B6 := Aside0.mk (B5.out.trans (hO6.below B5.out.size (fun k hk => hk.1)))
        have S6 := Aside0.mk (Nat.le_trans S5.out hO6.size)
        clear hH6 hO6 KP Ha5 Hb5 B5 S5
        go_wp2
        go_roundw
        case rel => exact ⟨i + 1, _, by first | rfl | (rw [hw]) | go_num | simp [hw], ⟨by omega⟩, hsh2, ⟨by have := hlen.out; omega⟩, hch2, Ha6, Hb6, B6, S6⟩
        case measure => simp [intOf, hw]; omega
      · have u1 : decide (v = (i : Int)) = false := decide_eq_false he
        have u2 : (v == (i : Int)) = false := by simpa using he
        have u3 : (v = (i : Int)) = False := eq_false he
        have hch2 : Aside0 (Ch ks (InT ks (i + 1)) [] L) := ⟨hch.out.congr fun x => inT_old hik (by rw [HKK.out, HV.out]; exact he) x⟩
        clear he
        go_wp2
        go_roundw
        case rel => exact ⟨i + 1, L, by first | rfl | (rw [hw]) | go_num | simp [hw], ⟨by omega⟩, hsh2, ⟨by have := hlen.out; omega⟩, hch2, Ha5, Hb5, B5, S5⟩
        case measure => simp [intOf, hw]; omega
    · have t1 : decide ((i : Int) < (n : Int)) = false := decide_eq_false (by omega)
      have e3 : i = n := by have := hin.out; omega
      subst e3
      obtain ⟨wA, rfl⟩ : ∃ wA : World, wA = wr := ⟨_, rfl⟩
      have sA := hsz.out
      have BA := hbl.out.size
      have HA1 := Aside0.mk (hHa.out.mono (Q := (fun j => w.heap.size ≤ j ∧ (j < w1.heap.size ∨ w2.heap.size ≤ j) ∧ j < wA.heap.size)) (fun j hl h => ⟨h.1, h.2, hl⟩))
      have HB1 := Aside0.mk (hHb.out.mono (Q := (fun j => (w1.heap.size ≤ j ∧ j < w2.heap.size) ∨ wA.heap.size ≤ j)) (fun j _ h => .inl h))
      have CH1 : Aside0 (Ch ks (· ∈ ks) [] L) := ⟨by
        have := hch.out
        rw [← HN.out] at this
        exact this.congr fun x => inT_all x⟩
      have hLn : L.length ≤ 60 := by have := hlen.out; omega
      have HL1 := Aside0.mk hHa.out.srt
      clear hHa hHb hch
      go_wp2_with fail
      go_loopw [13, 75] (fun v13 v75 wr => ∃ (i : Nat) (M : List Ent), v75 = .int .i64 (i : Int) ∧ Aside0 (i ≤ m) ∧ Aside0 (M.length ≤ i) ∧ Aside0 (∀ e, e ∈ M → e.1 ∈ more) ∧
        Aside0 (HLP (fun j => w.heap.size ≤ j ∧ (j < w1.heap.size ∨ w2.heap.size ≤ j) ∧ j < wA.heap.size) wr ha L) ∧ Aside0 (HLP (fun j => (w1.heap.size ≤ j ∧ j < w2.heap.size) ∨ wA.heap.size ≤ j) wr hb M) ∧ Aside0 (Below w.heap.size w wr) ∧ Aside0 (wA.heap.size ≤ wr.heap.size)) (fun _ v75 _ => m - (intOf v75).toNat)
      case atStart => exact ⟨0, [], rfl, ⟨Nat.zero_le _⟩, ⟨Nat.le_refl _⟩, ⟨fun e he => by cases he⟩, HA1, HB1, hbl, ⟨Nat.le_refl _⟩⟩
      case round =>
        clear HA1 HB1
        obtain ⟨k, M, rfl, hin2, hlen2, hM, hHa, hHb, hbl2, hsz2⟩ := hrel
        by_cases hi2 : k < m
        · have t1 : decide ((k : Int) < (m : Int)) = true := decide_eq_true (by omega)
          have hik : k < more.length := by have := HM.out; omega
          obtain ⟨ad, eA, hx⟩ := str_at (Kd.C_below HC2.out hbl2.out) k hik
          cases eA
          obtain ⟨kk, hkk⟩ : ∃ kk, more[k] = kk := ⟨_, rfl⟩
          have hmm : kk ∈ more := by rw [← hkk]; exact List.getElem_mem hik
          have hzz := HMO.out kk hmm
          have HMM := Aside0.mk hmm
          rw [hkk] at hx
          clear hkk hmm
          have h0 : (0 : Int) ≤ (k : Int) := by omega
          have h1 : (k : Int) < (m : Int) := by omega
          have p0 := eq_true h0
          have p1 := eq_true h1
          have hw : IntKind.i64.wrap ((k : Int) + 1) = ((k + 1 : Nat) : Int) := by rw [show ((k : Int) + 1) = ((k + 1 : Nat) : Int) by omega]; exact IntWalk.i64_in _ (by omega)
          have KP := Aside0.mk (putP_calls hHb.out kk (-1) (by have := hlen2.out; omega) (by omega) (fun j hj => .inr (Nat.le_trans hsz2.out hj)))
          obtain ⟨qq, hqq⟩ : ∃ qq, (!(M.any (eqK kk))) = qq := ⟨_, rfl⟩
          rw [hqq] at KP
          clear hqq
          have hpl := put_len M kk (-1) hHb.out.srt
          have hM2 : Aside0 (∀ e, e ∈ putE M kk (-1) → e.1 ∈ more) := ⟨fun e he => by
            rcases mem_put.1 he with rfl | ⟨h, _⟩
            · exact HMM.out
            · exact hM.out e h⟩
          go_wp2_with fail
          refine KP.out.mono ?_
          rintro e w6 ⟨rfl, hH6, hO6⟩
          have Hb6 := Aside0.mk hH6
          have Ha6 := Aside0.mk (hHa.out.onlyP hO6 (fun j _ hj hp => by have := hj; have := hp; omega))
          have B6 := Aside0.mk (hbl2.out.trans (hO6.below hbl2.out.size (fun k hk => by have := hk; omega)))
          have S6 := Aside0.mk (Nat.le_trans hsz2.out hO6.size)
          clear hH6 hO6 KP hx
          go_wp2
          go_roundw
          case rel => exact ⟨k + 1, _, by first | rfl | (rw [hw]) | go_num | simp [hw], ⟨by omega⟩, ⟨by have := hlen2.out; omega⟩, hM2, Ha6, Hb6, B6, S6⟩
          case measure => simp [intOf, hw]; omega
        have t1 : decide ((k : Int) < (m : Int)) = false := decide_eq_false (by omega)
        obtain ⟨wB, rfl⟩ : ∃ wB : World, wB = wr := ⟨_, rfl⟩
        have hMn : M.length ≤ 60 := by have := hlen2.out; have := hin2.out; omega
        have C3 : Aside0 (Ch ks (InR ks q 0) M M) := ⟨fun e => by
          constructor
          · intro h; exact .inr ⟨inR_zero ks q _, h⟩
          · rintro (⟨h, _⟩ | ⟨_, h⟩)
            · exact absurd h (inR_zero ks q _)
            · exact h⟩
        go_wp2_with fail
        go_loopw [14, 15, 85] (fun v14 v15 v85 wr => ∃ (j : Nat) (L3 : List Ent), v85 = .int .i64 (j : Int) ∧ Aside0 (j ≤ i) ∧ Aside0 (L3.length ≤ 60 + j) ∧ Aside0 (Ch ks (InR ks q j) M L3) ∧
          Aside0 (HLP (fun j => w.heap.size ≤ j ∧ (j < w1.heap.size ∨ w2.heap.size ≤ j) ∧ j < wA.heap.size) wr ha L) ∧ Aside0 (HLP (fun j => (w1.heap.size ≤ j ∧ j < w2.heap.size) ∨ wA.heap.size ≤ j) wr hb L3) ∧ Aside0 (Below w.heap.size w wr) ∧ Aside0 (wA.heap.size ≤ wr.heap.size)) (fun _ _ v85 _ => i - (intOf v85).toNat)
        case atStart => exact ⟨0, M, rfl, ⟨Nat.zero_le _⟩, ⟨by omega⟩, C3, hHa, hHb, hbl2, hsz2⟩
        case round =>
          clear C3 hHa hHb
          obtain ⟨j, L3, rfl, hin3, hlen3, hch3, hHa, hHb, hbl3, hsz3⟩ := hrel
          by_cases hi3 : j < i
          · have t1 : decide ((j : Int) < (i : Int)) = true := decide_eq_true (by omega)
            obtain ⟨iq, hiq⟩ : ∃ iq, j + q = iq := ⟨_, rfl⟩
            have hw3 : IntKind.i64.wrap ((j : Int) + (q : Int)) = (iq : Int) := by rw [show ((j : Int) + (q : Int)) = (iq : Int) by omega]; exact IntWalk.i64_in _ (by omega)
            obtain ⟨r, hr⟩ : ∃ r, iq % i = r := ⟨_, rfl⟩
            have hri : r < i := by rw [← hr]; exact Nat.mod_lt _ (by omega)
            have hm3 : (iq : Int).tmod (i : Int) = (r : Int) := by rw [← hr, Int.tmod_eq_emod_of_nonneg (by omega)]; omega
            have hrk : (j + q) % ks.length < ks.length := Nat.mod_lt _ (by have := HN.out; omega)
            have hre : (j + q) % ks.length = r := by rw [HN.out, hiq]; exact hr
            have hrl : r < ks.length := by have := HN.out; omega
            obtain ⟨ad, eA, hx⟩ := str_at (Kd.C_below HC.out hbl3.out) r hrl
            cases eA
            obtain ⟨kk, hkk⟩ : ∃ kk, ks[r] = kk := ⟨_, rfl⟩
            have hkq : ks[(j + q) % ks.length] = kk := by rw [← hkk]; congr 1
            have hzz : kk.size ≤ 200 := by rw [← hkk]; exact hsh.out r hrl hri
            rw [hkk] at hx
            have HKQ := Aside0.mk hkq
            clear hkk hkq hr hre
            have h0 : (0 : Int) ≤ (r : Int) := by omega
            have h1 : (r : Int) < (i : Int) := by omega
            have p0 := eq_true h0
            have p1 := eq_true h1
            have hw : IntKind.i64.wrap ((j : Int) + 1) = ((j + 1 : Nat) : Int) := by rw [show ((j : Int) + 1) = ((j + 1 : Nat) : Int) by omega]; exact IntWalk.i64_in _ (by omega)
            have KI := Aside0.mk (index_calls ks kk (some ad) c wr (by have := HN.out; omega) (Kd.C_below HC.out hbl3.out))
            rw [HN.out] at KI
            obtain ⟨v, hv⟩ : ∃ v, idxV ks kk = v := ⟨_, rfl⟩
            rw [hv] at KI
            have HV := Aside0.mk hv
            clear hv hiq
            go_wp2_with fail
            refine KI.out.mono ?_
            rintro e w5 ⟨rfl, b5⟩
            have Ha5 := Aside0.mk (hHa.out.below b5)
            have Hb5 := Aside0.mk (hHb.out.below b5)
            have B5 := Aside0.mk (hbl3.out.trans (b5.mono hbl3.out.size))
            have S5 := Aside0.mk (Nat.le_trans hsz3.out b5.size)
            clear b5 KI hx
            have KP := Aside0.mk (putP_calls Hb5.out kk v (by have := hlen3.out; omega) (by omega) (fun j hj => .inr (Nat.le_trans S5.out hj)))
            obtain ⟨qq, hqq⟩ : ∃ qq, (!(L3.any (eqK kk))) = qq := ⟨_, rfl⟩
            rw [hqq] at KP
            clear hqq
            have hpl := put_len L3 kk v Hb5.out.srt
            have hch4 : Aside0 (Ch ks (InR ks q (j + 1)) M (putE L3 kk v)) := ⟨by
              have := hch3.out.put kk
              rw [HV.out] at this
              exact this.congr fun x => by rw [← HKQ.out]; exact inR_succ hrk x⟩
            go_wp2_with fail
            refine KP.out.mono ?_
            rintro e w6 ⟨rfl, hH6, hO6⟩
            have Hb6 := Aside0.mk hH6
            have Ha6 := Aside0.mk (Ha5.out.onlyP hO6 (fun j _ hj hp => by have := hj; have := hp; omega))
            have B6 := Aside0.mk (B5.out.trans (hO6.below B5.out.size (fun k hk => by have := hk; omega)))
            have S6 := Aside0.mk (Nat.le_trans S5.out hO6.size)
            clear hH6 hO6 KP Ha5 Hb5 B5 S5
            go_wp2
            go_roundw
            case rel => exact ⟨j + 1, _, by first | rfl | (rw [hw]) | go_num | simp [hw], ⟨by omega⟩, ⟨by have := hlen3.out; omega⟩, hch4, Ha6, Hb6, B6, S6⟩
            case measure => simp [intOf, hw]; omega
          have t1 : decide ((j : Int) < (i : Int)) = false := decide_eq_false (by omega)
          obtain ⟨wD, rfl⟩ : ∃ wD : World, wD = wr := ⟨_, rfl⟩
          have hji : j = i := by have := hin3.out; omega
          have CH3 : Aside0 (Ch ks (· ∈ ks) M L3) := ⟨by
            have := hch3.out
            rw [hji, ← HN.out] at this
            exact this.congr fun x => inR_all (by have := HN.out; omega) x⟩
          have hL3n : L3.length ≤ 120 := by have := hlen3.out; have := hin3.out; omega
          clear hch3 hji
          go_wp2_with fail
          have C4 : Aside0 (∀ e : Ent, e ∈ L3 ↔ e ∈ L3 ∧ ¬ (InT more 0 e.1 ∧ e.1 ∉ ks)) := ⟨fun e => ⟨fun h => ⟨h, fun h' => inT_zero more _ h'.1⟩, fun h => h.1⟩⟩
          go_loopw [17, 106] (fun v17 v106 wr => ∃ (k4 : Nat) (L4 : List Ent), v106 = .int .i64 (k4 : Int) ∧ Aside0 (k4 ≤ m) ∧ Aside0 (L4.length ≤ 120) ∧ Aside0 (∀ e : Ent, e ∈ L4 ↔ e ∈ L3 ∧ ¬ (InT more k4 e.1 ∧ e.1 ∉ ks)) ∧
            Aside0 (HLP (fun j => w.heap.size ≤ j ∧ (j < w1.heap.size ∨ w2.heap.size ≤ j) ∧ j < wA.heap.size) wr ha L) ∧ Aside0 (HLP (fun j => (w1.heap.size ≤ j ∧ j < w2.heap.size) ∨ wA.heap.size ≤ j) wr hb L4) ∧ Aside0 (Below w.heap.size w wr) ∧ Aside0 (wA.heap.size ≤ wr.heap.size)) (fun _ v106 _ => m - (intOf v106).toNat)
          case atStart => exact ⟨0, L3, rfl, ⟨Nat.zero_le _⟩, ⟨hL3n⟩, C4, hHa, hHb, hbl3, hsz3⟩
          case round =>
            clear C4 hHa hHb
            obtain ⟨k4, L4, rfl, hin4, hlen4, hch4, hHa, hHb, hbl4, hsz4⟩ := hrel
            by_cases hi4 : k4 < m
            · have t1 : decide ((k4 : Int) < (m : Int)) = true := decide_eq_true (by omega)
              have hik : k4 < more.length := by have := HM.out; omega
              obtain ⟨ad, eA, hx⟩ := str_at (Kd.C_below HC2.out hbl4.out) k4 hik
              cases eA
              obtain ⟨kk, hkk⟩ : ∃ kk, more[k4] = kk := ⟨_, rfl⟩
              have hzz := HMO.out kk (by rw [← hkk]; exact List.getElem_mem hik)
              rw [hkk] at hx
              have HKK := Aside0.mk hkk
              clear hkk
              have h0 : (0 : Int) ≤ (k4 : Int) := by omega
              have h1 : (k4 : Int) < (m : Int) := by omega
              have p0 := eq_true h0
              have p1 := eq_true h1
              have hw : IntKind.i64.wrap ((k4 : Int) + 1) = ((k4 + 1 : Nat) : Int) := by rw [show ((k4 : Int) + 1) = ((k4 + 1 : Nat) : Int) by omega]; exact IntWalk.i64_in _ (by omega)
              have KI := Aside0.mk (contains_calls ks kk A c wr (by have := HN.out; omega) (Kd.C_below HC.out hbl4.out))
              rw [HN.out] at KI
              obtain ⟨v, hv⟩ : ∃ v, hasV ks kk = v := ⟨_, rfl⟩
              have hiff := has_iff ks kk
              rw [hv] at KI hiff
              have HIF := Aside0.mk hiff
              clear hv hiff
              go_wp2_with fail
              refine KI.out.mono ?_
              rintro e w5 ⟨rfl, b5⟩
              have Ha5 := Aside0.mk (hHa.out.below b5)
              have Hb5 := Aside0.mk (hHb.out.below b5)
              have B5 := Aside0.mk (hbl4.out.trans (b5.mono hbl4.out.size))
              have S5 := Aside0.mk (Nat.le_trans hsz4.out b5.size)
              clear b5 KI hx
              cases v with
              | false =>
                have hno : kk ∉ ks := fun h => by have := HIF.out.2 h; cases this
                have hch5 : Aside0 (∀ e : Ent, e ∈ dropE L4 kk ↔ e ∈ L3 ∧ ¬ (InT more (k4 + 1) e.1 ∧ e.1 ∉ ks)) := ⟨by
                  have := drop_step (ks := ks) hik Hb5.out.srt hch4.out (by rw [HKK.out]; exact hno)
                  rw [HKK.out] at this
                  exact this⟩
                have KP := Aside0.mk (dropP_calls Hb5.out kk (by have := hlen4.out; omega) (by omega))
                obtain ⟨qq, hqq⟩ : ∃ qq : Int, (if L4.any (eqK kk) then (0 : Int) else 19) = qq := ⟨_, rfl⟩
                rw [hqq] at KP
                clear hqq hno
                have hpl := drop_len Hb5.out.srt kk
                go_wp2_with fail
                refine KP.out.mono ?_
                rintro e w6 ⟨rfl, hH6, hO6⟩
                have Hb6 := Aside0.mk hH6
                have Ha6 := Aside0.mk (Ha5.out.onlyP hO6 (fun j _ hj hp => by have := hj; have := hp; omega))
                have B6 := Aside0.mk (B5.out.trans (hO6.below B5.out.size (fun k hk => by have := hk; omega)))
                have S6 := Aside0.mk (Nat.le_trans S5.out hO6.size)
                clear hH6 hO6 KP Ha5 Hb5 B5 S5
                go_wp2
                go_roundw
                case rel => exact ⟨k4 + 1, _, by first | rfl | (rw [hw]) | go_num | simp [hw], ⟨by omega⟩, ⟨by have := hlen4.out; omega⟩, hch5, Ha6, Hb6, B6, S6⟩
                case measure => simp [intOf, hw]; omega
              | true =>
                have hch5 : Aside0 (∀ e : Ent, e ∈ L4 ↔ e ∈ L3 ∧ ¬ (InT more (k4 + 1) e.1 ∧ e.1 ∉ ks)) := ⟨keep_step hik hch4.out (by rw [HKK.out]; exact HIF.out.1 rfl)⟩
                go_wp2
                go_roundw
                case rel => exact ⟨k4 + 1, L4, by first | rfl | (rw [hw]) | go_num | simp [hw], ⟨by omega⟩, hlen4, hch5, Ha5, Hb5, B5, S5⟩
                case measure => simp [intOf, hw]; omega
            have t1 : decide ((k4 : Int) < (m : Int)) = false := decide_eq_false (by omega)
            obtain ⟨wE, rfl⟩ : ∃ wE : World, wE = wr := ⟨_, rfl⟩
            have hk4 : k4 = more.length := by have := hin4.out; have := HM.out; omega
            have hLL : L4 = L := forms_same CH1.out CH3.out hM.out (by have := hch4.out; rw [hk4] at this; exact this) HL1.out hHb.out.srt
            subst hLL
            have HHa := Aside0.mk (hHa.out.hl (B := w.heap.size) fun j hj => hj.1)
            have HHb := Aside0.mk (hHb.out.hl (B := w.heap.size) fun j hj => by have := hj; omega)
            have hqk : q < ks.length := by have := HN.out; omega
            obtain ⟨ad, eA, hx⟩ := str_at (Kd.C_below HC.out hbl4.out) q hqk
            cases eA
            obtain ⟨key, hkk⟩ : ∃ key, ks[q] = key := ⟨_, rfl⟩
            rw [hkk] at hx
            clear hkk hk4
            have h0 : (0 : Int) ≤ (q : Int) := by omega
            have h1 : (q : Int) < (i : Int) := by omega
            have p0 := eq_true h0
            have p1 := eq_true h1
            obtain ⟨F, hF⟩ : ∃ F, (L4.filter (Hed.hi key)).take (3 : Int).toNat = F := ⟨_, rfl⟩
            have HF := Aside0.mk hF
            have hFl : F.length ≤ 3 := by rw [← hF, List.length_take]; exact Nat.min_le_left _ _
            have HALL : Aside0 ((L4.filter (Hed.hi ⟨#[]⟩)).take (1073741824 : Int).toNat = L4) := ⟨by
              rw [hi_empty, List.take_of_length_le (show L4.length ≤ (1073741824 : Int).toNat by show _ ≤ 1073741824; omega)]⟩
            clear hF
            have HBL := Aside0.mk hbl4.out
            go_wp2_with fail
            refine Qw.wp_region_all (SF L4 F key) (fun w' => Below wE.heap.size wE w') (fun w1 w2 h hb => h.trans (hb.mono h.size)) (by kernel_rfl) (by kernel_rfl) (Below.refl _ _).drew ?_
            ((first | (with_reducible refine Qw.w_val ⟨fun _ _ _ hF h w' h1 h2 => h w' h1 fun k => hF k _ (h2 k)⟩ ?_ (Qw.wanted_none rfl) ?_) | ((with_reducible refine Qw.w_val ⟨fun _ _ _ hF h w' h1 h2 => h w' h1 fun k => hF k _ (h2 k)⟩ ?_ ?_ ?_); (focus (exact fun _ => trivial)); (focus (exact Qg.wanted_on rfl rfl rfl)))); (try (focus (exact fun _ => trivial))); apply Exists.intro; refine ⟨?_, ?_⟩; (focus (intro w' hw' hp'; skip; go_simp; (first | done | (with_reducible rfl)))); intro K hK; go_simp; (first | (with_reducible refine hK _ ?_) | (refine hK _ ?_)); clear hK K)
            ((with_reducible refine Qw.w_call ?_ ?_); (first | (focus (exact Qw.wanted_none rfl)) | (focus (exact Qg.wanted_on rfl rfl rfl))); apply Exists.intro; apply Exists.intro; refine ⟨?_, ?_, ?_, ?_⟩; (focus (intro w'; go_simp; (first | rfl | exact ⟨rfl, rfl⟩))); (focus (exact fun u => sf_stb)); (focus (intro w' hw' hp'; refine (lenL_calls (HHa.out.below hw')).mono ?_; rintro e w8 ⟨rfl, b8⟩; exact ⟨_, rfl, b8, sf_len⟩)); rintro u ⟨wx, -, -, hS9⟩; obtain rfl := hS9.1 rfl; intro K hK; go_simp; (first | (with_reducible refine hK _ ?_) | (refine hK _ ?_)); clear hK K)
            ((first | (with_reducible refine Qw.w_val ⟨fun _ _ _ hF h w' h1 h2 => h w' h1 fun k => hF k _ (h2 k)⟩ ?_ (Qw.wanted_none rfl) ?_) | ((with_reducible refine Qw.w_val ⟨fun _ _ _ hF h w' h1 h2 => h w' h1 fun k => hF k _ (h2 k)⟩ ?_ ?_ ?_); (focus (exact fun _ => trivial)); (focus (exact Qg.wanted_on rfl rfl rfl)))); (try (focus (exact fun _ => trivial))); apply Exists.intro; refine ⟨?_, ?_⟩; (focus (intro w' hw' hp'; skip; go_simp; (first | done | (with_reducible rfl)))); intro K hK; go_simp; (first | (with_reducible refine hK _ ?_) | (refine hK _ ?_)); clear hK K)
            ((with_reducible refine Qw.w_call ?_ ?_); (first | (focus (exact Qw.wanted_none rfl)) | (focus (exact Qg.wanted_on rfl rfl rfl))); apply Exists.intro; apply Exists.intro; refine ⟨?_, ?_, ?_, ?_⟩; (focus (intro w'; go_simp; (first | rfl | exact ⟨rfl, rfl⟩))); (focus (exact fun u => sf_stb)); (focus (intro w' hw' hp'; refine (lenL_calls (HHb.out.below hw')).mono ?_; rintro e w8 ⟨rfl, b8⟩; exact ⟨_, rfl, b8, sf_len⟩)); rintro u ⟨wx, -, -, hS9⟩; obtain rfl := hS9.1 rfl; intro K hK; go_simp; (first | (with_reducible refine hK _ ?_) | (refine hK _ ?_)); clear hK K)
            iterate 3 ((first | (with_reducible refine Qw.w_val ⟨fun _ _ _ hF h w' h1 h2 => h w' h1 fun k => hF k _ (h2 k)⟩ ?_ (Qw.wanted_none rfl) ?_) | ((with_reducible refine Qw.w_val ⟨fun _ _ _ hF h w' h1 h2 => h w' h1 fun k => hF k _ (h2 k)⟩ ?_ ?_ ?_); (focus (exact fun _ => trivial)); (focus (exact Qg.wanted_on rfl rfl rfl)))); (try (focus (exact fun _ => trivial))); apply Exists.intro; refine ⟨?_, ?_⟩; (focus (intro w' hw' hp'; skip; go_simp; (first | done | (with_reducible rfl)))); intro K hK; go_simp; (first | (with_reducible refine hK _ ?_) | (refine hK _ ?_)); clear hK K)
            ((with_reducible refine Qw.w_call ?_ ?_); (first | (focus (exact Qw.wanted_none rfl)) | (focus (exact Qg.wanted_on rfl rfl rfl))); apply Exists.intro; apply Exists.intro; refine ⟨?_, ?_, ?_, ?_⟩; (focus (intro w'; go_simp; (first | rfl | exact ⟨rfl, rfl⟩))); (focus (exact fun u => sf_stb)); (focus (intro w' hw' hp'; refine (fromL_calls (HHa.out.below hw') ⟨#[]⟩ 1073741824 (by omega)).mono ?_; rintro e w8 ⟨vo, rfl, hR8, b8⟩; rw [HALL.out] at hR8; obtain ⟨A8, c8, rfl, hc8, hC8⟩ := Kd.R_reads hR8; rw [List.length_map] at hC8 ⊢; exact ⟨_, rfl, b8, sf_all hC8⟩)); rintro u ⟨wx, -, -, hS9⟩; obtain ⟨A8, c8, rfl, -⟩ := (hS9.2.2.2 rfl _).1 rfl; intro K hK; go_simp; (first | (with_reducible refine hK _ ?_) | (refine hK _ ?_)); clear hK K)
            ((first | (with_reducible refine Qw.w_val ⟨fun _ _ _ hF h w' h1 h2 => h w' h1 fun k => hF k _ (h2 k)⟩ ?_ (Qw.wanted_none rfl) ?_) | ((with_reducible refine Qw.w_val ⟨fun _ _ _ hF h w' h1 h2 => h w' h1 fun k => hF k _ (h2 k)⟩ ?_ ?_ ?_); (focus (exact fun _ => trivial)); (focus (exact Qg.wanted_on rfl rfl rfl)))); (try (focus (exact fun _ => trivial))); apply Exists.intro; refine ⟨?_, ?_⟩; (focus (intro w' hw' hp'; skip; go_simp; (first | done | (with_reducible rfl)))); intro K hK; go_simp; (first | (with_reducible refine hK _ ?_) | (refine hK _ ?_)); clear hK K)
            ((with_reducible refine Qw.w_call ?_ ?_); (first | (focus (exact Qw.wanted_none rfl)) | (focus (exact Qg.wanted_on rfl rfl rfl))); apply Exists.intro; apply Exists.intro; refine ⟨?_, ?_, ?_, ?_⟩; (focus (intro w'; go_simp; (first | rfl | exact ⟨rfl, rfl⟩))); (focus (exact fun u => sf_stb)); (focus (intro w' hw' hp'; refine (fromL_calls (HHb.out.below hw') ⟨#[]⟩ 1073741824 (by omega)).mono ?_; rintro e w8 ⟨vo, rfl, hR8, b8⟩; rw [HALL.out] at hR8; obtain ⟨A8, c8, rfl, hc8, hC8⟩ := Kd.R_reads hR8; rw [List.length_map] at hC8 ⊢; exact ⟨_, rfl, b8, sf_all hC8⟩)); rintro u ⟨wx, -, -, hS9⟩; obtain ⟨A9, c9, rfl, -⟩ := (hS9.2.2.2 rfl _).1 rfl; intro K hK; go_simp; (first | (with_reducible refine hK _ ?_) | (refine hK _ ?_)); clear hK K)
            ((with_reducible refine Qw.w_call ?_ ?_); (first | (focus (exact Qw.wanted_none rfl)) | (focus (exact Qg.wanted_on rfl rfl rfl))); apply Exists.intro; apply Exists.intro; refine ⟨?_, ?_, ?_, ?_⟩; (focus (intro w'; go_simp; (first | rfl | exact ⟨rfl, rfl⟩))); (focus (exact fun u => sf_stb)); (focus (intro w' hw' hp'; have q1 : SF L4 F key 11 #[.pointer (some ⟨ha, 0, none⟩), .string ⟨#[]⟩, .int .i64 1073741824] (.slice A8 L4.length c8) w' := Qw.fact hp' 7 rfl; obtain ⟨A', c', ea, hC8⟩ := (q1.2.2.2 rfl _).1 rfl; injection ea with ea1 ea2 ea3; subst ea1; have q2 : SF L4 F key 11 #[.pointer (some ⟨hb, 0, none⟩), .string ⟨#[]⟩, .int .i64 1073741824] (.slice A9 L4.length c9) w' := Qw.fact hp' 9 rfl; obtain ⟨A', c', ea, hC9⟩ := (q2.2.2.2 rfl _).1 rfl; injection ea with ea1 ea2 ea3; subst ea1; refine (equal_calls L4 (by omega) A8 A9 c8 c9 w' hC8 hC9).mono ?_; rintro e w8 ⟨rfl, b8⟩; exact ⟨_, rfl, b8, sf_same⟩)); rintro u ⟨wx, -, -, hS9⟩; obtain rfl := hS9.2.2.1 rfl; intro K hK; go_simp; (first | (with_reducible refine hK _ ?_) | (refine hK _ ?_)); clear hK K)
            iterate 7 ((first | (with_reducible refine Qw.w_val ⟨fun _ _ _ hF h w' h1 h2 => h w' h1 fun k => hF k _ (h2 k)⟩ ?_ (Qw.wanted_none rfl) ?_) | ((with_reducible refine Qw.w_val ⟨fun _ _ _ hF h w' h1 h2 => h w' h1 fun k => hF k _ (h2 k)⟩ ?_ ?_ ?_); (focus (exact fun _ => trivial)); (focus (exact Qg.wanted_on rfl rfl rfl)))); (try (focus (exact fun _ => trivial))); apply Exists.intro; refine ⟨?_, ?_⟩; (focus (intro w' hw' hp'; have z0 := (hw'.cell (World.block_lt_of_cell? wE _ hx)).trans hx; go_simp; (first | done | (with_reducible rfl)))); intro K hK; go_simp; (first | (with_reducible refine hK _ ?_) | (refine hK _ ?_)); clear hK K)
            ((with_reducible refine Qw.w_call ?_ ?_); (first | (focus (exact Qw.wanted_none rfl)) | (focus (exact Qg.wanted_on rfl rfl rfl))); apply Exists.intro; apply Exists.intro; refine ⟨?_, ?_, ?_, ?_⟩; (focus (intro w'; go_simp; (first | rfl | exact ⟨rfl, rfl⟩))); (focus (exact fun u => sf_stb)); (focus (intro w' hw' hp'; refine (fromL_calls (HHa.out.below hw') key 3 (by omega)).mono ?_; rintro e w8 ⟨vo, rfl, hR8, b8⟩; rw [HF.out] at hR8; obtain ⟨A8, c8, rfl, hc8, hC8⟩ := Kd.R_reads hR8; rw [List.length_map] at hC8 ⊢; exact ⟨_, rfl, b8, sf_some hC8⟩)); rintro u ⟨wx, -, -, hS9⟩; obtain ⟨A6, c6, rfl, -⟩ := (hS9.2.2.2 rfl _).2 rfl; intro K hK; go_simp; (first | (with_reducible refine hK _ ?_) | (refine hK _ ?_)); clear hK K)
            iterate 5 ((first | (with_reducible refine Qw.w_val ⟨fun _ _ _ hF h w' h1 h2 => h w' h1 fun k => hF k _ (h2 k)⟩ ?_ (Qw.wanted_none rfl) ?_) | ((with_reducible refine Qw.w_val ⟨fun _ _ _ hF h w' h1 h2 => h w' h1 fun k => hF k _ (h2 k)⟩ ?_ ?_ ?_); (focus (exact fun _ => trivial)); (focus (exact Qg.wanted_on rfl rfl rfl)))); (try (focus (exact fun _ => trivial))); apply Exists.intro; refine ⟨?_, ?_⟩; (focus (intro w' hw' hp'; have z0 := (hw'.cell (World.block_lt_of_cell? wE _ hx)).trans hx; go_simp; (first | done | (with_reducible rfl)))); intro K hK; go_simp; (first | (with_reducible refine hK _ ?_) | (refine hK _ ?_)); clear hK K)
            ((with_reducible refine Qw.w_call ?_ ?_); (first | (focus (exact Qw.wanted_none rfl)) | (focus (exact Qg.wanted_on rfl rfl rfl))); apply Exists.intro; apply Exists.intro; refine ⟨?_, ?_, ?_, ?_⟩; (focus (intro w'; go_simp; (first | rfl | exact ⟨rfl, rfl⟩))); (focus (exact fun u => sf_stb)); (focus (intro w' hw' hp'; refine (fromL_calls (HHb.out.below hw') key 3 (by omega)).mono ?_; rintro e w8 ⟨vo, rfl, hR8, b8⟩; rw [HF.out] at hR8; obtain ⟨A8, c8, rfl, hc8, hC8⟩ := Kd.R_reads hR8; rw [List.length_map] at hC8 ⊢; exact ⟨_, rfl, b8, sf_some hC8⟩)); rintro u ⟨wx, -, -, hS9⟩; obtain ⟨A7, c7, rfl, -⟩ := (hS9.2.2.2 rfl _).2 rfl; intro K hK; go_simp; (first | (with_reducible refine hK _ ?_) | (refine hK _ ?_)); clear hK K)
            ((with_reducible refine Qw.w_call ?_ ?_); (first | (focus (exact Qw.wanted_none rfl)) | (focus (exact Qg.wanted_on rfl rfl rfl))); apply Exists.intro; apply Exists.intro; refine ⟨?_, ?_, ?_, ?_⟩; (focus (intro w'; go_simp; (first | rfl | exact ⟨rfl, rfl⟩))); (focus (exact fun u => sf_stb)); (focus (intro w' hw' hp'; have q1 : SF L4 F key 11 #[.pointer (some ⟨ha, 0, none⟩), .string key, .int .i64 3] (.slice A6 F.length c6) w' := Qw.fact hp' 18 rfl; obtain ⟨A', c', ea, hC8⟩ := (q1.2.2.2 rfl _).2 rfl; injection ea with ea1 ea2 ea3; subst ea1; have q2 : SF L4 F key 11 #[.pointer (some ⟨hb, 0, none⟩), .string key, .int .i64 3] (.slice A7 F.length c7) w' := Qw.fact hp' 24 rfl; obtain ⟨A', c', ea, hC9⟩ := (q2.2.2.2 rfl _).2 rfl; injection ea with ea1 ea2 ea3; subst ea1; refine (equal_calls F (by omega) A6 A7 c6 c7 w' hC8 hC9).mono ?_; rintro e w8 ⟨rfl, b8⟩; exact ⟨_, rfl, b8, sf_same⟩)); rintro u ⟨wx, -, -, hS9⟩; obtain rfl := hS9.2.2.1 rfl; intro K hK; go_simp; (first | (with_reducible refine hK _ ?_) | (refine hK _ ?_)); clear hK K)
            iterate 7 ((first | (with_reducible refine Qw.w_val ⟨fun _ _ _ hF h w' h1 h2 => h w' h1 fun k => hF k _ (h2 k)⟩ ?_ (Qw.wanted_none rfl) ?_) | ((with_reducible refine Qw.w_val ⟨fun _ _ _ hF h w' h1 h2 => h w' h1 fun k => hF k _ (h2 k)⟩ ?_ ?_ ?_); (focus (exact fun _ => trivial)); (focus (exact Qg.wanted_on rfl rfl rfl)))); (try (focus (exact fun _ => trivial))); apply Exists.intro; refine ⟨?_, ?_⟩; (focus (intro w' hw' hp'; have z0 := (hw'.cell (World.block_lt_of_cell? wE _ hx)).trans hx; go_simp; (first | done | (with_reducible rfl)))); intro K hK; go_simp; (first | (with_reducible refine hK _ ?_) | (refine hK _ ?_)); clear hK K)
            ((with_reducible refine Qw.w_call ?_ ?_); (first | (focus (exact Qw.wanted_none rfl)) | (focus (exact Qg.wanted_on rfl rfl rfl))); apply Exists.intro; apply Exists.intro; refine ⟨?_, ?_, ?_, ?_⟩; (focus (intro w'; go_simp; (first | rfl | exact ⟨rfl, rfl⟩))); (focus (exact fun u => sf_stb)); (focus (intro w' hw' hp'; refine (rankL_calls (HHa.out.below hw') key (by omega)).mono ?_; rintro e w8 ⟨rfl, b8⟩; exact ⟨_, rfl, b8, sf_rank⟩)); rintro u ⟨wx, -, -, hS9⟩; obtain rfl := hS9.2.1 rfl; intro K hK; go_simp; (first | (with_reducible refine hK _ ?_) | (refine hK _ ?_)); clear hK K)
            iterate 5 ((first | (with_reducible refine Qw.w_val ⟨fun _ _ _ hF h w' h1 h2 => h w' h1 fun k => hF k _ (h2 k)⟩ ?_ (Qw.wanted_none rfl) ?_) | ((with_reducible refine Qw.w_val ⟨fun _ _ _ hF h w' h1 h2 => h w' h1 fun k => hF k _ (h2 k)⟩ ?_ ?_ ?_); (focus (exact fun _ => trivial)); (focus (exact Qg.wanted_on rfl rfl rfl)))); (try (focus (exact fun _ => trivial))); apply Exists.intro; refine ⟨?_, ?_⟩; (focus (intro w' hw' hp'; have z0 := (hw'.cell (World.block_lt_of_cell? wE _ hx)).trans hx; go_simp; (first | done | (with_reducible rfl)))); intro K hK; go_simp; (first | (with_reducible refine hK _ ?_) | (refine hK _ ?_)); clear hK K)
            ((with_reducible refine Qw.w_call ?_ ?_); (first | (focus (exact Qw.wanted_none rfl)) | (focus (exact Qg.wanted_on rfl rfl rfl))); apply Exists.intro; apply Exists.intro; refine ⟨?_, ?_, ?_, ?_⟩; (focus (intro w'; go_simp; (first | rfl | exact ⟨rfl, rfl⟩))); (focus (exact fun u => sf_stb)); (focus (intro w' hw' hp'; refine (rankL_calls (HHb.out.below hw') key (by omega)).mono ?_; rintro e w8 ⟨rfl, b8⟩; exact ⟨_, rfl, b8, sf_rank⟩)); rintro u ⟨wx, -, -, hS9⟩; obtain rfl := hS9.2.1 rfl; intro K hK; go_simp; (first | (with_reducible refine hK _ ?_) | (refine hK _ ?_)); clear hK K)
            iterate 3 ((first | (with_reducible refine Qw.w_val ⟨fun _ _ _ hF h w' h1 h2 => h w' h1 fun k => hF k _ (h2 k)⟩ ?_ (Qw.wanted_none rfl) ?_) | ((with_reducible refine Qw.w_val ⟨fun _ _ _ hF h w' h1 h2 => h w' h1 fun k => hF k _ (h2 k)⟩ ?_ ?_ ?_); (focus (exact fun _ => trivial)); (focus (exact Qg.wanted_on rfl rfl rfl)))); (try (focus (exact fun _ => trivial))); apply Exists.intro; refine ⟨?_, ?_⟩; (focus (intro w' hw' hp'; skip; go_simp; (first | done | (with_reducible rfl)))); intro K hK; go_simp; (first | (with_reducible refine hK _ ?_) | (refine hK _ ?_)); clear hK K)
            ((with_reducible refine Qw.w_nil ?_); intro w' hw' hf')
            have BW := Aside0.mk (HBL.out.trans (hw'.mono HBL.out.size))
            clear hw' hf'
            go_wp2
            go_ret
            exact ⟨rfl, BW.out⟩
end Go.Proofs.Ytcgfdnhocdcfjaa.Hed
