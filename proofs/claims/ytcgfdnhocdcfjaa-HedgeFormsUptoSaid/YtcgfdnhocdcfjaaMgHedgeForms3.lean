/- Texts of this claim, merged: Haw, Hpf, Hps, Hpn, Hrf, Ost, Hoa, Qw, How. -/
import Derived.Test.YtcgfdnhocdcfjaaMgHedgeForms2
import Derived.Test.YtcgfdnhocdcfjaaPHedgePlaysx2
import Derived.Test.YtcgfdnhocdcfjaaMgHedgeForms1
import Derived.Test.YtcgfdnhocdcfjaaRows
import Derived.Deep.Strs
import Derived.Lib.SmallJoins
import Derived.ChangeMaps5
import Derived.WalkKit
import Derived.ProofKit
import Derived.OpenShut
import Derived.Lib.LaidTab
/- The fixed fact awake. -/
namespace Go.Proofs.Ytcgfdnhocdcfjaa.Hed
open Go.RowKit Go.Proofs.YtcgfdnhocdcfjaaW.PrintWords Go.Proofs.Ytcgfdnhocdcfjaa.Arr Go.Proofs.Ytcgfdnhocdcfjaa.Utf Go.Proofs.Ytcgfdnhocdcfjaa.PHedgePlays T
set_option linter.unusedVariables false
set_option linter.unusedSimpArgs false

def sA : ByteArray := ⟨#[97]⟩
def sAB : ByteArray := ⟨#[97, 98]⟩
def sB : ByteArray := ⟨#[98]⟩
def kEx (i : Nat) : ByteArray := if i = 0 then sB else if i = 1 then sAB else sA
def lEx (i : Nat) : List Ent := if i = 0 then [] else if i = 1 then [(sB, 1)] else if i = 2 then [(sAB, 1), (sB, 1)] else [(sA, 1), (sAB, 1), (sB, 1)]
theorem kEx_size (i : Nat) : (kEx i).size ≤ 100000000 := by unfold kEx; split <;> (try split) <;> decide
theorem lEx_len (i : Nat) : (lEx i).length ≤ 3 := by unfold lEx; split <;> (try split) <;> (try split) <;> decide
theorem ex0 : putE (lEx 0) (kEx 0) 1 = lEx 1 := by kernel_rfl
theorem ex1 : putE (lEx 1) (kEx 1) 1 = lEx 2 := by kernel_rfl
theorem ex2 : putE (lEx 2) (kEx 2) 1 = lEx 3 := by kernel_rfl
theorem exs (i : Nat) (h : i < 3) : putE (lEx i) (kEx i) 1 = lEx (i + 1) := by
  match i, h with
  | 0, _ => exact ex0
  | 1, _ => exact ex1
  | 2, _ => exact ex2
  | i + 3, h => omega
theorem exIx (i : Nat) (h : i < 3) : ∀ w, (Instr.index 58 (.agg #[.string ⟨#[98]⟩, .string ⟨#[97, 98]⟩, .string ⟨#[97]⟩]) (.int .i64 (i : Int))).run Try.prog w = .ok (.string (kEx i)) w := by
  match i, h with
  | 0, _ => intro w; rfl
  | 1, _ => intro w; rfl
  | 2, _ => intro w; rfl
  | i + 3, h => omega
theorem exU : (((lEx 3).filter (hi sA)).take (9 : Int).toNat).takeWhile (fun e => pre sA e.1) = [(sA, 1), (sAB, 1)] := by kernel_rfl
theorem exR : (((lEx 3).filter (lo sB)).length : Int) = 2 := by kernel_rfl
theorem own_some {w : World} {base : Nat} {ok : Nat → Prop} {A : Option Addr} {n c : Nat} {l : List S32} (h : Kd.R k32 TEn w base ok (.slice A n c) l) (hn : 0 < l.length) : ∃ g, A = some ⟨g, 0, none⟩ := by
  obtain ⟨h0, inner, ho, hr⟩ := h
  rcases ho.2 with ⟨e, h2⟩ | ⟨g, cap, cur, e, hg, hh, r⟩
  · omega
  · injection e with e1 e2 e3
    exact ⟨g, e1⟩
set_option maxHeartbeats 4000000 in
set_option maxRecDepth 100000 in
theorem awake_calls (w : World) : Calls Try.prog 8 #[] w fun e w' => e = .returned (.bool true) ∧ Below w.heap.size w w' := by
  go_enter Try.func8, Try.ntmps8
  go_wp2_with fail
  refine (newL_calls w).mono ?_
  rintro e w1 ⟨h, rfl, hH, b1⟩
  have H1 := Aside0.mk hH
  have B1 := Aside0.mk b1
  clear hH b1
  go_wp2
  go_loopw [3, 9, 10, 11, 12, 13, 14, 15] (fun v3 v9 v10 v11 v12 v13 v14 v15 wr => ∃ i : Nat, v9 = .int .i64 (i : Int) ∧ Aside0 (i ≤ 3) ∧ Aside0 (HL w.heap.size wr h (lEx i)) ∧ Aside0 (Below w.heap.size w wr)) (fun _ v9 _ _ _ _ _ _ _ => 3 - (intOf v9).toNat)
  case atStart => exact ⟨0, rfl, ⟨Nat.zero_le _⟩, H1, B1⟩
  case round =>
    obtain ⟨i, rfl, hin, hH, hb⟩ := hrel
    by_cases hi : i < 3
    · have t1 : decide ((i : Int) < 3) = true := decide_eq_true (by omega)
      have hx := exIx i hi
      have K := Aside0.mk (putL_calls hH.out (kEx i) 1 (by have := lEx_len i; omega) (kEx_size i) hb.out.size)
      have HE := Aside0.mk (exs i hi)
      obtain ⟨kk, hkk⟩ : ∃ kk, kEx i = kk := ⟨_, rfl⟩
      rw [hkk] at hx K HE
      obtain ⟨qq, hqq⟩ : ∃ qq, (!((lEx i).any (eqK kk))) = qq := ⟨_, rfl⟩
      rw [hqq] at K
      have hw : IntKind.i64.wrap ((i : Int) + 1) = ((i + 1 : Nat) : Int) := by rw [show ((i : Int) + 1) = ((i + 1 : Nat) : Int) by omega]; exact IntWalk.i64_in _ (by omega)
      clear hkk hqq
      go_wp2_with fail
      refine K.out.mono ?_
      rintro e w2 ⟨rfl, hH2, hb2⟩
      rw [HE.out] at hH2
      have H2 := Aside0.mk hH2
      have B2 := Aside0.mk (hb.out.trans hb2)
      clear hH2 hb2
      go_wp2
      go_roundw
      case rel => exact ⟨i + 1, by first | rfl | (rw [hw]) | go_num | simp [hw], ⟨by omega⟩, H2, B2⟩
      case measure => simp [intOf, hw]; omega
    · have t1 : decide ((i : Int) < 3) = false := decide_eq_false (by omega)
      have e3 : i = 3 := by have := hin.out; omega
      subst e3
      have KU := Aside0.mk (underL_calls hH.out sA 9 (by have := lEx_len 3; omega))
      rw [exU] at KU
      go_wp2_with fail
      refine KU.out.mono ?_
      rintro e w3 ⟨vo, rfl, hR, b3⟩
      obtain ⟨A3, c3, hc3, rfl, hC3⟩ : ∃ A c, ([(sA, (1 : Int)), (sAB, 1)].map toS).length ≤ c ∧ vo = .slice A 2 c ∧ Kd.C k32 w3 A 2 ([(sA, (1 : Int)), (sAB, 1)].map toS) := by
        obtain ⟨A, c, h1, h2, h3⟩ := Kd.R_reads hR
        exact ⟨A, c, h2, h1, h3⟩
      obtain ⟨g, rfl⟩ := own_some hR (by decide)
      obtain ⟨a0, eA, x0, x1⟩ := at_T32 hC3 0 (by decide) (by decide)
      cases eA
      obtain ⟨a1, eA, z0, z1⟩ := at_T32 hC3 1 (by decide) (by decide)
      cases eA
      have x0 : w3.cell? ⟨g, 0, none⟩ = some (.string ⟨#[97]⟩) := x0
      have z0 : w3.cell? ⟨g, 2, none⟩ = some (.string ⟨#[97, 98]⟩) := z0
      have H3 := Aside0.mk (hH.out.below b3)
      have KR := Aside0.mk (rankL_calls H3.out sB (by have := lEx_len 3; omega))
      rw [exR] at KR
      have B3 := Aside0.mk (hb.out.trans (b3.mono hb.out.size))
      clear hR hC3 b3
      go_wp2_with fail
      refine KR.out.mono ?_
      rintro e w4 ⟨rfl, b4⟩
      have B4 := Aside0.mk (B3.out.trans (b4.mono B3.out.size))
      clear b4 x0 x1 z0 z1
      go_wp2
      go_ret
      exact ⟨rfl, B4.out⟩
end Go.Proofs.Ytcgfdnhocdcfjaa.Hed

/- What begins with a prefix, in a sorted list: plain facts. -/
namespace Go.Proofs.Ytcgfdnhocdcfjaa.Hed
open Go.RowKit Go.Proofs.Ytcgfdnhocdcfjaa.Utf T
set_option linter.unusedVariables false
set_option linter.unusedSimpArgs false

/-- Between a prefix and a list that begins with it all lists begin with it. -/
theorem pre_mid : ∀ (p x y : List Int), cmpL p x ≤ 0 → cmpL x y < 0 → p <+: y → p <+: x
  | [], x, y, _, _, _ => List.nil_prefix
  | a :: p, [], y, h, _, _ => by simp [cmpL] at h
  | a :: p, b :: x, [], _, _, h => by simp at h
  | a :: p, b :: x, c :: y, h, h', hp => by
    obtain ⟨rfl, hp2⟩ := List.cons_prefix_cons.1 hp
    simp only [cmpL] at h h'
    by_cases e : a = b
    · rw [if_pos e] at h
      rw [if_pos e.symm] at h'
      subst e
      exact List.cons_prefix_cons.2 ⟨rfl, pre_mid p x y h h' hp2⟩
    · exfalso
      rw [if_neg e] at h
      rw [if_neg (Ne.symm e), intsV_neg] at h'
      have h2 : ¬ 0 < intsV a b := by omega
      rw [intsV_pos] at h2
      exact h2 h'
/-- Where a property holds on a first part alone, takeWhile is that part. -/
theorem take_while_at {α : Type} (q : α → Bool) : ∀ (l : List α), (l.Pairwise fun a b => q b = true → q a = true) → ∀ i (h : i < l.length), q l[i] = decide (i < (l.takeWhile q).length)
  | [], _, i, h => by simp at h
  | a :: l, hp, i, h => by
    obtain ⟨h1, h2⟩ := List.pairwise_cons.1 hp
    rw [List.takeWhile_cons]
    cases ha : q a with
    | true =>
      simp only [if_true, List.length_cons]
      cases i with
      | zero => simp [ha]
      | succ i =>
        have := take_while_at q l h2 i (by simpa using h)
        simp only [List.getElem_cons_succ]
        rw [this]
        simp
    | false =>
      simp only [Bool.false_eq_true, if_false, List.length_nil]
      cases i with
      | zero => simp [ha]
      | succ i =>
        have hi : i < l.length := by simpa using h
        have h3 : ¬ q l[i] = true := fun hq => by have := h1 l[i] (List.getElem_mem hi) hq; rw [ha] at this; cases this
        simp only [List.getElem_cons_succ]
        simp [h3]
theorem take_while_get {α : Type} (q : α → Bool) : ∀ (l : List α) (i : Nat) (h : i < (l.takeWhile q).length) (h' : i < l.length), (l.takeWhile q)[i] = l[i]
  | [], i, h, _ => by simp at h
  | a :: l, i, h, h' => by
    cases ha : q a with
    | false => rw [List.takeWhile_cons, ha] at h; simp at h
    | true =>
      have e : (a :: l).takeWhile q = a :: l.takeWhile q := by rw [List.takeWhile_cons, ha]; rfl
      simp only [e] at h ⊢
      cases i with
      | zero => rfl
      | succ i =>
        simp only [List.getElem_cons_succ]
        exact take_while_get q l i (by simpa using h) (by simpa using h')
theorem lo_hi_len (l : List Ent) (key : ByteArray) : (l.filter (lo key)).length + (l.filter (hi key)).length = l.length := by
  induction l with
  | nil => rfl
  | cons a l ih =>
    simp only [List.filter_cons]
    unfold hi at *
    cases h : T.lt a.1 key with
    | true =>
      have h1 : lo key a = true := h
      simp only [h1, if_true, Bool.not_true, Bool.false_eq_true, if_false, List.length_cons]
      omega
    | false =>
      have h1 : lo key a = false := h
      simp only [h1, if_true, Bool.not_false, Bool.false_eq_true, if_false, List.length_cons]
      omega
/-- A key begins with a prefix: of the lists of bytes. -/
def preL (p k : ByteArray) : Prop := bl p 0 <+: bl k 0
theorem bl_ge (p k : ByteArray) (h : T.lt k p = false) : cmpL (bl p 0) (bl k 0) ≤ 0 := by
  unfold T.lt cmpB at h
  rw [decide_eq_false_iff_not] at h
  rw [cmpL_flip]
  omega
theorem pre_iff (p k : ByteArray) : pre p k = true ↔ preL p k := by
  unfold pre preL bl Lib.hasPrefix
  simp only [List.drop_zero, List.isPrefixOf_iff_prefix]
  constructor
  · rintro ⟨r, hr⟩
    exact ⟨r.map fun c => (c.toNat : Int), by rw [← List.map_append, hr]⟩
  · rintro ⟨r, hr⟩
    have hl := congrArg List.length hr
    simp only [List.length_append, List.length_map] at hl
    refine ⟨k.data.toList.drop p.data.toList.length, ?_⟩
    have h1 : p.data.toList = k.data.toList.take p.data.toList.length := by
      refine (List.map_inj_right (f := fun c : UInt8 => (c.toNat : Int)) (fun x y hxy => UInt8.toNat_inj.1 (by have : (x.toNat : Int) = y.toNat := hxy; omega))).1 ?_
      rw [List.map_take, ← hr, List.take_left' (by simp)]
    conv => lhs; lhs; rw [h1]
    exact List.take_append_drop _ _
/-- The law's own test: long enough, and the first bytes are the prefix's. -/
theorem pre_test (p k : ByteArray) : pre p k = (decide (p.size ≤ k.size) && decide ((k.extract 0 p.size).data.toList = p.data.toList)) := by
  have e : (k.extract 0 p.size).data.toList = k.data.toList.take p.data.toList.length := by
    rw [ByteArray.data_extract, Array.toList_extract]
    simp [List.extract]
  rw [Bool.eq_iff_iff]
  unfold pre Lib.hasPrefix
  rw [e]
  simp only [List.isPrefixOf_iff_prefix, Bool.and_eq_true, decide_eq_true_eq]
  constructor
  · intro h
    exact ⟨by have := h.length_le; simpa using this, (List.prefix_iff_eq_take.1 h).symm⟩
  · rintro ⟨_, h⟩
    exact List.prefix_iff_eq_take.2 h.symm
theorem pre_pairs (p : ByteArray) (l : List Ent) (h : Srt l) (hh : ∀ e, e ∈ l → hi p e = true) : l.Pairwise fun a b => preL p b.1 → preL p a.1 := by
  induction l with
  | nil => exact List.Pairwise.nil
  | cons a l ih =>
    obtain ⟨h1, h2⟩ := List.pairwise_cons.1 h
    refine List.pairwise_cons.2 ⟨fun b hb hp => ?_, ih h2 (fun e he => hh e (by simp [he]))⟩
    have ha := hh a (by simp)
    have hb' := h1 b hb
    unfold hi at ha
    simp only [Bool.not_eq_true'] at ha
    refine pre_mid _ _ _ (bl_ge p a.1 ha) ?_ hp
    unfold T.lt cmpB at hb'
    simpa using hb'
end Go.Proofs.Ytcgfdnhocdcfjaa.Hed

/- Puts one behind the other, plainly; entries of a sorted list. -/
namespace Go.Proofs.Ytcgfdnhocdcfjaa.Hed
open Go.RowKit Go.Proofs.YtcgfdnhocdcfjaaW.PrintWords Go.Proofs.Ytcgfdnhocdcfjaa.Arr Go.Proofs.Ytcgfdnhocdcfjaa.Utf Go.Proofs.Ytcgfdnhocdcfjaa.PHedgePlays T
set_option linter.unusedVariables false
set_option linter.unusedSimpArgs false

/-- The list behind the first i puts. -/
def putsE (num : Nat → Int) : List ByteArray → Nat → List Ent → List Ent
  | [], _, l => l
  | k :: ks, i, l => putsE num ks (i + 1) (putE l k (num i))
theorem putsE_snoc (num : Nat → Int) (k : ByteArray) : ∀ (ks : List ByteArray) (i : Nat) (l : List Ent), putsE num (ks ++ [k]) i l = putE (putsE num ks i l) k (num (i + ks.length))
  | [], i, l => rfl
  | a :: ks, i, l => by
    simp only [List.cons_append, putsE, List.length_cons]
    rw [putsE_snoc num k ks, show i + 1 + ks.length = i + (ks.length + 1) by omega]
theorem putsE_srt (num : Nat → Int) : ∀ (ks : List ByteArray) (i : Nat) (l : List Ent), Srt l → Srt (putsE num ks i l)
  | [], _, _, h => h
  | k :: ks, i, l, h => putsE_srt num ks (i + 1) _ (srt_put h k _)
theorem putsE_len (num : Nat → Int) : ∀ (ks : List ByteArray) (i : Nat) (l : List Ent), Srt l → (putsE num ks i l).length ≤ l.length + ks.length
  | [], _, _, _ => Nat.le_refl _
  | k :: ks, i, l, h => by
    have h1 := putsE_len num ks (i + 1) _ (srt_put h k (num i))
    have h2 := put_len l k (num i) h
    simp only [putsE, List.length_cons]
    omega
def numI (i : Nat) : Int := (i : Int)
theorem puts_take (num : Nat → Int) (ks : List ByteArray) (i : Nat) (h : i < ks.length) : putsE num (ks.take (i + 1)) 0 [] = putE (putsE num (ks.take i) 0 []) ks[i] (num i) := by
  rw [← List.take_append_getElem h, putsE_snoc, List.length_take, Nat.min_eq_left (Nat.le_of_lt h), Nat.zero_add]
theorem str_at {w : World} {A : Option Addr} {ks : List ByteArray} (h : Kd.C Kd.string w A ks.length ks) (i : Nat) (hi : i < ks.length) : ∃ ad, A = some ad ∧ w.cell? (ad.add i) = some (.string ks[i]) := by
  have h2 : ReadsOf Value.string ⟨#[]⟩ w A ks.length ks := Kd.reads_of_C h
  obtain ⟨ad, e, hc⟩ := h2.2.2 (by omega)
  refine ⟨ad, e, ?_⟩
  rw [hc i hi]
  simp [List.getD, hi]
/-- Every entry is one of the keys, with its number. -/
theorem putsE_mem (num : Nat → Int) : ∀ (ks : List ByteArray) (i : Nat) (l : List Ent) (e : Ent), e ∈ putsE num ks i l → e ∈ l ∨ ∃ j, ∃ h : j < ks.length, e = (ks[j], num (i + j))
  | [], _, _, _, h => Or.inl h
  | k :: ks, i, l, e, h => by
    rcases putsE_mem num ks (i + 1) _ e h with h | ⟨j, hj, rfl⟩
    · unfold putE at h
      rcases List.mem_append.1 h with h | h
      · exact Or.inl (List.mem_filter.1 h).1
      · rcases List.mem_cons.1 h with rfl | h
        · exact Or.inr ⟨0, by simp, by simp⟩
        · exact Or.inl (List.mem_filter.1 h).1
    · exact Or.inr ⟨j + 1, by simpa using hj, by simp only [List.getElem_cons_succ]; rw [show i + (j + 1) = i + 1 + j by omega]⟩
theorem bytes_cmp : ∀ x y : List UInt8, Op.bytesLess x y = decide (cmpL (x.map fun c => (c.toNat : Int)) (y.map fun c => (c.toNat : Int)) < 0)
  | [], [] => rfl
  | [], _ :: _ => by simp [Op.bytesLess, cmpL]
  | _ :: _, [] => by simp [Op.bytesLess, cmpL]
  | a :: x, b :: y => by
    simp only [Op.bytesLess, List.map_cons, cmpL]
    by_cases h : a = b
    · subst h
      rw [if_pos rfl, bytes_cmp x y]
      have : ¬ a < a := by rw [UInt8.lt_iff_toNat_lt]; omega
      simp [this]
    · have h2 : ¬ ((a.toNat : Int) = (b.toNat : Int)) := fun e => h (UInt8.toNat_inj.1 (by omega))
      rw [if_neg h2, Bool.eq_iff_iff]
      have h3 : (a == b) = false := by simpa using h
      rw [h3, Bool.false_and, Bool.or_false, decide_eq_true_eq, decide_eq_true_eq, intsV_neg, UInt8.lt_iff_toNat_lt]
      omega
theorem bytes_lt (a b : ByteArray) : Op.bytesLess a.toList b.toList = T.lt a b := by
  rw [bytes_cmp, Lib.toList_data, Lib.toList_data]
  unfold T.lt cmpB bl
  simp only [List.drop_zero]
theorem srt_at {L : List Ent} (h : Srt L) (i j : Nat) (hi : i < L.length) (hj : j < L.length) (hij : i < j) : T.lt L[i].1 L[j].1 = true := List.pairwise_iff_getElem.1 h i j hi hj hij
theorem srt_le {L : List Ent} (h : Srt L) (i j : Nat) (hi : i < L.length) (hj : j < L.length) (hij : i ≤ j) : T.lt L[j].1 L[i].1 = false := by
  rcases Nat.lt_or_eq_of_le hij with h1 | rfl
  · exact lt_asymm (srt_at h i j hi hj h1)
  · exact lt_irrefl _
theorem rank_at : ∀ (L : List Ent), Srt L → ∀ (i : Nat) (hi : i < L.length), (L.filter (lo L[i].1)).length = i
  | [], _, i, hi => absurd hi (Nat.not_lt_zero _)
  | a :: L, h, 0, hi => by
    rw [filter_none]
    · rfl
    · intro e he
      obtain ⟨j, hj, rfl⟩ := List.getElem_of_mem he
      exact srt_le h 0 j hi hj (Nat.zero_le _)
  | a :: L, h, i + 1, hi => by
    have h1 : lo (a :: L)[i + 1].1 a = true := srt_at h 0 (i + 1) (by simp) hi (by omega)
    rw [List.filter_cons, if_pos h1, List.length_cons]
    have := rank_at L (List.pairwise_cons.1 h).2 i (by simpa using hi)
    simpa using this
theorem find_at {L : List Ent} (h : Srt L) (i : Nat) (hi : i < L.length) : L.find? (eqK L[i].1) = some L[i] := by
  rw [List.find?_eq_some_iff_getElem]
  refine ⟨by simp [eqK], i, hi, rfl, fun j hj => ?_⟩
  have h1 := srt_at h j i (by omega) hi hj
  unfold eqK
  simp only [Bool.not_eq_true', decide_eq_false_iff_not]
  intro e
  rw [e, lt_irrefl] at h1
  cases h1
theorem hi_empty (L : List Ent) : L.filter (hi ⟨#[]⟩) = L := filter_all fun e _ => by
  show (!T.lt e.1 ⟨#[]⟩) = true
  unfold T.lt cmpB
  have : cmpL (bl e.1 0) (bl ⟨#[]⟩ 0) = intsV (bl e.1 0).length 0 := cmpL_nil_right _
  rw [this]
  have h2 : ¬ intsV ((bl e.1 0).length : Int) 0 < 0 := by rw [intsV_neg]; omega
  simp [h2]
end Go.Proofs.Ytcgfdnhocdcfjaa.Hed

/- stileref15.From, printed (print.sh), mended. -/
namespace Go.Proofs.Ytcgfdnhocdcfjaa.PHedgePlays
open Go.RowKit Go.Proofs.YtcgfdnhocdcfjaaW.PrintWords Go.Proofs.YtcgfdnhocdcfjaaW.PrintLast Go.Proofs.YtcgfdnhocdcfjaaW.PrintMore
attribute [local go_sem] max2_int min2_int max_two min_two max_three min_three max_four min_four
set_option linter.unusedVariables false
set_option linter.unusedSimpArgs false

/-! ### stileref15_From: function 21 -/
def stileref15_From.l0 : Nat → List (S71) → ByteArray → ByteArray → Int → List (S71) → Int → Int → Option ((List (S71)))
  | 0, _, _, _, _, _, _, _ => none
  | k + 1, x0, x1, x2, x3, x9, x13, x14 => if x14 < x13 then (if 0 ≤ x14 then (if x14 < (x0.length : Int) then (if (x9.length : Int) < x3 then ((stileref01_Compare.f k ((rd_T71 x0 x14).f0) x1).bind fun t158 => (if t158 ≥ 0 then (if (((rd_T71 x0 x14).f0).size : Int) ≥ (x2.size : Int) then (if 0 ≤ (x2.size : Int) then (if (x2.size : Int) ≤ (((rd_T71 x0 x14).f0).size : Int) then (if (((rd_T71 x0 x14).f0).extract 0 ((x2.size : Int) : Int).toNat).toList = x2.toList then (if x9.length < 5864062014805 then (stileref15_From.l0 k x0 x1 x2 x3 (x9 ++ [(⟨(rd_T71 x0 x14).f0, (rd_T71 x0 x14).f1⟩ : S71)]) x13 (wrap64 (x14 + 1))) else (none)) else (stileref15_From.l0 k x0 x1 x2 x3 x9 x13 (wrap64 (x14 + 1)))) else (none)) else (none)) else (stileref15_From.l0 k x0 x1 x2 x3 x9 x13 (wrap64 (x14 + 1)))) else (stileref15_From.l0 k x0 x1 x2 x3 x9 x13 (wrap64 (x14 + 1))))) else (stileref15_From.l0 k x0 x1 x2 x3 x9 x13 (wrap64 (x14 + 1)))) else (none)) else (none)) else (some x9)
def stileref15_From.f (k : Nat) (l0 : List (S71)) (a1 : ByteArray) (a2 : ByteArray) (a3 : Int) : Option ((List (S71))) := stileref15_From.l0 k l0 a1 a2 a3 ([] : List (S71)) (l0.length : Int) 0
theorem stileref15_From.mono_l : ∀ k, (∀ y0 y1 y2 y3 y4 y5 y6, LeO (stileref15_From.l0 k y0 y1 y2 y3 y4 y5 y6) (stileref15_From.l0 (k + 1) y0 y1 y2 y3 y4 y5 y6))
  | 0 => fun _ _ _ _ _ _ _ r h => by simp [stileref15_From.l0] at h
  | k + 1 => by
    have ih0 := stileref15_From.mono_l k
    · intro y0 y1 y2 y3 y4 y5 y6
      unfold stileref15_From.l0
      repeat' first
      | (with_reducible exact ih0 _ _ _ _ _ _ _)
      | (with_reducible exact stileref01_Compare.mono _ _ _)
      | (with_reducible exact LeO.refl _)
      | (with_reducible exact LeO.none _)
      | (with_reducible refine LeO.ite ?_ ?_)
      | (with_reducible refine LeO.bind ?_ (fun _ => ?_))
      | exact ih0 _ _ _ _ _ _ _
      | exact stileref01_Compare.mono _ _ _
      | exact LeO.none _
      | refine LeO.ite ?_ ?_
      | refine LeO.bind ?_ (fun _ => ?_)
theorem stileref15_From.mono : ∀ a0 a1 a2 a3 k, LeO (stileref15_From.f k a0 a1 a2 a3) (stileref15_From.f (k + 1) a0 a1 a2 a3) := by
  intro a0 a1 a2 a3 k
  have ih0 := stileref15_From.mono_l k
  unfold stileref15_From.f
  repeat' first
      | (with_reducible exact ih0 _ _ _ _ _ _ _)
      | (with_reducible exact stileref01_Compare.mono _ _ _)
      | (with_reducible exact LeO.refl _)
      | (with_reducible exact LeO.none _)
      | (with_reducible refine LeO.ite ?_ ?_)
      | (with_reducible refine LeO.bind ?_ (fun _ => ?_))
      | exact ih0 _ _ _ _ _ _ _
      | exact stileref01_Compare.mono _ _ _
      | exact LeO.none _
      | refine LeO.ite ?_ ?_
      | refine LeO.bind ?_ (fun _ => ?_)
set_option maxHeartbeats 8000000 in
set_option maxRecDepth 100000 in
theorem stileref15_From.calls (k : Nat) (A0 : Option Addr) (c0 : Nat) (l0 : List (S71)) (a1 : ByteArray) (a2 : ByteArray) (a3 : Int) (r : List (S71)) (w : World) (hr0 : Kd.C k71 w A0 l0.length l0) (hc0 : l0.length ≤ c0) (h : stileref15_From.f k l0 a1 a2 a3 = some r) :
    Calls Try.prog 21 #[.slice A0 l0.length c0, .string a1, .string a2, .int .i64 a3] w fun e w' => ∃ v0_ : Value, e = .returned (v0_) ∧ Kd.R k71 71 w' w.heap.size (fun _ => True) v0_ r ∧ Below w.heap.size w w' := by
  have hu71 := Try.underlying71
  have HR0 := Aside0.mk hr0
  have HC0 := Aside0.mk hc0
  clear hr0 hc0
  have HB := Aside0.mk (Below.refl w.heap.size w)
  have H : (stileref15_From.l0 k l0 a1 a2 a3 ([] : List (S71)) (l0.length : Int) 0) = some r := h
  clear h
  have H' := Aside0.mk H
  clear H
  go_enter Try.func21, Try.ntmps21
  go_wp2
  go_loopg [9, 14] k (fun kq v9 v14 w' => ∃ (x9_1 : List (S71)) (x14_1 : Int), v14 = .int .i64 x14_1 ∧ Aside0 (stileref15_From.l0 kq l0 a1 a2 a3 x9_1 (l0.length : Int) x14_1 = some r) ∧ Aside0 (kq ≤ k) ∧ Aside0 (Kd.R k71 71 w' w.heap.size (fun _ => True) v9 x9_1) ∧ Aside0 (Below w.heap.size w w'))
  case atStart => exact ⟨(([] : List (S71))), (0), (by first | rfl | (simp; done) | (simp [*]; done)), H', ⟨Nat.le_refl _⟩, ⟨by first | exact Kd.R_nil _ _ _ _ _ | exact Kd.N_nil _ _ _ _ _ | exact Kd.V_nil _ _ _ _ _ | exact Kd.Q_nil _ _ _ _ _ | exact Kd.S_nil _ _ _ _ _⟩, ⟨by repeat (first | (with_reducible first | exact HB.out | apply below_alloc | apply pw_below_drewN | apply below_drew1) | exact HB.out)⟩⟩
  case round =>
    clear H'
    try clear c2
    try clear p2
    obtain ⟨x9_1, x14_1, rfl, HA, HK1, HO_9, HB⟩ := hrel
    cases gk with
    | zero => exact absurd HA.out (by simp [stileref15_From.l0])
    | succ k1 =>
      have H := HA.out
      clear HA
      simp only [stileref15_From.l0] at H
      by_cases c5 : x14_1 < (l0.length : Int)
      · rw [if_pos c5] at H
        have c5b0 : decide (x14_1 < (l0.length : Int)) = true := decide_eq_true c5
        clear c5
        by_cases c6 : 0 ≤ x14_1
        · rw [if_pos c6] at H
          have c6b0 : decide (0 ≤ x14_1) = true := decide_eq_true c6
          clear c6
          by_cases c7 : x14_1 < (l0.length : Int)
          · rw [if_pos c7] at H
            have c7b0 : decide (x14_1 < (l0.length : Int)) = true := decide_eq_true c7
            clear c7
            by_cases c8 : (x9_1.length : Int) < a3
            · rw [if_pos c8] at H
              have c8b0 : decide ((x9_1.length : Int) < a3) = true := decide_eq_true c8
              clear c8
              replace H := Option.bind_eq_some_iff.mp H
              obtain ⟨t158, A90, H⟩ := H
              replace H : (if t158 ≥ 0 then (if (((rd_T71 l0 x14_1).f0).size : Int) ≥ (a2.size : Int) then (if 0 ≤ (a2.size : Int) then (if (a2.size : Int) ≤ (((rd_T71 l0 x14_1).f0).size : Int) then (if (((rd_T71 l0 x14_1).f0).extract 0 ((a2.size : Int) : Int).toNat).toList = a2.toList then (if x9_1.length < 5864062014805 then (stileref15_From.l0 k1 l0 a1 a2 a3 (x9_1 ++ [(⟨(rd_T71 l0 x14_1).f0, (rd_T71 l0 x14_1).f1⟩ : S71)]) (l0.length : Int) (wrap64 (x14_1 + 1))) else (none)) else (stileref15_From.l0 k1 l0 a1 a2 a3 x9_1 (l0.length : Int) (wrap64 (x14_1 + 1)))) else (none)) else (none)) else (stileref15_From.l0 k1 l0 a1 a2 a3 x9_1 (l0.length : Int) (wrap64 (x14_1 + 1)))) else (stileref15_From.l0 k1 l0 a1 a2 a3 x9_1 (l0.length : Int) (wrap64 (x14_1 + 1)))) = some r := H
              have A9 := Aside0.mk A90
              clear A90
              by_cases c10 : t158 ≥ 0
              · rw [if_pos c10] at H
                have c10b0 : decide (0 ≤ t158) = true := decide_eq_true c10
                clear c10
                by_cases c11 : (((rd_T71 l0 x14_1).f0).size : Int) ≥ (a2.size : Int)
                · rw [if_pos c11] at H
                  have c11b0 : decide ((a2.size : Int) ≤ (((rd_T71 l0 x14_1).f0).size : Int)) = true := decide_eq_true c11
                  have c11b1 : decide (a2.size ≤ ((rd_T71 l0 x14_1).f0).size) = true := decide_eq_true (Int.ofNat_le.mp c11)
                  clear c11
                  by_cases c12 : 0 ≤ (a2.size : Int)
                  · rw [if_pos c12] at H
                    have c12b0 := eq_true c12
                    have c12b1 : decide (0 ≤ (a2.size : Int)) = true := decide_eq_true c12
                    clear c12
                    by_cases c13 : (a2.size : Int) ≤ (((rd_T71 l0 x14_1).f0).size : Int)
                    · rw [if_pos c13] at H
                      have c13b0 := eq_true c13
                      have c13b1 : decide ((a2.size : Int) ≤ (((rd_T71 l0 x14_1).f0).size : Int)) = true := decide_eq_true c13
                      clear c13
                      by_cases c14 : (((rd_T71 l0 x14_1).f0).extract 0 ((a2.size : Int) : Int).toNat).toList = a2.toList
                      · rw [if_pos c14] at H
                        have c14b0 : ((((rd_T71 l0 x14_1).f0).extract 0 ((a2.size : Int) : Int).toNat).toList == a2.toList) = true := beq_iff_eq.mpr c14
                        have c14b0x : ((((rd_T71 l0 x14_1).f0).extract 0 a2.size).toList == a2.toList) = true := c14b0
                        have c14b1 : ((((rd_T71 l0 x14_1).f0).extract 0 ((a2.size : Int) : Int).toNat).toList != a2.toList) = false := bne_eq_false_iff_eq.mpr c14
                        have c14b1x : ((((rd_T71 l0 x14_1).f0).extract 0 a2.size).toList != a2.toList) = false := c14b1
                        clear c14
                        by_cases c15 : x9_1.length < 5864062014805
                        · rw [if_pos c15] at H
                          have LMc15 := Aside0.mk c15
                          clear c15
                          obtain ⟨y160, hy160⟩ : ∃ y_ : List (S71), y_ = (x9_1 ++ [(⟨(rd_T71 l0 x14_1).f0, (rd_T71 l0 x14_1).f1⟩ : S71)]) := ⟨_, rfl⟩
                          replace H : (stileref15_From.l0 k1 l0 a1 a2 a3 y160 (l0.length : Int) (wrap64 (x14_1 + 1))) = some r := by first | (rw [hy160]; with_reducible exact H) | (have H2_ := (Option.bind_some _ _).symm.trans H; rw [hy160]; with_reducible exact H2_) | (have H2_ := (Option.bind_some _ _).symm.trans H; with_reducible exact H2_) | with_reducible exact H | (rw [hy160]; exact H) | exact H
                          have Ny160 := Aside0.mk hy160
                          clear hy160
                          have H' := Aside0.mk H
                          clear H
                          have p157 : 0 ≤ (x14_1 : Int) := of_decide_eq_true (by first | (with_reducible assumption) | assumption)
                          have q157 : x14_1 < (l0.length : Int) := of_decide_eq_true (by first | (with_reducible assumption) | assumption)
                          obtain ⟨ad157, e157, hx157_0, hx157_1⟩ := at_T71 HR0.out x14_1 p157 q157
                          cases e157
                          replace hx157_0 := (HB.out.cell (World.block_lt_of_cell? w _ hx157_0)).trans hx157_0
                          replace hx157_1 := (HB.out.cell (World.block_lt_of_cell? w _ hx157_1)).trans hx157_1
                          replace p157 := eq_true p157
                          replace q157 := eq_true q157
                          obtain ⟨Ao16, co16, eo16⟩ := Kd.R_slice HO_9.out
                          subst eo16
                          go_wp2_with (first | (go_at_call 35; (with_reducible refine (stileref01_Compare.calls k1 ((rd_T71 l0 x14_1).f0) a1 t158 _ A9.out).mono ?_); rintro e w' ⟨rfl, ⟨nd, rfl⟩⟩; have p159 : 0 ≤ (x14_1 : Int) := of_decide_eq_true (by first | (with_reducible assumption) | assumption); have q159 : x14_1 < (l0.length : Int) := of_decide_eq_true (by first | (with_reducible assumption) | assumption); obtain ⟨ad159, e159, hx159_0, hx159_1⟩ := at_T71 HR0.out x14_1 p159 q159; obtain rfl : ad157 = ad159 := (by injection e159); replace hx159_0 := (HB.out.cell (World.block_lt_of_cell? w _ hx159_0)).trans hx159_0; replace hx159_1 := (HB.out.cell (World.block_lt_of_cell? w _ hx159_1)).trans hx159_1; replace p159 := eq_true p159; replace q159 := eq_true q159) | ((with_reducible refine gate_builtin (b := .append) (xs := #[.tmp 47, .tmp 52]) rfl ?_); (try (refine gate_guard (by rfl) ?_; dsimp only)); at_builtin; refine Kd.R_append k71 (w0 := w) w.heap.size rfl (.tmp 47) (.tmp 52) 39 71 (.agg #[(.string ⟨#[]⟩), (.int .i64 0)]) 24 rfl Try.underlying39 info71 rfl (by decide) (by omega) (.slice Ao16 x9_1.length co16) x9_1 (⟨(rd_T71 l0 x14_1).f0, (rd_T71 l0 x14_1).f1⟩ : S71) [.string ((rd_T71 l0 x14_1).f0), .int .i64 ((rd_T71 l0 x14_1).f1)] (fun _ => True) (fun _ => False) rfl rfl ?aP (fun _ hk => hk.elim) ?aF ?aO ?aB ?aS ?aL ?_; (case aP => exact k71_mkM _ _ _ (⟨(rd_T71 l0 x14_1).f0, (rd_T71 l0 x14_1).f1⟩ : S71)); (case aB => exact (by repeat (first | (with_reducible first | exact HB.out | apply below_alloc | apply pw_below_drewN | apply below_drew1) | exact HB.out))); (case aF => exact (fun _ _ => trivial)); (case aO => exact (by (with_reducible repeat (first | apply Kd.R_alloc | apply Kd.R_drewN | apply Kd.R_drew)); exact HO_9.out)); (case aS => exact (below_size (by repeat (first | (with_reducible first | exact HB.out | apply below_alloc | apply pw_below_drewN | apply below_drew1) | exact HB.out)))); (case aL => have := LMc15.out; omega); intro v161 w17 ho hb hg hat; rw [← Ny160.out] at ho; have n0_ := Aside0.mk (hb); have n1_ := Aside0.mk (ho); clear HB; clear HO_9; have HB := n0_; have HO162 := n1_; clear n0_ n1_; clear ho hb hg hat))
                          go_roundg k1
                          case measure => have := HK1.out; omega
                          case rel => exact ⟨(y160), (wrap64 (x14_1 + 1)), (by first | rfl | (simp; done) | (simp [*]; done)), H', ⟨by have := HK1.out; omega⟩, ⟨by (with_reducible repeat (first | apply Kd.R_alloc | apply Kd.R_drewN | apply Kd.R_drew)); exact HO162.out⟩, ⟨by repeat (first | (with_reducible first | exact HB.out | apply below_alloc | apply pw_below_drewN | apply below_drew1) | exact HB.out)⟩⟩
                        · rw [if_neg c15] at H
                          exact absurd H (by simp)
                      · rw [if_neg c14] at H
                        have c14b0 : ((((rd_T71 l0 x14_1).f0).extract 0 ((a2.size : Int) : Int).toNat).toList == a2.toList) = false := beq_eq_false_iff_ne.mpr c14
                        have c14b0x : ((((rd_T71 l0 x14_1).f0).extract 0 a2.size).toList == a2.toList) = false := c14b0
                        have c14b1 : ((((rd_T71 l0 x14_1).f0).extract 0 ((a2.size : Int) : Int).toNat).toList != a2.toList) = true := bne_iff_ne.mpr c14
                        have c14b1x : ((((rd_T71 l0 x14_1).f0).extract 0 a2.size).toList != a2.toList) = true := c14b1
                        have H' := Aside0.mk H
                        clear H
                        have p157 : 0 ≤ (x14_1 : Int) := of_decide_eq_true (by first | (with_reducible assumption) | assumption)
                        have q157 : x14_1 < (l0.length : Int) := of_decide_eq_true (by first | (with_reducible assumption) | assumption)
                        obtain ⟨ad157, e157, hx157_0, hx157_1⟩ := at_T71 HR0.out x14_1 p157 q157
                        cases e157
                        replace hx157_0 := (HB.out.cell (World.block_lt_of_cell? w _ hx157_0)).trans hx157_0
                        replace hx157_1 := (HB.out.cell (World.block_lt_of_cell? w _ hx157_1)).trans hx157_1
                        replace p157 := eq_true p157
                        replace q157 := eq_true q157
                        obtain ⟨Ao18, co18, eo18⟩ := Kd.R_slice HO_9.out
                        subst eo18
                        go_wp2_with (first | (go_at_call 35; (with_reducible refine (stileref01_Compare.calls k1 ((rd_T71 l0 x14_1).f0) a1 t158 _ A9.out).mono ?_); rintro e w' ⟨rfl, ⟨nd, rfl⟩⟩))
                        go_roundg k1
                        case measure => have := HK1.out; omega
                        case rel => exact ⟨(x9_1), (wrap64 (x14_1 + 1)), (by first | rfl | (simp; done) | (simp [*]; done)), H', ⟨by have := HK1.out; omega⟩, ⟨by (with_reducible repeat (first | apply Kd.R_alloc | apply Kd.R_drewN | apply Kd.R_drew)); exact HO_9.out⟩, ⟨by repeat (first | (with_reducible first | exact HB.out | apply below_alloc | apply pw_below_drewN | apply below_drew1) | exact HB.out)⟩⟩
                    · rw [if_neg c13] at H
                      exact absurd H (by simp)
                  · rw [if_neg c12] at H
                    exact absurd H (by simp)
                · rw [if_neg c11] at H
                  have c11b0 : decide ((a2.size : Int) ≤ (((rd_T71 l0 x14_1).f0).size : Int)) = false := decide_eq_false c11
                  have c11b1 : decide (a2.size ≤ ((rd_T71 l0 x14_1).f0).size) = false := decide_eq_false (fun h => c11 (Int.ofNat_le.mpr h))
                  clear c11
                  have H' := Aside0.mk H
                  clear H
                  have p157 : 0 ≤ (x14_1 : Int) := of_decide_eq_true (by first | (with_reducible assumption) | assumption)
                  have q157 : x14_1 < (l0.length : Int) := of_decide_eq_true (by first | (with_reducible assumption) | assumption)
                  obtain ⟨ad157, e157, hx157_0, hx157_1⟩ := at_T71 HR0.out x14_1 p157 q157
                  cases e157
                  replace hx157_0 := (HB.out.cell (World.block_lt_of_cell? w _ hx157_0)).trans hx157_0
                  replace hx157_1 := (HB.out.cell (World.block_lt_of_cell? w _ hx157_1)).trans hx157_1
                  replace p157 := eq_true p157
                  replace q157 := eq_true q157
                  obtain ⟨Ao19, co19, eo19⟩ := Kd.R_slice HO_9.out
                  subst eo19
                  go_wp2_with (first | (go_at_call 35; (with_reducible refine (stileref01_Compare.calls k1 ((rd_T71 l0 x14_1).f0) a1 t158 _ A9.out).mono ?_); rintro e w' ⟨rfl, ⟨nd, rfl⟩⟩))
                  go_roundg k1
                  case measure => have := HK1.out; omega
                  case rel => exact ⟨(x9_1), (wrap64 (x14_1 + 1)), (by first | rfl | (simp; done) | (simp [*]; done)), H', ⟨by have := HK1.out; omega⟩, ⟨by (with_reducible repeat (first | apply Kd.R_alloc | apply Kd.R_drewN | apply Kd.R_drew)); exact HO_9.out⟩, ⟨by repeat (first | (with_reducible first | exact HB.out | apply below_alloc | apply pw_below_drewN | apply below_drew1) | exact HB.out)⟩⟩
              · rw [if_neg c10] at H
                have c10b0 : decide (0 ≤ t158) = false := decide_eq_false c10
                clear c10
                have H' := Aside0.mk H
                clear H
                have p157 : 0 ≤ (x14_1 : Int) := of_decide_eq_true (by first | (with_reducible assumption) | assumption)
                have q157 : x14_1 < (l0.length : Int) := of_decide_eq_true (by first | (with_reducible assumption) | assumption)
                obtain ⟨ad157, e157, hx157_0, hx157_1⟩ := at_T71 HR0.out x14_1 p157 q157
                cases e157
                replace hx157_0 := (HB.out.cell (World.block_lt_of_cell? w _ hx157_0)).trans hx157_0
                replace hx157_1 := (HB.out.cell (World.block_lt_of_cell? w _ hx157_1)).trans hx157_1
                replace p157 := eq_true p157
                replace q157 := eq_true q157
                obtain ⟨Ao20, co20, eo20⟩ := Kd.R_slice HO_9.out
                subst eo20
                go_wp2_with (first | (go_at_call 35; (with_reducible refine (stileref01_Compare.calls k1 ((rd_T71 l0 x14_1).f0) a1 t158 _ A9.out).mono ?_); rintro e w' ⟨rfl, ⟨nd, rfl⟩⟩))
                go_roundg k1
                case measure => have := HK1.out; omega
                case rel => exact ⟨(x9_1), (wrap64 (x14_1 + 1)), (by first | rfl | (simp; done) | (simp [*]; done)), H', ⟨by have := HK1.out; omega⟩, ⟨by (with_reducible repeat (first | apply Kd.R_alloc | apply Kd.R_drewN | apply Kd.R_drew)); exact HO_9.out⟩, ⟨by repeat (first | (with_reducible first | exact HB.out | apply below_alloc | apply pw_below_drewN | apply below_drew1) | exact HB.out)⟩⟩
            · rw [if_neg c8] at H
              have c8b0 : decide ((x9_1.length : Int) < a3) = false := decide_eq_false c8
              clear c8
              have H' := Aside0.mk H
              clear H
              have p157 : 0 ≤ (x14_1 : Int) := of_decide_eq_true (by first | (with_reducible assumption) | assumption)
              have q157 : x14_1 < (l0.length : Int) := of_decide_eq_true (by first | (with_reducible assumption) | assumption)
              obtain ⟨ad157, e157, hx157_0, hx157_1⟩ := at_T71 HR0.out x14_1 p157 q157
              cases e157
              replace hx157_0 := (HB.out.cell (World.block_lt_of_cell? w _ hx157_0)).trans hx157_0
              replace hx157_1 := (HB.out.cell (World.block_lt_of_cell? w _ hx157_1)).trans hx157_1
              replace p157 := eq_true p157
              replace q157 := eq_true q157
              obtain ⟨Ao21, co21, eo21⟩ := Kd.R_slice HO_9.out
              subst eo21
              go_wp2
              go_roundg k1
              case measure => have := HK1.out; omega
              case rel => exact ⟨(x9_1), (wrap64 (x14_1 + 1)), (by first | rfl | (simp; done) | (simp [*]; done)), H', ⟨by have := HK1.out; omega⟩, ⟨by (with_reducible repeat (first | apply Kd.R_alloc | apply Kd.R_drewN | apply Kd.R_drew)); exact HO_9.out⟩, ⟨by repeat (first | (with_reducible first | exact HB.out | apply below_alloc | apply pw_below_drewN | apply below_drew1) | exact HB.out)⟩⟩
          · rw [if_neg c7] at H
            exact absurd H (by simp)
        · rw [if_neg c6] at H
          exact absurd H (by simp)
      · rw [if_neg c5] at H
        have c5b0 : decide (x14_1 < (l0.length : Int)) = false := decide_eq_false c5
        clear c5
        obtain rfl := Option.some.inj H
        go_wp2
        go_ret
        exact ⟨_, by first | rfl | (simp [errW_none, errW_some] <;> rfl) | (simp [*, errW_none, errW_some] <;> rfl), by (with_reducible repeat (first | apply Kd.R_alloc | apply Kd.R_drewN | apply Kd.R_drew)); exact HO_9.out, by repeat (first | (with_reducible first | exact HB.out | apply below_alloc | apply pw_below_drewN | apply below_drew1) | exact HB.out)⟩

end Go.Proofs.Ytcgfdnhocdcfjaa.PHedgePlays

/- The document's functions upon a sorted list: what they come to. -/
namespace Go.Proofs.Ytcgfdnhocdcfjaa.Hed
open Go.RowKit Go.Proofs.YtcgfdnhocdcfjaaW.PrintWords Go.Proofs.Ytcgfdnhocdcfjaa.Arr Go.Proofs.Ytcgfdnhocdcfjaa.Utf Go.Proofs.Ytcgfdnhocdcfjaa.PHedgePlays T
set_option linter.unusedVariables false
set_option linter.unusedSimpArgs false
theorem w64 (x : Int) (h0 : -9223372036854775808 ≤ x) (h1 : x ≤ 9223372036854775807) : wrap64 x = x := by unfold wrap64; omega
theorem wgb (s : ByteArray) (i : Nat) (h : i < s.size) : wrap64 (bt s (i : Int)) = (gb s i : Int) := by
  rw [bt_gb s i h]
  have := gb_lt s i
  exact w64 _ (by omega) (by omega)
theorem ints_ev (a b : Int) : stileref01_Ints.f a b = some (intsV a b) := by
  unfold stileref01_Ints.f intsV
  by_cases h1 : a < b
  · rw [if_pos h1, if_pos h1]
  · rw [if_neg h1, if_neg h1]
    by_cases h2 : b < a
    · rw [if_pos h2, if_pos h2]
    · rw [if_neg h2, if_neg h2]
theorem compare_l0 (a b : ByteArray) (ha : a.size ≤ 100000000) (hb : b.size ≤ 100000000) : ∀ (d k i : Nat), a.size - i ≤ d → i ≤ a.size → i ≤ b.size → 2 * d + 2 ≤ k → stileref01_Compare.l0 k a b (i : Int) = some (cmpL (bl a i) (bl b i)) := by
  intro d
  have fin : ∀ (k i : Nat), i ≤ a.size → i ≤ b.size → (¬ i < a.size ∨ ¬ i < b.size) → stileref01_Compare.l0 (k + 2) a b (i : Int) = some (cmpL (bl a i) (bl b i)) := by
    intro k i h1 h2 h3
    have e : stileref01_Compare.l0 (k + 2) a b (i : Int) = stileref01_Compare.j1 (k + 1) a b (i : Int) false := by
      simp only [stileref01_Compare.l0]
      by_cases h : i < a.size
      · rw [if_pos (by omega), decide_eq_false (by omega)]
      · rw [if_neg (by omega)]
    rw [e]
    simp only [stileref01_Compare.j1]
    rw [if_neg (by decide), ints_ev, Option.bind_some]
    congr 1
    by_cases h : i < a.size
    · rw [bl_end b i (by omega), cmpL_nil_right, bl_length]
      exact intsV_lt (by omega) (by omega)
    · rw [bl_end a i h, cmpL_nil_left, bl_length]
      exact intsV_lt (by omega) (by omega)
  induction d with
  | zero =>
    intro k i h0 h1 h2 hk
    obtain ⟨k, rfl⟩ : ∃ m, k = m + 2 := ⟨k - 2, by omega⟩
    exact fin k i h1 h2 (by omega)
  | succ d ih =>
    intro k i h0 h1 h2 hk
    obtain ⟨k, rfl⟩ : ∃ m, k = m + 2 := ⟨k - 2, by omega⟩
    by_cases h3 : i < a.size ∧ i < b.size
    · obtain ⟨h3, h4⟩ := h3
      simp only [stileref01_Compare.l0]
      rw [if_pos (by omega), decide_eq_true (by omega)]
      simp only [stileref01_Compare.j1]
      rw [if_pos trivial, if_pos (by omega), if_pos (by omega), if_pos (by omega), wgb a i h3, wgb b i h4, bt_gb a i h3, bt_gb b i h4]
      by_cases e : gb a i = gb b i
      · rw [if_pos (by omega), w64 _ (by omega) (by omega), show ((i : Int) + 1) = ((i + 1 : Nat) : Int) by omega, ih k _ (by omega) (by omega) (by omega) (by omega), bl_cmp_eq a b i h3 h4 e]
      · rw [if_neg (by omega), ints_ev, Option.bind_some, bl_cmp_ne a b i h3 h4 e]
    · exact fin k i h1 h2 (by omega)
theorem cmp_f (a b : ByteArray) (ha : a.size ≤ 1000) (hb : b.size ≤ 1000) (k : Nat) (hk : 2002 ≤ k) : stileref01_Compare.f k a b = some (cmpB a b) :=
  compare_l0 a b (by omega) (by omega) a.size k 0 (by omega) (by omega) (by omega) (by omega)
abbrev toR (e : Ent) : S71 := ⟨e.1, e.2⟩
/-- All keys are short. -/
def Sh (L : List Ent) : Prop := ∀ e, e ∈ L → e.1.size ≤ 1000
theorem rd_app (p : List Ent) (e : Ent) (s : List Ent) : rd_T71 ((p ++ e :: s).map toR) (p.length : Int) = toR e := by
  unfold rd_T71
  simp [List.getD]
theorem wr1 (n : Nat) (h : n ≤ 1000000) : wrap64 ((n : Int) + 1) = ((n + 1 : Nat) : Int) := by
  rw [show (n : Int) + 1 = ((n + 1 : Nat) : Int) by omega]
  exact w64 _ (by omega) (by omega)
theorem app_len {p s : List Ent} {e : Ent} {m : Nat} (h : (p ++ e :: s).length = m) : p.length < m := by simp at h; omega
theorem lo_cmp (key : ByteArray) (e : Ent) : lo key e = decide (cmpB e.1 key < 0) := rfl
theorem rank_l0 (key : ByteArray) (hk : key.size ≤ 1000) (m : Nat) (hm : m ≤ 1000) : ∀ (s p : List Ent) (k acc : Nat), (p ++ s).length = m → Sh (p ++ s) → acc ≤ p.length → 2004 + s.length ≤ k →
    stileref15_Rank.l0 k ((p ++ s).map toR) key (acc : Int) (m : Int) (p.length : Int) = some ((acc + (s.filter (lo key)).length : Nat) : Int)
  | [], p, k + 1, acc, hl, hS, ha, hf => by
    simp only [stileref15_Rank.l0]
    rw [if_neg (by simp at hl; omega)]
    simp
  | e :: s, p, k + 1, acc, hl, hS, ha, hf => by
    have h1 := app_len hl
    simp only [stileref15_Rank.l0]
    rw [if_pos (by omega), if_pos (by omega), if_pos (by rw [List.length_map, hl]; omega), rd_app, cmp_f _ _ (hS e (by simp)) hk _ (by simp at hf; omega), Option.bind_some]
    have e1 : p ++ e :: s = (p ++ [e]) ++ s := by simp
    have e2 : (p.length + 1 : Nat) = (p ++ [e]).length := by simp
    rw [wr1 p.length (by omega), wr1 acc (by omega)]
    cases hc : lo key e with
    | true =>
      rw [if_pos (of_decide_eq_true ((lo_cmp key e).symm.trans hc)), e1, e2]
      rw [rank_l0 key hk m hm s (p ++ [e]) k (acc + 1) (by rw [← e1]; exact hl) (by rw [← e1]; exact hS) (by simp; omega) (by simp at hf; omega), List.filter_cons, if_pos hc, List.length_cons]
      congr 2
      omega
    | false =>
      rw [if_neg (of_decide_eq_false ((lo_cmp key e).symm.trans hc)), e1, e2]
      rw [rank_l0 key hk m hm s (p ++ [e]) k acc (by rw [← e1]; exact hl) (by rw [← e1]; exact hS) (by simp; omega) (by simp at hf; omega), List.filter_cons, if_neg (by rw [hc]; decide)]
theorem rank_f (L : List Ent) (key : ByteArray) (hk : key.size ≤ 1000) (hL : L.length ≤ 1000) (hS : Sh L) (k : Nat) (hf : 3004 ≤ k) : stileref15_Rank.f k (L.map toR) key = some (((L.filter (lo key)).length : Nat) : Int) := by
  have := rank_l0 key hk L.length hL L [] k 0 rfl hS (by simp) (by omega)
  unfold stileref15_Rank.f
  rw [List.length_map]
  rw [Nat.zero_add] at this
  exact this
theorem toList_iff (a b : ByteArray) : (a.toList = b.toList) ↔ a = b := by
  rw [Lib.toList_data, Lib.toList_data]
  constructor
  · intro h
    cases a; cases b
    simp only [ByteArray.mk.injEq]
    exact Array.toList_inj.1 h
  · rintro rfl; rfl
theorem get_l0 (key : ByteArray) (m : Nat) (hm : m ≤ 1000) : ∀ (s p : List Ent) (k : Nat), (p ++ s).length = m → s.length < k →
    stileref15_Get.l0 k ((p ++ s).map toR) key (m : Int) (p.length : Int) = some (((s.find? (eqK key)).map (·.2)).getD 0, (s.find? (eqK key)).isSome)
  | [], p, k + 1, hl, hf => by
    simp only [stileref15_Get.l0]
    rw [if_neg (by simp at hl; omega)]
    rfl
  | e :: s, p, k + 1, hl, hf => by
    have h1 := app_len hl
    simp only [stileref15_Get.l0]
    rw [if_pos (by omega), if_pos (by omega), if_pos (by rw [List.length_map, hl]; omega), rd_app]
    have e1 : p ++ e :: s = (p ++ [e]) ++ s := by simp
    have e2 : (p.length + 1 : Nat) = (p ++ [e]).length := by simp
    rw [wr1 p.length (by omega)]
    by_cases hc : e.1 = key
    · rw [if_pos ((toList_iff _ _).2 hc), List.find?_cons, show eqK key e = true from decide_eq_true hc]
      rfl
    · rw [if_neg (fun h => hc ((toList_iff _ _).1 h)), List.find?_cons, show eqK key e = false from decide_eq_false hc, e1, e2]
      exact get_l0 key m hm s (p ++ [e]) k (by rw [← e1]; exact hl) (by simp at hf; omega)
theorem get_f (L : List Ent) (key : ByteArray) (hL : L.length ≤ 1000) (k : Nat) (hf : 1001 ≤ k) : stileref15_Get.f k (L.map toR) key = some (((L.find? (eqK key)).map (·.2)).getD 0, (L.find? (eqK key)).isSome) := by
  have := get_l0 key L.length hL L [] k rfl (by omega)
  unfold stileref15_Get.f
  rw [List.length_map]
  exact this
/-! ### sorted lists -/
theorem lo_hi (key : ByteArray) (e : Ent) : hi key e = !lo key e := rfl
theorem eq_lo (key : ByteArray) (e : Ent) (h : eqK key e = true) : lo key e = false ∧ gtK key e = false := by
  have : e.1 = key := of_decide_eq_true h
  unfold lo gtK
  rw [this]
  exact ⟨lt_irrefl _, lt_irrefl _⟩
theorem ne_lo (key : ByteArray) (e : Ent) (h : eqK key e = false) : gtK key e = !lo key e := by
  unfold lo gtK
  have hne : e.1 ≠ key := of_decide_eq_false h
  cases h1 : T.lt e.1 key with
  | true => simp [lt_asymm h1]
  | false =>
    cases h2 : T.lt key e.1 with
    | true => rfl
    | false => exact absurd (lt_total h1 h2) hne
theorem srt_hi {a : Ent} {L : List Ent} (h : Srt (a :: L)) (key : ByteArray) (hl : lo key a = false) : ∀ e, e ∈ L → gtK key e = true := fun e he => by
  have h1 := (List.pairwise_cons.1 h).1 e he
  cases h2 : eqK key a with
  | true =>
    have : a.1 = key := of_decide_eq_true h2
    unfold gtK
    rw [← this]; exact h1
  | false =>
    have h3 : gtK key a = true := by rw [ne_lo key a h2, hl]; rfl
    exact lt_trans h3 h1
theorem gt_hi (key : ByteArray) (e : Ent) (h : gtK key e = true) : lo key e = false ∧ eqK key e = false := by
  refine ⟨lt_asymm h, ?_⟩
  cases h2 : eqK key e with
  | true => rw [(eq_lo key e h2).2] at h; cases h
  | false => rfl
theorem take_lo (key : ByteArray) : ∀ L : List Ent, Srt L → L.take (L.filter (lo key)).length = L.filter (lo key)
  | [], _ => rfl
  | a :: L, h => by
    cases hl : lo key a with
    | true =>
      rw [List.filter_cons, if_pos hl, List.length_cons, List.take_succ_cons, take_lo key L (List.pairwise_cons.1 h).2]
    | false =>
      rw [filter_none fun e he => by
        rcases List.mem_cons.1 he with rfl | he
        · exact hl
        · exact (gt_hi key e (srt_hi h key hl e he)).1]
      rfl
theorem drop_lo (key : ByteArray) : ∀ L : List Ent, Srt L → L.drop (L.filter (lo key)).length = L.filter (hi key)
  | [], _ => rfl
  | a :: L, h => by
    cases hl : lo key a with
    | true =>
      rw [List.filter_cons, if_pos hl, List.length_cons, List.drop_succ_cons, drop_lo key L (List.pairwise_cons.1 h).2, List.filter_cons, if_neg (by rw [lo_hi, hl]; decide)]
    | false =>
      have h1 : ∀ e, e ∈ a :: L → lo key e = false := fun e he => by
        rcases List.mem_cons.1 he with rfl | he
        · exact hl
        · exact (gt_hi key e (srt_hi h key hl e he)).1
      rw [filter_none h1, List.filter_eq_self.2 (fun e he => by rw [lo_hi, h1 e he]; rfl)]
      rfl
theorem drop_gt (key : ByteArray) : ∀ L : List Ent, Srt L → L.drop ((L.filter (lo key)).length + (if (L.find? (eqK key)).isSome then 1 else 0)) = L.filter (gtK key)
  | [], _ => rfl
  | a :: L, h => by
    cases hl : lo key a with
    | true =>
      have h2 : eqK key a = false := by
        cases h2 : eqK key a with
        | true => rw [(eq_lo key a h2).1] at hl; cases hl
        | false => rfl
      have h3 : gtK key a = false := by rw [ne_lo key a h2, hl]; rfl
      have ih := drop_gt key L (List.pairwise_cons.1 h).2
      simp only [List.filter_cons, hl, if_true, List.length_cons, List.find?_cons, h2, h3, Bool.false_eq_true, if_false]
      rw [← ih]
      generalize (if (L.find? (eqK key)).isSome = true then 1 else 0) = d
      rw [show (L.filter (lo key)).length + 1 + d = ((L.filter (lo key)).length + d) + 1 by omega, List.drop_succ_cons]
    | false =>
      have h1 : ∀ e, e ∈ L → gtK key e = true := srt_hi h key hl
      have h4 : L.filter (gtK key) = L := List.filter_eq_self.2 h1
      have h5 : L.filter (lo key) = [] := filter_none fun e he => (gt_hi key e (h1 e he)).1
      cases h2 : eqK key a with
      | true =>
        simp only [List.filter_cons, hl, Bool.false_eq_true, if_false, h5, List.find?_cons, h2, (eq_lo key a h2).2, h4, Option.isSome_some, if_true]
        rfl
      | false =>
        have h3 : gtK key a = true := by rw [ne_lo key a h2, hl]; rfl
        have h6 : L.find? (eqK key) = none := List.find?_eq_none.2 (fun e he => by rw [(gt_hi key e (h1 e he)).2]; decide)
        simp only [List.filter_cons, hl, Bool.false_eq_true, if_false, h5, List.find?_cons, h2, h3, h4, h6, if_true]
        rfl
theorem any_find (key : ByteArray) (L : List Ent) : L.any (eqK key) = (L.find? (eqK key)).isSome := by
  rw [Bool.eq_iff_iff, List.any_eq_true, List.find?_isSome]
theorem put_f (L : List Ent) (h : Srt L) (key : ByteArray) (v : Int) (hk : key.size ≤ 1000) (hL : L.length ≤ 1000) (hS : Sh L) (k : Nat) (hf : 3004 ≤ k) : stileref15_Put.f k (L.map toR) key v = some ((putE L key v).map toR) := by
  have h1 := take_lo key L h
  have h2 := drop_lo key L h
  have h3 := drop_gt key L h
  have hle := List.length_filter_le (lo key) L
  have key1 : ∀ n : Nat, n ≤ L.length → wrap64 ((n : Int) + 1) = ((n + 1 : Nat) : Int) := fun n hn => wr1 n (by omega)
  unfold stileref15_Put.f
  rw [rank_f L key hk hL hS k hf]
  simp only [Option.bind_some]
  rw [if_pos (by omega), if_pos (by rw [List.length_map]; omega), get_f L key hL k (by omega)]
  simp only [Option.bind_some]
  have t1 : (((L.filter (lo key)).length : Nat) : Int).toNat = (L.filter (lo key)).length := Int.toNat_natCast _
  rw [t1, key1 _ hle]
  have t2 : (((L.filter (lo key)).length + 1 : Nat) : Int).toNat = (L.filter (lo key)).length + 1 := Int.toNat_natCast _
  rw [t2, ← List.map_take, h1]
  have fin : (L.filter (lo key)).map toR ++ [(⟨key, v⟩ : S71)] ++ (L.filter (gtK key)).map toR = (putE L key v).map toR := by
    unfold putE
    simp
  have hle2 := List.length_filter_le (gtK key) L
  cases hs : (L.find? (eqK key)).isSome with
  | true =>
    rw [hs] at h3
    simp only [if_true] at h3 ⊢
    have hpos : (L.filter (lo key)).length + 1 ≤ L.length := by
      rcases Nat.lt_or_ge (L.filter (lo key)).length L.length with hh | hh
      · exact hh
      · exfalso
        obtain ⟨e, he, heq⟩ := List.find?_isSome.1 hs
        have hall : L.filter (lo key) = L := by
          have := List.take_of_length_le hh
          rw [h1] at this
          exact this
        have := (List.mem_filter.1 (by rw [hall]; exact he : e ∈ L.filter (lo key))).2
        rw [(eq_lo key e heq).1] at this
        cases this
    rw [if_pos (by omega), if_pos (by rw [List.length_map]; omega), ← List.map_drop, h3]
    simp only [List.nil_append, List.length_nil, List.length_map, List.length_append, List.length_singleton]
    rw [if_pos (by omega), if_pos (by omega), if_pos (by omega), fin]
  | false =>
    rw [hs] at h3
    simp only [Bool.false_eq_true, if_false, Nat.add_zero] at h3 ⊢
    rw [← List.map_drop, h3]
    simp only [List.nil_append, List.length_nil, List.length_map, List.length_append, List.length_singleton]
    rw [if_pos (by omega), if_pos (by omega), if_pos (by omega), fin]
theorem drop_l0 (key : ByteArray) (m : Nat) (hm : m ≤ 1000) : ∀ (s p out : List Ent) (k : Nat), (p ++ s).length = m → out.length ≤ p.length → s.length < k →
    stileref15_Drop.l0 k ((p ++ s).map toR) key (out.map toR) (m : Int) (p.length : Int) = some ((out ++ s.filter (fun e => !eqK key e)).map toR)
  | [], p, out, k + 1, hl, ho, hf => by
    simp only [stileref15_Drop.l0]
    rw [if_neg (by simp at hl; omega)]
    simp
  | e :: s, p, out, k + 1, hl, ho, hf => by
    have h1 := app_len hl
    simp only [stileref15_Drop.l0]
    rw [if_pos (by omega), if_pos (by omega), if_pos (by rw [List.length_map, hl]; omega), rd_app]
    have e1 : p ++ e :: s = (p ++ [e]) ++ s := by simp
    have e2 : (p.length + 1 : Nat) = (p ++ [e]).length := by simp
    rw [wr1 p.length (by omega)]
    by_cases hc : e.1 = key
    · rw [if_pos ((toList_iff _ _).2 hc), List.filter_cons, if_neg (by rw [show eqK key e = true from decide_eq_true hc]; decide), e1, e2]
      exact drop_l0 key m hm s (p ++ [e]) out k (by rw [← e1]; exact hl) (by simp; omega) (by simp at hf; omega)
    · rw [if_neg (fun h => hc ((toList_iff _ _).1 h)), if_pos (by rw [List.length_map]; omega), List.filter_cons, if_pos (by rw [show eqK key e = false from decide_eq_false hc]; rfl), e1, e2]
      have := drop_l0 key m hm s (p ++ [e]) (out ++ [e]) k (by rw [← e1]; exact hl) (by simp; omega) (by simp at hf; omega)
      have e3 : (out ++ [e]) ++ s.filter (fun e => !eqK key e) = out ++ e :: s.filter (fun e => !eqK key e) := by simp
      rw [e3] at this
      have e4 : (out ++ [e]).map toR = out.map toR ++ [(⟨(toR e).f0, (toR e).f1⟩ : S71)] := by simp
      rw [e4] at this
      exact this
theorem drop_eq (key : ByteArray) : ∀ L : List Ent, Srt L → L.filter (fun e => !eqK key e) = dropE L key
  | [], _ => rfl
  | a :: L, h => by
    have ih := drop_eq key L (List.pairwise_cons.1 h).2
    unfold dropE at ih ⊢
    simp only [List.filter_cons]
    cases hl : lo key a with
    | true =>
      have h2 : eqK key a = false := by
        cases h2 : eqK key a with
        | true => rw [(eq_lo key a h2).1] at hl; cases hl
        | false => rfl
      have h3 : gtK key a = false := by rw [ne_lo key a h2, hl]; rfl
      simp only [h2, h3, Bool.not_false, if_true, Bool.false_eq_true, if_false, List.cons_append]
      rw [ih]
    | false =>
      have h1 : ∀ e, e ∈ L → gtK key e = true := srt_hi h key hl
      have h5 : L.filter (lo key) = [] := filter_none fun e he => (gt_hi key e (h1 e he)).1
      rw [ih, h5]
      cases h2 : eqK key a with
      | true => simp [(eq_lo key a h2).2]
      | false => simp [ne_lo key a h2, hl]
theorem drop_f (L : List Ent) (h : Srt L) (key : ByteArray) (hL : L.length ≤ 1000) (k : Nat) (hf : 1001 ≤ k) : stileref15_Drop.f k (L.map toR) key = some ((dropE L key).map toR) := by
  have := drop_l0 key L.length hL L [] [] k rfl (by simp) (by omega)
  unfold stileref15_Drop.f
  rw [List.length_map]
  rw [List.nil_append, drop_eq key L h] at this
  exact this
/-! ### From -/
def okF (key pf : ByteArray) (e : Ent) : Bool := hi key e && pre pf e.1
theorem from_l0 (key pf : ByteArray) (hk : key.size ≤ 1000) (n : Int) (m : Nat) (hm : m ≤ 1000) : ∀ (s p out : List Ent) (k : Nat), (p ++ s).length = m → Sh (p ++ s) → out.length ≤ p.length → 2004 + s.length ≤ k →
    stileref15_From.l0 k ((p ++ s).map toR) key pf n (out.map toR) (m : Int) (p.length : Int) = some ((out ++ (s.filter (okF key pf)).take (n - out.length).toNat).map toR)
  | [], p, out, k + 1, hl, hS, ho, hf => by
    simp only [stileref15_From.l0]
    rw [if_neg (by simp at hl; omega)]
    simp
  | e :: s, p, out, k + 1, hl, hS, ho, hf => by
    have h1 := app_len hl
    have he := hS e (by simp)
    simp only [stileref15_From.l0]
    rw [if_pos (by omega), if_pos (by omega), if_pos (by rw [List.length_map, hl]; omega), rd_app, cmp_f _ _ he hk _ (by simp at hf; omega), Option.bind_some]
    have e1 : p ++ e :: s = (p ++ [e]) ++ s := by simp
    have e2 : (p.length + 1 : Nat) = (p ++ [e]).length := by simp
    have hgo := from_l0 key pf hk n m hm s (p ++ [e]) out k (by rw [← e1]; exact hl) (by rw [← e1]; exact hS) (by simp; omega) (by simp at hf; omega)
    have hadd := from_l0 key pf hk n m hm s (p ++ [e]) (out ++ [e]) k (by rw [← e1]; exact hl) (by rw [← e1]; exact hS) (by simp; omega) (by simp at hf; omega)
    rw [← e1, ← e2] at hgo hadd
    rw [wr1 p.length (by omega), List.length_map]
    have hpt := pre_test pf e.1
    by_cases hn : (out.length : Int) < n
    · rw [if_pos hn]
      have hskip : okF key pf e = false → (out ++ ((e :: s).filter (okF key pf)).take (n - out.length).toNat).map toR = (out ++ (s.filter (okF key pf)).take (n - out.length).toNat).map toR := fun h => by
        rw [List.filter_cons, if_neg (by rw [h]; decide)]
      cases hc : lo key e with
      | true =>
        have h2 : okF key pf e = false := by unfold okF; rw [lo_hi, hc]; rfl
        have h3 : cmpB e.1 key < 0 := of_decide_eq_true ((lo_cmp key e).symm.trans hc)
        rw [if_neg (by show ¬ (_ ≥ _); omega), hskip h2]
        exact hgo
      | false =>
        have h3 : ¬ cmpB e.1 key < 0 := of_decide_eq_false ((lo_cmp key e).symm.trans hc)
        rw [if_pos (by show _ ≥ _; omega)]
        by_cases hsz : pf.size ≤ e.1.size
        · rw [if_pos (by simp only [toR]; omega), if_pos (by omega), if_pos (by simp only [toR]; omega)]
          by_cases hx : (e.1.extract 0 pf.size).data.toList = pf.data.toList
          · have h2 : okF key pf e = true := by unfold okF; rw [lo_hi, hc, hpt, decide_eq_true hsz, decide_eq_true hx]; rfl
            rw [if_pos (by rw [Int.toNat_natCast, Lib.toList_data, Lib.toList_data]; exact hx), if_pos (by omega)]
            rw [List.filter_cons, if_pos h2]
            have e4 : (out ++ [e]).map toR = out.map toR ++ [(⟨(toR e).f0, (toR e).f1⟩ : S71)] := by simp
            rw [e4] at hadd
            refine hadd.trans ?_
            obtain ⟨d, hd⟩ : ∃ d : Nat, n - out.length = ((d + 1 : Nat) : Int) := ⟨(n - out.length - 1).toNat, by omega⟩
            have hd2 : n - ((out ++ [e]).length : Int) = (d : Int) := by simp; omega
            rw [hd, hd2, Int.toNat_natCast, Int.toNat_natCast, List.take_succ_cons, List.append_assoc]
            rfl
          · have h2 : okF key pf e = false := by unfold okF; rw [hpt, decide_eq_false hx]; simp
            rw [if_neg (by rw [Int.toNat_natCast, Lib.toList_data, Lib.toList_data]; exact hx), hskip h2]
            exact hgo
        · have h2 : okF key pf e = false := by unfold okF; rw [hpt, decide_eq_false hsz]; simp
          rw [if_neg (show ¬ (((toR e).f0.size : Int) ≥ (pf.size : Int)) from fun h => hsz (Int.ofNat_le.1 h)), hskip h2]
          exact hgo
    · rw [if_neg hn]
      have h0 : (n - out.length).toNat = 0 := by omega
      rw [h0] at hgo ⊢
      rw [List.take_zero] at hgo ⊢
      exact hgo
theorem from_f (L : List Ent) (key pf : ByteArray) (hk : key.size ≤ 1000) (n : Int) (hL : L.length ≤ 1000) (hS : Sh L) (k : Nat) (hf : 3004 ≤ k) :
    stileref15_From.f k (L.map toR) key pf n = some (((L.filter (okF key pf)).take n.toNat).map toR) := by
  have := from_l0 key pf hk n L.length hL L [] [] k rfl hS (by simp) (by omega)
  unfold stileref15_From.f
  rw [List.length_map]
  rw [List.nil_append, List.length_nil, show n - ((0 : Nat) : Int) = n by omega] at this
  exact this
theorem pre_empty (k : ByteArray) : pre ⟨#[]⟩ k = true := by
  rw [pre_test, decide_eq_true (show (⟨#[]⟩ : ByteArray).size ≤ k.size from Nat.zero_le _), Bool.true_and]
  apply decide_eq_true
  have : (⟨#[]⟩ : ByteArray).size = 0 := rfl
  rw [this]
  simp
theorem from_same (L : List Ent) (key : ByteArray) (n : Nat) : (L.filter (okF key ⟨#[]⟩)).take n = (L.filter (hi key)).take n := by
  congr 2
  funext e
  unfold okF
  rw [pre_empty, Bool.and_true]
theorem take_takeWhile {α : Type} (q : α → Bool) : ∀ (l : List α) (n : Nat), (l.take n).takeWhile q = (l.takeWhile q).take n
  | [], n => by simp
  | a :: l, 0 => by simp
  | a :: l, n + 1 => by
    rw [List.take_succ_cons, List.takeWhile_cons, List.takeWhile_cons]
    cases q a with
    | true => simp only [if_true, List.take_succ_cons]; rw [take_takeWhile q l n]
    | false => simp
theorem filter_while {α : Type} (q : α → Bool) : ∀ (l : List α), (l.Pairwise fun a b => q b = true → q a = true) → l.filter q = l.takeWhile q
  | [], _ => rfl
  | a :: l, h => by
    obtain ⟨h1, h2⟩ := List.pairwise_cons.1 h
    rw [List.filter_cons, List.takeWhile_cons]
    cases hq : q a with
    | true => simp only [if_true]; rw [filter_while q l h2]
    | false =>
      simp only [Bool.false_eq_true, if_false]
      exact List.filter_eq_nil_iff.2 fun b hb hb' => by rw [h1 b hb hb'] at hq; cases hq
theorem under_same (L : List Ent) (h : Srt L) (key : ByteArray) (n : Nat) : (L.filter (okF key key)).take n = ((L.filter (hi key)).take n).takeWhile (fun e => pre key e.1) := by
  rw [take_takeWhile, ← filter_while (fun e : Ent => pre key e.1) (L.filter (hi key)) ((pre_pairs key _ (srt_filter h _) (fun e he => (List.mem_filter.1 he).2)).imp (fun h1 h2 => (pre_iff _ _).2 (h1 ((pre_iff _ _).1 h2)))), List.filter_filter]
  congr 2
  funext e
  unfold okF
  rw [Bool.and_comm]
end Go.Proofs.Ytcgfdnhocdcfjaa.Hed

/- A list of strings that came in. -/
namespace Go.Proofs.Ytcgfdnhocdcfjaa.Ost
open Go.Deep Go.ChangeShapes Go.WideShapes Go.ChangeAt Go.RowKit Go.Proofs.YtcgfdnhocdcfjaaW.PrintWords Go.Proofs.YtcgfdnhocdcfjaaW.PrintLast Go.Proofs.YtcgfdnhocdcfjaaW.PrintMore
set_option linter.unusedVariables false
set_option linter.unusedSimpArgs false
section
variable {H : Type} {enc : TypeId × Value → H} {w : World} {base : Nat} {sp : Nat → Bool} {held : Bool}
set_option maxRecDepth 100000 in
theorem open_strl {r : Reach} {b0 : Nat} {v : Value} {d : DataW H} {ps : List MemPlace} (hv : Value.okWide Try.prog w r b0 22 v) (h : DataW.Trod enc Try.prog w base sp held 22 v d ps) :
    ∃ (A : Option Addr) (cap : Nat) (xs : List ByteArray), v = .slice A xs.length cap ∧ xs.length ≤ cap ∧ xs.length ≤ 9223372036854775807 ∧ Kd.C Kd.string w A xs.length xs ∧ ∀ k, k ∈ xs → k.size ≤ 9223372036854775807 := by
  obtain ⟨a1, len, cap, rfl⟩ := okWide_slice Try.underlying22 hv
  obtain ⟨fuel, hf⟩ := h
  have hC : Try.prog.cellsOf 9 = 1 := by kernel_rfl
  rcases open_strs Try.underlying22 Try.underlying9 hC hf with ⟨hcs, hx⟩ | ⟨a, len', cap', m, Sx, hcs, hb, hl, hmx, hm, hx, hel⟩
  · simp [Value.cells] at hcs
    obtain ⟨rfl, rfl, rfl⟩ := hcs
    exact ⟨none, 0, [], rfl, Nat.le_refl _, Nat.zero_le _, Kd.C_nil Kd.string w, fun k hk => by simp at hk⟩
  · simp [Value.cells] at hcs
    obtain ⟨rfl, rfl, rfl⟩ := hcs
    have hlm : len ≤ m := by rw [hm]; split <;> omega
    have hlen : ((List.range len).map Sx).length = len := by simp
    have hmx' : len ≤ 9223372036854775807 := by unfold maxLen at hmx; omega
    refine ⟨some a, cap, (List.range len).map Sx, by rw [hlen], by rw [hlen]; exact hl, by rw [hlen]; exact hmx', ?_, fun k hk => ?_⟩
    · rw [hlen]
      refine Kd.C_of_reads (enc := Value.string) (d := ByteArray.empty) (h1 := fun _ => rfl) ⟨hlen, hmx', fun hn => ⟨a, rfl, fun j hj => ?_⟩⟩
      rw [(hel j (by omega)).1]
      simp [List.getD, hj]
    · obtain ⟨i, hi, rfl⟩ := List.mem_map.1 hk
      have := (hel i (by have := List.mem_range.1 hi; omega)).2
      unfold maxLen at this
      exact this
end
end Go.Proofs.Ytcgfdnhocdcfjaa.Ost

/- Acts that came in; same; a row that is cleared. -/
namespace Go.Proofs.Ytcgfdnhocdcfjaa.Hed
open Go.Deep Go.ChangeShapes Go.WideShapes Go.ChangeAt Go.RowKit Go.Proofs.YtcgfdnhocdcfjaaW.PrintWords Go.Proofs.YtcgfdnhocdcfjaaW.PrintLast Go.Proofs.YtcgfdnhocdcfjaaW.PrintMore Go.Proofs.Ytcgfdnhocdcfjaa.Arr Go.Proofs.Ytcgfdnhocdcfjaa.Utf Go.Proofs.Ytcgfdnhocdcfjaa.PHedgePlays T
set_option linter.unusedVariables false
set_option linter.unusedSimpArgs false

/-! ### acts -/
structure SAct where
  f0 : Int
  f1 : Int
  f2 : ByteArray
def zAct : SAct := ⟨0, 0, ⟨#[]⟩⟩
instance : Inhabited SAct := ⟨zAct⟩
def kAct : Kd SAct := Kd.iso (Kd.pair (Kd.int .i64) (Kd.pair (Kd.int .i64) Kd.string)) (fun x : SAct => (x.f0, x.f1, x.f2))
theorem kAct_open {w : World} {x : SAct} {cs : List Value} (h : kAct.K w x cs) : cs = [.int .i64 x.f0, .int .i64 x.f1, .string x.f2] := by
  obtain ⟨_, _, rfl, rfl, _, _, rfl, rfl, rfl⟩ := h
  exact rfl
theorem kAct_mk (w : World) (x : SAct) : kAct.K w x [.int .i64 x.f0, .int .i64 x.f1, .string x.f2] := ⟨[.int .i64 x.f0], [.int .i64 x.f1, .string x.f2], rfl, rfl, ⟨[.int .i64 x.f1], [.string x.f2], rfl, rfl, rfl⟩⟩
theorem at_act {w : World} {A : Option Addr} {xs : List SAct} (h : Kd.C kAct w A xs.length xs) (i : Nat) (hi : i < xs.length) : ∃ ad, A = some ad ∧ w.cell? (ad.add (i * 3)) = some (.int .i64 xs[i].f0) ∧
    w.cell? ⟨(ad.add (i * 3)).block, (ad.add (i * 3)).off + 1, none⟩ = some (.int .i64 xs[i].f1) ∧ w.cell? ⟨(ad.add (i * 3)).block, (ad.add (i * 3)).off + 2, none⟩ = some (.string xs[i].f2) := by
  obtain ⟨ad, c, e, _, hK, hc0⟩ := Kd.C_get h zAct (i : Int) (by omega) (by omega)
  have hc : ∀ j u, c[j]? = some u → w.cell? (ad.add (i * 3 + j)) = some u := hc0
  have hg : xs.getD (i : Int).toNat zAct = xs[i] := by simp [List.getD, hi]
  rw [hg] at hK
  obtain rfl := kAct_open hK
  exact ⟨ad, e, hc 0 _ rfl, by rw [← add_field _ _ 1 (by omega)]; exact hc 1 _ rfl, by rw [← add_field _ _ 2 (by omega)]; exact hc 2 _ rfl⟩
section
variable {H : Type} {enc : TypeId × Value → H} {w : World} {base : Nat} {sp : Nat → Bool} {held : Bool}
theorem add_blk (a : Addr) (k : Nat) : (a.add k).block = a.block := by unfold Addr.add; split <;> rfl
theorem add_two (a : Addr) (k i : Nat) : a.add (k + i) = (a.add k).add i := by
  unfold Addr.add
  by_cases h1 : k = 0
  · subst h1
    by_cases h2 : i = 0 <;> simp [h2]
  · by_cases h2 : i = 0
    · simp [h1, h2]
    · simp [h1, h2, Nat.add_assoc]
theorem list3 {α : Type} {cs : List α} (h : cs.length = 3) : ∃ a b c, cs = [a, b, c] := by
  match cs, h with
  | [a, b, c], _ => exact ⟨a, b, c, rfl⟩
theorem trod_act {n : Nat} {cs : List Value} {y : DataW H × List MemPlace} (h : DataW.trod enc Try.prog w base sp held n 41 cs = some y) : ∃ x : SAct, cs = [.int .i64 x.f0, .int .i64 x.f1, .string x.f2] ∧ x.f2.size ≤ 9223372036854775807 := by
  have hC : Try.prog.cellsOf 41 = 3 := by kernel_rfl
  have l0 : Try.prog.cellsOf 3 = 1 := by kernel_rfl
  have l1 : Try.prog.cellsOf 9 = 1 := by kernel_rfl
  obtain ⟨xs, n, rfl, hx, hl, hlen, hf⟩ := DataW.trod_struct Try.underlying41 h
  rw [hC] at hl
  obtain ⟨c0, c1, c2, rfl⟩ := list3 hl
  match xs, hlen with
  | [y0, y1, y2], _ =>
    have q0 : DataW.trod enc Try.prog w base sp held n 3 [c0] = some y0 := by simpa [l0] using hf 0 _ rfl
    have q1 : DataW.trod enc Try.prog w base sp held n 3 [c1] = some y1 := by simpa [l0] using hf 1 _ rfl
    have q2 : DataW.trod enc Try.prog w base sp held n 9 [c2] = some y2 := by simpa [l1] using hf 2 _ rfl
    obtain ⟨kk, e0, -, -⟩ := DataW.trod_int Try.underlying3 q0
    simp at e0
    subst e0
    obtain ⟨kk1, e0, -, -⟩ := DataW.trod_int Try.underlying3 q1
    simp at e0
    subst e0
    obtain ⟨s, h1, h2, h3⟩ := DataW.trod_string Try.underlying9 q2
    simp at h1
    subst h1
    unfold maxLen at h3
    exact ⟨⟨kk, kk1, s⟩, rfl, h3⟩
set_option maxRecDepth 100000 in
theorem open_acts {r : Reach} {b0 : Nat} {v : Value} {d : DataW H} {ps : List MemPlace} (hv : Value.okWide Try.prog w r b0 38 v) (h : DataW.Trod enc Try.prog w base sp held 38 v d ps) :
    ∃ (A : Option Addr) (cap : Nat) (xs : List SAct), v = .slice A xs.length cap ∧ xs.length ≤ cap ∧ xs.length ≤ 9223372036854775807 ∧ Kd.C kAct w A xs.length xs ∧ ∀ k, k ∈ xs → k.f2.size ≤ 9223372036854775807 := by
  obtain ⟨a1, len, cap, rfl⟩ := okWide_slice Try.underlying38 hv
  obtain ⟨fuel, hf⟩ := h
  have hC : Try.prog.cellsOf 41 = 3 := by kernel_rfl
  rcases open_slice Try.underlying38 hf with ⟨hcs, hx⟩ | ⟨a, len', cap', m, n, D, Pl, hcs, hb, hl, hmx, hm, hx, hel⟩
  · simp [Value.cells] at hcs
    obtain ⟨rfl, rfl, rfl⟩ := hcs
    exact ⟨none, 0, [], rfl, Nat.le_refl _, Nat.zero_le _, Kd.C_nil kAct w, fun k hk => by simp at hk⟩
  · simp [Value.cells] at hcs
    obtain ⟨rfl, rfl, rfl⟩ := hcs
    have hlm : len ≤ m := by rw [hm]; split <;> omega
    obtain ⟨X, hX⟩ := choose_lt (α := SAct) (n := len) (p := fun i x => w.cells? base (a.add (i * 3)) 3 = some [.int .i64 x.f0, .int .i64 x.f1, .string x.f2] ∧ x.f2.size ≤ 9223372036854775807) (fun i hi => by
      obtain ⟨cs', h1, h2⟩ := hel i (by omega)
      rw [hC] at h1
      obtain ⟨x, rfl, hx⟩ := trod_act h2
      exact ⟨x, h1, hx⟩)
    have hlen : ((List.range len).map X).length = len := by simp
    have hmx' : len ≤ 9223372036854775807 := by unfold maxLen at hmx; omega
    refine ⟨some a, cap, (List.range len).map X, by rw [hlen], by rw [hlen]; exact hl, by rw [hlen]; exact hmx', ?_, fun k hk => ?_⟩
    · rw [hlen]
      refine ⟨hlen, hmx', fun _ => ⟨a, rfl, fun j p hj => ?_⟩⟩
      have hjl : j < len := by have := (List.getElem?_eq_some_iff.1 hj).1; simpa using this
      obtain rfl : X j = p := by simpa [hjl] using hj
      refine ⟨[.int .i64 (X j).f0, .int .i64 (X j).f1, .string (X j).f2], rfl, kAct_mk w (X j), fun i u hi => ?_⟩
      have hc := (hX j hjl).1
      unfold World.cells? at hc
      rw [if_pos (by rw [add_blk]; exact hb)] at hc
      have hi3 : i < 3 := (List.getElem?_eq_some_iff.1 hi).1
      obtain ⟨b, hb1, hb2⟩ := Lib.mapM_at hc i i (by simp [hi3])
      rw [hi] at hb1
      obtain rfl := Option.some.inj hb1
      rw [← hb2]
      show w.cell? (a.add (j * 3 + i)) = _
      rw [add_two]
    · obtain ⟨i, hi, rfl⟩ := List.mem_map.1 hk
      exact (hX i (List.mem_range.1 hi)).2
end
/-! ### same -/
set_option maxHeartbeats 4000000 in
set_option maxRecDepth 100000 in
theorem same_calls (l : List Ent) (hl : l.length ≤ 1000) (A0 A1 : Option Addr) (c0 c1 : Nat) (w : World) (h0 : Kd.C k32 w A0 l.length (l.map toS)) (h1 : Kd.C k71 w A1 l.length (l.map toR)) :
    Calls Try.prog 20 #[.slice A0 l.length c0, .slice A1 l.length c1] w fun e w' => e = .returned (.bool true) ∧ Below w.heap.size w w' := by
  have H0 := Aside0.mk h0
  have H1 := Aside0.mk h1
  clear h0 h1
  obtain ⟨n, hn⟩ : ∃ n, l.length = n := ⟨_, rfl⟩
  have HN := Aside0.mk hn
  rw [hn] at hl H0 H1 ⊢
  clear hn
  have hu32 := Try.underlying32
  have hu71 := Try.underlying71
  go_enter Try.func20, Try.ntmps20
  go_wp2_with fail
  go_loopw [5, 13] (fun v5 v13 wr => ∃ i : Nat, v13 = .int .i64 (i : Int) ∧ Aside0 (i ≤ n) ∧ Aside0 (Below w.heap.size w wr)) (fun _ v13 _ => n - (intOf v13).toNat)
  case atStart => exact ⟨0, rfl, ⟨Nat.zero_le _⟩, ⟨Below.refl _ _⟩⟩
  case round =>
    obtain ⟨i, rfl, hin, hb⟩ := hrel
    by_cases hi : i < n
    · have t1 : decide ((i : Int) < (n : Int)) = true := decide_eq_true (by omega)
      have hil : i < l.length := by have := HN.out; omega
      have p0 : (0 : Int) ≤ (i : Int) := by omega
      have p1 : (i : Int) < (n : Int) := by omega
      obtain ⟨ad, eA, x0, x1⟩ := at_T32 (Kd.C_below H0.out hb.out) (i : Int) p0 p1
      cases eA
      obtain ⟨ad', eA, y0, y1⟩ := at_T71 (Kd.C_below H1.out hb.out) (i : Int) p0 p1
      cases eA
      have e1 : rd_T32 (l.map toS) (i : Int) = toS l[i] := by unfold rd_T32; simp [List.getD, hil]
      have e2 : rd_T71 (l.map toR) (i : Int) = toR l[i] := by unfold rd_T71; simp [List.getD, hil]
      rw [e1] at x0 x1
      rw [e2] at y0 y1
      obtain ⟨⟨k0, n0⟩, hk⟩ : ∃ e, l[i] = e := ⟨_, rfl⟩
      rw [hk] at x0 x1 y0 y1
      rw [Int.toNat_natCast] at x0 x1 y0 y1
      simp only [toS, toR] at x0 x1 y0 y1
      clear e1 e2 hk
      have q0 := eq_true p0
      have q1 := eq_true p1
      have hw : IntKind.i64.wrap ((i : Int) + 1) = ((i + 1 : Nat) : Int) := by rw [show ((i : Int) + 1) = ((i + 1 : Nat) : Int) by omega]; exact IntWalk.i64_in _ (by omega)
      go_wp2_with fail
      refine Qt.wp_region_all (fun w' => Below wr.heap.size wr w') (by kernel_rfl) (by kernel_rfl) (Below.refl _ _).drew ?_
      iterate 9 ((first | (with_reducible refine Qt.q_val' rfl ?_) | ((with_reducible refine Qg.on_val' ?_); apply Exists.intro; apply Exists.intro; apply Exists.intro; refine ⟨?_, ?_, ?_, ?_⟩; (focus rfl); (focus rfl); (focus rfl))); apply Exists.intro; refine ⟨?_, ?_⟩; (focus (intro w' hw'; have z0 := (hw'.cell (World.block_lt_of_cell? wr _ x0)).trans x0; have z1 := (hw'.cell (World.block_lt_of_cell? wr _ x1)).trans x1; have z2 := (hw'.cell (World.block_lt_of_cell? wr _ y0)).trans y0; have z3 := (hw'.cell (World.block_lt_of_cell? wr _ y1)).trans y1; go_simp; (first | done | (with_reducible rfl)))); intro K hK; go_simp; (first | (with_reducible refine hK _ ?_) | (refine hK _ ?_)); clear hK K)
      (refine wpQuiet_nil ?_; intro w' hw')
      have BW := Aside0.mk (hb.out.trans (hw'.mono hb.out.size))
      clear hw'
      go_wp2
      go_roundw
      case rel => exact ⟨i + 1, by first | rfl | (rw [hw]) | go_num | simp [hw], ⟨by omega⟩, BW⟩
      case measure => simp [intOf, hw]; omega
    · have t1 : decide ((i : Int) < (n : Int)) = false := decide_eq_false (by omega)
      go_wp2
      go_ret
      exact ⟨rfl, hb.out⟩
/-! ### a row that is cleared -/
theorem own_row2 {w : World} {base : Nat} {ok : Nat → Prop} {A : Option Addr} {n c : Nat} {l : List S32} (h : Kd.R k32 TEn w base ok (.slice A n c) l) (hn : 0 < l.length) :
    ∃ g cur, A = some ⟨g, 0, none⟩ ∧ base ≤ g ∧ Blk w g TEn cur ∧ l.length * 2 ≤ cur.size := by
  obtain ⟨h0, inner, ho, hr⟩ := h
  rcases ho.2 with ⟨e, h2⟩ | ⟨g, cap, cur, e, hg, hh, r⟩
  · omega
  · injection e with e1 e2 e3
    subst e1
    refine ⟨g, cur, rfl, hg, ⟨hh⟩, ?_⟩
    obtain ⟨r1, r2, r3, r4⟩ := r
    have h4 : k32.sz = 2 := rfl
    rw [r3, h4]
    exact Nat.mul_le_mul_right 2 r1
theorem zero_row2 {w0 w : World} {B g i : Nat} {cur : Array Value} (hb : Below B w0 w) (hB : Blk w g TEn cur) (hg : B ≤ g) (v0 v1 : Value) :
    ∃ W, ((w.setCell ⟨g, i * 2, none⟩ v0).setCell ⟨g, i * 2 + 1, none⟩ v1) = W ∧ Below B w0 W ∧ ∃ cur', Blk W g TEn cur' ∧ cur'.size = cur.size := by
  refine ⟨_, rfl, ?_, ?_⟩
  · exact (hb.setCell (p := ⟨g, i * 2, none⟩) hg v0).setCell (p := ⟨g, i * 2 + 1, none⟩) hg v1
  · exact ⟨_, (hB.set (i * 2) v0).set (i * 2 + 1) v1, by simp⟩
end Go.Proofs.Ytcgfdnhocdcfjaa.Hed

/- Regions that draw their order, whose calls and new variables hand back what is new: each operation tells what it yields by a relation that stands under what only makes memory. Any program. -/
namespace Go.Proofs.Ytcgfdnhocdcfjaa.Qw
open Go.RowKit Go.Proofs.Ytcgfdnhocdcfjaa.Arr
set_option linter.unusedVariables false
set_option linter.unusedSimpArgs false
section
variable {P : Program} {ops : Array Oper} {md : Region.Mode} {S : FuncId → Array Value → Value → World → Prop} {E0 : World → Prop}

/-- It stands under what only makes memory. -/
def Stb (F : World → Prop) : Prop := ∀ w w', F w → Below w.heap.size w w' → F w'
def up (F : Nat → World → Prop) (i : Nat) (R : World → Prop) : Nat → World → Prop := fun k => if k = i then R else F k
theorem up_same (F : Nat → World → Prop) (i : Nat) (R : World → Prop) : up F i R i = R := by simp [up]
theorem up_ne (F : Nat → World → Prop) {i k : Nat} (R : World → Prop) (h : k ≠ i) : up F i R k = F k := by simp [up, h]
/-- What an operation yields; a call's tells S. -/
def rUpon (P : Program) (S : FuncId → Array Value → Value → World → Prop) (w : World) (R : Value → World → Prop) : Result Next → Prop
  | .ok (.value u) w' => Below w.heap.size w w' ∧ R u w'
  | .ok (.enter f args) w' => w' = w ∧ R = S f args ∧ Calls P f args w (fun e w'' => ∃ u, e = .returned u ∧ Below w.heap.size w w'' ∧ S f args u w'')
  | _ => False
def Gives (P : Program) (md : Region.Mode) (ops : Array Oper) (S : FuncId → Array Value → Value → World → Prop) (E0 : World → Prop) (F : Nat → World → Prop) (o : Oper) (a : Act) (R : Value → World → Prop) : Prop :=
  (Region.wanted o (yielded ops a.tmps) = true ∧ (∀ u, Stb (R u)) ∧ ∀ w, E0 w → (∀ e ∈ o.after, Region.binds md e = true → F e.on w) → rUpon P S w R ((execOp a.eval o).run P w)) ∨
  (Region.wanted o (yielded ops a.tmps) = false ∧ R = fun u _ => u = undef)
def Val (E0 : World → Prop) (F : Nat → World → Prop) (R : Value → World → Prop) (u : Value) : Prop := ∃ w, E0 w ∧ (∀ k, F k w) ∧ R u w
theorem Gives.stb {F : Nat → World → Prop} {o : Oper} {a : Act} {R : Value → World → Prop} (h : Gives P md ops S E0 F o a R) (u : Value) : Stb (R u) := by
  rcases h with h | h
  · exact h.2.1 u
  · rw [h.2]; exact fun _ _ e _ => e
theorem Gives.mono {F F' : Nat → World → Prop} {o : Oper} {a : Act} {R : Value → World → Prop} (h : Gives P md ops S E0 F o a R) (hF : ∀ k w, F' k w → F k w) : Gives P md ops S E0 F' o a R := by
  rcases h with h | h
  · exact .inl ⟨h.1, h.2.1, fun w hw hp => h.2.2 w hw fun e he hb => hF _ _ (hp e he hb)⟩
  · exact .inr h
theorem Gives.inh (hE : Stb E0) {F : Nat → World → Prop} (hF : ∀ k, Stb (F k)) {o : Oper} {a : Act} {R : Value → World → Prop} (h : Gives P md ops S E0 F o a R) (hi : ∃ w, E0 w ∧ ∀ k, F k w) : ∃ u, Val E0 F R u := by
  obtain ⟨w, hw, hk⟩ := hi
  rcases h with ⟨_, _, h⟩ | ⟨_, rfl⟩
  · have h1 := h w hw fun e _ _ => hk _
    generalize (execOp a.eval o).run P w = r at h1
    cases r with
    | ok nx w' =>
      cases nx <;> simp only [rUpon] at h1
      case value u => exact ⟨u, w', hE _ _ hw h1.1, fun k => hF k _ _ (hk k) h1.1, h1.2⟩
      case enter f args =>
        obtain ⟨_, hR, hc⟩ := h1
        obtain ⟨e, w'', fr, ⟨u, _, hb, hs⟩, _⟩ := hc []
        exact ⟨u, w'', hE _ _ hw hb, fun k => hF k _ _ (hk k) hb, by rw [hR]; exact hs⟩
    | halt x w' => simp only [rUpon] at h1
  · exact ⟨undef, w, hw, hk, rfl⟩

def opS (P : Program) (md : Region.Mode) (ops : Array Oper) (S : FuncId → Array Value → Value → World → Prop) (E0 : World → Prop) (i : Nat) (K : Act → (Nat → World → Prop) → Prop) (a : Act) (F : Nat → World → Prop) : Prop :=
  ∃ o, ops[i]? = some o ∧ ∃ R, Gives P md ops S E0 F o a R ∧ ∀ u, Val E0 F R u → K (a.put o.dst u) (up F i (R u))
def anyS (P : Program) (md : Region.Mode) (ops : Array Oper) (S : FuncId → Array Value → Value → World → Prop) (E0 : World → Prop) (n : Nat) (L : Array Bool → Act → (Nat → World → Prop) → Prop) : Nat → Array Bool → Act → (Nat → World → Prop) → Prop
  | 0, listed, a, F => L listed a F
  | f + 1, listed, a, F => Region.ready md ops listed ≠ [] ∧ ∀ i ∈ Region.ready md ops listed, i < n ∧ opS P md ops S E0 i (fun a' F' => anyS P md ops S E0 n L f (listed.setIfInBounds i true) a' F') a F

theorem up_mono {F F' : Nat → World → Prop} (hF : ∀ k w, F' k w → F k w) (i : Nat) (R : World → Prop) : ∀ k w, up F' i R k w → up F i R k w := by
  intro k w h
  by_cases hk : k = i
  · subst hk; rw [up_same] at h ⊢; exact h
  · rw [up_ne _ _ hk] at h ⊢; exact hF k w h
theorem anyS_mono {n : Nat} {L : Array Bool → Act → (Nat → World → Prop) → Prop} (hL : ∀ listed a F F', (∀ k w, F' k w → F k w) → L listed a F → L listed a F') :
    ∀ (f : Nat) (listed : Array Bool) (a : Act) (F F' : Nat → World → Prop), (∀ k w, F' k w → F k w) → anyS P md ops S E0 n L f listed a F → anyS P md ops S E0 n L f listed a F'
  | 0, listed, a, F, F', hF, h => hL _ _ _ _ hF h
  | f + 1, listed, a, F, F', hF, h => ⟨h.1, fun i hi => ⟨(h.2 i hi).1, by
    obtain ⟨o, ho, R, hg, hk⟩ := (h.2 i hi).2
    exact ⟨o, ho, R, hg.mono hF, fun u hu => anyS_mono hL f _ _ _ _ (up_mono hF i (R u)) (hk u (by obtain ⟨w, h1, h2, h3⟩ := hu; exact ⟨w, h1, fun k => hF _ _ (h2 k), h3⟩))⟩⟩⟩

theorem up_stb {F : Nat → World → Prop} (hF : ∀ k, Stb (F k)) {i : Nat} {R : World → Prop} (hR : Stb R) : ∀ k, Stb (up F i R k) := by
  intro k
  by_cases hk : k = i
  · subst hk; rw [up_same]; exact hR
  · rw [up_ne _ _ hk]; exact hF k
theorem up_all {F : Nat → World → Prop} {i : Nat} {R : World → Prop} {w : World} (hF : ∀ k, F k w) (hR : R w) : ∀ k, up F i R k w := by
  intro k
  by_cases hk : k = i
  · subst hk; rw [up_same]; exact hR
  · rw [up_ne _ _ hk]; exact hF k
theorem any_of_S (hE : Stb E0) {n g : Nat} {L : Array Bool → Act → (Nat → World → Prop) → Prop} {Q' : Exit → Act → World → Prop}
    (hL : ∀ listed a F w, (∀ k, Stb (F k)) → E0 w → (∀ k, F k w) → L listed a F → wpAny P md ops Q' g listed a w) :
    ∀ (f : Nat) (listed : Array Bool) (a : Act) (F : Nat → World → Prop) (w : World), (∀ k, Stb (F k)) → E0 w → (∀ k, F k w) → anyS P md ops S E0 n L f listed a F → wpAny P md ops Q' (f + g) listed a w
  | 0, listed, a, F, w, hF, hw, hk, h => by rw [Nat.zero_add]; exact hL _ _ _ _ hF hw hk h
  | f + 1, listed, a, F, w, hF, hw, hk, h => by
    rw [show f + 1 + g = (f + g) + 1 by omega]
    refine ⟨fun h0 => absurd h0 h.1, fun i hi => ?_⟩
    obtain ⟨o, ho, R, hg, hK⟩ := (h.2 i hi).2
    unfold wpOp
    simp only [ho]
    have next : ∀ u w', Below w.heap.size w w' → R u w' → wpAny P md ops Q' (f + g) (listed.setIfInBounds i true) (a.put o.dst u) w' := fun u w' hb hr =>
      any_of_S hE hL f _ _ _ w' (up_stb hF (hg.stb u)) (hE _ _ hw hb) (up_all (fun k => hF k _ _ (hk k) hb) hr) (hK u ⟨w', hE _ _ hw hb, fun k => hF k _ _ (hk k) hb, hr⟩)
    rcases hg with ⟨hwt, _, hx⟩ | ⟨hwt, hR⟩
    · simp only [hwt, if_true]
      refine .inl ?_
      have h3 := hx w hw fun e _ _ => hk _
      unfold Oper.wp
      generalize (execOp a.eval o).run P w = r at h3
      cases r with
      | ok nx w' =>
        cases nx <;> simp only [rUpon] at h3 <;> simp only [Oper.upon]
        case value u => exact next u w' h3.1 h3.2
        case enter fn args =>
          obtain ⟨e1, e2, hc⟩ := h3
          rw [e1]
          exact hc.mono fun e w'' ⟨u, he, hb, hs⟩ => by subst he; exact next u w'' hb (by rw [e2]; exact hs)
      | halt x w' => simp only [rUpon] at h3
    · simp only [hwt, Bool.false_eq_true, if_false]
      exact next undef w (Below.refl _ _) (by rw [hR])

theorem Gives.put {F : Nat → World → Prop} {oi oj : Oper} {u : Value} {a : Act} {R : Value → World → Prop} (h : Gives P md ops S E0 F oi a R) (hap : oi.apart ops oj = true) (hsi : ∀ cs b, oi.op ≠ .select cs b) : Gives P md ops S E0 F oi (a.put oj.dst u) R := by
  obtain ⟨h1, h2, h3⟩ := Oper.apart_spec hap
  unfold Gives at *
  rw [execOp_put oi hsi a oj.dst u h3, wanted_put oi a oj.dst u h3]
  exact h
theorem Gives.unput {F : Nat → World → Prop} {oi oj : Oper} {v : Value} {a : Act} {R : Value → World → Prop} (h : Gives P md ops S E0 F oj (a.put oi.dst v) R) (hap : oi.apart ops oj = true) (hsj : ∀ cs b, oj.op ≠ .select cs b) : Gives P md ops S E0 F oj a R := by
  obtain ⟨h1, h2, h3⟩ := Oper.apart_spec hap
  unfold Gives at *
  rw [execOp_put oj hsj a oi.dst v h1, wanted_put oj a oi.dst v h1] at h
  exact h
theorem Gives.facts {F F' : Nat → World → Prop} {o : Oper} {a : Act} {R : Value → World → Prop} (h : Gives P md ops S E0 F o a R) (hF : ∀ e ∈ o.after, Region.binds md e = true → F' e.on = F e.on) : Gives P md ops S E0 F' o a R := by
  rcases h with h | h
  · exact .inl ⟨h.1, h.2.1, fun w hw hp => h.2.2 w hw fun e he hb => by rw [← hF e he hb]; exact hp e he hb⟩
  · exact .inr h
/-- What holds of an operation whatever another one has yielded. -/
theorem Gives.all {F : Nat → World → Prop} {o : Oper} {a : Act} {V : Value → Prop} {Rc : Value → Value → World → Prop} (u0 : Value) (h0 : V u0) (h : ∀ u, V u → Gives P md ops S E0 F o a (Rc u)) :
    Gives P md ops S E0 F o a (fun v w => ∀ u, V u → Rc u v w) := by
  cases hwt : Region.wanted o (yielded ops a.tmps) with
  | true =>
    have hl : ∀ u, V u → (∀ v, Stb (Rc u v)) ∧ ∀ w, E0 w → (∀ e ∈ o.after, Region.binds md e = true → F e.on w) → rUpon P S w (Rc u) ((execOp a.eval o).run P w) := fun u hu => by
      rcases h u hu with h1 | h1
      · exact h1.2
      · rw [hwt] at h1; exact absurd h1.1 (by decide)
    refine .inl ⟨hwt, fun v w w' hr hb u hu => (hl u hu).1 v w w' (hr u hu) hb, fun w hw hp => ?_⟩
    have hx := fun u hu => (hl u hu).2 w hw hp
    generalize (execOp a.eval o).run P w = r at hx
    cases r with
    | ok nx w' =>
      have h1 := hx u0 h0
      cases nx <;> simp only [rUpon] at h1 hx ⊢
      case value x => exact ⟨h1.1, fun u hu => (hx u hu).2⟩
      case enter f args =>
        refine ⟨h1.1, ?_, h1.2.2⟩
        funext v w
        refine propext ⟨fun hh => ?_, fun hh u hu => ?_⟩
        · have := hh u0 h0; rw [h1.2.1] at this; exact this
        · rw [(hx u hu).2.1]; exact hh
    | halt x w' => exact absurd (hx u0 h0) (by simp only [rUpon]; exact id)
  | false =>
    have hl : ∀ u, V u → Rc u = fun v _ => v = undef := fun u hu => by
      rcases h u hu with h1 | h1
      · rw [hwt] at h1; exact absurd h1.1 (by decide)
      · exact h1.2
    refine .inr ⟨hwt, ?_⟩
    funext v w
    refine propext ⟨fun hh => ?_, fun hh u hu => ?_⟩
    · have := hh u0 h0; rw [hl u0 h0] at this; exact this
    · rw [hl u hu]; exact hh

/-- An operation that may come up may be taken first. -/
theorem anyS_first (hE : Stb E0) {n i : Nat} {oi : Oper} {L : Array Bool → Act → (Nat → World → Prop) → Prop} (hi : ops[i]? = some oi) (hsel : ∀ (j : Nat) (o : Oper) cs b, ops[j]? = some o → o.op ≠ .select cs b)
    (hlt : ∀ listed, HeadInv md ops n listed → listed.getD i true = false → ∀ j ∈ Region.ready md ops listed, j < n) (hin : i < n)
    (hL : ∀ listed a F F', (∀ k w, F' k w → F k w) → L listed a F → L listed a F')
    (hdone : ∀ listed a F, L listed a F → ∀ j ∈ Region.ready md ops listed, n ≤ j) :
    ∀ (f : Nat) (listed : Array Bool) (a : Act) (F : Nat → World → Prop) (R : Value → World → Prop), HeadInv md ops n listed →
      (∀ j oj, ops[j]? = some oj → j ≠ i → listed.getD j true = false → (∀ e ∈ oj.after, Region.binds md e = true → e.on ≠ i) → oi.apart ops oj = true) →
      i ∈ Region.ready md ops listed → (∀ k, Stb (F k)) → (∃ w, E0 w ∧ ∀ k, F k w) → (∀ k w, listed.getD k false = false → F k w) → Gives P md ops S E0 F oi a R →
      (∀ u, Val E0 F R u → anyS P md ops S E0 n L f (listed.setIfInBounds i true) (a.put oi.dst u) (up F i (R u))) → anyS P md ops S E0 n L (f + 1) listed a F := by
  classical
  intro f
  induction f with
  | zero =>
    intro listed a F R inv _ hr hF hinh hT hy H
    have hun := (mem_ready.1 hr).1
    refine ⟨fun h => (by rw [h] at hr; cases hr), fun j hj => ?_⟩
    have hjn := hlt listed inv hun j hj
    refine ⟨hjn, ?_⟩
    by_cases hji : j = i
    · subst hji; exact ⟨oi, hi, R, hy, H⟩
    · obtain ⟨u, hu⟩ := hy.inh hE hF hinh
      have := hdone _ _ _ (H u hu) j (ready_mono hj hji)
      omega
  | succ f ih =>
    intro listed a F R inv hfree hr hF hinh hT hy H
    have hun := (mem_ready.1 hr).1
    refine ⟨fun h => (by rw [h] at hr; cases hr), fun j hj => ?_⟩
    have hjn := hlt listed inv hun j hj
    refine ⟨hjn, ?_⟩
    by_cases hji : j = i
    · subst hji; exact ⟨oi, hi, R, hy, H⟩
    · obtain ⟨hjun, oj, hoj, hall⟩ := mem_ready.1 hj
      obtain ⟨_, oi', hoi', halli⟩ := mem_ready.1 hr
      obtain rfl : oi' = oi := Option.some.inj (hoi'.symm.trans hi)
      have hnot : ∀ e ∈ oj.after, Region.binds md e = true → e.on ≠ i := fun e he hb heq => by
        have h1 := hall e he hb
        rw [heq, getD_both hun] at h1
        cases h1
      have hnoti : ∀ e ∈ oi'.after, Region.binds md e = true → e.on ≠ j := fun e he hb heq => by
        have h1 := halli e he hb
        rw [heq, getD_both hjun] at h1
        cases h1
      have hap := hfree j oj hoj hji hjun hnot
      have hsi : ∀ cs b, oi'.op ≠ .select cs b := fun cs b => hsel i oi' cs b hi
      have hsj : ∀ cs b, oj.op ≠ .select cs b := fun cs b => hsel j oj cs b hoj
      have hfree' : ∀ k ok, ops[k]? = some ok → k ≠ i → (listed.setIfInBounds j true).getD k true = false →
          (∀ e ∈ ok.after, Region.binds md e = true → e.on ≠ i) → oi'.apart ops ok = true := fun k ok hk hki hun' hno => by
        refine hfree k ok hk hki ?_ hno
        by_cases hjk : j = k
        · subst hjk; exact hjun
        · rw [getD_set_ne true hjk] at hun'; exact hun'
      have hd := (Oper.apart_spec hap).2.1
      have hjf := getD_both hjun
      -- what j yields, whatever i has yielded
      have hc : ∀ u, Val E0 F R u → ∃ Rj : Value → World → Prop, Gives P md ops S E0 F oj a Rj ∧ ∀ v, Val E0 (up F i (R u)) Rj v → anyS P md ops S E0 n L f ((listed.setIfInBounds i true).setIfInBounds j true) ((a.put oi'.dst u).put oj.dst v) (up (up F i (R u)) j (Rj v)) := by
        intro u hu
        obtain ⟨oj', hoj', Rj, hg, hk⟩ := ((H u hu).2 j (ready_mono hj hji)).2
        obtain rfl : oj' = oj := Option.some.inj (hoj'.symm.trans hoj)
        exact ⟨Rj, (hg.unput hap hsj).facts fun e he hb => (up_ne _ _ (hnot e he hb)).symm, hk⟩
      obtain ⟨u0, hu0⟩ := hy.inh hE hF hinh
      let Rc : Value → Value → World → Prop := fun u => if hu : Val E0 F R u then Classical.choose (hc u hu) else fun _ _ => True
      have hRc : ∀ u (hu : Val E0 F R u), Gives P md ops S E0 F oj a (Rc u) ∧ ∀ v, Val E0 (up F i (R u)) (Rc u) v → anyS P md ops S E0 n L f ((listed.setIfInBounds i true).setIfInBounds j true) ((a.put oi'.dst u).put oj.dst v) (up (up F i (R u)) j (Rc u v)) := by
        intro u hu
        have := Classical.choose_spec (hc u hu)
        simp only [Rc, dif_pos hu]
        exact this
      have hG := Gives.all (V := Val E0 F R) u0 hu0 fun u hu => (hRc u hu).1
      refine ⟨oj, hoj, _, hG, fun v hv => ?_⟩
      have hv' := hv
      obtain ⟨wv, hv1, hv2, hv3⟩ := hv
      refine ih (listed.setIfInBounds j true) (a.put oj.dst v) _ R (inv.set hj hjn) hfree' (ready_mono hr (Ne.symm hji)) (up_stb hF (hG.stb v)) ⟨wv, hv1, up_all hv2 hv3⟩ ?_ ((hy.put hap hsi).facts fun e he hb => up_ne _ _ (hnoti e he hb)) ?_
      · intro k w hk
        by_cases hkj : k = j
        · subst hkj
          have : k < listed.size := by rw [inv.size]; exact (Array.getElem?_eq_some_iff.1 hoj).1
          simp [this] at hk
        · rw [up_ne _ _ hkj]
          rw [getD_set_ne false (Ne.symm hkj)] at hk
          exact hT k w hk
      · rintro u ⟨w, h1, h2, h3⟩
        have hFw : ∀ k, F k w := fun k => by
          by_cases hkj : k = j
          · subst hkj; exact hT k w hjf
          · have := h2 k; rwa [up_ne _ _ hkj] at this
        have hRw : ∀ u, Val E0 F R u → Rc u v w := by have := h2 j; rwa [up_same] at this
        have hu : Val E0 F R u := ⟨w, h1, hFw, h3⟩
        have hk := (hRc u hu).2 v ⟨w, h1, up_all hFw h3, hRw u hu⟩
        rw [Array.setIfInBounds_comm _ _ hji, ← Act.put_comm a u v hd]
        refine anyS_mono hL f _ _ _ _ ?_ hk
        intro k w' hh
        by_cases hki : k = i
        · subst hki
          rw [up_same] at hh
          rw [up_ne _ _ (Ne.symm hji), up_same]
          exact hh
        · rw [up_ne _ _ hki] at hh
          by_cases hkj : k = j
          · subst hkj
            rw [up_same] at hh ⊢
            exact hh u hu
          · rw [up_ne _ _ hkj] at hh
            rw [up_ne _ _ hkj, up_ne _ _ hki]
            exact hh

/-! ### the walk in the text's order -/
def wpW (P : Program) (md : Region.Mode) (ops : Array Oper) (S : FuncId → Array Value → Value → World → Prop) (E0 : World → Prop) (Q : Act → (Nat → World → Prop) → Prop) : Nat → List Oper → Act → (Nat → World → Prop) → Prop
  | _, [], a, F => Q a F
  | k, o :: rest, a, F => ∃ R, Gives P md ops S E0 F o a R ∧ ∀ u, Val E0 F R u → wpW P md ops S E0 Q (k + 1) rest (a.put o.dst u) (up F k (R u))

theorem anyS_lex (hE : Stb E0) {n g : Nat} {Lq : Act → (Nat → World → Prop) → Prop} (hLq : ∀ a F F', (∀ k w, F' k w → F k w) → Lq a F → Lq a F') (hsel : Region.noSelect ops = true) (hnsz : n ≤ ops.size)
    (hlt : ∀ i, i < n → ∀ listed, HeadInv md ops n listed → listed.getD i true = false → ∀ j ∈ Region.ready md ops listed, j < n) :
    ∀ (l : List Oper) (k : Nat) (listed : Array Bool) (a : Act) (F : Nat → World → Prop), (∀ j, j < l.length → l[j]? = ops[k + j]?) → k + l.length = n → HeadInv md ops n listed →
    (∀ k, Stb (F k)) → (∃ w, E0 w ∧ ∀ k, F k w) → (∀ k w, listed.getD k false = false → F k w) →
    Region.lexHead md ops g l.length k listed = true → wpW P md ops S E0 Lq k l a F →
    anyS P md ops S E0 n (fun listed' a' F' => Region.seqB md ops g n listed' = true ∧ Lq a' F') l.length listed a F
  | [], k, listed, a, F, _, hk, _, _, _, _, hB, h => by
    have : k = n := by simpa using hk
    subst this
    exact ⟨by simpa [Region.lexHead] using hB, h⟩
  | o :: l, k, listed, a, F, hl, hk, inv, hF, hinh, hT, hB, h => by
    have h0 : ops[k]? = some o := by simpa using (hl 0 (by simp)).symm
    simp only [List.length_cons, Region.lexHead, Bool.and_eq_true] at hB
    obtain ⟨⟨hr, hf⟩, hB'⟩ := hB
    have hkn : k < n := by simp only [List.length_cons] at hk; omega
    have hr' : k ∈ Region.ready md ops listed := by simpa using hr
    obtain ⟨R, hg, hK⟩ := h
    refine anyS_first hE h0 (Region.noSelect_spec hsel) (hlt k hkn) hkn (fun listed a F F' hF h => ⟨h.1, hLq _ _ _ hF h.2⟩) (fun listed' a' F' hL => seqB_ready hL.1) l.length listed a F R inv (Region.free_spec h0 hf) hr' hF hinh hT hg ?_
    rintro u ⟨w, h1, h2, h3⟩
    refine anyS_lex hE hLq hsel hnsz hlt l (k + 1) _ _ _ (fun j hj => by have := hl (j + 1) (by simp; omega); simpa [Nat.add_assoc, Nat.add_comm 1 j] using this) (by simp only [List.length_cons] at hk; omega) (inv.set hr' hkn) (up_stb hF (hg.stb u)) ⟨w, h1, up_all h2 h3⟩ ?_ hB' (hK u ⟨w, h1, h2, h3⟩)
    intro j w' hj
    by_cases hjk : j = k
    · subst hjk
      have : j < listed.size := by rw [inv.size]; omega
      simp [this] at hj
    · rw [up_ne _ _ hjk]
      rw [getD_set_ne false (Ne.symm hjk)] at hj
      exact hT j w' hj

/-- **The head in the text's order; then the tail.** -/
theorem wp_region_tail {id : Nat} {Q : Exit → Act → World → Prop} {a : Act} {w : World} {l : List Oper} (S : FuncId → Array Value → Value → World → Prop) (E0 : World → Prop) (hE : Stb E0) (n : Nat) (hm : P.follows .mixedOrders = true) (hB : Region.lexTailB .any l.toArray n = true)
    (hw : E0 w.drew) (h : wpW P .any l.toArray S E0 (fun a' F => ∀ w', E0 w' → (∀ k, F k w') → wpList P l.toArray Q (l.drop n) a' w') 0 (l.take n) a (fun _ _ => True)) : (Code.region id l.toArray true).wp P Q a w := by
  simp only [Region.lexTailB, Bool.and_eq_true, decide_eq_true_eq] at hB
  obtain ⟨⟨⟨⟨hsel, hn⟩, hs⟩, hc⟩, hlex⟩ := hB
  have hn' : n < l.length := by simpa using hn
  have htl : (l.take n).length = n := by simp; omega
  have hdl : (l.drop n).length = l.toArray.size - n := by simp
  have inv0 : HeadInv .any l.toArray n (Array.replicate l.toArray.size false) :=
    ⟨by simp, fun j oj _ hl => (by rw [getD_replicate_false] at hl; cases hl), fun t _ ht => getD_in (by simpa using ht) (getD_replicate_false _ _)⟩
  have H := anyS_lex (md := .any) (g := l.toArray.size - n) hE (Lq := fun a' F => ∀ w', E0 w' → (∀ k, F k w') → wpList P l.toArray Q (l.drop n) a' w') (fun a F F' hF h w' h1 h2 => h w' h1 fun k => hF k _ (h2 k)) hsel (Nat.le_of_lt hn)
    (fun i hin listed inv hun j hj => (Nat.lt_or_ge j n).resolve_right fun h => absurd hj (tail_waits hs hc hn inv _ i rfl hin hun j h)) (l.take n) 0 _ a (fun _ _ => True) (fun j hj => by
      have hj' : j < n := by rw [htl] at hj; exact hj
      simp [hj']) (by simpa using htl) inv0 (fun _ _ _ _ _ => trivial) ⟨_, hw, fun _ => trivial⟩ (fun _ _ _ => trivial) (by rw [htl]; exact hlex) h
  refine wp_region_any hm ?_
  have := any_of_S (Q' := Q) (g := l.toArray.size - n) hE (fun listed a' F w' _ hw' hk hL => by
    have := wpAny_of_seq (md := .any) (Q' := Q) (l.drop n) n listed a' w' (fun j => by simp [List.getElem?_drop]) (by rw [hdl]; exact hL.1) (hL.2 w' hw' hk)
    rwa [hdl] at this) _ _ _ _ _ (fun _ _ _ _ _ => trivial) hw (fun _ => trivial) H
  rw [htl, show n + (l.toArray.size - n) = l.toArray.size by omega] at this
  exact this
def lexAllB (ops : Array Oper) : Bool := Region.noSelect ops && Region.lexHead .any ops 0 ops.size 0 (Array.replicate ops.size false)
/-- A region that has no tail. -/
theorem wp_region_all {id : Nat} {Q : Exit → Act → World → Prop} {a : Act} {w : World} {l : List Oper} (S : FuncId → Array Value → Value → World → Prop) (E0 : World → Prop) (hE : Stb E0) (hm : P.follows .mixedOrders = true) (hB : lexAllB l.toArray = true)
    (hw : E0 w.drew) (h : wpW P .any l.toArray S E0 (fun a' F => ∀ w', E0 w' → (∀ k, F k w') → Q .normal a' w') 0 l a (fun _ _ => True)) : (Code.region id l.toArray true).wp P Q a w := by
  simp only [lexAllB, Bool.and_eq_true] at hB
  obtain ⟨hsel, hlex⟩ := hB
  have inv0 : HeadInv .any l.toArray l.toArray.size (Array.replicate l.toArray.size false) :=
    ⟨by simp, fun j oj _ hl => (by rw [getD_replicate_false] at hl; cases hl), fun t h1 h2 => by omega⟩
  have H := anyS_lex (md := .any) (g := 0) hE (Lq := fun a' F => ∀ w', E0 w' → (∀ k, F k w') → Q .normal a' w') (fun a F F' hF h w' h1 h2 => h w' h1 fun k => hF k _ (h2 k)) hsel (Nat.le_refl _)
    (fun i hin listed inv hun j hj => by
      obtain ⟨_, oj, hoj, _⟩ := mem_ready.1 hj
      exact (Array.getElem?_eq_some_iff.1 hoj).1) l 0 _ a (fun _ _ => True) (fun j hj => by simp) (by simp) inv0 (fun _ _ _ _ _ => trivial) ⟨_, hw, fun _ => trivial⟩ (fun _ _ _ => trivial) (by simpa using hlex) h
  refine wp_region_any hm ?_
  have := any_of_S (Q' := Q) (g := 0) hE (fun listed a' F w' _ hw' hk hL => by
    refine ⟨?_, hL.2 w' hw' hk⟩
    simpa [Region.seqB] using hL.1) _ _ _ _ _ (fun _ _ _ _ _ => trivial) hw (fun _ => trivial) H
  rw [Nat.add_zero] at this
  simpa using this

/-! ### one operation -/
variable {Q : Act → (Nat → World → Prop) → Prop} {F : Nat → World → Prop} {a : Act} {o : Oper} {rest : List Oper} {k : Nat}
theorem wpW_mono (hQ : ∀ a F F', (∀ k w, F' k w → F k w) → Q a F → Q a F') : ∀ (l : List Oper) (k : Nat) (a : Act) (F F' : Nat → World → Prop), (∀ k w, F' k w → F k w) → wpW P md ops S E0 Q k l a F → wpW P md ops S E0 Q k l a F'
  | [], _, _, _, _, hF, h => hQ _ _ _ hF h
  | o :: l, k, a, F, F', hF, h => by
    obtain ⟨R, hg, hk⟩ := h
    exact ⟨R, hg.mono hF, fun u hu => wpW_mono hQ l (k + 1) _ _ _ (up_mono hF k (R u)) (hk u (by obtain ⟨w, h1, h2, h3⟩ := hu; exact ⟨w, h1, fun k => hF _ _ (h2 k), h3⟩))⟩
/-- The walk's post, as the two theorems have it. -/
structure Mon (Q : Act → (Nat → World → Prop) → Prop) : Prop where mk ::
  out : ∀ a F F', (∀ k w, F' k w → F k w) → Q a F → Q a F'
theorem w_nil (h : Q a F) : wpW P md ops S E0 Q k [] a F := h
theorem wanted_none (h : o.guard = none) : Region.wanted o (yielded ops a.tmps) = true := by simp [Region.wanted, h]
/-- What operation i has told, to one that waits for it. -/
theorem fact {w : World} (hp : ∀ e ∈ o.after, Region.binds md e = true → F e.on w) (i : Nat) (h : (o.after.toList.any fun e => e.on == i && Region.binds md e) = true) : F i w := by
  obtain ⟨e, he, h2⟩ := List.any_eq_true.1 h
  simp only [Bool.and_eq_true, beq_iff_eq] at h2
  have := hp e (by simpa using he) h2.2
  rwa [h2.1] at this
/-- One value, found by running it. -/
theorem w_val (hQ : Mon Q) (hFk : ∀ w, F k w) (hw : Region.wanted o (yielded ops a.tmps) = true)
    (h : ∃ v, (∀ w, E0 w → (∀ e ∈ o.after, Region.binds md e = true → F e.on w) → (execOp a.eval o).run P w = .ok (.value v) w) ∧ ∀ K : Act → Prop, (∀ a, wpW P md ops S E0 Q (k + 1) rest a F → K a) → K (a.put o.dst v)) : wpW P md ops S E0 Q k (o :: rest) a F := by
  obtain ⟨v, hr, h⟩ := h
  refine ⟨fun u _ => u = v, .inl ⟨hw, fun u w w' e _ => e, fun w hw hp => by rw [hr w hw hp]; exact ⟨Below.refl _ _, rfl⟩⟩, ?_⟩
  rintro u ⟨w, _, _, rfl⟩
  exact h _ fun a hh => wpW_mono hQ.out rest (k + 1) a F _ (fun j w' hj => by
    by_cases hjk : j = k
    · subst hjk; exact hFk w'
    · rwa [up_ne _ _ hjk] at hj) hh
theorem w_skip (hQ : Mon Q) (hFk : ∀ w, F k w) (hw : Region.wanted o (yielded ops a.tmps) = false)
    (h : ∀ K : Act → Prop, (∀ a, wpW P md ops S E0 Q (k + 1) rest a F → K a) → K (a.put o.dst undef)) : wpW P md ops S E0 Q k (o :: rest) a F := by
  refine ⟨fun u _ => u = undef, .inr ⟨hw, rfl⟩, ?_⟩
  rintro u ⟨w, _, _, rfl⟩
  exact h _ fun a hh => wpW_mono hQ.out rest (k + 1) a F _ (fun j w' hj => by
    by_cases hjk : j = k
    · subst hjk; exact hFk w'
    · rwa [up_ne _ _ hjk] at hj) hh
/-- A call whose result S tells. -/
theorem w_call (hw : Region.wanted o (yielded ops a.tmps) = true)
    (h : ∃ f args, (∀ w, (execOp a.eval o).run P w = .ok (.enter f args) w) ∧ (∀ u, Stb (S f args u)) ∧
      (∀ w, E0 w → (∀ e ∈ o.after, Region.binds md e = true → F e.on w) → Calls P f args w (fun e w'' => ∃ u, e = .returned u ∧ Below w.heap.size w w'' ∧ S f args u w'')) ∧
      ∀ u, Val E0 F (S f args) u → ∀ K : Act → Prop, (∀ a, wpW P md ops S E0 Q (k + 1) rest a (up F k (S f args u)) → K a) → K (a.put o.dst u)) : wpW P md ops S E0 Q k (o :: rest) a F := by
  obtain ⟨f, args, hr, hs, hc, h⟩ := h
  exact ⟨S f args, .inl ⟨hw, hs, fun w hw hp => by rw [hr w]; exact ⟨rfl, rfl, hc w hw hp⟩⟩, fun u hu => h u hu _ fun a hh => hh⟩
end
end Go.Proofs.Ytcgfdnhocdcfjaa.Qw

/- The document's functions, called; what the region of HedgePlays' calls return. -/
namespace Go.Proofs.Ytcgfdnhocdcfjaa.Hed
open Go.RowKit Go.Proofs.YtcgfdnhocdcfjaaW.PrintWords Go.Proofs.YtcgfdnhocdcfjaaW.PrintLast Go.Proofs.YtcgfdnhocdcfjaaW.PrintMore Go.Proofs.Ytcgfdnhocdcfjaa.Arr Go.Proofs.Ytcgfdnhocdcfjaa.Utf Go.Proofs.Ytcgfdnhocdcfjaa.PHedgePlays T
set_option linter.unusedVariables false
set_option linter.unusedSimpArgs false

/-- A list of the document's entries. -/
def RL (w : World) (A : Option Addr) (L : List Ent) : Prop := Kd.C k71 w A L.length (L.map toR)
theorem RL.below {w w1 : World} {A : Option Addr} {L : List Ent} (h : RL w A L) (hb : Below w.heap.size w w1) : RL w1 A L := Kd.C_below h hb
theorem RL.c {w : World} {A : Option Addr} {L : List Ent} (h : RL w A L) : Kd.C k71 w A (L.map toR).length (L.map toR) := by rw [List.length_map]; exact h
theorem RL.of {w : World} {A : Option Addr} {L : List Ent} (h : Kd.C k71 w A (L.map toR).length (L.map toR)) : RL w A L := by rw [List.length_map] at h; exact h
theorem RL.nil (w : World) : RL w none [] := Kd.C_nil k71 w
section
variable {L : List Ent} {A : Option Addr} {c : Nat} {w : World} (hR : RL w A L) (hc : L.length ≤ c) (key : ByteArray) (hk : key.size ≤ 1000) (hL : L.length ≤ 1000) (hS : Sh L)
include hR hc
theorem refGet_calls (hL : L.length ≤ 1000) : Calls Try.prog 15 #[.slice A L.length c, .string key] w fun e w' => e = .returned (.tuple #[.int .i64 (((L.find? (eqK key)).map (·.2)).getD 0), .bool (L.find? (eqK key)).isSome]) ∧ Below w.heap.size w w' := by
  have h := stileref15_Get.calls 1001 A c (L.map toR) key _ _ w hR.c (by rw [List.length_map]; exact hc) (get_f L key hL 1001 (Nat.le_refl _))
  rw [List.length_map] at h
  exact h.mono fun e w' ⟨h1, h2⟩ => ⟨h1, h2.below⟩
include hk hL hS in
theorem refRank_calls : Calls Try.prog 19 #[.slice A L.length c, .string key] w fun e w' => e = .returned (.int .i64 ((L.filter (lo key)).length : Int)) ∧ Below w.heap.size w w' := by
  have h := stileref15_Rank.calls 3004 A c (L.map toR) key _ w hR.c (by rw [List.length_map]; exact hc) (rank_f L key hk hL hS 3004 (Nat.le_refl _))
  rw [List.length_map] at h
  exact h.mono fun e w' ⟨h1, h2⟩ => ⟨h1, h2.below⟩
include hk hL hS in
theorem refPut_calls (hs : Srt L) (v : Int) : Calls Try.prog 16 #[.slice A L.length c, .string key, .int .i64 v] w fun e w' => ∃ A' c', e = .returned (.slice A' (putE L key v).length c') ∧ (putE L key v).length ≤ c' ∧ RL w' A' (putE L key v) ∧ Below w.heap.size w w' := by
  have h := stileref15_Put.calls 3004 A c (L.map toR) key v _ w hR.c (by rw [List.length_map]; exact hc) (put_f L hs key v hk hL hS 3004 (Nat.le_refl _))
  rw [List.length_map] at h
  refine h.mono ?_
  rintro e w' ⟨v0, rfl, h1, h2⟩
  obtain ⟨A', c', rfl, h3, h4⟩ := Kd.R_reads h1
  refine ⟨A', c', by rw [List.length_map], by rw [List.length_map] at h3; exact h3, .of h4, h2⟩
theorem refDrop_calls (hs : Srt L) (hL : L.length ≤ 1000) : Calls Try.prog 18 #[.slice A L.length c, .string key] w fun e w' => ∃ A' c', e = .returned (.slice A' (dropE L key).length c') ∧ (dropE L key).length ≤ c' ∧ RL w' A' (dropE L key) ∧ Below w.heap.size w w' := by
  have h := stileref15_Drop.calls 1001 A c (L.map toR) key _ w hR.c (by rw [List.length_map]; exact hc) (drop_f L hs key hL 1001 (Nat.le_refl _))
  rw [List.length_map] at h
  refine h.mono ?_
  rintro e w' ⟨v0, rfl, h1, h2⟩
  obtain ⟨A', c', rfl, h3, h4⟩ := Kd.R_reads h1
  refine ⟨A', c', by rw [List.length_map], by rw [List.length_map] at h3; exact h3, .of h4, h2⟩
include hk hL hS in
theorem refFrom_calls (pf : ByteArray) (n : Int) : Calls Try.prog 21 #[.slice A L.length c, .string key, .string pf, .int .i64 n] w fun e w' => ∃ A' c', e = .returned (.slice A' ((L.filter (okF key pf)).take n.toNat).length c') ∧ ((L.filter (okF key pf)).take n.toNat).length ≤ c' ∧ RL w' A' ((L.filter (okF key pf)).take n.toNat) ∧ Below w.heap.size w w' := by
  have h := stileref15_From.calls 3004 A c (L.map toR) key pf n _ w hR.c (by rw [List.length_map]; exact hc) (from_f L key pf hk n hL hS 3004 (Nat.le_refl _))
  rw [List.length_map] at h
  refine h.mono ?_
  rintro e w' ⟨v0, rfl, h1, h2⟩
  obtain ⟨A', c', rfl, h3, h4⟩ := Kd.R_reads h1
  refine ⟨A', c', by rw [List.length_map], by rw [List.length_map] at h3; exact h3, .of h4, h2⟩
end
theorem HL.srt {B : Nat} {w : World} {h : Nat} {l : List Ent} (H : HL B w h l) : Srt l := by
  obtain ⟨t, h1, rfl, h3, h4, h5⟩ := H
  exact h3
theorem sh_put {L : List Ent} (h : Sh L) {key : ByteArray} (hk : key.size ≤ 1000) (v : Int) : Sh (putE L key v) := fun e he => by
  unfold putE at he
  rcases List.mem_append.1 he with h1 | h1
  · exact h e (List.mem_filter.1 h1).1
  · rcases List.mem_cons.1 h1 with rfl | h1
    · exact hk
    · exact h e (List.mem_filter.1 h1).1
theorem sh_drop {L : List Ent} (h : Sh L) (key : ByteArray) : Sh (dropE L key) := fun e he => by
  unfold dropE at he
  rcases List.mem_append.1 he with h1 | h1
  · exact h e (List.mem_filter.1 h1).1
  · exact h e (List.mem_filter.1 h1).1
theorem drop_len {L : List Ent} (h : Srt L) (key : ByteArray) : (dropE L key).length ≤ L.length := by
  rw [← drop_eq key L h]
  exact List.length_filter_le _ _
/-- What the calls of the region return. -/
def SP (L F U : List Ent) (key : ByteArray) (mv : Value) (n : Int) (f : FuncId) (args : Array Value) (u : Value) (w : World) : Prop :=
  (f = 13 → u = .int .i64 (L.length : Int)) ∧ (f = 12 → u = .int .i64 ((L.filter (lo key)).length : Int)) ∧ (f = 19 → u = .int .i64 ((L.filter (lo key)).length : Int)) ∧ (f = 20 → u = .bool true) ∧
  (f = 10 → ∃ A c, u = .slice A U.length c ∧ Kd.C k32 w A U.length (U.map toS)) ∧
  (f = 21 → (args = #[mv, .string key, .string ⟨#[]⟩, .int .i64 n] → ∃ A c, u = .slice A F.length c ∧ RL w A F) ∧ (args = #[mv, .string key, .string key, .int .i64 n] → ∃ A c, u = .slice A U.length c ∧ RL w A U))
section
variable {L F U : List Ent} {key : ByteArray} {mv : Value} {n : Int} {args : Array Value} {u : Value} {w : World}
theorem sp_stb {f : FuncId} : Qw.Stb (SP L F U key mv n f args u) := fun w w' h hb => ⟨h.1, h.2.1, h.2.2.1, h.2.2.2.1, fun e => by
    obtain ⟨A, c, h1, h2⟩ := h.2.2.2.2.1 e
    exact ⟨A, c, h1, Kd.C_below h2 hb⟩, fun e => ⟨fun e1 => by
    obtain ⟨A, c, h1, h2⟩ := (h.2.2.2.2.2 e).1 e1
    exact ⟨A, c, h1, h2.below hb⟩, fun e1 => by
    obtain ⟨A, c, h1, h2⟩ := (h.2.2.2.2.2 e).2 e1
    exact ⟨A, c, h1, h2.below hb⟩⟩⟩
theorem sp_len : SP L F U key mv n 13 args (.int .i64 (L.length : Int)) w := ⟨fun _ => rfl, fun h => absurd h (by decide), fun h => absurd h (by decide), fun h => absurd h (by decide), fun h => absurd h (by decide), fun h => absurd h (by decide)⟩
theorem sp_rank : SP L F U key mv n 12 args (.int .i64 ((L.filter (lo key)).length : Int)) w := ⟨fun h => absurd h (by decide), fun _ => rfl, fun h => absurd h (by decide), fun h => absurd h (by decide), fun h => absurd h (by decide), fun h => absurd h (by decide)⟩
theorem sp_rrank : SP L F U key mv n 19 args (.int .i64 ((L.filter (lo key)).length : Int)) w := ⟨fun h => absurd h (by decide), fun h => absurd h (by decide), fun _ => rfl, fun h => absurd h (by decide), fun h => absurd h (by decide), fun h => absurd h (by decide)⟩
theorem sp_same : SP L F U key mv n 20 args (.bool true) w := ⟨fun h => absurd h (by decide), fun h => absurd h (by decide), fun h => absurd h (by decide), fun _ => rfl, fun h => absurd h (by decide), fun h => absurd h (by decide)⟩
theorem sp_under {A : Option Addr} {c : Nat} (h : Kd.C k32 w A U.length (U.map toS)) : SP L F U key mv n 10 args (.slice A U.length c) w := ⟨fun h => absurd h (by decide), fun h => absurd h (by decide), fun h => absurd h (by decide), fun h => absurd h (by decide), fun _ => ⟨A, c, rfl, h⟩, fun h => absurd h (by decide)⟩
theorem sp_from (h1 : args = #[mv, .string key, .string ⟨#[]⟩, .int .i64 n] → ∃ A c, u = .slice A F.length c ∧ RL w A F) (h2 : args = #[mv, .string key, .string key, .int .i64 n] → ∃ A c, u = .slice A U.length c ∧ RL w A U) : SP L F U key mv n 21 args u w := ⟨fun h => absurd h (by decide), fun h => absurd h (by decide), fun h => absurd h (by decide), fun h => absurd h (by decide), fun h => absurd h (by decide), fun _ => ⟨h1, h2⟩⟩
end
theorem key_of_args {mv : Value} {key p : ByteArray} {n : Int} (h : (#[mv, .string key, .string p, .int .i64 n] : Array Value) = #[mv, .string key, .string key, .int .i64 n]) : p = key := by
  simpa using h
end Go.Proofs.Ytcgfdnhocdcfjaa.Hed
