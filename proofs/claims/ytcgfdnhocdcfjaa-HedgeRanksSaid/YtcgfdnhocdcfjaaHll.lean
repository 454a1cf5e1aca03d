/- A hedge in memory, by its sorted list. -/
import Derived.Test.YtcgfdnhocdcfjaaHli
namespace Go.Proofs.Ytcgfdnhocdcfjaa.Hed
open Go.RowKit Go.Proofs.YtcgfdnhocdcfjaaW.PrintWords Go.Proofs.Ytcgfdnhocdcfjaa.Arr Go.Proofs.Ytcgfdnhocdcfjaa.Utf Go.Proofs.Ytcgfdnhocdcfjaa.PHedgePlays T
set_option linter.unusedVariables false
set_option linter.unusedSimpArgs false

/-- A hedge whose entries are a strictly rising list; all its blocks are from B on. -/
def HL (B : Nat) (w : World) (h : Nat) (l : List Ent) : Prop := ∃ t, HAt w h t ∧ t.ents = l ∧ Srt l ∧ B ≤ h ∧ ∀ j, j ∈ t.blocks → B ≤ j
theorem take_all : ∀ l : List Ent, l.takeWhile (fun _ => true) = l
  | [] => rfl
  | a :: l => by rw [List.takeWhile_cons]; simp only [if_true]; rw [take_all l]
section
variable {B : Nat} {w : World} {h : Nat} {l : List Ent}
theorem HL.below {w1 : World} (H : HL B w h l) (hb : Below w.heap.size w w1) : HL B w1 h l := by
  obtain ⟨t, h1, h2, h3, h4, h5⟩ := H
  exact ⟨t, h1.below hb, h2, h3, h4, h5⟩
theorem newL_calls (w : World) : Calls Try.prog 7 #[] w fun e w' => ∃ h, e = .returned (.pointer (some ⟨h, 0, none⟩)) ∧ HL w.heap.size w' h [] ∧ Below w.heap.size w w' :=
  (new_calls w).mono fun e w' ⟨h, he, h1, h2, h3⟩ => ⟨h, he, ⟨T.nil, h1, rfl, List.Pairwise.nil, h2, fun j hj => by simp [blocks] at hj⟩, h3⟩
theorem lenL_calls (H : HL B w h l) : Calls Try.prog 13 #[.pointer (some ⟨h, 0, none⟩)] w fun e w' => e = .returned (.int .i64 (l.length : Int)) ∧ Below w.heap.size w w' := by
  obtain ⟨t, h1, rfl, h3, h4, h5⟩ := H
  rw [size_ents]
  exact len_calls h t w h1
theorem rankL_calls (H : HL B w h l) (key : ByteArray) (hz : l.length ≤ 1000000) : Calls Try.prog 12 #[.pointer (some ⟨h, 0, none⟩), .string key] w fun e w' => e = .returned (.int .i64 ((l.filter (lo key)).length : Int)) ∧ Below w.heap.size w w' := by
  obtain ⟨t, h1, rfl, h3, h4, h5⟩ := H
  rw [← rank_lo t key h3]
  exact rank_calls h t key (by rw [← size_ents]; exact hz) w h1
theorem getL_calls (H : HL B w h l) (key : ByteArray) : Calls Try.prog 14 #[.pointer (some ⟨h, 0, none⟩), .string key] w fun e w' => e = .returned (.tuple #[.int .i64 (((l.find? (eqK key)).map (·.2)).getD 0), .int .i64 (codeG ((l.find? (eqK key)).map (·.2)))]) ∧ Below w.heap.size w w' := by
  obtain ⟨t, h1, rfl, h3, h4, h5⟩ := H
  rw [← get_ents t key h3]
  exact get_calls h t key w h1
theorem fromL_calls (H : HL B w h l) (key : ByteArray) (most : Int) (hz : l.length ≤ 1000000) : Calls Try.prog 11 #[.pointer (some ⟨h, 0, none⟩), .string key, .int .i64 most] w fun e w' => ∃ vo, e = .returned vo ∧ Kd.R k32 TEn w' w.heap.size (fun _ => True) vo (((l.filter (hi key)).take most.toNat).map toS) ∧ Below w.heap.size w w' := by
  obtain ⟨t, h1, rfl, h3, h4, h5⟩ := H
  refine (from_calls h t key most (by rw [← size_ents]; exact hz) w h1).mono ?_
  rintro e w' ⟨vo, he, hR, hb⟩
  rw [gather_take t key most _ h3] at hR
  have e1 : ((t.ents.filter (hi key)).take most.toNat).takeWhile (fun _ => true) = (t.ents.filter (hi key)).take most.toNat := take_all _
  rw [e1] at hR
  exact ⟨vo, he, hR, hb⟩
theorem underL_calls (H : HL B w h l) (key : ByteArray) (most : Int) (hz : l.length ≤ 1000000) : Calls Try.prog 10 #[.pointer (some ⟨h, 0, none⟩), .string key, .int .i64 most] w fun e w' => ∃ vo, e = .returned vo ∧ Kd.R k32 TEn w' w.heap.size (fun _ => True) vo ((((l.filter (hi key)).take most.toNat).takeWhile (fun e => pre key e.1)).map toS) ∧ Below w.heap.size w w' := by
  obtain ⟨t, h1, rfl, h3, h4, h5⟩ := H
  refine (under_calls h t key most (by rw [← size_ents]; exact hz) w h1).mono ?_
  rintro e w' ⟨vo, he, hR, hb⟩
  rw [gather_take t key most _ h3] at hR
  exact ⟨vo, he, hR, hb⟩
theorem putL_calls (H : HL B w h l) (key : ByteArray) (v : Int) (hz : l.length + 1 ≤ 1000000) (hk : key.size ≤ 1000000) (hB : B ≤ w.heap.size) :
    Calls Try.prog 9 #[.pointer (some ⟨h, 0, none⟩), .string key, .int .i64 v] w fun e w' => e = .returned (.bool (!(l.any (eqK key)))) ∧ HL B w' h (putE l key v) ∧ Below B w w' := by
  obtain ⟨t, h1, rfl, h3, h4, h5⟩ := H
  refine (put_calls h t key v (by rw [← size_ents]; exact hz) hk w h1).mono ?_
  rintro e w' ⟨g, wt, he, hA, hO, hm⟩
  rw [isNil_has t key h3] at he
  exact ⟨he, ⟨_, hA, put_ents t key h3 g wt v, srt_put h3 key v, h4, fun j hj => (hm j hj).elim (h5 j) (fun h' => Nat.le_trans hB h')⟩, hO.below hB (fun k hk => by
    rcases List.mem_cons.1 hk with rfl | hk
    · exact h4
    · exact h5 k hk)⟩
theorem dropL_calls (H : HL B w h l) (key : ByteArray) (hz : l.length ≤ 1000000) (hk : key.size ≤ 1000000) (hB : B ≤ w.heap.size) :
    Calls Try.prog 17 #[.pointer (some ⟨h, 0, none⟩), .string key] w fun e w' => e = .returned (.int .i64 (if l.any (eqK key) then 0 else 19)) ∧ HL B w' h (dropE l key) ∧ Below B w w' := by
  obtain ⟨t, h1, rfl, h3, h4, h5⟩ := H
  refine (drop_calls h t key (by rw [← size_ents]; exact hz) hk w h1).mono ?_
  rintro e w' ⟨he, hA, hO, hm⟩
  rw [isNil_has t key h3] at he
  refine ⟨?_, ⟨_, hA, drop_ents t key h3, srt_drop h3 key, h4, fun j hj => h5 j (hm j hj)⟩, hO.below hB (fun k hk => by
    rcases List.mem_cons.1 hk with rfl | hk
    · exact h4
    · exact h5 k hk)⟩
  rw [he]
  cases t.ents.any (eqK key) <;> rfl
end
theorem put_len (l : List Ent) (key : ByteArray) (v : Int) (h : Srt l) : (putE l key v).length ≤ l.length + 1 := by
  unfold putE
  rw [List.length_append, List.length_cons]
  have h1 : (l.filter (lo key)).length + (l.filter (gtK key)).length ≤ l.length := by
    induction l with
    | nil => simp
    | cons a l ih =>
      have := ih (List.pairwise_cons.1 h).2
      simp only [List.filter_cons]
      cases h1 : lo key a with
      | true =>
        have h2 : gtK key a = false := lt_asymm h1
        rw [h2]
        simp only [if_true, Bool.false_eq_true, if_false, List.length_cons]
        omega
      | false =>
        cases h2 : gtK key a <;> simp only [if_true, Bool.false_eq_true, if_false, List.length_cons] <;> omega
  omega
end Go.Proofs.Ytcgfdnhocdcfjaa.Hed
