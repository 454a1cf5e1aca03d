/- Plain facts on a tuple's own filters. -/
import Derived.Test.YtogafnocejpmdaaDoorBno
namespace Go.Proofs.YtogafnocejpmdaaDoor.Bnd
open Go.RowKit Go.Proofs.YtogafnocejpmdaaDoorW.PrintWords Go.Proofs.YtogafnocejpmdaaDoor.Utf Go.Proofs.YtogafnocejpmdaaDoor.Arr Go.Proofs.YtogafnocejpmdaaDoor.Gly Go.Proofs.YtogafnocejpmdaaDoor.Glr Go.Proofs.YtogafnocejpmdaaDoor.Who
set_option linter.unusedVariables false
set_option linter.unusedSimpArgs false

def pk (f v : ByteArray) : Bool := f.toList.isEmpty || (f.toList == v.toList)
theorem match_six (p q u a b c t i r x y z : ByteArray) (bare : Bool) : matchB (six6 p q u a b c) (six6 t i r x y z) bare = ((pk p t && (pk q i && (pk u r && (pk a x && (pk b y && (pk c z && true)))))) && (!bare || z.toList.isEmpty)) := rfl
def own (d : Bool) (t : ByteArray) : ByteArray := if d = true then t else ⟨#[]⟩
theorem nilE : (⟨#[]⟩ : ByteArray).toList.isEmpty = true := by rw [nil_list]; rfl
theorem pk_nil (v : ByteArray) : pk ⟨#[]⟩ v = true := by unfold pk; rw [nilE]; rfl
theorem pk_own (d : Bool) (t v : ByteArray) (ht : t.toList.isEmpty = false) : pk (own d t) v = (!d || (v.toList == t.toList)) := by
  cases d with
  | false => exact pk_nil v
  | true =>
    show (t.toList.isEmpty || (t.toList == v.toList)) = _
    rw [ht, Bool.false_or, Bool.not_true, Bool.false_or, BEq.comm]
theorem pk_last (d : Bool) (t v : ByteArray) : (pk (own d t) v && (!(d && t.toList.isEmpty) || v.toList.isEmpty)) = (!d || (v.toList == t.toList)) := by
  cases d with
  | false => rw [show own false t = ⟨#[]⟩ from rfl, pk_nil]; rfl
  | true =>
    show ((t.toList.isEmpty || (t.toList == v.toList)) && (!(true && t.toList.isEmpty) || v.toList.isEmpty)) = (false || (v.toList == t.toList))
    cases he : t.toList.isEmpty with
    | true =>
      rw [isEmpty_eq he]
      cases v.toList <;> rfl
    | false =>
      rw [BEq.comm]
      simp
theorem pk_self (d : Bool) (t : ByteArray) : pk (own d t) t = true := by
  cases d with
  | false => exact pk_nil t
  | true =>
    show (t.toList.isEmpty || (t.toList == t.toList)) = true
    rw [beq_self_eq_true, Bool.or_true]
theorem kind_facts (a b c : ByteArray) (h : kindV a b c ≠ 0) : nameB a = true ∧ ((b.toList == [42]) || idB b) = true ∧ (c.toList.isEmpty || nameB c) = true := by
  have h1 := (kind_id a b c h).1
  unfold kindV at h
  rw [h1, if_pos rfl] at h
  generalize (b.toList == [42]) = x at *
  generalize idB b = y at *
  generalize c.toList.isEmpty = e at *
  generalize nameB c = m at *
  refine ⟨h1, ?_, ?_⟩
  · cases x <;> cases y <;> first | rfl | exact absurd rfl h
  · cases x <;> cases y <;> cases e <;> cases m <;> first | rfl | exact absurd rfl h
theorem id_empty (i : ByteArray) (h : idB i = true) : i.toList.isEmpty = false := by
  cases he : i.toList.isEmpty with
  | false => rfl
  | true =>
    obtain rfl := (empty_iff i).1 he
    have := id_size _ h
    exact absurd this (by decide)
/-- What a good tuple's fields are. -/
structure Good6 (t i r a b c : ByteArray) : Prop where mk ::
  h0 : nameB t = true
  h1 : idB i = true
  h2 : nameB r = true
  h3 : nameB a = true
  h4 : ((b.toList == [42]) || idB b) = true
  h5 : (c.toList.isEmpty || nameB c) = true
theorem good6 (t i r a b c : ByteArray) (h : tupGood t i r a b c = true) : Good6 t i r a b c := by
  unfold tupGood goodB at h
  simp only [Bool.and_eq_true] at h
  obtain ⟨⟨⟨h1, h2⟩, h3⟩, h4⟩ := h
  have hk : kindV a b c ≠ 0 := by
    rw [subj_kind] at h4
    simpa using h4
  obtain ⟨k1, k2, k3⟩ := kind_facts a b c hk
  exact ⟨h1, h2, h3, k1, k2, k3⟩
theorem star_empty (b : ByteArray) (h : ((b.toList == [42]) || idB b) = true) : b.toList.isEmpty = false := by
  cases hs : (b.toList == [42]) with
  | true => rw [beq_iff_eq.1 hs]; rfl
  | false => rw [hs, Bool.false_or] at h; exact id_empty b h
theorem own_name (d : Bool) (t : ByteArray) (h : nameB t = true) : ((own d t).toList.isEmpty || nameB (own d t)) = true := by
  cases d with
  | false => rw [show own false t = ⟨#[]⟩ from rfl, nilE]; rfl
  | true => rw [show own true t = t from rfl, h, Bool.or_true]
theorem own_empty (d : Bool) (t : ByteArray) (h : t.toList.isEmpty = false) : (own d t).toList.isEmpty = !d := by
  cases d with
  | false => exact nilE
  | true => exact h
theorem own_fit {t i r a b c : ByteArray} (G : Good6 t i r a b c) (d0 d1 d2 d3 d4 d5 : Bool) (h1 : d1 = true → d0 = true) (h4 : d4 = true → d3 = true) (h5 : d5 = true → d3 = true) :
    Fit (own d0 t) (own d1 i) (own d2 r) (own d3 a) (own d4 b) (own d5 c) (d5 && c.toList.isEmpty) := by
  have et := name_empty t G.h0
  have ei := id_empty i G.h1
  have ea := name_empty a G.h3
  have eb := star_empty b G.h4
  refine ⟨own_name d0 t G.h0, own_name d2 r G.h2, own_name d3 a G.h3, ?_, ?_, ?_, ?_, ?_, ?_⟩
  · cases d5 with
    | false => rw [show own false c = ⟨#[]⟩ from rfl, nilE]; rfl
    | true => exact G.h5
  · cases d1 with
    | false => rw [show own false i = ⟨#[]⟩ from rfl, nilE]; rfl
    | true => rw [show own true i = i from rfl, G.h1, Bool.or_true]
  · cases d4 with
    | false => rw [show own false b = ⟨#[]⟩ from rfl, nilE, Bool.true_or, Bool.or_true]
    | true => rw [show own true b = b from rfl, eb, Bool.false_or]; exact G.h4
  · intro h
    rw [own_empty _ _ et] at h
    rw [own_empty _ _ ei]
    cases d1 with
    | false => rfl
    | true => rw [h1 rfl] at h; cases h
  · intro h
    rw [own_empty _ _ ea] at h
    have e3 : d3 = false := by cases d3 <;> first | rfl | cases h
    have e4 : d4 = false := by
      cases hd : d4 with
      | false => rfl
      | true => rw [h4 hd] at e3; cases e3
    have e5 : d5 = false := by
      cases hd : d5 with
      | false => rfl
      | true => rw [h5 hd] at e3; cases e3
    rw [e4, e5]
    exact ⟨nilE, nilE, rfl⟩
  · intro h
    rw [Bool.and_eq_true] at h
    rw [h.1]
    exact h.2
theorem own_self (t i r a b c : ByteArray) (d0 d1 d2 d3 d4 d5 : Bool) : matchB (six6 (own d0 t) (own d1 i) (own d2 r) (own d3 a) (own d4 b) (own d5 c)) (six6 t i r a b c) (d5 && c.toList.isEmpty) = true := by
  rw [match_six]
  simp only [pk_self, Bool.true_and]
  cases d5 <;> cases c.toList.isEmpty <;> rfl
theorem own_other {t i r a b c : ByteArray} (G : Good6 t i r a b c) (p q u x y z : ByteArray) (d0 d1 d2 d3 d4 d5 : Bool) (s0 s1 s2 s3 s4 s5 : Bool)
    (h0 : s0 = (true && (!d0 || (p.toList == t.toList)))) (h1 : s1 = (s0 && (!d1 || (q.toList == i.toList)))) (h2 : s2 = (s1 && (!d2 || (u.toList == r.toList)))) (h3 : s3 = (s2 && (!d3 || (x.toList == a.toList)))) (h4 : s4 = (s3 && (!d4 || (y.toList == b.toList)))) (h5 : s5 = (s4 && (!d5 || (z.toList == c.toList)))) :
    matchB (six6 (own d0 t) (own d1 i) (own d2 r) (own d3 a) (own d4 b) (own d5 c)) (six6 p q u x y z) (d5 && c.toList.isEmpty) = s5 := by
  subst h0 h1 h2 h3 h4 h5
  rw [match_six, pk_own d0 t p (name_empty t G.h0), pk_own d1 i q (id_empty i G.h1), pk_own d2 r u (name_empty r G.h2), pk_own d3 a x (name_empty a G.h3), pk_own d4 b y (star_empty b G.h4)]
  rw [← pk_last d5 c z]
  simp only [Bool.true_and, Bool.and_true, Bool.and_assoc]
theorem own_none (p q u x y z : ByteArray) : matchB (six6 ⟨#[]⟩ ⟨#[]⟩ ⟨#[]⟩ ⟨#[]⟩ ⟨#[]⟩ ⟨#[]⟩) (six6 p q u x y z) false = true := by
  rw [match_six]
  simp only [pk_nil]
  rfl
theorem bits_31 (n : Nat) (hn : n < 256) : (bits .and .u8 (n : Int) 3 == 3) = true → (bits .and .u8 (n : Int) 1 != 0) = true :=
  (by decide +kernel : ∀ n : Fin 256, (bits .and .u8 (n.val : Int) 3 == 3) = true → (bits .and .u8 (n.val : Int) 1 != 0) = true) ⟨n, hn⟩
theorem bits_24 (n : Nat) (hn : n < 256) : (bits .and .u8 (n : Int) 24 == 24) = true → (bits .and .u8 (n : Int) 8 != 0) = true :=
  (by decide +kernel : ∀ n : Fin 256, (bits .and .u8 (n.val : Int) 24 == 24) = true → (bits .and .u8 (n.val : Int) 8 != 0) = true) ⟨n, hn⟩
theorem bits_40 (n : Nat) (hn : n < 256) : (bits .and .u8 (n : Int) 40 == 40) = true → (bits .and .u8 (n : Int) 8 != 0) = true :=
  (by decide +kernel : ∀ n : Fin 256, (bits .and .u8 (n.val : Int) 40 == 40) = true → (bits .and .u8 (n.val : Int) 8 != 0) = true) ⟨n, hn⟩
theorem own_le (d : Bool) (t : ByteArray) : (own d t).size ≤ t.size := by
  cases d with
  | false => exact Nat.zero_le _
  | true => exact Nat.le_refl _
end Go.Proofs.YtogafnocejpmdaaDoor.Bnd
