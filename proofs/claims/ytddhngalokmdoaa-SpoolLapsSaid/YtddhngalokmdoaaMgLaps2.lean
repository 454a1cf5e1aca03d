/- Texts of this claim, merged: Sl3. -/
import Derived.Test.YtddhngalokmdoaaMgLaps1
/- The law SpoolLaps: its walk. -/
namespace Go.Proofs.Ytddhngalokmdoaa.Spo
open Go.RowKit Go.Proofs.YtddhngalokmdoaaW.PrintWords Go.Proofs.YtddhngalokmdoaaW.PrintLast Go.Proofs.YtddhngalokmdoaaW.PrintMore Go.Proofs.Ytddhngalokmdoaa.Arr Go.Proofs.Ytddhngalokmdoaa.PSpoolPlays
set_option linter.unusedVariables false
set_option linter.unusedSimpArgs false

theorem recs_typed {w : World} {B : Nat} {v : Value} {xs : List (List Int)} (h : Recs w B v xs) : ∀ k, v.ownBlock = some k → B ≤ k ∧ ∃ cs, Blk w k TSl cs := fun k hk => by
  obtain ⟨ss, h1, h2, h3⟩ := h.out
  obtain ⟨c, hc⟩ := own_typed h1 k hk
  exact ⟨own_base h1 k hk, c, ⟨hc⟩⟩
theorem recs_form2 {w : World} {B : Nat} {v : Value} {xs : List (List Int)} (h : Recs w B v xs) : ∃ A n c, v = .slice A n c ∧ n = xs.length := by
  obtain ⟨A, c, h1, -⟩ := recs_form h
  exact ⟨A, _, c, h1, rfl⟩
theorem TAt.grown {P : Nat → Prop} {w w1 : World} {t : Nat} {V : TrayV} {row : Option Nat} (h : TAt P w t V) (hg : w.grownBy w1 row) (hr : ∀ k, row = some k → ∃ cs, Blk w k TSl cs) : TAt P w1 t V := by
  obtain ⟨kv, cv, h1, h2, h3, h4⟩ := h.out
  refine ⟨kv, cv, h1.grown hg (fun e => ?_), flat_move h2 fun k hk => hg.block k (flat_lt h2 k hk).1 (fun e => ?_), flat_move h3 fun k hk => hg.block k (flat_lt h3 k hk).1 (fun e => ?_), h4⟩
  · obtain ⟨cs, hb⟩ := hr t e.symm
    exact absurd rfl (h1.ne hb (by decide))
  · obtain ⟨cs, hb⟩ := hr k e.symm
    exact Kd.R_ne h2 hb.out (by decide) hk.symm
  · obtain ⟨cs, hb⟩ := hr k e.symm
    exact Kd.R_ne h3 hb.out (by decide) hk.symm
theorem SAt.grown {w0 w w1 : World} {s t : Nat} {V : TrayV} {S : SpoolV} {row : Option Nat} (h : SAt w0 w s t V S) (hg : w.grownBy w1 row) (hr : ∀ k, row = some k → w0.heap.size ≤ k ∧ ∃ cs, Blk w k TSl cs) : SAt w0 w1 s t V S := by
  obtain ⟨⟨P, h1, h2, h3⟩, h4, h5, h6, h7, h8, h9, h10, h11⟩ := h
  refine ⟨⟨P, h1.grown hg (fun k e => (hr k e).2), h2, h3⟩, h4, h5, h6, ?_, h8.grown hg (fun e => ?_), h9, h10, h11⟩
  · exact ⟨hg.os.trans h7.os, hg.tape.trans h7.tape, hg.output.trans h7.output, Nat.le_trans h7.size hg.size, fun k hk => (hg.block k (Nat.lt_of_lt_of_le hk h7.size) (fun e => by have := (hr k e.symm).1; omega)).trans (h7.block k hk)⟩
  · obtain ⟨cs, hb⟩ := (hr s e.symm).2
    exact absurd rfl (h8.ne hb (by decide))
/-- Blocks that are no tray's nor spool's are as they were. -/
def Frame (w w' : World) : Prop := ∀ k T cs, Blk w k T cs → T ≠ TTr → T ≠ TSe → T ≠ TCa → T ≠ TSp → Blk w' k T cs
theorem Recs.frame {w w1 : World} {B : Nat} {v : Value} {xs : List (List Int)} (h : Recs w B v xs) (hf : Frame w w1) : Recs w1 B v xs := by
  obtain ⟨ss, h1, h2, h3⟩ := h.out
  refine ⟨ss, own_move h1 (fun k hk => ?_), h2, fun i s x a b => (h3 i s x a b).move fun k hk => ?_⟩
  · obtain ⟨c, hc⟩ := own_typed h1 k hk
    exact (hf k TSl c ⟨hc⟩ (by decide) (by decide) (by decide) (by decide)).out.trans hc.symm
  · obtain ⟨c, hc⟩ := own_typed (h3 i s x a b).own k hk
    exact (hf k TU8 c ⟨hc⟩ (by decide) (by decide) (by decide) (by decide)).out.trans hc.symm
/-- The tray's blocks alone. -/
theorem TAt.min {P : Nat → Prop} {w : World} {t : Nat} {V : TrayV} (h : TAt P w t V) : ∃ P', TAt P' w t V ∧ (∀ j, P' j → P j ∧ j < w.heap.size ∧ ∀ T cs, Blk w j T cs → T = TTr ∨ T = TSe ∨ T = TCa) := by
  obtain ⟨kv, cv, h1, h2, h3, h4⟩ := h.out
  refine ⟨fun j => P j ∧ j < w.heap.size ∧ ∀ T cs, Blk w j T cs → T = TTr ∨ T = TSe ∨ T = TCa, ⟨kv, cv, h1, ⟨fun k hk => ?_, ?_⟩, ⟨fun k hk => ?_, ?_⟩, h4, h1.lt, fun T cs hb => .inl ?_⟩, fun j hj => hj⟩
  · refine ⟨(flat_lt h2 k hk).2, (flat_lt h2 k hk).1, fun T cs hb => .inr (.inl ?_)⟩
    obtain ⟨c, hc⟩ := own_typedR h2 k hk
    exact Classical.byContradiction fun hne => absurd rfl (hb.ne hc hne)
  · obtain ⟨_, inner, ho, hr⟩ := h2
    exact ⟨inner, ho, hr⟩
  · refine ⟨(flat_lt h3 k hk).2, (flat_lt h3 k hk).1, fun T cs hb => .inr (.inr ?_)⟩
    obtain ⟨c, hc⟩ := own_typedR h3 k hk
    exact Classical.byContradiction fun hne => absurd rfl (hb.ne hc hne)
  · obtain ⟨_, inner, ho, hr⟩ := h3
    exact ⟨inner, ho, hr⟩
  · exact Classical.byContradiction fun hne => absurd rfl (hb.ne h1 hne)
theorem sat_appendF {w0 w w1 : World} {s t : Nat} {V : TrayV} {S : SpoolV} (H : SAt w0 w s t V S) (hb : Below w.heap.size w w1) (hcl : V.cache.length ≤ 900000000) (ht : S.tail ≤ 140737480000000) (b : List Int) (A : Option Addr) (n c : Nat) (hby : Bytes b) (hc : n ≤ c) (hr : ReadsInt w1 .u8 A n b) (hA : ∀ ad, A = some ad → 0 < n → ∃ T cs, Blk w1 ad.block T cs ∧ T ≠ TTr ∧ T ≠ TSe ∧ T ≠ TCa ∧ T ≠ TSp) (hn9 : n ≤ 1000000000) :
    Calls Try.prog 20 #[ptrT s, .slice A n c] w1 fun e w' => e = .returned (.int .i64 (appendV V S b).2.2) ∧ SAt w0 w' s t (appendV V S b).1 (appendV V S b).2.1 ∧ Frame w1 w' := by
  have H1 := H.below hb
  obtain ⟨⟨P, h1, h2, h3⟩, h4, h5, h6, h7, h8, h9, h10, h11⟩ := H
  obtain ⟨P', m1, m2⟩ := h1.min
  have hk : 0 < V.kept.length := by have := h10.count; have := h10.first; omega
  have hs := h8.lt
  refine (append_calls P' s t V S b A n c w1 (m1.below hb) (fun h => h2 (m2 s h).1) h4 h5 hcl h6 hk h10 H1.blk hby hc hr (fun ad e h0 h => ?_) hn9 ht).mono ?_
  · obtain ⟨T, cs, hbk, n1, n2, n3, n4⟩ := hA ad e h0
    rcases h with h | h
    · obtain ⟨-, q1, q2⟩ := m2 _ h
      have hbw : Blk w ad.block T cs := ⟨(hb.block _ q1).symm.trans hbk.out⟩
      rcases q2 T cs hbw with q | q | q
      · exact n1 q
      · exact n2 q
      · exact n3 q
    · rw [h] at hbk
      exact absurd rfl (hbk.ne H1.blk n4)
  · rintro e w' ⟨rfl, hT, hB, hO⟩
    obtain ⟨k1, k2, k3, k4, k5⟩ := append_keep (S := S) h4 h5 hby h6
    obtain ⟨r1, r2, r3, r4⟩ := append_ring (V := V) (S := S) (b := b)
    have hw01 := H1.low
    refine ⟨rfl, ⟨⟨_, hT, ?_, ?_⟩, k1, k2, k5, hw01.trans (hO.below hw01.size (fun j h => ?_)), hB, h9, append_fit h10 ht, by rw [r1, r2, k3]; exact h11⟩, fun k T cs hbk n1 n2 n3 n4 => hO.blk hbk fun h => ?_⟩
    · intro h
      have := hb.size
      rcases h with h | h
      · exact h2 (m2 _ h).1
      · omega
    · intro j h
      rcases h with h | h
      · exact h3 j (m2 _ h).1
      · have := hw01.size; omega
    · rcases h with h | h
      · exact h3 j (m2 _ h).1
      · subst h; exact h9
    · rcases h with h | h
      · obtain ⟨-, q1, q2⟩ := m2 _ h
        have hbw : Blk w k T cs := ⟨(hb.block k q1).symm.trans hbk.out⟩
        rcases q2 T cs hbw with q | q | q
        · exact n1 q
        · exact n2 q
        · exact n3 q
      · subst h
        exact absurd rfl (hbk.ne H1.blk n4)
theorem sat_cutF {w0 w : World} {s t : Nat} {V : TrayV} {S : SpoolV} (H : SAt w0 w s t V S) : Calls Try.prog 22 #[ptrT s] w fun e w' => e = .returned (.tuple #[]) ∧ SAt w0 w' s t V { S with head := S.tail } ∧ Frame w w' := by
  have H0 := H
  refine (cut_calls s t S w H.blk).mono ?_
  rintro e w' ⟨rfl, hB, hO⟩
  obtain ⟨⟨P, h1, h2, h3⟩, h4, h5, h6, h7, h8, h9, h10, h11⟩ := H
  refine ⟨rfl, ⟨⟨P, h1.onlyP hO (fun j _ hp e => h2 (by rw [← e]; exact hp)), h2, h3⟩, h4, h5, h6, h7.trans (hO.below h7.size (fun j h => by subst h; exact h9)), hB, h9, ⟨h10.first, h10.count, h10.epoch, ⟨by have := h10.head; show 0 ≤ S.tail; omega, Int.le_refl _⟩, h10.tail.1, by have := h10.count; show S.tail - S.tail ≤ S.count; omega⟩, h11⟩, fun k T cs hbk n1 n2 n3 n4 => hO.blk hbk fun h => ?_⟩
  subst h
  exact absurd rfl (hbk.ne H0.blk n4)
def lapS (k : Nat) (h tl : Int) : SpoolV := ⟨1, k, 1, h, tl, false⟩
/-- The ring and the records since the last cut. -/
structure LapV (V : TrayV) (k : Nat) (h tl : Int) (xs : List (List Int)) : Prop where mk ::
  left : V.left < 0
  cache : V.cache = []
  len : V.kept.length = 20
  elder : Elder V (lapS k h tl) tl
  lies : Lies V (lapS k h tl) 1 h xs tl
  small : ∀ b, b ∈ xs → Bytes b
theorem lap_fit {k : Nat} {h tl : Int} (hk : 4 ≤ k ∧ k ≤ 15) (h0 : 0 ≤ h) (h1 : h ≤ tl) (h4 : tl - h ≤ k) (h5 : tl ≤ 10000) : Fit (lapS k h tl) := ⟨⟨by show (0 : Int) ≤ 1; decide, by show (1 : Int) ≤ 4096; decide⟩, ⟨by show (2 : Int) ≤ (k : Int); omega, by show (k : Int) ≤ _; omega⟩, ⟨by show (1 : Int) ≤ 1; decide, by show (1 : Int) ≤ _; decide⟩, ⟨h0, h1⟩, ⟨by show tl ≤ _; omega, h4⟩⟩
theorem lapV_append {V : TrayV} {k : Nat} {h tl : Int} {xs : List (List Int)} {b : List Int} (hV : LapV V k h tl xs) (hF : Fit (lapS k h tl)) (hR : (lapS k h tl).first + (lapS k h tl).count ≤ V.kept.length) (hb : b.length ≤ 255) (hby : Bytes b) (hr : (nPieces b : Int) ≤ k - (tl - h)) (ht : tl ≤ 10000) :
    LapV (appendV V (lapS k h tl) b).1 k h (tl + nPieces b) (xs ++ [b]) ∧ (appendV V (lapS k h tl) b).2 = (lapS k h (tl + nPieces b), 0) := by
  have e := append_free (S := lapS k h tl) (b := b) hV.left hF hR (by omega) hr rfl
  obtain ⟨k1, k2, k3⟩ := app_keep (S := lapS k h tl) (b := b) hF hR hV.cache hV.left rfl (by omega) hr hV.elder (by show tl ≤ _; omega)
  have e2 : (appendV V (lapS k h tl) b).2 = (lapS k h (tl + nPieces b), 0) := by rw [e]; rfl
  rw [e2] at k1 k2 k3
  refine ⟨⟨by rw [e]; exact hV.left, by rw [e], by rw [e]; show (settleV _ _).length = 20; rw [settle_length]; exact hV.len, k1, lies_snoc xs h (lies_sec xs h tl (Int.le_refl _) k3 hV.lies) k2, fun x hx => ?_⟩, e2⟩
  rcases List.mem_append.1 hx with hx | hx
  · exact hV.small x hx
  · obtain rfl := List.mem_singleton.1 hx
    exact hby
theorem lapV_cut {V : TrayV} {k : Nat} {h tl : Int} {xs : List (List Int)} (hV : LapV V k h tl xs) : LapV V k tl tl [] :=
  ⟨hV.left, hV.cache, hV.len, fun m hm => hV.elder m hm, rfl, fun b hb => by cases hb⟩
theorem lapV_new {k : Nat} (hk : 4 ≤ k ∧ k ≤ 15) : LapV (newV 20) k 0 0 [] := by
  have hlen : (newV 20).kept.length = 20 := by simp [newV]
  refine ⟨by show (-1 : Int) < 0; decide, rfl, hlen, fun m hm => .inl ?_, rfl, fun b hb => by cases hb⟩
  have hh := on_has (V := newV 20) (lap_fit hk (Int.le_refl 0) (Int.le_refl 0) (by omega) (by decide)) (by rw [hlen]; show (1 : Int) + k ≤ _; omega) m hm
  unfold hasV at hh
  rw [hlen] at hh
  simp only [Bool.and_eq_true, decide_eq_true_eq] at hh
  exact read_new hh.1 hh.2
theorem lap_open {V : TrayV} {k : Nat} {h tl : Int} {xs : List (List Int)} (hV : LapV V k h tl xs) (hk : 4 ≤ k ∧ k ≤ 15) (h0 : 0 ≤ h) (h1 : h ≤ tl) (h4 : tl - h ≤ k) (h5 : tl ≤ 10000) :
    openOk V 1 k h 2 = true ∧ opened V 1 k h 2 = (xs, tl) := by
  constructor
  · unfold openOk rightV
    rw [hV.len, decide_eq_true (show (k : Int) ≥ 2 by omega), decide_eq_true (show (k : Int) ≤ 4096 by omega), decide_eq_true (show (k : Int) ≤ ((20 : Nat) : Int) - 1 by omega), decide_eq_false (show ¬ h < 0 by omega), decide_eq_false (show ¬ h > 1099511627776 by omega)]
    rfl
  · unfold opened
    have := find_lies (V := V) (S := ⟨1, k, 2, h, h, false⟩) (ep := 1) ⟨by decide, by show (1 : Int) < 2; decide⟩ ⟨⟨by show (0 : Int) ≤ 1; decide, by show (1 : Int) ≤ 4096; decide⟩, ⟨by show (2 : Int) ≤ (k : Int); omega, by show (k : Int) ≤ _; omega⟩, ⟨by show (1 : Int) ≤ 2; decide, by show (2 : Int) ≤ _; decide⟩, ⟨h0, Int.le_refl _⟩, ⟨by show h ≤ _; omega, by show h - h ≤ (k : Int); omega⟩⟩ tl (by omega)
      (fun _ => hV.elder.here (by omega)) xs h 0 ((k : Int)).toNat [] (Int.le_refl _) h1 h4 (lies_sec (V := V) (V' := V) (S := lapS k h tl) (S' := ⟨1, k, 2, h, h, false⟩) xs h tl (Int.le_refl _) (fun m _ _ => rfl) hV.lies) (by show (k : Int) - (h - h) ≤ _; omega) (by decide)
    rw [this]
    rfl
/-- The law's spool. -/
def LapAt (w0 w : World) (s t k : Nat) (h tl : Int) (xs : List (List Int)) : Prop := ∃ V, SAt w0 w s t V (lapS k h tl) ∧ LapV V k h tl xs
theorem LapAt.below {w0 w w1 : World} {s t k : Nat} {h tl : Int} {xs : List (List Int)} (H : LapAt w0 w s t k h tl xs) (hb : Below w.heap.size w w1) : LapAt w0 w1 s t k h tl xs := by
  obtain ⟨V, h1, h2⟩ := H
  exact ⟨V, h1.below hb, h2⟩
theorem LapAt.low {w0 w : World} {s t k : Nat} {h tl : Int} {xs : List (List Int)} (H : LapAt w0 w s t k h tl xs) : Below w0.heap.size w0 w := by
  obtain ⟨V, h1, h2⟩ := H
  exact h1.low
theorem lap_append {w0 w w1 : World} {s t k : Nat} {h tl : Int} {xs : List (List Int)} (H : LapAt w0 w s t k h tl xs) (hb : Below w.heap.size w w1) (b : List Int) (n : Nat) (hbl : b.length = n) (hn : n ≤ 255) (hby : Bytes b) (ht : tl ≤ 10000) (g : Nat) (hg : ∃ cs, Blk w1 g TU8 cs) (hr : ReadsInt w1 .u8 (some ⟨g, 0, none⟩) n b) :
    Calls Try.prog 20 #[ptrT s, .slice (some ⟨g, 0, none⟩) n n] w1 fun e w' => ((e = .returned (.int .i64 0) ∧ (nPieces b : Int) ≤ k - (tl - h) ∧ LapAt w0 w' s t k h (tl + nPieces b) (xs ++ [b]) ∧ Frame w1 w') ∨ (e = .returned (.int .i64 3) ∧ (k : Int) - (tl - h) < nPieces b ∧ LapAt w0 w' s t k h tl xs ∧ Frame w1 w')) := by
  obtain ⟨V, hS, hV⟩ := H
  refine (sat_appendF hS hb (by rw [hV.cache]; decide) (by show tl ≤ _; omega) b _ n n hby (Nat.le_refl _) hr (fun ad e _ => by cases e; obtain ⟨cs, hcs⟩ := hg; exact ⟨TU8, cs, hcs, by decide, by decide, by decide, by decide⟩) (by omega)).mono ?_
  rintro e w' ⟨rfl, h1, hfr⟩
  by_cases hroom : (nPieces b : Int) ≤ k - (tl - h)
  · obtain ⟨h2, h3⟩ := lapV_append hV hS.fit hS.right (by omega) hby hroom ht
    rw [h3] at h1
    rw [h3]
    exact .inl ⟨rfl, hroom, ⟨_, h1, h2⟩, hfr⟩
  · have h2 : appendV V (lapS k h tl) b = (V, lapS k h tl, 3) := by
      unfold appendV
      rw [if_neg (by omega), if_pos (show roomV (lapS k h tl) < (nPieces b : Int) from Int.not_le.1 hroom)]
    rw [h2] at h1
    rw [h2]
    exact .inr ⟨rfl, Int.not_le.1 hroom, ⟨_, h1, hV⟩, hfr⟩
theorem lap_cut {w0 w : World} {s t k : Nat} {h tl : Int} {xs : List (List Int)} (H : LapAt w0 w s t k h tl xs) :
    Calls Try.prog 22 #[ptrT s] w fun e w' => e = .returned (.tuple #[]) ∧ LapAt w0 w' s t k tl tl [] ∧ Frame w w' := by
  obtain ⟨V, hS, hV⟩ := H
  refine (sat_cutF hS).mono ?_
  rintro e w' ⟨rfl, h1, hfr⟩
  exact ⟨rfl, ⟨V, h1, lapV_cut hV⟩, hfr⟩
theorem lap_grown {w0 w w1 : World} {s t k : Nat} {h tl : Int} {xs : List (List Int)} {row : Option Nat} (H : LapAt w0 w s t k h tl xs) (hg : w.grownBy w1 row) (hr : ∀ k, row = some k → w0.heap.size ≤ k ∧ ∃ cs, Blk w k TSl cs) : LapAt w0 w1 s t k h tl xs := by
  obtain ⟨V, h1, h2⟩ := H
  exact ⟨V, h1.grown hg hr, h2⟩
/-- Bytes that are being filled. -/
def fillB (n : Nat) (x : Int) (j : Nat) : List Int := List.replicate j x ++ List.replicate (n - j) 0
theorem fillB_set {n : Nat} {x : Int} {j : Nat} (h : j < n) : (fillB n x j).set j x = fillB n x (j + 1) := by
  unfold fillB
  obtain ⟨d, hd⟩ : ∃ d, n - j = d + 1 := ⟨n - j - 1, by omega⟩
  rw [hd, show n - (j + 1) = d by omega, List.set_append_right _ _ (by simp), List.length_replicate, Nat.sub_self, List.replicate_succ, List.set_cons_zero, List.replicate_succ', List.append_assoc]
  rfl
theorem fillB_length {n : Nat} {x : Int} {j : Nat} (h : j ≤ n) : (fillB n x j).length = n := by simp [fillB]; omega
theorem fillB_bytes {n : Nat} {x : Int} {j : Nat} (h0 : 0 ≤ x) (h1 : x < 256) : Bytes (fillB n x j) := Bytes.append (fun y hy => by rw [(List.mem_replicate.1 hy).2]; exact ⟨h0, h1⟩) (Bytes.zeros _)
/-- What the two calls of the opening tell. -/
def SL (k : Nat) (h tl : Int) (xs : List (List Int)) (t : Nat) (f : FuncId) (args : Array Value) (u : Value) (w : World) : Prop :=
  (f = 23 → u = .int .i64 h) ∧ (f = 16 → ∃ s A c, u = .tuple #[ptrT s, .slice A xs.length c, .int .i64 0] ∧ Recs w 0 (.slice A xs.length c) xs ∧ Blk w s TSp (spoolC t ⟨1, k, 2, h, tl, false⟩))
theorem sl_stb {k : Nat} {h tl : Int} {xs : List (List Int)} {t : Nat} {f : FuncId} {args : Array Value} {u : Value} : Qw.Stb (SL k h tl xs t f args u) := fun w w' hh hb => ⟨hh.1, fun e => by
  obtain ⟨s, A, c, h1, h2, h3⟩ := hh.2 e
  exact ⟨s, A, c, h1, h2.below hb, h3.below hb⟩⟩
set_option maxHeartbeats 16000000 in
set_option maxRecDepth 100000 in
theorem lawLaps_calls (zs : List Int) (hzb : Bytes zs) (A : Option Addr) (c : Nat) (y : Int) (hy0 : 0 ≤ y) (hy1 : y < 256) (w : World) (hz : ReadsInt w .u8 A zs.length zs) (hc : zs.length ≤ c) :
    Calls Try.prog 6 #[.slice A zs.length c, .int .u8 y] w fun e w' => e = .returned (.bool true) ∧ Below w.heap.size w w' := by
  have HZ := Aside0.mk (⟨hz, hzb⟩ : _ ∧ _)
  obtain ⟨n, hn⟩ : ∃ n, zs.length = n := ⟨_, rfl⟩
  have HN := Aside0.mk hn
  rw [hn] at hc ⊢
  have HC := Aside0.mk hc
  obtain ⟨k, hk⟩ : ∃ k : Nat, 4 + y % 12 = (k : Int) := ⟨(4 + y % 12).toNat, by omega⟩
  have hk2 : 4 ≤ k ∧ k ≤ 15 := by omega
  have HK := Aside0.mk hk2
  have e1 : Int.tmod y 12 = y % 12 := Int.tmod_eq_emod_of_nonneg hy0
  have e2 : IntKind.u8.wrap (y % 12) = y % 12 := IntWalk.u8_in _ (by omega)
  have e3 : IntKind.i64.wrap (y % 12) = y % 12 := IntWalk.i64_in _ (by omega)
  have e4 : IntKind.i64.wrap (4 + y % 12) = (k : Int) := by rw [hk]; exact IntWalk.i64_in _ (by omega)
  clear hk hk2 hy0 hy1 hz hzb hn hc
  have KN := Aside0.mk (tr_new 20 (by decide) (by decide) w w (Below.refl _ _))
  go_enter Try.func6, Try.ntmps6
  go_wp2_with fail
  refine KN.out.mono ?_
  rintro e w1 ⟨t, rfl, hT, b1⟩
  have T1 := Aside0.mk hT
  clear hT b1 KN
  go_wp2_with fail
  refine (awake_calls w1).mono ?_
  rintro e w2 ⟨rfl, b2⟩
  have T2 := Aside0.mk (T1.out.below b2)
  clear b2 T1
  by_cases h60 : n > 60
  · have t1 : decide ((n : Int) > 60) = true := decide_eq_true (by omega)
    clear h60
    go_wp2_with fail
    refine (awake_calls w2).mono ?_
    rintro e w3 ⟨rfl, b3⟩
    have B3 := Aside0.mk (T2.out.below b3).low
    clear b3
    go_wp2
    go_ret
    exact ⟨rfl, B3.out⟩
  have t1 : decide ((n : Int) > 60) = false := decide_eq_false (by omega)
  have H60 := Aside0.mk h60
  clear h60
  obtain ⟨W3, hW3⟩ : ∃ W3, w2.alloc (.cells #[.int .i64 1, .int .i64 (k : Int)] TRi) = W3 := ⟨_, rfl⟩
  have hRB : Blk W3 w2.heap.size TRi #[.int .i64 1, .int .i64 (k : Int)] := by rw [← hW3]; exact Blk.new _ _ _
  have b3 : Below w2.heap.size w2 W3 := by rw [← hW3]; exact (Below.refl _ _).alloc (Nat.le_refl _) _
  have T3 := Aside0.mk (T2.out.below b3)
  have KO := Aside0.mk (tr_open T3.out (by decide) 1 (k : Int) 0 1)
  have RB3 := Aside0.mk hRB
  have HW3 := Aside0.mk hW3
  have SZ := Aside0.mk T2.out.low.size
  clear hRB b3 hW3 T2
  go_wp2_with fail
  rw [HW3.out]
  have hlen0 : (newV 20).kept.length = 20 := by simp [newV]
  have hopen : openOk (newV 20) 1 (k : Int) 0 1 = true := by
    have := HK.out
    unfold openOk rightV
    rw [hlen0, decide_eq_true (show (k : Int) ≥ 2 by omega), decide_eq_true (show (k : Int) ≤ 4096 by omega), decide_eq_true (show (k : Int) ≤ ((20 : Nat) : Int) - 1 by omega)]
    rfl
  have hfit0 : Fit (lapS k 0 0) := lap_fit HK.out (Int.le_refl 0) (Int.le_refl 0) (by omega) (by decide)
  refine KO.out.mono ?_
  rintro e w4 ⟨b4, hp⟩
  rw [hopen, opened_new (by decide) hopen] at hp
  rcases hp with ⟨h, -⟩ | ⟨-, s, v, rfl, -, -, -, hsat⟩
  · cases h
  have L4 := Aside0.mk (⟨newV 20, hsat hfit0, lapV_new HK.out⟩ : LapAt w w4 s t k 0 0 [])
  have RB4 := Aside0.mk (RB3.out.below b4)
  obtain ⟨rb, hrb⟩ : ∃ rb, w2.heap.size = rb := ⟨_, rfl⟩
  rw [hrb] at RB4 SZ
  rw [hrb]
  clear b4 hsat hfit0 KO T3 RB3 HW3 hopen hlen0 hrb e1 e2 e3 e4 t1
  go_wp2_with fail
  go_loopw [11, 59] (fun v11 v59 wr => ∃ (i : Nat) (h tl : Int) (xs : List (List Int)), v59 = .int .i64 (i : Int) ∧ Aside0 (i ≤ n ∧ 0 ≤ h ∧ h ≤ tl ∧ tl - h ≤ k ∧ tl ≤ 100 * i ∧ xs.length ≤ i) ∧ Aside0 (LapAt w wr s t k h tl xs) ∧ Aside0 (Recs wr w.heap.size v11 xs) ∧ Aside0 (Blk wr rb TRi #[.int .i64 1, .int .i64 (k : Int)])) (fun _ v59 _ => n - (intOf v59).toNat)
  case atStart => exact ⟨0, 0, 0, [], rfl, ⟨by have : ([] : List (List Int)).length = 0 := rfl; omega⟩, L4, ⟨Recs.nil _ _⟩, RB4⟩
  case round =>
    obtain ⟨i, h, tl, xs, rfl, hin, hL, hV, hRB⟩ := hrel
    by_cases hi : i < n
    · have t1 : decide ((i : Int) < (n : Int)) = true := decide_eq_true (by omega)
      have t1n : decide (i < n) = true := decide_eq_true hi
      have p0 : (0 : Int) ≤ (i : Int) := by omega
      have p1 : (i : Int) < (n : Int) := by omega
      have hil : i < zs.length := by have := HN.out; omega
      obtain ⟨ad, eA, hx⟩ := (HZ.out.1.below (hL.out.low)).at_ (i : Int) p0 (by have := HN.out; omega)
      cases eA
      obtain ⟨hz1, hz2⟩ := HZ.out.2.rd i hil
      obtain ⟨z, hzz⟩ : ∃ z : Nat, zs[i].toNat = z := ⟨_, rfl⟩
      rw [hzz] at hz1 hz2
      rw [hz1, Int.toNat_natCast] at hx
      have q0 := eq_true p0
      have q1 := eq_true p1
      have q2 := eq_true hi
      have hwz : IntKind.i64.wrap (z : Int) = (z : Int) := IntWalk.i64_in _ (by omega)
      have hmk := run_zeros z (by omega)
      have HI := Aside0.mk (⟨hi, hz2, hin.out⟩ : _ ∧ _ ∧ _)
      obtain ⟨we, hwe⟩ : ∃ we, we = wr := ⟨_, rfl⟩
      subst hwe
      obtain ⟨W5, hW5⟩ : ∃ W5, we.alloc (.cells (numsA .u8 (List.replicate z 0)) TU8) = W5 := ⟨_, rfl⟩
      have hG5 : Blk W5 we.heap.size TU8 (numsA .u8 (fillB z ((i : Int) % 256) 0)) := by rw [← hW5]; simp only [fillB, List.replicate_zero, List.nil_append, Nat.sub_zero]; exact Blk.new _ _ _
      have hb5 : Below we.heap.size we W5 := by rw [← hW5]; exact (Below.refl _ _).alloc (Nat.le_refl _) _
      have G5 := Aside0.mk hG5
      have B5 := Aside0.mk hb5
      have HW5 := Aside0.mk hW5
      generalize hZ : numsA .u8 (List.replicate z 0) = Z at *
      clear hi hz1 hz2 hzz hG5 hb5 hW5 p0 p1 hil hin
      go_wp2_with fail
      rw [HW5.out]
      clear hmk
      go_loopw [69] (fun v69 wr => ∃ j : Nat, v69 = .int .i64 (j : Int) ∧ Aside0 (j ≤ z) ∧ Aside0 (Blk wr we.heap.size TU8 (numsA .u8 (fillB z ((i : Int) % 256) j))) ∧ Aside0 (Below we.heap.size we wr)) (fun v69 _ => z - (intOf v69).toNat)
      case atStart => exact ⟨0, rfl, ⟨Nat.zero_le _⟩, G5, B5⟩
      case round =>
        obtain ⟨j, rfl, hj, hG, hb⟩ := hrel
        by_cases hjz : j < z
        · have u1 : decide ((j : Int) < (z : Int)) = true := decide_eq_true (by omega)
          have u1n : decide (j < z) = true := decide_eq_true hjz
          have r0 := eq_true (show (0 : Int) ≤ (j : Int) by omega)
          have r1 := eq_true (show (j : Int) < (z : Int) by omega)
          have r2 := eq_true hjz
          have hwj : IntKind.i64.wrap ((j : Int) + 1) = ((j + 1 : Nat) : Int) := by rw [show ((j : Int) + 1) = ((j + 1 : Nat) : Int) by omega]; exact IntWalk.i64_in _ (by have := HI.out; omega)
          have hwu : IntKind.u8.wrap (i : Int) = (i : Int) % 256 := rfl
          have cj := hG.out.cell j
          rw [numsA_get _ _ j (by rw [fillB_length hj.out]; exact hjz)] at cj
          have fj := hG.out.frozen j
          have lj := hG.out.lt
          have HJ := Aside0.mk (⟨hjz, hwj⟩ : _ ∧ _)
          clear hjz
          go_wp2
          go_roundw
          case rel => exact ⟨j + 1, by first | rfl | (rw [HJ.out.2]) | go_num, ⟨HJ.out.1⟩, ⟨by rw [← fillB_set HJ.out.1, ← numsA_set]; exact hG.out.set j _⟩, ⟨hb.out.setCell (Nat.le_refl _) _⟩⟩
          case measure => have := HJ.out; simp [intOf, HJ.out.2]; omega
        · have u1 : decide ((j : Int) < (z : Int)) = false := decide_eq_false (by omega)
          have u1n : decide (j < z) = false := decide_eq_false hjz
          obtain rfl : j = z := by have := hj.out; omega
          have hbl := fillB_length (x := (i : Int) % 256) (Nat.le_refl j)
          have hbb : Bytes (fillB j ((i : Int) % 256) j) := fillB_bytes (by omega) (by omega)
          obtain ⟨b, hbe⟩ : ∃ b, fillB j ((i : Int) % 256) j = b := ⟨_, rfl⟩
          rw [hbe] at hG hbl hbb
          have hrd : ∀ w', Blk w' we.heap.size TU8 (numsA .u8 b) → ReadsInt w' .u8 (some ⟨we.heap.size, 0, none⟩) j b := fun w' hB => by
            have := hB.readsNums (by have := HI.out; omega)
            rwa [hbl] at this
          have hnp : 1 ≤ nPieces b ∧ nPieces b ≤ 3 := by have := HI.out; unfold nPieces; omega
          have KA := Aside0.mk (lap_append hL.out hb.out b j hbl (by have := HI.out; omega) hbb (by have := HI.out; have := H60.out; omega) we.heap.size ⟨_, hG.out⟩ (hrd wr hG.out))
          have HB := Aside0.mk (⟨hbl, hbb, hnp, hrd⟩ : _ ∧ _ ∧ _ ∧ _)
          have V6 := Aside0.mk (hV.out.below hb.out)
          have RB6 := Aside0.mk (hRB.out.below hb.out)
          have SZ2 := Aside0.mk (Nat.le_trans hL.out.low.size (Nat.le_refl _) : w.heap.size ≤ we.heap.size)
          clear hjz hbl hbb hbe hnp hrd hL hV hRB hb
          go_wp2_with fail
          refine KA.out.mono ?_
          rintro e w5 h5
          -- (h' : Int) (ys : List (List Int)) (w6 : World) (v6 : Value), 0 ≤ h' → h' ≤ tl → (nPieces b : Int) ≤ k - (tl - h') → ys.length ≤ i → LapAt w w6 s t k h' (tl + nPieces b) (ys ++ [b]) → Recs w6 w.heap.size v6 ys → Blk w6 we.heap.size TU8 (numsA .u8 b) → Blk w6 rb TRi #[.int .i64 1, .int .i64 (k : Int)] → True := fun _ _ _ _ _ _ _ _ _ _ _ _ => trivial
          rcases h5 with ⟨rfl, hrm, hL5, hf5⟩ | ⟨rfl, hrm, hL5, hf5⟩
          · have G6 := Aside0.mk (hf5 _ _ _ hG.out (by decide) (by decide) (by decide) (by decide))
            have V7 := Aside0.mk (V6.out.frame hf5)
            have RB7 := Aside0.mk (hf5 _ _ _ RB6.out (by decide) (by decide) (by decide) (by decide))
            have L7 := Aside0.mk hL5
            have HRM := Aside0.mk hrm
            clear hL5 hf5 hrm KA
            have YL := Aside0.mk (Nat.le_refl xs.length)
            have hz6 : w.heap.size ≤ w5.heap.size := L7.out.low.size
            have hxl6 : (xs : List (List Int)).length ≤ 1000000000 := by have := HI.out; have := YL.out; have := H60.out; have : ([] : List (List Int)).length = 0 := rfl; omega
            have ROW := Aside0.mk (G6.out.toRow (B := w.heap.size) SZ2.out (m := j) (c := j) HB.out.1.symm HB.out.1.symm (by have := HI.out; have := HB.out.1; omega))
            have tok1 : True := trivial
            go_wp2_with (at_builtin; have _t := tok1; go_must (refine app_rec (w0 := w5) w.heap.size rfl _ _ rfl u11 xs ⟨some ⟨we.heap.size, 0, none⟩, j, j⟩ b rfl rfl V7.out ROW.out ((Below.refl _ _).mono hz6) hz6 hxl6 ?_); intro v9 w9 hv9 hb9 hg9; obtain ⟨A9, l, c9, rfl, hl9⟩ := recs_form2 hv9; have HL9 := Aside0.mk hl9; have hba : Below w5.heap.size w5 (w5.alloc (.cells #[.slice (some ⟨we.heap.size, 0, none⟩) j j] TSl)) := (Below.refl _ _).alloc (Nat.le_refl _) _; have V9 := Aside0.mk hv9; have RB9 := Aside0.mk ((RB7.out.below hba).grown hg9 ((V7.out.below hba).ne (RB7.out.below hba) (by decide))); have L9 := Aside0.mk (lap_grown (L7.out.below hba) hg9 (recs_typed (V7.out.below hba))); clear _t tok1 hv9 hb9 hg9 hba hl9)
            obtain ⟨XS, hXS⟩ : ∃ XS, xs ++ [b] = XS := ⟨_, rfl⟩
            rw [hXS] at V9 L9
            obtain ⟨TL, hTL⟩ : ∃ TL, tl + (nPieces b : Int) = TL := ⟨_, rfl⟩
            rw [hTL] at L9
            have HXT := Aside0.mk (show XS.length ≤ i + 1 ∧ TL ≤ 100 * (i + 1) ∧ 0 ≤ h ∧ h ≤ TL ∧ TL - h ≤ k by
              have h1 := HI.out
              have h2 := HB.out.2.2.1
              have h3 := HRM.out
              have h4 := YL.out
              have h5 : ([] : List (List Int)).length = 0 := rfl
              rw [← hXS, ← hTL, List.length_append, List.length_singleton]
              omega)
            have HLN := Aside0.mk (by rw [← hXS]; exact HL9.out.symm : XS.length = l)
            have HST : Qw.Stb (fun w' => LapAt w w' s t k (h) TL XS ∧ Blk w' rb TRi #[.int .i64 1, .int .i64 (k : Int)] ∧ Below w9.heap.size w9 w') := fun w1 w2 h hb => ⟨h.1.below hb, h.2.1.below hb, h.2.2.trans (hb.mono h.2.2.size)⟩
            have HE0 : LapAt w w9.drew s t k (h) TL XS ∧ Blk w9.drew rb TRi #[.int .i64 1, .int .i64 (k : Int)] ∧ Below w9.heap.size w9 w9.drew := ⟨L9.out.below (Below.refl _ _).drew, RB9.out.drew, (Below.refl _ _).drew⟩
            clear hXS hTL hz6 hxl6 L9 RB9 L7 RB7 ROW
            refine Qw.wp_region_all (SL k (h) TL XS t) _ HST (by kernel_rfl) (by kernel_rfl) HE0 ?_
            clear HST HE0
            iterate 3 ((first | (with_reducible refine Qw.w_val ⟨fun _ _ _ hF h w' h1 h2 => h w' h1 fun k => hF k _ (h2 k)⟩ ?_ (Qw.wanted_none rfl) ?_) | ((with_reducible refine Qw.w_val ⟨fun _ _ _ hF h w' h1 h2 => h w' h1 fun k => hF k _ (h2 k)⟩ ?_ ?_ ?_); (focus (exact fun _ => trivial)); (focus (exact Qg.wanted_on rfl rfl rfl)))); (try (focus (exact fun _ => trivial))); apply Exists.intro; refine ⟨?_, ?_⟩; (focus (intro w' hw' hp'; have d0 := hw'.2.1.cell 0; have d1 := hw'.2.1.cell 1; have dl := hw'.2.1.lt; go_simp; (first | done | (with_reducible rfl)))); intro K hK; go_simp; (first | (with_reducible refine hK _ ?_) | (refine hK _ ?_)); clear hK K)
            ((with_reducible refine Qw.w_call ?_ ?_); (first | (focus (exact Qw.wanted_none rfl)) | (focus (exact Qg.wanted_on rfl rfl rfl))); apply Exists.intro; apply Exists.intro; refine ⟨?_, ?_, ?_, ?_⟩; (focus (intro w'; go_simp; (first | rfl | exact ⟨rfl, rfl⟩))); (focus (exact fun u => sl_stb)); (focus (intro w' hw' hp'; obtain ⟨V1, hS1, hV1⟩ := hw'.1; refine (head_calls s t _ w' hS1.blk).mono ?_; rintro e w8 ⟨rfl, b8⟩; exact ⟨_, rfl, b8, ⟨fun _ => rfl, fun h => absurd h (by decide)⟩⟩)); rintro u8 ⟨wv8, -, -, hu8⟩; intro K hK; go_simp; (first | (with_reducible refine hK _ ?_) | (refine hK _ ?_)); clear hK K)
            obtain rfl := hu8.1 rfl
            clear hu8 wv8
            ((with_reducible refine Qw.w_call ?_ ?_); (first | (focus (exact Qw.wanted_none rfl)) | (focus (exact Qg.wanted_on rfl rfl rfl))); apply Exists.intro; apply Exists.intro; refine ⟨?_, ?_, ?_, ?_⟩; (focus (intro w'; go_simp; (first | rfl | exact ⟨rfl, rfl⟩))); (focus (exact fun u => sl_stb)); (focus (intro w' hw' hp'; obtain ⟨V1, hS1, hV1⟩ := hw'.1; obtain ⟨o1, o2⟩ := lap_open hV1 HK.out HXT.out.2.2.1 HXT.out.2.2.2.1 HXT.out.2.2.2.2 (by have := HXT.out.2.1; have := HI.out; have := H60.out; omega); refine (tr_open hS1.tr (by rw [hV1.cache]; decide) 1 (k : Int) (h) 2).mono ?_; rintro e w8 ⟨b8, hp⟩; rw [o1, o2] at hp; rcases hp with ⟨h, -⟩ | ⟨-, s8, v8, rfl, -, hr8, hb8, -⟩; (focus (cases h)); obtain ⟨A8, c8, rfl, -⟩ := recs_form hr8; exact ⟨_, rfl, b8, ⟨fun h => absurd h (by decide), fun _ => ⟨s8, A8, c8, rfl, hr8.lower (Nat.zero_le _), hb8⟩⟩⟩)); rintro u9 ⟨wv9, -, -, hu9⟩; intro K hK; go_simp; (first | (with_reducible refine hK _ ?_) | (refine hK _ ?_)); clear hK K)
            obtain ⟨s8, A8, c8, rfl, -, -⟩ := hu9.2 rfl
            clear hu9 wv9
            iterate 7 ((first | (with_reducible refine Qw.w_val ⟨fun _ _ _ hF h w' h1 h2 => h w' h1 fun k => hF k _ (h2 k)⟩ ?_ (Qw.wanted_none rfl) ?_) | ((with_reducible refine Qw.w_val ⟨fun _ _ _ hF h w' h1 h2 => h w' h1 fun k => hF k _ (h2 k)⟩ ?_ ?_ ?_); (focus (exact fun _ => trivial)); (focus (exact Qg.wanted_on rfl rfl rfl)))); (try (focus (exact fun _ => trivial))); apply Exists.intro; refine ⟨?_, ?_⟩; (focus (intro w' hw' hp'; skip; go_simp; (first | done | (with_reducible rfl)))); intro K hK; go_simp; (first | (with_reducible refine hK _ ?_) | (refine hK _ ?_)); clear hK K)
            ((with_reducible refine Qw.w_nil ?_); intro w' hw' hf')
            have hf9 : SL k (h) TL XS t 16 #[ptrT t, .agg #[.int .i64 1, .int .i64 (k : Int)], .int .i64 (h), .int .i64 2] (.tuple #[ptrT s8, .slice A8 XS.length c8, .int .i64 0]) w' := hf' 4
            obtain ⟨s9, A9', c9', e9, hr9, hb9⟩ := hf9.2 rfl
            obtain ⟨rfl, rfl, rfl⟩ : s8 = s9 ∧ A8 = A9' ∧ c8 = c9' := by simpa using e9
            rw [HLN.out] at hr9 ⊢
            obtain ⟨V1, hS1, hV1⟩ := hw'.1
            have hsm := hV1.small
            have V10 := V9.out.below hw'.2.2
            have KS := Aside0.mk (same_calls XS XS hsm hsm 0 w.heap.size A8 A9 l l c8 c9 w' hr9 V10 HLN.out HLN.out (by have := HLN.out; have := HXT.out; have := HI.out; have := H60.out; omega) (by have := HLN.out; have := HXT.out; have := HI.out; have := H60.out; omega))
            rw [decide_eq_true (show XS = XS from rfl)] at KS
            have L10 := Aside0.mk hw'.1
            have S10 := Aside0.mk hS1.blk
            have U10 := Aside0.mk hb9
            have RB10 := Aside0.mk hw'.2.1
            have V11 := Aside0.mk V10
            clear hw' hf' hf9 e9 hr9 hb9 hS1 hV1 hsm V10 V9
            go_wp2_with fail
            refine KS.out.mono ?_
            rintro e w11 ⟨rfl, b11⟩
            have S11 := Aside0.mk (S10.out.below b11)
            have KU := Aside0.mk (tail_calls s8 t _ w11 (U10.out.below b11))
            have L11 := Aside0.mk (L10.out.below b11)
            have V12 := Aside0.mk (V11.out.below b11)
            have RB11 := Aside0.mk (RB10.out.below b11)
            clear b11 KS L10 V11 RB10 S10 U10
            go_wp2_with fail
            refine KU.out.mono ?_
            rintro e w12 ⟨rfl, b12⟩
            have KT := Aside0.mk (tail_calls s t _ w12 (S11.out.below b12))
            have L12 := Aside0.mk (L11.out.below b12)
            have V13 := Aside0.mk (V12.out.below b12)
            have RB12 := Aside0.mk (RB11.out.below b12)
            clear b12 KU L11 V12 RB11 S11
            have k0 : (TL != TL) = false := by simp
            have k1 : (TL == TL) = true := by simp
            go_wp2_with fail
            refine KT.out.mono ?_
            rintro e w13 ⟨rfl, b13⟩
            have L13 := Aside0.mk (L12.out.below b13)
            have V14 := Aside0.mk (V13.out.below b13)
            have RB13 := Aside0.mk (RB12.out.below b13)
            have hwi : IntKind.i64.wrap ((i : Int) + 1) = ((i + 1 : Nat) : Int) := by rw [show ((i : Int) + 1) = ((i + 1 : Nat) : Int) by omega]; exact IntWalk.i64_in _ (by have := HI.out; have := H60.out; omega)
            have HWI := Aside0.mk hwi
            clear b13 KT L12 V13 RB12
            have k2 : (lapS k (h) TL).tail = TL := rfl
            go_wp2
            go_roundw
            case rel => exact ⟨i + 1, h, TL, XS, by first | rfl | (rw [HWI.out]) | go_num, ⟨by have := HXT.out; have := HI.out; omega⟩, L13, V14, RB13⟩
            case measure => have := HI.out; simp [intOf, HWI.out]; omega
          · have G6 := Aside0.mk (hf5 _ _ _ hG.out (by decide) (by decide) (by decide) (by decide))
            have RB7 := Aside0.mk (hf5 _ _ _ RB6.out (by decide) (by decide) (by decide) (by decide))
            have KC := Aside0.mk (lap_cut hL5)
            clear hL5 hf5 hrm KA RB6
            go_wp2_with fail
            refine KC.out.mono ?_
            rintro e w6 ⟨rfl, hL6, hf6⟩
            have G7 := Aside0.mk (hf6 _ _ _ G6.out (by decide) (by decide) (by decide) (by decide))
            have RB8 := Aside0.mk (hf6 _ _ _ RB7.out (by decide) (by decide) (by decide) (by decide))
            have KA := Aside0.mk (lap_append hL6 (Below.refl _ _) b j HB.out.1 (by have := HI.out; omega) HB.out.2.1 (by have := HI.out; have := H60.out; omega) we.heap.size ⟨_, G7.out⟩ (HB.out.2.2.2 w6 G7.out))
            clear hL6 hf6 KC G6 RB7
            go_wp2_with fail
            refine KA.out.mono ?_
            rintro e w8 h8
            rcases h8 with ⟨rfl, hrm, hL8, hf8⟩ | ⟨-, hrm, -⟩
            case inr => exfalso; have := HB.out.2.2.1; have := HK.out; omega
            have G6 := Aside0.mk (hf8 _ _ _ G7.out (by decide) (by decide) (by decide) (by decide))
            have V7 := Aside0.mk (Recs.nil w8 w.heap.size)
            have RB7 := Aside0.mk (hf8 _ _ _ RB8.out (by decide) (by decide) (by decide) (by decide))
            have L7 := Aside0.mk hL8
            have HRM := Aside0.mk hrm
            have YL := Aside0.mk (Nat.zero_le xs.length)
            clear hL8 hf8 hrm KA G7 RB8
            have hz6 : w.heap.size ≤ w8.heap.size := L7.out.low.size
            have hxl6 : ([] : List (List Int)).length ≤ 1000000000 := by have := HI.out; have := YL.out; have := H60.out; have : ([] : List (List Int)).length = 0 := rfl; omega
            have ROW := Aside0.mk (G6.out.toRow (B := w.heap.size) SZ2.out (m := j) (c := j) HB.out.1.symm HB.out.1.symm (by have := HI.out; have := HB.out.1; omega))
            have tok1 : True := trivial
            go_wp2_with (at_builtin; have _t := tok1; go_must (refine app_rec (w0 := w8) w.heap.size rfl _ _ rfl (.slice none 0 0) [] ⟨some ⟨we.heap.size, 0, none⟩, j, j⟩ b rfl rfl V7.out ROW.out ((Below.refl _ _).mono hz6) hz6 hxl6 ?_); intro v9 w9 hv9 hb9 hg9; obtain ⟨A9, l, c9, rfl, hl9⟩ := recs_form2 hv9; have HL9 := Aside0.mk hl9; have hba : Below w8.heap.size w8 (w8.alloc (.cells #[.slice (some ⟨we.heap.size, 0, none⟩) j j] TSl)) := (Below.refl _ _).alloc (Nat.le_refl _) _; have V9 := Aside0.mk hv9; have RB9 := Aside0.mk ((RB7.out.below hba).grown hg9 ((V7.out.below hba).ne (RB7.out.below hba) (by decide))); have L9 := Aside0.mk (lap_grown (L7.out.below hba) hg9 (recs_typed (V7.out.below hba))); clear _t tok1 hv9 hb9 hg9 hba hl9)
            obtain ⟨XS, hXS⟩ : ∃ XS, ([] : List (List Int)) ++ [b] = XS := ⟨_, rfl⟩
            rw [hXS] at V9 L9
            obtain ⟨TL, hTL⟩ : ∃ TL, tl + (nPieces b : Int) = TL := ⟨_, rfl⟩
            rw [hTL] at L9
            have HXT := Aside0.mk (show XS.length ≤ i + 1 ∧ TL ≤ 100 * (i + 1) ∧ 0 ≤ tl ∧ tl ≤ TL ∧ TL - tl ≤ k by
              have h1 := HI.out
              have h2 := HB.out.2.2.1
              have h3 := HRM.out
              have h4 := YL.out
              have h5 : ([] : List (List Int)).length = 0 := rfl
              rw [← hXS, ← hTL, List.length_append, List.length_singleton]
              omega)
            have HLN := Aside0.mk (by rw [← hXS]; exact HL9.out.symm : XS.length = l)
            have HST : Qw.Stb (fun w' => LapAt w w' s t k (tl) TL XS ∧ Blk w' rb TRi #[.int .i64 1, .int .i64 (k : Int)] ∧ Below w9.heap.size w9 w') := fun w1 w2 h hb => ⟨h.1.below hb, h.2.1.below hb, h.2.2.trans (hb.mono h.2.2.size)⟩
            have HE0 : LapAt w w9.drew s t k (tl) TL XS ∧ Blk w9.drew rb TRi #[.int .i64 1, .int .i64 (k : Int)] ∧ Below w9.heap.size w9 w9.drew := ⟨L9.out.below (Below.refl _ _).drew, RB9.out.drew, (Below.refl _ _).drew⟩
            clear hXS hTL hz6 hxl6 L9 RB9 L7 RB7 ROW
            refine Qw.wp_region_all (SL k (tl) TL XS t) _ HST (by kernel_rfl) (by kernel_rfl) HE0 ?_
            clear HST HE0
            iterate 3 ((first | (with_reducible refine Qw.w_val ⟨fun _ _ _ hF h w' h1 h2 => h w' h1 fun k => hF k _ (h2 k)⟩ ?_ (Qw.wanted_none rfl) ?_) | ((with_reducible refine Qw.w_val ⟨fun _ _ _ hF h w' h1 h2 => h w' h1 fun k => hF k _ (h2 k)⟩ ?_ ?_ ?_); (focus (exact fun _ => trivial)); (focus (exact Qg.wanted_on rfl rfl rfl)))); (try (focus (exact fun _ => trivial))); apply Exists.intro; refine ⟨?_, ?_⟩; (focus (intro w' hw' hp'; have d0 := hw'.2.1.cell 0; have d1 := hw'.2.1.cell 1; have dl := hw'.2.1.lt; go_simp; (first | done | (with_reducible rfl)))); intro K hK; go_simp; (first | (with_reducible refine hK _ ?_) | (refine hK _ ?_)); clear hK K)
            ((with_reducible refine Qw.w_call ?_ ?_); (first | (focus (exact Qw.wanted_none rfl)) | (focus (exact Qg.wanted_on rfl rfl rfl))); apply Exists.intro; apply Exists.intro; refine ⟨?_, ?_, ?_, ?_⟩; (focus (intro w'; go_simp; (first | rfl | exact ⟨rfl, rfl⟩))); (focus (exact fun u => sl_stb)); (focus (intro w' hw' hp'; obtain ⟨V1, hS1, hV1⟩ := hw'.1; refine (head_calls s t _ w' hS1.blk).mono ?_; rintro e w8 ⟨rfl, b8⟩; exact ⟨_, rfl, b8, ⟨fun _ => rfl, fun h => absurd h (by decide)⟩⟩)); rintro u8 ⟨wv8, -, -, hu8⟩; intro K hK; go_simp; (first | (with_reducible refine hK _ ?_) | (refine hK _ ?_)); clear hK K)
            obtain rfl := hu8.1 rfl
            clear hu8 wv8
            ((with_reducible refine Qw.w_call ?_ ?_); (first | (focus (exact Qw.wanted_none rfl)) | (focus (exact Qg.wanted_on rfl rfl rfl))); apply Exists.intro; apply Exists.intro; refine ⟨?_, ?_, ?_, ?_⟩; (focus (intro w'; go_simp; (first | rfl | exact ⟨rfl, rfl⟩))); (focus (exact fun u => sl_stb)); (focus (intro w' hw' hp'; obtain ⟨V1, hS1, hV1⟩ := hw'.1; obtain ⟨o1, o2⟩ := lap_open hV1 HK.out HXT.out.2.2.1 HXT.out.2.2.2.1 HXT.out.2.2.2.2 (by have := HXT.out.2.1; have := HI.out; have := H60.out; omega); refine (tr_open hS1.tr (by rw [hV1.cache]; decide) 1 (k : Int) (tl) 2).mono ?_; rintro e w8 ⟨b8, hp⟩; rw [o1, o2] at hp; rcases hp with ⟨h, -⟩ | ⟨-, s8, v8, rfl, -, hr8, hb8, -⟩; (focus (cases h)); obtain ⟨A8, c8, rfl, -⟩ := recs_form hr8; exact ⟨_, rfl, b8, ⟨fun h => absurd h (by decide), fun _ => ⟨s8, A8, c8, rfl, hr8.lower (Nat.zero_le _), hb8⟩⟩⟩)); rintro u9 ⟨wv9, -, -, hu9⟩; intro K hK; go_simp; (first | (with_reducible refine hK _ ?_) | (refine hK _ ?_)); clear hK K)
            obtain ⟨s8, A8, c8, rfl, -, -⟩ := hu9.2 rfl
            clear hu9 wv9
            iterate 7 ((first | (with_reducible refine Qw.w_val ⟨fun _ _ _ hF h w' h1 h2 => h w' h1 fun k => hF k _ (h2 k)⟩ ?_ (Qw.wanted_none rfl) ?_) | ((with_reducible refine Qw.w_val ⟨fun _ _ _ hF h w' h1 h2 => h w' h1 fun k => hF k _ (h2 k)⟩ ?_ ?_ ?_); (focus (exact fun _ => trivial)); (focus (exact Qg.wanted_on rfl rfl rfl)))); (try (focus (exact fun _ => trivial))); apply Exists.intro; refine ⟨?_, ?_⟩; (focus (intro w' hw' hp'; skip; go_simp; (first | done | (with_reducible rfl)))); intro K hK; go_simp; (first | (with_reducible refine hK _ ?_) | (refine hK _ ?_)); clear hK K)
            ((with_reducible refine Qw.w_nil ?_); intro w' hw' hf')
            have hf9 : SL k (tl) TL XS t 16 #[ptrT t, .agg #[.int .i64 1, .int .i64 (k : Int)], .int .i64 (tl), .int .i64 2] (.tuple #[ptrT s8, .slice A8 XS.length c8, .int .i64 0]) w' := hf' 4
            obtain ⟨s9, A9', c9', e9, hr9, hb9⟩ := hf9.2 rfl
            obtain ⟨rfl, rfl, rfl⟩ : s8 = s9 ∧ A8 = A9' ∧ c8 = c9' := by simpa using e9
            rw [HLN.out] at hr9 ⊢
            obtain ⟨V1, hS1, hV1⟩ := hw'.1
            have hsm := hV1.small
            have V10 := V9.out.below hw'.2.2
            have KS := Aside0.mk (same_calls XS XS hsm hsm 0 w.heap.size A8 A9 l l c8 c9 w' hr9 V10 HLN.out HLN.out (by have := HLN.out; have := HXT.out; have := HI.out; have := H60.out; omega) (by have := HLN.out; have := HXT.out; have := HI.out; have := H60.out; omega))
            rw [decide_eq_true (show XS = XS from rfl)] at KS
            have L10 := Aside0.mk hw'.1
            have S10 := Aside0.mk hS1.blk
            have U10 := Aside0.mk hb9
            have RB10 := Aside0.mk hw'.2.1
            have V11 := Aside0.mk V10
            clear hw' hf' hf9 e9 hr9 hb9 hS1 hV1 hsm V10 V9
            go_wp2_with fail
            refine KS.out.mono ?_
            rintro e w11 ⟨rfl, b11⟩
            have S11 := Aside0.mk (S10.out.below b11)
            have KU := Aside0.mk (tail_calls s8 t _ w11 (U10.out.below b11))
            have L11 := Aside0.mk (L10.out.below b11)
            have V12 := Aside0.mk (V11.out.below b11)
            have RB11 := Aside0.mk (RB10.out.below b11)
            clear b11 KS L10 V11 RB10 S10 U10
            go_wp2_with fail
            refine KU.out.mono ?_
            rintro e w12 ⟨rfl, b12⟩
            have KT := Aside0.mk (tail_calls s t _ w12 (S11.out.below b12))
            have L12 := Aside0.mk (L11.out.below b12)
            have V13 := Aside0.mk (V12.out.below b12)
            have RB12 := Aside0.mk (RB11.out.below b12)
            clear b12 KU L11 V12 RB11 S11
            have k0 : (TL != TL) = false := by simp
            have k1 : (TL == TL) = true := by simp
            go_wp2_with fail
            refine KT.out.mono ?_
            rintro e w13 ⟨rfl, b13⟩
            have L13 := Aside0.mk (L12.out.below b13)
            have V14 := Aside0.mk (V13.out.below b13)
            have RB13 := Aside0.mk (RB12.out.below b13)
            have hwi : IntKind.i64.wrap ((i : Int) + 1) = ((i + 1 : Nat) : Int) := by rw [show ((i : Int) + 1) = ((i + 1 : Nat) : Int) by omega]; exact IntWalk.i64_in _ (by have := HI.out; have := H60.out; omega)
            have HWI := Aside0.mk hwi
            clear b13 KT L12 V13 RB12
            have k2 : (lapS k (tl) TL).tail = TL := rfl
            go_wp2
            go_roundw
            case rel => exact ⟨i + 1, tl, TL, XS, by first | rfl | (rw [HWI.out]) | go_num, ⟨by have := HXT.out; have := HI.out; omega⟩, L13, V14, RB13⟩
            case measure => have := HI.out; simp [intOf, HWI.out]; omega
    · have t1 : decide ((i : Int) < (n : Int)) = false := decide_eq_false (by omega)
      have t1n : decide (i < n) = false := decide_eq_false hi
      have BE := Aside0.mk hL.out.low
      go_wp2
      go_ret
      exact ⟨rfl, BE.out⟩
end Go.Proofs.Ytddhngalokmdoaa.Spo
