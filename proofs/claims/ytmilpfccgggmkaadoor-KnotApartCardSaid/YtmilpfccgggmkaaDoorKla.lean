/- The law KnotApart: its walk. -/
import Derived.Test.YtmilpfccgggmkaaDoorKaw
import Derived.Test.YtmilpfccgggmkaaDoorKpu
import Derived.Test.YtmilpfccgggmkaaDoorQw
import Derived.Test.YtmilpfccgggmkaaDoorQg
namespace Go.Proofs.YtmilpfccgggmkaaDoor.Knt
open Go.RowKit Go.Proofs.YtmilpfccgggmkaaDoorW.PrintWords Go.Proofs.YtmilpfccgggmkaaDoor.Arr
set_option linter.unusedVariables false
set_option linter.unusedSimpArgs false

/-- Two Knots, and what else was there. -/
structure Two (w0 : World) (B n : Nat) (la : List UInt8) (Sa : List Nat) (lb : List UInt8) (Sb : List Nat) (w : World) : Prop where mk ::
  a : KAt B w n la Sa
  b : KAt B w (n + 1) lb Sb
  old : Below w0.heap.size w0 w
theorem Two.below {w0 : World} {B n : Nat} {la lb : List UInt8} {Sa Sb : List Nat} {w w1 : World} (h : Two w0 B n la Sa lb Sb w) (hb : Below w.heap.size w w1) : Two w0 B n la Sa lb Sb w1 := ⟨h.a.below hb, h.b.below hb, h.old.trans (hb.mono h.old.size)⟩
theorem Two.drew {w0 : World} {B n : Nat} {la lb : List UInt8} {Sa Sb : List Nat} {w : World} (h : Two w0 B n la Sa lb Sb w) : Two w0 B n la Sa lb Sb w.drew := h.below (Below.refl _ _).drew
theorem toList_beq {a b : ByteArray} (h : a ≠ b) : (a.toList == b.toList) = false := by
  refine beq_eq_false_iff_ne.2 fun e => h ?_
  rw [Lib.toList_data, Lib.toList_data] at e
  exact ByteArray.ext (Array.toList_inj.1 e)
set_option maxHeartbeats 16000000 in
set_option maxRecDepth 100000 in
theorem apart_small (s t x y : ByteArray) (hs : s.size ≤ 1000) (ht : t.size ≤ 1000) (hx : x.size ≤ 1000) (hy : y.size ≤ 1000) (w : World) (hP : Pow w) :
    Calls Tryd.prog 3 #[.string s, .string t, .agg #[.string x, .string y]] w fun e w' => e = .returned (.bool true) ∧ Below w.heap.size w w' := by
  have PB := Aside0.mk (Lib.tabBelow_of_tabIs hP : PowB w.heap.size w)
  have PW := Aside0.mk hP
  have l1 := textT_len s (by omega)
  have l2 := textT_len t (by omega)
  have l3 := textT_len x (by omega)
  have l4 := textT_len y (by omega)
  have t1 : decide ((s.size : Int) > 1000) = false := decide_eq_false (by omega)
  have t2 : decide ((t.size : Int) > 1000) = false := decide_eq_false (by omega)
  have t3 : decide ((x.size : Int) > 1000) = false := decide_eq_false (by omega)
  have t4 : decide ((y.size : Int) > 1000) = false := decide_eq_false (by omega)
  obtain ⟨W0, hW0⟩ : ∃ W0, w.alloc (.cells #[.string x, .string y] 22) = W0 := ⟨_, rfl⟩
  have HW0 := Aside0.mk hW0
  have A0 := Aside0.mk (show Blk W0 w.heap.size 22 #[.string x, .string y] by rw [← hW0]; exact Blk.new _ _ _)
  have B0 := Aside0.mk (show Below w.heap.size w W0 by rw [← hW0]; exact (Below.refl w.heap.size w).alloc (Nat.le_refl _) _)
  have TE := Aside0.mk (texts_eq s t x y (by omega) (by omega) (by omega) (by omega))
  clear hP hW0
  go_enter Tryd.func3, Tryd.ntmps3
  go_wp2_with fail
  rw [HW0.out]
  refine (awake_calls W0 (PB.out.on B0.out).here).mono ?_
  rintro e w1 ⟨rfl, b1⟩
  have A1 := Aside0.mk (A0.out.below b1)
  have B1 := Aside0.mk (B0.out.trans (b1.mono B0.out.size))
  have P1 := Aside0.mk (PowB.up (B' := w.heap.size + 1) (PB.out.on B1.out) (by omega))
  have c0 := A1.out.cell 0
  have c1 := A1.out.cell 1
  have hl1 := A1.out.lt
  clear b1 B0 A0 PW PB
  go_wp2_with fail
  refine (new_calls _).mono ?_
  rintro e w2 ⟨rfl, rfl⟩
  go_wp2_with fail
  refine (new_calls _).mono ?_
  rintro e w3 ⟨rfl, rfl⟩
  obtain ⟨n, hn⟩ : ∃ n, w1.heap.size = n := ⟨_, rfl⟩
  go_wp2_with fail
  have ka : KAt (w.heap.size + 1) ((w1.alloc (.cells #[.slice none 0 0] TK)).alloc (.cells #[.slice none 0 0] TK)) n [] [n] := by subst hn; exact (kat_new (w.heap.size + 1) w1 hl1).below ((Below.refl _ _).alloc (Nat.le_refl _) _)
  have kb : KAt (w.heap.size + 1) ((w1.alloc (.cells #[.slice none 0 0] TK)).alloc (.cells #[.slice none 0 0] TK)) (n + 1) [] [n + 1] := by
    have := kat_new (w.heap.size + 1) (w1.alloc (.cells #[.slice none 0 0] TK)) (by simp; omega)
    simpa [hn] using this
  have b3 : Below w1.heap.size w1 ((w1.alloc (.cells #[.slice none 0 0] TK)).alloc (.cells #[.slice none 0 0] TK)) := ((Below.refl w1.heap.size w1).alloc (Nat.le_refl _) _).alloc (by simp) _
  have A3 := Aside0.mk (A1.out.below b3)
  have B3 := Aside0.mk (B1.out.trans (b3.mono B1.out.size))
  have P3 := Aside0.mk (P1.out.on (b3.mono hl1))
  have KA3 := Aside0.mk ka
  have KB3 := Aside0.mk kb
  have hz3 : ((w1.alloc (.cells #[.slice none 0 0] TK)).alloc (.cells #[.slice none 0 0] TK)).heap.size = n + 2 := by simp [hn]
  clear ka kb b3 c0 c1 A1 B1 P1 HW0
  generalize (w1.alloc (.cells #[.slice none 0 0] TK)).alloc (.cells #[.slice none 0 0] TK) = W3 at *
  rw [hn] at hl1
  clear hn
  have c0 := A3.out.cell 0
  have c1 := A3.out.cell 1
  have hl3 := A3.out.lt
  refine (text_calls (w.heap.size + 1) n [] [n] s (by omega) (by simp; omega) W3 KA3.out P3.out).mono ?_
  rintro e w4 ⟨rfl, hp⟩
  obtain ⟨Sa, ka, kb, ho, d1, d2⟩ := hp.beside KB3.out (by simp)
  have b4 := KA3.out.belowB ho
  have KA4 := Aside0.mk ka
  have KB4 := Aside0.mk kb
  have A4 := Aside0.mk (A3.out.below' b4 (by omega))
  have P4 := Aside0.mk (P3.out.on b4)
  have B4 := Aside0.mk (B3.out.trans (b4.mono (by omega)))
  have D4 := Aside0.mk d1
  have D4' := Aside0.mk d2
  clear ka kb ho d1 d2 hp b4 c0 c1 hl3 KA3 KB3 P3 A3 B3
  have c0 := A4.out.cell 0
  have c1 := A4.out.cell 1
  have hl3 := A4.out.lt
  go_wp2_with fail
  refine (text_calls (w.heap.size + 1) (n + 1) [] [n + 1] t (by omega) (by simp; omega) w4 KB4.out P4.out).mono ?_
  rintro e w5 ⟨rfl, hp⟩
  obtain ⟨Sb, kb, ka, ho, d1, d2⟩ := hp.beside KA4.out D4'.out
  have b5 := KB4.out.belowB ho
  have KA5 := Aside0.mk ka
  have KB5 := Aside0.mk kb
  have A5 := Aside0.mk (A4.out.below' b5 (by omega))
  have P5 := Aside0.mk (P4.out.on b5)
  have B5 := Aside0.mk (B4.out.trans (b5.mono (by omega)))
  have D5 := Aside0.mk d1
  have D5' := Aside0.mk d2
  clear ka kb ho d1 d2 hp b5 c0 c1 hl3 KA4 KB4 P4 A4 B4 D4 D4'
  have c0 := A5.out.cell 0
  have c1 := A5.out.cell 1
  have hl3 := A5.out.lt
  go_wp2_with fail
  refine (text_calls (w.heap.size + 1) n ([] ++ textT s) Sa x (by omega) (by simp; omega) w5 KA5.out P5.out).mono ?_
  rintro e w6 ⟨rfl, hp⟩
  obtain ⟨Sa', ka, kb, ho, d1, d2⟩ := hp.beside KB5.out D5'.out
  have b6 := KA5.out.belowB ho
  have KA6 := Aside0.mk ka
  have KB6 := Aside0.mk kb
  have A6 := Aside0.mk (A5.out.below' b6 (by omega))
  have P6 := Aside0.mk (P5.out.on b6)
  have B6 := Aside0.mk (B5.out.trans (b6.mono (by omega)))
  have D6 := Aside0.mk d1
  have D6' := Aside0.mk d2
  clear ka kb ho d1 d2 hp b6 c0 c1 hl3 KA5 KB5 P5 A5 B5 D5 D5'
  have c0 := A6.out.cell 0
  have c1 := A6.out.cell 1
  have hl3 := A6.out.lt
  go_wp2_with fail
  refine (text_calls (w.heap.size + 1) (n + 1) ([] ++ textT t) Sb y (by omega) (by simp; omega) w6 KB6.out P6.out).mono ?_
  rintro e w7 ⟨rfl, hp⟩
  obtain ⟨Sb', kb, ka, ho, d1, d2⟩ := hp.beside KA6.out D6'.out
  have b7 := KB6.out.belowB ho
  have KA7 := Aside0.mk ka
  have KB7 := Aside0.mk kb
  have A7 := Aside0.mk (A6.out.below' b7 (by omega))
  have B7 := Aside0.mk (B6.out.trans (b7.mono (by omega)))
  clear ka kb ho d1 d2 hp b7 c0 c1 hl3 KA6 KB6 P6 A6 B6 D6 D6'
  have c0 := A7.out.cell 0
  have c1 := A7.out.cell 1
  have hl3 := A7.out.lt
  go_wp2_with fail
  have TW := Two.mk KA7.out KB7.out B7.out
  have hla : ([] ++ textT s ++ textT x).length ≤ 140737488355328 := by simp; omega
  have hlb : ([] ++ textT t ++ textT y).length ≤ 140737488355328 := by simp; omega
  have HE := TE.out
  have ea : [] ++ textT s ++ textT x = textT s ++ textT x := rfl
  have eb : [] ++ textT t ++ textT y = textT t ++ textT y := rfl
  rw [ea] at TW hla
  rw [eb] at TW hlb
  clear KA7 KB7 B7 TE ea eb c0 c1
  generalize textT s ++ textT x = la at *
  generalize textT t ++ textT y = lb at *
  have key : (s = t ∧ x = y ∧ la = lb) ∨ (s = t ∧ (x.toList == y.toList) = false ∧ ((str la).toList == (str lb).toList) = false) ∨ ((s.toList == t.toList) = false ∧ ((str la).toList == (str lb).toList) = false) := by
    by_cases h1 : s = t
    · by_cases h2 : x = y
      · exact .inl ⟨h1, h2, HE.2 ⟨h1, h2⟩⟩
      · exact .inr (.inl ⟨h1, toList_beq h2, toList_beq (fun e => h2 (HE.1 (str_inj e)).2)⟩)
    · exact .inr (.inr ⟨toList_beq h1, toList_beq (fun e => h1 (HE.1 (str_inj e)).1)⟩)
  clear HE
  rcases key with ⟨rfl, rfl, rfl⟩ | ⟨rfl, q1, q2⟩ | ⟨q1, q2⟩
  · have HST : Qw.Stb (fun w' => Two w (w.heap.size + 1) n la Sa' la Sb' w' ∧ Blk w' w.heap.size 22 #[.string x, .string x]) := fun w1 w2 h hb => ⟨h.1.below hb, h.2.below hb⟩
    have HE0 : Two w (w.heap.size + 1) n la Sa' la Sb' w7.drew ∧ Blk w7.drew w.heap.size 22 #[.string x, .string x] := ⟨TW.drew, A7.out.drew⟩
    refine Qw.wp_region_all (fun f args u w' => (args = #[.pointer (some ⟨n, 0, none⟩)] → Own 0 w' u la) ∧ (args = #[.pointer (some ⟨n + 1, 0, none⟩)] → Own 0 w' u la)) _ HST (by kernel_rfl) (by kernel_rfl) HE0 ?_
    clear HST HE0
    ((first | (with_reducible refine Qw.w_val ⟨fun _ _ _ hF h w' h1 h2 => h w' h1 fun k => hF k _ (h2 k)⟩ ?_ (Qw.wanted_none rfl) ?_) | ((with_reducible refine Qw.w_val ⟨fun _ _ _ hF h w' h1 h2 => h w' h1 fun k => hF k _ (h2 k)⟩ ?_ ?_ ?_); (focus (exact fun _ => trivial)); (focus (exact Qg.wanted_on rfl rfl rfl)))); (try (focus (exact fun _ => trivial))); apply Exists.intro; refine ⟨?_, ?_⟩; (focus (intro w' hw' hp'; skip; go_simp; (first | done | (with_reducible rfl)))); intro K hK; go_simp; refine hK _ ?_; clear hK K)
    ((with_reducible refine Qw.w_call ?_ ?_); (first | (focus (exact Qw.wanted_none rfl)) | (focus (exact Qg.wanted_on rfl rfl rfl))); apply Exists.intro; apply Exists.intro; refine ⟨?_, ?_, ?_, ?_⟩; (focus (intro w'; go_simp; (first | rfl | exact ⟨rfl, rfl⟩))); (focus (exact fun u w1 w2 h hb => ⟨fun e => (h.1 e).below hb, fun e => (h.2 e).below hb⟩)); (focus (intro w' hw' hp'; refine (bytes_calls (w.heap.size + 1) n la Sa' hla w' hw'.1.a).mono ?_; rintro e w8 ⟨v8, rfl, ow8, b8⟩; exact ⟨v8, rfl, b8, fun _ => ow8.lower (Nat.zero_le _), fun h => absurd h (by simp)⟩)); rintro v8 -; intro K hK; go_simp; refine hK _ ?_; clear hK K)
    ((first | (with_reducible refine Qw.w_val ⟨fun _ _ _ hF h w' h1 h2 => h w' h1 fun k => hF k _ (h2 k)⟩ ?_ (Qw.wanted_none rfl) ?_) | ((with_reducible refine Qw.w_val ⟨fun _ _ _ hF h w' h1 h2 => h w' h1 fun k => hF k _ (h2 k)⟩ ?_ ?_ ?_); (focus (exact fun _ => trivial)); (focus (exact Qg.wanted_on rfl rfl rfl)))); (try (focus (exact fun _ => trivial))); apply Exists.intro; refine ⟨?_, ?_⟩; (focus (intro w' hw' hp'; have q : ((#[Value.pointer (some ⟨n, 0, none⟩)] : Array Value) = #[.pointer (some ⟨n, 0, none⟩)] → Own 0 w' v8 la) ∧ _ := Qw.fact hp' 1 rfl; have cv := (q.1 rfl).string; clear q; go_simp; (first | done | (with_reducible rfl)))); intro K hK; go_simp; refine hK _ ?_; clear hK K)
    ((first | (with_reducible refine Qw.w_val ⟨fun _ _ _ hF h w' h1 h2 => h w' h1 fun k => hF k _ (h2 k)⟩ ?_ (Qw.wanted_none rfl) ?_) | ((with_reducible refine Qw.w_val ⟨fun _ _ _ hF h w' h1 h2 => h w' h1 fun k => hF k _ (h2 k)⟩ ?_ ?_ ?_); (focus (exact fun _ => trivial)); (focus (exact Qg.wanted_on rfl rfl rfl)))); (try (focus (exact fun _ => trivial))); apply Exists.intro; refine ⟨?_, ?_⟩; (focus (intro w' hw' hp'; skip; go_simp; (first | done | (with_reducible rfl)))); intro K hK; go_simp; refine hK _ ?_; clear hK K)
    ((with_reducible refine Qw.w_call ?_ ?_); (first | (focus (exact Qw.wanted_none rfl)) | (focus (exact Qg.wanted_on rfl rfl rfl))); apply Exists.intro; apply Exists.intro; refine ⟨?_, ?_, ?_, ?_⟩; (focus (intro w'; go_simp; (first | rfl | exact ⟨rfl, rfl⟩))); (focus (exact fun u w1 w2 h hb => ⟨fun e => (h.1 e).below hb, fun e => (h.2 e).below hb⟩)); (focus (intro w' hw' hp'; refine (bytes_calls (w.heap.size + 1) (n + 1) la Sb' hlb w' hw'.1.b).mono ?_; rintro e w8 ⟨v8, rfl, ow8, b8⟩; exact ⟨v8, rfl, b8, fun h => absurd h (by simp), fun _ => ow8.lower (Nat.zero_le _)⟩)); rintro v9 -; intro K hK; go_simp; refine hK _ ?_; clear hK K)
    ((first | (with_reducible refine Qw.w_val ⟨fun _ _ _ hF h w' h1 h2 => h w' h1 fun k => hF k _ (h2 k)⟩ ?_ (Qw.wanted_none rfl) ?_) | ((with_reducible refine Qw.w_val ⟨fun _ _ _ hF h w' h1 h2 => h w' h1 fun k => hF k _ (h2 k)⟩ ?_ ?_ ?_); (focus (exact fun _ => trivial)); (focus (exact Qg.wanted_on rfl rfl rfl)))); (try (focus (exact fun _ => trivial))); apply Exists.intro; refine ⟨?_, ?_⟩; (focus (intro w' hw' hp'; have q : _ ∧ ((#[Value.pointer (some ⟨n + 1, 0, none⟩)] : Array Value) = #[.pointer (some ⟨n + 1, 0, none⟩)] → Own 0 w' v9 la) := Qw.fact hp' 4 rfl; have cv := (q.2 rfl).string; clear q; go_simp; (first | done | (with_reducible rfl)))); intro K hK; go_simp; refine hK _ ?_; clear hK K)
    iterate 5 ((first | (with_reducible refine Qw.w_val ⟨fun _ _ _ hF h w' h1 h2 => h w' h1 fun k => hF k _ (h2 k)⟩ ?_ (Qw.wanted_none rfl) ?_) | ((with_reducible refine Qw.w_val ⟨fun _ _ _ hF h w' h1 h2 => h w' h1 fun k => hF k _ (h2 k)⟩ ?_ ?_ ?_); (focus (exact fun _ => trivial)); (focus (exact Qg.wanted_on rfl rfl rfl)))); (try (focus (exact fun _ => trivial))); apply Exists.intro; refine ⟨?_, ?_⟩; (focus (intro w' hw' hp'; skip; go_simp; (first | done | (with_reducible rfl)))); intro K hK; go_simp; refine hK _ ?_; clear hK K)
    iterate 5 (first | ((with_reducible refine Qw.w_skip ⟨fun _ _ _ hF h w' h1 h2 => h w' h1 fun k => hF k _ (h2 k)⟩ ?_ ?_ ?_); (focus (exact fun _ => trivial)); (first | (focus (exact Qg.wanted_off rfl rfl rfl)) | (focus (exact Qg.wanted_never rfl rfl rfl))); intro K hK; go_simp; refine hK _ ?_; clear hK K) | ((first | (with_reducible refine Qw.w_val ⟨fun _ _ _ hF h w' h1 h2 => h w' h1 fun k => hF k _ (h2 k)⟩ ?_ (Qw.wanted_none rfl) ?_) | ((with_reducible refine Qw.w_val ⟨fun _ _ _ hF h w' h1 h2 => h w' h1 fun k => hF k _ (h2 k)⟩ ?_ ?_ ?_); (focus (exact fun _ => trivial)); (focus (exact Qg.wanted_on rfl rfl rfl)))); (try (focus (exact fun _ => trivial))); apply Exists.intro; refine ⟨?_, ?_⟩; (focus (intro w' hw' hp'; have c0 := hw'.2.cell 0; have c1 := hw'.2.cell 1; go_simp; (first | done | (with_reducible rfl)))); intro K hK; go_simp; refine hK _ ?_; clear hK K))
    iterate 3 ((first | (with_reducible refine Qw.w_val ⟨fun _ _ _ hF h w' h1 h2 => h w' h1 fun k => hF k _ (h2 k)⟩ ?_ (Qw.wanted_none rfl) ?_) | ((with_reducible refine Qw.w_val ⟨fun _ _ _ hF h w' h1 h2 => h w' h1 fun k => hF k _ (h2 k)⟩ ?_ ?_ ?_); (focus (exact fun _ => trivial)); (focus (exact Qg.wanted_on rfl rfl rfl)))); (try (focus (exact fun _ => trivial))); apply Exists.intro; refine ⟨?_, ?_⟩; (focus (intro w' hw' hp'; skip; go_simp; (first | done | (with_reducible rfl)))); intro K hK; go_simp; refine hK _ ?_; clear hK K)
    ((with_reducible refine Qw.w_nil ?_); intro w' hw' hf')
    have HE := hw'.1.old
    go_wp2
    go_ret
    exact ⟨rfl, HE⟩
  · have HST : Qw.Stb (fun w' => Two w (w.heap.size + 1) n la Sa' lb Sb' w' ∧ Blk w' w.heap.size 22 #[.string x, .string y]) := fun w1 w2 h hb => ⟨h.1.below hb, h.2.below hb⟩
    have HE0 : Two w (w.heap.size + 1) n la Sa' lb Sb' w7.drew ∧ Blk w7.drew w.heap.size 22 #[.string x, .string y] := ⟨TW.drew, A7.out.drew⟩
    refine Qw.wp_region_all (fun f args u w' => (args = #[.pointer (some ⟨n, 0, none⟩)] → Own 0 w' u la) ∧ (args = #[.pointer (some ⟨n + 1, 0, none⟩)] → Own 0 w' u lb)) _ HST (by kernel_rfl) (by kernel_rfl) HE0 ?_
    clear HST HE0
    ((first | (with_reducible refine Qw.w_val ⟨fun _ _ _ hF h w' h1 h2 => h w' h1 fun k => hF k _ (h2 k)⟩ ?_ (Qw.wanted_none rfl) ?_) | ((with_reducible refine Qw.w_val ⟨fun _ _ _ hF h w' h1 h2 => h w' h1 fun k => hF k _ (h2 k)⟩ ?_ ?_ ?_); (focus (exact fun _ => trivial)); (focus (exact Qg.wanted_on rfl rfl rfl)))); (try (focus (exact fun _ => trivial))); apply Exists.intro; refine ⟨?_, ?_⟩; (focus (intro w' hw' hp'; skip; go_simp; (first | done | (with_reducible rfl)))); intro K hK; go_simp; refine hK _ ?_; clear hK K)
    ((with_reducible refine Qw.w_call ?_ ?_); (first | (focus (exact Qw.wanted_none rfl)) | (focus (exact Qg.wanted_on rfl rfl rfl))); apply Exists.intro; apply Exists.intro; refine ⟨?_, ?_, ?_, ?_⟩; (focus (intro w'; go_simp; (first | rfl | exact ⟨rfl, rfl⟩))); (focus (exact fun u w1 w2 h hb => ⟨fun e => (h.1 e).below hb, fun e => (h.2 e).below hb⟩)); (focus (intro w' hw' hp'; refine (bytes_calls (w.heap.size + 1) n la Sa' hla w' hw'.1.a).mono ?_; rintro e w8 ⟨v8, rfl, ow8, b8⟩; exact ⟨v8, rfl, b8, fun _ => ow8.lower (Nat.zero_le _), fun h => absurd h (by simp)⟩)); rintro v8 -; intro K hK; go_simp; refine hK _ ?_; clear hK K)
    ((first | (with_reducible refine Qw.w_val ⟨fun _ _ _ hF h w' h1 h2 => h w' h1 fun k => hF k _ (h2 k)⟩ ?_ (Qw.wanted_none rfl) ?_) | ((with_reducible refine Qw.w_val ⟨fun _ _ _ hF h w' h1 h2 => h w' h1 fun k => hF k _ (h2 k)⟩ ?_ ?_ ?_); (focus (exact fun _ => trivial)); (focus (exact Qg.wanted_on rfl rfl rfl)))); (try (focus (exact fun _ => trivial))); apply Exists.intro; refine ⟨?_, ?_⟩; (focus (intro w' hw' hp'; have q : ((#[Value.pointer (some ⟨n, 0, none⟩)] : Array Value) = #[.pointer (some ⟨n, 0, none⟩)] → Own 0 w' v8 la) ∧ _ := Qw.fact hp' 1 rfl; have cv := (q.1 rfl).string; clear q; go_simp; (first | done | (with_reducible rfl)))); intro K hK; go_simp; refine hK _ ?_; clear hK K)
    ((first | (with_reducible refine Qw.w_val ⟨fun _ _ _ hF h w' h1 h2 => h w' h1 fun k => hF k _ (h2 k)⟩ ?_ (Qw.wanted_none rfl) ?_) | ((with_reducible refine Qw.w_val ⟨fun _ _ _ hF h w' h1 h2 => h w' h1 fun k => hF k _ (h2 k)⟩ ?_ ?_ ?_); (focus (exact fun _ => trivial)); (focus (exact Qg.wanted_on rfl rfl rfl)))); (try (focus (exact fun _ => trivial))); apply Exists.intro; refine ⟨?_, ?_⟩; (focus (intro w' hw' hp'; skip; go_simp; (first | done | (with_reducible rfl)))); intro K hK; go_simp; refine hK _ ?_; clear hK K)
    ((with_reducible refine Qw.w_call ?_ ?_); (first | (focus (exact Qw.wanted_none rfl)) | (focus (exact Qg.wanted_on rfl rfl rfl))); apply Exists.intro; apply Exists.intro; refine ⟨?_, ?_, ?_, ?_⟩; (focus (intro w'; go_simp; (first | rfl | exact ⟨rfl, rfl⟩))); (focus (exact fun u w1 w2 h hb => ⟨fun e => (h.1 e).below hb, fun e => (h.2 e).below hb⟩)); (focus (intro w' hw' hp'; refine (bytes_calls (w.heap.size + 1) (n + 1) lb Sb' hlb w' hw'.1.b).mono ?_; rintro e w8 ⟨v8, rfl, ow8, b8⟩; exact ⟨v8, rfl, b8, fun h => absurd h (by simp), fun _ => ow8.lower (Nat.zero_le _)⟩)); rintro v9 -; intro K hK; go_simp; refine hK _ ?_; clear hK K)
    ((first | (with_reducible refine Qw.w_val ⟨fun _ _ _ hF h w' h1 h2 => h w' h1 fun k => hF k _ (h2 k)⟩ ?_ (Qw.wanted_none rfl) ?_) | ((with_reducible refine Qw.w_val ⟨fun _ _ _ hF h w' h1 h2 => h w' h1 fun k => hF k _ (h2 k)⟩ ?_ ?_ ?_); (focus (exact fun _ => trivial)); (focus (exact Qg.wanted_on rfl rfl rfl)))); (try (focus (exact fun _ => trivial))); apply Exists.intro; refine ⟨?_, ?_⟩; (focus (intro w' hw' hp'; have q : _ ∧ ((#[Value.pointer (some ⟨n + 1, 0, none⟩)] : Array Value) = #[.pointer (some ⟨n + 1, 0, none⟩)] → Own 0 w' v9 lb) := Qw.fact hp' 4 rfl; have cv := (q.2 rfl).string; clear q; go_simp; (first | done | (with_reducible rfl)))); intro K hK; go_simp; refine hK _ ?_; clear hK K)
    iterate 5 ((first | (with_reducible refine Qw.w_val ⟨fun _ _ _ hF h w' h1 h2 => h w' h1 fun k => hF k _ (h2 k)⟩ ?_ (Qw.wanted_none rfl) ?_) | ((with_reducible refine Qw.w_val ⟨fun _ _ _ hF h w' h1 h2 => h w' h1 fun k => hF k _ (h2 k)⟩ ?_ ?_ ?_); (focus (exact fun _ => trivial)); (focus (exact Qg.wanted_on rfl rfl rfl)))); (try (focus (exact fun _ => trivial))); apply Exists.intro; refine ⟨?_, ?_⟩; (focus (intro w' hw' hp'; skip; go_simp; (first | done | (with_reducible rfl)))); intro K hK; go_simp; refine hK _ ?_; clear hK K)
    iterate 5 (first | ((with_reducible refine Qw.w_skip ⟨fun _ _ _ hF h w' h1 h2 => h w' h1 fun k => hF k _ (h2 k)⟩ ?_ ?_ ?_); (focus (exact fun _ => trivial)); (first | (focus (exact Qg.wanted_off rfl rfl rfl)) | (focus (exact Qg.wanted_never rfl rfl rfl))); intro K hK; go_simp; refine hK _ ?_; clear hK K) | ((first | (with_reducible refine Qw.w_val ⟨fun _ _ _ hF h w' h1 h2 => h w' h1 fun k => hF k _ (h2 k)⟩ ?_ (Qw.wanted_none rfl) ?_) | ((with_reducible refine Qw.w_val ⟨fun _ _ _ hF h w' h1 h2 => h w' h1 fun k => hF k _ (h2 k)⟩ ?_ ?_ ?_); (focus (exact fun _ => trivial)); (focus (exact Qg.wanted_on rfl rfl rfl)))); (try (focus (exact fun _ => trivial))); apply Exists.intro; refine ⟨?_, ?_⟩; (focus (intro w' hw' hp'; have c0 := hw'.2.cell 0; have c1 := hw'.2.cell 1; go_simp; (first | done | (with_reducible rfl)))); intro K hK; go_simp; refine hK _ ?_; clear hK K))
    iterate 3 ((first | (with_reducible refine Qw.w_val ⟨fun _ _ _ hF h w' h1 h2 => h w' h1 fun k => hF k _ (h2 k)⟩ ?_ (Qw.wanted_none rfl) ?_) | ((with_reducible refine Qw.w_val ⟨fun _ _ _ hF h w' h1 h2 => h w' h1 fun k => hF k _ (h2 k)⟩ ?_ ?_ ?_); (focus (exact fun _ => trivial)); (focus (exact Qg.wanted_on rfl rfl rfl)))); (try (focus (exact fun _ => trivial))); apply Exists.intro; refine ⟨?_, ?_⟩; (focus (intro w' hw' hp'; skip; go_simp; (first | done | (with_reducible rfl)))); intro K hK; go_simp; refine hK _ ?_; clear hK K)
    ((with_reducible refine Qw.w_nil ?_); intro w' hw' hf')
    have HE := hw'.1.old
    go_wp2
    go_ret
    exact ⟨rfl, HE⟩
  · have HST : Qw.Stb (fun w' => Two w (w.heap.size + 1) n la Sa' lb Sb' w' ∧ Blk w' w.heap.size 22 #[.string x, .string y]) := fun w1 w2 h hb => ⟨h.1.below hb, h.2.below hb⟩
    have HE0 : Two w (w.heap.size + 1) n la Sa' lb Sb' w7.drew ∧ Blk w7.drew w.heap.size 22 #[.string x, .string y] := ⟨TW.drew, A7.out.drew⟩
    refine Qw.wp_region_all (fun f args u w' => (args = #[.pointer (some ⟨n, 0, none⟩)] → Own 0 w' u la) ∧ (args = #[.pointer (some ⟨n + 1, 0, none⟩)] → Own 0 w' u lb)) _ HST (by kernel_rfl) (by kernel_rfl) HE0 ?_
    clear HST HE0
    ((first | (with_reducible refine Qw.w_val ⟨fun _ _ _ hF h w' h1 h2 => h w' h1 fun k => hF k _ (h2 k)⟩ ?_ (Qw.wanted_none rfl) ?_) | ((with_reducible refine Qw.w_val ⟨fun _ _ _ hF h w' h1 h2 => h w' h1 fun k => hF k _ (h2 k)⟩ ?_ ?_ ?_); (focus (exact fun _ => trivial)); (focus (exact Qg.wanted_on rfl rfl rfl)))); (try (focus (exact fun _ => trivial))); apply Exists.intro; refine ⟨?_, ?_⟩; (focus (intro w' hw' hp'; skip; go_simp; (first | done | (with_reducible rfl)))); intro K hK; go_simp; refine hK _ ?_; clear hK K)
    ((with_reducible refine Qw.w_call ?_ ?_); (first | (focus (exact Qw.wanted_none rfl)) | (focus (exact Qg.wanted_on rfl rfl rfl))); apply Exists.intro; apply Exists.intro; refine ⟨?_, ?_, ?_, ?_⟩; (focus (intro w'; go_simp; (first | rfl | exact ⟨rfl, rfl⟩))); (focus (exact fun u w1 w2 h hb => ⟨fun e => (h.1 e).below hb, fun e => (h.2 e).below hb⟩)); (focus (intro w' hw' hp'; refine (bytes_calls (w.heap.size + 1) n la Sa' hla w' hw'.1.a).mono ?_; rintro e w8 ⟨v8, rfl, ow8, b8⟩; exact ⟨v8, rfl, b8, fun _ => ow8.lower (Nat.zero_le _), fun h => absurd h (by simp)⟩)); rintro v8 -; intro K hK; go_simp; refine hK _ ?_; clear hK K)
    ((first | (with_reducible refine Qw.w_val ⟨fun _ _ _ hF h w' h1 h2 => h w' h1 fun k => hF k _ (h2 k)⟩ ?_ (Qw.wanted_none rfl) ?_) | ((with_reducible refine Qw.w_val ⟨fun _ _ _ hF h w' h1 h2 => h w' h1 fun k => hF k _ (h2 k)⟩ ?_ ?_ ?_); (focus (exact fun _ => trivial)); (focus (exact Qg.wanted_on rfl rfl rfl)))); (try (focus (exact fun _ => trivial))); apply Exists.intro; refine ⟨?_, ?_⟩; (focus (intro w' hw' hp'; have q : ((#[Value.pointer (some ⟨n, 0, none⟩)] : Array Value) = #[.pointer (some ⟨n, 0, none⟩)] → Own 0 w' v8 la) ∧ _ := Qw.fact hp' 1 rfl; have cv := (q.1 rfl).string; clear q; go_simp; (first | done | (with_reducible rfl)))); intro K hK; go_simp; refine hK _ ?_; clear hK K)
    ((first | (with_reducible refine Qw.w_val ⟨fun _ _ _ hF h w' h1 h2 => h w' h1 fun k => hF k _ (h2 k)⟩ ?_ (Qw.wanted_none rfl) ?_) | ((with_reducible refine Qw.w_val ⟨fun _ _ _ hF h w' h1 h2 => h w' h1 fun k => hF k _ (h2 k)⟩ ?_ ?_ ?_); (focus (exact fun _ => trivial)); (focus (exact Qg.wanted_on rfl rfl rfl)))); (try (focus (exact fun _ => trivial))); apply Exists.intro; refine ⟨?_, ?_⟩; (focus (intro w' hw' hp'; skip; go_simp; (first | done | (with_reducible rfl)))); intro K hK; go_simp; refine hK _ ?_; clear hK K)
    ((with_reducible refine Qw.w_call ?_ ?_); (first | (focus (exact Qw.wanted_none rfl)) | (focus (exact Qg.wanted_on rfl rfl rfl))); apply Exists.intro; apply Exists.intro; refine ⟨?_, ?_, ?_, ?_⟩; (focus (intro w'; go_simp; (first | rfl | exact ⟨rfl, rfl⟩))); (focus (exact fun u w1 w2 h hb => ⟨fun e => (h.1 e).below hb, fun e => (h.2 e).below hb⟩)); (focus (intro w' hw' hp'; refine (bytes_calls (w.heap.size + 1) (n + 1) lb Sb' hlb w' hw'.1.b).mono ?_; rintro e w8 ⟨v8, rfl, ow8, b8⟩; exact ⟨v8, rfl, b8, fun h => absurd h (by simp), fun _ => ow8.lower (Nat.zero_le _)⟩)); rintro v9 -; intro K hK; go_simp; refine hK _ ?_; clear hK K)
    ((first | (with_reducible refine Qw.w_val ⟨fun _ _ _ hF h w' h1 h2 => h w' h1 fun k => hF k _ (h2 k)⟩ ?_ (Qw.wanted_none rfl) ?_) | ((with_reducible refine Qw.w_val ⟨fun _ _ _ hF h w' h1 h2 => h w' h1 fun k => hF k _ (h2 k)⟩ ?_ ?_ ?_); (focus (exact fun _ => trivial)); (focus (exact Qg.wanted_on rfl rfl rfl)))); (try (focus (exact fun _ => trivial))); apply Exists.intro; refine ⟨?_, ?_⟩; (focus (intro w' hw' hp'; have q : _ ∧ ((#[Value.pointer (some ⟨n + 1, 0, none⟩)] : Array Value) = #[.pointer (some ⟨n + 1, 0, none⟩)] → Own 0 w' v9 lb) := Qw.fact hp' 4 rfl; have cv := (q.2 rfl).string; clear q; go_simp; (first | done | (with_reducible rfl)))); intro K hK; go_simp; refine hK _ ?_; clear hK K)
    iterate 5 ((first | (with_reducible refine Qw.w_val ⟨fun _ _ _ hF h w' h1 h2 => h w' h1 fun k => hF k _ (h2 k)⟩ ?_ (Qw.wanted_none rfl) ?_) | ((with_reducible refine Qw.w_val ⟨fun _ _ _ hF h w' h1 h2 => h w' h1 fun k => hF k _ (h2 k)⟩ ?_ ?_ ?_); (focus (exact fun _ => trivial)); (focus (exact Qg.wanted_on rfl rfl rfl)))); (try (focus (exact fun _ => trivial))); apply Exists.intro; refine ⟨?_, ?_⟩; (focus (intro w' hw' hp'; skip; go_simp; (first | done | (with_reducible rfl)))); intro K hK; go_simp; refine hK _ ?_; clear hK K)
    iterate 5 (first | ((with_reducible refine Qw.w_skip ⟨fun _ _ _ hF h w' h1 h2 => h w' h1 fun k => hF k _ (h2 k)⟩ ?_ ?_ ?_); (focus (exact fun _ => trivial)); (first | (focus (exact Qg.wanted_off rfl rfl rfl)) | (focus (exact Qg.wanted_never rfl rfl rfl))); intro K hK; go_simp; refine hK _ ?_; clear hK K) | ((first | (with_reducible refine Qw.w_val ⟨fun _ _ _ hF h w' h1 h2 => h w' h1 fun k => hF k _ (h2 k)⟩ ?_ (Qw.wanted_none rfl) ?_) | ((with_reducible refine Qw.w_val ⟨fun _ _ _ hF h w' h1 h2 => h w' h1 fun k => hF k _ (h2 k)⟩ ?_ ?_ ?_); (focus (exact fun _ => trivial)); (focus (exact Qg.wanted_on rfl rfl rfl)))); (try (focus (exact fun _ => trivial))); apply Exists.intro; refine ⟨?_, ?_⟩; (focus (intro w' hw' hp'; have c0 := hw'.2.cell 0; have c1 := hw'.2.cell 1; go_simp; (first | done | (with_reducible rfl)))); intro K hK; go_simp; refine hK _ ?_; clear hK K))
    iterate 3 ((first | (with_reducible refine Qw.w_val ⟨fun _ _ _ hF h w' h1 h2 => h w' h1 fun k => hF k _ (h2 k)⟩ ?_ (Qw.wanted_none rfl) ?_) | ((with_reducible refine Qw.w_val ⟨fun _ _ _ hF h w' h1 h2 => h w' h1 fun k => hF k _ (h2 k)⟩ ?_ ?_ ?_); (focus (exact fun _ => trivial)); (focus (exact Qg.wanted_on rfl rfl rfl)))); (try (focus (exact fun _ => trivial))); apply Exists.intro; refine ⟨?_, ?_⟩; (focus (intro w' hw' hp'; skip; go_simp; (first | done | (with_reducible rfl)))); intro K hK; go_simp; refine hK _ ?_; clear hK K)
    ((with_reducible refine Qw.w_nil ?_); intro w' hw' hf')
    have HE := hw'.1.old
    go_wp2
    go_ret
    exact ⟨rfl, HE⟩

set_option maxHeartbeats 8000000 in
set_option maxRecDepth 100000 in
theorem lawApart_calls (s t x y : ByteArray) (w : World) (hP : Pow w) :
    Calls Tryd.prog 3 #[.string s, .string t, .agg #[.string x, .string y]] w fun e w' => e = .returned (.bool true) ∧ Below w.heap.size w w' := by
  have big : (decide ((s.size : Int) > 1000) = true) ∨ (decide ((s.size : Int) > 1000) = false ∧ decide ((t.size : Int) > 1000) = true) ∨ (decide ((s.size : Int) > 1000) = false ∧ decide ((t.size : Int) > 1000) = false ∧ decide ((x.size : Int) > 1000) = true) ∨
      (decide ((s.size : Int) > 1000) = false ∧ decide ((t.size : Int) > 1000) = false ∧ decide ((x.size : Int) > 1000) = false ∧ decide ((y.size : Int) > 1000) = true) ∨ (s.size ≤ 1000 ∧ t.size ≤ 1000 ∧ x.size ≤ 1000 ∧ y.size ≤ 1000) := by
    simp only [decide_eq_true_eq, decide_eq_false_iff_not]
    omega
  by_cases hsm : s.size ≤ 1000 ∧ t.size ≤ 1000 ∧ x.size ≤ 1000 ∧ y.size ≤ 1000
  · exact apart_small s t x y hsm.1 hsm.2.1 hsm.2.2.1 hsm.2.2.2 w hP
  have big' := (or_assoc.2 (or_assoc.2 (or_assoc.2 big))).resolve_right hsm
  clear big hsm
  have PB := Aside0.mk (Lib.tabBelow_of_tabIs hP : PowB w.heap.size w)
  clear hP
  obtain ⟨W0, hW0⟩ : ∃ W0, w.alloc (.cells #[.string x, .string y] 22) = W0 := ⟨_, rfl⟩
  have HW0 := Aside0.mk hW0
  have A0 := Aside0.mk (show Blk W0 w.heap.size 22 #[.string x, .string y] by rw [← hW0]; exact Blk.new _ _ _)
  have B0 := Aside0.mk (show Below w.heap.size w W0 by rw [← hW0]; exact (Below.refl w.heap.size w).alloc (Nat.le_refl _) _)
  clear hW0
  rcases big' with ((t1 | ⟨t1, t2⟩) | ⟨t1, t2, t3⟩) | ⟨t1, t2, t3, t4⟩
  all_goals
    go_enter Tryd.func3, Tryd.ntmps3
    go_wp2_with fail
    rw [HW0.out]
    refine (awake_calls W0 (PB.out.on B0.out).here).mono ?_
    rintro e w1 ⟨rfl, b1⟩
    have A1 := Aside0.mk (A0.out.below b1)
    have B1 := Aside0.mk (B0.out.trans (b1.mono B0.out.size))
    have c0 := A1.out.cell 0
    have c1 := A1.out.cell 1
    have hl1 := A1.out.lt
    clear b1
    go_wp2_with fail
    refine (awake_calls _ (PB.out.on B1.out).here).mono ?_
    rintro e w2 ⟨rfl, b2⟩
    have HE := B1.out.trans (b2.mono B1.out.size)
    go_wp2
    go_ret
    exact ⟨rfl, HE⟩
end Go.Proofs.YtmilpfccgggmkaaDoor.Knt
