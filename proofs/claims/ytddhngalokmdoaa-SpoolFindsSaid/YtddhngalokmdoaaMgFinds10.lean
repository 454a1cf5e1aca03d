/- Texts of this claim, merged: Ss2, Skr, Oka, Okl. -/
import Derived.Test.YtddhngalokmdoaaMgFinds7
import Derived.Test.YtddhngalokmdoaaMgFinds8
import Derived.Test.YtddhngalokmdoaaMgFinds9
namespace Go.Proofs.Ytddhngalokmdoaa.Spo
open Go.RowKit Go.Proofs.YtddhngalokmdoaaW.PrintWords Go.Proofs.YtddhngalokmdoaaW.PrintLast Go.Proofs.YtddhngalokmdoaaW.PrintMore Go.Proofs.Ytddhngalokmdoaa.Arr Go.Proofs.Ytddhngalokmdoaa.PSpoolPlays
set_option linter.unusedVariables false
set_option linter.unusedSimpArgs false

theorem encs_get (ss : List Sl) (i : Nat) (h : i < ss.length) : (encs encS ss)[i]? = some (encS ss[i]) := by simp [encs, List.getElem?_eq_getElem h]
theorem own_sl {w : World} {B : Nat} {A : Option Addr} {n c : Nat} {ss : List Sl} (h : w.ownsRow B TSl 1 (.slice A n c) ss.length (encs encS ss)) : n = ss.length ∧ ((A = none ∧ n = 0) ∨ ∃ g, A = some ⟨g, 0, none⟩ ∧ (∃ cs, Blk w g TSl cs) ∧ ∀ i (hi : i < ss.length), w.cell? ⟨g, i, none⟩ = some (encS ss[i])) := by
  rcases h.2 with ⟨e, e2⟩ | ⟨g, cap, cur, e, hg, hh, r1, r2, r3, r4⟩
  · injection e with q1 q2 q3
    exact ⟨by omega, .inl ⟨q1, q2⟩⟩
  · injection e with q1 q2 q3
    refine ⟨q2, .inr ⟨g, q1, ⟨cur, ⟨hh⟩⟩, fun i hi => ?_⟩⟩
    rw [(Blk.mk hh).cell i]
    have r4' : cur.toList.take (ss.length * 1) = encs encS ss := r4
    have : (cur.toList.take (ss.length * 1))[i]? = some (encS ss[i]) := by rw [r4']; exact encs_get ss i hi
    rw [List.getElem?_take_of_lt (by omega)] at this
    simpa using this
theorem Recs2.lit {w0 W : World} {y : Sl} {b : List Int} (hB : w0.heap.size ≤ W.heap.size) (hr : ReadsInt W .u8 y.A y.n b) (hk : ∀ ad, y.A = some ad → 0 < y.n → ad.block < w0.heap.size ∨ ∃ cs, Blk W ad.block TU8 cs) :
    Recs2 w0 (W.alloc (.cells #[encS y] TSl)) (.slice (some ⟨W.heap.size, 0, none⟩) 1 1) [b] := by
  have hb : Below W.heap.size W (W.alloc (.cells #[encS y] TSl)) := (Below.refl _ _).alloc (Nat.le_refl _) _
  refine ⟨[y], World.ownsRow_lit (base := w0.heap.size) (e := TSl) (size := 1) W #[encS y] 1 hB (by unfold maxLen; decide) rfl, rfl, fun i s x e1 e2 => ?_⟩
  have hi : i = 0 := by
    have := (List.getElem?_eq_some_iff.1 e1).1
    simpa using this
  subst hi
  obtain rfl : y = s := by simpa using e1
  obtain rfl : b = x := by simpa using e2
  exact ⟨hr.below hb, fun ad e h0 => (hk ad e h0).imp_right fun ⟨cs, hcs⟩ => ⟨cs, hcs.below hb⟩⟩
theorem Recs2.none {w0 W : World} (hB : w0.heap.size ≤ W.heap.size) : Recs2 w0 (W.alloc (.cells #[] TSl)) (.slice (some ⟨W.heap.size, 0, none⟩) 0 0) [] :=
  ⟨[], World.ownsRow_lit (base := w0.heap.size) (e := TSl) (size := 1) W #[] 0 hB (by unfold maxLen; decide) rfl, rfl, fun i s x e1 e2 => by simp at e1⟩
section
variable {ops : Array Oper} {rest : List Oper} {o : Oper} {a : Act} {Q : Exit → Act → World → Prop}
theorem app2 {w0 W : World} (hgd : o.guard = none) (s x : Operand)
    (ho : o.op = .call { callee := .builtin .append, args := #[s, x], argTypes := #[27, 27] })
    (v : Value) (xs ys : List (List Int)) (A : Option Addr) (m c : Nat) (hs : a.eval s = v) (hx : a.eval x = .slice A m c)
    (HO : Recs2 w0 W v xs) (HR : Recs2 w0 W (.slice A m c) ys) (HB : Below w0.heap.size w0 W) (hl : xs.length + ys.length ≤ 1000000000)
    (h : ∀ v1 w1, Recs2 w0 w1 v1 (xs ++ ys) → Below w0.heap.size w0 w1 → W.grownBy w1 v.ownBlock → wpList Try.prog ops Q rest (a.put o.dst v1) w1) :
    wpList Try.prog ops Q (o :: rest) a W := by
  have HO0 := HO
  obtain ⟨ss, h1, h2, h3⟩ := HO.out
  obtain ⟨ts, k1, k2, k3⟩ := HR.out
  obtain ⟨m1, m2⟩ := own_sl k1
  refine print_append_row_of (w0 := w0) encS ⟨Option.none, 0, 0⟩ w0.heap.size hgd s x 27 TSl (.slice Option.none 0 0) 24 ho Try.underlying27 infoSl rfl (by decide) encS_one v ss ts A m c hs hx
    h1 ⟨by omega, by omega, fun h0 => ?_⟩ HB HB.size (by omega) fun v1 w1 q1 q2 q3 q4 => h v1 w1 ⟨ss ++ ts, q1, by simp [h2, k2], fun i s x e1 e2 => ?_⟩ q2 q3
  · rcases m2 with ⟨-, e⟩ | ⟨g, e, -, hc⟩
    · omega
    · refine ⟨_, e, fun j hj => ?_⟩
      rw [add_plain, hc j (by omega), List.getD, List.getElem?_eq_getElem (by omega), Option.getD_some]
  · have key : ∀ (s : Sl) (x : List Int), (ReadsInt W .u8 s.A s.n x ∧ (∀ ad, s.A = some ad → 0 < s.n → ad.block < w0.heap.size ∨ ∃ cs, Blk W ad.block TU8 cs)) → (ReadsInt w1 .u8 s.A s.n x ∧ (∀ ad, s.A = some ad → 0 < s.n → ad.block < w0.heap.size ∨ ∃ cs, Blk w1 ad.block TU8 cs)) := fun s x ⟨hr, hk⟩ => by
      have hne : ∀ ad, s.A = some ad → 0 < s.n → some ad.block ≠ v.ownBlock := fun ad e h0 e5 => by
        obtain ⟨b1, cs, hcs⟩ := HO0.typed ad.block e5.symm
        rcases hk ad e h0 with q | ⟨cs', hcs'⟩
        · omega
        · exact absurd rfl (hcs'.ne hcs (by decide))
      refine ⟨reads_move hr fun ad e h0 => ?_, fun ad e h0 => (hk ad e h0).imp_right fun ⟨cs, hcs⟩ => ⟨cs, hcs.grown q3 (hne ad e h0)⟩⟩
      obtain ⟨ad', e', hc⟩ := hr.2.2 h0
      rw [e] at e'
      cases e'
      have hlt := World.block_lt_of_cell? W _ (hc 0 h0)
      rw [add_block] at hlt
      exact q3.block _ hlt (hne ad e h0)
    by_cases hi : i < ss.length
    · rw [List.getElem?_append_left hi] at e1
      rw [List.getElem?_append_left (by omega)] at e2
      exact key _ _ (h3 i s x e1 e2)
    · rw [List.getElem?_append_right (by omega)] at e1
      rw [List.getElem?_append_right (by omega), ← h2] at e2
      exact key _ _ (k3 _ s x e1 e2)
end
theorem recs2_at {w0 w : World} {A : Option Addr} {n c : Nat} {xs : List (List Int)} (h : Recs2 w0 w (.slice A n c) xs) (i : Nat) (hi : i < xs.length) :
    ∃ g Ai ni ci, A = some ⟨g, 0, Option.none⟩ ∧ w.cell? ⟨g, i, Option.none⟩ = some (.slice Ai ni ci) ∧ ReadsInt w .u8 Ai ni xs[i] := by
  obtain ⟨ss, h1, h2, h3⟩ := h.out
  have hs : i < ss.length := by omega
  obtain ⟨m1, m2⟩ := own_sl h1
  rcases m2 with ⟨-, e⟩ | ⟨g, e, -, hc⟩
  · omega
  · obtain ⟨k1, -⟩ := h3 i ss[i] xs[i] (List.getElem?_eq_getElem hs) (List.getElem?_eq_getElem hi)
    exact ⟨g, ss[i].A, ss[i].n, ss[i].c, e, hc i hs, k1⟩
set_option maxHeartbeats 4000000 in
set_option maxRecDepth 100000 in
theorem same_calls2 (w0 w0' : World) (xs ys : List (List Int)) (hx : ∀ b, b ∈ xs → Bytes b) (hy : ∀ b, b ∈ ys → Bytes b) (A A' : Option Addr) (n n' c c' : Nat) (w : World) (h : Recs2 w0 w (.slice A n c) xs) (h' : Recs2 w0' w (.slice A' n' c') ys) (hn : xs.length = n) (hn' : ys.length = n') (hl : n ≤ 1000000000) (hl' : n' ≤ 1000000000) :
    Calls Try.prog 18 #[.slice A n c, .slice A' n' c'] w fun e w' => e = .returned (.bool (decide (xs = ys))) ∧ Below w.heap.size w w' := by
  by_cases hne : n = n'
  · subst hne
    have H := Aside0.mk h
    have H' := Aside0.mk h'
    have t1 : ((n : Int) != (n : Int)) = false := by simp
    have t2 : ((n : Int) == (n : Int)) = true := by simp
    have HN := Aside0.mk (⟨hn, hn'⟩ : _ ∧ _)
    have HB := Aside0.mk (⟨hx, hy⟩ : _ ∧ _)
    clear h h' hn hn' hx hy
    go_enter Try.func18, Try.ntmps18
    go_wp2_with fail
    go_loopw [13] (fun v13 wr => ∃ i : Nat, v13 = .int .i64 (i : Int) ∧ Aside0 (i ≤ n) ∧ Aside0 (∀ j, j < i → xs[j]? = ys[j]?) ∧ Aside0 (Below w.heap.size w wr)) (fun v13 _ => n - (intOf v13).toNat)
    case atStart => exact ⟨0, rfl, ⟨Nat.zero_le _⟩, ⟨fun j hj => absurd hj (Nat.not_lt_zero _)⟩, ⟨Below.refl _ _⟩⟩
    case round =>
      obtain ⟨i, rfl, hi, hs, hb⟩ := hrel
      by_cases hin : i < n
      · have u1 : decide ((i : Int) < (n : Int)) = true := decide_eq_true (by omega)
        have u1n : decide (i < n) = true := decide_eq_true hin
        have hix : i < xs.length := by have := HN.out; omega
        have hiy : i < ys.length := by have := HN.out; omega
        obtain ⟨g, Ai, ni, ci, e1, h1, h2⟩ := recs2_at (H.out.below hb.out) i hix
        obtain ⟨g', Ai', ni', ci', e1', h1', h2'⟩ := recs2_at (H'.out.below hb.out) i hiy
        subst e1 e1'
        have hbx := HB.out.1 _ (List.getElem_mem hix)
        have hby := HB.out.2 _ (List.getElem_mem hiy)
        obtain ⟨x, hx⟩ : ∃ x, xs[i] = x := ⟨_, rfl⟩
        obtain ⟨y, hy⟩ : ∃ y, ys[i] = y := ⟨_, rfl⟩
        rw [hx] at h2 hbx
        rw [hy] at h2' hby
        have p0 : (0 : Int) ≤ (i : Int) := by omega
        have p1 : (i : Int) < (n : Int) := by omega
        have q0 := eq_true p0
        have q1 := eq_true p1
        have q2 := eq_true hin
        have hw : IntKind.i64.wrap ((i : Int) + 1) = ((i + 1 : Nat) : Int) := by rw [show ((i : Int) + 1) = ((i + 1 : Nat) : Int) by omega]; exact IntWalk.i64_in _ (by omega)
        have HW := Aside0.mk hw
        have HXY := Aside0.mk (⟨by rw [List.getElem?_eq_getElem hix, hx], by rw [List.getElem?_eq_getElem hiy, hy], hbx, hby⟩ : xs[i]? = some x ∧ ys[i]? = some y ∧ Bytes x ∧ Bytes y)
        have R1 := Aside0.mk h2
        have R2 := Aside0.mk h2'
        have C1 := Aside0.mk h1
        have C2 := Aside0.mk h1'
        have HI := Aside0.mk hin
        have hstr : ∀ w', Below wr.heap.size wr w' → (convert TSl 9 (.slice Ai ni ci)).run Try.prog w' = .ok (.string (strOfNums x)) w' := fun w' hb' => string_of_reads Try.underlying22 Try.underlying5 Try.underlying9 (R1.out.below hb')
        have hstr' : ∀ w', Below wr.heap.size wr w' → (convert TSl 9 (.slice Ai' ni' ci')).run Try.prog w' = .ok (.string (strOfNums y)) w' := fun w' hb' => string_of_reads Try.underlying22 Try.underlying5 Try.underlying9 (R2.out.below hb')
        have HS1 := Aside0.mk hstr
        have HS2 := Aside0.mk hstr'
        clear hx hy hbx hby hix hiy h1 h1' h2 h2' hstr hstr' hw hin
        obtain ⟨bq, hbq⟩ : ∃ bq, decide (x = y) = bq := ⟨_, rfl⟩
        have hcmp : ((strOfNums x).toList == (strOfNums y).toList) = bq := by
          rw [toList_inj, ← hbq, Bool.eq_iff_iff, decide_eq_true_eq, decide_eq_true_eq]
          exact ⟨fun h => str_inj HXY.out.2.2.1 HXY.out.2.2.2 h, fun h => by rw [h]⟩
        have hcmp2 : decide (strOfNums x = strOfNums y) = bq := by rw [← toList_inj]; exact hcmp
        obtain ⟨sx, hsx⟩ : ∃ s, strOfNums x = s := ⟨_, rfl⟩
        obtain ⟨sy, hsy⟩ : ∃ s, strOfNums y = s := ⟨_, rfl⟩
        rw [hsx] at HS1
        rw [hsy] at HS2
        rw [hsx, hsy] at hcmp hcmp2
        have HBQ := Aside0.mk hbq
        clear hbq hsx hsy
        go_wp2_with fail
        refine Qt.wp_region_all (fun w' => Below wr.heap.size wr w') (by kernel_rfl) (by kernel_rfl) (Below.refl _ _).drew ?_
        iterate 11 ((first | (with_reducible refine Qt.q_val' rfl ?_) | ((with_reducible refine Qg.on_val' ?_); apply Exists.intro; apply Exists.intro; apply Exists.intro; refine ⟨?_, ?_, ?_, ?_⟩; (focus rfl); (focus rfl); (focus rfl))); apply Exists.intro; refine ⟨?_, ?_⟩; (focus (intro w' hw'; have k1 := C1.out; have k2 := C2.out; have b1 := (hw'.cell (World.block_lt_of_cell? wr _ k1)).trans k1; have b2 := (hw'.cell (World.block_lt_of_cell? wr _ k2)).trans k2; have s1 := HS1.out w' hw'; have s2 := HS2.out w' hw'; clear k1 k2; go_simp; (first | done | (with_reducible rfl)))); intro K hK; go_simp; (first | (with_reducible refine hK _ ?_) | (refine hK _ ?_)); clear hK K)
        (refine wpQuiet_nil ?_; intro w' hw')
        have BW := Aside0.mk (hb.out.trans (hw'.mono hb.out.size))
        clear hw'
        have hw := HW.out
        cases bq with
        | false =>
          go_wp2
          go_ret
          refine ⟨?_, BW.out⟩
          have hne : decide (xs = ys) = false := by
           rw [decide_eq_false_iff_not]
           intro e
           subst e
           obtain ⟨e1, e2, -⟩ := HXY.out
           exact absurd (Option.some.inj (e1.symm.trans e2)) (of_decide_eq_false HBQ.out)
          rw [hne]; rfl
        | true =>
          go_wp2
          go_roundw
          case rel => exact ⟨i + 1, by first | rfl | (rw [HW.out]) | go_num, ⟨HI.out⟩, ⟨fun j hj => by
            rcases Nat.lt_or_ge j i with h | h
            · exact hs.out j h
            · obtain rfl : j = i := by omega
              obtain ⟨e1, e2, -, -⟩ := HXY.out
              rw [e1, e2, of_decide_eq_true HBQ.out]⟩, BW⟩
          case measure => have := HI.out; simp [intOf, HW.out]; omega
      · have u1 : decide ((i : Int) < (n : Int)) = false := decide_eq_false (by omega)
        have u1n : decide (i < n) = false := decide_eq_false hin
        have HE := Aside0.mk (show xs = ys by
          apply List.ext_getElem?
          intro j
          by_cases hj : j < i
          · exact hs.out j hj
          · have := HN.out
            rw [List.getElem?_eq_none (by omega), List.getElem?_eq_none (by omega)])
        clear hin
        go_wp2
        go_ret
        exact ⟨by rw [decide_eq_true HE.out]; rfl, hb.out⟩
  · have t1 : ((n : Int) != (n' : Int)) = true := by simp; omega
    have t2 : ((n : Int) == (n' : Int)) = false := by simp; omega
    have t3 : decide ((n : Int) = (n' : Int)) = false := decide_eq_false (by omega)
    have t4 : ((n : Int) = (n' : Int)) = False := eq_false (by omega)
    have t5 : (n = n') = False := eq_false hne
    have t6 : decide (n = n') = false := decide_eq_false hne
    have t7 : (n == n') = false := by simpa using hne
    have t8 : (n != n') = true := by simpa using hne
    have HE := Aside0.mk (show decide (xs = ys) = false by
      rw [decide_eq_false_iff_not]
      intro e
      exact hne (by rw [← hn, ← hn', e]))
    clear h h' hn hn' hx hy hne
    go_enter Try.func18, Try.ntmps18
    go_wp2
    go_ret
    exact ⟨by rw [HE.out]; rfl, Below.refl _ _⟩
def smallA (a : S59) : Bool := decide (a.f2.length ≤ 600) && decide (a.f3.length ≤ 200)
def fewA (l : List S59) : Bool := l.all smallA && decide (l.length ≤ 40)
theorem few_ev (l : List S59) (hl : l.length ≤ 9223372036854775807) : ∀ (d i k : Nat), i + d = l.length → d + 1 ≤ k → stilelaw13_few.l0 k l l (l.length : Int) (i : Int) = some ((l.drop i).all smallA && decide (l.length ≤ 40))
  | 0, i, k + 1, hi, hk => by
    simp only [stilelaw13_few.l0]
    rw [if_neg (by omega), List.drop_eq_nil_of_le (by omega)]
    simp only [List.all_nil, Bool.true_and]
    congr 1
    exact decide_eq_decide.2 (by omega)
  | d + 1, i, k + 1, hi, hk => by
    have hil : i < l.length := by omega
    have hrd : rd_T59 l (i : Int) = l[i] := by
      unfold rd_T59
      rw [Int.toNat_natCast, List.getD, List.getElem?_eq_getElem hil, Option.getD_some]
    simp only [stilelaw13_few.l0]
    rw [if_pos (by omega), if_pos (by omega), if_pos (by omega), hrd, List.drop_eq_getElem_cons hil, List.all_cons]
    by_cases h1 : ((l[i].f2.length : Nat) : Int) > 600
    · rw [if_pos h1]
      have : smallA l[i] = false := by unfold smallA; rw [decide_eq_false (by omega)]; rfl
      rw [this]; rfl
    · rw [if_neg h1]
      by_cases h2 : ((l[i].f3.length : Nat) : Int) > 200
      · rw [if_pos h2]
        have : smallA l[i] = false := by unfold smallA; rw [decide_eq_false (show ¬ l[i].f3.length ≤ 200 by omega)]; simp
        rw [this]; rfl
      · rw [if_neg h2]
        have : smallA l[i] = true := by unfold smallA; rw [decide_eq_true (by omega), decide_eq_true (by omega)]; rfl
        rw [this, w64s _ (by omega) (by omega), show (i : Int) + 1 = ((i + 1 : Nat) : Int) by omega, few_ev l hl d (i + 1) k (by omega) (by omega)]
        rfl
theorem few_calls (l : List S59) (hl : l.length ≤ 9223372036854775807) (A : Option Addr) (n c : Nat) (hn : l.length = n) (hc : n ≤ c) (w : World) (h : Kd.C k59 w A n l) :
    Calls Try.prog 24 #[.slice A n c] w fun e w' => e = .returned (.bool (fewA l)) ∧ Below w.heap.size w w' := by
  subst hn
  refine stilelaw13_few.calls (l.length + 1) A c l (fewA l) w h hc ?_
  have := few_ev l hl l.length 0 (l.length + 1) (by omega) (by omega)
  rw [List.drop_zero] at this
  exact this
structure KeepV (V : TrayV) (S : SpoolV) (k : Nat) (xs ys : List (List Int)) : Prop where mk ::
  first : S.first = 3
  count : S.count = (k : Int)
  len : V.kept.length = 40
  state : (ys = [] ∧ Alive V S xs) ∨ ∃ b, ys = [b] ∧ Dying V S xs b ∧ b.length ≤ 600
  bytes : ∀ b, b ∈ xs ++ ys → Bytes b
theorem Dying.cache {V : TrayV} {S : SpoolV} {xs : List (List Int)} {b : List Int} (h : Dying V S xs b) (hb : b.length ≤ 600) : V.cache.length ≤ 6 := by
  obtain ⟨V0, S0, -, -, ⟨j, hj, hc⟩, -⟩ := h.elder
  have : ∀ m : Nat, (lays S0 b m).length = m := by
    intro m
    induction m with
    | zero => rfl
    | succ m ih => rw [lays, List.length_append, ih]; rfl
  rw [hc, this]
  unfold nPieces at hj
  omega
theorem KeepV.cache {V : TrayV} {S : SpoolV} {k : Nat} {xs ys : List (List Int)} (h : KeepV V S k xs ys) : V.cache.length ≤ 6 := by
  rcases h.state with ⟨-, h⟩ | ⟨b, -, h, hb⟩
  · rw [h.cache]; exact Nat.zero_le _
  · exact h.cache hb
theorem KeepV.append {V : TrayV} {S : SpoolV} {k : Nat} {xs : List (List Int)} {b : List Int} (h : KeepV V S k xs []) (hby : Bytes b) (hb : b.length ≤ 600) (ht : S.tail ≤ 1000000) (hlen : (appendV V S b).1.kept.length = 40) :
    ((appendV V S b).2.2 = 3 ∧ (appendV V S b).1 = V ∧ (appendV V S b).2.1 = S) ∨
    ((appendV V S b).2.2 = 0 ∧ KeepV (appendV V S b).1 (appendV V S b).2.1 k (xs ++ [b]) [] ∧ (appendV V S b).2.1.tail ≤ S.tail + 6) ∨
    ((appendV V S b).2.2 = 20 ∧ KeepV (appendV V S b).1 (appendV V S b).2.1 k xs [b] ∧ (appendV V S b).2.1.tail = S.tail) := by
  rcases h.state with ⟨-, ha⟩ | ⟨b', e, -⟩
  case inr => cases e
  obtain ⟨r1, r2, r3, r4⟩ := append_ring (V := V) (S := S) (b := b)
  have hnp : nPieces b ≤ 6 := by unfold nPieces; omega
  rcases ha.append_ok (b := b) (by omega) (by omega) with e | ⟨e1, e2, e3⟩ | ⟨e1, e2, e3⟩
  · rw [e]; exact .inl ⟨rfl, rfl, rfl⟩
  · refine .inr (.inl ⟨e1, ⟨r1.trans h.first, r2.trans h.count, hlen, .inl ⟨rfl, e2⟩, fun x hx => ?_⟩, by rw [e3]; omega⟩)
    rw [List.append_nil] at hx
    rcases List.mem_append.1 hx with hx | hx
    · exact h.bytes x (by simp [hx])
    · obtain rfl := List.mem_singleton.1 hx
      exact hby
  · refine .inr (.inr ⟨e1, ⟨r1.trans h.first, r2.trans h.count, hlen, .inr ⟨b, rfl, e2, hb⟩, fun x hx => ?_⟩, e3⟩)
    rcases List.mem_append.1 hx with hx | hx
    · exact h.bytes x (by simp [hx])
    · obtain rfl := List.mem_singleton.1 hx
      exact hby
theorem KeepV.lose {V : TrayV} {S : SpoolV} {k : Nat} {xs ys : List (List Int)} (h : KeepV V S k xs ys) (c : List Bool) (he : S.epoch ≤ 1000000) (ht : S.tail ≤ 1000000) :
    ∃ S' zs, (zs = xs ∨ zs = xs ++ ys) ∧ S'.epoch = S.epoch + 1 ∧ S'.head = S.head ∧ S'.tail ≤ S.tail + 6 ∧ S'.dead = false ∧ S'.first = S.first ∧ S'.count = S.count ∧ KeepV (loseV V c) S' k zs [] ∧ opened (loseV V c) 3 k S.head (S.epoch + 1) = (zs, S'.tail) := by
  have hlen : (loseV V c).kept.length = 40 := by show (settleV V.kept _).length = 40; rw [settle_length]; exact h.len
  rcases h.state with ⟨hy, ha⟩ | ⟨b, hy, hd, hb⟩
  · obtain ⟨a1, a2⟩ := ha.lose c (by omega)
    refine ⟨{ S with epoch := S.epoch + 1 }, xs, .inl rfl, rfl, rfl, by show S.tail ≤ _; omega, ha.dead, rfl, rfl, ⟨h.first, h.count, hlen, .inl ⟨rfl, a1⟩, fun x hx => h.bytes x (by simp at hx; simp [hx])⟩, ?_⟩
    have := alive_opened a1 a2 (by show S.epoch < S.epoch + 1; omega) (by show S.tail ≤ _; omega)
    rw [← h.first, ← h.count]
    exact this
  · have hnp : nPieces b ≤ 6 := by unfold nPieces; omega
    rcases hd.lose c (by omega) (by omega) with ⟨a1, a2⟩ | ⟨a1, a2⟩
    · refine ⟨{ S with epoch := S.epoch + 1, dead := false }, xs, .inl rfl, rfl, rfl, by show S.tail ≤ _; omega, rfl, rfl, rfl, ⟨h.first, h.count, hlen, .inl ⟨rfl, a1⟩, fun x hx => h.bytes x (by simp at hx; simp [hx])⟩, ?_⟩
      have := alive_opened a1 a2 (by show S.epoch < S.epoch + 1; omega) (by show S.tail ≤ _; omega)
      rw [← h.first, ← h.count]
      exact this
    · refine ⟨{ S with epoch := S.epoch + 1, tail := S.tail + nPieces b, dead := false }, xs ++ [b], .inr (by rw [hy]), rfl, rfl, by show S.tail + nPieces b ≤ _; omega, rfl, rfl, rfl, ⟨h.first, h.count, hlen, .inl ⟨rfl, a1⟩, fun x hx => h.bytes x (by rw [hy]; simpa using hx)⟩, ?_⟩
      have := alive_opened a1 a2 (by show S.epoch < S.epoch + 1; omega) (by show S.tail + nPieces b ≤ _; omega)
      rw [← h.first, ← h.count]
      exact this
theorem KeepV.cut {V : TrayV} {S : SpoolV} {k : Nat} {xs : List (List Int)} (h : KeepV V S k xs []) : KeepV V { S with head := S.tail } k [] [] := by
  rcases h.state with ⟨-, ha⟩ | ⟨b', e, -⟩
  case inr => cases e
  exact ⟨h.first, h.count, h.len, .inl ⟨rfl, ha.cut⟩, fun b hb => by cases hb⟩
theorem KeepV.power {V : TrayV} {S : SpoolV} {k : Nat} {xs : List (List Int)} (h : KeepV V S k xs []) (n : Int) : KeepV (powerV V n).1 S k xs [] := by
  have hk : (powerV V n).1.kept = V.kept ∧ (powerV V n).1.cache = V.cache := by unfold powerV; split <;> exact ⟨rfl, rfl⟩
  rcases h.state with ⟨-, ha⟩ | ⟨b', e, -⟩
  case inr => cases e
  exact ⟨h.first, h.count, by rw [hk.1]; exact h.len, .inl ⟨rfl, ha.later (by rw [hk.2]; exact ha.cache) hk.1 rfl (Int.le_refl _) ha.fit.epoch.2⟩, h.bytes⟩
theorem keep_new {k : Nat} (hk : 2 ≤ k ∧ k ≤ 31) : KeepV (newV 40) ⟨3, k, 1, 0, 0, false⟩ k [] [] := by
  have hlen : (newV 40).kept.length = 40 := by simp [newV]
  have hF : Fit ⟨3, k, 1, 0, 0, false⟩ := ⟨⟨by show (0 : Int) ≤ 3; decide, by show (3 : Int) ≤ 4096; decide⟩, ⟨by show (2 : Int) ≤ (k : Int); omega, by show (k : Int) ≤ _; omega⟩, ⟨by show (1 : Int) ≤ 1; decide, by show (1 : Int) ≤ _; decide⟩, ⟨by show (0 : Int) ≤ 0; decide, by show (0 : Int) ≤ 0; decide⟩, ⟨by show (0 : Int) ≤ _; decide, by show (0 : Int) - 0 ≤ (k : Int); omega⟩⟩
  have hR : (3 : Int) + k ≤ (newV 40).kept.length := by rw [hlen]; omega
  have hz : ∀ m : Int, 0 ≤ m → secV (newV 40) ⟨3, k, 1, 0, 0, false⟩ m = List.replicate 128 0 := fun m hm => by
    have hh := on_has (V := newV 40) hF hR m hm
    unfold hasV at hh
    rw [hlen] at hh
    simp only [Bool.and_eq_true, decide_eq_true_eq] at hh
    exact read_new hh.1 hh.2
  exact ⟨rfl, rfl, hlen, .inl ⟨rfl, ⟨hF, hR, rfl, rfl, fun m hm => .inl (hz m hm), rfl, rec_here (here_zero (hz 0 (by decide)))⟩⟩, fun b hb => by cases hb⟩
end Go.Proofs.Ytddhngalokmdoaa.Spo

namespace Go.Proofs.Ytddhngalokmdoaa.Spo
open Go.Deep Go.ChangeShapes Go.WideShapes Go.ChangeAt Go.RowKit Go.Proofs.YtddhngalokmdoaaW.PrintWords Go.Proofs.YtddhngalokmdoaaW.PrintLast Go.Proofs.YtddhngalokmdoaaW.PrintMore Go.Proofs.Ytddhngalokmdoaa.Arr Go.Proofs.Ytddhngalokmdoaa.PSpoolPlays
set_option linter.unusedVariables false
set_option linter.unusedSimpArgs false

section
variable {H : Type} {enc : TypeId × Value → H} {w : World} {base : Nat} {sp : Nat → Bool} {held : Bool}
instance : Inhabited S59 := ⟨z59⟩
theorem list4 {α : Type} {cs : List α} (h : cs.length = 4) : ∃ a b c d, cs = [a, b, c, d] := by
  match cs, h with
  | [a, b, c, d], _ => exact ⟨a, b, c, d, rfl⟩
theorem u8_bound {x : Int} (h : (Lit.int .u8 x).wf = true) : 0 ≤ x ∧ x < 256 := by
  have : (decide ((0 : Int) ≤ x) && decide (x ≤ 255)) = true := h
  simp at this; omega
theorem trod_kact {n : Nat} {cs : List Value} {y : DataW H × List MemPlace} (h : DataW.trod enc Try.prog w base sp held n 59 cs = some y) : ∃ x : S59, k59.K w x cs ∧ Bytes x.f2 := by
  have hC : Try.prog.cellsOf 59 = 4 := by kernel_rfl
  have l0 : Try.prog.cellsOf 3 = 1 := by kernel_rfl
  have l1 : Try.prog.cellsOf 22 = 1 := by kernel_rfl
  have l2 : Try.prog.cellsOf 57 = 1 := by kernel_rfl
  obtain ⟨y0, y1, y2, y3, n, hx, hl, q0, q1, q2, q3⟩ := Joins.trod_struct4 Try.underlying59 h
  rw [hC] at hl
  obtain ⟨c0, c1, c2, c3, rfl⟩ := list4 hl
  simp only [l0, l1, l2] at q0 q1 q2 q3
  obtain ⟨x0, e0, -⟩ := Okd.el_int Try.underlying3 (by simpa using q0)
  obtain ⟨x1, e1, -⟩ := Okd.el_int Try.underlying3 (by simpa using q1)
  obtain ⟨x2, e2, -, g2⟩ := Okd.el_slice (Kd.int .u8) 5 (fun x => (Lit.int .u8 x).wf = true) Try.underlying22 (by kernel_rfl) (fun n cs y h => Okd.el_int Try.underlying5 h) (by simpa using q2)
  obtain ⟨x3, e3, -⟩ := Okd.el_slice Kd.bool 4 (fun x => True) Try.underlying57 (by kernel_rfl) (fun n cs y h => Okd.el_bool Try.underlying4 h) (by simpa using q3)
  refine ⟨⟨x0, x1, x2, x3⟩, ⟨[c0], [c1, c2, c3], rfl, e0, [c1], [c2, c3], rfl, e1, [c2], [c3], rfl, e2, e3⟩, fun x hx => u8_bound (g2 x hx)⟩
set_option maxRecDepth 100000 in
theorem open_kacts {r : Reach} {b0 : Nat} {v : Value} {d : DataW H} {ps : List MemPlace} (hv : Value.okWide Try.prog w r b0 55 v) (h : DataW.Trod enc Try.prog w base sp held 55 v d ps) :
    ∃ (A : Option Addr) (cap : Nat) (xs : List S59), v = .slice A xs.length cap ∧ xs.length ≤ cap ∧ xs.length ≤ 9223372036854775807 ∧ Kd.C k59 w A xs.length xs ∧ ∀ k, k ∈ xs → Bytes k.f2 :=
  Okd.open_kd k59 (fun x => Bytes x.f2) Try.underlying55 (by kernel_rfl) (fun n cs y h => trod_kact h) hv h
end
section
variable {H : Type} {enc : TypeId × Value → H} {w : World} {base : Nat} {sp : Nat → Bool} {held : Bool}
set_option maxRecDepth 100000 in
theorem open_lists {r : Reach} {b0 : Nat} {v : Value} {d : DataW H} {ps : List MemPlace} (hv : Value.okWide Try.prog w r b0 27 v) (h : DataW.Trod enc Try.prog w base sp held 27 v d ps) :
    ∃ (A : Option Addr) (cap : Nat) (xs : List (List Int)), v = .slice A xs.length cap ∧ xs.length ≤ cap ∧ xs.length ≤ 9223372036854775807 ∧ Kd.C (Kd.slice 5 (Kd.int .u8)) w A xs.length xs ∧ ∀ k, k ∈ xs → Bytes k :=
  Okd.open_kd (Kd.slice 5 (Kd.int .u8)) (fun x => Bytes x) Try.underlying27 (by kernel_rfl) (fun n cs y h => by
    obtain ⟨x, e2, -, g2⟩ := Okd.el_slice (Kd.int .u8) 5 (fun x => (Lit.int .u8 x).wf = true) Try.underlying22 (by kernel_rfl) (fun n cs y h => Okd.el_int Try.underlying5 h) h
    exact ⟨x, e2, fun a ha => u8_bound (g2 a ha)⟩) hv h
end
end Go.Proofs.Ytddhngalokmdoaa.Spo
