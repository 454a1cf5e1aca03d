/- Texts of this claim, merged: Spc, Src. -/
import Derived.Test.YtddhngalokmdoaaMgBase9
import Derived.WalkSpells
/- The piece that stands at a number. -/
namespace Go.Proofs.Ytddhngalokmdoaa.Spo
open Go.RowKit Go.Proofs.YtddhngalokmdoaaW.PrintWords Go.Proofs.YtddhngalokmdoaaW.PrintLast Go.Proofs.YtddhngalokmdoaaW.PrintMore Go.Proofs.Ytddhngalokmdoaa.Arr Go.Proofs.Ytddhngalokmdoaa.PSpoolPlays
set_option linter.unusedVariables false
set_option linter.unusedSimpArgs false

/-- A tray's sectors are bytes. -/
structure BytesT (V : TrayV) : Prop where mk ::
  kept : ∀ b, b ∈ V.kept → Bytes b
  cache : ∀ x, x ∈ V.cache → Bytes x.2
theorem last_bytes {l : List (Int × List Int)} (hl : ∀ x, x ∈ l → Bytes x.2) (at_ : Int) : ∀ b : List Int, Bytes b → Bytes (lastV l at_ b) := by
  induction l with
  | nil => intro b h; exact h
  | cons a l ih =>
    intro b h
    refine ih (fun x hx => hl x (by simp [hx])) _ ?_
    show Bytes (if a.1 = at_ then a.2 else b)
    split
    · exact hl a (by simp)
    · exact h
theorem BytesT.read {V : TrayV} (h : BytesT V) {at_ : Int} (hh : hasV V at_ = true) : Bytes (readV V at_) := by
  unfold hasV at hh
  simp only [Bool.and_eq_true, decide_eq_true_eq] at hh
  refine last_bytes h.cache at_ _ ?_
  have hi : at_.toNat < V.kept.length := by omega
  rw [List.getD, List.getElem?_eq_getElem hi, Option.getD_some]
  exact h.kept _ (List.getElem_mem hi)
def secV (V : TrayV) (S : SpoolV) (n : Int) : List Int := readV V (onV S n)
def atV (V : TrayV) (S : SpoolV) (n : Int) : PieceV := pieceV (secV V S n)
def hereV (V : TrayV) (S : SpoolV) (n : Int) : Bool := okV (secV V S n) && decide ((atV V S n).number = n)
theorem on_has {V : TrayV} {S : SpoolV} (hF : Fit S) (hR : S.first + S.count ≤ V.kept.length) (n : Int) (hn : 0 ≤ n) : hasV V (onV S n) = true := by
  unfold hasV onV
  have h1 := Int.emod_nonneg n (show S.count ≠ 0 by have := hF.count; omega)
  have h2 := Int.emod_lt_of_pos n (show 0 < S.count by have := hF.count; omega)
  have h3 := hF.first
  rw [decide_eq_true (by omega), decide_eq_true (by omega)]
  rfl
/-- What the calls of the head tell. -/
def SC (a : Int) (bs : List Int) (B : Nat) (f : FuncId) (args : Array Value) (u : Value) (w : World) : Prop :=
  (f = 41 → u = .int .i64 a) ∧ (f = 30 → ∃ g, u = .tuple #[.slice (some ⟨g, 0, none⟩) 128 128, .int .i64 0] ∧ B ≤ g ∧ Blk w g TSe (nums .u8 bs).toArray)
theorem sc_stb {a : Int} {bs : List Int} {B : Nat} {f : FuncId} {args : Array Value} {u : Value} : Qw.Stb (SC a bs B f args u) := fun w w' h hb => ⟨h.1, fun e => by
  obtain ⟨g, h1, h2, h3⟩ := h.2 e
  exact ⟨g, h1, h2, h3.below hb⟩⟩
/-- What piece returns. -/
def PiecePost (V : TrayV) (S : SpoolV) (n : Int) (w : World) (e : Ending) (w' : World) : Prop :=
  Below w.heap.size w w' ∧ ∃ p A c, e = .returned (.tuple #[.agg (pieceC p A c), .bool (hereV V S n)]) ∧ (hereV V S n = true → p = atV V S n ∧ (∀ ad, A = some ad → w.heap.size ≤ ad.block) ∧ c = p.b.length ∧ ReadsInt w' .u8 A p.b.length p.b)
abbrev zP : Array Value := #[.int .i64 0, .int .i64 0, .int .i64 0, .int .i64 0, .slice none 0 0]
set_option maxHeartbeats 8000000 in
set_option maxRecDepth 100000 in
theorem piece_calls (P : Nat → Prop) (s t : Nat) (V : TrayV) (S : SpoolV) (n : Int) (w : World) (H : TAt P w t V) (hS : Sound V) (hcl : V.cache.length ≤ 1000000000) (hB : BytesT V) (hF : Fit S) (hR : S.first + S.count ≤ V.kept.length)
    (HS : Blk w s TSp (spoolC t S)) (hn : 0 ≤ n) (hn2 : n ≤ 140737488355328) :
    Calls Try.prog 51 #[ptrT s, .int .i64 n] w (PiecePost V S n w) := by
  have hh := on_has hF hR n hn
  have KO := Aside0.mk (fun w' => on_calls S.first S.count n w' hn hn2 hF.first hF.count)
  have KR := Aside0.mk (fun w' (hb : Below w.heap.size w w') => read_calls P t V (onV S n) w' (H.below hb) hS hcl)
  have hl : (secV V S n).length = 128 := hS.read hh
  have hby : Bytes (secV V S n) := hB.read hh
  obtain ⟨a, ha⟩ : ∃ a, onV S n = a := ⟨_, rfl⟩
  rw [show S.first + n % S.count = a from ha] at KO
  obtain ⟨bs, hbs⟩ : ∃ bs, secV V S n = bs := ⟨_, rfl⟩
  unfold PiecePost hereV atV
  rw [hbs] at hl hby ⊢
  have hrv : readV V a = bs := by rw [← ha]; exact hbs
  rw [ha] at hh KR
  have HX := Aside0.mk (⟨hh, hl, hby, hrv⟩ : _ ∧ _ ∧ _ ∧ _)
  have HS := Aside0.mk HS
  clear hh hl hby hbs hrv ha H hS hcl hB hF hR hn hn2
  have h94 := Try.underlying94
  go_enter Try.func51, Try.ntmps51
  go_wp2_with fail
  obtain ⟨W1, hW1⟩ : ∃ W1, w.alloc (.cells zP TPi) = W1 := ⟨_, rfl⟩
  have hE1 : Blk W1 w.heap.size TPi zP := by rw [← hW1]; exact Blk.new _ _ _
  have hb1 : Below w.heap.size w W1 := by rw [← hW1]; exact (Below.refl _ _).alloc (Nat.le_refl _) _
  have hs1 : Blk W1 s TSp (spoolC t S) := HS.out.below hb1
  have HST : Qw.Stb (fun w' => Blk w' s TSp (spoolC t S) ∧ Blk w' w.heap.size TPi zP ∧ Below w.heap.size w w') := fun w1 w2 h hb => ⟨h.1.below hb, h.2.1.below hb, h.2.2.trans (hb.mono h.2.2.size)⟩
  have HE0 : Blk W1.drew s TSp (spoolC t S) ∧ Blk W1.drew w.heap.size TPi zP ∧ Below w.heap.size w W1.drew := ⟨hs1.drew, hE1.drew, hb1.drew⟩
  rw [hW1]
  clear hE1 hb1 hs1 hW1 HS
  refine Qw.wp_region_all (SC a bs w.heap.size) _ HST (by kernel_rfl) (by kernel_rfl) HE0 ?_
  clear HST HE0
  iterate 9 ((first | (with_reducible refine Qw.w_val ⟨fun _ _ _ hF h w' h1 h2 => h w' h1 fun k => hF k _ (h2 k)⟩ ?_ (Qw.wanted_none rfl) ?_) | ((with_reducible refine Qw.w_val ⟨fun _ _ _ hF h w' h1 h2 => h w' h1 fun k => hF k _ (h2 k)⟩ ?_ ?_ ?_); (focus (exact fun _ => trivial)); (focus (exact Qg.wanted_on rfl rfl rfl)))); (try (focus (exact fun _ => trivial))); apply Exists.intro; refine ⟨?_, ?_⟩; (focus (intro w' hw' hp'; have c0 := hw'.1.cell 0; have c1 := hw'.1.cell 1; have c2 := hw'.1.cell 2; have l0 := hw'.1.lt; go_simp; (first | done | (with_reducible rfl)))); intro K hK; go_simp; (first | (with_reducible refine hK _ ?_) | (refine hK _ ?_)); clear hK K)
  ((with_reducible refine Qw.w_call ?_ ?_); (first | (focus (exact Qw.wanted_none rfl)) | (focus (exact Qg.wanted_on rfl rfl rfl))); apply Exists.intro; apply Exists.intro; refine ⟨?_, ?_, ?_, ?_⟩; (focus (intro w'; go_simp; (first | rfl | exact ⟨rfl, rfl⟩))); (focus (exact fun u => sc_stb)); (focus (intro w' hw' hp'; refine (KO.out w').mono ?_; rintro e w8 ⟨rfl, b8⟩; exact ⟨_, rfl, b8, ⟨fun _ => rfl, fun h => absurd h (by decide)⟩⟩)); rintro u8 ⟨wv8, -, -, hu8⟩; intro K hK; go_simp; (first | (with_reducible refine hK _ ?_) | (refine hK _ ?_)); clear hK K)
  obtain rfl := hu8.1 rfl
  clear hu8 wv8
  ((with_reducible refine Qw.w_call ?_ ?_); (first | (focus (exact Qw.wanted_none rfl)) | (focus (exact Qg.wanted_on rfl rfl rfl))); apply Exists.intro; apply Exists.intro; refine ⟨?_, ?_, ?_, ?_⟩; (focus (intro w'; go_simp; (first | rfl | exact ⟨rfl, rfl⟩))); (focus (exact fun u => sc_stb)); (focus (intro w' hw' hp'; refine (KR.out w' hw'.2.2).mono ?_; rintro e w8 ⟨b8, h8⟩; rcases h8 with ⟨h8, -⟩ | ⟨-, g8, rfl, hg8, hB8⟩; (focus (rw [HX.out.1] at h8; cases h8)); rw [HX.out.2.2.2] at hB8; exact ⟨_, rfl, b8, ⟨fun h => absurd h (by decide), fun _ => ⟨g8, rfl, Nat.le_trans hw'.2.2.size hg8, hB8⟩⟩⟩)); rintro u9 ⟨wv9, -, -, hu9⟩; intro K hK; go_simp; (first | (with_reducible refine hK _ ?_) | (refine hK _ ?_)); clear hK K)
  obtain ⟨g, rfl, hgB, -⟩ := hu9.2 rfl
  clear hu9 wv9
  iterate 5 ((first | (with_reducible refine Qw.w_val ⟨fun _ _ _ hF h w' h1 h2 => h w' h1 fun k => hF k _ (h2 k)⟩ ?_ (Qw.wanted_none rfl) ?_) | ((with_reducible refine Qw.w_val ⟨fun _ _ _ hF h w' h1 h2 => h w' h1 fun k => hF k _ (h2 k)⟩ ?_ ?_ ?_); (focus (exact fun _ => trivial)); (focus (exact Qg.wanted_on rfl rfl rfl)))); (try (focus (exact fun _ => trivial))); apply Exists.intro; refine ⟨?_, ?_⟩; (focus (intro w' hw' hp'; skip; go_simp; (first | done | (with_reducible rfl)))); intro K hK; go_simp; (first | (with_reducible refine hK _ ?_) | (refine hK _ ?_)); clear hK K)
  ((with_reducible refine Qw.w_nil ?_); intro w' hw' hf')
  have hf9 : SC a bs w.heap.size 30 #[ptrT t, .int .i64 a] (.tuple #[.slice (some ⟨g, 0, none⟩) 128 128, .int .i64 0]) w' := hf' 10
  obtain ⟨g', e9, -, hG⟩ := hf9.2 rfl
  obtain rfl : g = g' := by simpa using e9
  have G2 := Aside0.mk hG
  have hgw : g ≠ w.heap.size := Blk.ne hG hw'.2.1 (by decide)
  have E2 := Aside0.mk hw'.2.1
  have B2 := Aside0.mk hw'.2.2
  have KP := Aside0.mk (readp_calls g bs w' HX.out.2.1 HX.out.2.2.1 hG)
  clear hf9 hf' hw' hG e9 KO KR
  go_wp2_with fail
  refine KP.out.mono ?_
  rintro e w3 ⟨b3, p, A, c, rfl, hp⟩
  have E3 := Aside0.mk (E2.out.below b3)
  have B3 := Aside0.mk (B2.out.trans (b3.mono B2.out.size))
  have HP := Aside0.mk hp
  have hlt : w.heap.size < w3.heap.size := E3.out.lt
  clear b3 hp KP E2 B2
  cases hob : okV bs with
  | false =>
    have HQ := Aside0.mk (show (okV bs && decide ((pieceV bs).number = n)) = false by rw [hob]; rfl)
    clear hob HP
    go_wp2_with fail
    obtain ⟨W4, hW4⟩ : ∃ W4, w3.alloc (.cells (pieceC p A c) TPi) = W4 := ⟨_, rfl⟩
    have hM4 : Blk W4 w3.heap.size TPi (pieceC p A c) := by rw [← hW4]; exact Blk.new _ _ _
    have hb4 : Below w3.heap.size w3 W4 := by rw [← hW4]; exact (Below.refl _ _).alloc (Nat.le_refl _) _
    have hE4 := E3.out.below hb4
    have B4 := Aside0.mk (B3.out.trans (hb4.mono B3.out.size))
    have HB34 := Aside0.mk hb4
    have E4 := Aside0.mk hE4
    have hel := hE4.lt
    have hml := hM4.lt
    have hne : w.heap.size ≠ w3.heap.size := by omega
    have x0 := hE4.cell 0
    have k0 := hE4.frozen 0
    have y0 := hM4.cell 0
    have x1 := hE4.cell 1
    have k1 := hE4.frozen 1
    have y1 := hM4.cell 1
    have x2 := hE4.cell 2
    have k2 := hE4.frozen 2
    have y2 := hM4.cell 2
    have x3 := hE4.cell 3
    have k3 := hE4.frozen 3
    have y3 := hM4.cell 3
    have x4 := hE4.cell 4
    have k4 := hE4.frozen 4
    have y4 := hM4.cell 4
    rw [hW4]
    clear hM4 hb4 hE4 hW4
    go_region
    go_wp2
    have hEf := (blk_set5 E4.out (.int .i64 p.epoch) (.int .i64 p.number) (.int .i64 p.at_) (.int .i64 p.of) (.slice A p.b.length c)).drew
    have hbf := (below_set5 B4.out (Nat.le_refl w.heap.size) (.int .i64 p.epoch) (.int .i64 p.number) (.int .i64 p.at_) (.int .i64 p.of) (.slice A p.b.length c)).drew
    have e0 := hEf.cell 0
    have e1 := hEf.cell 1
    have e2 := hEf.cell 2
    have e3 := hEf.cell 3
    have e4 := hEf.cell 4
    refine bodyPost_ret (v := .tuple #[.agg (pieceC p A c), .bool false]) ?_ rfl ⟨hbf, p, A, c, by rw [HQ.out], ?_⟩
    · simp [results, Try.results51, go_sem, e0, e1, e2, e3, e4]
    · intro h
      rw [HQ.out] at h
      cases h
  | true =>
    obtain ⟨h1, h2, h3, h4⟩ := HP.out hob
    have hnum : p.number = (pieceV bs).number := by rw [h1]
    obtain ⟨qb, hqb⟩ : ∃ qb, decide ((pieceV bs).number = n) = qb := ⟨_, rfl⟩
    have u1 : decide (p.number = n) = qb := by rw [hnum]; exact hqb
    have u2 : (p.number == n) = qb := by rw [hnum, ← hqb]; rfl
    have HQ := Aside0.mk (show (okV bs && decide ((pieceV bs).number = n)) = qb by rw [hob, hqb]; rfl)
    have HP2 := Aside0.mk (⟨h1, h2, h3, h4⟩ : _ ∧ _ ∧ _ ∧ _)
    clear hob HP h1 h2 h3 h4 hnum hqb
    go_wp2_with fail
    obtain ⟨W4, hW4⟩ : ∃ W4, w3.alloc (.cells (pieceC p A c) TPi) = W4 := ⟨_, rfl⟩
    have hM4 : Blk W4 w3.heap.size TPi (pieceC p A c) := by rw [← hW4]; exact Blk.new _ _ _
    have hb4 : Below w3.heap.size w3 W4 := by rw [← hW4]; exact (Below.refl _ _).alloc (Nat.le_refl _) _
    have hE4 := E3.out.below hb4
    have B4 := Aside0.mk (B3.out.trans (hb4.mono B3.out.size))
    have HB34 := Aside0.mk hb4
    have E4 := Aside0.mk hE4
    have hel := hE4.lt
    have hml := hM4.lt
    have hne : w.heap.size ≠ w3.heap.size := by omega
    have x0 := hE4.cell 0
    have k0 := hE4.frozen 0
    have y0 := hM4.cell 0
    have x1 := hE4.cell 1
    have k1 := hE4.frozen 1
    have y1 := hM4.cell 1
    have x2 := hE4.cell 2
    have k2 := hE4.frozen 2
    have y2 := hM4.cell 2
    have x3 := hE4.cell 3
    have k3 := hE4.frozen 3
    have y3 := hM4.cell 3
    have x4 := hE4.cell 4
    have k4 := hE4.frozen 4
    have y4 := hM4.cell 4
    rw [hW4]
    clear hM4 hb4 hE4 hW4
    go_region
    go_wp2
    have hEf := (blk_set5 E4.out (.int .i64 p.epoch) (.int .i64 p.number) (.int .i64 p.at_) (.int .i64 p.of) (.slice A p.b.length c)).drew
    have hbf := (below_set5 B4.out (Nat.le_refl w.heap.size) (.int .i64 p.epoch) (.int .i64 p.number) (.int .i64 p.at_) (.int .i64 p.of) (.slice A p.b.length c)).drew
    have e0 := hEf.cell 0
    have e1 := hEf.cell 1
    have e2 := hEf.cell 2
    have e3 := hEf.cell 3
    have e4 := hEf.cell 4
    refine bodyPost_ret (v := .tuple #[.agg (pieceC p A c), .bool qb]) ?_ rfl ⟨hbf, p, A, c, by rw [HQ.out], ?_⟩
    · simp [results, Try.results51, go_sem, e0, e1, e2, e3, e4]
    · intro _
      obtain ⟨h1, h2, h3, h4⟩ := HP2.out
      refine ⟨h1, fun ad e => by rw [h2 ad e]; exact hgB, by rw [h1]; exact h3, ?_⟩
      have hf : ∀ (W : World) (i : Nat) (u : Value), ReadsInt W .u8 A p.b.length p.b → ReadsInt (W.setCell ⟨w.heap.size, i, none⟩ u) .u8 A p.b.length p.b := fun W i u h => ⟨h.1, h.2.1, fun h0 => by
        obtain ⟨ad, e, hc⟩ := h.2.2 h0
        refine ⟨ad, e, fun j hj => ?_⟩
        rw [← hc j hj]
        refine cell_far _ _ _ _ ?_
        show (ad.add j).block ≠ w.heap.size
        rw [add_block, h2 ad e]
        exact hgw⟩
      rw [← h1] at h4
      exact hf _ _ _ (hf _ _ _ (hf _ _ _ (hf _ _ _ (hf _ _ _ (h4.below HB34.out)))))
end Go.Proofs.Ytddhngalokmdoaa.Spo

/- The record at a number: slices.Clone, record. -/
namespace Go.Proofs.Ytddhngalokmdoaa.Spo
open Go.RowKit Go.Proofs.YtddhngalokmdoaaW.PrintWords Go.Proofs.YtddhngalokmdoaaW.PrintLast Go.Proofs.YtddhngalokmdoaaW.PrintMore Go.Proofs.Ytddhngalokmdoaa.Arr Go.Proofs.Ytddhngalokmdoaa.PSpoolPlays
set_option linter.unusedVariables false
set_option linter.unusedSimpArgs false

abbrev TU8 : TypeId := 5
abbrev TSl : TypeId := 22
theorem infoU8 : (Try.prog.info? TU8).map (fun i => (i.zero, i.size, i.bytes)) = some (some (.int .u8 0), 1, 1) := by kernel_rfl
section
variable {ops : Array Oper} {rest : List Oper} {o : Oper} {a : Act} {Q : Exit → Act → World → Prop}
/-- append of bytes to bytes of the call's own. -/
theorem app8 {w0 W : World} (B : Nat) (hgd : o.guard = none) (s x : Operand)
    (ho : o.op = .call { callee := .builtin .append, args := #[s, x], argTypes := #[TSl, TSl] })
    (v : Value) (xs ys : List Int) (A : Option Addr) (m c : Nat) (hs : a.eval s = v) (hx : a.eval x = .slice A m c)
    (HO : Row W B TU8 .u8 v xs) (HR : ReadsInt W .u8 A m ys) (HB : Below B w0 W) (hbase : B ≤ W.heap.size) (hl : xs.length + m ≤ 140737488355328)
    (h : ∀ v1 w1, Row w1 B TU8 .u8 v1 (xs ++ ys) → Below B w0 w1 → W.grownBy w1 v.ownBlock → (v1.ownBlock = v.ownBlock ∨ ∃ b, v1.ownBlock = some b ∧ W.heap.size ≤ b) → wpList Try.prog ops Q rest (a.put o.dst v1) w1) :
    wpList Try.prog ops Q (o :: rest) a W :=
  wpList_append_nums (w0 := w0) B TU8 .u8 1 hgd s x TSl ho Try.underlying22 infoU8 (Nat.le_refl 1) v xs ys A m c hs hx HO HR HB hbase (by omega) h
end
set_option maxHeartbeats 4000000 in
set_option maxRecDepth 100000 in
theorem clone_calls (bs : List Int) (A : Option Addr) (n c : Nat) (hc : c = n) (hb : n ≤ 1000000) (w : World) (hr : ReadsInt w .u8 A n bs) :
    Calls Try.prog 52 #[.slice A n c] w fun e w' => ∃ v, e = .returned v ∧ Row w' w.heap.size TU8 .u8 v bs ∧ Below w.heap.size w w' := by
  subst hc
  have hl := hr.1
  cases A with
  | none =>
    obtain rfl : c = 0 := by
      rcases Nat.eq_zero_or_pos c with h | h
      · exact h
      · obtain ⟨ad, e, -⟩ := hr.2.2 h
        cases e
    obtain rfl : bs = [] := List.eq_nil_of_length_eq_zero hl
    clear hr hl
    have hq : ∀ w, (binOp BinOp.eql TSl (.slice none 0 0) (.slice none 0 0)).run Try.prog w = .ok (.bool true) w := fun w => by kernel_rfl
    go_enter Try.func52, Try.ntmps52
    go_wp2
    go_ret
    exact ⟨_, rfl, Row.nil _ _ _ _, Below.refl _ _⟩
  | some ad =>
    have HR := Aside0.mk hr
    have L1 := Aside0.mk (by refine Row.lit ?_ ?_ ?_ ?_ ?_ <;> simp [nums] : Row (w.alloc (.cells #[] TU8)) w.heap.size TU8 .u8 (.slice (some ⟨w.heap.size, 0, none⟩) 0 0) [])
    clear hr
    have hq : ∀ w, (binOp BinOp.eql TSl (.slice (some ad) c c) (.slice none 0 0)).run Try.prog w = .ok (.bool false) w := fun w => by kernel_rfl
    have tok1 : True := trivial
    go_enter Try.func52, Try.ntmps52
    go_wp2_with (at_builtin; have _t := tok1; go_must (refine app8 (w0 := w) w.heap.size rfl _ _ rfl (.slice (some ⟨w.heap.size, 0, none⟩) 0 0) [] bs (some ad) c c rfl rfl L1.out (HR.out.below (below_alloc (Below.refl _ _) _)) (below_alloc (Below.refl _ _) _) (by simp) (by simp; omega) ?_); intro v1 w1 hv1 hb1 hg1 hat1; rw [List.nil_append] at hv1; clear hg1 hat1 _t tok1)
    go_ret
    exact ⟨_, rfl, hv1, hb1⟩
end Go.Proofs.Ytddhngalokmdoaa.Spo
