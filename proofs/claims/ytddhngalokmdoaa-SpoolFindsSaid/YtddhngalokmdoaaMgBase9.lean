/- Texts of this claim, merged: Srd. -/
import Derived.Test.YtddhngalokmdoaaMgBase7
import Derived.Test.YtddhngalokmdoaaMgBase8
import Derived.Deep.DeepCutAuto
import Derived.Deep.CutBlock
/- The piece of a sector: read. -/
namespace Go.Proofs.Ytddhngalokmdoaa.Spo
open Go.RowKit Go.Proofs.YtddhngalokmdoaaW.PrintWords Go.Proofs.YtddhngalokmdoaaW.PrintLast Go.Proofs.YtddhngalokmdoaaW.PrintMore Go.Proofs.Ytddhngalokmdoaa.Arr Go.Proofs.Ytddhngalokmdoaa.PSpoolPlays
set_option linter.unusedVariables false
set_option linter.unusedSimpArgs false

theorem add_off (g i j : Nat) : (⟨g, i, none⟩ : Addr).add j = ⟨g, i + j, none⟩ := by
  unfold Addr.add
  split
  · next h => subst h; rfl
  · rfl
theorem blk_sub {w : World} {g : Nat} {T : TypeId} {bs : List Int} (h : Blk w g T (nums .u8 bs).toArray) (i n : Nat) (hi : i + n ≤ bs.length) (hn : n ≤ 1000) : ReadsInt w .u8 (some ⟨g, i, none⟩) n ((bs.drop i).take n) := by
  refine ⟨by simp; omega, by omega, fun h0 => ⟨_, rfl, fun j hj => ?_⟩⟩
  have hlt : i + j < bs.length := by omega
  have e : ((bs.drop i).take n).getD j 0 = bs[i + j] := by
    rw [List.getD, List.getElem?_take_of_lt hj, List.getElem?_drop, List.getElem?_eq_getElem hlt, Option.getD_some]
  rw [e]
  rw [add_off, h.cell (i + j)]
  simp [nums, List.getElem?_eq_getElem hlt]
theorem blk_all {w : World} {g : Nat} {T : TypeId} {bs : List Int} (h : Blk w g T (nums .u8 bs).toArray) (hl : bs.length = 128) : ReadsInt w .u8 (some ⟨g, 0, none⟩) 128 bs := by
  have := blk_sub h 0 128 (by omega) (by decide)
  rwa [List.drop_zero, List.take_of_length_le (by omega)] at this
theorem add_block (ad : Addr) (j : Nat) : (ad.add j).block = ad.block := by
  unfold Addr.add
  split <;> rfl
theorem cell_far (w : World) (p : Addr) (ad : Addr) (u : Value) (h : ad.block ≠ p.block) : (w.setCell p u).cell? ad = w.cell? ad := by
  unfold World.cell?
  rw [Below.heap_setCell w p u ad.block h]
theorem blk_cellB {w : World} {g : Nat} {T : TypeId} {bs : List Int} (h : Blk w g T (nums .u8 bs).toArray) (i : Nat) (hi : i < bs.length) : w.cell? ⟨g, i, none⟩ = some (.int .u8 (rd bs (i : Int))) := by
  rw [h.cell i]
  have : rd bs (i : Int) = bs[i] := by unfold Go.Proofs.YtddhngalokmdoaaW.PrintWords.rd; rw [Int.toNat_natCast, List.getD, List.getElem?_eq_getElem hi, Option.getD_some]
  rw [this]
  simp [nums, List.getElem?_eq_getElem hi]
theorem number_calls (l : List Int) (hB : Bytes l) (hl : l.length ≤ 6) (n c : Nat) (hn : l.length = n) (hc : n ≤ c) (A : Option Addr) (w : World) (h : ReadsInt w .u8 A n l) :
    Calls Try.prog 54 #[.slice A n c] w fun e w' => e = .returned (.int .i64 (numV l)) ∧ Below w.heap.size w w' := by
  subst hn
  refine (spool_number.calls 9 A c l (numV l) w (Kd.C_of_reads (d := (0 : Int)) h) hc (number_f l hB hl)).mono ?_
  rintro e w1 ⟨rfl, hd⟩
  exact ⟨rfl, hd.below⟩
theorem bytes_calls (p : PieceV) (hB : Bytes p.b) (hl : p.b.length ≤ 108) (A : Option Addr) (c n : Nat) (hn : p.b.length = n) (hc : n ≤ c) (w : World) (h : ReadsInt w .u8 A n p.b) :
    Calls Try.prog 42 #[.agg #[.int .i64 p.epoch, .int .i64 p.number, .int .i64 p.at_, .int .i64 p.of, .slice A n c]] w fun e w' => ∃ v, e = .returned v ∧ Kd.R (Kd.int .u8) 5 w' w.heap.size (fun _ => True) v (bytesV p) ∧ Below w.heap.size w w' := by
  subst hn
  exact spool_piece_bytes.calls 1300 p.epoch p.number p.at_ p.of A c p.b (bytesV p) w (Kd.C_of_reads (d := (0 : Int)) h) hc (bytes_f p hB hl)
theorem equal_calls (a b : List Int) (ha : a.length ≤ 1000000000) (A B : Option Addr) (n m c c' : Nat) (hn : a.length = n) (hm : b.length = m) (hc : n ≤ c) (hc' : m ≤ c') (w : World) (h : Kd.C (Kd.int .u8) w A n a) (h' : Kd.C (Kd.int .u8) w B m b) :
    Calls Try.prog 55 #[.slice A n c, .slice B m c'] w fun e w' => e = .returned (.bool (decide (a = b))) ∧ Below w.heap.size w w' := by
  subst hn hm
  refine (slices_Equal_byte_byte.calls (a.length + 1) A c a B c' b (decide (a = b)) w h hc h' hc' (equal_f a b ha)).mono ?_
  rintro e w1 ⟨rfl, hd⟩
  exact ⟨rfl, hd.below⟩
/-- What the two calls at the end tell. -/
def SR (bs : List Int) (q : PieceV) (f : FuncId) (args : Array Value) (u : Value) (w : World) : Prop :=
  (f = 42 → ∃ A c, u = .slice A 128 c ∧ 128 ≤ c ∧ Kd.C (Kd.int .u8) w A 128 (bytesV q)) ∧ (f = 55 → u = .bool (decide (bs = bytesV q)))
theorem sr_stb {bs : List Int} {q : PieceV} {f : FuncId} {args : Array Value} {u : Value} : Qw.Stb (SR bs q f args u) := fun w w' h hb => ⟨fun e => by
  obtain ⟨A, c, h1, h2, h3⟩ := h.1 e
  exact ⟨A, c, h1, h2, Kd.C_below h3 hb⟩, h.2⟩
abbrev slB (g i n : Nat) : Array Value := #[.slice (some ⟨g, i, none⟩) n (128 - i)]
/-- What the four numbers are. -/
def SN (g : Nat) (pe pn pa po : Int) (f : FuncId) (args : Array Value) (u : Value) (w : World) : Prop :=
  (args = slB g 1 4 → u = .int .i64 pe) ∧ (args = slB g 5 6 → u = .int .i64 pn) ∧ (args = slB g 11 2 → u = .int .i64 pa) ∧ (args = slB g 13 2 → u = .int .i64 po)
theorem sn_stb {g : Nat} {pe pn pa po : Int} {f : FuncId} {args : Array Value} {u : Value} : Qw.Stb (SN g pe pn pa po f args u) := fun w w' h hb => h
section
variable {g : Nat} {pe pn pa po : Int} {f : FuncId} {w : World}
theorem sn1 : SN g pe pn pa po f (slB g 1 4) (.int .i64 pe) w := ⟨fun _ => rfl, fun h => absurd h (by simp), fun h => absurd h (by simp), fun h => absurd h (by simp)⟩
theorem sn5 : SN g pe pn pa po f (slB g 5 6) (.int .i64 pn) w := ⟨fun h => absurd h (by simp), fun _ => rfl, fun h => absurd h (by simp), fun h => absurd h (by simp)⟩
theorem sn11 : SN g pe pn pa po f (slB g 11 2) (.int .i64 pa) w := ⟨fun h => absurd h (by simp), fun h => absurd h (by simp), fun _ => rfl, fun h => absurd h (by simp)⟩
theorem sn13 : SN g pe pn pa po f (slB g 13 2) (.int .i64 po) w := ⟨fun h => absurd h (by simp), fun h => absurd h (by simp), fun h => absurd h (by simp), fun _ => rfl⟩
end
theorem blk_set5 {w : World} {g : Nat} {T : TypeId} {x0 x1 x2 x3 x4 : Value} (h : Blk w g T #[x0, x1, x2, x3, x4]) (a b c d e : Value) :
    Blk (((((w.setCell ⟨g, 0, none⟩ a).setCell ⟨g, 1, none⟩ b).setCell ⟨g, 2, none⟩ c).setCell ⟨g, 3, none⟩ d).setCell ⟨g, 4, none⟩ e) g T #[a, b, c, d, e] := by
  have := ((((h.set 0 a).set 1 b).set 2 c).set 3 d).set 4 e
  simpa using this
theorem blk_far5 {w : World} {g m : Nat} {T : TypeId} {cs : Array Value} (h : Blk w g T cs) (hn : g ≠ m) (a b c d e : Value) :
    Blk (((((w.setCell ⟨m, 0, none⟩ a).setCell ⟨m, 1, none⟩ b).setCell ⟨m, 2, none⟩ c).setCell ⟨m, 3, none⟩ d).setCell ⟨m, 4, none⟩ e) g T cs :=
  ((((h.far hn a).far hn b).far hn c).far hn d).far hn e
theorem below_set5 {B : Nat} {w0 w : World} {m : Nat} (h : Below B w0 w) (hm : B ≤ m) (a b c d e : Value) :
    Below B w0 (((((w.setCell ⟨m, 0, none⟩ a).setCell ⟨m, 1, none⟩ b).setCell ⟨m, 2, none⟩ c).setCell ⟨m, 3, none⟩ d).setCell ⟨m, 4, none⟩ e) :=
  ((((h.setCell hm a).setCell hm b).setCell hm c).setCell hm d).setCell hm e
theorem numV_go : ∀ (l : List Int) (n : Int), Bytes l → 0 ≤ n → 0 ≤ l.foldl (fun n c => n * 256 + c) n ∧ l.foldl (fun n c => n * 256 + c) n < (n + 1) * 256 ^ l.length
  | [], n, _, h => ⟨h, by show n < (n + 1) * 1; omega⟩
  | x :: l, n, hB, h => by
    have h1 := hB x (by simp)
    obtain ⟨h2, h3⟩ := numV_go l (n * 256 + x) (fun y hy => hB y (by simp [hy])) (by omega)
    refine ⟨h2, Int.lt_of_lt_of_le h3 ?_⟩
    have : (n + 1) * 256 ^ (x :: l).length = ((n + 1) * 256) * 256 ^ l.length := by
      rw [List.length_cons, Int.pow_succ, Int.mul_assoc]
      congr 1
      exact Int.mul_comm _ _
    rw [this]
    exact Int.mul_le_mul_of_nonneg_right (by omega) (Int.pow_nonneg (by decide))
theorem numV_lt (l : List Int) (hB : Bytes l) (n : Nat) (hn : l.length = n) : 0 ≤ numV l ∧ numV l < 256 ^ n := by
  have := numV_go l 0 hB (by decide)
  rw [hn] at this
  unfold numV
  omega
/-- What read returns. -/
def ReadpPost (g : Nat) (bs : List Int) (w : World) (e : Ending) (w' : World) : Prop :=
  Below w.heap.size w w' ∧ ∃ p A c, e = .returned (.tuple #[.agg (pieceC p A c), .bool (okV bs)]) ∧ (okV bs = true → p = pieceV bs ∧ (∀ ad, A = some ad → ad.block = g) ∧ c = (pieceV bs).b.length ∧ ReadsInt w' .u8 A (pieceV bs).b.length (pieceV bs).b)
set_option maxHeartbeats 8000000 in
set_option maxRecDepth 100000 in
theorem readp_calls (g : Nat) (bs : List Int) (w : World) (hl : bs.length = 128) (hB : Bytes bs) (H : Blk w g TSe (nums .u8 bs).toArray) :
    Calls Try.prog 53 #[.slice (some ⟨g, 0, none⟩) 128 128] w (ReadpPost g bs w) := by
  have HH := Aside0.mk H
  have h94 := Try.underlying94
  have N1 := Aside0.mk (fun (w' : World) (hb : Below w.heap.size w w') => number_calls ((bs.drop 1).take 4) ((hB.drop 1).take 4) (by simp; omega) 4 127 (by simp; omega) (by decide) (some ⟨g, 1, none⟩) w' (blk_sub (H.below hb) 1 4 (by omega) (by decide)))
  have N5 := Aside0.mk (fun (w' : World) (hb : Below w.heap.size w w') => number_calls ((bs.drop 5).take 6) ((hB.drop 5).take 6) (by simp; omega) 6 123 (by simp; omega) (by decide) (some ⟨g, 5, none⟩) w' (blk_sub (H.below hb) 5 6 (by omega) (by decide)))
  have N11 := Aside0.mk (fun (w' : World) (hb : Below w.heap.size w w') => number_calls ((bs.drop 11).take 2) ((hB.drop 11).take 2) (by simp; omega) 2 117 (by simp; omega) (by decide) (some ⟨g, 11, none⟩) w' (blk_sub (H.below hb) 11 2 (by omega) (by decide)))
  have N13 := Aside0.mk (fun (w' : World) (hb : Below w.heap.size w w') => number_calls ((bs.drop 13).take 2) ((hB.drop 13).take 2) (by simp; omega) 2 115 (by simp; omega) (by decide) (some ⟨g, 13, none⟩) w' (blk_sub (H.below hb) 13 2 (by omega) (by decide)))
  obtain ⟨pe, hpe⟩ : ∃ x, (pieceV bs).epoch = x := ⟨_, rfl⟩
  obtain ⟨pn, hpn⟩ : ∃ x, (pieceV bs).number = x := ⟨_, rfl⟩
  obtain ⟨pa, hpa⟩ : ∃ x, (pieceV bs).at_ = x := ⟨_, rfl⟩
  obtain ⟨po, hpo⟩ : ∃ x, (pieceV bs).of = x := ⟨_, rfl⟩
  rw [show numV ((bs.drop 1).take 4) = pe from hpe] at N1
  rw [show numV ((bs.drop 5).take 6) = pn from hpn] at N5
  rw [show numV ((bs.drop 11).take 2) = pa from hpa] at N11
  rw [show numV ((bs.drop 13).take 2) = po from hpo] at N13
  have HP := Aside0.mk (⟨hpe, hpn, hpa, hpo⟩ : _ ∧ _ ∧ _ ∧ _)
  obtain ⟨z, hz, hz0, hz1⟩ : ∃ z : Nat, sizeV bs = (z : Int) ∧ z < 256 ∧ rd bs 15 = (z : Int) := by
    obtain ⟨h1, h2⟩ := hB.rd 15 (by omega)
    exact ⟨_, h1, h2, h1⟩
  have HZ := Aside0.mk hz
  have HZ1 := Aside0.mk hz1
  have HL := Aside0.mk hl
  have HBY := Aside0.mk hB
  clear hpe hpn hpa hpo hz hz1 hl hB
  go_enter Try.func53, Try.ntmps53
  go_wp2_with fail
  obtain ⟨W1, hW1⟩ : ∃ W1, w.alloc (.cells #[.int .i64 0, .int .i64 0, .int .i64 0, .int .i64 0, .slice none 0 0] TPi) = W1 := ⟨_, rfl⟩
  have hE1 : Blk W1 w.heap.size TPi #[.int .i64 0, .int .i64 0, .int .i64 0, .int .i64 0, .slice none 0 0] := by rw [← hW1]; exact Blk.new _ _ _
  have hb1 : Below w.heap.size w W1 := by rw [← hW1]; exact (Below.refl _ _).alloc (Nat.le_refl _) _
  have E1 := Aside0.mk hE1
  have B1 := Aside0.mk hb1
  rw [hW1]
  clear hE1 hb1 hW1 H
  have HST : Qw.Stb (fun w' => Blk w' w.heap.size TPi #[.int .i64 0, .int .i64 0, .int .i64 0, .int .i64 0, .slice none 0 0] ∧ Below w.heap.size w w') := fun w1 w2 h hb => ⟨h.1.below hb, h.2.trans (hb.mono h.2.size)⟩
  have HE0 : Blk W1.drew w.heap.size TPi #[.int .i64 0, .int .i64 0, .int .i64 0, .int .i64 0, .slice none 0 0] ∧ Below w.heap.size w W1.drew := ⟨E1.out.drew, B1.out.drew⟩
  clear E1 B1
  refine Qw.wp_region_tail (SN g pe pn pa po) _ HST 14 (by kernel_rfl) (by kernel_rfl) HE0 ?_
  clear HST HE0
  simp only [List.take_succ_cons, List.take_zero, List.drop_succ_cons, List.drop_zero]
  iterate 2 ((first | (with_reducible refine Qw.w_val ⟨fun _ _ _ hF h w' h1 h2 => h w' h1 fun k => hF k _ (h2 k)⟩ ?_ (Qw.wanted_none rfl) ?_) | ((with_reducible refine Qw.w_val ⟨fun _ _ _ hF h w' h1 h2 => h w' h1 fun k => hF k _ (h2 k)⟩ ?_ ?_ ?_); (focus (exact fun _ => trivial)); (focus (exact Qg.wanted_on rfl rfl rfl)))); (try (focus (exact fun _ => trivial))); apply Exists.intro; refine ⟨?_, ?_⟩; (focus (intro w' hw' hp'; skip; go_simp; (first | done | (with_reducible rfl)))); intro K hK; go_simp; (first | (with_reducible refine hK _ ?_) | (refine hK _ ?_)); clear hK K)
  ((with_reducible refine Qw.w_call ?_ ?_); (first | (focus (exact Qw.wanted_none rfl)) | (focus (exact Qg.wanted_on rfl rfl rfl))); apply Exists.intro; apply Exists.intro; refine ⟨?_, ?_, ?_, ?_⟩; (focus (intro w'; go_simp; (first | rfl | exact ⟨rfl, rfl⟩))); (focus (exact fun u => sn_stb)); (focus (intro w' hw' hp'; refine (N1.out w' hw'.2).mono ?_; rintro e w8 ⟨rfl, b8⟩; exact ⟨_, rfl, b8, sn1⟩)); rintro u1 ⟨wv1, -, -, hu1⟩; intro K hK; go_simp; (first | (with_reducible refine hK _ ?_) | (refine hK _ ?_)); clear hK K)
  obtain rfl := hu1.1 rfl
  clear hu1 wv1
  iterate 2 ((first | (with_reducible refine Qw.w_val ⟨fun _ _ _ hF h w' h1 h2 => h w' h1 fun k => hF k _ (h2 k)⟩ ?_ (Qw.wanted_none rfl) ?_) | ((with_reducible refine Qw.w_val ⟨fun _ _ _ hF h w' h1 h2 => h w' h1 fun k => hF k _ (h2 k)⟩ ?_ ?_ ?_); (focus (exact fun _ => trivial)); (focus (exact Qg.wanted_on rfl rfl rfl)))); (try (focus (exact fun _ => trivial))); apply Exists.intro; refine ⟨?_, ?_⟩; (focus (intro w' hw' hp'; skip; go_simp; (first | done | (with_reducible rfl)))); intro K hK; go_simp; (first | (with_reducible refine hK _ ?_) | (refine hK _ ?_)); clear hK K)
  ((with_reducible refine Qw.w_call ?_ ?_); (first | (focus (exact Qw.wanted_none rfl)) | (focus (exact Qg.wanted_on rfl rfl rfl))); apply Exists.intro; apply Exists.intro; refine ⟨?_, ?_, ?_, ?_⟩; (focus (intro w'; go_simp; (first | rfl | exact ⟨rfl, rfl⟩))); (focus (exact fun u => sn_stb)); (focus (intro w' hw' hp'; refine (N5.out w' hw'.2).mono ?_; rintro e w8 ⟨rfl, b8⟩; exact ⟨_, rfl, b8, sn5⟩)); rintro u5 ⟨wv5, -, -, hu5⟩; intro K hK; go_simp; (first | (with_reducible refine hK _ ?_) | (refine hK _ ?_)); clear hK K)
  obtain rfl := hu5.2.1 rfl
  clear hu5 wv5
  iterate 2 ((first | (with_reducible refine Qw.w_val ⟨fun _ _ _ hF h w' h1 h2 => h w' h1 fun k => hF k _ (h2 k)⟩ ?_ (Qw.wanted_none rfl) ?_) | ((with_reducible refine Qw.w_val ⟨fun _ _ _ hF h w' h1 h2 => h w' h1 fun k => hF k _ (h2 k)⟩ ?_ ?_ ?_); (focus (exact fun _ => trivial)); (focus (exact Qg.wanted_on rfl rfl rfl)))); (try (focus (exact fun _ => trivial))); apply Exists.intro; refine ⟨?_, ?_⟩; (focus (intro w' hw' hp'; skip; go_simp; (first | done | (with_reducible rfl)))); intro K hK; go_simp; (first | (with_reducible refine hK _ ?_) | (refine hK _ ?_)); clear hK K)
  ((with_reducible refine Qw.w_call ?_ ?_); (first | (focus (exact Qw.wanted_none rfl)) | (focus (exact Qg.wanted_on rfl rfl rfl))); apply Exists.intro; apply Exists.intro; refine ⟨?_, ?_, ?_, ?_⟩; (focus (intro w'; go_simp; (first | rfl | exact ⟨rfl, rfl⟩))); (focus (exact fun u => sn_stb)); (focus (intro w' hw' hp'; refine (N11.out w' hw'.2).mono ?_; rintro e w8 ⟨rfl, b8⟩; exact ⟨_, rfl, b8, sn11⟩)); rintro u11 ⟨wv11, -, -, hu11⟩; intro K hK; go_simp; (first | (with_reducible refine hK _ ?_) | (refine hK _ ?_)); clear hK K)
  obtain rfl := hu11.2.2.1 rfl
  clear hu11 wv11
  iterate 2 ((first | (with_reducible refine Qw.w_val ⟨fun _ _ _ hF h w' h1 h2 => h w' h1 fun k => hF k _ (h2 k)⟩ ?_ (Qw.wanted_none rfl) ?_) | ((with_reducible refine Qw.w_val ⟨fun _ _ _ hF h w' h1 h2 => h w' h1 fun k => hF k _ (h2 k)⟩ ?_ ?_ ?_); (focus (exact fun _ => trivial)); (focus (exact Qg.wanted_on rfl rfl rfl)))); (try (focus (exact fun _ => trivial))); apply Exists.intro; refine ⟨?_, ?_⟩; (focus (intro w' hw' hp'; skip; go_simp; (first | done | (with_reducible rfl)))); intro K hK; go_simp; (first | (with_reducible refine hK _ ?_) | (refine hK _ ?_)); clear hK K)
  ((with_reducible refine Qw.w_call ?_ ?_); (first | (focus (exact Qw.wanted_none rfl)) | (focus (exact Qg.wanted_on rfl rfl rfl))); apply Exists.intro; apply Exists.intro; refine ⟨?_, ?_, ?_, ?_⟩; (focus (intro w'; go_simp; (first | rfl | exact ⟨rfl, rfl⟩))); (focus (exact fun u => sn_stb)); (focus (intro w' hw' hp'; refine (N13.out w' hw'.2).mono ?_; rintro e w8 ⟨rfl, b8⟩; exact ⟨_, rfl, b8, sn13⟩)); rintro u13 ⟨wv13, -, -, hu13⟩; intro K hK; go_simp; (first | (with_reducible refine hK _ ?_) | (refine hK _ ?_)); clear hK K)
  obtain rfl := hu13.2.2.2 rfl
  clear hu13 wv13
  ((first | (with_reducible refine Qw.w_val ⟨fun _ _ _ hF h w' h1 h2 => h w' h1 fun k => hF k _ (h2 k)⟩ ?_ (Qw.wanted_none rfl) ?_) | ((with_reducible refine Qw.w_val ⟨fun _ _ _ hF h w' h1 h2 => h w' h1 fun k => hF k _ (h2 k)⟩ ?_ ?_ ?_); (focus (exact fun _ => trivial)); (focus (exact Qg.wanted_on rfl rfl rfl)))); (try (focus (exact fun _ => trivial))); apply Exists.intro; refine ⟨?_, ?_⟩; (focus (intro w' hw' hp'; skip; go_simp; (first | done | (with_reducible rfl)))); intro K hK; go_simp; (first | (with_reducible refine hK _ ?_) | (refine hK _ ?_)); clear hK K)
  obtain ⟨R, hR⟩ : ∃ R : Value → World → Prop, R = fun u w' => ∃ m, u = .pointer (some ⟨m, 0, none⟩) ∧ w.heap.size < m ∧ Blk w' m TPi #[.int .i64 0, .int .i64 0, .int .i64 0, .int .i64 0, .slice none 0 0] := ⟨_, rfl⟩
  have HSN : ∀ u, Qw.Stb (R u) := by
    subst hR
    intro u w1 w2 h hb
    obtain ⟨m, e, h1, h2⟩ := h
    exact ⟨m, e, h1, h2.below hb⟩
  have hR' : ∀ u w', R u w' ↔ ∃ m, u = .pointer (some ⟨m, 0, none⟩) ∧ w.heap.size < m ∧ Blk w' m TPi #[.int .i64 0, .int .i64 0, .int .i64 0, .int .i64 0, .slice none 0 0] := fun u w' => by rw [hR]
  clear hR
  with_reducible refine Qw.w_new R HSN (Qw.wanted_none rfl) ⟨?_, ?_⟩
  · intro w' hw'
    refine ⟨.pointer (some ⟨w'.heap.size, 0, none⟩), w'.alloc (.cells #[.int .i64 0, .int .i64 0, .int .i64 0, .int .i64 0, .slice none 0 0] TPi), ?_, (Below.refl _ _).alloc (Nat.le_refl _) _, (hR' _ _).2 ⟨w'.heap.size, rfl, hw'.1.lt, Blk.new _ _ _⟩⟩
    go_simp
  rintro u9 ⟨wv9, -, -, hu9⟩
  obtain ⟨m, rfl, hm, -⟩ := (hR' _ _).1 hu9
  clear hu9 wv9
  intro K hK
  go_simp
  refine hK _ ?_
  clear hK K
  ((with_reducible refine Qw.w_nil ?_); intro w' hw' hf')
  obtain ⟨m', e9, -, hM⟩ : ∃ m', Value.pointer (some ⟨m, 0, none⟩) = .pointer (some ⟨m', 0, none⟩) ∧ w.heap.size < m' ∧ Blk w' m' TPi #[.int .i64 0, .int .i64 0, .int .i64 0, .int .i64 0, .slice none 0 0] := (hR' _ _).1 (hf' 13)
  obtain rfl : m = m' := by injection e9 with e9; injection e9 with e9; injection e9
  clear hf' hR' HSN R e9 N1 N5 N11 N13
  have hE2 := hw'.1
  have hb2 := hw'.2
  have hg2 := HH.out.below hb2
  have c15 := blk_cellB hg2 15 (by rw [HL.out]; decide)
  rw [show (((15 : Nat) : Int)) = 15 from rfl, HZ1.out] at c15
  have hgl := hg2.lt
  have hml := hM.lt
  have hwl := hE2.lt
  have G0 := hE2.cell 0
  have M0 := hM.cell 0
  have K0 := hE2.frozen 0
  have L0 := hM.frozen 0
  have G1 := hE2.cell 1
  have M1 := hM.cell 1
  have K1 := hE2.frozen 1
  have L1 := hM.frozen 1
  have G2 := hE2.cell 2
  have M2 := hM.cell 2
  have K2 := hE2.frozen 2
  have L2 := hM.frozen 2
  have G3 := hE2.cell 3
  have M3 := hM.cell 3
  have K3 := hE2.frozen 3
  have L3 := hM.frozen 3
  have G4 := hE2.cell 4
  have M4 := hM.cell 4
  have K4 := hE2.frozen 4
  have L4 := hM.frozen 4
  have B2 := Aside0.mk hb2
  have E2 := Aside0.mk hE2
  have MM := Aside0.mk hM
  have G2' := Aside0.mk hg2
  have hwm : w.heap.size ≠ m := by omega
  have hgw : g ≠ w.heap.size := by have := HH.out.lt; omega
  have hgm : g ≠ m := by have := HH.out.lt; omega
  clear hb2 hw' hE2 hM hg2
  by_cases hz : 108 < z
  · have t1 : decide ((z : Int) > 108) = true := decide_eq_true (by omega)
    go_wp2
    have hEf := blk_set5 (blk_far5 E2.out hwm (.int .i64 pe) (.int .i64 pn) (.int .i64 pa) (.int .i64 po) (.slice none 0 0)) (.int .i64 0) (.int .i64 0) (.int .i64 0) (.int .i64 0) (.slice none 0 0)
    have hbf := below_set5 (below_set5 B2.out (Nat.le_of_lt hm) (.int .i64 pe) (.int .i64 pn) (.int .i64 pa) (.int .i64 po) (.slice none 0 0)) (Nat.le_refl w.heap.size) (.int .i64 0) (.int .i64 0) (.int .i64 0) (.int .i64 0) (.slice none 0 0)
    have hok : okV bs = false := by
      unfold okV
      rw [HZ.out, decide_eq_false (by omega)]
      rfl
    have e0 := hEf.cell 0
    have e1 := hEf.cell 1
    have e2 := hEf.cell 2
    have e3 := hEf.cell 3
    have e4 := hEf.cell 4
    refine bodyPost_ret (v := .tuple #[.agg (pieceC ⟨0, 0, 0, 0, []⟩ none 0), .bool false]) ?_ rfl ⟨hbf, ⟨0, 0, 0, 0, []⟩, none, 0, by rw [hok], fun h => by rw [hok] at h; cases h⟩
    simp [results, Try.results53, go_sem, e0, e1, e2, e3, e4]
  · have t1 : decide ((z : Int) > 108) = false := decide_eq_false (by omega)
    have hpo := HP.out.2.2.2
    obtain ⟨po0, po1⟩ := numV_lt ((bs.drop 13).take 2) ((HBY.out.drop 13).take 2) 2 (by simp [HL.out])
    rw [show numV ((bs.drop 13).take 2) = po from hpo] at po0 po1
    have po1 : po < 65536 := po1
    have w1 : IntKind.i64.wrap (16 + (z : Int)) = ((16 + z : Nat) : Int) := by rw [IntWalk.i64_in _ (by omega)]; omega
    have w2 : IntKind.i64.wrap (po - 1) = po - 1 := IntWalk.i64_in _ (by omega)
    clear hpo
    obtain ⟨A16, hA16⟩ : ∃ A, (if 16 + z = 16 then some (⟨g, 0, none⟩ : Addr) else some ⟨g, 16, none⟩) = A := ⟨_, rfl⟩
    have hA0 : (if z = 0 then some (⟨g, 0, none⟩ : Addr) else some ⟨g, 16, none⟩) = A16 := by
      rw [← hA16]
      by_cases h : z = 0
      · rw [if_pos h, if_pos (by omega)]
      · rw [if_neg h, if_neg (by omega)]
    have HA16 := Aside0.mk hA16
    have HA0 := Aside0.mk hA0
    clear hA16 hA0
    go_upto_region 6 with fail
    rw [show 16 + z - 16 = z by omega, HA16.out, HA0.out]
    obtain ⟨W6, hW6⟩ : ∃ W6, ((((((w'.setCell ⟨m, 0, none⟩ (.int .i64 pe)).setCell ⟨m, 1, none⟩ (.int .i64 pn)).setCell ⟨m, 2, none⟩ (.int .i64 pa)).setCell ⟨m, 3, none⟩ (.int .i64 po)).setCell ⟨m, 4, none⟩ (.slice none 0 0)).setCell ⟨m, 4, none⟩ (.slice A16 z z)) = W6 := ⟨_, rfl⟩
    have hM6 : Blk W6 m TPi #[.int .i64 pe, .int .i64 pn, .int .i64 pa, .int .i64 po, .slice A16 z z] := by
      rw [← hW6]
      have := (blk_set5 MM.out (.int .i64 pe) (.int .i64 pn) (.int .i64 pa) (.int .i64 po) (.slice none 0 0)).set 4 (.slice A16 z z)
      simpa using this
    have hE6 : Blk W6 w.heap.size TPi #[.int .i64 0, .int .i64 0, .int .i64 0, .int .i64 0, .slice none 0 0] := by
      rw [← hW6]
      exact (blk_far5 E2.out hwm _ _ _ _ _).far hwm _
    have hG6 : Blk W6 g TSe (nums .u8 bs).toArray := by
      rw [← hW6]
      exact (blk_far5 G2'.out hgm _ _ _ _ _).far hgm _
    have hb6 : Below w.heap.size w W6 := by
      rw [← hW6]
      exact (below_set5 B2.out (Nat.le_of_lt hm) _ _ _ _ _).setCell (Nat.le_of_lt hm) _
    rw [hW6]
    clear hW6 G0 G1 G2 G3 G4 K0 K1 K2 K3 K4 M0 M1 M2 M3 M4 L0 L1 L2 L3 L4 c15 hgl hml hwl
    have M6 := Aside0.mk hM6
    have E6 := Aside0.mk hE6
    have G6 := Aside0.mk hG6
    have B6 := Aside0.mk hb6
    have hml := hM6.lt
    have hel := hE6.lt
    have m0 := hM6.cell 0
    have m1 := hM6.cell 1
    have m2 := hM6.cell 2
    have m3 := hM6.cell 3
    have m4 := hM6.cell 4
    have x0 := hE6.cell 0
    have k0 := hE6.frozen 0
    have x1 := hE6.cell 1
    have k1 := hE6.frozen 1
    have x2 := hE6.cell 2
    have k2 := hE6.frozen 2
    have x3 := hE6.cell 3
    have k3 := hE6.frozen 3
    have x4 := hE6.cell 4
    have k4 := hE6.frozen 4
    clear hM6 hE6 hG6 hb6 MM E2 B2 G2'
    by_cases hc1 : po ≤ pa
    · have u1 : decide (pa ≥ po) = true := decide_eq_true hc1
      have hok : Aside0 (okV bs = false) := ⟨by
        unfold okV
        rw [HP.out.2.2.1, HP.out.2.2.2, decide_eq_true hc1]
        simp⟩
      clear hc1
      go_wp2
      have hEf := blk_set5 E6.out (.int .i64 0) (.int .i64 0) (.int .i64 0) (.int .i64 0) (.slice none 0 0)
      have hbf := below_set5 B6.out (Nat.le_refl w.heap.size) (.int .i64 0) (.int .i64 0) (.int .i64 0) (.int .i64 0) (.slice none 0 0)
      have e0 := hEf.cell 0
      have e1 := hEf.cell 1
      have e2 := hEf.cell 2
      have e3 := hEf.cell 3
      have e4 := hEf.cell 4
      refine bodyPost_ret (v := .tuple #[.agg (pieceC ⟨0, 0, 0, 0, []⟩ none 0), .bool false]) ?_ rfl ⟨hbf, ⟨0, 0, 0, 0, []⟩, none, 0, by rw [hok.out], fun h => by rw [hok.out] at h; cases h⟩
      simp [results, Try.results53, go_sem, e0, e1, e2, e3, e4]
    · have u1 : decide (pa ≥ po) = false := decide_eq_false hc1
      by_cases hc2 : pa < po - 1 ∧ z < 108
      · have u2 : decide (pa < po - 1) = true := decide_eq_true hc2.1
        have u3 : decide ((z : Int) < 108) = true := decide_eq_true (by omega)
        have hok : Aside0 (okV bs = false) := ⟨by
          unfold okV
          rw [HP.out.2.2.1, HP.out.2.2.2, HZ.out, decide_eq_true hc2.1, u3]
          simp⟩
        clear hc1 hc2
        go_wp2
        have hEf := blk_set5 E6.out (.int .i64 0) (.int .i64 0) (.int .i64 0) (.int .i64 0) (.slice none 0 0)
        have hbf := below_set5 B6.out (Nat.le_refl w.heap.size) (.int .i64 0) (.int .i64 0) (.int .i64 0) (.int .i64 0) (.slice none 0 0)
        have e0 := hEf.cell 0
        have e1 := hEf.cell 1
        have e2 := hEf.cell 2
        have e3 := hEf.cell 3
        have e4 := hEf.cell 4
        refine bodyPost_ret (v := .tuple #[.agg (pieceC ⟨0, 0, 0, 0, []⟩ none 0), .bool false]) ?_ rfl ⟨hbf, ⟨0, 0, 0, 0, []⟩, none, 0, by rw [hok.out], fun h => by rw [hok.out] at h; cases h⟩
        simp [results, Try.results53, go_sem, e0, e1, e2, e3, e4]
      · have hok : Aside0 (okV bs = decide (bs = bytesV (pieceV bs))) := ⟨by
          unfold okV
          rw [HP.out.2.2.1, HP.out.2.2.2, HZ.out, decide_eq_true (by omega), decide_eq_false hc1]
          have : (decide (pa < po - 1) && decide ((z : Int) < 108)) = false := by
            rw [← Bool.decide_and, decide_eq_false_iff_not]
            rintro ⟨h1, h2⟩
            exact hc2 ⟨h1, by omega⟩
          rw [this]
          rfl⟩
        go_cut [49] (fun v49 wx => v49 = .bool false ∧ wx = W6)
        case first =>
          by_cases hc3 : pa < po - 1
          · have u2 : decide (pa < po - 1) = true := decide_eq_true hc3
            have u3 : decide ((z : Int) < 108) = false := decide_eq_false (by omega)
            clear hc1 hc2 hc3
            go_wp2_with fail
            go_meet
            exact ⟨rfl, rfl⟩
          · have u2 : decide (pa < po - 1) = false := decide_eq_false hc3
            clear hc1 hc2 hc3
            go_wp2_with fail
            go_meet
            exact ⟨rfl, rfl⟩
        case rest =>
        obtain ⟨rfl, hwc⟩ := hcut
        have hwc := hwc.symm
        subst hwc
        clear hc1 hc2 u1
        have hzl : (pieceV bs).b.length = z := by
          show ((bs.drop 16).take (sizeV bs).toNat).length = z
          rw [HZ.out, List.length_take, List.length_drop, HL.out]
          omega
        have hAd : ∀ ad, A16 = some ad → ad.block = g := fun ad e => by
          rw [← HA0.out] at e
          split at e <;> (cases e; rfl)
        have hRd : ∀ w', Below W6.heap.size W6 w' → ReadsInt w' .u8 A16 z (pieceV bs).b := fun w' hb => by
          by_cases h0 : z = 0
          · exact ⟨hzl, by omega, fun h => absurd h (by omega)⟩
          · have := blk_sub (G6.out.below hb) 16 z (by rw [HL.out]; omega) (by omega)
            rw [← HA0.out, if_neg h0]
            show ReadsInt w' .u8 (some ⟨g, 16, none⟩) z ((bs.drop 16).take (sizeV bs).toNat)
            rw [HZ.out, Int.toNat_natCast]
            exact this
        have KB : ∀ w', Below W6.heap.size W6 w' → Calls Try.prog 42 #[.agg #[.int .i64 pe, .int .i64 pn, .int .i64 pa, .int .i64 po, .slice A16 z z]] w' fun e w'' => ∃ v, e = .returned v ∧ Kd.R (Kd.int .u8) 5 w'' w'.heap.size (fun _ => True) v (bytesV (pieceV bs)) ∧ Below w'.heap.size w' w'' := fun w' hb => by
          have := bytes_calls (pieceV bs) ((HBY.out.drop 16).take _) (by omega) A16 z z hzl (Nat.le_refl _) w' (hRd w' hb)
          rw [HP.out.1, HP.out.2.1, HP.out.2.2.1, HP.out.2.2.2] at this
          exact this
        have hbl : (bytesV (pieceV bs)).length = 128 := bytesV_length (by omega)
        obtain ⟨q, hq⟩ : ∃ q, pieceV bs = q := ⟨_, rfl⟩
        rw [hq] at hok hzl hRd KB hbl
        have HQ := Aside0.mk (⟨hq, hzl, hAd⟩ : _ ∧ _ ∧ _)
        have KB := Aside0.mk KB
        have KR := Aside0.mk hRd
        have HBL := Aside0.mk hbl
        have hHP := HP.out
        rw [hq] at hHP
        have HP2 := Aside0.mk hHP
        clear hq hzl hAd hRd hbl HP hHP
        have HST : Qw.Stb (fun w' => Blk w' m TPi #[.int .i64 pe, .int .i64 pn, .int .i64 pa, .int .i64 po, .slice A16 z z] ∧ Below W6.heap.size W6 w') := fun w1 w2 h hb => ⟨h.1.below hb, h.2.trans (hb.mono h.2.size)⟩
        have HE0 : Blk W6.drew m TPi #[.int .i64 pe, .int .i64 pn, .int .i64 pa, .int .i64 po, .slice A16 z z] ∧ Below W6.heap.size W6 W6.drew := ⟨M6.out.drew, (Below.refl _ _).drew⟩
        clear m0 m1 m2 m3 m4 x0 x1 x2 x3 x4 k0 k1 k2 k3 k4
        go_wp2_with fail
        refine Qw.wp_region_tail (SR bs q) _ HST 5 (by kernel_rfl) (by kernel_rfl) HE0 ?_
        clear HST HE0
        simp only [List.take_succ_cons, List.take_zero, List.drop_succ_cons, List.drop_zero]
        iterate 3 ((first | (with_reducible refine Qw.w_val ⟨fun _ _ _ hF h w' h1 h2 => h w' h1 fun k => hF k _ (h2 k)⟩ ?_ (Qw.wanted_none rfl) ?_) | ((with_reducible refine Qw.w_val ⟨fun _ _ _ hF h w' h1 h2 => h w' h1 fun k => hF k _ (h2 k)⟩ ?_ ?_ ?_); (focus (exact fun _ => trivial)); (focus (exact Qg.wanted_on rfl rfl rfl)))); (try (focus (exact fun _ => trivial))); apply Exists.intro; refine ⟨?_, ?_⟩; (focus (intro w' hw' hp'; have c0 := hw'.1.cell 0; have c1 := hw'.1.cell 1; have c2 := hw'.1.cell 2; have c3 := hw'.1.cell 3; have c4 := hw'.1.cell 4; have l0 := hw'.1.lt; go_simp; (first | done | (with_reducible rfl)))); intro K hK; go_simp; (first | (with_reducible refine hK _ ?_) | (refine hK _ ?_)); clear hK K)
        ((with_reducible refine Qw.w_call ?_ ?_); (first | (focus (exact Qw.wanted_none rfl)) | (focus (exact Qg.wanted_on rfl rfl rfl))); apply Exists.intro; apply Exists.intro; refine ⟨?_, ?_, ?_, ?_⟩; (focus (intro w'; go_simp; (first | rfl | exact ⟨rfl, rfl⟩))); (focus (exact fun u => sr_stb)); (focus (intro w' hw' hp'; refine (KB.out w' hw'.2).mono ?_; rintro e w8 ⟨v8, rfl, hR8, b8⟩; obtain ⟨A8, c8, rfl, hc8, hC8⟩ := Kd.R_reads hR8; rw [HBL.out] at hc8 hC8; exact ⟨_, rfl, b8, ⟨fun _ => ⟨A8, c8, by rw [HBL.out], hc8, hC8⟩, fun h => absurd h (by decide)⟩⟩)); rintro u8 ⟨wv8, -, -, hu8⟩; intro K hK; go_simp; (first | (with_reducible refine hK _ ?_) | (refine hK _ ?_)); clear hK K)
        obtain ⟨A8, c8, rfl, hc8, -⟩ := hu8.1 rfl
        clear hu8 wv8
        ((with_reducible refine Qw.w_call ?_ ?_); (first | (focus (exact Qw.wanted_none rfl)) | (focus (exact Qg.wanted_on rfl rfl rfl))); apply Exists.intro; apply Exists.intro; refine ⟨?_, ?_, ?_, ?_⟩; (focus (intro w'; go_simp; (first | rfl | exact ⟨rfl, rfl⟩))); (focus (exact fun u => sr_stb)); (focus (intro w' hw' hp'; have hf8 : SR bs q 42 #[.agg #[.int .i64 pe, .int .i64 pn, .int .i64 pa, .int .i64 po, .slice A16 z z]] (.slice A8 128 c8) w' := Qw.fact hp' 3 rfl; obtain ⟨A9, c9, e9, -, hC9⟩ := hf8.1 rfl; cases e9; refine (equal_calls bs (bytesV q) (by rw [HL.out]; decide) (some ⟨g, 0, none⟩) A8 128 128 128 c8 HL.out HBL.out (by decide) hc8 w' (Kd.C_of_reads (d := (0 : Int)) (blk_all (G6.out.below hw'.2) HL.out)) hC9).mono ?_; rintro e w9 ⟨rfl, b9⟩; exact ⟨_, rfl, b9, ⟨fun h => absurd h (by decide), fun _ => rfl⟩⟩)); rintro u9 ⟨wv9, -, -, hu9⟩; intro K hK; go_simp; (first | (with_reducible refine hK _ ?_) | (refine hK _ ?_)); clear hK K)
        obtain rfl := hu9.2 rfl
        clear hu9 wv9
        ((with_reducible refine Qw.w_nil ?_); intro w' hw' hf')
        have hE7 := E6.out.below hw'.2
        have hb7 := B6.out.trans (hw'.2.mono B6.out.size)
        have hRd := KR.out w' hw'.2
        have hel := hE7.lt
        have x0 := hE7.cell 0
        have k0 := hE7.frozen 0
        have x1 := hE7.cell 1
        have k1 := hE7.frozen 1
        have x2 := hE7.cell 2
        have k2 := hE7.frozen 2
        have x3 := hE7.cell 3
        have k3 := hE7.frozen 3
        have x4 := hE7.cell 4
        have k4 := hE7.frozen 4
        have E7 := Aside0.mk hE7
        have B7 := Aside0.mk hb7
        have R7 := Aside0.mk hRd
        clear hf' hw' hE7 hb7 hRd KB KR hc8
        go_wp2
        have hEf := blk_set5 E7.out (.int .i64 pe) (.int .i64 pn) (.int .i64 pa) (.int .i64 po) (.slice A16 z z)
        have hbf := below_set5 B7.out (Nat.le_refl w.heap.size) (.int .i64 pe) (.int .i64 pn) (.int .i64 pa) (.int .i64 po) (.slice A16 z z)
        have e0 := hEf.cell 0
        have e1 := hEf.cell 1
        have e2 := hEf.cell 2
        have e3 := hEf.cell 3
        have e4 := hEf.cell 4
        obtain ⟨q0, q1, q2, q3⟩ := HP2.out
        obtain ⟨hq, hzl, hAd⟩ := HQ.out
        refine bodyPost_ret (v := .tuple #[.agg (pieceC q A16 z), .bool (okV bs)]) ?_ rfl ⟨hbf, q, A16, z, rfl, fun _ => ⟨hq.symm, hAd, by rw [hq, hzl], ?_⟩⟩
        · rw [hok.out]
          unfold pieceC
          rw [q0, q1, q2, q3, hzl]
          simp [results, Try.results53, go_sem, e0, e1, e2, e3, e4]
        · rw [hq, hzl]
          have hf : ∀ (W : World) (i : Nat) (u : Value), ReadsInt W .u8 A16 z q.b → ReadsInt (W.setCell ⟨w.heap.size, i, none⟩ u) .u8 A16 z q.b := fun W i u h => ⟨h.1, h.2.1, fun h0 => by
            obtain ⟨ad, e, hc⟩ := h.2.2 h0
            refine ⟨ad, e, fun j hj => ?_⟩
            rw [← hc j hj]
            refine cell_far _ _ _ _ ?_
            have := hAd ad e
            show (ad.add j).block ≠ w.heap.size
            rw [add_block, this]
            exact hgw⟩
          exact hf _ _ _ (hf _ _ _ (hf _ _ _ (hf _ _ _ (hf _ _ _ R7.out))))
end Go.Proofs.Ytddhngalokmdoaa.Spo
