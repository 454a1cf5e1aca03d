/- Texts of this claim, merged: Dr1. -/
import Derived.Test.YtddhngalokmdoaaMgFinds5
namespace Go.Proofs.Ytddhngalokmdoaa.Spo
open Go.RowKit Go.Proofs.YtddhngalokmdoaaW.PrintWords Go.Proofs.YtddhngalokmdoaaW.PrintLast Go.Proofs.YtddhngalokmdoaaW.PrintMore Go.Proofs.Ytddhngalokmdoaa.Arr Go.Proofs.Ytddhngalokmdoaa.PSpoolPlays
set_option linter.unusedVariables false
set_option linter.unusedSimpArgs false

abbrev TDs : TypeId := 46
abbrev docS (S : SpoolV) : Array Value := #[.int .i64 S.first, .int .i64 S.count, .int .i64 S.epoch, .int .i64 S.head, .int .i64 S.tail, .bool S.dead]
theorem infoDs : (Try.prog.info? TDs).map (·.size) = some 6 := by kernel_rfl
theorem run_newT {o : Oper} {a : Act} {w : World} {B : Nat} (T : TypeId) (Z : Array Value) (hz : ∀ w, (zeroValue T).run Try.prog w = .ok (.agg Z) w) (ho : o.op = .alloc T) (hB : B ≤ w.heap.size) : ∃ u w', (execOp a.eval o).run Try.prog w = .ok (.value u) w' ∧ Below w.heap.size w w' ∧ RNew B T Z u w' := by
  refine ⟨.pointer (some ⟨w.heap.size, 0, none⟩), w.alloc (.cells Z T), ?_, (Below.refl _ _).alloc (Nat.le_refl _) _, w.heap.size, rfl, hB, Blk.new _ _ _⟩
  have hr : (Instr.alloc T true (.tuple #[])).run Try.prog w = .ok (.pointer (some ⟨w.heap.size, 0, none⟩)) (w.alloc (.cells Z T)) := by
    unfold Instr.alloc
    rw [Sem.run_bind, hz]
    rfl
  unfold execOp
  simp only [ho, Sem.run_bind, hr, Result.andThen_ok, Sem.run_pure]
theorem exec_load_doc {o : Oper} {a : Act} {w : World} (x : Operand) (ho : o.op = .load TDt x) (g : Nat) (hx : a.eval x = .pointer (some ⟨g, 0, none⟩)) {U : TypeId} (D : Array Value) (hb : Blk w g U D) (hl : D.size = 5) :
    (execOp a.eval o).run Try.prog w = .ok (.value (.agg D)) w := by
  have := exec_load_mid (P := Try.prog) (o := o) (a := a) (w := w) TDt x ho g 0 hx D.toList _ (fun j v hj => by rw [Nat.zero_add, hb.cell]; simpa using hj) Try.underlying34 rfl (by rw [infoDt]; simp [hl])
  simpa using this
def SRd (bs : List Int) (f : FuncId) (args : Array Value) (u : Value) (w : World) : Prop := f = 31 → u = .agg (numsA .u8 bs)
theorem srd_stb {bs : List Int} {f : FuncId} {args : Array Value} {u : Value} : Qw.Stb (SRd bs f args u) := fun w w' h hb => h
def SGt (e o : Int) (f : FuncId) (args : Array Value) (u : Value) (w : World) : Prop := (args[1]? = some (.int .i64 1) → u = .int .i64 e) ∧ (args[1]? = some (.int .i64 13) → u = .int .i64 o)
theorem sgt_stb {e o : Int} {f : FuncId} {args : Array Value} {u : Value} : Qw.Stb (SGt e o f args u) := fun w w' h hb => h
def SSe (bs : List Int) (f : FuncId) (args : Array Value) (u : Value) (w : World) : Prop := f = 45 → u = .agg (numsA .u8 bs)
theorem sse_stb {bs : List Int} {f : FuncId} {args : Array Value} {u : Value} : Qw.Stb (SSe bs f args u) := fun w w' h hb => h
theorem run_cut (g z : Nat) (hz : z ≤ 108) (w : World) : (Instr.sliceAt TDa (.pointer (some ⟨g, 0, none⟩)) (some (.int .i64 16)) (some (.int .i64 (16 + (z : Int)))) none).run Try.prog w = .ok (.slice (some ⟨g, 16, none⟩) z 112) w := by
  have hl : Try.prog.arrayLen TDa = 128 := by kernel_rfl
  have he : Try.prog.elem TDa = 5 := by kernel_rfl
  have hu : Try.prog.underlying TDa = some (.array (Try.prog.arrayLen TDa) (Try.prog.elem TDa)) := by rw [hl, he]; exact Try.underlying71
  rw [run_sliceAt_array_lh (P := Try.prog) w TDa ⟨g, 0, none⟩ hu .i64 .i64 16 (16 + (z : Int)) (by decide) (by omega) (by rw [hl]; omega), he]
  obtain ⟨i0, hi0, hzz⟩ := Option.map_eq_some_iff.1 infoU8
  simp only [Prod.mk.injEq] at hzz
  have hs : (sizeOf 5).run Try.prog w = .ok 1 w := by simp [sizeOf, typeInfo, Sem.run_bind, hi0, hzz.2.1]
  rw [hs, hl]
  have e : (16 + (z : Int)).toNat = 16 + z := by omega
  show Result.ok (slicedAt ⟨g, 0, none⟩ 16 (16 + (z : Int)).toNat 128 1) w = _
  rw [e]
  unfold slicedAt
  rw [if_neg (by decide)]
  simp [Addr.add]
theorem reads_mid {w : World} {g : Nat} {T : TypeId} {k : IntKind} {xs : List Int} {a m : Nat} (h : Blk w g T (numsA k xs)) (hm : a + m ≤ xs.length) (hx : xs.length ≤ 9223372036854775807) : ReadsInt w k (some ⟨g, a, none⟩) m ((xs.drop a).take m) := by
  refine ⟨by rw [List.length_take, List.length_drop]; omega, by omega, fun _ => ⟨_, rfl, fun j hj => ?_⟩⟩
  rw [show (⟨g, a, none⟩ : Addr).add j = ⟨g, a + j, none⟩ from Addr.add_lit .., h.cell, numsA_get _ _ (a + j) (by omega)]
  simp only [List.getD, List.getElem?_take_of_lt hj, List.getElem?_drop]
set_option maxHeartbeats 16000000 in
set_option maxRecDepth 100000 in
theorem drecord_calls (nk : Nat) (K C : Value) (V : TrayV) (m : Nat) (w : World) (H : DocT w K C V m) (hS : Sound V) (hB : BytesT V) (hk : V.kept.length = nk) (hm : m ≤ 900000000) (l : Int) (d : Bool) (S : SpoolV) (hF : (0 ≤ S.first ∧ S.first ≤ 4096) ∧ (2 ≤ S.count ∧ S.count ≤ 4096)) (hR : S.first + S.count ≤ nk)
    (n : Int) (hn : 0 ≤ n ∧ n ≤ 140737480000000) :
    Calls Try.prog 39 #[.agg (docC nk K C l d), .agg (docS S), .int .i64 n] w (RecPost V S n w) := by
  have hon : ∀ k : Int, 0 ≤ k → ∃ a : Nat, onV S k = (a : Int) ∧ a < nk := fun k hk => by
    have h1 := Int.emod_nonneg k (show S.count ≠ 0 by omega)
    have h2 := Int.emod_lt_of_pos k (show 0 < S.count by omega)
    exact ⟨(onV S k).toNat, by unfold onV; omega, by unfold onV; omega⟩
  have hsl : ∀ k : Int, 0 ≤ k → (secV V S k).length = 128 := fun k hk2 => by
    obtain ⟨a, e1, e2⟩ := hon k hk2
    refine hS.read ?_
    unfold hasV
    rw [e1, decide_eq_true (by omega), decide_eq_true (by omega)]
    rfl
  have hsb : ∀ k : Int, 0 ≤ k → Bytes (secV V S k) := fun k hk2 => by
    obtain ⟨a, e1, e2⟩ := hon k hk2
    refine hB.read ?_
    unfold hasV
    rw [e1, decide_eq_true (by omega), decide_eq_true (by omega)]
    rfl
  have KR := Aside0.mk (fun (k : Int) (hk0 : 0 ≤ k) w' (hb : Below w.heap.size w w') => show Calls Try.prog 31 #[.agg (docC nk K C l d), .int .i64 (onV S k)] w' _ by
    obtain ⟨a, e1, e2⟩ := hon k hk0
    have := dread_calls nk K C V m w' (H.below hb) hS hk hm l d a e2
    rw [← e1] at this
    exact this)
  have hdoc := doc_rec hsl hsb ⟨hn.1, by omega⟩ hF.2.2
  unfold RecPost
  rw [← hdoc]
  have HL := Aside0.mk (⟨hsl, hsb, hF, hn⟩ : _ ∧ _ ∧ _ ∧ _)
  obtain ⟨A1, A2, n1, n2, c1, c2, rfl, rfl, -⟩ := H.form
  obtain ⟨D, hD⟩ : ∃ D, docC nk (.slice A1 n1 c1) (.slice A2 n2 c2) l d = D := ⟨_, rfl⟩
  have hD5 : D.size = 5 := by rw [← hD]; rfl
  rw [hD] at KR
  rw [hD]
  obtain ⟨h, hh⟩ : ∃ h, w.heap.size = h := ⟨_, rfl⟩
  have HH := Aside0.mk hh
  obtain ⟨W2, hW2⟩ : ∃ W2, (w.alloc (.cells D TDt)).alloc (.cells (docS S) TDs) = W2 := ⟨_, rfl⟩
  have HW2 := Aside0.mk hW2
  have P2 := Aside0.mk (by rw [← hW2]; exact (Blk.newAt hh.symm).alloc _ : Blk W2 h TDt D)
  have S2 := Aside0.mk (by rw [← hW2]; exact Blk.newAt (by simp [hh]) : Blk W2 (h + 1) TDs (docS S))
  have L2 := Aside0.mk (by rw [← hW2]; exact below_alloc (below_alloc (Below.refl _ _) _) _ : Below w.heap.size w W2)
  have HD5 := Aside0.mk hD5
  have hzr := zeroDa
  obtain ⟨Z, hZ⟩ : ∃ Z, numsA .u8 zB = Z := ⟨_, rfl⟩
  rw [hZ] at hzr
  have HZ := Aside0.mk (⟨hZ, by rw [← hZ, numsA_size, zB_length]⟩ : _ ∧ Z.size = 128)
  have HZR := Aside0.mk hzr
  have h1 := Int.emod_nonneg n (show S.count ≠ 0 by omega)
  have h2 := Int.emod_lt_of_pos n (show 0 < S.count by omega)
  have z0 : (S.count == 0) = false := by simp; omega
  have z1 : (S.count = 0) = False := eq_false (by omega)
  have z2 : decide (S.count = 0) = false := decide_eq_false (by omega)
  have z3 : n.tmod S.count = n % S.count := Int.tmod_eq_emod_of_nonneg hn.1
  have w1 : IntKind.i64.wrap (n % S.count) = n % S.count := IntWalk.i64_in _ (by omega)
  have w2 : IntKind.i64.wrap (S.first + n % S.count) = onV S n := IntWalk.i64_in _ (by omega)
  clear hon hsl hsb hdoc hD hh hW2 hZ hzr h1 h2 hD5 H hS hB hk hm hF hR hn
  go_enter Try.func39, Try.ntmps39
  go_upto_region 2 with fail
  have s1 : (w.alloc (.cells D TDt)).heap.size = h + 1 := by simp [HH.out]
  try rw [HW2.out]
  try rw [s1]
  try rw [HH.out]
  obtain ⟨wo, hwo⟩ : ∃ wo, wo = W2 := ⟨_, rfl⟩
  subst hwo
  have HST : Qw.Stb (fun w' => Blk w' h TDt D ∧ Blk w' (h + 1) TDs (docS S) ∧ Below wo.heap.size wo w') := fun w1 w2 kk hb => ⟨kk.1.below hb, kk.2.1.below hb, kk.2.2.trans (hb.mono kk.2.2.size)⟩
  have HE0 : Blk wo.drew h TDt D ∧ Blk wo.drew (h + 1) TDs (docS S) ∧ Below wo.heap.size wo wo.drew := ⟨P2.out.drew, S2.out.drew, (Below.refl _ _).drew⟩
  clear HW2 s1
  go_wp2_with fail
  refine Qw.wp_region_tail (SRd (secV V S n)) _ HST 10 (by kernel_rfl) (by kernel_rfl) HE0 ?_
  clear HST HE0
  simp only [List.take_succ_cons, List.take_zero, List.drop_succ_cons, List.drop_zero]
  ((first | (with_reducible refine Qw.w_val ⟨fun _ _ _ hF h w' h1 h2 => h w' h1 fun k => hF k _ (h2 k)⟩ ?_ (Qw.wanted_none rfl) ?_) | ((with_reducible refine Qw.w_val ⟨fun _ _ _ hF h w' h1 h2 => h w' h1 fun k => hF k _ (h2 k)⟩ ?_ ?_ ?_); (focus (exact fun _ => trivial)); (focus (exact Qg.wanted_on rfl rfl rfl)))); (try (focus (exact fun _ => trivial))); apply Exists.intro; refine ⟨?_, ?_⟩; (focus (intro w' hw' hp'; exact exec_load_doc _ rfl h rfl D hw'.1 HD5.out)); intro K hK; go_simp; (first | (with_reducible refine hK _ ?_) | (refine hK _ ?_)); clear hK K)
  iterate 7 ((first | (with_reducible refine Qw.w_val ⟨fun _ _ _ hF h w' h1 h2 => h w' h1 fun k => hF k _ (h2 k)⟩ ?_ (Qw.wanted_none rfl) ?_) | ((with_reducible refine Qw.w_val ⟨fun _ _ _ hF h w' h1 h2 => h w' h1 fun k => hF k _ (h2 k)⟩ ?_ ?_ ?_); (focus (exact fun _ => trivial)); (focus (exact Qg.wanted_on rfl rfl rfl)))); (try (focus (exact fun _ => trivial))); apply Exists.intro; refine ⟨?_, ?_⟩; (focus (intro w' hw' hp'; have e0 := hw'.2.1.cell 0; have e1 := hw'.2.1.cell 1; have el := hw'.2.1.lt; go_simp; (first | done | (with_reducible rfl)))); intro K hK; go_simp; (first | (with_reducible refine hK _ ?_) | (refine hK _ ?_)); clear hK K)
  ((with_reducible refine Qw.w_call ?_ ?_); (first | (focus (exact Qw.wanted_none rfl)) | (focus (exact Qg.wanted_on rfl rfl rfl))); apply Exists.intro; apply Exists.intro; refine ⟨?_, ?_, ?_, ?_⟩; (focus (intro w'; go_simp; (first | rfl | exact ⟨rfl, rfl⟩))); (focus (exact fun u => srd_stb)); (focus (intro w' hw' hp'; refine (KR.out n HL.out.2.2.2.1 w' (L2.out.trans (hw'.2.2.mono L2.out.size))).mono ?_; rintro e w8 ⟨rfl, b8⟩; exact ⟨_, rfl, b8, fun _ => rfl⟩)); rintro u8 ⟨wv8, -, -, hu8⟩; intro K hK; go_simp; (first | (with_reducible refine hK _ ?_) | (refine hK _ ?_)); clear hK K)
  obtain rfl := hu8 rfl
  clear hu8 wv8
  ((with_reducible refine Qw.w_make (RNew wo.heap.size TDa Z) ?_ (Qw.wanted_none rfl) ⟨?_, ?_⟩); (focus (exact rnew_stb)); (focus (intro w' hw' hp'; exact run_newT TDa Z HZR.out rfl hw'.2.2.size)); rintro u9 ⟨wv9, -, -, g9, rfl, -, -⟩; intro K hK; go_simp; (first | (with_reducible refine hK _ ?_) | (refine hK _ ?_)); clear hK K)
  clear wv9
  ((with_reducible refine Qw.w_nil ?_); intro w' hw' hf')
  obtain ⟨g9', e9, hg9, hG9⟩ : RNew wo.heap.size TDa Z (.pointer (some ⟨g9, 0, none⟩)) w' := hf' 9
  obtain rfl : g9 = g9' := by injection e9 with e9; injection e9 with e9; injection e9
  have hgh : h + 1 < g9 := by have := S2.out.lt; omega
  have HGH := Aside0.mk hgh
  have hsz : (numsA .u8 (secV V S n)).size = 128 := by rw [numsA_size]; exact HL.out.1 n HL.out.2.2.2.1
  obtain ⟨W3, hW3⟩ : ∃ W3, w'.setRow g9 (numsA .u8 (secV V S n)) = W3 := ⟨_, rfl⟩
  have HW3 := Aside0.mk hW3
  have G9 := Aside0.mk hG9
  have P3 := Aside0.mk (by rw [← hW3]; exact hw'.1.rowFar (by omega) _ : Blk W3 h TDt D)
  have S3 := Aside0.mk (by rw [← hW3]; exact hw'.2.1.rowFar (by omega) _ : Blk W3 (h + 1) TDs (docS S))
  have G3 := Aside0.mk (by rw [← hW3]; exact hG9.row _ : Blk W3 g9 TDa (numsA .u8 (secV V S n)))
  have L3 := Aside0.mk (by rw [← hW3]; exact below_setRow (L2.out.trans (hw'.2.2.mono L2.out.size)) (by have := HH.out; omega) _ : Below w.heap.size w W3)
  clear hf' hw' hG9 e9 hg9 hW3 hgh P2 S2 L2 z0 z1 z2 z3 w1 w2
  go_upto_region 3 with (with_reducible refine wpList_store_blk rfl TDa (.tmp 10) _ rfl _ _ rfl rfl infoDa hsz (numsA_one _ _) G9.out HZ.out.2 ?_)
  rw [HW3.out]
  clear HW3 G9
  have KG1 := Aside0.mk (fun w' => dget_calls (secV V S n) (HL.out.1 n HL.out.2.2.2.1) (HL.out.2.1 n HL.out.2.2.2.1) 1 4 (by decide) (by decide) w')
  have KG2 := Aside0.mk (fun w' => dget_calls (secV V S n) (HL.out.1 n HL.out.2.2.2.1) (HL.out.2.1 n HL.out.2.2.2.1) 13 2 (by decide) (by decide) w')
  have heb := getV_lt (a := 1) (k := 4) (HL.out.2.1 n HL.out.2.2.2.1) (by rw [HL.out.1 n HL.out.2.2.2.1]; decide) (by decide)
  have hob := getV_lt (a := 13) (k := 2) (HL.out.2.1 n HL.out.2.2.2.1) (by rw [HL.out.1 n HL.out.2.2.2.1]; decide) (by decide)
  obtain ⟨ep, hep⟩ : ∃ ep, (atV V S n).epoch = ep := ⟨_, rfl⟩
  obtain ⟨of, hof⟩ : ∃ of, (atV V S n).of = of := ⟨_, rfl⟩
  have hep' : getV (secV V S n) 1 4 = ep := hep
  have hof' : getV (secV V S n) 13 2 = of := hof
  rw [hep'] at KG1 heb
  rw [hof'] at KG2 hob
  have HEO := Aside0.mk (⟨hep, hof, heb, hob⟩ : _ ∧ _ ∧ _ ∧ _)
  have hbl := HL.out.1 n HL.out.2.2.2.1
  obtain ⟨b0, hb0⟩ : ∃ b0, secV V S n = b0 := ⟨_, rfl⟩
  rw [hb0] at KG1 KG2 G3 hbl
  have HB0 := Aside0.mk hb0
  have HBL := Aside0.mk hbl
  clear hep hof hep' hof' heb hob hb0 hbl hsz
  go_wp2_with fail
  obtain ⟨w3, hw3⟩ : ∃ w3, w3 = W3 := ⟨_, rfl⟩
  subst hw3
  have HST : Qw.Stb (fun w' => Blk w' g9 TDa (numsA .u8 b0) ∧ Below w3.heap.size w3 w') := fun w1 w2 kk hb => ⟨kk.1.below hb, kk.2.trans (hb.mono kk.2.size)⟩
  have HE0 : Blk w3.drew g9 TDa (numsA .u8 b0) ∧ Below w3.heap.size w3 w3.drew := ⟨G3.out.drew, (Below.refl _ _).drew⟩
  refine Qw.wp_region_all (SGt ep of) _ HST (by kernel_rfl) (by kernel_rfl) HE0 ?_
  clear HST HE0
  ((first | (with_reducible refine Qw.w_val ⟨fun _ _ _ hF h w' h1 h2 => h w' h1 fun k => hF k _ (h2 k)⟩ ?_ (Qw.wanted_none rfl) ?_) | ((with_reducible refine Qw.w_val ⟨fun _ _ _ hF h w' h1 h2 => h w' h1 fun k => hF k _ (h2 k)⟩ ?_ ?_ ?_); (focus (exact fun _ => trivial)); (focus (exact Qg.wanted_on rfl rfl rfl)))); (try (focus (exact fun _ => trivial))); apply Exists.intro; refine ⟨?_, ?_⟩; (focus (intro w' hw' hp'; exact exec_load_nums _ rfl g9 rfl b0 hw'.1 HBL.out)); intro K hK; go_simp; (first | (with_reducible refine hK _ ?_) | (refine hK _ ?_)); clear hK K)
  ((with_reducible refine Qw.w_call ?_ ?_); (first | (focus (exact Qw.wanted_none rfl)) | (focus (exact Qg.wanted_on rfl rfl rfl))); apply Exists.intro; apply Exists.intro; refine ⟨?_, ?_, ?_, ?_⟩; (focus (intro w'; go_simp; (first | rfl | exact ⟨rfl, rfl⟩))); (focus (exact fun u => sgt_stb)); (focus (intro w' hw' hp'; refine (KG1.out w').mono ?_; rintro e w8 ⟨rfl, b8⟩; exact ⟨_, rfl, b8, ⟨fun _ => rfl, fun h => by simp at h⟩⟩)); rintro u8 ⟨wv8, -, -, hu8⟩; intro K hK; go_simp; (first | (with_reducible refine hK _ ?_) | (refine hK _ ?_)); clear hK K)
  obtain rfl := hu8.1 rfl
  clear hu8 wv8
  ((first | (with_reducible refine Qw.w_val ⟨fun _ _ _ hF h w' h1 h2 => h w' h1 fun k => hF k _ (h2 k)⟩ ?_ (Qw.wanted_none rfl) ?_) | ((with_reducible refine Qw.w_val ⟨fun _ _ _ hF h w' h1 h2 => h w' h1 fun k => hF k _ (h2 k)⟩ ?_ ?_ ?_); (focus (exact fun _ => trivial)); (focus (exact Qg.wanted_on rfl rfl rfl)))); (try (focus (exact fun _ => trivial))); apply Exists.intro; refine ⟨?_, ?_⟩; (focus (intro w' hw' hp'; exact exec_load_nums _ rfl g9 rfl b0 hw'.1 HBL.out)); intro K hK; go_simp; (first | (with_reducible refine hK _ ?_) | (refine hK _ ?_)); clear hK K)
  ((with_reducible refine Qw.w_call ?_ ?_); (first | (focus (exact Qw.wanted_none rfl)) | (focus (exact Qg.wanted_on rfl rfl rfl))); apply Exists.intro; apply Exists.intro; refine ⟨?_, ?_, ?_, ?_⟩; (focus (intro w'; go_simp; (first | rfl | exact ⟨rfl, rfl⟩))); (focus (exact fun u => sgt_stb)); (focus (intro w' hw' hp'; refine (KG2.out w').mono ?_; rintro e w8 ⟨rfl, b8⟩; exact ⟨_, rfl, b8, ⟨fun h => by simp at h, fun _ => rfl⟩⟩)); rintro u8 ⟨wv8, -, -, hu8⟩; intro K hK; go_simp; (first | (with_reducible refine hK _ ?_) | (refine hK _ ?_)); clear hK K)
  obtain rfl := hu8.2 rfl
  clear hu8 wv8
  ((first | (with_reducible refine Qw.w_val ⟨fun _ _ _ hF h w' h1 h2 => h w' h1 fun k => hF k _ (h2 k)⟩ ?_ (Qw.wanted_none rfl) ?_) | ((with_reducible refine Qw.w_val ⟨fun _ _ _ hF h w' h1 h2 => h w' h1 fun k => hF k _ (h2 k)⟩ ?_ ?_ ?_); (focus (exact fun _ => trivial)); (focus (exact Qg.wanted_on rfl rfl rfl)))); (try (focus (exact fun _ => trivial))); apply Exists.intro; refine ⟨?_, ?_⟩; (focus (intro w' hw' hp'; skip; go_simp; (first | done | (with_reducible rfl)))); intro K hK; go_simp; (first | (with_reducible refine hK _ ?_) | (refine hK _ ?_)); clear hK K)
  ((first | (with_reducible refine Qw.w_val ⟨fun _ _ _ hF h w' h1 h2 => h w' h1 fun k => hF k _ (h2 k)⟩ ?_ (Qw.wanted_none rfl) ?_) | ((with_reducible refine Qw.w_val ⟨fun _ _ _ hF h w' h1 h2 => h w' h1 fun k => hF k _ (h2 k)⟩ ?_ ?_ ?_); (focus (exact fun _ => trivial)); (focus (exact Qg.wanted_on rfl rfl rfl)))); (try (focus (exact fun _ => trivial))); apply Exists.intro; refine ⟨?_, ?_⟩; (focus (intro w' hw' hp'; skip; go_simp; (first | done | (with_reducible rfl)))); intro K hK; go_simp; (first | (with_reducible refine hK _ ?_) | (refine hK _ ?_)); clear hK K)
  ((with_reducible refine Qw.w_nil ?_); intro w' hw' hf')
  obtain ⟨w4, hw4⟩ : ∃ w4, w4 = w' := ⟨_, rfl⟩
  subst hw4
  have P4 := Aside0.mk (P3.out.below hw'.2)
  have S4 := Aside0.mk (S3.out.below hw'.2)
  have L4 := Aside0.mk (L3.out.trans (hw'.2.mono L3.out.size))
  clear hw' hf' P3 S3 L3 G3 KG1 KG2
  have s1 := S4.out.cell 1
  have sl := S4.out.lt
  by_cases h1 : of < 1
  · have t1 : decide (of < 1) = true := decide_eq_true h1
    have hbad : docOk V S n = false := by unfold docOk; rw [HEO.out.2.1, decide_eq_false (by omega)]; rfl
    have HBAD := Aside0.mk hbad
    clear h1 hbad
    go_wp2
    refine bodyPost_ret (v := .tuple #[.slice none 0 0, .int .i64 0, .int .i64 0]) ?_ rfl ⟨L4.out, .inr ⟨HBAD.out, rfl⟩⟩
    simp [results, Try.results39, go_sem]
  have t1 : decide (of < 1) = false := decide_eq_false h1
  by_cases h2 : of > S.count
  · have t2 : decide (of > S.count) = true := decide_eq_true h2
    have hbad : docOk V S n = false := by unfold docOk; rw [HEO.out.2.1, decide_eq_false (show ¬ of ≤ S.count by omega), Bool.and_false]; rfl
    have HBAD := Aside0.mk hbad
    clear h1 h2 hbad
    go_wp2
    refine bodyPost_ret (v := .tuple #[.slice none 0 0, .int .i64 0, .int .i64 0]) ?_ rfl ⟨L4.out, .inr ⟨HBAD.out, rfl⟩⟩
    simp [results, Try.results39, go_sem]
  have t2 : decide (of > S.count) = false := decide_eq_false h2
  have HOF := Aside0.mk (by omega : 1 ≤ of ∧ of ≤ S.count)
  clear h1 h2
  go_wp2_with fail
  clear s1 sl t1 t2
  go_loopw [9, 13, 14, 15, 16] (fun v9 v13 v14 v15 v16 wr => ∃ i : Nat, v13 = .int .i64 (i : Int) ∧ Aside0 ((i : Int) ≤ of) ∧ Aside0 (∀ j, j < i → stepOk V S n j = true) ∧ Aside0 (Row wr w.heap.size TU8 .u8 v9 (bodyR V S n i)) ∧ Aside0 (Blk wr h TDt D) ∧ Aside0 (Blk wr (h + 1) TDs (docS S)) ∧ Aside0 (Below w.heap.size w wr)) (fun _ v13 _ _ _ _ => (of - intOf v13).toNat)
  case atStart => exact ⟨0, rfl, ⟨by have := HOF.out; omega⟩, ⟨fun j hj => absurd hj (Nat.not_lt_zero _)⟩, ⟨Row.nil _ _ _ _⟩, P4, S4, L4⟩
  case round =>
    obtain ⟨i, rfl, hin, hst, hrow, hP, hS, hb⟩ := hrel
    have hcnt := HL.out.2.2.1.2
    by_cases hi : (i : Int) < of
    · have t1 : decide ((i : Int) < of) = true := decide_eq_true hi
      have hnn := HL.out.2.2.2
      have hofr := HOF.out
      obtain ⟨k, hkk⟩ : ∃ k, n + (i : Int) = k := ⟨_, rfl⟩
      have hk0 : 0 ≤ k := by omega
      have h1 := Int.emod_nonneg k (show S.count ≠ 0 by omega)
      have h2 := Int.emod_lt_of_pos k (show 0 < S.count by omega)
      have hf1 := HL.out.2.2.1.1
      have z0 : (S.count == 0) = false := by simp; omega
      have z1 : (S.count = 0) = False := eq_false (by omega)
      have z2 : decide (S.count = 0) = false := decide_eq_false (by omega)
      have z3 : k.tmod S.count = k % S.count := Int.tmod_eq_emod_of_nonneg hk0
      have w0 : IntKind.i64.wrap (n + (i : Int)) = k := by rw [hkk]; exact IntWalk.i64_in _ (by omega)
      have w1 : IntKind.i64.wrap (k % S.count) = k % S.count := IntWalk.i64_in _ (by omega)
      have w2 : IntKind.i64.wrap (S.first + k % S.count) = onV S k := IntWalk.i64_in _ (by omega)
      have w3 : IntKind.i64.wrap (of - 1) = of - 1 := IntWalk.i64_in _ (by omega)
      have w4 : IntKind.i64.wrap ((i : Int) + 1) = ((i + 1 : Nat) : Int) := by rw [show ((i : Int) + 1) = ((i + 1 : Nat) : Int) by omega]; exact IntWalk.i64_in _ (by omega)
      have HI := Aside0.mk (⟨hi, hkk, hk0, w3, w4, w0⟩ : _ ∧ _ ∧ _ ∧ _ ∧ _ ∧ _)
      have hbsl := HL.out.1 k hk0
      have hbsb := HL.out.2.1 k hk0
      have KRk := Aside0.mk (fun w' hb => KR.out k hk0 w' hb : ∀ w', Below w.heap.size w w' → Calls Try.prog 31 #[.agg D, .int .i64 (onV S k)] w' fun e w'' => e = .returned (.agg (numsA .u8 (secV V S k))) ∧ Below w'.heap.size w' w'')
      have hstep : stepOk V S n i = (!(decide (sizeV (secV V S k) > 108) || (decide ((i : Int) < of - 1) && decide (sizeV (secV V S k) < 108))) && decide (secV V S k = bytesV (pieceAt V S n i))) := by
        unfold stepOk
        rw [hkk, HEO.out.2.1]
      have hpb : (pieceAt V S n i).b = ((secV V S k).drop 16).take (sizeV (secV V S k)).toNat := by
        show (atV V S (n + i)).b = _
        rw [hkk]
        rfl
      obtain ⟨bs, hbs⟩ : ∃ bs, secV V S k = bs := ⟨_, rfl⟩
      rw [hbs] at hstep hpb hbsl hbsb
      rw [show readV V (onV S k) = bs from hbs] at KRk
      have hszb := size_byte hbsb
      have hsz2 : sizeV bs = bs.getD 15 0 := rfl
      obtain ⟨z, hz⟩ : ∃ z : Nat, sizeV bs = (z : Int) := ⟨(sizeV bs).toNat, by omega⟩
      rw [hz] at hstep hpb hszb hsz2
      rw [Int.toNat_natCast] at hpb
      have HBS := Aside0.mk (⟨hbsl, hbsb, hszb, hsz2, hstep, hpb⟩ : _ ∧ _ ∧ _ ∧ _ ∧ _ ∧ _)
      obtain ⟨wo, hwo⟩ : ∃ wo, wo = wr := ⟨_, rfl⟩
      subst hwo
      have HST : Qw.Stb (fun w' => Blk w' h TDt D ∧ Blk w' (h + 1) TDs (docS S) ∧ Below wo.heap.size wo w') := fun w1 w2 kk hb => ⟨kk.1.below hb, kk.2.1.below hb, kk.2.2.trans (hb.mono kk.2.2.size)⟩
      have HE0 : Blk wo.drew h TDt D ∧ Blk wo.drew (h + 1) TDs (docS S) ∧ Below wo.heap.size wo wo.drew := ⟨hP.out.drew, hS.out.drew, (Below.refl _ _).drew⟩
      clear hi h1 h2 hf1 hkk hk0 hbsl hbsb hszb hsz2 hstep hpb hbs hz w3 w4 hcnt hnn hofr
      go_upto_region 9 with fail
      go_wp2_with fail
      refine Qw.wp_region_tail (SRd bs) _ HST 12 (by kernel_rfl) (by kernel_rfl) HE0 ?_
      clear HST HE0
      simp only [List.take_succ_cons, List.take_zero, List.drop_succ_cons, List.drop_zero]
      ((first | (with_reducible refine Qw.w_val ⟨fun _ _ _ hF h w' h1 h2 => h w' h1 fun k => hF k _ (h2 k)⟩ ?_ (Qw.wanted_none rfl) ?_) | ((with_reducible refine Qw.w_val ⟨fun _ _ _ hF h w' h1 h2 => h w' h1 fun k => hF k _ (h2 k)⟩ ?_ ?_ ?_); (focus (exact fun _ => trivial)); (focus (exact Qg.wanted_on rfl rfl rfl)))); (try (focus (exact fun _ => trivial))); apply Exists.intro; refine ⟨?_, ?_⟩; (focus (intro w' hw' hp'; exact exec_load_doc _ rfl h rfl D hw'.1 HD5.out)); intro K hK; go_simp; (first | (with_reducible refine hK _ ?_) | (refine hK _ ?_)); clear hK K)
      iterate 9 ((first | (with_reducible refine Qw.w_val ⟨fun _ _ _ hF h w' h1 h2 => h w' h1 fun k => hF k _ (h2 k)⟩ ?_ (Qw.wanted_none rfl) ?_) | ((with_reducible refine Qw.w_val ⟨fun _ _ _ hF h w' h1 h2 => h w' h1 fun k => hF k _ (h2 k)⟩ ?_ ?_ ?_); (focus (exact fun _ => trivial)); (focus (exact Qg.wanted_on rfl rfl rfl)))); (try (focus (exact fun _ => trivial))); apply Exists.intro; refine ⟨?_, ?_⟩; (focus (intro w' hw' hp'; have e0 := hw'.2.1.cell 0; have e1 := hw'.2.1.cell 1; have el := hw'.2.1.lt; go_simp; (first | done | (with_reducible rfl)))); intro K hK; go_simp; (first | (with_reducible refine hK _ ?_) | (refine hK _ ?_)); clear hK K)
      ((with_reducible refine Qw.w_call ?_ ?_); (first | (focus (exact Qw.wanted_none rfl)) | (focus (exact Qg.wanted_on rfl rfl rfl))); apply Exists.intro; apply Exists.intro; refine ⟨?_, ?_, ?_, ?_⟩; (focus (intro w'; go_simp; (first | rfl | exact ⟨rfl, rfl⟩))); (focus (exact fun u => srd_stb)); (focus (intro w' hw' hp'; refine (KRk.out w' (hb.out.trans (hw'.2.2.mono hb.out.size))).mono ?_; rintro e w8 ⟨rfl, b8⟩; exact ⟨_, rfl, b8, fun _ => rfl⟩)); rintro u8 ⟨wv8, -, -, hu8⟩; intro K hK; go_simp; (first | (with_reducible refine hK _ ?_) | (refine hK _ ?_)); clear hK K)
      obtain rfl := hu8 rfl
      clear hu8 wv8
      ((with_reducible refine Qw.w_make (RNew wo.heap.size TDa Z) ?_ (Qw.wanted_none rfl) ⟨?_, ?_⟩); (focus (exact rnew_stb)); (focus (intro w' hw' hp'; exact run_newT TDa Z HZR.out rfl hw'.2.2.size)); rintro u9 ⟨wv9, -, -, g14, rfl, -, -⟩; intro K hK; go_simp; (first | (with_reducible refine hK _ ?_) | (refine hK _ ?_)); clear hK K)
      clear wv9
      ((with_reducible refine Qw.w_nil ?_); intro w' hw' hf')
      obtain ⟨g9', e9, hg9, hG9⟩ : RNew wo.heap.size TDa Z (.pointer (some ⟨g14, 0, none⟩)) w' := hf' 11
      obtain rfl : g14 = g9' := by injection e9 with e9; injection e9 with e9; injection e9
      have hgh : h + 1 < g14 := by have := hS.out.lt; omega
      have hsz : (numsA .u8 bs).size = 128 := by rw [numsA_size]; exact HBS.out.1
      obtain ⟨W3, hW3⟩ : ∃ W3, w'.setRow g14 (numsA .u8 bs) = W3 := ⟨_, rfl⟩
      have HW3 := Aside0.mk hW3
      have G9 := Aside0.mk hG9
      have P3 := Aside0.mk (by rw [← hW3]; exact hw'.1.rowFar (by omega) _ : Blk W3 h TDt D)
      have S3 := Aside0.mk (by rw [← hW3]; exact hw'.2.1.rowFar (by omega) _ : Blk W3 (h + 1) TDs (docS S))
      have G3 := Aside0.mk (by rw [← hW3]; exact hG9.row _ : Blk W3 g14 TDa (numsA .u8 bs))
      have b03 : Below wo.heap.size wo W3 := by rw [← hW3]; exact below_setRow hw'.2.2 hg9 _
      have L3 := Aside0.mk (hb.out.trans (b03.mono hb.out.size))
      have row3 := Aside0.mk (hrow.out.below b03)
      clear hf' hw' hG9 e9 hg9 hW3 hgh b03 z0 z1 z2 z3 w0 w1 w2
      go_upto_region 10 with (with_reducible refine wpList_store_blk rfl TDa (.tmp 14) _ rfl _ _ rfl rfl infoDa hsz (numsA_one _ _) G9.out HZ.out.2 ?_)
      rw [HW3.out]
      clear HW3 G9 hsz hrow hP hS hb
      have c15 := G3.out.cell 15
      rw [numsA_get _ _ 15 (by rw [HBS.out.1]; decide), ← HBS.out.2.2.2.1] at c15
      have gl := G3.out.lt
      have wz : IntKind.i64.wrap (z : Int) = (z : Int) := IntWalk.i64_in _ (by have := HBS.out; omega)
      go_upto_region 11 with fail
      clear c15 gl wz
      have hbadp : stepOk V S n i = false → docOk V S n = false := fun hb => by
        unfold docOk
        rw [HEO.out.2.1, Bool.and_eq_false_iff]
        refine .inr ?_
        rw [List.all_eq_false]
        exact ⟨i, List.mem_range.2 (by have := HI.out; omega), by rw [hb]; decide⟩
      have HBADP := Aside0.mk hbadp
      clear hbadp
      have w3 := HI.out.2.2.2.1
      by_cases c1 : (z : Int) > 108
      · have u1 : decide ((z : Int) > 108) = true := decide_eq_true c1
        have hbad := HBADP.out (by rw [HBS.out.2.2.2.2.1, u1]; simp)
        have HBAD := Aside0.mk hbad
        clear c1 hbad
        go_wp2
        refine bodyPost_ret (v := .tuple #[.slice none 0 0, .int .i64 0, .int .i64 0]) ?_ rfl ⟨L3.out, .inr ⟨HBAD.out, rfl⟩⟩
        simp [results, Try.results39, go_sem]
      have u1 : decide ((z : Int) > 108) = false := decide_eq_false c1
      by_cases c2 : (i : Int) < of - 1 ∧ (z : Int) < 108
      · have u2 : decide ((i : Int) < of - 1) = true := decide_eq_true c2.1
        have u3 : decide ((z : Int) < 108) = true := decide_eq_true c2.2
        have hbad := HBADP.out (by rw [HBS.out.2.2.2.2.1, u1, u2, u3]; rfl)
        have HBAD := Aside0.mk hbad
        clear c1 c2 hbad
        go_wp2
        refine bodyPost_ret (v := .tuple #[.slice none 0 0, .int .i64 0, .int .i64 0]) ?_ rfl ⟨L3.out, .inr ⟨HBAD.out, rfl⟩⟩
        simp [results, Try.results39, go_sem]
      obtain ⟨b2, hb2⟩ : ∃ b2, decide ((i : Int) < of - 1) = b2 := ⟨_, rfl⟩
      obtain ⟨b3, hb3⟩ : ∃ b3, decide ((z : Int) < 108) = b3 := ⟨_, rfl⟩
      have hbb : b2 = false ∨ (b2 = true ∧ b3 = false) := by
        rcases b2 with _ | _
        · exact .inl rfl
        · refine .inr ⟨rfl, ?_⟩
          rw [← hb3]
          exact decide_eq_false (fun h3 => c2 ⟨of_decide_eq_true hb2, h3⟩)
      have hs2 := HBS.out.2.2.2.2.1
      rw [u1, hb2, hb3, Bool.false_or] at hs2
      have hs3 : stepOk V S n i = decide (bs = bytesV (pieceAt V S n i)) := by
        rw [hs2]
        rcases hbb with rfl | ⟨rfl, rfl⟩ <;> rfl
      have HS3 := Aside0.mk (⟨hs3, by omega⟩ : _ ∧ z ≤ 108)
      clear hs2 hs3 c1 c2
      rcases hbb with rfl | ⟨rfl, rfl⟩
      case inl =>
        go_upto_region 13 with fail
        have wz2 : IntKind.i64.wrap (16 + (z : Int)) = 16 + (z : Int) := IntWalk.i64_in _ (by have := HS3.out.2; omega)
        have hcut := run_cut g14 z HS3.out.2
        have q2 : Row (W3.alloc (.cells #[] TU8)) w.heap.size TU8 .u8 (.slice (some ⟨W3.heap.size, 0, none⟩) 0 0) [] := Row.lit rfl L3.out.size (by simp [nums]) rfl (by simp)
        have q0 := L3.out.alloc L3.out.size (.cells #[] TU8)
        have q1 : ReadsInt (W3.alloc (.cells #[] TU8)) .u8 (some ⟨g14, 16, none⟩) z (pieceAt V S n i).b := by
          have := reads_mid (G3.out.alloc (.cells #[] TU8)) (a := 16) (m := z) (by rw [HBS.out.1]; have := HS3.out.2; omega) (by rw [HBS.out.1]; decide)
          rw [HBS.out.2.2.2.2.2]
          exact this
        have hlz : ([] : List Int).length + z ≤ 140737488355328 := by have := HS3.out.2; simp; omega
        have hpl : (pieceAt V S n i).b.length = z := q1.1
        have HPL := Aside0.mk hpl
        have tok1 : True := trivial
        go_upto_region 14 with (at_builtin; have _t := tok1; go_must (refine app8 (w0 := w) w.heap.size rfl _ _ rfl (.slice (some ⟨W3.heap.size, 0, none⟩) 0 0) [] (pieceAt V S n i).b (some ⟨g14, 16, none⟩) z (112) rfl rfl q2 q1 q0 q0.size hlz ?_); intro v6 w6 hv6 hb6 hg6 hat6; rw [List.nil_append] at hv6; obtain ⟨A6, c6, rfl, hr6⟩ := hv6.reads; rw [hpl] at hr6 hv6; rw [hpl]; have b36 : Below W3.heap.size W3 w6 := Below.grown ((Below.refl W3.heap.size W3).alloc (Nat.le_refl _) (.cells #[] TU8)) hg6 (by simp) (fun k hk => by have hk' : W3.heap.size = k := Option.some.inj hk; omega); have R6 := Aside0.mk (⟨hr6, hv6.cap_le⟩ : _ ∧ _); have B36 := Aside0.mk b36; clear _t tok1 hr6 hv6 hb6 hg6 hat6 b36 q1 q2 q0 hcut wz2)
        clear hpl hlz
        have G6 := Aside0.mk (G3.out.below B36.out)
        have P6 := Aside0.mk (P3.out.below B36.out)
        have S6 := Aside0.mk (S3.out.below B36.out)
        have L6 := Aside0.mk (L3.out.trans (B36.out.mono L3.out.size))
        have row6 := Aside0.mk (row3.out.below B36.out)
        obtain ⟨own, hown⟩ : ∃ own, (pieceAt V S n i).b = own := ⟨_, rfl⟩
        have hpp : pieceAt V S n i = ⟨ep, k, i, of, own⟩ := by
          rw [← hown]
          show (⟨(atV V S n).epoch, n + i, i, (atV V S n).of, (atV V S (n + i)).b⟩ : PieceV) = _
          rw [HEO.out.1, HEO.out.2.1, HI.out.2.1]
          show _ = (⟨ep, k, i, of, (atV V S (n + i)).b⟩ : PieceV)
          rw [HI.out.2.1]
        have hol : own.length = z := by rw [← hown]; exact HPL.out
        have hob : Bytes own := by
          rw [← hown, HBS.out.2.2.2.2.2]
          exact fun x hx => HBS.out.2.1 x (List.mem_of_mem_drop (List.mem_of_mem_take hx))
        have hr6 := R6.out.1
        rw [hown] at hr6
        have KSe := Aside0.mk (fun w' (hb : Below w6.heap.size w6 w') => sector_calls ⟨ep, k, i, of, own⟩ (by show own.length ≤ 108; rw [hol]; exact HS3.out.2) hob (by have := HEO.out.2.2.1; exact ⟨this.1, by show ep ≤ _; omega⟩) (by have := HI.out.2.2.1; have := HI.out.2.1; have := HL.out.2.2; have := HOF.out; have := HI.out.1; exact ⟨by show 0 ≤ k; omega, by show k ≤ _; omega⟩) (by have := HL.out.2.2; have := HOF.out; have := HI.out.1; exact ⟨by show (0 : Int) ≤ i; omega, by show (i : Int) ≤ _; omega⟩) (by have := HOF.out; have := HL.out.2.2; exact ⟨by show 0 ≤ of; omega, by show of ≤ _; omega⟩) A6 z c6 hol R6.out.2 w' (hr6.below hb))
        have hs3 := HS3.out.1
        rw [hpp] at hs3
        obtain ⟨bv, hbv⟩ : ∃ bv, bytesV ⟨ep, k, i, of, own⟩ = bv := ⟨_, rfl⟩
        have hbl := bytesV_length (p := ⟨ep, k, i, of, own⟩) (by show own.length ≤ 108; rw [hol]; exact HS3.out.2)
        have hbb := bytesV_bytes (p := ⟨ep, k, i, of, own⟩) hob
        rw [hbv] at hs3 hbl hbb KSe
        obtain ⟨q, hq⟩ : ∃ q, decide (bs = bv) = q := ⟨_, rfl⟩
        have eqd := fun w' => eq128 bs bv HBS.out.1 hbl HBS.out.2.1 hbb w'
        rw [hq] at hs3
        simp only [hq] at eqd
        have EQD := Aside0.mk eqd
        have HS4 := Aside0.mk (⟨hs3, hown⟩ : _ ∧ _)
        have w0 := HI.out.2.2.2.2.2
        obtain ⟨wp, hwp⟩ : ∃ wp, wp = w6 := ⟨_, rfl⟩
        subst hwp
        have HST : Qw.Stb (fun w' => Blk w' g14 TDa (numsA .u8 bs) ∧ Below wp.heap.size wp w') := fun w1 w2 kk hb => ⟨kk.1.below hb, kk.2.trans (hb.mono kk.2.size)⟩
        have HE0 : Blk wp.drew g14 TDa (numsA .u8 bs) ∧ Below wp.heap.size wp wp.drew := ⟨G6.out.drew, (Below.refl _ _).drew⟩
        clear hpp hol hob hr6 hs3 hbv hbl hbb hq hown eqd
        go_wp2_with fail
        refine Qw.wp_region_all (SSe bv) _ HST (by kernel_rfl) (by kernel_rfl) HE0 ?_
        clear HST HE0
        ((first | (with_reducible refine Qw.w_val ⟨fun _ _ _ hF h w' h1 h2 => h w' h1 fun k => hF k _ (h2 k)⟩ ?_ (Qw.wanted_none rfl) ?_) | ((with_reducible refine Qw.w_val ⟨fun _ _ _ hF h w' h1 h2 => h w' h1 fun k => hF k _ (h2 k)⟩ ?_ ?_ ?_); (focus (exact fun _ => trivial)); (focus (exact Qg.wanted_on rfl rfl rfl)))); (try (focus (exact fun _ => trivial))); apply Exists.intro; refine ⟨?_, ?_⟩; (focus (intro w' hw' hp'; exact exec_load_nums _ rfl g14 rfl bs hw'.1 HBS.out.1)); intro K hK; go_simp; (first | (with_reducible refine hK _ ?_) | (refine hK _ ?_)); clear hK K)
        iterate 7 ((first | (with_reducible refine Qw.w_val ⟨fun _ _ _ hF h w' h1 h2 => h w' h1 fun k => hF k _ (h2 k)⟩ ?_ (Qw.wanted_none rfl) ?_) | ((with_reducible refine Qw.w_val ⟨fun _ _ _ hF h w' h1 h2 => h w' h1 fun k => hF k _ (h2 k)⟩ ?_ ?_ ?_); (focus (exact fun _ => trivial)); (focus (exact Qg.wanted_on rfl rfl rfl)))); (try (focus (exact fun _ => trivial))); apply Exists.intro; refine ⟨?_, ?_⟩; (focus (intro w' hw' hp'; skip; go_simp; (first | done | (with_reducible rfl)))); intro K hK; go_simp; (first | (with_reducible refine hK _ ?_) | (refine hK _ ?_)); clear hK K)
        ((with_reducible refine Qw.w_call ?_ ?_); (first | (focus (exact Qw.wanted_none rfl)) | (focus (exact Qg.wanted_on rfl rfl rfl))); apply Exists.intro; apply Exists.intro; refine ⟨?_, ?_, ?_, ?_⟩; (focus (intro w'; go_simp; (first | rfl | exact ⟨rfl, rfl⟩))); (focus (exact fun u => sse_stb)); (focus (intro w' hw' hp'; refine (KSe.out w' hw'.2).mono ?_; rintro e w8 ⟨rfl, b8⟩; exact ⟨_, rfl, b8, fun _ => rfl⟩)); rintro u8 ⟨wv8, -, -, hu8⟩; intro K hK; go_simp; (first | (with_reducible refine hK _ ?_) | (refine hK _ ?_)); clear hK K)
        obtain rfl := hu8 rfl
        clear hu8 wv8
        ((first | (with_reducible refine Qw.w_val ⟨fun _ _ _ hF h w' h1 h2 => h w' h1 fun k => hF k _ (h2 k)⟩ ?_ (Qw.wanted_none rfl) ?_) | ((with_reducible refine Qw.w_val ⟨fun _ _ _ hF h w' h1 h2 => h w' h1 fun k => hF k _ (h2 k)⟩ ?_ ?_ ?_); (focus (exact fun _ => trivial)); (focus (exact Qg.wanted_on rfl rfl rfl)))); (try (focus (exact fun _ => trivial))); apply Exists.intro; refine ⟨?_, ?_⟩; (focus (intro w' hw' hp'; have eqd := EQD.out w'; go_simp; (first | done | (with_reducible rfl)))); intro K hK; go_simp; (first | (with_reducible refine hK _ ?_) | (refine hK _ ?_)); clear hK K)
        ((with_reducible refine Qw.w_nil ?_); intro w' hw' hf')
        obtain ⟨w8, hw8⟩ : ∃ w8, w8 = w' := ⟨_, rfl⟩
        subst hw8
        have P8 := Aside0.mk (P6.out.below hw'.2)
        have S8 := Aside0.mk (S6.out.below hw'.2)
        have L8 := Aside0.mk (L6.out.trans (hw'.2.mono L6.out.size))
        have row8 := Aside0.mk (row6.out.below hw'.2)
        have hr8 := R6.out.1.below hw'.2
        rw [HS4.out.2] at hr8
        clear hw' hf' w0
        cases q with
        | false =>
          have HBAD := Aside0.mk (HBADP.out HS4.out.1)
          go_wp2
          refine bodyPost_ret (v := .tuple #[.slice none 0 0, .int .i64 0, .int .i64 0]) ?_ rfl ⟨L8.out, .inr ⟨HBAD.out, rfl⟩⟩
          simp [results, Try.results39, go_sem]
        | true =>
          have hlb : (bodyR V S n i).length + z ≤ 140737488355328 := by
            have := bodyR_length (V := V) (S := S) (n := n) i (fun j hj => by
              have hcc := HL.out.2.2.1.2
              have := step_good HL.out.1 HL.out.2.1 ⟨HL.out.2.2.2.1, by have := HL.out.2.2.2.2; omega⟩ (by rw [HEO.out.2.1]; have := HOF.out; omega) (by rw [HEO.out.2.1]; have := HI.out.1; omega) (hst.out j hj)
              exact (here_facts this.1 (HL.out.1 _ (by have := HL.out.2.2.2.1; omega))).1)
            have := HS3.out.2
            have := HI.out.1
            have := HOF.out
            have := HL.out.2.2.1.2
            omega
          have w4 := HI.out.2.2.2.2.1
          obtain ⟨L, hL⟩ : ∃ L, bodyR V S n i = L := ⟨_, rfl⟩
          have hrow8 := row8.out
          rw [hL] at hlb hrow8
          have HLL := Aside0.mk hL
          have l8 := L8.out
          clear hL
          have tok2 : True := trivial
          go_upto_region 8 with (at_builtin; have _t := tok2; go_must (refine app8 (w0 := w) w.heap.size rfl _ _ rfl _ L own A6 z c6 rfl rfl hrow8 hr8 l8 l8.size hlb ?_); intro v7 w7 hv7 hb7 hg7 hat7; have hng : ∀ g T cs, T ≠ TU8 → Blk w8 g T cs → Blk w7 g T cs := (fun g T cs hT hg => hg.grown hg7 (hrow8.ne hg (fun e => hT e.symm))); have P7 := Aside0.mk (hng _ _ _ (by decide) P8.out); have S7 := Aside0.mk (hng _ _ _ (by decide) S8.out); have V7 := Aside0.mk hv7; have L7 := Aside0.mk hb7; clear _t tok2 hrow8 hr8 l8 hlb hv7 hb7 hg7 hat7 hng)
          go_wp2
          go_roundw
          case rel => exact ⟨i + 1, by first | rfl | (rw [HI.out.2.2.2.2.1]), ⟨by have := HI.out.1; omega⟩, ⟨fun j hj => by
            rcases Nat.lt_or_ge j i with h2 | h2
            · exact hst.out j h2
            · obtain rfl : j = i := by omega
              exact HS4.out.1⟩, ⟨by have := V7.out; rw [← HLL.out, ← HS4.out.2] at this; exact this⟩, P7, S7, L7⟩
          case measure => have := HI.out; simp [intOf, HI.out.2.2.2.2.1]; omega
      case inr =>
        go_upto_region 13 with fail
        have wz2 : IntKind.i64.wrap (16 + (z : Int)) = 16 + (z : Int) := IntWalk.i64_in _ (by have := HS3.out.2; omega)
        have hcut := run_cut g14 z HS3.out.2
        have q2 : Row (W3.alloc (.cells #[] TU8)) w.heap.size TU8 .u8 (.slice (some ⟨W3.heap.size, 0, none⟩) 0 0) [] := Row.lit rfl L3.out.size (by simp [nums]) rfl (by simp)
        have q0 := L3.out.alloc L3.out.size (.cells #[] TU8)
        have q1 : ReadsInt (W3.alloc (.cells #[] TU8)) .u8 (some ⟨g14, 16, none⟩) z (pieceAt V S n i).b := by
          have := reads_mid (G3.out.alloc (.cells #[] TU8)) (a := 16) (m := z) (by rw [HBS.out.1]; have := HS3.out.2; omega) (by rw [HBS.out.1]; decide)
          rw [HBS.out.2.2.2.2.2]
          exact this
        have hlz : ([] : List Int).length + z ≤ 140737488355328 := by have := HS3.out.2; simp; omega
        have hpl : (pieceAt V S n i).b.length = z := q1.1
        have HPL := Aside0.mk hpl
        have tok1 : True := trivial
        go_upto_region 14 with (at_builtin; have _t := tok1; go_must (refine app8 (w0 := w) w.heap.size rfl _ _ rfl (.slice (some ⟨W3.heap.size, 0, none⟩) 0 0) [] (pieceAt V S n i).b (some ⟨g14, 16, none⟩) z (112) rfl rfl q2 q1 q0 q0.size hlz ?_); intro v6 w6 hv6 hb6 hg6 hat6; rw [List.nil_append] at hv6; obtain ⟨A6, c6, rfl, hr6⟩ := hv6.reads; rw [hpl] at hr6 hv6; rw [hpl]; have b36 : Below W3.heap.size W3 w6 := Below.grown ((Below.refl W3.heap.size W3).alloc (Nat.le_refl _) (.cells #[] TU8)) hg6 (by simp) (fun k hk => by have hk' : W3.heap.size = k := Option.some.inj hk; omega); have R6 := Aside0.mk (⟨hr6, hv6.cap_le⟩ : _ ∧ _); have B36 := Aside0.mk b36; clear _t tok1 hr6 hv6 hb6 hg6 hat6 b36 q1 q2 q0 hcut wz2)
        clear hpl hlz
        have G6 := Aside0.mk (G3.out.below B36.out)
        have P6 := Aside0.mk (P3.out.below B36.out)
        have S6 := Aside0.mk (S3.out.below B36.out)
        have L6 := Aside0.mk (L3.out.trans (B36.out.mono L3.out.size))
        have row6 := Aside0.mk (row3.out.below B36.out)
        obtain ⟨own, hown⟩ : ∃ own, (pieceAt V S n i).b = own := ⟨_, rfl⟩
        have hpp : pieceAt V S n i = ⟨ep, k, i, of, own⟩ := by
          rw [← hown]
          show (⟨(atV V S n).epoch, n + i, i, (atV V S n).of, (atV V S (n + i)).b⟩ : PieceV) = _
          rw [HEO.out.1, HEO.out.2.1, HI.out.2.1]
          show _ = (⟨ep, k, i, of, (atV V S (n + i)).b⟩ : PieceV)
          rw [HI.out.2.1]
        have hol : own.length = z := by rw [← hown]; exact HPL.out
        have hob : Bytes own := by
          rw [← hown, HBS.out.2.2.2.2.2]
          exact fun x hx => HBS.out.2.1 x (List.mem_of_mem_drop (List.mem_of_mem_take hx))
        have hr6 := R6.out.1
        rw [hown] at hr6
        have KSe := Aside0.mk (fun w' (hb : Below w6.heap.size w6 w') => sector_calls ⟨ep, k, i, of, own⟩ (by show own.length ≤ 108; rw [hol]; exact HS3.out.2) hob (by have := HEO.out.2.2.1; exact ⟨this.1, by show ep ≤ _; omega⟩) (by have := HI.out.2.2.1; have := HI.out.2.1; have := HL.out.2.2; have := HOF.out; have := HI.out.1; exact ⟨by show 0 ≤ k; omega, by show k ≤ _; omega⟩) (by have := HL.out.2.2; have := HOF.out; have := HI.out.1; exact ⟨by show (0 : Int) ≤ i; omega, by show (i : Int) ≤ _; omega⟩) (by have := HOF.out; have := HL.out.2.2; exact ⟨by show 0 ≤ of; omega, by show of ≤ _; omega⟩) A6 z c6 hol R6.out.2 w' (hr6.below hb))
        have hs3 := HS3.out.1
        rw [hpp] at hs3
        obtain ⟨bv, hbv⟩ : ∃ bv, bytesV ⟨ep, k, i, of, own⟩ = bv := ⟨_, rfl⟩
        have hbl := bytesV_length (p := ⟨ep, k, i, of, own⟩) (by show own.length ≤ 108; rw [hol]; exact HS3.out.2)
        have hbb := bytesV_bytes (p := ⟨ep, k, i, of, own⟩) hob
        rw [hbv] at hs3 hbl hbb KSe
        obtain ⟨q, hq⟩ : ∃ q, decide (bs = bv) = q := ⟨_, rfl⟩
        have eqd := fun w' => eq128 bs bv HBS.out.1 hbl HBS.out.2.1 hbb w'
        rw [hq] at hs3
        simp only [hq] at eqd
        have EQD := Aside0.mk eqd
        have HS4 := Aside0.mk (⟨hs3, hown⟩ : _ ∧ _)
        have w0 := HI.out.2.2.2.2.2
        obtain ⟨wp, hwp⟩ : ∃ wp, wp = w6 := ⟨_, rfl⟩
        subst hwp
        have HST : Qw.Stb (fun w' => Blk w' g14 TDa (numsA .u8 bs) ∧ Below wp.heap.size wp w') := fun w1 w2 kk hb => ⟨kk.1.below hb, kk.2.trans (hb.mono kk.2.size)⟩
        have HE0 : Blk wp.drew g14 TDa (numsA .u8 bs) ∧ Below wp.heap.size wp wp.drew := ⟨G6.out.drew, (Below.refl _ _).drew⟩
        clear hpp hol hob hr6 hs3 hbv hbl hbb hq hown eqd
        go_wp2_with fail
        refine Qw.wp_region_all (SSe bv) _ HST (by kernel_rfl) (by kernel_rfl) HE0 ?_
        clear HST HE0
        ((first | (with_reducible refine Qw.w_val ⟨fun _ _ _ hF h w' h1 h2 => h w' h1 fun k => hF k _ (h2 k)⟩ ?_ (Qw.wanted_none rfl) ?_) | ((with_reducible refine Qw.w_val ⟨fun _ _ _ hF h w' h1 h2 => h w' h1 fun k => hF k _ (h2 k)⟩ ?_ ?_ ?_); (focus (exact fun _ => trivial)); (focus (exact Qg.wanted_on rfl rfl rfl)))); (try (focus (exact fun _ => trivial))); apply Exists.intro; refine ⟨?_, ?_⟩; (focus (intro w' hw' hp'; exact exec_load_nums _ rfl g14 rfl bs hw'.1 HBS.out.1)); intro K hK; go_simp; (first | (with_reducible refine hK _ ?_) | (refine hK _ ?_)); clear hK K)
        iterate 7 ((first | (with_reducible refine Qw.w_val ⟨fun _ _ _ hF h w' h1 h2 => h w' h1 fun k => hF k _ (h2 k)⟩ ?_ (Qw.wanted_none rfl) ?_) | ((with_reducible refine Qw.w_val ⟨fun _ _ _ hF h w' h1 h2 => h w' h1 fun k => hF k _ (h2 k)⟩ ?_ ?_ ?_); (focus (exact fun _ => trivial)); (focus (exact Qg.wanted_on rfl rfl rfl)))); (try (focus (exact fun _ => trivial))); apply Exists.intro; refine ⟨?_, ?_⟩; (focus (intro w' hw' hp'; skip; go_simp; (first | done | (with_reducible rfl)))); intro K hK; go_simp; (first | (with_reducible refine hK _ ?_) | (refine hK _ ?_)); clear hK K)
        ((with_reducible refine Qw.w_call ?_ ?_); (first | (focus (exact Qw.wanted_none rfl)) | (focus (exact Qg.wanted_on rfl rfl rfl))); apply Exists.intro; apply Exists.intro; refine ⟨?_, ?_, ?_, ?_⟩; (focus (intro w'; go_simp; (first | rfl | exact ⟨rfl, rfl⟩))); (focus (exact fun u => sse_stb)); (focus (intro w' hw' hp'; refine (KSe.out w' hw'.2).mono ?_; rintro e w8 ⟨rfl, b8⟩; exact ⟨_, rfl, b8, fun _ => rfl⟩)); rintro u8 ⟨wv8, -, -, hu8⟩; intro K hK; go_simp; (first | (with_reducible refine hK _ ?_) | (refine hK _ ?_)); clear hK K)
        obtain rfl := hu8 rfl
        clear hu8 wv8
        ((first | (with_reducible refine Qw.w_val ⟨fun _ _ _ hF h w' h1 h2 => h w' h1 fun k => hF k _ (h2 k)⟩ ?_ (Qw.wanted_none rfl) ?_) | ((with_reducible refine Qw.w_val ⟨fun _ _ _ hF h w' h1 h2 => h w' h1 fun k => hF k _ (h2 k)⟩ ?_ ?_ ?_); (focus (exact fun _ => trivial)); (focus (exact Qg.wanted_on rfl rfl rfl)))); (try (focus (exact fun _ => trivial))); apply Exists.intro; refine ⟨?_, ?_⟩; (focus (intro w' hw' hp'; have eqd := EQD.out w'; go_simp; (first | done | (with_reducible rfl)))); intro K hK; go_simp; (first | (with_reducible refine hK _ ?_) | (refine hK _ ?_)); clear hK K)
        ((with_reducible refine Qw.w_nil ?_); intro w' hw' hf')
        obtain ⟨w8, hw8⟩ : ∃ w8, w8 = w' := ⟨_, rfl⟩
        subst hw8
        have P8 := Aside0.mk (P6.out.below hw'.2)
        have S8 := Aside0.mk (S6.out.below hw'.2)
        have L8 := Aside0.mk (L6.out.trans (hw'.2.mono L6.out.size))
        have row8 := Aside0.mk (row6.out.below hw'.2)
        have hr8 := R6.out.1.below hw'.2
        rw [HS4.out.2] at hr8
        clear hw' hf' w0
        cases q with
        | false =>
          have HBAD := Aside0.mk (HBADP.out HS4.out.1)
          go_wp2
          refine bodyPost_ret (v := .tuple #[.slice none 0 0, .int .i64 0, .int .i64 0]) ?_ rfl ⟨L8.out, .inr ⟨HBAD.out, rfl⟩⟩
          simp [results, Try.results39, go_sem]
        | true =>
          have hlb : (bodyR V S n i).length + z ≤ 140737488355328 := by
            have := bodyR_length (V := V) (S := S) (n := n) i (fun j hj => by
              have hcc := HL.out.2.2.1.2
              have := step_good HL.out.1 HL.out.2.1 ⟨HL.out.2.2.2.1, by have := HL.out.2.2.2.2; omega⟩ (by rw [HEO.out.2.1]; have := HOF.out; omega) (by rw [HEO.out.2.1]; have := HI.out.1; omega) (hst.out j hj)
              exact (here_facts this.1 (HL.out.1 _ (by have := HL.out.2.2.2.1; omega))).1)
            have := HS3.out.2
            have := HI.out.1
            have := HOF.out
            have := HL.out.2.2.1.2
            omega
          have w4 := HI.out.2.2.2.2.1
          obtain ⟨L, hL⟩ : ∃ L, bodyR V S n i = L := ⟨_, rfl⟩
          have hrow8 := row8.out
          rw [hL] at hlb hrow8
          have HLL := Aside0.mk hL
          have l8 := L8.out
          clear hL
          have tok2 : True := trivial
          go_upto_region 8 with (at_builtin; have _t := tok2; go_must (refine app8 (w0 := w) w.heap.size rfl _ _ rfl _ L own A6 z c6 rfl rfl hrow8 hr8 l8 l8.size hlb ?_); intro v7 w7 hv7 hb7 hg7 hat7; have hng : ∀ g T cs, T ≠ TU8 → Blk w8 g T cs → Blk w7 g T cs := (fun g T cs hT hg => hg.grown hg7 (hrow8.ne hg (fun e => hT e.symm))); have P7 := Aside0.mk (hng _ _ _ (by decide) P8.out); have S7 := Aside0.mk (hng _ _ _ (by decide) S8.out); have V7 := Aside0.mk hv7; have L7 := Aside0.mk hb7; clear _t tok2 hrow8 hr8 l8 hlb hv7 hb7 hg7 hat7 hng)
          go_wp2
          go_roundw
          case rel => exact ⟨i + 1, by first | rfl | (rw [HI.out.2.2.2.2.1]), ⟨by have := HI.out.1; omega⟩, ⟨fun j hj => by
            rcases Nat.lt_or_ge j i with h2 | h2
            · exact hst.out j h2
            · obtain rfl : j = i := by omega
              exact HS4.out.1⟩, ⟨by have := V7.out; rw [← HLL.out, ← HS4.out.2] at this; exact this⟩, P7, S7, L7⟩
          case measure => have := HI.out; simp [intOf, HI.out.2.2.2.2.1]; omega
    · have t1 : decide ((i : Int) < of) = false := decide_eq_false hi
      have hio : (i : Int) = of := by have := hin.out; omega
      have hok : docOk V S n = true := by
        unfold docOk
        rw [HEO.out.2.1, decide_eq_true HOF.out.1, decide_eq_true HOF.out.2, Bool.true_and, Bool.true_and, List.all_eq_true]
        intro j hj
        have := List.mem_range.1 hj
        exact hst.out j (by omega)
      have hoi : of.toNat = i := by omega
      have HOK := Aside0.mk (⟨hok, hoi⟩ : _ ∧ _)
      obtain ⟨A9, c9, rfl, -⟩ := hrow.out.reads
      obtain ⟨L9, hL9⟩ : ∃ L9, (bodyR V S n i).length = L9 := ⟨_, rfl⟩
      have hrow' := hrow.out
      rw [hL9] at hrow'
      rw [hL9]
      clear hi hio hok hoi hL9
      go_wp2
      refine bodyPost_ret (v := .tuple #[.slice A9 L9 c9, .int .i64 ep, .int .i64 of]) ?_ rfl ⟨hb.out, .inl ⟨HOK.out.1, _, by rw [HEO.out.1, HEO.out.2.1], ?_⟩⟩
      · simp [results, Try.results39, go_sem]
      · rw [HEO.out.2.1, HOK.out.2]
        exact hrow'
end Go.Proofs.Ytddhngalokmdoaa.Spo
