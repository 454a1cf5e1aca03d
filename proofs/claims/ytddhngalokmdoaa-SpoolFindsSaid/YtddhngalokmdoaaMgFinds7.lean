/- Texts of this claim, merged: Do1, Sfr, Dt6. -/
import Derived.Test.YtddhngalokmdoaaMgFinds6
import Derived.Test.YtddhngalokmdoaaMgBase13
import Derived.Test.YtddhngalokmdoaaMgBase15
import Derived.Test.YtddhngalokmdoaaMgFinds4
namespace Go.Proofs.Ytddhngalokmdoaa.Spo
open Go.RowKit Go.Proofs.YtddhngalokmdoaaW.PrintWords Go.Proofs.YtddhngalokmdoaaW.PrintLast Go.Proofs.YtddhngalokmdoaaW.PrintMore Go.Proofs.Ytddhngalokmdoaa.Arr Go.Proofs.Ytddhngalokmdoaa.PSpoolPlays
set_option linter.unusedVariables false
set_option linter.unusedSimpArgs false

abbrev zDs : Array Value := docS ⟨0, 0, 0, 0, 0, false⟩
theorem zeroDs : ∀ w, (zeroValue TDs).run Try.prog w = .ok (.agg zDs) w := fun w => by kernel_rfl
theorem one_docS (S : SpoolV) : (docS S).all (·.oneCell') = true := by simp [docS, Value.oneCell']
def DOpenPost (V : TrayV) (a b h ep : Int) (w : World) (e : Ending) (w' : World) : Prop :=
  Below w.heap.size w w' ∧ ((openOk V a b h ep = false ∧ e = .returned (.tuple #[.agg zDs, .slice none 0 0, .int .i64 1])) ∨
    (openOk V a b h ep = true ∧ ∃ v, e = .returned (.tuple #[.agg (docS ⟨a, b, ep, h, (opened V a b h ep).2, false⟩), v, .int .i64 0]) ∧ Recs w' w.heap.size v (opened V a b h ep).1))
theorem Recs.setRow {w : World} {B : Nat} {v : Value} {xs : List (List Int)} (h : Recs w B v xs) {g : Nat} {T : TypeId} {cs : Array Value} (hb : Blk w g T cs) (hT : TSl ≠ T) (hT2 : TU8 ≠ T) (cs' : Array Value) : Recs (w.setRow g cs') B v xs := by
  obtain ⟨ss, h1, h2, h3⟩ := h.out
  exact ⟨ss, own_move h1 (fun k hk => setRow_other w g k cs' (fun e => own_ne h1 hb.out hT (by rw [hk, e]))), h2, fun j s x a b => (h3 j s x a b).setRow hb hT2 cs'⟩
theorem secs_len {V : TrayV} {S S' : SpoolV} (hS : Sound V) (hF : Fit S') (hR : S'.first + S'.count ≤ V.kept.length) (n : Int) (hn : 0 ≤ n) (h1 : S.first = S'.first := by rfl) (h2 : S.count = S'.count := by rfl) : (secV V S n).length = 128 := by
  rw [sec_ring h1 h2]
  exact hS.read (on_has hF hR n hn)
set_option maxHeartbeats 16000000 in
set_option maxRecDepth 100000 in
theorem dopen_calls (nk : Nat) (K C : Value) (V : TrayV) (m : Nat) (w : World) (H : DocT w K C V m) (hS : Sound V) (hB : BytesT V) (hk : V.kept.length = nk) (hm : m ≤ 900000000) (l : Int) (d : Bool) (a b h ep : Int) :
    Calls Try.prog 17 #[.agg (docC nk K C l d), .int .i64 a, .int .i64 b, .int .i64 h, .int .i64 ep] w (DOpenPost V a b h ep w) := by
  have HBAD := Aside0.mk (fun (hc : b < 2 ∨ b > 4096 ∨ a < 0 ∨ a > (nk : Int) ∨ b > (nk : Int) - a ∨ h < 0 ∨ h > 1099511627776 ∨ ep < 1 ∨ ep > 4294967295) => show openOk V a b h ep = false by
    cases ho : openOk V a b h ep with
    | false => rfl
    | true =>
      exfalso
      unfold openOk rightV at ho
      rw [hk] at ho
      simp at ho
      omega)
  have KREC := Aside0.mk (fun (S : SpoolV) (hF : (0 ≤ S.first ∧ S.first ≤ 4096) ∧ (2 ≤ S.count ∧ S.count ≤ 4096)) (hR : S.first + S.count ≤ nk) (n : Int) (hn : 0 ≤ n ∧ n ≤ 140737480000000) w' (hb : Below w.heap.size w w') => drecord_calls nk K C V m w' (H.below hb) hS hB hk hm l d S hF hR n hn)
  have hk4 : nk ≤ 4096 := by have := hS.len; omega
  have HHS := Aside0.mk (⟨hS, hk, hk4⟩ : _ ∧ _ ∧ _)
  obtain ⟨A1, A2, n1, n2, c1, c2, rfl, rfl, -⟩ := H.form
  obtain ⟨D, hD⟩ : ∃ D, docC nk (.slice A1 n1 c1) (.slice A2 n2 c2) l d = D := ⟨_, rfl⟩
  have HD := Aside0.mk (⟨by rw [← hD]; rfl, by rw [← hD]; rfl⟩ : D.size = 5 ∧ D[0]? = some (.int .i64 nk))
  rw [hD] at KREC
  rw [hD]
  obtain ⟨hq, hh⟩ : ∃ hq, w.heap.size = hq := ⟨_, rfl⟩
  have HH := Aside0.mk hh
  have hzs := zeroDs
  obtain ⟨W2, hW2⟩ : ∃ W2, (w.alloc (.cells D TDt)).alloc (.cells zDs TDs) = W2 := ⟨_, rfl⟩
  have HW2 := Aside0.mk hW2
  have P2 := Aside0.mk (by rw [← hW2]; exact (Blk.newAt hh.symm).alloc _ : Blk W2 hq TDt D)
  have R2 := Aside0.mk (by rw [← hW2]; exact Blk.newAt (by simp [hh]) : Blk W2 (hq + 1) TDs zDs)
  have L2 := Aside0.mk (by rw [← hW2]; exact below_alloc (below_alloc (Below.refl _ _) _) _ : Below w.heap.size w W2)
  clear hD hh hW2 H hS hB hk hm hk4
  go_enter Try.func17, Try.ntmps17
  go_upto_region 1 with (with_reducible refine wpList_alloc_agg rfl TDs _ rfl hzs ?_)
  try rw [HW2.out]
  try rw [HH.out]
  clear HW2
  have hone : (#[.int .i64 0, .int .i64 0, .int .i64 0, .int .i64 0, .int .i64 0, .bool false] : Array Value).all (·.oneCell') = true := by simp [Value.oneCell']
  have d0 := P2.out.cell 0
  rw [HD.out.2] at d0
  have dl := P2.out.lt
  by_cases h1 : b < 2
  · have t1 : decide (b < 2) = true := decide_eq_true h1
    have HO := Aside0.mk (HBAD.out (.inl h1))
    clear h1
    go_wp2_with (with_reducible refine wpList_store_blk rfl TDs (.tmp 10) _ rfl _ _ rfl rfl infoDs rfl hone R2.out rfl ?_)
    exact bodyPost_ret (results_ctt rfl _ _ _ _ _ _ _ rfl rfl rfl infoDs Try.underlying46 rfl (R2.out.row _) rfl) rfl ⟨below_setRow L2.out (by have := HH.out; omega) _, .inl ⟨HO.out, rfl⟩⟩
  have t1 : decide (b < 2) = false := decide_eq_false h1
  by_cases h2 : b > 4096
  · have t2 : decide (b > 4096) = true := decide_eq_true h2
    have HO := Aside0.mk (HBAD.out (.inr (.inl h2)))
    clear h1 h2
    go_wp2_with (with_reducible refine wpList_store_blk rfl TDs (.tmp 10) _ rfl _ _ rfl rfl infoDs rfl hone R2.out rfl ?_)
    exact bodyPost_ret (results_ctt rfl _ _ _ _ _ _ _ rfl rfl rfl infoDs Try.underlying46 rfl (R2.out.row _) rfl) rfl ⟨below_setRow L2.out (by have := HH.out; omega) _, .inl ⟨HO.out, rfl⟩⟩
  have t2 : decide (b > 4096) = false := decide_eq_false h2
  by_cases h3 : a < 0
  · have t3 : decide (a < 0) = true := decide_eq_true h3
    have HO := Aside0.mk (HBAD.out (.inr (.inr (.inl h3))))
    clear h1 h2 h3
    go_wp2_with (with_reducible refine wpList_store_blk rfl TDs (.tmp 10) _ rfl _ _ rfl rfl infoDs rfl hone R2.out rfl ?_)
    exact bodyPost_ret (results_ctt rfl _ _ _ _ _ _ _ rfl rfl rfl infoDs Try.underlying46 rfl (R2.out.row _) rfl) rfl ⟨below_setRow L2.out (by have := HH.out; omega) _, .inl ⟨HO.out, rfl⟩⟩
  have t3 : decide (a < 0) = false := decide_eq_false h3
  by_cases h4 : a > (nk : Int)
  · have t4 : decide (a > (nk : Int)) = true := decide_eq_true h4
    have HO := Aside0.mk (HBAD.out (.inr (.inr (.inr (.inl h4)))))
    clear h1 h2 h3 h4
    go_wp2_with (with_reducible refine wpList_store_blk rfl TDs (.tmp 10) _ rfl _ _ rfl rfl infoDs rfl hone R2.out rfl ?_)
    exact bodyPost_ret (results_ctt rfl _ _ _ _ _ _ _ rfl rfl rfl infoDs Try.underlying46 rfl (R2.out.row _) rfl) rfl ⟨below_setRow L2.out (by have := HH.out; omega) _, .inl ⟨HO.out, rfl⟩⟩
  have t4 : decide (a > (nk : Int)) = false := decide_eq_false h4
  have wna : IntKind.i64.wrap ((nk : Int) - a) = (nk : Int) - a := IntWalk.i64_in _ (by have := HHS.out.2.2; omega)
  by_cases h5 : b > (nk : Int) - a
  · have t5 : decide (b > (nk : Int) - a) = true := decide_eq_true h5
    have HO := Aside0.mk (HBAD.out (.inr (.inr (.inr (.inr (.inl h5))))))
    clear h1 h2 h3 h4 h5
    go_wp2_with (with_reducible refine wpList_store_blk rfl TDs (.tmp 10) _ rfl _ _ rfl rfl infoDs rfl hone R2.out rfl ?_)
    exact bodyPost_ret (results_ctt rfl _ _ _ _ _ _ _ rfl rfl rfl infoDs Try.underlying46 rfl (R2.out.row _) rfl) rfl ⟨below_setRow L2.out (by have := HH.out; omega) _, .inl ⟨HO.out, rfl⟩⟩
  have t5 : decide (b > (nk : Int) - a) = false := decide_eq_false h5
  by_cases h6 : h < 0
  · have t6 : decide (h < 0) = true := decide_eq_true h6
    have HO := Aside0.mk (HBAD.out (.inr (.inr (.inr (.inr (.inr (.inl h6)))))))
    clear h1 h2 h3 h4 h5 h6
    go_wp2_with (with_reducible refine wpList_store_blk rfl TDs (.tmp 10) _ rfl _ _ rfl rfl infoDs rfl hone R2.out rfl ?_)
    exact bodyPost_ret (results_ctt rfl _ _ _ _ _ _ _ rfl rfl rfl infoDs Try.underlying46 rfl (R2.out.row _) rfl) rfl ⟨below_setRow L2.out (by have := HH.out; omega) _, .inl ⟨HO.out, rfl⟩⟩
  have t6 : decide (h < 0) = false := decide_eq_false h6
  by_cases h7 : h > 1099511627776
  · have t7 : decide (h > 1099511627776) = true := decide_eq_true h7
    have HO := Aside0.mk (HBAD.out (.inr (.inr (.inr (.inr (.inr (.inr (.inl h7))))))))
    clear h1 h2 h3 h4 h5 h6 h7
    go_wp2_with (with_reducible refine wpList_store_blk rfl TDs (.tmp 10) _ rfl _ _ rfl rfl infoDs rfl hone R2.out rfl ?_)
    exact bodyPost_ret (results_ctt rfl _ _ _ _ _ _ _ rfl rfl rfl infoDs Try.underlying46 rfl (R2.out.row _) rfl) rfl ⟨below_setRow L2.out (by have := HH.out; omega) _, .inl ⟨HO.out, rfl⟩⟩
  have t7 : decide (h > 1099511627776) = false := decide_eq_false h7
  by_cases h8 : ep < 1
  · have t8 : decide (ep < 1) = true := decide_eq_true h8
    have HO := Aside0.mk (HBAD.out (.inr (.inr (.inr (.inr (.inr (.inr (.inr (.inl h8)))))))))
    clear h1 h2 h3 h4 h5 h6 h7 h8
    go_wp2_with (with_reducible refine wpList_store_blk rfl TDs (.tmp 10) _ rfl _ _ rfl rfl infoDs rfl hone R2.out rfl ?_)
    exact bodyPost_ret (results_ctt rfl _ _ _ _ _ _ _ rfl rfl rfl infoDs Try.underlying46 rfl (R2.out.row _) rfl) rfl ⟨below_setRow L2.out (by have := HH.out; omega) _, .inl ⟨HO.out, rfl⟩⟩
  have t8 : decide (ep < 1) = false := decide_eq_false h8
  by_cases h9 : ep > 4294967295
  · have t9 : decide (ep > 4294967295) = true := decide_eq_true h9
    have HO := Aside0.mk (HBAD.out (.inr (.inr (.inr (.inr (.inr (.inr (.inr (.inr h9)))))))))
    clear h1 h2 h3 h4 h5 h6 h7 h8 h9
    go_wp2_with (with_reducible refine wpList_store_blk rfl TDs (.tmp 10) _ rfl _ _ rfl rfl infoDs rfl hone R2.out rfl ?_)
    exact bodyPost_ret (results_ctt rfl _ _ _ _ _ _ _ rfl rfl rfl infoDs Try.underlying46 rfl (R2.out.row _) rfl) rfl ⟨below_setRow L2.out (by have := HH.out; omega) _, .inl ⟨HO.out, rfl⟩⟩
  have t9 : decide (ep > 4294967295) = false := decide_eq_false h9
  have hok : openOk V a b h ep = true := by
    unfold openOk rightV
    rw [HHS.out.2.1]
    simp
    omega
  obtain ⟨hF, hR, hh6⟩ := open_facts hok (by rw [HHS.out.2.1]; exact HHS.out.2.2)
  rw [HHS.out.2.1] at hR
  have HOK := Aside0.mk (⟨hok, hF, hR, hh6⟩ : _ ∧ _ ∧ _ ∧ _)
  clear h1 h2 h3 h4 h5 h6 h7 h8 h9 hok hF hR hh6
  obtain ⟨g, hg⟩ : ∃ g, W2.heap.size = g := ⟨_, rfl⟩
  have hgh : hq + 1 < g := by have := R2.out.lt; omega
  obtain ⟨W3, hW3⟩ : ∃ W3, W2.alloc (.cells (docS ⟨a, b, ep, h, h, false⟩) TDs) = W3 := ⟨_, rfl⟩
  have HW3 := Aside0.mk hW3
  have P3 := Aside0.mk (by rw [← hW3]; exact P2.out.alloc _ : Blk W3 hq TDt D)
  have R3 := Aside0.mk (by rw [← hW3]; exact R2.out.alloc _ : Blk W3 (hq + 1) TDs zDs)
  have G3 := Aside0.mk (by rw [← hW3]; exact Blk.newAt hg.symm : Blk W3 g TDs (docS ⟨a, b, ep, h, h, false⟩))
  have L3 := Aside0.mk (by rw [← hW3]; exact L2.out.alloc L2.out.size _ : Below w.heap.size w W3)
  have HG := Aside0.mk (⟨hg, hgh⟩ : _ ∧ _)
  obtain ⟨R, hRes⟩ : ∃ R, findV V ⟨a, b, ep, h, h, false⟩ b.toNat h 0 [] = R := ⟨_, rfl⟩
  have HRes := Aside0.mk hRes
  have hop : opened V a b h ep = R := hRes
  have HOP := Aside0.mk hop
  clear hW3 hgh hRes hop
  go_wp2_with fail
  try rw [HW3.out]
  clear d0 dl t1 t2 t3 t4 t5 t6 t7 t8 t9 wna hzs hone P2 R2 L2 HW3 hg
  go_loopw [14, 15, 16, 17, 18] (fun v14 v15 v16 v17 v18 wr => ∃ (tl least : Int) (xs : List (List Int)) (k : Nat), v15 = .int .i64 least ∧ Aside0 (h ≤ tl ∧ tl - h ≤ b ∧ b - (tl - h) ≤ k ∧ xs.length + b - (tl - h) ≤ b + b) ∧ Aside0 (findV V ⟨a, b, ep, h, h, false⟩ k tl least xs = R) ∧ Aside0 (Recs wr w.heap.size v14 xs) ∧ Aside0 (Blk wr hq TDt D) ∧ Aside0 (Blk wr (hq + 1) TDs zDs) ∧ Aside0 (Blk wr g TDs (docS ⟨a, b, ep, h, tl, false⟩)) ∧ Aside0 (Below w.heap.size w wr)) (fun _ _ _ _ _ wr => (b - (intOf ((wr.cell? ⟨g, 4, none⟩).getD undef) - h)).toNat)
  case atStart =>
    have hc := HOK.out.2.1.count
    exact ⟨h, 0, [], b.toNat, rfl, ⟨by simp; simp only at hc; omega⟩, HRes, ⟨Recs.nil _ _⟩, P3, R3, G3, L3⟩
  case round =>
    obtain ⟨tl, least, xs, k, rfl, hin, hfi, hrec, hP, hR, hG, hb⟩ := hrel
    obtain ⟨f1, f2, f3, f4⟩ := HOK.out
    have hc := f2.count
    have hf := f2.first
    have hh := f2.head
    simp only at hc hf hh
    have ha := hin.out
    have g0 := hG.out.cell 0
    have g1 := hG.out.cell 1
    have g2 := hG.out.cell 2
    have g3 := hG.out.cell 3
    have g4 := hG.out.cell 4
    have g5 := hG.out.cell 5
    have gl := hG.out.lt
    have x1 : IntKind.i64.wrap (tl - h) = tl - h := IntWalk.i64_in _ (by omega)
    have x2 : IntKind.i64.wrap (b - (tl - h)) = b - (tl - h) := IntWalk.i64_in _ (by omega)
    have hsp := one_docS ⟨a, b, ep, h, tl, false⟩
    have EXIT := Aside0.mk (fun (he : findV V ⟨a, b, ep, h, h, false⟩ k tl least xs = (xs, tl)) => show R = (xs, tl) from hfi.out.symm.trans he)
    by_cases hr0 : tl - h < b
    · have t1 : decide (tl - h < b) = true := decide_eq_true hr0
      have KK := Aside0.mk (KREC.out ⟨a, b, ep, h, tl, false⟩ ⟨hf, hc⟩ (by show a + b ≤ _; exact f3) tl (by omega) wr hb.out)
      have HR0 := Aside0.mk hr0
      clear f1 f2 f3 f4 hc hf hh hr0 ha
      go_wp2_with (with_reducible refine wpList_load_blk rfl TDt (.tmp 5) rfl _ _ _ rfl Try.underlying34 rfl infoDt hP.out HD.out.1 ?_)
      refine KK.out.mono ?_
      rintro e w2 ⟨b2, hpost⟩
      have hpost := recPost_ring (S := ⟨a, b, ep, h, tl, false⟩) (S' := ⟨a, b, ep, h, h, false⟩) rfl rfl tl wr e w2 ⟨b2, hpost⟩
      have hb2 := hb.out.trans (b2.mono hb.out.size)
      have P2 := Aside0.mk (hP.out.below b2)
      have R2 := Aside0.mk (hR.out.below b2)
      have G2 := Aside0.mk (hG.out.below b2)
      have C2 := Aside0.mk (hrec.out.below b2)
      have B2 := Aside0.mk hb2
      have g0 := G2.out.cell 0
      have g1 := G2.out.cell 1
      have g2 := G2.out.cell 2
      have g3 := G2.out.cell 3
      have g4 := G2.out.cell 4
      have g5 := G2.out.cell 5
      have gl := G2.out.lt
      have hwz := hb.out.size
      have GC := Aside0.mk (hG.out.cell 4)
      clear b2 hb2 hP hR hG hb hrec KK
      rcases hpost with ⟨-, ⟨hrk, v, rfl, hrow⟩ | ⟨hrk, rfl⟩⟩
      · obtain ⟨A9, c9, rfl, -⟩ := hrow.reads
        have hof := at_of hrk (secs_len HHS.out.1 HOK.out.2.1 (by rw [HHS.out.2.1]; exact HOK.out.2.2.1) tl (by have h8 := HOK.out.2.1.head.1; have := hin.out; simp only at h8; omega))
        have hrow2 := hrow.lower hwz
        obtain ⟨e1, he1⟩ : ∃ e1, (atV V ⟨a, b, ep, h, h, false⟩ tl).epoch = e1 := ⟨_, rfl⟩
        obtain ⟨f, hf⟩ : ∃ f, (atV V ⟨a, b, ep, h, h, false⟩ tl).of = f := ⟨_, rfl⟩
        obtain ⟨body, hbody⟩ : ∃ x, bodyR V ⟨a, b, ep, h, h, false⟩ tl (atV V ⟨a, b, ep, h, h, false⟩ tl).of.toNat = x := ⟨_, rfl⟩
        obtain ⟨bl, hbl⟩ : ∃ bl, (bodyR V ⟨a, b, ep, h, h, false⟩ tl (atV V ⟨a, b, ep, h, h, false⟩ tl).of.toNat).length = bl := ⟨_, rfl⟩
        rw [hbl] at hrow2 ⊢
        rw [hbody] at hrow2
        rw [hf] at hof
        rw [he1, hf]
        have HX := Aside0.mk (⟨he1, hf, hbody, hrk, hof⟩ : _ ∧ _ ∧ _ ∧ _ ∧ _)
        have ROW := Aside0.mk hrow2
        have t2 : decide (f = 0) = false := decide_eq_false (by omega)
        have t3 : (f == 0) = false := by simp; omega
        have HN := Aside0.mk (fun q : takeV V ⟨a, b, ep, h, h, false⟩ tl least = false => EXIT.out (by
          cases k with
          | zero => rfl
          | succ k =>
            simp only [findV]
            rw [if_neg]
            intro h9
            rw [q] at h9
            cases h9.2))
        clear he1 hf hbody hrk hrow hrow2 hof hbl EXIT
        by_cases h1 : f > b - (tl - h)
        · have d1 : decide (f > b - (tl - h)) = true := decide_eq_true h1
          have HBad := Aside0.mk (HN.out (by unfold takeV; rw [HX.out.2.1, decide_eq_false (show ¬ f ≤ b - (tl - h) by omega)]; simp))
          clear h1 HN
          go_wp2_with (with_reducible refine wpList_store_blk rfl TDs (.tmp 10) _ rfl _ _ rfl rfl infoDs rfl hsp R2.out rfl ?_)
          refine bodyPost_ret (results_ctt rfl _ _ _ _ _ _ _ rfl rfl rfl infoDs Try.underlying46 rfl (Blk.row R2.out _) rfl) rfl ⟨below_setRow B2.out (by have := HH.out; omega) _, .inr ⟨HOK.out.1, _, by rw [HOP.out, HBad.out]; rfl, ?_⟩⟩
          rw [HOP.out, HBad.out]
          exact Recs.setRow C2.out R2.out (by decide) (by decide) _
        have d1 : decide (f > b - (tl - h)) = false := decide_eq_false h1
        by_cases h2 : e1 < least
        · have d2 : decide (e1 < least) = true := decide_eq_true h2
          have HBad := Aside0.mk (HN.out (by unfold takeV; rw [HX.out.1, decide_eq_false (show ¬ least ≤ e1 by omega)]; simp))
          clear h1 h2 HN
          go_wp2_with (with_reducible refine wpList_store_blk rfl TDs (.tmp 10) _ rfl _ _ rfl rfl infoDs rfl hsp R2.out rfl ?_)
          refine bodyPost_ret (results_ctt rfl _ _ _ _ _ _ _ rfl rfl rfl infoDs Try.underlying46 rfl (Blk.row R2.out _) rfl) rfl ⟨below_setRow B2.out (by have := HH.out; omega) _, .inr ⟨HOK.out.1, _, by rw [HOP.out, HBad.out]; rfl, ?_⟩⟩
          rw [HOP.out, HBad.out]
          exact Recs.setRow C2.out R2.out (by decide) (by decide) _
        have d2 : decide (e1 < least) = false := decide_eq_false h2
        by_cases h3 : e1 ≥ ep
        · have d3 : decide (e1 ≥ ep) = true := decide_eq_true h3
          have HBad := Aside0.mk (HN.out (by unfold takeV; rw [HX.out.1, decide_eq_false (show ¬ e1 < ep by omega)]; simp))
          clear h1 h2 h3 HN
          go_wp2_with (with_reducible refine wpList_store_blk rfl TDs (.tmp 10) _ rfl _ _ rfl rfl infoDs rfl hsp R2.out rfl ?_)
          refine bodyPost_ret (results_ctt rfl _ _ _ _ _ _ _ rfl rfl rfl infoDs Try.underlying46 rfl (Blk.row R2.out _) rfl) rfl ⟨below_setRow B2.out (by have := HH.out; omega) _, .inr ⟨HOK.out.1, _, by rw [HOP.out, HBad.out]; rfl, ?_⟩⟩
          rw [HOP.out, HBad.out]
          exact Recs.setRow C2.out R2.out (by decide) (by decide) _
        have d3 : decide (e1 ≥ ep) = false := decide_eq_false h3
        have HNX := Aside0.mk (show findV V ⟨a, b, ep, h, h, false⟩ (k - 1) (tl + f) e1 (xs ++ [body]) = R from by
          obtain ⟨k, rfl⟩ : ∃ j, k = j + 1 := ⟨k - 1, by have := hin.out; have := HR0.out; omega⟩
          have := hfi.out
          simp only [findV] at this
          rw [if_pos ⟨by have := HR0.out; omega, by unfold takeV; rw [HX.out.2.2.2.1, HX.out.1, HX.out.2.1, decide_eq_true (show f ≤ b - (tl - h) by omega), decide_eq_true (show least ≤ e1 by omega), decide_eq_true (show e1 < ep by omega)]; rfl⟩, HX.out.1, HX.out.2.2.1, HX.out.2.1] at this
          exact this)
        have HLE := Aside0.mk (show f ≤ b - (tl - h) by omega)
        have hc := HOK.out.2.1.count
        simp only at hc
        have hxl : xs.length ≤ 1000000000 := by have := hin.out; omega
        have hw : IntKind.i64.wrap (tl + f) = tl + f := IntWalk.i64_in _ (by have := hin.out; have := HX.out.2.2.2.2; have := HOK.out.2.2.2; have := HLE.out; have h8 := HOK.out.2.1.head.1; simp only at h8; omega)
        have hz3 : w.heap.size ≤ w2.heap.size := B2.out.size
        have hba : Below w2.heap.size w2 (w2.alloc (.cells #[.slice A9 bl c9] TSl)) := (Below.refl _ _).alloc (Nat.le_refl _) _
        have hne1 := C2.out.ne P2.out (by decide)
        have hne2 := C2.out.ne R2.out (by decide)
        have hne3 := C2.out.ne G2.out (by decide)
        have hle := C2.out.le
        have HBA := Aside0.mk (⟨hba, hne1, hne2, hne3, hle⟩ : _ ∧ _ ∧ _ ∧ _ ∧ _)
        have tok1 : True := trivial
        clear h1 h2 h3 hc HN hba hne1 hne2 hne3 hle hwz
        go_upto_region 11 with (at_builtin; have _t := tok1; go_must (refine app_rec (w0 := w) w.heap.size rfl _ _ rfl u14 xs ⟨A9, bl, c9⟩ body rfl rfl C2.out ROW.out B2.out hz3 hxl ?_); intro v4 w4 hv4 hb4 hg4; have P4 := Aside0.mk ((P2.out.below HBA.out.1).grown hg4 HBA.out.2.1); have R4 := Aside0.mk ((R2.out.below HBA.out.1).grown hg4 HBA.out.2.2.1); have G4 := Aside0.mk ((G2.out.below HBA.out.1).grown hg4 HBA.out.2.2.2.1); have C4 := Aside0.mk hv4; have B4 := Aside0.mk hb4; clear hg4 hb4 hv4 _t tok1)
        have g4 := G4.out.cell 4
        have f4 := G4.out.frozen 4
        have gl := G4.out.lt
        clear g0 g1 g2 g3 g5
        go_wp2
        go_roundw
        case rel =>
          refine ⟨tl + f, e1, xs ++ [body], k - 1, by first | rfl | go_num, ⟨?_⟩, HNX, ⟨C4.out.set G4.out (by decide) (by decide) 4 _⟩, ⟨P4.out.far (by simp only; have := HG.out; omega) _⟩, ⟨R4.out.far (by simp only; have := HG.out; omega) _⟩, ⟨G4.out.set 4 (.int .i64 (tl + f))⟩, ⟨B4.out.setCell (by simp only; have := HG.out; have := HH.out; omega) _⟩⟩
          have := hin.out
          have := HLE.out
          have := HX.out.2.2.2.2
          simp only [List.length_append, List.length_singleton]
          omega
        case measure =>
          have e1 := GC.out
          have e2 := (G4.out.set 4 (.int .i64 (tl + f))).cell 4
          have := HLE.out
          have := HX.out.2.2.2.2
          have := HR0.out
          simp [docS] at e1 e2
          simp [intOf, e1, e2]
          omega
      · have HBad := Aside0.mk (EXIT.out (by
          cases k with
          | zero => rfl
          | succ k =>
            simp only [findV]
            rw [if_neg]
            intro h9
            have := h9.2
            unfold takeV at this
            rw [hrk] at this
            cases this))
        clear hrk EXIT
        go_wp2_with (with_reducible refine wpList_store_blk rfl TDs (.tmp 10) _ rfl _ _ rfl rfl infoDs rfl hsp R2.out rfl ?_)
        refine bodyPost_ret (results_ctt rfl _ _ _ _ _ _ _ rfl rfl rfl infoDs Try.underlying46 rfl (Blk.row R2.out _) rfl) rfl ⟨below_setRow B2.out (by have := HH.out; omega) _, .inr ⟨HOK.out.1, _, by rw [HOP.out, HBad.out]; rfl, ?_⟩⟩
        rw [HOP.out, HBad.out]
        exact Recs.setRow C2.out R2.out (by decide) (by decide) _
    · have t1 : decide (tl - h < b) = false := decide_eq_false hr0
      have HE := Aside0.mk (EXIT.out (by
        cases k with
        | zero => rfl
        | succ k =>
          simp only [findV]
          rw [if_neg]
          intro h9
          have := h9.1
          omega))
      clear f1 f2 f3 f4 hc hf hh hr0 ha
      go_wp2_with (with_reducible refine wpList_store_blk rfl TDs (.tmp 10) _ rfl _ _ rfl rfl infoDs rfl hsp hR.out rfl ?_)
      refine bodyPost_ret (results_ctt rfl _ _ _ _ _ _ _ rfl rfl rfl infoDs Try.underlying46 rfl (Blk.row hR.out _) rfl) rfl ⟨below_setRow hb.out (by have := HH.out; omega) _, .inr ⟨HOK.out.1, _, by rw [HOP.out, HE.out]; rfl, ?_⟩⟩
      rw [HOP.out, HE.out]
      exact Recs.setRow hrec.out hR.out (by decide) (by decide) _
theorem TAt.grown2 {P : Nat → Prop} {w w1 : World} {t : Nat} {V : TrayV} {row : Option Nat} (h : TAt P w t V) (hg : w.grownBy w1 row) (hr : ∀ k, row = some k → ∃ cs, Blk w k TSl cs) : TAt P w1 t V := by
  obtain ⟨kv, cv, h1, h2, h3, h4⟩ := h.out
  refine ⟨kv, cv, h1.grown hg (fun e => ?_), flat_move h2 fun k hk => hg.block k (flat_lt h2 k hk).1 (fun e => ?_), flat_move h3 fun k hk => hg.block k (flat_lt h3 k hk).1 (fun e => ?_), h4⟩
  · obtain ⟨cs, hb⟩ := hr t e.symm
    exact absurd rfl (h1.ne hb (by decide))
  · obtain ⟨cs, hb⟩ := hr k e.symm
    exact Kd.R_ne h2 hb.out (by decide) hk.symm
  · obtain ⟨cs, hb⟩ := hr k e.symm
    exact Kd.R_ne h3 hb.out (by decide) hk.symm
theorem SAt.grown2 {w0 w w1 : World} {s t : Nat} {V : TrayV} {S : SpoolV} {row : Option Nat} (h : SAt w0 w s t V S) (hg : w.grownBy w1 row) (hr : ∀ k, row = some k → w0.heap.size ≤ k ∧ ∃ cs, Blk w k TSl cs) : SAt w0 w1 s t V S := by
  obtain ⟨⟨P, h1, h2, h3⟩, h4, h5, h6, h7, h8, h9, h10, h11⟩ := h
  refine ⟨⟨P, h1.grown2 hg (fun k e => (hr k e).2), h2, h3⟩, h4, h5, h6, ?_, h8.grown hg (fun e => ?_), h9, h10, h11⟩
  · exact ⟨hg.os.trans h7.os, hg.tape.trans h7.tape, hg.output.trans h7.output, Nat.le_trans h7.size hg.size, fun k hk => (hg.block k (Nat.lt_of_lt_of_le hk h7.size) (fun e => by have := (hr k e.symm).1; omega)).trans (h7.block k hk)⟩
  · obtain ⟨cs, hb⟩ := (hr s e.symm).2
    exact absurd rfl (h8.ne hb (by decide))
def Frame2 (w w' : World) : Prop := ∀ k T cs, Blk w k T cs → T ≠ TTr → T ≠ TSe → T ≠ TCa → T ≠ TSp → Blk w' k T cs
theorem TAt.min2 {P : Nat → Prop} {w : World} {t : Nat} {V : TrayV} (h : TAt P w t V) : ∃ P', TAt P' w t V ∧ (∀ j, P' j → P j ∧ j < w.heap.size ∧ ∀ T cs, Blk w j T cs → T = TTr ∨ T = TSe ∨ T = TCa) := by
  obtain ⟨kv, cv, h1, h2, h3, h4⟩ := h.out
  refine ⟨fun j => P j ∧ j < w.heap.size ∧ ∀ T cs, Blk w j T cs → T = TTr ∨ T = TSe ∨ T = TCa, ⟨kv, cv, h1, ⟨fun k hk => ?_, ?_⟩, ⟨fun k hk => ?_, ?_⟩, h4, h1.lt, fun T cs hb => .inl ?_⟩, fun j hj => hj⟩
  · refine ⟨(flat_lt h2 k hk).2, (flat_lt h2 k hk).1, fun T cs hb => .inr (.inl ?_)⟩
    obtain ⟨c, hc⟩ := own_typedR h2 k hk
    exact Classical.byContradiction fun hne => absurd rfl (hb.ne hc hne)
  · obtain ⟨_, inner, ho, hr⟩ := h2
    exact ⟨inner, ho, hr⟩
  · refine ⟨(flat_lt h3 k hk).2, (flat_lt h3 k hk).1, fun T cs hb => .inr (.inr ?_)⟩
    obtain ⟨c, hc⟩ := own_typedR h3 k hk
    exact Classical.byContradiction fun hne => absurd rfl (hb.ne hc hne)
  · obtain ⟨_, inner, ho, hr⟩ := h3
    exact ⟨inner, ho, hr⟩
  · exact Classical.byContradiction fun hne => absurd rfl (hb.ne h1 hne)
theorem sat_append2 {w0 w w1 : World} {s t : Nat} {V : TrayV} {S : SpoolV} (H : SAt w0 w s t V S) (hb : Below w.heap.size w w1) (hcl : V.cache.length ≤ 900000000) (ht : S.tail ≤ 140737480000000) (b : List Int) (A : Option Addr) (n c : Nat) (hby : Bytes b) (hc : n ≤ c) (hr : ReadsInt w1 .u8 A n b) (hA : ∀ ad, A = some ad → 0 < n → ad.block < w0.heap.size ∨ ∃ T cs, Blk w1 ad.block T cs ∧ T ≠ TTr ∧ T ≠ TSe ∧ T ≠ TCa ∧ T ≠ TSp) (hn9 : n ≤ 1000000000) :
    Calls Try.prog 20 #[ptrT s, .slice A n c] w1 fun e w' => e = .returned (.int .i64 (appendV V S b).2.2) ∧ SAt w0 w' s t (appendV V S b).1 (appendV V S b).2.1 ∧ Frame2 w1 w' := by
  have H1 := H.below hb
  obtain ⟨⟨P, h1, h2, h3⟩, h4, h5, h6, h7, h8, h9, h10, h11⟩ := H
  obtain ⟨P', m1, m2⟩ := h1.min2
  have hk : 0 < V.kept.length := by have := h10.count; have := h10.first; omega
  have hs := h8.lt
  refine (append_calls P' s t V S b A n c w1 (m1.below hb) (fun h => h2 (m2 s h).1) h4 h5 hcl h6 hk h10 H1.blk hby hc hr (fun ad e h0 h => ?_) hn9 ht).mono ?_
  · rcases hA ad e h0 with hlo | ⟨T, cs, hbk, n1, n2, n3, n4⟩
    · rcases h with h | h
      · have := h3 _ (m2 _ h).1; omega
      · omega
    rcases h with h | h
    · obtain ⟨-, q1, q2⟩ := m2 _ h
      have hbw : Blk w ad.block T cs := ⟨(hb.block _ q1).symm.trans hbk.out⟩
      rcases q2 T cs hbw with q | q | q
      · exact n1 q
      · exact n2 q
      · exact n3 q
    · rw [h] at hbk
      exact absurd rfl (hbk.ne H1.blk n4)
  · rintro e w' ⟨rfl, hT, hB, hO⟩
    obtain ⟨k1, k2, k3, k4, k5⟩ := append_keep (S := S) h4 h5 hby h6
    obtain ⟨r1, r2, r3, r4⟩ := append_ring (V := V) (S := S) (b := b)
    have hw01 := H1.low
    refine ⟨rfl, ⟨⟨_, hT, ?_, ?_⟩, k1, k2, k5, hw01.trans (hO.below hw01.size (fun j h => ?_)), hB, h9, append_fit h10 ht, by rw [r1, r2, k3]; exact h11⟩, fun k T cs hbk n1 n2 n3 n4 => hO.blk hbk fun h => ?_⟩
    · intro h
      have := hb.size
      rcases h with h | h
      · exact h2 (m2 _ h).1
      · omega
    · intro j h
      rcases h with h | h
      · exact h3 j (m2 _ h).1
      · have := hw01.size; omega
    · rcases h with h | h
      · exact h3 j (m2 _ h).1
      · subst h; exact h9
    · rcases h with h | h
      · obtain ⟨-, q1, q2⟩ := m2 _ h
        have hbw : Blk w k T cs := ⟨(hb.block k q1).symm.trans hbk.out⟩
        rcases q2 T cs hbw with q | q | q
        · exact n1 q
        · exact n2 q
        · exact n3 q
      · subst h
        exact absurd rfl (hbk.ne H1.blk n4)
theorem sat_cut2 {w0 w : World} {s t : Nat} {V : TrayV} {S : SpoolV} (H : SAt w0 w s t V S) : Calls Try.prog 22 #[ptrT s] w fun e w' => e = .returned (.tuple #[]) ∧ SAt w0 w' s t V { S with head := S.tail } ∧ Frame2 w w' := by
  have H0 := H
  refine (cut_calls s t S w H.blk).mono ?_
  rintro e w' ⟨rfl, hB, hO⟩
  obtain ⟨⟨P, h1, h2, h3⟩, h4, h5, h6, h7, h8, h9, h10, h11⟩ := H
  refine ⟨rfl, ⟨⟨P, h1.onlyP hO (fun j _ hp e => h2 (by rw [← e]; exact hp)), h2, h3⟩, h4, h5, h6, h7.trans (hO.below h7.size (fun j h => by subst h; exact h9)), hB, h9, ⟨h10.first, h10.count, h10.epoch, ⟨by have := h10.head; show 0 ≤ S.tail; omega, Int.le_refl _⟩, h10.tail.1, by have := h10.count; show S.tail - S.tail ≤ S.count; omega⟩, h11⟩, fun k T cs hbk n1 n2 n3 n4 => hO.blk hbk fun h => ?_⟩
  subst h
  exact absurd rfl (hbk.ne H0.blk n4)
theorem sat_power2 {w0 w : World} {s t : Nat} {V : TrayV} {S : SpoolV} (H : SAt w0 w s t V S) (n : Int) (hn : n ≤ 9223372036854775807) : Calls Try.prog 25 #[ptrT t, .int .i64 n] w fun e w' => e = .returned (.int .i64 (powerV V n).2) ∧ SAt w0 w' s t (powerV V n).1 S ∧ Frame2 w w' := by
  have H0 := H
  obtain ⟨⟨P, h1, h2, h3⟩, h4, h5, h6, h7, h8, h9, h10, h11⟩ := H
  obtain ⟨P', m1, m2⟩ := h1.min2
  refine (power_calls P' t V n w m1).mono ?_
  rintro e w' ⟨rfl, hT, hO⟩
  have hk : (powerV V n).1.kept = V.kept ∧ (powerV V n).1.left ≤ 9223372036854775807 := by
    unfold powerV
    split
    · exact ⟨rfl, h6⟩
    · exact ⟨rfl, hn⟩
  refine ⟨rfl, ⟨⟨P', hT, fun h => h2 (m2 _ h).1, fun j h => h3 j (m2 _ h).1⟩, h4.power n, h5.power n, hk.2, h7.trans (hO.below h7.size (fun j h => h3 j (m2 _ h).1)), hO.blk h8 (fun h => h2 (m2 _ h).1), h9, h10, by rw [hk.1]; exact h11⟩, fun k T cs hbk n1 n2 n3 n4 => hO.blk hbk fun h => ?_⟩
  rcases (m2 _ h).2.2 T cs hbk with q | q | q
  · exact n1 q
  · exact n2 q
  · exact n3 q
theorem tr_lose2 {w0 w : World} {t : Nat} {V : TrayV} (H : TrAt w0 w t V) (hk : 0 < V.kept.length) (hcl : V.cache.length ≤ 900000000) (choice : List Bool) (A : Option Addr) (n c : Nat) (hc : Kd.C Kd.bool w A n choice) (hn : n ≤ 1000000000) :
    Calls Try.prog 26 #[ptrT t, .slice A n c] w fun e w' => ∃ t', e = .returned (ptrT t') ∧ TrAt w0 w' t' (loseV V choice) ∧ Below w.heap.size w w' := by
  obtain ⟨⟨P, h1, h2⟩, h3, h4, h5, h6⟩ := H
  refine (lose_calls P t V choice A n c w h1 h3 hk (by omega) hc hn).mono ?_
  rintro e w' ⟨t', rfl, ht, hT, hb⟩
  exact ⟨t', rfl, ⟨⟨_, hT, fun j h => Nat.le_trans h6.size h⟩, h3.lose choice, h4.lose choice, by show (-1 : Int) ≤ _; decide, h6.trans (hb.mono h6.size)⟩, hb⟩
/-! ### records that came in, or are the law's own -/
structure Recs2 (w0 w : World) (v : Value) (xs : List (List Int)) : Prop where mk ::
  out : ∃ ss : List Sl, w.ownsRow w0.heap.size TSl 1 v ss.length (encs encS ss) ∧ ss.length = xs.length ∧ ∀ (i : Nat) (s : Sl) (x : List Int), ss[i]? = some s → xs[i]? = some x → ReadsInt w .u8 s.A s.n x ∧ (∀ ad, s.A = some ad → 0 < s.n → ad.block < w0.heap.size ∨ ∃ cs, Blk w ad.block TU8 cs)
theorem reads_move {w w' : World} {A : Option Addr} {n : Nat} {b : List Int} (h : ReadsInt w .u8 A n b) (hm : ∀ ad, A = some ad → 0 < n → w'.heap[ad.block]? = w.heap[ad.block]?) : ReadsInt w' .u8 A n b := ⟨h.1, h.2.1, fun h0 => by
  obtain ⟨ad, e, hc⟩ := h.2.2 h0
  refine ⟨ad, e, fun j hj => ?_⟩
  rw [← hc j hj]
  unfold World.cell?
  rw [add_block, hm ad e h0]⟩
namespace Recs2
variable {w0 w w1 : World} {v : Value} {xs : List (List Int)}
theorem nil (w0 w : World) : Recs2 w0 w (.slice none 0 0) [] := ⟨[], own_nil _ _ _ _, rfl, fun i s x h => by simp at h⟩
theorem below (h : Recs2 w0 w v xs) (hb : Below w.heap.size w w1) : Recs2 w0 w1 v xs := by
  obtain ⟨ss, h1, h2, h3⟩ := h.out
  refine ⟨ss, own_move h1 (fun g hg => hb.block g (own_lt h1 g hg)), h2, fun i s x a b => ?_⟩
  obtain ⟨k1, k2⟩ := h3 i s x a b
  exact ⟨k1.below hb, fun ad e h0 => (k2 ad e h0).imp_right fun ⟨cs, hcs⟩ => ⟨cs, hcs.below hb⟩⟩
theorem frame (h : Recs2 w0 w v xs) (hf : Frame2 w w1) (hb : Below w0.heap.size w0 w) (hb1 : Below w0.heap.size w0 w1) : Recs2 w0 w1 v xs := by
  obtain ⟨ss, h1, h2, h3⟩ := h.out
  refine ⟨ss, own_move h1 (fun k hk => ?_), h2, fun i s x a b => ?_⟩
  · obtain ⟨c, hc⟩ := own_typed h1 k hk
    exact (hf k TSl c ⟨hc⟩ (by decide) (by decide) (by decide) (by decide)).out.trans hc.symm
  · obtain ⟨k1, k2⟩ := h3 i s x a b
    refine ⟨reads_move k1 fun ad e h0 => ?_, fun ad e h0 => (k2 ad e h0).imp_right fun ⟨cs, hcs⟩ => ⟨cs, hf _ TU8 cs hcs (by decide) (by decide) (by decide) (by decide)⟩⟩
    rcases k2 ad e h0 with q | ⟨cs, hcs⟩
    · exact (hb1.block _ q).trans (hb.block _ q).symm
    · exact (hf _ TU8 cs hcs (by decide) (by decide) (by decide) (by decide)).out.trans hcs.out.symm
theorem typed (h : Recs2 w0 w v xs) : ∀ k, v.ownBlock = some k → w0.heap.size ≤ k ∧ ∃ cs, Blk w k TSl cs := fun k hk => by
  obtain ⟨ss, h1, h2, h3⟩ := h.out
  obtain ⟨c, hc⟩ := own_typed h1 k hk
  exact ⟨own_base h1 k hk, c, ⟨hc⟩⟩
theorem form (h : Recs2 w0 w v xs) : ∃ A n c, v = .slice A n c ∧ n = xs.length ∧ n ≤ c := by
  obtain ⟨ss, h1, h2, h3⟩ := h.out
  rcases h1.2 with ⟨rfl, e⟩ | ⟨g, cap, cur, rfl, -, -, hc, -⟩
  · exact ⟨none, 0, 0, rfl, by omega, Nat.le_refl _⟩
  · exact ⟨_, _, _, rfl, h2, hc⟩
theorem ofRecs {B : Nat} (h : Recs w B v xs) (hB : w0.heap.size ≤ B) : Recs2 w0 w v xs := by
  obtain ⟨ss, h1, h2, h3⟩ := h.out
  refine ⟨ss, own_weaken h1 hB, h2, fun i s x a b => ?_⟩
  have hr := h3 i s x a b
  obtain ⟨A', c', e, hrd⟩ := hr.reads
  have e1 : s.A = A' ∧ s.n = x.length := by
    have : (Value.slice s.A s.n s.c) = .slice A' x.length c' := e
    injection this with q1 q2 q3
    exact ⟨q1, q2⟩
  refine ⟨by rw [e1.1, e1.2]; exact hrd, fun ad ea h0 => .inr ?_⟩
  rcases hr.own.2 with ⟨q, -⟩ | ⟨g, cap, cur, q, hg, hh, -⟩
  · have : (Value.slice s.A s.n s.c) = .slice none 0 0 := q
    injection this with q1 q2 q3
    rw [q2] at h0
    exact absurd h0 (Nat.lt_irrefl 0)
  · have : (Value.slice s.A s.n s.c) = .slice (some ⟨g, 0, none⟩) (nums .u8 x).length cap ∨ (Value.slice s.A s.n s.c).ownBlock = some g := .inr (by rw [show Value.slice s.A s.n s.c = _ from q]; rfl)
    have hA : s.A = some ⟨g, 0, none⟩ := by
      have q' : Value.slice s.A s.n s.c = _ := q
      injection q' with q1 q2 q3
    rw [hA] at ea
    cases ea
    exact ⟨cur, ⟨hh⟩⟩
end Recs2
theorem DocT.frame {w w1 : World} {K C : Value} {V : TrayV} {m : Nat} (h : DocT w K C V m) (hf : Frame2 w w1) : DocT w1 K C V m := by
  obtain ⟨kl, h1, h2, h3⟩ := h.out
  refine ⟨kl, flat_move h1 fun k hk => ?_, flat_move h2 fun k hk => ?_, h3⟩
  · obtain ⟨cs, hc⟩ := own_typedR h1 k hk
    exact (hf k TDw cs hc (by decide) (by decide) (by decide) (by decide)).out.trans hc.out.symm
  · obtain ⟨cs, hc⟩ := own_typedR h2 k hk
    exact (hf k TDw cs hc (by decide) (by decide) (by decide) (by decide)).out.trans hc.out.symm
theorem write_left {V : TrayV} {a : Int} {bs : List Int} (h : V.left ≤ 9223372036854775807) : (writeV V a bs).1.left ≤ 9223372036854775807 ∧ (writeV V a bs).1.kept = V.kept ∧ (writeV V a bs).1.cache.length ≤ V.cache.length + 1 := by
  obtain ⟨h1, h2⟩ := step_kept V
  have hs : (stepV V).1.left ≤ 9223372036854775807 := by unfold stepV; split <;> (try split) <;> (try simp only) <;> omega
  unfold writeV
  split
  · exact ⟨h, rfl, Nat.le_succ _⟩
  · split
    · refine ⟨hs, h1, ?_⟩
      show (V.cache ++ [(a, padB bs)]).length ≤ _
      rw [List.length_append]
      exact Nat.le_refl _
    · exact ⟨hs, h1, by show (stepV V).1.cache.length ≤ _; rw [h2]; exact Nat.le_succ _⟩
theorem tr_write2 {w0 w : World} {t : Nat} {V : TrayV} (H : TrAt w0 w t V) (at_ : Int) (bs : List Int) (A : Option Addr) (n c : Nat) (hr : ReadsInt w .u8 A n bs) (hby : Bytes bs) (hcl : V.cache.length ≤ 900000000) (hA : ∀ ad, A = some ad → 0 < n → ad.block < w0.heap.size) :
    Calls Try.prog 14 #[ptrT t, .int .i64 at_, .slice A n c] w fun e w' => e = .returned (.int .i64 (writeV V at_ bs).2) ∧ TrAt w0 w' t (writeV V at_ bs).1 ∧ Frame2 w w' := by
  obtain ⟨⟨P, h1, h2⟩, h3, h4, h5, h6⟩ := H
  obtain ⟨P', m1, m2⟩ := h1.min2
  have hsz := h6.size
  refine (write_calls (fun j => P' j ∨ w.heap.size ≤ j) t V at_ bs A n c w (m1.mono fun j _ h => .inl h) h5 hr (by omega) (fun ad e h0 h => ?_) (fun j hj => .inr hj)).mono ?_
  · have := hA ad e h0
    rcases h with h | h
    · have := h2 _ (m2 _ h).1; omega
    · omega
  · rintro e w' ⟨rfl, hT, hO⟩
    refine ⟨rfl, ⟨⟨_, hT, fun j h => ?_⟩, h3.write at_ bs, h4.write at_ hby, (write_left h5).1, h6.trans (hO.below hsz (fun j h => ?_))⟩, fun k T cs hbk n1 n2 n3 n4 => hO.blk hbk fun h => ?_⟩
    · rcases h with h | h
      · exact h2 j (m2 _ h).1
      · omega
    · rcases h with h | h
      · exact h2 j (m2 _ h).1
      · omega
    · rcases h with h | h
      · rcases (m2 _ h).2.2 T cs hbk with q | q | q
        · exact n1 q
        · exact n2 q
        · exact n3 q
      · have := hbk.lt; omega
theorem onlyP_setRow (w : World) (g : Nat) (cs' : Array Value) : OnlyP (fun j => j = g) w (w.setRow g cs') := by
  have hb := below_setRow (B := 0) (Below.refl 0 w) (Nat.zero_le g) cs'
  exact ⟨hb.os, hb.tape, hb.output, hb.size, fun k hk hn => setRow_other w g k cs' hn⟩
theorem TrAt.setRow {w0 w : World} {t : Nat} {V : TrayV} (H : TrAt w0 w t V) {g : Nat} {T : TypeId} {cs : Array Value} (hb : Blk w g T cs) (n1 : T ≠ TTr) (n2 : T ≠ TSe) (n3 : T ≠ TCa) (hg : w0.heap.size ≤ g) (cs' : Array Value) : TrAt w0 (w.setRow g cs') t V := by
  obtain ⟨⟨P, h1, h2⟩, h3, h4, h5, h6⟩ := H
  obtain ⟨P', m1, m2⟩ := h1.min2
  refine ⟨⟨P', m1.onlyP (onlyP_setRow w g cs') (fun j _ hp e => ?_), fun j h => h2 j (m2 j h).1⟩, h3, h4, h5, below_setRow h6 hg cs'⟩
  subst e
  rcases (m2 _ hp).2.2 T cs hb with q | q | q
  · exact n1 q
  · exact n2 q
  · exact n3 q
theorem DocT.setRow {w : World} {K C : Value} {V : TrayV} {m : Nat} (h : DocT w K C V m) {g : Nat} {T : TypeId} {cs : Array Value} (hb : Blk w g T cs) (hT : TDw ≠ T) (cs' : Array Value) : DocT (w.setRow g cs') K C V m := by
  obtain ⟨kl, h1, h2, h3⟩ := h.out
  refine ⟨kl, flat_move h1 fun k hk => ?_, flat_move h2 fun k hk => ?_, h3⟩
  · obtain ⟨c, hc⟩ := own_typedR h1 k hk
    exact setRow_other w g k cs' (fun e => absurd rfl (hc.ne (e ▸ hb) hT))
  · obtain ⟨c, hc⟩ := own_typedR h2 k hk
    exact setRow_other w g k cs' (fun e => absurd rfl (hc.ne (e ▸ hb) hT))
theorem read_any {V : TrayV} (h : BytesT V) (at_ : Int) : Bytes (readV V at_) := by
  refine last_bytes h.cache at_ _ ?_
  rw [List.getD]
  by_cases hi : at_.toNat < V.kept.length
  · rw [List.getElem?_eq_getElem hi, Option.getD_some]; exact h.kept _ (List.getElem_mem hi)
  · rw [List.getElem?_eq_none (by omega)]; exact fun x hx => by cases hx
theorem body_any {V : TrayV} (h : BytesT V) (S : SpoolV) (n : Int) : ∀ k, Bytes (bodyR V S n k)
  | 0 => fun x hx => by cases hx
  | k + 1 => by
    rw [bodyR]
    exact (body_any h S n k).append fun x hx => read_any h _ x (List.mem_of_mem_drop (List.mem_of_mem_take hx))
theorem find_any {V : TrayV} (h : BytesT V) (S : SpoolV) : ∀ (k : Nat) (tl least : Int) (out : List (List Int)), (∀ b, b ∈ out → Bytes b) → (∀ b, b ∈ (findV V S k tl least out).1 → Bytes b) ∧ (findV V S k tl least out).1.length ≤ out.length + k
  | 0, tl, least, out, ho => ⟨ho, Nat.le_refl _⟩
  | k + 1, tl, least, out, ho => by
    simp only [findV]
    split
    · have := find_any h S k (tl + (atV V S tl).of) (atV V S tl).epoch (out ++ [bodyR V S tl (atV V S tl).of.toNat]) (fun b hb => by
        rcases List.mem_append.1 hb with hb | hb
        · exact ho b hb
        · obtain rfl := List.mem_singleton.1 hb
          exact body_any h S tl _)
      refine ⟨this.1, ?_⟩
      have h2 := this.2
      rw [List.length_append, List.length_singleton] at h2
      omega
    · exact ⟨ho, by show out.length ≤ _; omega⟩
theorem opened_any {V : TrayV} (h : BytesT V) (a b hd ep : Int) : (∀ x, x ∈ (opened V a b hd ep).1 → Bytes x) ∧ (opened V a b hd ep).1.length ≤ b.toNat := by
  have := find_any h ⟨a, b, ep, hd, hd, false⟩ b.toNat hd 0 [] (fun x hx => by cases hx)
  exact ⟨this.1, by have := this.2; rwa [List.length_nil, Nat.zero_add] at this⟩
end Go.Proofs.Ytddhngalokmdoaa.Spo
