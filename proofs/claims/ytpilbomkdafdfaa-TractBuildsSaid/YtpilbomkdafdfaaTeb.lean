/- The program's tract: each. -/
import Derived.Test.YtpilbomkdafdfaaTea
namespace Go.Proofs.Ytpilbomkdafdfaa.Tra
open Go.RowKit Go.Proofs.YtpilbomkdafdfaaW.PrintWords Go.Proofs.YtpilbomkdafdfaaW.PrintLast Go.Proofs.YtpilbomkdafdfaaW.PrintMore Go.Proofs.Ytpilbomkdafdfaa.Arr Go.Proofs.Ytpilbomkdafdfaa.Utf Go.Proofs.Ytpilbomkdafdfaa.PTractRefs
set_option linter.unusedVariables false
set_option linter.unusedSimpArgs false

section
variable {σ : Type} (step : S24 → Bool → σ → σ)
mutual
def eachS : S24 → Bool → σ → σ
  | ⟨k, a, b, l⟩, odd, s => eachL k l odd 0 (step ⟨k, a, b, l⟩ odd s)
def eachL (k : Int) : List S24 → Bool → Nat → σ → σ
  | [], _, _, s => s
  | x :: l, odd, i, s => eachL k l odd (i + 1) (eachS x (odd != flip k i) s)
end
theorem eachL_snoc (k : Int) (x : S24) (odd : Bool) : ∀ (l : List S24) (j : Nat) (s : σ), eachL step k (l ++ [x]) odd j s = eachS step x (odd != flip k (j + l.length)) (eachL step k l odd j s)
  | [], j, s => by simp [eachL]
  | y :: l, j, s => by
    simp only [List.cons_append, eachL]
    rw [eachL_snoc k x odd l (j + 1)]
    rw [show j + 1 + l.length = j + (y :: l).length by simp; omega]
theorem eachL_take (k : Int) (l : List S24) (odd : Bool) (i : Nat) (h : i < l.length) (s : σ) : eachL step k (l.take (i + 1)) odd 0 s = eachS step l[i] (odd != flip k i) (eachL step k (l.take i) odd 0 s) := by
  rw [← List.take_append_getElem h, eachL_snoc]
  rw [List.length_take, Nat.zero_add, Nat.min_eq_left (Nat.le_of_lt h)]
theorem eachS_len {len : σ → Nat} (hlen : ∀ x odd s, len (step x odd s) ≤ len s + 1) (x : S24) : ∀ odd s, len (eachS step x odd s) ≤ len s + sz x := by
  refine S24_ind (P := fun x => ∀ odd s, len (eachS step x odd s) ≤ len s + sz x) (fun x ih => ?_) x
  obtain ⟨k, a, b, l⟩ := x
  simp only [sz, eachS] at *
  intro odd s
  have H : ∀ i s, len (eachL step k l odd i s) ≤ len s + szL l := by
    induction l with
    | nil => intro i s; simp [eachL]
    | cons y l ih2 =>
      intro i s
      simp only [eachL, szL]
      have h1 := ih y (by simp) (odd != flip k i) s
      have h2 := ih2 (fun z hz => ih z (by simp [hz])) (i + 1) (eachS step y (odd != flip k i) s)
      omega
  have h1 := H 0 (step ⟨k, a, b, l⟩ odd s)
  have h2 := hlen ⟨k, a, b, l⟩ odd s
  omega
theorem eachL_len {len : σ → Nat} (hlen : ∀ x odd s, len (step x odd s) ≤ len s + 1) (k : Int) (odd : Bool) : ∀ (l : List S24) (i : Nat) (s : σ), len (eachL step k l odd i s) ≤ len s + szL l
  | [], i, s => by simp [eachL]
  | y :: l, i, s => by
    simp only [eachL, szL]
    have h1 := eachS_len step hlen y (odd != flip k i) s
    have h2 := eachL_len hlen k odd l (i + 1) (eachS step y (odd != flip k i) s)
    omega
end
theorem szL_take (l : List S24) (i : Nat) (h : i < l.length) : szL (l.take i) + sz l[i] ≤ szL l := by
  induction l generalizing i with
  | nil => simp at h
  | cons x l ih =>
    cases i with
    | zero => simp [szL]
    | succ i =>
      have := ih i (by simpa using h)
      simp only [List.take_succ_cons, szL, List.getElem_cons_succ]
      omega
theorem good_leaf (x : S24) (h : goodB x = true) (hk : x.f0 = 1 ∨ x.f0 = 2 ∨ x.f0 = 3) : x.f3 = [] := by
  obtain ⟨k, a, b, l⟩ := x
  simp only [goodB, Bool.and_eq_true] at h
  have hs := h.2
  unfold shapeB at hs
  simp only at hk ⊢
  rcases hk with rfl | rfl | rfl <;> simp at hs <;> exact hs.2.2
theorem flip_no (k : Int) (i : Nat) (h : k ≠ 6) : flip k i = false := by unfold flip; rw [beq_eq_false_iff_ne.2 h]; rfl
/-- The blocks that are ok stay. -/
structure Keep (ok : Nat → Prop) (w w' : World) : Prop where mk ::
  size : w.heap.size ≤ w'.heap.size
  block : ∀ k, ok k → k < w.heap.size → w'.heap[k]? = w.heap[k]?
theorem Keep.refl (ok : Nat → Prop) (w : World) : Keep ok w w := ⟨Nat.le_refl _, fun _ _ _ => rfl⟩
theorem Keep.trans {ok : Nat → Prop} {w w1 w2 : World} (h : Keep ok w w1) (h' : Keep ok w1 w2) : Keep ok w w2 :=
  ⟨Nat.le_trans h.size h'.size, fun k hk hlt => (h'.block k hk (Nat.lt_of_lt_of_le hlt h.size)).trans (h.block k hk hlt)⟩
theorem Keep.of_below {ok : Nat → Prop} {w w' : World} (h : Below w.heap.size w w') : Keep ok w w' := ⟨h.size, fun k _ hlt => h.block k hlt⟩
theorem ER_keep {ok : Nat → Prop} {w w' : World} (h : Keep ok w w') {x : S24} {v : Value} (he : ER ok w x v) : ER ok w' x v := ER_up h.block (fun _ hk _ => hk) x v he
theorem ERL_keep {ok : Nat → Prop} {w w' : World} (h : Keep ok w w') {l : List S24} {vs : List Value} (he : ERL ok w l vs) : ERL ok w' l vs := ERL_up h.block (fun _ hk _ => hk) l vs he
theorem RowV_keep {ok : Nat → Prop} {w w' : World} (h : Keep ok w w') {v : Value} {vs : List Value} (he : RowV ok w v vs) : RowV ok w' v vs := he.up h.block (fun _ hk _ => hk)
/-- What may be written: S at the start, S' at the end. -/
structure Wr (S : Nat → Prop) (w w' : World) (S' : Nat → Prop) : Prop where mk ::
  size : w.heap.size ≤ w'.heap.size
  block : ∀ k, k < w.heap.size → ¬ S k → w'.heap[k]? = w.heap[k]?
  next : ∀ k, S' k → S k ∨ w.heap.size ≤ k
section
variable {S S1 S2 ok : Nat → Prop} {w w1 w2 : World}
theorem Wr.refl (S : Nat → Prop) (w : World) : Wr S w w S := ⟨Nat.le_refl _, fun _ _ _ => rfl, fun _ h => .inl h⟩
theorem Wr.trans (h : Wr S w w1 S1) (h' : Wr S1 w1 w2 S2) : Wr S w w2 S2 :=
  ⟨Nat.le_trans h.size h'.size, fun k hlt hn => (h'.block k (Nat.lt_of_lt_of_le hlt h.size) (fun h1 => by rcases h.next k h1 with h2 | h2; exact hn h2; omega)).trans (h.block k hlt hn), fun k hk => by
    rcases h'.next k hk with h1 | h1
    · exact h.next k h1
    · exact .inr (Nat.le_trans h.size h1)⟩
theorem Wr.of_below (h : Below w.heap.size w w1) (S : Nat → Prop) : Wr S w w1 S := ⟨h.size, fun k hlt _ => h.block k hlt, fun _ h => .inl h⟩
theorem Wr.keep (h : Wr S w w1 S1) (hd : ∀ k, ok k → ¬ S k) : Keep ok w w1 := ⟨h.size, fun k hk hlt => h.block k hlt (hd k hk)⟩
theorem Wr.dis (h : Wr S w w1 S1) (hd : ∀ k, ok k → ¬ S k) (hB : ∀ k, ok k → k < w.heap.size) : ∀ k, ok k → ¬ S1 k := fun k hk h1 => by
  rcases h.next k h1 with h2 | h2
  · exact hd k hk h2
  · have := hB k hk; omega
end
section
variable {σ : Type} (step : S24 → Bool → σ → σ) (ok : Nat → Prop) (St : World → σ → (Nat → Prop) → Prop) (len : σ → Nat) (M : Nat) (N : FuncId) (caps : Array Value)
def EPost (w : World) (S : Nat → Prop) (s : σ) (e : Ending) (w' : World) : Prop := e = .returned (.tuple #[]) ∧ ∃ S', St w' s S' ∧ Wr S w w' S'
/-- Where it is called: the tree stands, what may be written is none of it. -/
structure At (x : S24) (v : Value) (w : World) (S : Nat → Prop) (s : σ) : Prop where mk ::
  er : ER ok w x v
  dis : ∀ k, ok k → ¬ S k
  lt : ∀ k, ok k → k < w.heap.size
  st : St w s S
def VisAt : Prop := ∀ (x : S24) (v : Value) (odd : Bool) (w : World) (S : Nat → Prop) (s : σ), (x.f0 = 1 ∨ x.f0 = 2 ∨ x.f0 = 3 ∨ x.f0 = 4 ∨ x.f0 = 5 ∨ x.f0 = 6) → len s + 1 ≤ M → At ok St x v w S s → Calls Try.prog N (#[v, .bool odd] ++ caps) w (EPost St w S (step x odd s))
def EachAt (x : S24) : Prop := ∀ (v : Value) (odd : Bool) (w : World) (S : Nat → Prop) (s : σ), len s + sz x ≤ M → At ok St x v w S s → Calls Try.prog 27 #[v, .bool odd, .func (.func N) #[] caps] w (EPost St w S (eachS step x odd s))
/-- What is asked of the state: it stands under what only makes memory; its blocks are there. -/
structure StOk : Prop where mk ::
  below : ∀ w w' s S, St w s S → Below w.heap.size w w' → St w' s S
  lt : ∀ w s S, St w s S → ∀ k, S k → k < w.heap.size
variable {step ok St len M N caps}
theorem At.to {x y : S24} {v u : Value} {w w1 : World} {S S1 : Nat → Prop} {s s1 : σ} (h : At ok St x v w S s) (hw : Wr S w w1 S1) (hs : St w1 s1 S1) (he : ER ok w y u) : At ok St y u w1 S1 s1 :=
  ⟨ER_keep (hw.keep h.dis) he, hw.dis h.dis h.lt, fun k hk => Nat.lt_of_lt_of_le (h.lt k hk) hw.size, hs⟩
set_option maxHeartbeats 16000000 in
set_option maxRecDepth 100000 in
theorem each_tail (hcf : ∀ args w, Sem.run Try.prog (callFunc N args) w = Result.ok (.enter N args) w) (hlen : ∀ x odd s, len (step x odd s) ≤ len s + 1) (hst : StOk St) (k : Int) (a b : ByteArray) (l : List S24) (hk : k = 1 ∨ k = 2 ∨ k = 3 ∨ k = 4 ∨ k = 5) (hlf : k = 1 ∨ k = 2 ∨ k = 3 → l = []) (hl : l.length ≤ 1000000)
    (hv : VisAt step ok St len M N caps) (hx : ∀ y, y ∈ l → EachAt step ok St len M N caps y) : EachAt step ok St len M N caps ⟨k, a, b, l⟩ := by
  intro v odd w S s hm hA
  have hE := hA.er
  have hm' : len s + (szL l + 1) ≤ M := by simpa [sz] using hm
  have haE : ∀ w, (Instr.typeAssert v TE TExc true).run Try.prog w = .ok (.tuple #[.agg #[.nilIface, .nilIface], .bool false]) w := by
    intro w'
    rcases hk with rfl | rfl | rfl | rfl | rfl
    · obtain rfl : v = .iface TThis (.agg #[]) := by simpa [ER] using hE
      exact as_This_Exc _
    · obtain rfl : v = .iface TComp (.agg #[.string a]) := by simpa [ER] using hE
      exact as_Comp_Exc _ _
    · obtain rfl : v = .iface TArr (.agg #[.string a, .string b]) := by simpa [ER] using hE
      exact as_Arr_Exc _ _ _
    · obtain ⟨r, vs, rfl, hr, hl⟩ : ∃ r vs, v = .iface TUni (.agg #[r]) ∧ RowV ok w r vs ∧ ERL ok w l vs := by simpa [ER] using hE
      exact as_Uni_Exc _ _
    · obtain ⟨r, vs, rfl, hr, hl⟩ : ∃ r vs, v = .iface TMee (.agg #[r]) ∧ RowV ok w r vs ∧ ERL ok w l vs := by simpa [ER] using hE
      exact as_Mee_Exc _ _
  obtain ⟨tt, uu, rfl⟩ := ER_iface hE
  have hk6 : k ≠ 6 := by omega
  have hkids : kidsOf ⟨k, a, b, l⟩ = l := by
    unfold kidsOf
    simp only
    by_cases h45 : k = 4 ∨ k = 5
    · rw [if_pos h45]
    · rw [if_neg h45, hlf (by omega)]
  have KV := Aside0.mk (hv ⟨k, a, b, l⟩ (.iface tt uu) odd w S s (by simp only; omega) (by omega) hA)
  have HE := Aside0.mk hE
  have HA := Aside0.mk hA
  have HX := Aside0.mk hx
  have HKK := Aside0.mk hkids
  have HK := Aside0.mk hk
  have HST := Aside0.mk hst
  clear hE hA hv hx hk hlf hst hkids
  go_enter Try.func27, Try.ntmps27
  go_wp2_with fail
  refine KV.out.mono ?_
  rintro e w1 ⟨rfl, S1, hS1, hK1⟩
  have bb : Below w1.heap.size w1 (w1.alloc (.cells #[.nilIface, .nilIface] TExc)) := (Below.refl _ _).alloc (Nat.le_refl _) _
  have hS1' := HST.out.below _ _ _ _ hS1 bb
  have K1 := Aside0.mk (hK1.trans (Wr.of_below bb S1))
  have A1 := Aside0.mk (HA.out.to (hK1.trans (Wr.of_below bb S1)) hS1' HE.out)
  clear KV hS1 hS1' hK1 bb
  go_wp2_with fail
  clear haE
  have KP := Aside0.mk (parts_calls ok ⟨k, a, b, l⟩ (by have := HK.out; simp only; omega) (.iface tt uu) _ A1.out.er)
  refine KP.out.mono ?_
  rintro e w2 ⟨r, vs, rfl, hr, hl2, b2⟩
  rw [HKK.out] at hl2
  have hvl := ERL_len l vs hl2
  obtain ⟨Ar, nr, cr, rfl, hnr⟩ : ∃ A n c, r = .slice A n c ∧ n = l.length := by
    rcases hr with ⟨rfl, h2⟩ | ⟨g, c, cur, rfl, _⟩
    · exact ⟨_, _, _, rfl, by rw [← hvl, h2]; rfl⟩
    · exact ⟨_, _, _, rfl, hvl⟩
  subst hnr
  have A2 := Aside0.mk (A1.out.to (Wr.of_below b2 S1) (HST.out.below _ _ _ _ A1.out.st b2) A1.out.er)
  have K2 := Aside0.mk (K1.out.trans (Wr.of_below b2 S1))
  have RV := Aside0.mk hr
  have EL := Aside0.mk hl2
  have HVL := Aside0.mk hvl
  clear KP A1 K1 b2 hr hl2 hvl
  go_wp2_with fail
  go_loopw [34] (fun v34 wr => ∃ i : Nat, v34 = .int .i64 (i : Int) ∧ Aside0 (i ≤ l.length) ∧ Aside0 (∃ Si, St wr (eachL step k (l.take i) odd 0 (step ⟨k, a, b, l⟩ odd s)) Si ∧ Wr S1 w2 wr Si)) (fun v34 _ => l.length - (intOf v34).toNat)
  case atStart => exact ⟨0, rfl, ⟨Nat.zero_le _⟩, ⟨S1, A2.out.st, Wr.refl _ _⟩⟩
  case round =>
    obtain ⟨i, rfl, hin, hSi⟩ := hrel
    by_cases hi : i < l.length
    · have t1 : decide ((i : Int) < (l.length : Int)) = true := decide_eq_true (by omega)
      have h0 : (0 : Int) ≤ (i : Int) := by omega
      have h1 : (i : Int) < (l.length : Int) := by omega
      have hiv : i < vs.length := by have := HVL.out; omega
      obtain ⟨Si, hSt, hWr⟩ := hSi.out
      have hRW := RowV_keep (hWr.keep A2.out.dis) RV.out
      have hEi := ERL_get l vs EL.out i hi hiv
      obtain ⟨g, c', cur, hsl, hok, hc3, hc4, hBk, hcur⟩ : ∃ g c cur, Value.slice Ar l.length cr = .slice (some ⟨g, 0, none⟩) vs.length c ∧ ok g ∧ vs.length ≤ c ∧ vs.length ≤ 1000000 ∧ Blk wr g TE cur ∧ ∀ i (h : i < vs.length), cur[i]? = some vs[i] := by
        rcases hRW with ⟨_, h2⟩ | h
        · rw [h2] at hiv; simp at hiv
        · exact h
      injection hsl with hA hn hc'
      subst hA
      have q := (hBk.cell i).trans (hcur i hiv)
      have qlt := hBk.lt
      obtain ⟨tv, uv, hvi⟩ := ER_iface hEi
      rw [hvi] at q hEi
      have KE := Aside0.mk (HX.out l[i] (List.getElem_mem hi) (.iface tv uv) odd wr Si _ (by have h1 := eachL_len step hlen k odd (l.take i) 0 (step ⟨k, a, b, l⟩ odd s); have h2 := hlen ⟨k, a, b, l⟩ odd s; have h3 := szL_take l i hi; omega) (A2.out.to hWr hSt hEi))
      have WR := Aside0.mk hWr
      have htk := eachL_take step k l odd i hi (step ⟨k, a, b, l⟩ odd s)
      rw [flip_no k i hk6, Bool.bne_false] at htk
      have HTK := Aside0.mk htk
      have p0 := eq_true h0
      have p1 := eq_true h1
      have hw : IntKind.i64.wrap ((i : Int) + 1) = ((i + 1 : Nat) : Int) := by rw [show ((i : Int) + 1) = ((i + 1 : Nat) : Int) by omega]; exact IntWalk.i64_in _ (by omega)
      clear hRW hEi hok hc3 hc4 hBk hcur hn hc' hvi htk hSt hWr hSi
      go_wp2_with fail
      clear q qlt
      refine KE.out.mono ?_
      rintro e w3 ⟨rfl, S3, hS3, hK3⟩
      have K3 := Aside0.mk (WR.out.trans hK3)
      have T3 := Aside0.mk hS3
      clear KE hS3 hK3
      go_wp2
      go_roundw
      case rel => exact ⟨i + 1, by first | rfl | (rw [hw]) | go_num | simp [hw], ⟨by omega⟩, ⟨S3, by rw [HTK.out]; exact T3.out, K3.out⟩⟩
      case measure => simp [intOf, hw]; omega
    · have t1 : decide ((i : Int) < (l.length : Int)) = false := decide_eq_false (by omega)
      have e1 : i = l.length := by have := hin.out; omega
      subst e1
      have hS' := hSi.out
      rw [List.take_length] at hS'
      have HS := Aside0.mk hS'
      clear hSi hS'
      go_wp2
      go_end0
      obtain ⟨Si, hSt, hWr⟩ := HS.out
      exact ⟨rfl, Si, by simp only [eachS]; exact hSt, K2.out.trans hWr⟩
set_option maxHeartbeats 16000000 in
set_option maxRecDepth 100000 in
theorem each_exc (hcf : ∀ args w, Sem.run Try.prog (callFunc N args) w = Result.ok (.enter N args) w) (hlen : ∀ x odd s, len (step x odd s) ≤ len s + 1) (hst : StOk St) (a b : ByteArray) (x0 x1 : S24)
    (hv : VisAt step ok St len M N caps) (h0 : EachAt step ok St len M N caps x0) (h1 : EachAt step ok St len M N caps x1) : EachAt step ok St len M N caps ⟨6, a, b, [x0, x1]⟩ := by
  intro v odd w S s hm hA
  have hm' : len s + (sz x0 + sz x1 + 1) ≤ M := by simpa [sz, szL] using hm
  have KV := Aside0.mk (hv ⟨6, a, b, [x0, x1]⟩ v odd w S s (by simp) (by omega) hA)
  have hl1 := hlen ⟨6, a, b, [x0, x1]⟩ odd s
  have hl2 := eachS_len step hlen x0 odd (step ⟨6, a, b, [x0, x1]⟩ odd s)
  have hE := hA.er
  obtain ⟨x, y, rfl, hl⟩ : ∃ x y, v = .iface TExc (.agg #[x, y]) ∧ ERL ok w [x0, x1] [x, y] := by simpa [ER] using hE
  have hx := ERL_get [x0, x1] [x, y] hl 0 (by simp) (by simp)
  have hy := ERL_get [x0, x1] [x, y] hl 1 (by simp) (by simp)
  simp only [List.getElem_cons_zero, List.getElem_cons_succ] at hx hy
  obtain ⟨tx, ux, rfl⟩ := ER_iface hx
  obtain ⟨ty, uy, rfl⟩ := ER_iface hy
  have a1 := as_Exc_Exc (.iface tx ux) (.iface ty uy)
  have HA := Aside0.mk hA
  have HX := Aside0.mk hx
  have HY := Aside0.mk hy
  have H0 := Aside0.mk h0
  have H1 := Aside0.mk h1
  have HST := Aside0.mk hst
  clear hE hA hv hst hl hx hy h0 h1
  go_enter Try.func27, Try.ntmps27
  go_wp2_with fail
  refine KV.out.mono ?_
  rintro e w1 ⟨rfl, S1, hS1, hK1⟩
  obtain ⟨W, hW⟩ : ∃ W, w1.alloc (.cells #[.iface tx ux, .iface ty uy] TExc) = W := ⟨_, rfl⟩
  obtain ⟨nx, hnx⟩ : ∃ nx, w1.heap.size = nx := ⟨_, rfl⟩
  have bb : Below w1.heap.size w1 W := by rw [← hW]; exact (Below.refl _ _).alloc (Nat.le_refl _) _
  have hR : Blk W nx TExc #[.iface tx ux, .iface ty uy] := by rw [← hW]; exact Blk.newAt hnx.symm
  have hnS : ¬ S1 nx := fun h => by have := HST.out.lt _ _ _ hS1 _ h; omega
  have hK1' := hK1.trans (Wr.of_below bb S1)
  have A1 := Aside0.mk (HA.out.to hK1' (HST.out.below _ _ _ _ hS1 bb) HX.out)
  have K1 := Aside0.mk hK1'
  have c0 := hR.cell 0
  have cl := hR.lt
  have R1 := Aside0.mk hR
  clear KV hS1 hK1 hK1' bb hR
  go_wp2_with fail
  clear c0 cl hW hnx
  refine (H0.out (.iface tx ux) odd W S1 _ (by omega) A1.out).mono ?_
  rintro e w2 ⟨rfl, S2, hS2, hK2⟩
  have hR2 : Blk w2 nx TExc #[.iface tx ux, .iface ty uy] := ⟨(hK2.block nx R1.out.lt hnS).trans R1.out.out⟩
  have K2 := Aside0.mk (K1.out.trans hK2)
  have A2 := Aside0.mk (HA.out.to (K1.out.trans hK2) hS2 HY.out)
  have c1 := hR2.cell 1
  have cl := hR2.lt
  clear hR2 hS2 hK2 R1 K1 A1
  go_wp2_with fail
  clear c1 cl
  refine (H1.out (.iface ty uy) (!odd) w2 S2 _ (by omega) A2.out).mono ?_
  rintro e w3 ⟨rfl, S3, hS3, hK3⟩
  have K3 := Aside0.mk (K2.out.trans hK3)
  have T3 := Aside0.mk hS3
  clear hS3 hK3 K2 A2
  go_wp2
  go_end0
  exact ⟨rfl, S3, by simpa [eachS, eachL, flip] using T3.out, K3.out⟩
theorem each_at (hcf : ∀ args w, Sem.run Try.prog (callFunc N args) w = Result.ok (.enter N args) w) (hlen : ∀ x odd s, len (step x odd s) ≤ len s + 1) (hst : StOk St) (hv : VisAt step ok St len M N caps) (x : S24) : sz x ≤ 1000000 → goodB x = true → EachAt step ok St len M N caps x := by
  refine S24_ind (P := fun x => sz x ≤ 1000000 → goodB x = true → EachAt step ok St len M N caps x) (fun x ih => ?_) x
  intro hs hg
  obtain ⟨hk, hl⟩ := good_kinds x hg
  have hlf := good_leaf x hg
  obtain ⟨k, a, b, l⟩ := x
  simp only [sz] at *
  have hll := szL_length l
  have hx : ∀ y, y ∈ l → EachAt step ok St len M N caps y := fun y hy => ih y hy (by have := szL_mem (l := l) hy; omega) (goodL_all _ hl y hy)
  by_cases h6 : k = 6
  · subst h6
    have hl2 : l.length = 2 := by omega
    match l, hl2, hx with
    | [x0, x1], _, hx => exact each_exc hcf hlen hst a b x0 x1 hv (hx x0 (by simp)) (hx x1 (by simp))
  · exact each_tail hcf hlen hst k a b l (by omega) hlf (by omega) hv hx
end
end Go.Proofs.Ytpilbomkdafdfaa.Tra
