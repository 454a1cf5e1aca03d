/- The program's tract: Build, Parts. -/
import Derived.Test.YtpilbomkdafdfaaTbu
namespace Go.Proofs.Ytpilbomkdafdfaa.Tra
open Go.RowKit Go.Proofs.YtpilbomkdafdfaaW.PrintWords Go.Proofs.YtpilbomkdafdfaaW.PrintLast Go.Proofs.YtpilbomkdafdfaaW.PrintMore Go.Proofs.Ytpilbomkdafdfaa.Arr Go.Proofs.Ytpilbomkdafdfaa.Utf Go.Proofs.Ytpilbomkdafdfaa.PTractRefs
set_option linter.unusedVariables false
set_option linter.unusedSimpArgs false

def codeV (x : S24) : Int := if goodB x = false then 2 else if 24 < sz x then 3 else if 8 < dep x then 12 else 0
def BuildR (x : S24) (w : World) (e : Ending) (w' : World) : Prop :=
  ∃ v, e = .returned (.tuple #[v, .int .i64 (codeV x)]) ∧ (codeV x = 0 → ER (fun k => w.heap.size ≤ k) w' x v) ∧ (codeV x ≠ 0 → v = .nilIface) ∧ Below w.heap.size w w'
set_option maxHeartbeats 8000000 in
set_option maxRecDepth 100000 in
theorem buildR_calls (x : S24) (hs : sz x ≤ 1000000) (ht : strs x ≤ 9223372036854775807) (A : Option Addr) (c : Nat) (w : World) (hC : Kd.C k24 w A x.f3.length x.f3) (hc : x.f3.length ≤ c) :
    Calls Try.prog 9 #[.agg (nodeA x A c)] w (BuildR x w) := by
  obtain ⟨W0, hW0⟩ : ∃ W0, w.alloc (.cells (nodeA x A c) TN) = W0 := ⟨_, rfl⟩
  have b0 : Below w.heap.size w W0 := by rw [← hW0]; exact (Below.refl _ _).alloc (Nat.le_refl _) _
  have hR : Blk W0 w.heap.size TN (nodeA x A c) := by rw [← hW0]; exact Blk.new _ _ _
  have KG := Aside0.mk (good_at x hs ht A c W0 (Kd.C_below hC b0) hc)
  obtain ⟨ks, hks⟩ := (ev_size x hs).rounds
  obtain ⟨kd, hkd⟩ := (ev_dep x hs).rounds
  have HS := Aside0.mk (show tract_Size.f ks x.f0 x.f1 x.f2 x.f3 = some (sz x : Int) from hks)
  have HD := Aside0.mk (show tract_Depth.f kd x.f0 x.f1 x.f2 x.f3 = some (dep x : Int) from hkd)
  have HSZ := Aside0.mk hs
  have HC := Aside0.mk hC
  have R0 := Aside0.mk hR
  have B0 := Aside0.mk b0
  have HCODE := Aside0.mk (rfl : codeV x = codeV x)
  obtain ⟨cd, hcd⟩ : ∃ cd, codeV x = cd := ⟨_, rfl⟩
  have HCD := Aside0.mk hcd
  have c0 := hR.cell 0
  have c1 := hR.cell 1
  have c2 := hR.cell 2
  have c3 := hR.cell 3
  have cl := hR.lt
  clear hC hR b0 hks hkd hcd hs
  go_enter Try.func9, Try.ntmps9
  go_wp2_with fail
  clear hW0 c0 c1 c2 c3 cl
  refine KG.out.mono ?_
  rintro e w1 ⟨rfl, b1⟩
  have hR1 := R0.out.below b1
  have B1 := Aside0.mk (B0.out.trans (b1.mono B0.out.size))
  have R1 := Aside0.mk hR1
  clear b1 KG R0 B0
  cases hg : goodB x with
  | false =>
    have e1 : codeV x = 2 := by unfold codeV; rw [if_pos hg]
    have HE1 := Aside0.mk e1
    clear hR1 hg e1
    go_wp2
    go_ret2
    exact ⟨.nilIface, by rw [HE1.out]; rfl, fun h => by rw [HE1.out] at h; exact absurd h (by decide), fun _ => rfl, B1.out⟩
  | true =>
    have HG := Aside0.mk hg
    have c0 := hR1.cell 0
    have c1 := hR1.cell 1
    have c2 := hR1.cell 2
    have c3 := hR1.cell 3
    have cl := hR1.lt
    have KS := Aside0.mk (tract_Size.calls ks x.f0 x.f1 x.f2 A c x.f3 (sz x : Int) w1 (Kd.C_below HC.out B1.out) hc HS.out)
    clear hR1 hg
    go_wp2_with fail
    clear c0 c1 c2 c3 cl
    refine KS.out.mono ?_
    rintro e w2 ⟨rfl, b2⟩
    have hR2 := R1.out.below b2
    have B2 := Aside0.mk (B1.out.trans (b2.mono B1.out.size))
    have R2 := Aside0.mk hR2
    clear b2 KS R1 B1
    by_cases h24 : 24 < sz x
    · have e1 : codeV x = 3 := by unfold codeV; rw [if_neg (by rw [HG.out]; decide), if_pos h24]
      have t1 : decide ((sz x : Int) > 24) = true := decide_eq_true (by omega)
      have HE1 := Aside0.mk e1
      clear hR2 e1
      go_wp2
      go_ret2
      exact ⟨.nilIface, by rw [HE1.out]; rfl, fun h => by rw [HE1.out] at h; exact absurd h (by decide), fun _ => rfl, B2.out⟩
    have t1 : decide ((sz x : Int) > 24) = false := decide_eq_false (by omega)
    have c0 := hR2.cell 0
    have c1 := hR2.cell 1
    have c2 := hR2.cell 2
    have c3 := hR2.cell 3
    have cl := hR2.lt
    have KD := Aside0.mk (tract_Depth.calls kd x.f0 x.f1 x.f2 A c x.f3 (dep x : Int) w2 (Kd.C_below HC.out B2.out) hc HD.out)
    clear hR2
    go_wp2_with fail
    clear c0 c1 c2 c3 cl
    refine KD.out.mono ?_
    rintro e w3 ⟨rfl, b3⟩
    have hR3 := R2.out.below b3
    have B3 := Aside0.mk (B2.out.trans (b3.mono B2.out.size))
    clear b3 KD R2 B2
    by_cases h8 : 8 < dep x
    · have e1 : codeV x = 12 := by unfold codeV; rw [if_neg (by rw [HG.out]; decide), if_neg h24, if_pos h8]
      have t2 : decide ((dep x : Int) > 8) = true := decide_eq_true (by omega)
      have HE1 := Aside0.mk e1
      clear hR3 e1
      go_wp2
      go_ret2
      exact ⟨.nilIface, by rw [HE1.out]; rfl, fun h => by rw [HE1.out] at h; exact absurd h (by decide), fun _ => rfl, B3.out⟩
    have t2 : decide ((dep x : Int) > 8) = false := decide_eq_false (by omega)
    have e1 : codeV x = 0 := by unfold codeV; rw [if_neg (by rw [HG.out]; decide), if_neg h24, if_neg h8]
    have HE1 := Aside0.mk e1
    have c0 := hR3.cell 0
    have c1 := hR3.cell 1
    have c2 := hR3.cell 2
    have c3 := hR3.cell 3
    have cl := hR3.lt
    have KB := Aside0.mk (build_at x HSZ.out HG.out A c w3 (Kd.C_below HC.out B3.out) hc)
    clear hR3 e1
    go_wp2_with fail
    clear c0 c1 c2 c3 cl
    refine KB.out.mono ?_
    rintro e w4 ⟨v, rfl, hv, b4⟩
    have HV := Aside0.mk (ER_up (ok' := fun k => w.heap.size ≤ k) (fun k _ _ => rfl) (fun k hk _ => by have := B3.out.size; omega) x v hv)
    have B4 := Aside0.mk (B3.out.trans (b4.mono B3.out.size))
    clear hv b4 KB B3
    go_wp2
    go_ret2
    exact ⟨v, by rw [HE1.out]; rfl, fun _ => HV.out, fun h => absurd HE1.out h, B4.out⟩

/-! ### what an expression is asked -/
section
variable (a b : ByteArray) (r r' : Value) (w : World)
theorem as_This_This : (Instr.typeAssert (.iface TThis (.agg #[])) TE TThis true).run Try.prog w = .ok (.tuple #[(.agg #[]), .bool true]) w := by rfl
theorem as_This_Comp : (Instr.typeAssert (.iface TThis (.agg #[])) TE TComp true).run Try.prog w = .ok (.tuple #[.agg #[.string ⟨#[]⟩], .bool false]) w := by rfl
theorem as_This_Arr : (Instr.typeAssert (.iface TThis (.agg #[])) TE TArr true).run Try.prog w = .ok (.tuple #[.agg #[.string ⟨#[]⟩, .string ⟨#[]⟩], .bool false]) w := by rfl
theorem as_This_Uni : (Instr.typeAssert (.iface TThis (.agg #[])) TE TUni true).run Try.prog w = .ok (.tuple #[.agg #[.slice none 0 0], .bool false]) w := by rfl
theorem as_This_Mee : (Instr.typeAssert (.iface TThis (.agg #[])) TE TMee true).run Try.prog w = .ok (.tuple #[.agg #[.slice none 0 0], .bool false]) w := by rfl
theorem as_This_Exc : (Instr.typeAssert (.iface TThis (.agg #[])) TE TExc true).run Try.prog w = .ok (.tuple #[.agg #[.nilIface, .nilIface], .bool false]) w := by rfl
theorem as_Comp_This : (Instr.typeAssert (.iface TComp (.agg #[.string a])) TE TThis true).run Try.prog w = .ok (.tuple #[.agg #[], .bool false]) w := by rfl
theorem as_Comp_Comp : (Instr.typeAssert (.iface TComp (.agg #[.string a])) TE TComp true).run Try.prog w = .ok (.tuple #[(.agg #[.string a]), .bool true]) w := by rfl
theorem as_Comp_Arr : (Instr.typeAssert (.iface TComp (.agg #[.string a])) TE TArr true).run Try.prog w = .ok (.tuple #[.agg #[.string ⟨#[]⟩, .string ⟨#[]⟩], .bool false]) w := by rfl
theorem as_Comp_Uni : (Instr.typeAssert (.iface TComp (.agg #[.string a])) TE TUni true).run Try.prog w = .ok (.tuple #[.agg #[.slice none 0 0], .bool false]) w := by rfl
theorem as_Comp_Mee : (Instr.typeAssert (.iface TComp (.agg #[.string a])) TE TMee true).run Try.prog w = .ok (.tuple #[.agg #[.slice none 0 0], .bool false]) w := by rfl
theorem as_Comp_Exc : (Instr.typeAssert (.iface TComp (.agg #[.string a])) TE TExc true).run Try.prog w = .ok (.tuple #[.agg #[.nilIface, .nilIface], .bool false]) w := by rfl
theorem as_Arr_This : (Instr.typeAssert (.iface TArr (.agg #[.string a, .string b])) TE TThis true).run Try.prog w = .ok (.tuple #[.agg #[], .bool false]) w := by rfl
theorem as_Arr_Comp : (Instr.typeAssert (.iface TArr (.agg #[.string a, .string b])) TE TComp true).run Try.prog w = .ok (.tuple #[.agg #[.string ⟨#[]⟩], .bool false]) w := by rfl
theorem as_Arr_Arr : (Instr.typeAssert (.iface TArr (.agg #[.string a, .string b])) TE TArr true).run Try.prog w = .ok (.tuple #[(.agg #[.string a, .string b]), .bool true]) w := by rfl
theorem as_Arr_Uni : (Instr.typeAssert (.iface TArr (.agg #[.string a, .string b])) TE TUni true).run Try.prog w = .ok (.tuple #[.agg #[.slice none 0 0], .bool false]) w := by rfl
theorem as_Arr_Mee : (Instr.typeAssert (.iface TArr (.agg #[.string a, .string b])) TE TMee true).run Try.prog w = .ok (.tuple #[.agg #[.slice none 0 0], .bool false]) w := by rfl
theorem as_Arr_Exc : (Instr.typeAssert (.iface TArr (.agg #[.string a, .string b])) TE TExc true).run Try.prog w = .ok (.tuple #[.agg #[.nilIface, .nilIface], .bool false]) w := by rfl
theorem as_Uni_This : (Instr.typeAssert (.iface TUni (.agg #[r])) TE TThis true).run Try.prog w = .ok (.tuple #[.agg #[], .bool false]) w := by rfl
theorem as_Uni_Comp : (Instr.typeAssert (.iface TUni (.agg #[r])) TE TComp true).run Try.prog w = .ok (.tuple #[.agg #[.string ⟨#[]⟩], .bool false]) w := by rfl
theorem as_Uni_Arr : (Instr.typeAssert (.iface TUni (.agg #[r])) TE TArr true).run Try.prog w = .ok (.tuple #[.agg #[.string ⟨#[]⟩, .string ⟨#[]⟩], .bool false]) w := by rfl
theorem as_Uni_Uni : (Instr.typeAssert (.iface TUni (.agg #[r])) TE TUni true).run Try.prog w = .ok (.tuple #[(.agg #[r]), .bool true]) w := by rfl
theorem as_Uni_Mee : (Instr.typeAssert (.iface TUni (.agg #[r])) TE TMee true).run Try.prog w = .ok (.tuple #[.agg #[.slice none 0 0], .bool false]) w := by rfl
theorem as_Uni_Exc : (Instr.typeAssert (.iface TUni (.agg #[r])) TE TExc true).run Try.prog w = .ok (.tuple #[.agg #[.nilIface, .nilIface], .bool false]) w := by rfl
theorem as_Mee_This : (Instr.typeAssert (.iface TMee (.agg #[r])) TE TThis true).run Try.prog w = .ok (.tuple #[.agg #[], .bool false]) w := by rfl
theorem as_Mee_Comp : (Instr.typeAssert (.iface TMee (.agg #[r])) TE TComp true).run Try.prog w = .ok (.tuple #[.agg #[.string ⟨#[]⟩], .bool false]) w := by rfl
theorem as_Mee_Arr : (Instr.typeAssert (.iface TMee (.agg #[r])) TE TArr true).run Try.prog w = .ok (.tuple #[.agg #[.string ⟨#[]⟩, .string ⟨#[]⟩], .bool false]) w := by rfl
theorem as_Mee_Uni : (Instr.typeAssert (.iface TMee (.agg #[r])) TE TUni true).run Try.prog w = .ok (.tuple #[.agg #[.slice none 0 0], .bool false]) w := by rfl
theorem as_Mee_Mee : (Instr.typeAssert (.iface TMee (.agg #[r])) TE TMee true).run Try.prog w = .ok (.tuple #[(.agg #[r]), .bool true]) w := by rfl
theorem as_Mee_Exc : (Instr.typeAssert (.iface TMee (.agg #[r])) TE TExc true).run Try.prog w = .ok (.tuple #[.agg #[.nilIface, .nilIface], .bool false]) w := by rfl
theorem as_Exc_This : (Instr.typeAssert (.iface TExc (.agg #[r, r'])) TE TThis true).run Try.prog w = .ok (.tuple #[.agg #[], .bool false]) w := by rfl
theorem as_Exc_Comp : (Instr.typeAssert (.iface TExc (.agg #[r, r'])) TE TComp true).run Try.prog w = .ok (.tuple #[.agg #[.string ⟨#[]⟩], .bool false]) w := by rfl
theorem as_Exc_Arr : (Instr.typeAssert (.iface TExc (.agg #[r, r'])) TE TArr true).run Try.prog w = .ok (.tuple #[.agg #[.string ⟨#[]⟩, .string ⟨#[]⟩], .bool false]) w := by rfl
theorem as_Exc_Uni : (Instr.typeAssert (.iface TExc (.agg #[r, r'])) TE TUni true).run Try.prog w = .ok (.tuple #[.agg #[.slice none 0 0], .bool false]) w := by rfl
theorem as_Exc_Mee : (Instr.typeAssert (.iface TExc (.agg #[r, r'])) TE TMee true).run Try.prog w = .ok (.tuple #[.agg #[.slice none 0 0], .bool false]) w := by rfl
theorem as_Exc_Exc : (Instr.typeAssert (.iface TExc (.agg #[r, r'])) TE TExc true).run Try.prog w = .ok (.tuple #[(.agg #[r, r']), .bool true]) w := by rfl
end
/-! ### Parts -/
def kidsOf (x : S24) : List S24 := if x.f0 = 4 ∨ x.f0 = 5 then x.f3 else []
def PartsPost (ok : Nat → Prop) (x : S24) (w : World) (e : Ending) (w' : World) : Prop := ∃ r vs, e = .returned r ∧ RowV ok w' r vs ∧ ERL ok w' (kidsOf x) vs ∧ Below w.heap.size w w'
set_option maxHeartbeats 8000000 in
set_option maxRecDepth 100000 in
theorem parts_calls (ok : Nat → Prop) (x : S24) (hk : x.f0 = 1 ∨ x.f0 = 2 ∨ x.f0 = 3 ∨ x.f0 = 4 ∨ x.f0 = 5 ∨ x.f0 = 6) (v : Value) (w : World) (h : ER ok w x v) :
    Calls Try.prog 37 #[v] w (PartsPost ok x w) := by
  obtain ⟨k, a, b, l⟩ := x
  simp only at hk
  rcases hk with rfl | rfl | rfl | rfl | rfl | rfl
  · obtain rfl : v = .iface TThis (.agg #[]) := by simpa [ER] using h
    have a1 := as_This_Uni
    have a2 := as_This_Mee
    clear h
    go_enter Try.func37, Try.ntmps37
    go_wp2
    go_ret
    exact ⟨_, [], rfl, .inl ⟨rfl, rfl⟩, rfl, ((Below.refl _ _).alloc (Nat.le_refl _) _).alloc (by simp) _⟩
  · obtain rfl : v = .iface TComp (.agg #[.string a]) := by simpa [ER] using h
    have a1 := as_Comp_Uni a
    have a2 := as_Comp_Mee a
    clear h
    go_enter Try.func37, Try.ntmps37
    go_wp2
    go_ret
    exact ⟨_, [], rfl, .inl ⟨rfl, rfl⟩, rfl, ((Below.refl _ _).alloc (Nat.le_refl _) _).alloc (by simp) _⟩
  · obtain rfl : v = .iface TArr (.agg #[.string a, .string b]) := by simpa [ER] using h
    have a1 := as_Arr_Uni a b
    have a2 := as_Arr_Mee a b
    clear h
    go_enter Try.func37, Try.ntmps37
    go_wp2
    go_ret
    exact ⟨_, [], rfl, .inl ⟨rfl, rfl⟩, rfl, ((Below.refl _ _).alloc (Nat.le_refl _) _).alloc (by simp) _⟩
  · obtain ⟨r, vs, rfl, hr, hl⟩ : ∃ r vs, v = .iface TUni (.agg #[r]) ∧ RowV ok w r vs ∧ ERL ok w l vs := by simpa [ER] using h
    obtain ⟨Ar, nr, cr, rfl⟩ : ∃ A n c, r = .slice A n c := by
      rcases hr with ⟨rfl, _⟩ | ⟨g, c, cur, rfl, _⟩
      · exact ⟨_, _, _, rfl⟩
      · exact ⟨_, _, _, rfl⟩
    have a1 := as_Uni_Uni (.slice Ar nr cr)
    have bb : Below w.heap.size w (w.alloc (.cells #[.slice Ar nr cr] TUni)) := (Below.refl _ _).alloc (Nat.le_refl _) _
    have HR := Aside0.mk (hr.up (ok' := ok) (fun k _ hlt => bb.block k hlt) (fun k hk _ => hk))
    have HL := Aside0.mk (ERL_up (ok' := ok) (fun k _ hlt => bb.block k hlt) (fun k hk _ => hk) _ _ hl)
    have HB := Aside0.mk bb
    clear h hr hl bb
    go_enter Try.func37, Try.ntmps37
    go_wp2
    go_ret
    exact ⟨_, vs, rfl, HR.out, HL.out, HB.out⟩
  · obtain ⟨r, vs, rfl, hr, hl⟩ : ∃ r vs, v = .iface TMee (.agg #[r]) ∧ RowV ok w r vs ∧ ERL ok w l vs := by simpa [ER] using h
    obtain ⟨Ar, nr, cr, rfl⟩ : ∃ A n c, r = .slice A n c := by
      rcases hr with ⟨rfl, _⟩ | ⟨g, c, cur, rfl, _⟩
      · exact ⟨_, _, _, rfl⟩
      · exact ⟨_, _, _, rfl⟩
    have a1 := as_Mee_Uni (.slice Ar nr cr)
    have a2 := as_Mee_Mee (.slice Ar nr cr)
    have bb : Below w.heap.size w ((w.alloc (.cells #[.slice none 0 0] TUni)).alloc (.cells #[.slice Ar nr cr] TMee)) := ((Below.refl _ _).alloc (Nat.le_refl _) _).alloc (by simp) _
    have HR := Aside0.mk (hr.up (ok' := ok) (fun k _ hlt => bb.block k hlt) (fun k hk _ => hk))
    have HL := Aside0.mk (ERL_up (ok' := ok) (fun k _ hlt => bb.block k hlt) (fun k hk _ => hk) _ _ hl)
    have HB := Aside0.mk bb
    clear h hr hl bb
    go_enter Try.func37, Try.ntmps37
    go_wp2
    go_ret
    exact ⟨_, vs, rfl, HR.out, HL.out, HB.out⟩
  · obtain ⟨x, y, rfl, hl⟩ : ∃ x y, v = .iface TExc (.agg #[x, y]) ∧ ERL ok w l [x, y] := by simpa [ER] using h
    have a1 := as_Exc_Uni x y
    have a2 := as_Exc_Mee x y
    clear h hl
    go_enter Try.func37, Try.ntmps37
    go_wp2
    go_ret
    exact ⟨_, [], rfl, .inl ⟨rfl, rfl⟩, rfl, ((Below.refl _ _).alloc (Nat.le_refl _) _).alloc (by simp) _⟩
end Go.Proofs.Ytpilbomkdafdfaa.Tra
