/- The program's tract: Via; the law's asks. -/
import Derived.Test.YtpilbomkdafdfaaTlr
import Derived.Defers
import Derived.Recover
import Derived.Laws.Pointers
namespace Go.Proofs.Ytpilbomkdafdfaa.Tra
open Go.RowKit Go.Proofs.YtpilbomkdafdfaaW.PrintWords Go.Proofs.YtpilbomkdafdfaaW.PrintLast Go.Proofs.YtpilbomkdafdfaaW.PrintMore Go.Proofs.Ytpilbomkdafdfaa.Arr Go.Proofs.Ytpilbomkdafdfaa.Utf Go.Proofs.Ytpilbomkdafdfaa.PTractRefs
set_option linter.unusedVariables false
set_option linter.unusedSimpArgs false

theorem assert_panics (t : TypeId) (v : Value) (h : t ≠ 33) (w : World) : ∃ r c, (Instr.typeAssert (.iface t v) 28 33 false).run Try.prog w = .halt (.panic (.iface Try.prog.rt.typeAssertionError (.pointer (some r)))) (w.alloc c) := by
  obtain ⟨fs, hu⟩ : ∃ fs, Try.prog.underlying 33 = some (.struct fs) := ⟨_, rfl⟩
  have he : ∃ e, ∀ w, (elemOf 15 : Sem TypeId).run Try.prog w = .ok e w := ⟨_, fun _ => rfl⟩
  obtain ⟨e, he⟩ := he
  unfold Instr.typeAssert
  simp [run_underlying hu, runtimePanic, goPanic, go_sem, h, he]
  exact ⟨_, rfl⟩
theorem assert_holds (v : Value) (w : World) : (Instr.typeAssert (.iface 33 v) 28 33 false).run Try.prog w = .ok v w := by rfl
abbrev T33 : TypeId := 33
theorem via_panics (t : TypeId) (v : Value) (h : t ≠ 33) (w : World) :
    Calls Try.prog 26 #[.iface t v] w fun e w' => ∃ t u, e = .panicked [{ v := .iface t u, recovered := false }] ∧ Below w.heap.size w w' := by
  have b0 := Aside0.mk (Below.refl w.heap.size w)
  go_enter Try.func26, Try.ntmps26
  obtain ⟨r, c, hr⟩ := assert_panics t v h (w.alloc (.cells #[.string ⟨#[]⟩, .string ⟨#[]⟩] 33))
  go_wp2
  exact ⟨rfl, _, _, rfl, (b0.out.alloc (Nat.le_refl _) _).alloc (Nat.le_of_lt (by simp [go_sem])) _⟩
theorem via_holds (a b : ByteArray) (w : World) :
    Calls Try.prog 26 #[.iface 33 (.agg #[.string a, .string b])] w fun e w' => e = .returned (.agg #[.string a, .string b]) ∧ Below w.heap.size w w' := by
  have b0 := Aside0.mk (Below.refl w.heap.size w)
  have hh := assert_holds (.agg #[.string a, .string b])
  go_enter Try.func26, Try.ntmps26
  go_wp2
  refine bodyPost_ret (v := .agg #[.string a, .string b]) (by simp [results, Try.results26, go_sem]) rfl ⟨rfl, ?_⟩
  exact b0.out.alloc (Nat.le_refl _) _
theorem catch_panicking (n m : Nat) (u : TypeId) (pv : Value) (older : List PanicEntry) (w : World) (h1 : Blk w n 33 #[.string ⟨#[]⟩, .string ⟨#[]⟩]) (h2 : Blk w m 4 #[.bool false]) (hd : n ≠ m) :
    CallsD Try.prog 25 #[.pointer (some ⟨n, 0, none⟩), .pointer (some ⟨m, 0, none⟩)] (.panicking ({ v := .iface u pv, recovered := false } :: older)) w fun e u' w' =>
      e = .returned (.tuple #[]) ∧ u' = .panicking ({ v := .iface u pv, recovered := true } :: older) ∧ Blk w' n 33 #[.string ⟨#[]⟩, .string ⟨#[]⟩] ∧ Blk w' m 4 #[.bool false] ∧ Below (min n m) w w' := by
  refine callsD_of_wpS Try.func25 rfl fun c₀ cs hu => ?_
  apply wpS_seq
  apply wpS_region
  simp [wpOpsS, go_sem, recoverD, hu, Try.ntmps25, Exit.thenS]
  refine wpS_cond (t := true) (by simp [Act.eval, Array.replicate]) ?_
  simp only [if_true]
  refine wpS_of_wp ?_
  have l1 := h1.lt
  have l2 := h2.lt
  have c0 := h1.cell 0
  have c1 := h1.cell 1
  have c2 := h2.cell 0
  have z0 := h1.frozen 0
  have z1 := h1.frozen 1
  have z2 := h2.frozen 0
  have H1 := Aside0.mk h1
  have H2 := Aside0.mk h2
  clear h1 h2
  go_wp2
  have K1 : Blk (((w.setCell ⟨n, 0, none⟩ (.string ⟨#[]⟩)).setCell ⟨n, 1, none⟩ (.string ⟨#[]⟩)).setCell ⟨m, 0, none⟩ (.bool false)) n 33 #[.string ⟨#[]⟩, .string ⟨#[]⟩] := ((H1.out.set 0 _).set 1 _).far hd _
  have K2 : Blk (((w.setCell ⟨n, 0, none⟩ (.string ⟨#[]⟩)).setCell ⟨n, 1, none⟩ (.string ⟨#[]⟩)).setCell ⟨m, 0, none⟩ (.bool false)) m 4 #[.bool false] := ((H2.out.far (Ne.symm hd) _).far (Ne.symm hd) _).set 0 _
  have k0 := (Below.refl (min n m) w).setCell (p := ⟨n, 0, none⟩) (Nat.min_le_left n m) (.string ⟨#[]⟩)
  have k1 := k0.setCell (p := ⟨n, 1, none⟩) (Nat.min_le_left n m) (.string ⟨#[]⟩)
  have K3 := k1.setCell (p := ⟨m, 0, none⟩) (Nat.min_le_right n m) (.bool false)
  exact ⟨rfl, _, rfl, .tuple #[], by simp [results, Try.results25], rfl, rfl, K1, K2, K3⟩
theorem catch_idle (n m : Nat) (w : World) :
    CallsD Try.prog 25 #[.pointer (some ⟨n, 0, none⟩), .pointer (some ⟨m, 0, none⟩)] .returning w fun e u' w' => e = .returned (.tuple #[]) ∧ u' = .returning ∧ w' = w := by
  refine callsD_of_wpS Try.func25 rfl fun c₀ cs hu => ?_
  apply wpS_seq
  apply wpS_region
  simp [wpOpsS, go_sem, recoverD, hu, Try.ntmps25, Exit.thenS]
  refine wpS_cond (t := false) (by simp [Act.eval, Array.replicate]) ?_
  simp only [Bool.false_eq_true, if_false]
  refine wpS_of_wp (wp_skip ?_)
  cases c₀
  simp_all [bodyPostS, results, Try.results25]
theorem asks_arrow (a b : ByteArray) (w : World) :
    Calls Try.prog 10 #[.iface 33 (.agg #[.string a, .string b])] w fun e w' => e = .returned (.tuple #[.agg #[.string a, .string b], .bool true]) ∧ Below w.heap.size w w' := by
  have hmf : ∀ (fn : Fn) (first cap : Array Value) (w : World), (Instr.makeFunc fn first cap).run Try.prog w = .ok (.func fn first cap) w := fun _ _ _ _ => rfl
  have b0 := Aside0.mk (Below.refl w.heap.size w)
  go_enter_defers Try.func10, Try.ntmps10
  go_wp2_with fail
  obtain ⟨w0, hw0⟩ : ∃ w0, ((w.alloc (.cells #[.string ⟨#[]⟩, .string ⟨#[]⟩] 33)).alloc (.cells #[.bool false] 4)) = w0 := ⟨_, rfl⟩
  have k0 : Blk w0 w.heap.size 33 #[.string ⟨#[]⟩, .string ⟨#[]⟩] := by rw [← hw0]; exact (Blk.new w 33 _).alloc _
  have k1 : Blk w0 (w.heap.size + 1) 4 #[.bool false] := by rw [← hw0]; exact Blk.newAt (by simp [go_sem])
  have B0 : Below w.heap.size w w0 := by rw [← hw0]; exact (b0.out.alloc (Nat.le_refl _) _).alloc (by simp [go_sem]) _
  rw [hw0]
  refine (via_holds a b w0).mono ?_
  rintro e w1 ⟨rfl, b1⟩
  have K0 := k0.below b1
  have K1 := k1.below b1
  have B1 := Aside0.mk (B0.trans (b1.mono B0.size))
  have l1 := K0.lt
  have l2 := K1.lt
  have c0 := K0.cell 0
  have c1 := K0.cell 1
  have c2 := K1.cell 0
  have z0 := K0.frozen 0
  have z1 := K0.frozen 1
  have z2 := K1.frozen 0
  have L0 := Aside0.mk K0
  have L1 := Aside0.mk K1
  clear K0 K1 b1 k0 k1 B0 hw0
  go_wp2
  have J0 : Blk (((w1.setCell ⟨w.heap.size, 0, none⟩ (.string a)).setCell ⟨w.heap.size, 1, none⟩ (.string b)).setCell ⟨w.heap.size + 1, 0, none⟩ (.bool true)) w.heap.size 33 #[.string a, .string b] := ((L0.out.set 0 _).set 1 _).far (by simp) _
  have J1 : Blk (((w1.setCell ⟨w.heap.size, 0, none⟩ (.string a)).setCell ⟨w.heap.size, 1, none⟩ (.string b)).setCell ⟨w.heap.size + 1, 0, none⟩ (.bool true)) (w.heap.size + 1) 4 #[.bool true] := ((L1.out.far (by simp) _).far (by simp) _).set 0 _
  have m0 := B1.out.setCell (p := ⟨w.heap.size, 0, none⟩) (Nat.le_refl _) (.string a)
  have m1 := m0.setCell (p := ⟨w.heap.size, 1, none⟩) (Nat.le_refl _) (.string b)
  have m2 := m1.setCell (p := ⟨w.heap.size + 1, 0, none⟩) (Nat.le_succ _) (.bool true)
  generalize (((w1.setCell ⟨w.heap.size, 0, none⟩ (.string a)).setCell ⟨w.heap.size, 1, none⟩ (.string b)).setCell ⟨w.heap.size + 1, 0, none⟩ (.bool true)) = w9 at *
  refine leaves_cons (f := 25) (args := #[.pointer (some ⟨w.heap.size, 0, none⟩), .pointer (some ⟨w.heap.size + 1, 0, none⟩)]) (by simp) (by simp [go_sem]) ?_
  refine (catch_idle _ _ w9).mono ?_
  rintro e u'' w'' ⟨rfl, rfl, rfl⟩
  have d0 := J0.cell 0
  have d1 := J0.cell 1
  have d2 := J1.cell 0
  clear c0 c1 c2
  simp [Leaves, settle, results, Try.results10, go_sem, d0, d1, d2, m2]
theorem asks_other (t : TypeId) (v : Value) (ht : t ≠ 33) (w : World) :
    Calls Try.prog 10 #[.iface t v] w fun e w' => e = .returned (.tuple #[.agg #[.string ⟨#[]⟩, .string ⟨#[]⟩], .bool false]) ∧ Below w.heap.size w w' := by
  have hmf : ∀ (fn : Fn) (first cap : Array Value) (w : World), (Instr.makeFunc fn first cap).run Try.prog w = .ok (.func fn first cap) w := fun _ _ _ _ => rfl
  have b0 := Aside0.mk (Below.refl w.heap.size w)
  go_enter_defers Try.func10, Try.ntmps10
  go_wp2_with fail
  obtain ⟨w0, hw0⟩ : ∃ w0, ((w.alloc (.cells #[.string ⟨#[]⟩, .string ⟨#[]⟩] 33)).alloc (.cells #[.bool false] 4)) = w0 := ⟨_, rfl⟩
  have k0 : Blk w0 w.heap.size 33 #[.string ⟨#[]⟩, .string ⟨#[]⟩] := by rw [← hw0]; exact (Blk.new w 33 _).alloc _
  have k1 : Blk w0 (w.heap.size + 1) 4 #[.bool false] := by rw [← hw0]; exact Blk.newAt (by simp [go_sem])
  have B0 : Below w.heap.size w w0 := by rw [← hw0]; exact (b0.out.alloc (Nat.le_refl _) _).alloc (by simp [go_sem]) _
  rw [hw0]
  refine (via_panics t v ht w0).mono ?_
  rintro e w1 ⟨t', u', rfl, b1⟩
  have K0 := k0.below b1
  have K1 := k1.below b1
  have B1 := B0.trans (b1.mono B0.size)
  go_simp
  refine leaves_cons (f := 25) (args := #[.pointer (some ⟨w.heap.size, 0, none⟩), .pointer (some ⟨w.heap.size + 1, 0, none⟩)]) (by simp) (by simp [go_sem]) ?_
  refine (catch_panicking _ _ t' u' [] _ K0 K1 (by omega)).mono ?_
  rintro e u'' w'' ⟨rfl, rfl, M0, M1, M2⟩
  have c0 := M0.cell 0
  have c1 := M0.cell 1
  have c2 := M1.cell 0
  simp [Leaves, settle, results, Try.results10, go_sem, c0, c1, c2]
  rw [Nat.min_eq_left (by omega)] at M2
  exact B1.trans M2
end Go.Proofs.Ytpilbomkdafdfaa.Tra
