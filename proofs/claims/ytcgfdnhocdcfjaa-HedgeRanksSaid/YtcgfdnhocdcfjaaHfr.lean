/- Trees of keys: gather, From, Under. -/
import Derived.Test.YtcgfdnhocdcfjaaHga
namespace Go.Proofs.Ytcgfdnhocdcfjaa.Hed
open Go.RowKit Go.Proofs.YtcgfdnhocdcfjaaW.PrintWords Go.Proofs.YtcgfdnhocdcfjaaW.PrintLast Go.Proofs.YtcgfdnhocdcfjaaW.PrintMore Go.Proofs.Ytcgfdnhocdcfjaa.Arr Go.Proofs.Ytcgfdnhocdcfjaa.Utf Go.Proofs.Ytcgfdnhocdcfjaa.PHedgePlays T
set_option linter.unusedVariables false
set_option linter.unusedSimpArgs false

/-- The first most entries from a key on, as long as they are right. -/
def gatherT (t : T) (key : ByteArray) (most : Int) (rt : ByteArray → Bool) : List Ent := (runL (okG most rt) (from_ t key) []).1
def GatherPost (t : T) (key : ByteArray) (most : Int) (rt : ByteArray → Bool) (w : World) (e : Ending) (w' : World) : Prop :=
  ∃ vo, e = .returned vo ∧ Kd.R k32 TEn w' w.heap.size (fun _ => True) vo ((gatherT t key most rt).map toS) ∧ Below w.heap.size w w'
theorem runG_len (most : Int) (rt : ByteArray → Bool) (l out : List Ent) : (runL (okG most rt) l out).1.length ≤ out.length + l.length := runL_len _ l out
set_option maxHeartbeats 8000000 in
theorem gather_calls {Cond : World → Prop} {N2 : FuncId} {caps2 : Array Value} {rt : ByteArray → Bool} (hcf : ∀ args w, Sem.run Try.prog (callFunc N2 args) w = Result.ok (.enter N2 args) w)
    (hr : ∀ key w, Cond w → Calls Try.prog N2 (#[.string key] ++ caps2) w fun e w' => e = .returned (.bool (rt key)) ∧ Below w.heap.size w w')
    (h : Nat) (t : T) (key : ByteArray) (most : Int) (hz : t.size ≤ 1000000) (w : World) (H : HAt w h t) (hC0 : Cond w) (hC : ∀ w1 w2, Cond w1 → Below w.heap.size w1 w2 → Cond w2) :
    Calls Try.prog 29 #[.pointer (some ⟨h, 0, none⟩), .string key, .int .i64 most, .func (Fn.func N2) #[] caps2] w (GatherPost t key most rt w) := by
  obtain ⟨p, hp⟩ := ptr_open t
  have hmf : ∀ (fn : Fn) (first cap : Array Value) (w : World), (Instr.makeFunc fn first cap).run Try.prog w = .ok (.func fn first cap) w := fun _ _ _ _ => rfl
  obtain ⟨W, hW⟩ : ∃ W, ((w.alloc (.cells #[.int .i64 most] TI)).alloc (.cells #[.func (Fn.func N2) #[] caps2] TFn)).alloc (.cells #[.slice none 0 0] TEs) = W := ⟨_, rfl⟩
  have bb : Below w.heap.size w W := by rw [← hW]; exact (((Below.refl _ _).alloc (Nat.le_refl _) _).alloc (by simp) _).alloc (by simp; omega) _
  have k1 : Blk W w.heap.size TI #[.int .i64 most] := by rw [← hW]; exact ((Blk.new _ _ _).alloc _).alloc _
  have k2 : Blk W (w.heap.size + 1) TFn #[.func (Fn.func N2) #[] caps2] := by rw [← hW]; exact (Blk.newAt (by simp)).alloc _
  have k3 : Blk W (w.heap.size + 2) TEs #[.slice none 0 0] := by rw [← hW]; exact Blk.newAt (by simp)
  have hS : StG w.heap.size (w.heap.size + 2) w.heap.size (w.heap.size + 1) most (.func (Fn.func N2) #[] caps2) Cond [] W :=
    ⟨_, k3, Kd.R_nil _ _ _ _ _, k1, k2, by omega, bb.size, hC _ _ hC0 bb⟩
  have K := Aside0.mk (walk_calls (ok := okG most rt) (B := w.heap.size) (St := StG w.heap.size (w.heap.size + 2) w.heap.size (w.heap.size + 1) most (.func (Fn.func N2) #[] caps2) Cond) (N := 39) (caps := #[.pointer (some ⟨w.heap.size + 2, 0, none⟩), .pointer (some ⟨w.heap.size, 0, none⟩), .pointer (some ⟨w.heap.size + 1, 0, none⟩)]) (fun _ _ => rfl) (fun out w1 w2 h1 h2 => stG_below hC out w1 w2 h1 h2) (vis_gather hC hcf hr) t key [] W (by simp; omega) (H.at_.lt) (H.at_.below bb) hS bb.size)
  unfold WalkPost at K
  rw [hp] at K
  unfold GatherPost gatherT
  have c0 : W.cell? ⟨h, 0, none⟩ = some (.pointer p) := by rw [← hp]; exact (H.blk.below bb).cell 0
  have cl := (H.blk.below bb).lt
  have BB := Aside0.mk bb
  obtain ⟨o1, ho1⟩ : ∃ o1, (runL (okG most rt) (from_ t key) []).1 = o1 := ⟨_, rfl⟩
  obtain ⟨q1, hq1⟩ : ∃ q1, (runL (okG most rt) (from_ t key) []).2 = q1 := ⟨_, rfl⟩
  rw [ho1, hq1] at K
  rw [ho1]
  clear k1 k2 k3 hS bb H hp hr ho1 hq1
  go_enter Try.func29, Try.ntmps29
  go_wp2_with fail
  clear hW c0 cl
  refine K.out.mono ?_
  rintro e w1 ⟨rfl, ⟨vo, g1, g2, -, -, -, -, -⟩, b1⟩
  obtain ⟨A1, k1, e1⟩ := Kd.R_slice g2
  obtain ⟨n9, hn9⟩ : ∃ n9, (o1.map toS).length = n9 := ⟨_, rfl⟩
  rw [hn9] at e1
  clear hn9
  subst e1
  have y1 := g1.cell 0
  have y3 := g1.lt
  have R1 := Aside0.mk g2
  have B1 := Aside0.mk (BB.out.trans b1)
  clear g1 g2 b1
  go_wp2
  go_ret
  exact ⟨_, rfl, R1.out, B1.out⟩
theorem from_calls (h : Nat) (t : T) (key : ByteArray) (most : Int) (hz : t.size ≤ 1000000) (w : World) (H : HAt w h t) :
    Calls Try.prog 11 #[.pointer (some ⟨h, 0, none⟩), .string key, .int .i64 most] w (GatherPost t key most (fun _ => true) w) := by
  have hr : ∀ (key : ByteArray) (w : World), True → Calls Try.prog 32 (#[.string key] ++ #[]) w fun e w' => e = .returned (.bool true) ∧ Below w.heap.size w w' := by
    intro key w _
    show Calls Try.prog 32 #[.string key] w _
    go_enter Try.func32, Try.ntmps32
    go_wp2
    go_ret
    exact ⟨rfl, Below.refl _ _⟩
  have K := Aside0.mk (gather_calls (Cond := fun _ => True) (N2 := 32) (caps2 := #[]) (rt := fun _ => true) (fun _ _ => rfl) hr h t key most hz w H trivial (fun _ _ _ _ => trivial))
  unfold GatherPost at *
  obtain ⟨o1, ho1⟩ : ∃ o1, gatherT t key most (fun _ => true) = o1 := ⟨_, rfl⟩
  rw [ho1] at K ⊢
  clear hr H ho1
  go_enter Try.func11, Try.ntmps11
  go_wp2_with fail
  refine K.out.mono ?_
  rintro e w1 ⟨vo, rfl, hR, b1⟩
  obtain ⟨A1, k1, e1⟩ := Kd.R_slice hR
  obtain ⟨n9, hn9⟩ : ∃ n9, (o1.map toS).length = n9 := ⟨_, rfl⟩
  rw [hn9] at e1
  clear hn9
  subst e1
  have R1 := Aside0.mk hR
  have B1 := Aside0.mk b1
  clear hR b1
  go_wp2
  go_ret
  exact ⟨_, rfl, R1.out, B1.out⟩
/-- Whether a key begins with a prefix. -/
def pre (p k : ByteArray) : Bool := Lib.hasPrefix k.data.toList p.data.toList
theorem under_calls (h : Nat) (t : T) (key : ByteArray) (most : Int) (hz : t.size ≤ 1000000) (w : World) (H : HAt w h t) :
    Calls Try.prog 10 #[.pointer (some ⟨h, 0, none⟩), .string key, .int .i64 most] w fun e w' => ∃ vo, e = .returned vo ∧ Kd.R k32 TEn w' w.heap.size (fun _ => True) vo ((gatherT t key most (pre key)).map toS) ∧ Below w.heap.size w w' := by
  have hr : ∀ (gp : Nat) (k : ByteArray) (w : World), Blk w gp 9 #[.string key] → Calls Try.prog 30 (#[.string k] ++ #[.pointer (some ⟨gp, 0, none⟩)]) w fun e w' => e = .returned (.bool (pre key k)) ∧ Below w.heap.size w w' := by
    intro gp k w hB
    show Calls Try.prog 30 #[.string k, .pointer (some ⟨gp, 0, none⟩)] w _
    have K := Aside0.mk (fun w => Try.strings_HasPrefix k key w)
    have c0 := hB.cell 0
    have cl := hB.lt
    unfold pre
    obtain ⟨q, hq⟩ : ∃ q, Lib.hasPrefix k.data.toList key.data.toList = q := ⟨_, rfl⟩
    rw [hq] at K ⊢
    clear hB hq
    go_enter Try.func30, Try.ntmps30
    go_wp2_with fail
    refine (K.out _).mono ?_
    rintro e w1 ⟨rfl, rfl⟩
    go_wp2
    go_ret
    exact ⟨rfl, Below.refl _ _⟩
  obtain ⟨W, hW⟩ : ∃ W, w.alloc (.cells #[.string key] 9) = W := ⟨_, rfl⟩
  have bb : Below w.heap.size w W := by rw [← hW]; exact (Below.refl _ _).alloc (Nat.le_refl _) _
  have kB : Blk W w.heap.size 9 #[.string key] := by rw [← hW]; exact Blk.new _ _ _
  have hmf : ∀ (fn : Fn) (first cap : Array Value) (w : World), (Instr.makeFunc fn first cap).run Try.prog w = .ok (.func fn first cap) w := fun _ _ _ _ => rfl
  have K := Aside0.mk (gather_calls (Cond := fun w' => Blk w' w.heap.size 9 #[.string key]) (N2 := 30) (caps2 := #[.pointer (some ⟨w.heap.size, 0, none⟩)]) (rt := pre key) (fun _ _ => rfl) (fun k w' h' => hr _ k w' h') h t key most hz W (H.below bb) kB (fun w1 w2 h1 h2 => h1.below' h2 kB.lt))
  unfold GatherPost at K
  have c0 := kB.cell 0
  have cl := kB.lt
  have BB := Aside0.mk bb
  obtain ⟨o1, ho1⟩ : ∃ o1, gatherT t key most (pre key) = o1 := ⟨_, rfl⟩
  rw [ho1] at K ⊢
  clear hr H ho1 bb kB
  go_enter Try.func10, Try.ntmps10
  go_wp2_with fail
  clear hW c0 cl
  refine K.out.mono ?_
  rintro e w1 ⟨vo, rfl, hR, b1⟩
  obtain ⟨A1, k1, e1⟩ := Kd.R_slice hR
  obtain ⟨n9, hn9⟩ : ∃ n9, (o1.map toS).length = n9 := ⟨_, rfl⟩
  rw [hn9] at e1
  clear hn9
  subst e1
  have R1 := Aside0.mk (Kd.R_lower hR BB.out.size)
  have B1 := Aside0.mk (BB.out.trans (b1.mono BB.out.size))
  clear hR b1
  go_wp2
  go_ret
  exact ⟨_, rfl, R1.out, B1.out⟩
end Go.Proofs.Ytcgfdnhocdcfjaa.Hed
