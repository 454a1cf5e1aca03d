/- A failed In: every further value is 0, empty or false, and nothing turns. -/
import Derived.Test.YtmilpfccgggmkaaDoorKaw
import Derived.Test.YtmilpfccgggmkaaDoorQw
import Derived.Test.YtmilpfccgggmkaaDoorQg
namespace Go.Proofs.YtmilpfccgggmkaaDoor.Knt
open Go.RowKit Go.Proofs.YtmilpfccgggmkaaDoorW.PrintWords Go.Proofs.YtmilpfccgggmkaaDoor.Arr
set_option linter.unusedVariables false
set_option linter.unusedSimpArgs false

abbrev TS : TypeId := 40
abbrev TT : TypeId := 42
abbrev ee : Value := .string ⟨#[]⟩
theorem same_below {w w1 : World} {g : Nat} {T : TypeId} {cs : Array Value} (h : Blk w g T cs) (h1 : Blk w1 g T cs) (ho : Only [g] w w1) : Below w.heap.size w w1 :=
  ⟨ho.os, ho.tape, ho.output, ho.size, fun k hk => by
    by_cases e : k = g
    · subst e; rw [h.out, h1.out]
    · exact ho.block k hk (by simpa using e)⟩
theorem numF_calls (g : Nat) (most : Int) (w : World) (h : IBlk w g [] true) :
    Calls Tryd.prog 24 #[.pointer (some ⟨g, 0, none⟩), .int .i64 most] w fun e w' => e = .returned (.int .i64 0) ∧ Below w.heap.size w w' := by
  have K := inum_calls g [] (by simp) true most w h
  rw [show numP most [] = none from rfl] at K
  refine K.mono ?_
  rintro e w' ⟨rfl, hi, ho⟩
  exact ⟨rfl, same_below h hi ho⟩
theorem failF_calls (g : Nat) (w : World) (h : IBlk w g [] true) :
    Calls Tryd.prog 37 #[.pointer (some ⟨g, 0, none⟩)] w fun e w' => e = .returned (.tuple #[]) ∧ Below w.heap.size w w' := by
  refine (fail_calls g [] true w h).mono ?_
  rintro e w' ⟨rfl, hi, ho⟩
  exact ⟨rfl, same_below h hi ho⟩
set_option maxHeartbeats 1000000 in
theorem textF_calls (g : Nat) (most : Int) (w : World) (h : IBlk w g [] true) :
    Calls Tryd.prog 25 #[.pointer (some ⟨g, 0, none⟩), .int .i64 most] w fun e w' => e = .returned ee ∧ Below w.heap.size w w' := by
  have H := Aside0.mk h
  clear h
  have HB0 := Aside0.mk (Below.refl w.heap.size w)
  go_enter Tryd.func25, Tryd.ntmps25
  (go_wp2_with fail; refine (numF_calls g most w H.out).mono ?_; rintro e w1 ⟨rfl, hb1⟩; have HB1 := Aside0.mk (HB0.out.trans (hb1.mono HB0.out.size)); clear hb1)
  have H1 := Aside0.mk (H.out.below HB1.out)
  have c0 := H1.out.cell 0
  have hlt := H1.out.lt
  rw [str_nil] at c0
  (go_wp2_with fail; refine (failF_calls g w1 H1.out).mono ?_; rintro e w2 ⟨rfl, hb2⟩; have HB2 := Aside0.mk (HB1.out.trans (hb2.mono HB1.out.size)); clear hb2)
  go_wp2
  go_ret
  exact ⟨rfl, HB2.out⟩
theorem leftF_calls (g : Nat) (w : World) (h : IBlk w g [] true) :
    Calls Tryd.prog 30 #[.pointer (some ⟨g, 0, none⟩)] w fun e w' => e = .returned (.int .i64 0) ∧ Below w.heap.size w w' := by
  have c0 := h.cell 0
  have hlt := h.lt
  rw [str_nil] at c0
  clear h
  go_enter Tryd.func30, Tryd.ntmps30
  go_wp2
  go_ret
  exact ⟨rfl, Below.refl _ _⟩
theorem endF_calls (g : Nat) (w : World) (h : IBlk w g [] true) :
    Calls Tryd.prog 31 #[.pointer (some ⟨g, 0, none⟩)] w fun e w' => e = .returned (.int .i64 2) ∧ Below w.heap.size w w' := by
  refine (end_calls g [] true w h).mono ?_
  rintro e w' ⟨rfl, rfl⟩
  exact ⟨rfl, Below.refl _ _⟩
set_option maxHeartbeats 1000000 in
theorem markF_calls (g : Nat) (w : World) (h : IBlk w g [] true) :
    Calls Tryd.prog 26 #[.pointer (some ⟨g, 0, none⟩)] w fun e w' => e = .returned (.bool false) ∧ Below w.heap.size w w' := by
  have H := Aside0.mk h
  have c0 := h.cell 0
  have hlt := h.lt
  rw [str_nil] at c0
  clear h
  go_enter Tryd.func26, Tryd.ntmps26
  go_wp2
  go_loopw [] (fun wr => wr.heap[w.heap.size]? = some (.stringIter ⟨#[]⟩ 0) ∧ Aside0 (Below w.heap.size w wr)) (fun _ => 0)
  case atStart => exact ⟨World.iter_heap w _ 0, ⟨(Below.refl _ _).alloc (Nat.le_refl _) _⟩⟩
  case round =>
    obtain ⟨hit, HB0⟩ := hrel
    have hnx : ∀ ty, (Instr.next (.pointer (some ⟨w.heap.size, 0, none⟩)) true ty).run Tryd.prog wr = _ := fun ty => Lib.run_next_end_at wr w.heap.size ⟨#[]⟩ 0 ty hit (by decide)
    have H1 := Aside0.mk (H.out.below HB0.out)
    clear hit
    (go_wp2_with fail; refine (failF_calls g wr H1.out).mono ?_; rintro e w1 ⟨rfl, hb1⟩; have HB1 := Aside0.mk (HB0.out.trans (hb1.mono HB0.out.size)); clear hb1)
    go_wp2
    go_ret
    exact ⟨rfl, HB1.out⟩
/-- Three cells of a Subject, stored anew. -/
abbrev three (W : World) (g : Nat) (x y z : Value) : World := ((W.setCell ⟨g, 0, none⟩ x).setCell ⟨g, 1, none⟩ y).setCell ⟨g, 2, none⟩ z
theorem three_blk {W : World} {g : Nat} {T : TypeId} {x0 y0 z0 : Value} (h : Blk W g T #[x0, y0, z0]) (x y z : Value) : Blk (three W g x y z) g T #[x, y, z] :=
  ((h.set 0 x).set 1 y).set 2 z
theorem three_below {W v : World} {g B : Nat} (h : Below B v W) (hg : B ≤ g) (x y z : Value) : Below B v (three W g x y z) :=
  ((h.setCell (by simpa using hg) _).setCell (by simpa using hg) _).setCell (by simpa using hg) _
set_option maxHeartbeats 2000000 in
theorem partsF_calls (g : Nat) (w : World) (h : IBlk w g [] true) :
    Calls Tryd.prog 38 #[.pointer (some ⟨g, 0, none⟩)] w fun e w' => e = .returned (.agg #[ee, ee, ee]) ∧ Below w.heap.size w w' := by
  have HB0 := Aside0.mk ((Below.refl w.heap.size w).alloc (Nat.le_refl _) (.cells #[ee, ee, ee] TS))
  have R0 := Aside0.mk (Blk.new w TS #[ee, ee, ee])
  have H0 := Aside0.mk (h.alloc (.cells #[ee, ee, ee] TS))
  clear h
  go_enter Tryd.func38, Tryd.ntmps38
  go_wp2_with fail
  refine (textF_calls g 16 _ H0.out).mono ?_
  rintro e w1 ⟨rfl, hb1⟩
  have hne : g ≠ w.heap.size := by have := H0.out.ne R0.out (by decide); exact this
  have f := R0.out.below hb1
  have HB1 := Aside0.mk ((HB0.out.trans (hb1.mono HB0.out.size)).setCell (p := ⟨w.heap.size, 0, none⟩) (Nat.le_refl _) ee)
  have R1 := Aside0.mk (f.set 0 ee)
  have H1 := Aside0.mk ((H0.out.below hb1).far (p := ⟨w.heap.size, 0, none⟩) hne ee)
  have f0 := f.frozen 0
  have d0 : w1.cell? ⟨w.heap.size, 0, none⟩ = some ee := f.cell 0
  have l0 := f.lt
  clear hb1 f
  go_wp2_with fail
  refine (textF_calls g 96 _ H1.out).mono ?_
  rintro e w2 ⟨rfl, hb2⟩
  clear f0 l0 d0
  have f := R1.out.below hb2
  have HB2 := Aside0.mk ((HB1.out.trans (hb2.mono HB1.out.size)).setCell (p := ⟨w.heap.size, 1, none⟩) (Nat.le_refl _) ee)
  have R2 := Aside0.mk (f.set 1 ee)
  have H2 := Aside0.mk ((H1.out.below hb2).far (p := ⟨w.heap.size, 1, none⟩) hne ee)
  have f0 := f.frozen 1
  have d0 : w2.cell? ⟨w.heap.size, 1, none⟩ = some ee := f.cell 1
  have l0 := f.lt
  clear hb2 f
  go_wp2_with fail
  refine (textF_calls g 16 _ H2.out).mono ?_
  rintro e w3 ⟨rfl, hb3⟩
  clear f0 l0 d0
  have f : Blk w3 w.heap.size TS #[ee, ee, ee] := R2.out.below hb3
  have HB3 := Aside0.mk (HB2.out.trans (hb3.mono HB2.out.size))
  have R3 := Aside0.mk f
  have f0 := f.frozen 0
  have f1 := f.frozen 1
  have f2 := f.frozen 2
  have c0 := f.cell 0
  have c1 := f.cell 1
  have c2 := f.cell 2
  have l0 := f.lt
  clear hb3 f
  go_wp2
  have E := three_blk (R3.out.set 2 ee) ee ee ee
  have e0 := E.cell 0
  have e1 := E.cell 1
  have e2 := E.cell 2
  exact bodyPost_ret (v := .agg #[ee, ee, ee]) (by simp [results, Tryd.results38, go_sem, e0, e1, e2]) rfl ⟨rfl, three_below (HB3.out.setCell (p := ⟨w.heap.size, 2, none⟩) (Nat.le_refl _) ee) (Nat.le_refl _) ee ee ee⟩
end Go.Proofs.YtmilpfccgggmkaaDoor.Knt
