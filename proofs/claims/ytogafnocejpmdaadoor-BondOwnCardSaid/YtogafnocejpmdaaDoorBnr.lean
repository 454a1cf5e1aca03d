/- The program's bond.Read, the reference's Read. -/
import Derived.Test.YtogafnocejpmdaaDoorBnd
namespace Go.Proofs.YtogafnocejpmdaaDoor.Bnd
open Go.RowKit Go.Proofs.YtogafnocejpmdaaDoorW.PrintWords Go.Proofs.YtogafnocejpmdaaDoor.Utf Go.Proofs.YtogafnocejpmdaaDoor.Arr Go.Proofs.YtogafnocejpmdaaDoor.Gly Go.Proofs.YtogafnocejpmdaaDoor.Glr Go.Proofs.YtogafnocejpmdaaDoor.Who
set_option linter.unusedVariables false
set_option linter.unusedSimpArgs false

abbrev tup0 : Array Value := tup ⟨#[]⟩ ⟨#[]⟩ ⟨#[]⟩ ⟨#[]⟩ ⟨#[]⟩ ⟨#[]⟩
theorem set_as (g : Bool) (t i r : ByteArray) (hg : setB t i r = g) (ht : t.size ≤ 9223372036854775807) (hi : i.size ≤ 9223372036854775807) (hr : r.size ≤ 9223372036854775807) (w : World) (hT : Tabs w) :
    Calls Tryd.prog 22 #[.agg #[.string t, .string i, .string r]] w fun e w' => e = .returned (.bool g) ∧ Below w.heap.size w w' := by
  subst hg
  exact set_calls t i r ht hi hr w hT
/-- What a text's two halves give. -/
structure Halves (s t i r a b c : ByteArray) (x y z : Bool) : Prop where mk ::
  x : readOk (cutA s 64) = x
  y : readOk (cutB s 64) = y
  z : setB t i r = z
  t : rt (cutA s 64) = t
  i : ri (cutA s 64) = i
  r : rr (cutA s 64) = r
  a : rt (cutB s 64) = a
  b : ri (cutB s 64) = b
  c : rr (cutB s 64) = c
structure Short (n : Nat) (t i r a b c : ByteArray) : Prop where mk ::
  t : t.size ≤ n
  i : i.size ≤ n
  r : r.size ≤ n
  a : a.size ≤ n
  b : b.size ≤ n
  c : c.size ≤ n
theorem Halves.short {s t i r a b c : ByteArray} {x y z : Bool} (h : Halves s t i r a b c x y z) : Short s.size t i r a b c := by
  obtain ⟨p1, p2, p3⟩ := rsize (cutA s 64)
  obtain ⟨q1, q2, q3⟩ := rsize (cutB s 64)
  have s1 := cutA_size s 64
  have s2 := cutB_size s 64
  rw [h.t] at p1
  rw [h.i] at p2
  rw [h.r] at p3
  rw [h.a] at q1
  rw [h.b] at q2
  rw [h.c] at q3
  exact ⟨by omega, by omega, by omega, by omega, by omega, by omega⟩
theorem Halves.readA {s t i r a b c : ByteArray} {x y z : Bool} (h : Halves s t i r a b c x y z) (hs : s.size ≤ 1000000000000) (v : ByteArray) (hv : cutA s 64 = v) (e : Int) (he : e = if x = true then 0 else 2) (w : World) (hT : Tabs w) :
    Calls Tryd.prog 21 #[.string v] w fun e' w' => e' = .returned (.tuple #[.agg #[.string t, .string i, .string r], .int .i64 e]) ∧ Below w.heap.size w w' := by
  subst hv
  have s1 := cutA_size s 64
  exact read_one _ t i r x e (by omega) h.x h.t h.i h.r he w hT
theorem Halves.readB {s t i r a b c : ByteArray} {x y z : Bool} (h : Halves s t i r a b c x y z) (hs : s.size ≤ 1000000000000) (v : ByteArray) (hv : cutB s 64 = v) (e : Int) (he : e = if y = true then 0 else 2) (w : World) (hT : Tabs w) :
    Calls Tryd.prog 21 #[.string v] w fun e' w' => e' = .returned (.tuple #[.agg #[.string a, .string b, .string c], .int .i64 e]) ∧ Below w.heap.size w w' := by
  subst hv
  have s1 := cutB_size s 64
  exact read_one _ a b c y e (by omega) h.y h.a h.b h.c he w hT

/-- Six cells that are stored one by one. -/
abbrev six (W : World) (g : Nat) (t i r a b c : ByteArray) : World :=
  (((((W.setCell ⟨g, 0, none⟩ (.string t)).setCell ⟨g, 1, none⟩ (.string i)).setCell ⟨g, 2, none⟩ (.string r)).setCell ⟨g, 3, none⟩ (.string a)).setCell ⟨g, 4, none⟩ (.string b)).setCell ⟨g, 5, none⟩ (.string c)
theorem six_blk {W : World} {g : Nat} {T : TypeId} (h : Blk W g T tup0) (t i r a b c : ByteArray) : Blk (six W g t i r a b c) g T (tup t i r a b c) :=
  (((((h.set 0 (.string t)).set 1 (.string i)).set 2 (.string r)).set 3 (.string a)).set 4 (.string b)).set 5 (.string c)
theorem six_below {W v : World} {g B : Nat} (h : Below B v W) (hg : B ≤ g) (t i r a b c : ByteArray) : Below B v (six W g t i r a b c) :=
  (((((h.setCell (by simpa using hg) _).setCell (by simpa using hg) _).setCell (by simpa using hg) _).setCell (by simpa using hg) _).setCell (by simpa using hg) _).setCell (by simpa using hg) _

set_option maxHeartbeats 8000000 in
set_option maxRecDepth 100000 in
theorem bread_walk (s t i r a b c : ByteArray) (x y z o ok : Bool) (hs : s.size ≤ 1000000000000) (H : Halves s t i r a b c x y z) (ho : cutOk s 64 = o) (hok : ok = (o && (x && y && z))) (w : World) (hT : Tabs w) :
    Calls Tryd.prog 9 #[.string s] w fun e w' => e = .returned (.tuple #[.agg (if ok = true then tup t i r a b c else tup0), .int .i64 (if ok = true then 0 else 2)]) ∧ Below w.heap.size w w' := by
  have HB := Aside0.mk (box_below w tup0 25)
  have RA := Aside0.mk (Blk.new w 25 tup0)
  have HT := Aside0.mk (Tabs.below hT HB.out)
  have HH := Aside0.mk H
  have HO := Aside0.mk ho
  have HK := Aside0.mk hok
  have SH := Aside0.mk H.short
  clear hT H ho hok
  go_enter Tryd.func9, Tryd.ntmps9
  go_wp2
  have hsz : (w.alloc (.cells tup0 25)).heap.size = w.heap.size + 1 := by simp
  go_loopw [12] (fun v12 wr => ∃ pos : Nat, wr.heap[w.heap.size + 1]? = some (.stringIter s pos) ∧ Aside0 (∀ j, j < pos → gb s j ≠ 64) ∧ Aside0 (Below (w.heap.size + 1) (w.alloc (.cells tup0 25)) wr)) (fun _ wr => s.size - wr.iterPos (w.heap.size + 1))
  case atStart =>
    have hi := World.iter_heap (w.alloc (.cells tup0 25)) s 0
    rw [hsz] at hi
    exact ⟨0, hi, ⟨fun j h => absurd h (Nat.not_lt_zero _)⟩, ⟨(Below.refl _ _).alloc (by omega) _⟩⟩
  case round =>
    obtain ⟨pos, hit, hv, hb⟩ := hrel
    have hpos := iterPos_of hit
    by_cases hp : pos < s.size
    · have hnx : ∀ ty, (Instr.next (.pointer (some ⟨w.heap.size + 1, 0, none⟩)) true ty).run Tryd.prog wr = _ := fun ty => Lib.run_next_any_at wr (w.heap.size + 1) s pos ty hit hp
      have hw := dec_w s pos hp
      have hit2 := Lib.iterAt_heap wr (w.heap.size + 1) s pos (pos + (Utf8.decode s pos).2) hit
      have hb2 := Lib.below_iterAt hb.out (k := w.heap.size + 1) (Nat.le_refl _) s (pos + (Utf8.decode s pos).2)
      have hyes := fun h => ix_hit s 64 pos hp ((dec_is s pos 64 (by omega)).1 h) hv.out
      have hno := dec_not s pos 64 (by omega)
      have HV := Aside0.mk hv.out
      have HP := Aside0.mk hpos
      have HI := Aside0.mk hit2
      have HW := Aside0.mk hw
      have HB2 := Aside0.mk hb2
      clear hv hpos hit hit2 hw hb2 hb
      generalize (Utf8.decode s pos).1 = u at *
      generalize (Utf8.decode s pos).2 = m at *
      by_cases hr : u = 64
      · have hix := hyes hr
        have eA : cutA s 64 = s.extract 0 pos := by unfold cutA; rw [hix, if_pos hp]
        have eB : cutB s 64 = s.extract (pos + 1) s.size := by unfold cutB; rw [hix, if_pos hp]
        have eO : o = true := by rw [← HO.out]; unfold cutOk; rw [hix]; simp [hp]
        have EA := Aside0.mk eA
        have EB := Aside0.mk eB
        have t0 : ((u : Int) == 64) = true := beq_iff_eq.2 (by omega)
        have t1 : ((u : Int) != 64) = false := by simp [bne, t0]
        subst eO
        clear hyes hno hr hix eA eB
        have p0 : (0 : Int) ≤ (pos : Int) := by omega
        have p1 : (pos : Int) ≤ (s.size : Int) := by omega
        have p2 : IntKind.i64.wrap ((pos : Int) + 1) = (pos : Int) + 1 := IntWalk.i64_in _ (by omega)
        have p3 : (0 : Int) ≤ (pos : Int) + 1 := by omega
        have p4 : (pos : Int) + 1 ≤ (s.size : Int) := by omega
        have p5 : ((pos : Int) + 1).toNat = pos + 1 := by omega
        obtain ⟨n1, hn1⟩ : ∃ e : Int, e = if x = true then 0 else 2 := ⟨_, rfl⟩
        obtain ⟨n2, hn2⟩ : ∃ e : Int, e = if y = true then 0 else 2 := ⟨_, rfl⟩
        have N1 := Aside0.mk hn1
        have N2 := Aside0.mk hn2
        have HT1 := Aside0.mk (Tabs.below HT.out (by rw [hsz]; exact HB2.out))
        have R0 := Aside0.mk (RA.out.below' HB2.out (by omega))
        have HB3 := Aside0.mk (HB.out.trans (HB2.out.mono (by omega)))
        clear hn1 hn2 HB2 RA HB HT
        go_wp2_with fail
        refine (HH.out.readA hs _ EA.out n1 N1.out _ HT1.out).mono ?_
        rintro e w1 ⟨rfl, hb1⟩
        have R1 := Aside0.mk ((R0.out.below hb1).alloc (.cells #[.string t, .string i, .string r] 23))
        have G1 := Aside0.mk (Blk.new w1 23 #[.string t, .string i, .string r])
        have HB4 := Aside0.mk ((HB3.out.trans (hb1.mono HB3.out.size)).alloc (HB3.out.trans (hb1.mono HB3.out.size)).size (.cells #[.string t, .string i, .string r] 23))
        have HT2 := Aside0.mk (Tabs.below (Tabs.below HT1.out hb1) (box_below w1 #[.string t, .string i, .string r] 23))
        clear R0 HB3 HT1 hb1
        go_wp2_with fail
        refine (HH.out.readB hs _ EB.out n2 N2.out _ HT2.out).mono ?_
        rintro e w2 ⟨rfl, hb2⟩
        have R2 := Aside0.mk (R1.out.below hb2)
        have G2 := Aside0.mk (G1.out.below hb2)
        have HB5 := Aside0.mk (HB4.out.trans (hb2.mono HB4.out.size))
        have HT3 := Aside0.mk (Tabs.below HT2.out hb2)
        clear R1 G1 HB4 HT2 hb2
        cases x with
        | false =>
          obtain rfl : n1 = 2 := N1.out
          obtain rfl : ok = false := HK.out
          have ltR2 := R2.out.lt
          have c0 := R2.out.cell 0
          have c1 := R2.out.cell 1
          have c2 := R2.out.cell 2
          have c3 := R2.out.cell 3
          have c4 := R2.out.cell 4
          have c5 := R2.out.cell 5
          have f0 := R2.out.frozen 0
          have f1 := R2.out.frozen 1
          have f2 := R2.out.frozen 2
          have f3 := R2.out.frozen 3
          have f4 := R2.out.frozen 4
          have f5 := R2.out.frozen 5
          go_wp2
          have E := (six_blk R2.out ⟨#[]⟩ ⟨#[]⟩ ⟨#[]⟩ ⟨#[]⟩ ⟨#[]⟩ ⟨#[]⟩).alloc (.cells #[.string a, .string b, .string c] 23)
          have e0 := E.cell 0
          have e1 := E.cell 1
          have e2 := E.cell 2
          have e3 := E.cell 3
          have e4 := E.cell 4
          have e5 := E.cell 5
          exact bodyPost_ret (v := .tuple #[.agg tup0, .int .i64 2]) (by simp [results, Tryd.results9, go_sem, e0, e1, e2, e3, e4, e5]) rfl ⟨rfl, (six_below HB5.out (Nat.le_refl _) ⟨#[]⟩ ⟨#[]⟩ ⟨#[]⟩ ⟨#[]⟩ ⟨#[]⟩ ⟨#[]⟩).alloc (six_below HB5.out (Nat.le_refl _) ⟨#[]⟩ ⟨#[]⟩ ⟨#[]⟩ ⟨#[]⟩ ⟨#[]⟩ ⟨#[]⟩).size _⟩
        | true =>
          obtain rfl : n1 = 0 := N1.out
          cases y with
          | false =>
            obtain rfl : n2 = 2 := N2.out
            obtain rfl : ok = false := HK.out
            have ltR2 := R2.out.lt
            have c0 := R2.out.cell 0
            have c1 := R2.out.cell 1
            have c2 := R2.out.cell 2
            have c3 := R2.out.cell 3
            have c4 := R2.out.cell 4
            have c5 := R2.out.cell 5
            have f0 := R2.out.frozen 0
            have f1 := R2.out.frozen 1
            have f2 := R2.out.frozen 2
            have f3 := R2.out.frozen 3
            have f4 := R2.out.frozen 4
            have f5 := R2.out.frozen 5
            go_wp2
            have E := (six_blk R2.out ⟨#[]⟩ ⟨#[]⟩ ⟨#[]⟩ ⟨#[]⟩ ⟨#[]⟩ ⟨#[]⟩).alloc (.cells #[.string a, .string b, .string c] 23)
            have e0 := E.cell 0
            have e1 := E.cell 1
            have e2 := E.cell 2
            have e3 := E.cell 3
            have e4 := E.cell 4
            have e5 := E.cell 5
            exact bodyPost_ret (v := .tuple #[.agg tup0, .int .i64 2]) (by simp [results, Tryd.results9, go_sem, e0, e1, e2, e3, e4, e5]) rfl ⟨rfl, (six_below HB5.out (Nat.le_refl _) ⟨#[]⟩ ⟨#[]⟩ ⟨#[]⟩ ⟨#[]⟩ ⟨#[]⟩ ⟨#[]⟩).alloc (six_below HB5.out (Nat.le_refl _) ⟨#[]⟩ ⟨#[]⟩ ⟨#[]⟩ ⟨#[]⟩ ⟨#[]⟩ ⟨#[]⟩).size _⟩
          | true =>
            obtain rfl : n2 = 0 := N2.out
            have R3 := Aside0.mk (R2.out.alloc (.cells #[.string a, .string b, .string c] 23))
            have G3 := Aside0.mk (G2.out.alloc (.cells #[.string a, .string b, .string c] 23))
            have Y3 := Aside0.mk (Blk.new w2 23 #[.string a, .string b, .string c])
            have HB6 := Aside0.mk (HB5.out.alloc HB5.out.size (.cells #[.string a, .string b, .string c] 23))
            have HT4 := Aside0.mk (Tabs.below HT3.out (box_below w2 #[.string a, .string b, .string c] 23))
            have g0 := G2.out.cell 0
            have g1 := G2.out.cell 1
            have g2 := G2.out.cell 2
            have glt := G2.out.lt
            go_wp2_with fail
            refine (set_as z t i r HH.out.z (by have := SH.out.t; omega) (by have := SH.out.i; omega) (by have := SH.out.r; omega) _ HT4.out).mono ?_
            rintro e w3 ⟨rfl, hb3⟩
            have R4 := Aside0.mk (R3.out.below hb3)
            have G4 := Aside0.mk (G3.out.below hb3)
            have Y4 := Aside0.mk (Y3.out.below hb3)
            have HB7 := Aside0.mk (HB6.out.trans (hb3.mono HB6.out.size))
            clear R3 G3 Y3 HB6 HT4 hb3 g0 g1 g2 glt
            cases z with
            | false =>
              obtain rfl : ok = false := HK.out
              have ltR4 := R4.out.lt
              have c0 := R4.out.cell 0
              have c1 := R4.out.cell 1
              have c2 := R4.out.cell 2
              have c3 := R4.out.cell 3
              have c4 := R4.out.cell 4
              have c5 := R4.out.cell 5
              have f0 := R4.out.frozen 0
              have f1 := R4.out.frozen 1
              have f2 := R4.out.frozen 2
              have f3 := R4.out.frozen 3
              have f4 := R4.out.frozen 4
              have f5 := R4.out.frozen 5
              go_wp2
              have E := (six_blk R4.out ⟨#[]⟩ ⟨#[]⟩ ⟨#[]⟩ ⟨#[]⟩ ⟨#[]⟩ ⟨#[]⟩)
              have e0 := E.cell 0
              have e1 := E.cell 1
              have e2 := E.cell 2
              have e3 := E.cell 3
              have e4 := E.cell 4
              have e5 := E.cell 5
              exact bodyPost_ret (v := .tuple #[.agg tup0, .int .i64 2]) (by simp [results, Tryd.results9, go_sem, e0, e1, e2, e3, e4, e5]) rfl ⟨rfl, six_below HB7.out (Nat.le_refl _) ⟨#[]⟩ ⟨#[]⟩ ⟨#[]⟩ ⟨#[]⟩ ⟨#[]⟩ ⟨#[]⟩⟩
            | true =>
              obtain rfl : ok = true := HK.out
              have ltR4 := R4.out.lt
              have c0 := R4.out.cell 0
              have c1 := R4.out.cell 1
              have c2 := R4.out.cell 2
              have c3 := R4.out.cell 3
              have c4 := R4.out.cell 4
              have c5 := R4.out.cell 5
              have f0 := R4.out.frozen 0
              have f1 := R4.out.frozen 1
              have f2 := R4.out.frozen 2
              have f3 := R4.out.frozen 3
              have f4 := R4.out.frozen 4
              have f5 := R4.out.frozen 5
              have g0 := G4.out.cell 0
              have g1 := G4.out.cell 1
              have g2 := G4.out.cell 2
              have y0 := Y4.out.cell 0
              have y1 := Y4.out.cell 1
              have y2 := Y4.out.cell 2
              go_wp2
              have E := (six_blk R4.out t i r a b c)
              have e0 := E.cell 0
              have e1 := E.cell 1
              have e2 := E.cell 2
              have e3 := E.cell 3
              have e4 := E.cell 4
              have e5 := E.cell 5
              exact bodyPost_ret (v := .tuple #[.agg (tup t i r a b c), .int .i64 0]) (by simp [results, Tryd.results9, go_sem, e0, e1, e2, e3, e4, e5]) rfl ⟨rfl, six_below HB7.out (Nat.le_refl _) t i r a b c⟩
      · have hz : ∀ j, j < pos + m → gb s j ≠ 64 := fun j hj => by
          by_cases h : j < pos
          · exact HV.out j h
          · exact hno hr j (by omega) hj
        have HZ := Aside0.mk hz
        have t0 : ((u : Int) == 64) = false := beq_eq_false_iff_ne.2 (by omega)
        have t1 : ((u : Int) != 64) = true := by simp [bne, t0]
        clear hyes hno hr hz
        go_wp2
        go_roundw
        case rel => exact ⟨_, HI.out, HZ, HB2⟩
        case measure =>
          have := HW.out
          rw [iterPos_of HI.out, HP.out]
          omega
    · have hnx : ∀ ty, (Instr.next (.pointer (some ⟨w.heap.size + 1, 0, none⟩)) true ty).run Tryd.prog wr = _ := fun ty => Lib.run_next_end_at wr (w.heap.size + 1) s pos ty hit hp
      have hix := ix_none s 64 (fun j hj => hv.out j (by omega))
      have eO : o = false := by rw [← HO.out]; unfold cutOk; rw [hix]; simp
      subst eO
      have R := Aside0.mk (RA.out.below' (hb.out) (by omega))
      have HBE := Aside0.mk (HB.out.trans (hb.out.mono (by omega)))
      have c0 := R.out.cell 0
      have c1 := R.out.cell 1
      have c2 := R.out.cell 2
      have c3 := R.out.cell 3
      have c4 := R.out.cell 4
      have c5 := R.out.cell 5
      have f0 := R.out.frozen 0
      have f1 := R.out.frozen 1
      have f2 := R.out.frozen 2
      have f3 := R.out.frozen 3
      have f4 := R.out.frozen 4
      have f5 := R.out.frozen 5
      clear hv hit hpos hix
      obtain rfl : ok = false := HK.out
      have E := six_blk R.out ⟨#[]⟩ ⟨#[]⟩ ⟨#[]⟩ ⟨#[]⟩ ⟨#[]⟩ ⟨#[]⟩
      have EE := Aside0.mk E
      clear E
      go_wp2
      have e0 := EE.out.cell 0
      have e1 := EE.out.cell 1
      have e2 := EE.out.cell 2
      have e3 := EE.out.cell 3
      have e4 := EE.out.cell 4
      have e5 := EE.out.cell 5
      exact bodyPost_ret (v := .tuple #[.agg tup0, .int .i64 2]) (by simp [results, Tryd.results9, go_sem, e0, e1, e2, e3, e4, e5]) rfl ⟨rfl, six_below HBE.out (Nat.le_refl _) _ _ _ _ _ _⟩

/-! ### the reference's -/
theorem Halves.rreadA {s t i r a b c : ByteArray} {x y z : Bool} (h : Halves s t i r a b c x y z) (hs : s.size ≤ 100000000) (w : World) :
    Calls Tryd.prog 25 #[.string (cutA s 64)] w fun e' w' => e' = .returned (.tuple #[.agg #[.string t, .string i, .string r], .bool x]) ∧ Below w.heap.size w w' := by
  have s1 := cutA_size s 64
  exact rread_one _ t i r x (by omega) h.x h.t h.i h.r w
theorem Halves.rreadB {s t i r a b c : ByteArray} {x y z : Bool} (h : Halves s t i r a b c x y z) (hs : s.size ≤ 100000000) (w : World) :
    Calls Tryd.prog 25 #[.string (cutB s 64)] w fun e' w' => e' = .returned (.tuple #[.agg #[.string a, .string b, .string c], .bool y]) ∧ Below w.heap.size w w' := by
  have s1 := cutB_size s 64
  exact rread_one _ a b c y (by omega) h.y h.a h.b h.c w
set_option maxHeartbeats 8000000 in
set_option maxRecDepth 100000 in
theorem rread_walk (s t i r a b c : ByteArray) (x y z o ok : Bool) (hs : s.size ≤ 100000000) (H : Halves s t i r a b c x y z) (ho : cutOk s 64 = o) (hok : ok = (o && (x && y && z))) (w : World) :
    Calls Tryd.prog 11 #[.string s] w fun e w' => e = .returned (.tuple #[.agg (if ok = true then tup t i r a b c else tup0), .bool ok]) ∧ Below w.heap.size w w' := by
  have HB := Aside0.mk (box_below w tup0 25)
  have RA := Aside0.mk (Blk.new w 25 tup0)
  have HK := Aside0.mk hok
  have SH := Aside0.mk H.short
  obtain ⟨k, hk⟩ : ∃ k, kindV t i r = k := ⟨_, rfl⟩
  have hz : (k != 2) = !z := by rw [← H.z, set_kind, hk, bne]
  have hz2 : (((k : Nat) : Int) != 2) = !z := by rw [← hz, Bool.eq_iff_iff]; simp; omega
  have HZ := Aside0.mk hz
  have HZ2 := Aside0.mk hz2
  have HKD := Aside0.mk hk
  have HC := Aside0.mk (ref_cut_calls s (by omega) 64 64 rfl)
  rw [ho] at HC
  have HA := Aside0.mk (H.rreadA hs)
  have HD := Aside0.mk (H.rreadB hs)
  clear H ho hok hk hz hz2
  generalize cutA s 64 = A at *
  generalize cutB s 64 = D at *
  go_enter Tryd.func11, Tryd.ntmps11
  go_wp2_with fail
  refine (HC.out _).mono ?_
  rintro e w0 ⟨rfl, hb0⟩
  have R0 := Aside0.mk (RA.out.below hb0)
  have HB3 := Aside0.mk (HB.out.trans (hb0.mono HB.out.size))
  clear RA HB hb0
  go_wp2_with fail
  refine (HA.out _).mono ?_
  rintro e w1 ⟨rfl, hb1⟩
  have R1 := Aside0.mk ((R0.out.below hb1).alloc (.cells #[.string t, .string i, .string r] 23))
  have G1 := Aside0.mk (Blk.new w1 23 #[.string t, .string i, .string r])
  have HB4 := Aside0.mk ((HB3.out.trans (hb1.mono HB3.out.size)).alloc (HB3.out.trans (hb1.mono HB3.out.size)).size (.cells #[.string t, .string i, .string r] 23))
  clear R0 HB3 hb1
  go_wp2_with fail
  refine (HD.out _).mono ?_
  rintro e w2 ⟨rfl, hb2⟩
  have R2 := Aside0.mk (R1.out.below hb2)
  have G2 := Aside0.mk (G1.out.below hb2)
  have HB5 := Aside0.mk (HB4.out.trans (hb2.mono HB4.out.size))
  clear R1 G1 HB4 hb2
  cases o with
  | false =>
    obtain rfl : ok = false := HK.out
    have ltR2 := R2.out.lt
    have c0 := R2.out.cell 0
    have c1 := R2.out.cell 1
    have c2 := R2.out.cell 2
    have c3 := R2.out.cell 3
    have c4 := R2.out.cell 4
    have c5 := R2.out.cell 5
    have f0 := R2.out.frozen 0
    have f1 := R2.out.frozen 1
    have f2 := R2.out.frozen 2
    have f3 := R2.out.frozen 3
    have f4 := R2.out.frozen 4
    have f5 := R2.out.frozen 5
    go_wp2
    have E := (six_blk R2.out ⟨#[]⟩ ⟨#[]⟩ ⟨#[]⟩ ⟨#[]⟩ ⟨#[]⟩ ⟨#[]⟩).alloc (.cells #[.string a, .string b, .string c] 23)
    have e0 := E.cell 0
    have e1 := E.cell 1
    have e2 := E.cell 2
    have e3 := E.cell 3
    have e4 := E.cell 4
    have e5 := E.cell 5
    exact bodyPost_ret (v := .tuple #[.agg tup0, .bool false]) (by simp [results, Tryd.results11, go_sem, e0, e1, e2, e3, e4, e5]) rfl ⟨rfl, (six_below HB5.out (Nat.le_refl _) ⟨#[]⟩ ⟨#[]⟩ ⟨#[]⟩ ⟨#[]⟩ ⟨#[]⟩ ⟨#[]⟩).alloc (six_below HB5.out (Nat.le_refl _) ⟨#[]⟩ ⟨#[]⟩ ⟨#[]⟩ ⟨#[]⟩ ⟨#[]⟩ ⟨#[]⟩).size _⟩
  | true =>
    cases x with
    | false =>
      obtain rfl : ok = false := HK.out
      have ltR2 := R2.out.lt
      have c0 := R2.out.cell 0
      have c1 := R2.out.cell 1
      have c2 := R2.out.cell 2
      have c3 := R2.out.cell 3
      have c4 := R2.out.cell 4
      have c5 := R2.out.cell 5
      have f0 := R2.out.frozen 0
      have f1 := R2.out.frozen 1
      have f2 := R2.out.frozen 2
      have f3 := R2.out.frozen 3
      have f4 := R2.out.frozen 4
      have f5 := R2.out.frozen 5
      go_wp2
      have E := (six_blk R2.out ⟨#[]⟩ ⟨#[]⟩ ⟨#[]⟩ ⟨#[]⟩ ⟨#[]⟩ ⟨#[]⟩).alloc (.cells #[.string a, .string b, .string c] 23)
      have e0 := E.cell 0
      have e1 := E.cell 1
      have e2 := E.cell 2
      have e3 := E.cell 3
      have e4 := E.cell 4
      have e5 := E.cell 5
      exact bodyPost_ret (v := .tuple #[.agg tup0, .bool false]) (by simp [results, Tryd.results11, go_sem, e0, e1, e2, e3, e4, e5]) rfl ⟨rfl, (six_below HB5.out (Nat.le_refl _) ⟨#[]⟩ ⟨#[]⟩ ⟨#[]⟩ ⟨#[]⟩ ⟨#[]⟩ ⟨#[]⟩).alloc (six_below HB5.out (Nat.le_refl _) ⟨#[]⟩ ⟨#[]⟩ ⟨#[]⟩ ⟨#[]⟩ ⟨#[]⟩ ⟨#[]⟩).size _⟩
    | true =>
      cases y with
      | false =>
        obtain rfl : ok = false := HK.out
        have ltR2 := R2.out.lt
        have c0 := R2.out.cell 0
        have c1 := R2.out.cell 1
        have c2 := R2.out.cell 2
        have c3 := R2.out.cell 3
        have c4 := R2.out.cell 4
        have c5 := R2.out.cell 5
        have f0 := R2.out.frozen 0
        have f1 := R2.out.frozen 1
        have f2 := R2.out.frozen 2
        have f3 := R2.out.frozen 3
        have f4 := R2.out.frozen 4
        have f5 := R2.out.frozen 5
        go_wp2
        have E := (six_blk R2.out ⟨#[]⟩ ⟨#[]⟩ ⟨#[]⟩ ⟨#[]⟩ ⟨#[]⟩ ⟨#[]⟩).alloc (.cells #[.string a, .string b, .string c] 23)
        have e0 := E.cell 0
        have e1 := E.cell 1
        have e2 := E.cell 2
        have e3 := E.cell 3
        have e4 := E.cell 4
        have e5 := E.cell 5
        exact bodyPost_ret (v := .tuple #[.agg tup0, .bool false]) (by simp [results, Tryd.results11, go_sem, e0, e1, e2, e3, e4, e5]) rfl ⟨rfl, (six_below HB5.out (Nat.le_refl _) ⟨#[]⟩ ⟨#[]⟩ ⟨#[]⟩ ⟨#[]⟩ ⟨#[]⟩ ⟨#[]⟩).alloc (six_below HB5.out (Nat.le_refl _) ⟨#[]⟩ ⟨#[]⟩ ⟨#[]⟩ ⟨#[]⟩ ⟨#[]⟩ ⟨#[]⟩).size _⟩
      | true =>
        have R3 := Aside0.mk (R2.out.alloc (.cells #[.string a, .string b, .string c] 23))
        have G3 := Aside0.mk (G2.out.alloc (.cells #[.string a, .string b, .string c] 23))
        have Y3 := Aside0.mk (Blk.new w2 23 #[.string a, .string b, .string c])
        have HB6 := Aside0.mk (HB5.out.alloc HB5.out.size (.cells #[.string a, .string b, .string c] 23))
        have g0 := G2.out.cell 0
        have g1 := G2.out.cell 1
        have g2 := G2.out.cell 2
        have glt := G2.out.lt
        go_wp2_with fail
        refine (kind_as k t i r HKD.out (by have := SH.out.t; omega) (by have := SH.out.i; omega) (by have := SH.out.r; omega) _).mono ?_
        rintro e w3 ⟨rfl, hb3⟩
        have R4 := Aside0.mk (R3.out.below hb3)
        have G4 := Aside0.mk (G3.out.below hb3)
        have Y4 := Aside0.mk (Y3.out.below hb3)
        have HB7 := Aside0.mk (HB6.out.trans (hb3.mono HB6.out.size))
        clear R3 G3 Y3 HB6 hb3 g0 g1 g2 glt
        have z1 := HZ.out
        have z2 := HZ2.out
        cases z with
        | false =>
          rw [Bool.not_false] at z1 z2
          obtain rfl : ok = false := HK.out
          have ltR4 := R4.out.lt
          have c0 := R4.out.cell 0
          have c1 := R4.out.cell 1
          have c2 := R4.out.cell 2
          have c3 := R4.out.cell 3
          have c4 := R4.out.cell 4
          have c5 := R4.out.cell 5
          have f0 := R4.out.frozen 0
          have f1 := R4.out.frozen 1
          have f2 := R4.out.frozen 2
          have f3 := R4.out.frozen 3
          have f4 := R4.out.frozen 4
          have f5 := R4.out.frozen 5
          go_wp2
          have E := (six_blk R4.out ⟨#[]⟩ ⟨#[]⟩ ⟨#[]⟩ ⟨#[]⟩ ⟨#[]⟩ ⟨#[]⟩)
          have e0 := E.cell 0
          have e1 := E.cell 1
          have e2 := E.cell 2
          have e3 := E.cell 3
          have e4 := E.cell 4
          have e5 := E.cell 5
          exact bodyPost_ret (v := .tuple #[.agg tup0, .bool false]) (by simp [results, Tryd.results11, go_sem, e0, e1, e2, e3, e4, e5]) rfl ⟨rfl, six_below HB7.out (Nat.le_refl _) ⟨#[]⟩ ⟨#[]⟩ ⟨#[]⟩ ⟨#[]⟩ ⟨#[]⟩ ⟨#[]⟩⟩
        | true =>
          rw [Bool.not_true] at z1 z2
          obtain rfl : ok = true := HK.out
          have ltR4 := R4.out.lt
          have c0 := R4.out.cell 0
          have c1 := R4.out.cell 1
          have c2 := R4.out.cell 2
          have c3 := R4.out.cell 3
          have c4 := R4.out.cell 4
          have c5 := R4.out.cell 5
          have f0 := R4.out.frozen 0
          have f1 := R4.out.frozen 1
          have f2 := R4.out.frozen 2
          have f3 := R4.out.frozen 3
          have f4 := R4.out.frozen 4
          have f5 := R4.out.frozen 5
          have g0 := G4.out.cell 0
          have g1 := G4.out.cell 1
          have g2 := G4.out.cell 2
          have y0 := Y4.out.cell 0
          have y1 := Y4.out.cell 1
          have y2 := Y4.out.cell 2
          go_wp2
          have E := (six_blk R4.out t i r a b c)
          have e0 := E.cell 0
          have e1 := E.cell 1
          have e2 := E.cell 2
          have e3 := E.cell 3
          have e4 := E.cell 4
          have e5 := E.cell 5
          exact bodyPost_ret (v := .tuple #[.agg (tup t i r a b c), .bool true]) (by simp [results, Tryd.results11, go_sem, e0, e1, e2, e3, e4, e5]) rfl ⟨rfl, six_below HB7.out (Nat.le_refl _) t i r a b c⟩

end Go.Proofs.YtogafnocejpmdaaDoor.Bnd
