/- Texts of this claim, merged: Sl2. -/
import Derived.Test.YtddhngalokmdoaaMgBase15
import Derived.Test.YtddhngalokmdoaaMgBase6
/- The law SpoolRoom: its walk. -/
namespace Go.Proofs.Ytddhngalokmdoaa.Spo
open Go.RowKit Go.Proofs.YtddhngalokmdoaaW.PrintWords Go.Proofs.YtddhngalokmdoaaW.PrintLast Go.Proofs.YtddhngalokmdoaaW.PrintMore Go.Proofs.Ytddhngalokmdoaa.Arr Go.Proofs.Ytddhngalokmdoaa.PSpoolPlays
set_option linter.unusedVariables false
set_option linter.unusedSimpArgs false

/-- A tray without an end whose cache is empty. -/
structure FreeT (n : Nat) (V : TrayV) : Prop where mk ::
  left : V.left < 0
  cache : V.cache = []
  len : V.kept.length = n
theorem FreeT.new (n : Nat) : FreeT n (newV n) := ⟨by show (-1 : Int) < 0; decide, rfl, by simp [newV]⟩
theorem FreeT.append {n : Nat} {V : TrayV} (h : FreeT n V) {S : SpoolV} {b : List Int} (hF : Fit S) (hR : S.first + S.count ≤ V.kept.length) (hb : b.length ≤ 60000) (hr : (nPieces b : Int) ≤ roomV S) (hd : S.dead = false) :
    FreeT n (appendV V S b).1 ∧ (appendV V S b).2 = ({ S with tail := S.tail + nPieces b }, 0) := by
  rw [append_free h.left hF hR hb hr hd]
  exact ⟨⟨h.left, rfl, by show (settleV _ _).length = n; rw [settle_length]; exact h.len⟩, by rw [← hd]⟩
theorem append_full {V : TrayV} {S : SpoolV} {b : List Int} (hb : b.length ≤ 60000) (hr : roomV S < nPieces b) : appendV V S b = (V, S, 3) := by
  unfold appendV
  rw [if_neg (by omega), if_pos hr]
theorem append_long {V : TrayV} {S : SpoolV} {b : List Int} (hb : 60000 < b.length) : appendV V S b = (V, S, 1) := by
  unfold appendV
  rw [if_pos hb]
def roomS (k : Nat) (h tl : Int) : SpoolV := ⟨0, k, 1, h, tl, false⟩
theorem open_room (k : Nat) (h2 : 2 ≤ k) (h3 : k ≤ 31) : openOk (newV 40) 0 (k : Int) 0 1 = true := by
  unfold openOk rightV
  have : (newV 40).kept.length = 40 := by simp [newV]
  rw [this, decide_eq_true (show (k : Int) ≥ 2 by omega), decide_eq_true (show (k : Int) ≤ 4096 by omega), decide_eq_true (show (k : Int) ≤ ((40 : Nat) : Int) - 0 by omega)]
  rfl
theorem room_fit {k : Nat} {h tl : Int} (h2 : 2 ≤ k) (h3 : k ≤ 31) (h0 : 0 ≤ h) (h1 : h ≤ tl) (h4 : tl - h ≤ k) (h5 : tl ≤ 10000) : Fit (roomS k h tl) := ⟨⟨by show (0 : Int) ≤ 0; decide, by show (0 : Int) ≤ 4096; decide⟩, ⟨by show (2 : Int) ≤ (k : Int); omega, by show (k : Int) ≤ _; omega⟩, ⟨by show (1 : Int) ≤ 1; decide, by show (1 : Int) ≤ _; decide⟩, ⟨h0, h1⟩, ⟨by show tl ≤ _; omega, h4⟩⟩
/-- The law's spool. -/
def RoomAt (w0 w : World) (s t k : Nat) (h tl : Int) : Prop := ∃ V, SAt w0 w s t V (roomS k h tl) ∧ FreeT 40 V
theorem room_append {w0 w w1 : World} {s t k : Nat} {h tl : Int} (H : RoomAt w0 w s t k h tl) (hb : Below w.heap.size w w1) (n : Nat) (hn : n ≤ 60000) (ht : tl ≤ 10000) (g : Nat) (hg : w.heap.size ≤ g) (hr : ReadsInt w1 .u8 (some ⟨g, 0, none⟩) n (List.replicate n 0)) (N : Nat) (hN : nPieces (List.replicate n 0) = N) :
    Calls Try.prog 20 #[ptrT s, .slice (some ⟨g, 0, none⟩) n n] w1 fun e w' => (e = .returned (.int .i64 0) ∧ (N : Int) ≤ k - (tl - h) ∧ RoomAt w0 w' s t k h (tl + N)) ∨ (e = .returned (.int .i64 3) ∧ (k : Int) - (tl - h) < N ∧ RoomAt w0 w' s t k h tl) := by
  obtain ⟨V, hS, hV⟩ := H
  refine (sat_append hS hb (by rw [hV.cache]; decide) (by show tl ≤ _; omega) (List.replicate n 0) _ n n (Bytes.zeros n) (Nat.le_refl _) hr (fun ad e _ => by cases e; exact .inr hg) (by omega)).mono ?_
  rintro e w' ⟨rfl, h1⟩
  by_cases hroom : (N : Int) ≤ k - (tl - h)
  · obtain ⟨h2, h3⟩ := hV.append hS.fit hS.right (b := List.replicate n 0) (by simpa using hn) (by rw [hN]; exact hroom) rfl
    rw [h3, hN] at h1
    rw [h3]
    exact .inl ⟨rfl, hroom, _, h1, h2⟩
  · have h2 := append_full (V := V) (S := roomS k h tl) (b := List.replicate n 0) (by simpa using hn) (by rw [hN]; exact Int.not_le.1 hroom)
    rw [h2] at h1
    rw [h2]
    exact .inr ⟨rfl, Int.not_le.1 hroom, _, h1, hV⟩
theorem RoomAt.below {w0 w w1 : World} {s t k : Nat} {h tl : Int} (H : RoomAt w0 w s t k h tl) (hb : Below w.heap.size w w1) : RoomAt w0 w1 s t k h tl := by
  obtain ⟨V, h1, h2⟩ := H
  exact ⟨V, h1.below hb, h2⟩
theorem RoomAt.low {w0 w : World} {s t k : Nat} {h tl : Int} (H : RoomAt w0 w s t k h tl) : Below w0.heap.size w0 w := by
  obtain ⟨V, h1, h2⟩ := H
  exact h1.low
set_option maxHeartbeats 8000000 in
set_option maxRecDepth 100000 in
theorem lawRoom_calls (x y : Int) (hx0 : 0 ≤ x) (hx1 : x < 256) (hy0 : 0 ≤ y) (hy1 : y < 256) (w : World) :
    Calls Try.prog 5 #[.int .u8 x, .int .u8 y] w fun e w' => e = .returned (.bool true) ∧ Below w.heap.size w w' := by
  obtain ⟨n, rfl⟩ : ∃ n : Nat, y = (n : Int) := ⟨y.toNat, by omega⟩
  obtain ⟨k, hk⟩ : ∃ k : Nat, 2 + x % 30 = (k : Int) := ⟨(2 + x % 30).toNat, by omega⟩
  have hk2 : 2 ≤ k ∧ k ≤ 31 := by omega
  have hn : n < 256 := by omega
  obtain ⟨N, hN⟩ : ∃ N, nPieces (List.replicate n 0) = N := ⟨_, rfl⟩
  have hN3 : 1 ≤ N ∧ N ≤ 3 ∧ N = max 1 ((n + 107) / 108) := by
    unfold nPieces at hN
    rw [List.length_replicate] at hN
    omega
  have e1 : Int.tmod x 30 = x % 30 := Int.tmod_eq_emod_of_nonneg hx0
  have e2 : IntKind.u8.wrap (x % 30) = x % 30 := IntWalk.u8_in _ (by omega)
  have e3 : IntKind.i64.wrap (x % 30) = x % 30 := IntWalk.i64_in _ (by omega)
  have e4 : IntKind.i64.wrap (2 + x % 30) = (k : Int) := by rw [hk]; exact IntWalk.i64_in _ (by omega)
  have e5 : IntKind.i64.wrap (n : Int) = (n : Int) := IntWalk.i64_in _ (by omega)
  have HX := Aside0.mk (⟨hk2, hN3, hn, hN⟩ : _ ∧ _ ∧ _ ∧ _)
  clear hk hx0 hx1 hy0 hy1 hk2 hN3 hn hN
  have KN := Aside0.mk (tr_new 40 (by decide) (by decide) w w (Below.refl _ _))
  go_enter Try.func5, Try.ntmps5
  go_wp2_with fail
  refine KN.out.mono ?_
  rintro e w1 ⟨t, rfl, hT, b1⟩
  have T1 := Aside0.mk hT
  clear hT b1 KN
  go_wp2_with fail
  refine (awake_calls w1).mono ?_
  rintro e w2 ⟨rfl, b2⟩
  have T2 := Aside0.mk (T1.out.below b2)
  have KO := Aside0.mk (tr_open T2.out (by decide) 0 (k : Int) 0 1)
  clear b2 T1
  go_wp2_with fail
  have hk2 := HX.out.1
  have hfit0 : Fit (roomS k 0 0) := room_fit hk2.1 hk2.2 (by decide) (by decide) (by omega) (by decide)
  refine KO.out.mono ?_
  rintro e w3 ⟨b3, hp⟩
  rw [open_room k hk2.1 hk2.2, opened_new (by decide) (open_room k hk2.1 hk2.2)] at hp
  rcases hp with ⟨h, -⟩ | ⟨-, s, v, rfl, -, -, -, hsat⟩
  · cases h
  have R3 := Aside0.mk (⟨newV 40, hsat hfit0, FreeT.new 40⟩ : RoomAt w w3 s t k 0 0)
  clear b3 hsat hfit0 KO T2
  have hN3 := HX.out.2.1
  obtain ⟨n1, hn1⟩ : ∃ n1 : Nat, n + 107 = n1 := ⟨_, rfl⟩
  obtain ⟨q1, hq1⟩ : ∃ q1 : Nat, n1 / 108 = q1 := ⟨_, rfl⟩
  obtain ⟨q, hq⟩ : ∃ q : Nat, k / N = q := ⟨_, rfl⟩
  obtain ⟨r, hr⟩ : ∃ r : Nat, k % N = r := ⟨_, rfl⟩
  have hqr : q * N + r = k ∧ r < N := by
    rw [← hq, ← hr]
    exact ⟨by rw [Nat.mul_comm]; exact Nat.div_add_mod k N, Nat.mod_lt _ (by omega)⟩
  have hq31 : q ≤ 31 := by rw [← hq]; exact Nat.le_trans (Nat.div_le_self _ _) hk2.2
  have f1 : IntKind.i64.wrap ((n : Int) + 107) = (n1 : Int) := by rw [IntWalk.i64_in _ (by have := HX.out.2.2.1; omega)]; omega
  have f2 : Int.tdiv (n1 : Int) 108 = (q1 : Int) := by rw [Int.tdiv_eq_ediv_of_nonneg (by omega)]; omega
  have f3 : IntKind.i64.wrap (q1 : Int) = (q1 : Int) := IntWalk.i64_in _ (by have := HX.out.2.2.1; omega)
  have hmax : ∀ ats ty, Builtin.max_ ats ty #[.int .i64 1, .int .i64 (q1 : Int)] = pure (.int .i64 (N : Int)) := by
    intro ats ty
    rw [max_two, max2_int, pure_bind]
    congr 2
    have h1 := hN3.2.2
    split <;> omega
  have f4 : Int.tdiv (k : Int) (N : Int) = (q : Int) := by rw [Int.tdiv_eq_ediv_of_nonneg (by omega), ← hq]; exact (Int.natCast_ediv k N).symm
  have f5 : IntKind.i64.wrap (q : Int) = (q : Int) := IntWalk.i64_in _ (by omega)
  have f6 : Int.tmod (k : Int) (N : Int) = (r : Int) := by rw [Int.tmod_eq_emod_of_nonneg (by omega), ← hr]; exact (Int.natCast_emod k N).symm
  have f7 : IntKind.i64.wrap (r : Int) = (r : Int) := IntWalk.i64_in _ (by omega)
  have z0 : ((N : Int) == 0) = false := by simp; omega
  have z1 : ((N : Int) = 0) = False := eq_false (by omega)
  have z2 : (N = 0) = False := eq_false (by omega)
  have z3 : decide ((N : Int) = 0) = false := decide_eq_false (by omega)
  have z4 : (N == 0) = false := by simp; omega
  have HQ := Aside0.mk (⟨hqr, hq31, hN3.1, hN3.2.1⟩ : _ ∧ _ ∧ _ ∧ _)
  clear hk2 hN3 hn1 hq1 hq hr hqr hq31
  go_wp2_with fail
  clear f1 f2 f3 hmax
  go_loopw [52] (fun v52 wr => ∃ (j : Nat) (h : Int), v52 = .int .i64 (j : Int) ∧ Aside0 (j ≤ 2 ∧ 0 ≤ h ∧ h ≤ 100 * j) ∧ Aside0 (RoomAt w wr s t k h h)) (fun v52 _ => 2 - (intOf v52).toNat)
  case atStart => exact ⟨0, 0, rfl, ⟨by omega⟩, R3⟩
  case round =>
    obtain ⟨j, h, rfl, hj, hR⟩ := hrel
    by_cases hj2 : j < 2
    · have t1 : decide ((j : Int) < 2) = true := decide_eq_true (by omega)
      have t1n : decide (j < 2) = true := decide_eq_true hj2
      have hwj : IntKind.i64.wrap ((j : Int) + 1) = ((j + 1 : Nat) : Int) := by rw [show ((j : Int) + 1) = ((j + 1 : Nat) : Int) by omega]; exact IntWalk.i64_in _ (by omega)
      have HJ := Aside0.mk (⟨hj2, hj.out⟩ : _ ∧ _)
      have HW := Aside0.mk hwj
      obtain ⟨we, hwe⟩ : ∃ we, we = wr := ⟨_, rfl⟩
      subst hwe
      clear hj2 hwj hj
      go_wp2_with fail
      go_loopw [57] (fun v57 wr => ∃ (i : Nat), v57 = .int .i64 (i : Int) ∧ Aside0 (i ≤ q) ∧ Aside0 (RoomAt w wr s t k h (h + i * N))) (fun v57 _ => q - (intOf v57).toNat)
      case atStart => exact ⟨0, rfl, ⟨Nat.zero_le _⟩, ⟨by have := hR.out; rw [show h + ((0 : Nat) : Int) * N = h by simp]; exact this⟩⟩
      case round =>
        obtain ⟨i, rfl, hi, hI⟩ := hrel
        have hmul : i * N ≤ q * N := Nat.mul_le_mul_right N hi.out
        have hq9 := HQ.out
        have hj9 := HJ.out
        by_cases hi2 : i < q
        · have u1 : decide ((i : Int) < (q : Int)) = true := decide_eq_true (by omega)
          have u1n : decide (i < q) = true := decide_eq_true hi2
          have hwi : IntKind.i64.wrap ((i : Int) + 1) = ((i + 1 : Nat) : Int) := by rw [show ((i : Int) + 1) = ((i + 1 : Nat) : Int) by omega]; exact IntWalk.i64_in _ (by omega)
          have hmk := run_zeros n (by have := HX.out.2.2.1; omega)
          have hmul2 : (i + 1) * N ≤ q * N := Nat.mul_le_mul_right N hi2
          rw [Nat.add_mul, Nat.one_mul] at hmul2
          obtain ⟨p, hp⟩ : ∃ p : Nat, i * N = p := ⟨_, rfl⟩
          have hp' : (i : Int) * (N : Int) = (p : Int) := by rw [← hp]; exact (Int.natCast_mul i N).symm
          have KA := Aside0.mk (room_append hI.out ((Below.refl _ _).alloc (Nat.le_refl _) (.cells (numsA .u8 (List.replicate n 0)) TU8)) n (by have := HX.out.2.2.1; omega) (by have := HX.out.1; omega) wr.heap.size (Nat.le_refl _) (reads_zeros (by have := HX.out.2.2.1; omega)) N HX.out.2.2.2)
          have HI := Aside0.mk (⟨hi2, hmul2, hp, hp'⟩ : _ ∧ _ ∧ _ ∧ _)
          have HWI := Aside0.mk hwi
          generalize hZ : numsA .u8 (List.replicate n 0) = Z at *
          clear hi2 hmul hmul2 hp hp' hq9 hj9 hwi
          go_wp2_with fail
          refine KA.out.mono ?_
          rintro e w5 h5
          rcases h5 with ⟨rfl, -, h5⟩ | ⟨rfl, h6, -⟩
          · have R5 := Aside0.mk h5
            have hwi := HWI.out
            clear h5 KA
            go_wp2
            go_roundw
            case rel => exact ⟨i + 1, by first | rfl | (rw [HWI.out]) | go_num, ⟨HI.out.1⟩, ⟨by have := R5.out; rwa [show h + (i : Int) * N + N = h + ((i + 1 : Nat) : Int) * N by rw [Int.natCast_add, Int.add_mul]; omega] at this⟩⟩
            case measure => have := HI.out; simp [intOf, HWI.out]; omega
          · exfalso
            have h7 := HI.out
            have h8 := HQ.out
            have h9 := h7.2.2.2
            omega
        · have u1 : decide ((i : Int) < (q : Int)) = false := decide_eq_false (by omega)
          have u1n : decide (i < q) = false := decide_eq_false hi2
          obtain rfl : i = q := by have := hi.out; omega
          have hp' : (i : Int) * (N : Int) = ((k - r : Nat) : Int) := by
            have : i * N = k - r := by omega
            rw [← this]; exact (Int.natCast_mul i N).symm
          obtain ⟨tl, htl⟩ : ∃ tl, h + (i : Int) * N = tl := ⟨_, rfl⟩
          rw [htl] at hI
          have htk : tl - h = (k : Int) - r := by omega
          have htb : tl ≤ 100 * (j + 1) := by have := HX.out.1; omega
          have HT := Aside0.mk (⟨htk, htb⟩ : _ ∧ _)
          have RR := Aside0.mk (hI.out.below (Below.refl _ _).drew)
          have KA := Aside0.mk (room_append RR.out ((Below.refl _ _).alloc (Nat.le_refl _) (.cells (numsA .u8 (List.replicate n 0)) TU8)) n (by have := HX.out.2.2.1; omega) (by have := HJ.out; omega) wr.drew.heap.size (Nat.le_refl _) (reads_zeros (by have := HX.out.2.2.1; omega)) N HX.out.2.2.2)
          have KM := Aside0.mk (run_zeros n (by have := HX.out.2.2.1; omega) wr.drew)
          have HR9 := Aside0.mk (show (k : Int) - (tl - h) = (r : Int) by omega)
          have HRN := Aside0.mk (show (k : Int) - (tl - h) < (N : Int) by omega)
          generalize hZ : numsA .u8 (List.replicate n 0) = Z at *
          clear hmul hq9 hj9 hi2 htl htk htb hp' hi
          go_wp2_with fail
          have hW0 : (match (0 : Nat) with | 0 => wr.drew = wr.drew | 1 => wr.drew = wr.drew.alloc (.cells Z TU8) | _ => RoomAt w wr.drew s t k h tl) := rfl
          refine Qy.wp_region_all (fun _ _ => True) (fun _ _ _ _ => True) (fun f _ u => (f = 20 → u = .int .i64 3) ∧ (f = 21 → u = .int .i64 (r : Int))) (fun p w' => match p with | 0 => w' = wr.drew | 1 => w' = wr.drew.alloc (.cells Z TU8) | _ => RoomAt w w' s t k h tl) [2, 3, 5, 7] (by kernel_rfl) (by kernel_rfl) hW0 ?_
          iterate 2 ((with_reducible refine Qy.y_val ⟨fun _ _ _ hF h w' h1 h2 => h w' h1 fun k => hF k _ (h2 k)⟩ ?_ ?_ ?_ ?_ ?_); (focus (first | exact fun _ => Only.refl _ _ | exact fun _ => Below.refl _ _ | exact fun _ => trivial)); (focus (exact fun _ => trivial)); (focus (first | rfl | decide)); (first | (focus (exact Qy.wanted_none rfl)) | (focus (exact Qg.wanted_on rfl rfl rfl))); apply Exists.intro; refine ⟨?_, ?_⟩; (focus (intro p' w' hw' hp'; skip; go_simp; (first | done | (with_reducible rfl)))); intro K hK; go_simp; (first | (with_reducible refine hK _ ?_) | (refine hK _ ?_)); clear hK K)
          ((with_reducible refine Qy.y_put 0 (.slice (some ⟨wr.drew.heap.size, 0, none⟩) n n) ⟨fun _ _ _ hF h w' h1 h2 => h w' h1 fun k => hF k _ (h2 k)⟩ ?_ ?_ ?_ ?_); (focus (exact fun _ => trivial)); (focus (first | rfl | decide)); (first | (focus (exact Qy.wanted_none rfl)) | (focus (exact Qg.wanted_on rfl rfl rfl))); refine ⟨?_, ?_⟩; (focus (intro w' hw' hp'; obtain rfl : w' = wr.drew := hw'; refine ⟨wr.drew.alloc (.cells Z TU8), ?_, trivial, rfl⟩; have hkm := KM.out; unfold execOp; simp only [Act.eval, Act.put]; go_simp)); intro K hK; go_simp; (first | (with_reducible refine hK _ ?_) | (refine hK _ ?_)); clear hK K)
          ((with_reducible refine Qy.y_turn 1 ?_ ?_ ?_); (focus (first | rfl | decide)); (first | (focus (exact Qy.wanted_none rfl)) | (focus (exact Qg.wanted_on rfl rfl rfl))); apply Exists.intro; apply Exists.intro; refine ⟨?_, ?_, ?_, ?_, ?_⟩; (focus (intro w'; go_simp; (first | rfl | exact ⟨rfl, rfl⟩))); (focus (exact ⟨.int .i64 3, fun _ => rfl, fun h => absurd h (by decide)⟩)); (focus (exact fun u w1 w2 h hb => trivial)); (focus (intro w' hw' hp'; obtain rfl : w' = wr.drew.alloc (.cells Z TU8) := hw'; refine (KA.out).mono ?_; rintro e w8 h8; rcases h8 with ⟨-, h9, -⟩ | ⟨rfl, -, h9⟩; (focus (exfalso; have := HRN.out; omega)); exact ⟨_, rfl, trivial, h9, ⟨fun _ => rfl, fun h => absurd h (by decide)⟩, trivial⟩)); rintro u8 hu8; intro K hK; go_simp; (first | (with_reducible refine hK _ ?_) | (refine hK _ ?_)); clear hK K)
          obtain rfl := hu8.1 rfl
          clear hu8
          ((with_reducible refine Qy.y_val ⟨fun _ _ _ hF h w' h1 h2 => h w' h1 fun k => hF k _ (h2 k)⟩ ?_ ?_ ?_ ?_ ?_); (focus (first | exact fun _ => Only.refl _ _ | exact fun _ => Below.refl _ _ | exact fun _ => trivial)); (focus (exact fun _ => trivial)); (focus (first | rfl | decide)); (first | (focus (exact Qy.wanted_none rfl)) | (focus (exact Qg.wanted_on rfl rfl rfl))); apply Exists.intro; refine ⟨?_, ?_⟩; (focus (intro p' w' hw' hp'; skip; go_simp; (first | done | (with_reducible rfl)))); intro K hK; go_simp; (first | (with_reducible refine hK _ ?_) | (refine hK _ ?_)); clear hK K)
          ((with_reducible refine Qy.y_pass 2 ⟨fun _ _ _ hF h w' h1 h2 => h w' h1 fun k => hF k _ (h2 k)⟩ ?_ ?_ ?_ ?_ ?_ ?_); (focus (first | exact fun _ => Only.refl _ _ | exact fun _ => Below.refl _ _ | exact fun _ => trivial)); (focus (exact fun _ => trivial)); (focus (first | rfl | decide)); (first | (focus (exact Qy.wanted_none rfl)) | (focus (exact Qg.wanted_on rfl rfl rfl))); (focus (intro w' hw'; exact hw')); apply Exists.intro; refine ⟨?_, ?_⟩; (focus (intro w' hw' hp'; skip; go_simp; (first | done | (with_reducible rfl)))); intro K hK; go_simp; (first | (with_reducible refine hK _ ?_) | (refine hK _ ?_)); clear hK K)
          ((with_reducible refine Qy.y_val ⟨fun _ _ _ hF h w' h1 h2 => h w' h1 fun k => hF k _ (h2 k)⟩ ?_ ?_ ?_ ?_ ?_); (focus (first | exact fun _ => Only.refl _ _ | exact fun _ => Below.refl _ _ | exact fun _ => trivial)); (focus (exact fun _ => trivial)); (focus (first | rfl | decide)); (first | (focus (exact Qy.wanted_none rfl)) | (focus (exact Qg.wanted_on rfl rfl rfl))); apply Exists.intro; refine ⟨?_, ?_⟩; (focus (intro p' w' hw' hp'; skip; go_simp; (first | done | (with_reducible rfl)))); intro K hK; go_simp; (first | (with_reducible refine hK _ ?_) | (refine hK _ ?_)); clear hK K)
          ((with_reducible refine Qy.y_turn 3 ?_ ?_ ?_); (focus (first | rfl | decide)); (first | (focus (exact Qy.wanted_none rfl)) | (focus (exact Qg.wanted_on rfl rfl rfl))); apply Exists.intro; apply Exists.intro; refine ⟨?_, ?_, ?_, ?_, ?_⟩; (focus (intro w'; go_simp; (first | rfl | exact ⟨rfl, rfl⟩))); (focus (exact ⟨.int .i64 (r : Int), fun h => absurd h (by decide), fun _ => rfl⟩)); (focus (exact fun u w1 w2 h hb => trivial)); (focus (intro w' hw' hp'; have hR9 : RoomAt w w' s t k h tl := hw'; obtain ⟨V9, hS9, hV9⟩ := hR9; refine (sat_room hS9).mono ?_; rintro e w8 ⟨rfl, b8⟩; exact ⟨_, rfl, trivial, RoomAt.below ⟨V9, hS9, hV9⟩ b8, ⟨fun h => absurd h (by decide), fun _ => by show Value.int .i64 ((k : Int) - (tl - h)) = _; rw [HR9.out]⟩, trivial⟩)); rintro u8 hu8; intro K hK; go_simp; (first | (with_reducible refine hK _ ?_) | (refine hK _ ?_)); clear hK K)
          obtain rfl := hu8.2 rfl
          clear hu8
          iterate 5 ((with_reducible refine Qy.y_val ⟨fun _ _ _ hF h w' h1 h2 => h w' h1 fun k => hF k _ (h2 k)⟩ ?_ ?_ ?_ ?_ ?_); (focus (first | exact fun _ => Only.refl _ _ | exact fun _ => Below.refl _ _ | exact fun _ => trivial)); (focus (exact fun _ => trivial)); (focus (first | rfl | decide)); (first | (focus (exact Qy.wanted_none rfl)) | (focus (exact Qg.wanted_on rfl rfl rfl))); apply Exists.intro; refine ⟨?_, ?_⟩; (focus (intro p' w' hw' hp'; skip; go_simp; (first | done | (with_reducible rfl)))); intro K hK; go_simp; (first | (with_reducible refine hK _ ?_) | (refine hK _ ?_)); clear hK K)
          ((with_reducible refine Qy.y_nil ?_); intro w' hw' hf')
          have hRE : RoomAt w w' s t k h tl := hw'
          obtain ⟨V9, hS9, hV9⟩ := hRE
          have KC := Aside0.mk (sat_cut hS9)
          have HV9 := Aside0.mk hV9
          clear hw' hf' hS9 hV9 KA KM hW0
          go_wp2_with fail
          refine KC.out.mono ?_
          rintro e w9 ⟨rfl, hS⟩
          have R9 := Aside0.mk (⟨V9, hS, HV9.out⟩ : RoomAt w w9 s t k tl tl)
          have hwj := HW.out
          clear hS KC
          go_wp2
          go_roundw
          case rel => exact ⟨j + 1, tl, by first | rfl | (rw [HW.out]) | go_num, ⟨by have := HJ.out; have := HT.out; have := HQ.out; omega⟩, R9⟩
          case measure => have := HJ.out; simp [intOf, HW.out]; omega
    · have t1 : decide ((j : Int) < 2) = false := decide_eq_false (by omega)
      have t1n : decide (j < 2) = false := decide_eq_false hj2
      obtain ⟨V9, hS9, hV9⟩ := hR.out
      have KR := Aside0.mk (sat_room hS9)
      rw [show roomV (roomS k h h) = (k : Int) by show (k : Int) - (h - h) = k; omega] at KR
      have hS9 := Aside0.mk hS9
      clear hj2 hR
      go_wp2_with fail
      refine KR.out.mono ?_
      rintro e w5 ⟨rfl, b5⟩
      have hmk : ∀ w, (Instr.makeSlice TSl (.int .i64 60001) (.int .i64 60001)).run Try.prog w = .ok (.slice (some ⟨w.heap.size, 0, none⟩) 60001 60001) (w.alloc (.cells (numsA .u8 (List.replicate 60001 0)) TU8)) := fun w => run_zeros 60001 (by decide) w
      have KA := Aside0.mk (sat_append (hS9.out.below b5) ((Below.refl _ _).alloc (Nat.le_refl _) (.cells (numsA .u8 (List.replicate 60001 0)) TU8)) (by rw [hV9.cache]; decide) (by show h ≤ _; have := hj.out; omega) (List.replicate 60001 0) (some ⟨w5.heap.size, 0, none⟩) 60001 60001 (Bytes.zeros _) (Nat.le_refl _) (reads_zeros (by decide)) (fun ad e _ => by cases e; exact .inr (Nat.le_refl _)) (by decide))
      rw [append_long (by rw [List.length_replicate]; decide)] at KA
      generalize hZ : numsA .u8 (List.replicate 60001 0) = Z at *
      clear b5 KR hV9
      go_wp2_with fail
      refine KA.out.mono ?_
      rintro e w6 ⟨rfl, h6⟩
      have B6 := Aside0.mk h6.low
      clear h6 KA
      go_wp2
      go_ret
      exact ⟨rfl, B6.out⟩
end Go.Proofs.Ytddhngalokmdoaa.Spo
