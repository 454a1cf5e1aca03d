/- awake is true. -/
import Derived.Test.YtlhapohpedihjaaDoorShaSeal
import Derived.Test.YtlhapohpedihjaaDoorShaEval
import Derived.Lib.SmallJoins
namespace Go.Proofs.YtlhapohpedihjaaDoor.Sha
open Go.RowKit Go.Proofs.YtlhapohpedihjaaDoorW.PrintWords Go.Proofs.YtlhapohpedihjaaDoorW.PrintLast Go.Proofs.YtlhapohpedihjaaDoorW.PrintMore Go.Proofs.YtlhapohpedihjaaDoor.Arr
set_option linter.unusedVariables false
set_option linter.unusedSimpArgs false

theorem take_at (l m : List Int) (h : l.take 4 = m) (i : Nat) (hi : i < 4) : l.getD i 0 = m.getD i 0 := by
  rw [← h]
  simp [List.getD, List.getElem?_take, hi]
theorem head_at (w : World) (g : Nat) (l m : List Int) (hl : l.length = 32) (h : l.take 4 = m) (hb : Blk w g 24 (numsA .u8 l)) (i : Nat) (hi : i < 4) : w.cell? ⟨g, i, none⟩ = some (.int .u8 (m.getD i 0)) := by
  rw [← take_at l m h i hi]
  exact (hb.cell i).trans (numsA_get _ _ i (by omega))
theorem seal_at (A : Option Addr) (n cap : Nat) (ks : List Int) (hn : ks.length = n) (hk8 : Bytes ks) (hkc : n ≤ cap) (hks : n ≤ 140737488351232) (B : Option Addr) (m bc : Nat) (bs : List Int) (hm : bs.length = m) (hb8 : Bytes bs) (hbc : m ≤ bc) (hbs : m ≤ 140737488351000)
    (w : World) (hr : ReadsInt w .u8 A n ks) (hrb : ReadsInt w .u8 B m bs) (hg : 2 ≤ w.heap.size) (hs : Cells w 0 (numsA .u32 start.list)) (hk : Cells w 1 (numsA .u32 keysI)) :
    Calls Tryd.prog 10 #[.slice A n cap, .slice B m bc] w fun e w' => e = .returned (.agg (numsA .u8 (sealL ks bs))) ∧ Below w.heap.size w w' := by
  subst hn hm
  exact seal_calls A cap ks hk8 hkc hks B bc bs hb8 hbc hbs w hr hrb hg hs hk
theorem jefe8 : Bytes jefe := by unfold Bytes jefe; decide
theorem what8 : Bytes what := by unfold Bytes what; decide
theorem reads_lit {w W : World} (h : Below w.heap.size w W) (xs : List Int) (cs : Array Value) (hcs : cs = numsA .u8 xs) (g : Nat) (hg : g = W.heap.size) (hx : xs.length ≤ 9223372036854775807) : ReadsInt (W.alloc (.cells cs 5)) .u8 (some ⟨g, 0, none⟩) xs.length xs := by
  subst hcs hg
  exact (Blk.new W 5 (numsA .u8 xs)).readsNums hx

theorem reads_mark (W : World) (g : Nat) (hg : g = W.heap.size) (xs : List Int) (fr : Nat × Nat) (hx : xs.length ≤ 9223372036854775807) : ReadsInt (W.alloc (.cells (numsA .u8 xs) 5 fr)) .u8 (some ⟨g, 0, none⟩) xs.length xs := by
  refine ⟨rfl, hx, fun _ => ⟨_, rfl, fun j hj => ?_⟩⟩
  rw [add_plain, Go.Joins.cell_alloc_mark_at W _ _ _ _ _ hg]
  exact numsA_get _ _ j hj
theorem conv1 (w : World) : (convert 22 22 (.slice (some ⟨w.heap.size, 0, none⟩) 4 4)).run Tryd.prog (w.alloc (.cells #[.int .u8 74, .int .u8 101, .int .u8 102, .int .u8 101] 5)) = .ok (.slice (some ⟨w.heap.size, 0, none⟩) 4 4) (w.alloc (.cells (numsA .u8 jefe) 5 (4, 5))) :=
  Go.Joins.run_convert_bytes_const_at w _ _ (numsA .u8 jefe) 4 4 _ rfl Tryd.underlying22 Tryd.underlying5
theorem conv2 (w : World) (g : Nat) (hg : g = w.heap.size) : (convert 22 22 (.slice (some ⟨g, 0, none⟩) 28 28)).run Tryd.prog (w.alloc (.cells #[.int .u8 119, .int .u8 104, .int .u8 97, .int .u8 116, .int .u8 32, .int .u8 100, .int .u8 111, .int .u8 32, .int .u8 121, .int .u8 97, .int .u8 32, .int .u8 119, .int .u8 97, .int .u8 110, .int .u8 116, .int .u8 32, .int .u8 102, .int .u8 111, .int .u8 114, .int .u8 32, .int .u8 110, .int .u8 111, .int .u8 116, .int .u8 104, .int .u8 105, .int .u8 110, .int .u8 103, .int .u8 63] 5)) = .ok (.slice (some ⟨g, 0, none⟩) 28 28) (w.alloc (.cells (numsA .u8 what) 5 (28, 29))) :=
  Go.Joins.run_convert_bytes_const_at w _ _ (numsA .u8 what) 28 28 g hg Tryd.underlying22 Tryd.underlying5

set_option maxRecDepth 100000 in
set_option maxHeartbeats 4000000 in
theorem awake_calls (w : World) (hg : 2 ≤ w.heap.size) (hs : Cells w 0 (numsA .u32 start.list)) (hk : Cells w 1 (numsA .u32 keysI)) :
    Calls Tryd.prog 7 #[] w fun e w' => e = .returned (.bool true) ∧ Below w.heap.size w w' := by
  have HS := Aside0.mk hs
  have HK := Aside0.mk hk
  clear hs hk
  go_enter Tryd.func7, Tryd.ntmps7
  go_wp2_with (first
    | (go_at_call 8; refine (digest_at none 0 0 [] rfl (fun x h => by cases h) (Nat.le_refl _) (by decide) _ ⟨rfl, by decide, fun h => absurd h (by decide)⟩ hg HS.out HK.out).mono ?_; rintro e w1 ⟨rfl, hb1⟩; have cv1 := conv1 w1; have cv2 := conv2 (w1.alloc (.cells (numsA .u8 jefe) 5 (4, 5))) (w1.heap.size + 1) (by simp))
    | (go_at_call 10; have q0 := hb1.size; have q1 : Below w.heap.size w (w1.alloc (.cells (numsA .u8 jefe) 5 (4, 5))) := hb1.alloc q0 _; have q2 : Below w.heap.size w ((w1.alloc (.cells (numsA .u8 jefe) 5 (4, 5))).alloc (.cells (numsA .u8 what) 5 (28, 29))) := q1.alloc (by rw [World.size_alloc]; omega) _; have r1 := reads_mark w1 _ rfl jefe (4, 5) (by decide); have r2 := r1.below (below_alloc (Below.refl _ _) (.cells (numsA .u8 what) 5 (28, 29))); have r3 := reads_mark (w1.alloc (.cells (numsA .u8 jefe) 5 (4, 5))) (w1.heap.size + 1) (by simp) what (28, 29) (by decide); have q3 : 2 ≤ ((w1.alloc (.cells (numsA .u8 jefe) 5 (4, 5))).alloc (.cells (numsA .u8 what) 5 (28, 29))).heap.size := (by rw [World.size_alloc, World.size_alloc]; omega); go_must (refine (seal_at _ 4 4 jefe rfl jefe8 (by decide) (by decide) _ 28 28 what rfl what8 (by decide) (by decide) _ r2 r3 q3 (HS.out.below q2) (HK.out.below q2)).mono ?_); rintro e w2 ⟨rfl, hb2⟩; have hb := q2.trans (hb2.mono q2.size); have x1 := ((Blk.newAt (T := 24) (w := w2) (cs := (numsA .u8 (zeros 32))) rfl).alloc (.cells (numsA .u8 (zeros 32)) 24)); have x2 := ((Blk.newAt (w := w2.alloc (.cells (numsA .u8 (zeros 32)) 24)) (g := w2.heap.size + 1) (T := 24) (cs := (numsA .u8 (zeros 32))) (by simp)).rowFar (k := w2.heap.size) (by omega) (numsA .u8 (digL []))); have y1 := (x1.row (numsA .u8 (digL []))).rowFar (k := w2.heap.size + 1) (by omega) (numsA .u8 (sealL jefe what)); have y2 := x2.row (numsA .u8 (sealL jefe what)); have hz := hb.size; have hbW := below_setRow (below_setRow ((hb.alloc hz (.cells (numsA .u8 (zeros 32)) 24)).alloc (by rw [World.size_alloc]; omega) (.cells (numsA .u8 (zeros 32)) 24)) hz (numsA .u8 (digL []))) (g := w2.heap.size + 1) (by omega) (numsA .u8 (sealL jefe what)); have c10 := head_at _ _ _ _ (digL_length _) empty_digest y1 0 (by decide); rw [show ([227, 176, 196, 66] : List Int).getD 0 0 = 227 from rfl] at c10; have c11 := head_at _ _ _ _ (digL_length _) empty_digest y1 1 (by decide); rw [show ([227, 176, 196, 66] : List Int).getD 1 0 = 176 from rfl] at c11; have c12 := head_at _ _ _ _ (digL_length _) empty_digest y1 2 (by decide); rw [show ([227, 176, 196, 66] : List Int).getD 2 0 = 196 from rfl] at c12; have c13 := head_at _ _ _ _ (digL_length _) empty_digest y1 3 (by decide); rw [show ([227, 176, 196, 66] : List Int).getD 3 0 = 66 from rfl] at c13; have c20 := head_at _ _ _ _ (sealL_length _ _) jefe_seal y2 0 (by decide); rw [show ([91, 220, 193, 70] : List Int).getD 0 0 = 91 from rfl] at c20; have c21 := head_at _ _ _ _ (sealL_length _ _) jefe_seal y2 1 (by decide); rw [show ([91, 220, 193, 70] : List Int).getD 1 0 = 220 from rfl] at c21; have c22 := head_at _ _ _ _ (sealL_length _ _) jefe_seal y2 2 (by decide); rw [show ([91, 220, 193, 70] : List Int).getD 2 0 = 193 from rfl] at c22; have c23 := head_at _ _ _ _ (sealL_length _ _) jefe_seal y2 3 (by decide); rw [show ([91, 220, 193, 70] : List Int).getD 3 0 = 70 from rfl] at c23; clear cv1 cv2 hb1 hb2 q0 q1 q2 q3 r1 r2 r3)
    | (with_reducible refine wpList_alloc_agg rfl 24 _ rfl zero32 ?_)
    | (with_reducible refine wpList_store_blk rfl 24 (.tmp 1) _ rfl _ _ rfl rfl info32 (by rw [numsA_size, digL_length]) (numsA_one _ _) x1 (by rw [numsA_size, zeros_length]) ?_; have tokS : True := trivial)
    | (have _t := tokS; go_must (refine wpList_store_blk rfl 24 (.tmp 2) (.tmp 8) rfl (w2.heap.size + 1) (numsA .u8 (sealL jefe what)) (by simp [Act.eval, Act.put]) rfl info32 (by rw [numsA_size, sealL_length]) (numsA_one _ _) x2 (by rw [numsA_size, zeros_length]) ?_); clear _t tokS))
  go_ret
  exact ⟨rfl, hbW⟩
end Go.Proofs.YtlhapohpedihjaaDoor.Sha
