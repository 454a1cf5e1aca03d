/- The laws' walks. -/
import Derived.Test.YtlhapohpedihjaaDoorShaEq
namespace Go.Proofs.YtlhapohpedihjaaDoor.Sha
open Go.RowKit Go.Proofs.YtlhapohpedihjaaDoorW.PrintWords Go.Proofs.YtlhapohpedihjaaDoorW.PrintLast Go.Proofs.YtlhapohpedihjaaDoorW.PrintMore Go.Proofs.YtlhapohpedihjaaDoor.Arr
set_option linter.unusedVariables false
set_option linter.unusedSimpArgs false

theorem row_empty {W : World} {B : Nat} (h : B ≤ W.heap.size) : Row (W.alloc (.cells #[] 5)) B 5 .u8 (.slice (some ⟨W.heap.size, 0, none⟩) 0 0) [] := by
  refine Row.lit (cs := #[]) (xs := []) rfl h ?_ rfl ?_ <;> simp [nums]

set_option maxRecDepth 100000 in
set_option maxHeartbeats 4000000 in
theorem lawDigests_calls (A : Option Addr) (cap : Nat) (bs : List Int) (hb8 : Bytes bs) (hcap : bs.length ≤ cap) (w : World) (hr : ReadsInt w .u8 A bs.length bs) (hg : 2 ≤ w.heap.size) (hs : Cells w 0 (numsA .u32 start.list)) (hk : Cells w 1 (numsA .u32 keysI)) :
    Calls Tryd.prog 3 #[.slice A bs.length cap] w fun e w' => e = .returned (.bool true) ∧ Below w.heap.size w w' := by
  have H8 := Aside0.mk hb8
  have HR := Aside0.mk hr
  have HS := Aside0.mk hs
  have HK := Aside0.mk hk
  clear hb8 hr hs hk
  go_enter Tryd.func3, Tryd.ntmps3
  have hb := Below.refl w.heap.size w
  have tok1 : True := trivial
  by_cases hbig : 600 < bs.length
  · have t1 : decide ((bs.length : Int) > 600) = true := by simp; omega
    go_wp2_with (first
      | (go_at_call 7; have _t := tok1; refine (awake_calls _ hg HS.out HK.out).mono ?_; rintro e w1 ⟨rfl, hb1⟩; clear _t tok1)
      | (go_at_call 7; refine (awake_calls _ (Nat.le_trans hg hb1.size) (HS.out.below hb1) (HK.out.below hb1)).mono ?_; rintro e w2 ⟨rfl, hb2⟩))
    go_ret
    exact ⟨rfl, hb1.trans (hb2.mono hb1.size)⟩
  · have t1 : decide ((bs.length : Int) > 600) = false := by simp; omega
    have eqd := eq32 (digL bs) (digL bs) (digL_length _) (digL_length _) (digL_bytes _) (digL_bytes _)
    have tok2 : True := trivial
    go_wp2_with (first
      | (go_at_call 7; refine (awake_calls _ hg HS.out HK.out).mono ?_; rintro e w1 ⟨rfl, hb1⟩; replace hb := hb1; clear hb1)
      | (at_builtin; have q1 := hb.size; have q2 : Row (w1.alloc (.cells #[] 5)) w.heap.size 5 .u8 (.slice (some ⟨w1.heap.size, 0, none⟩) 0 0) [] := row_empty q1; have q3 := HR.out.below (hb.alloc q1 (.cells #[] 5)); have q5 : w.heap.size ≤ (w1.alloc (.cells #[] 5)).heap.size := (by rw [World.size_alloc]; omega); have q6 : ([] : List Int).length + bs.length ≤ 140737488355328 := (by rw [List.length_nil]; omega); go_must (refine app8 (w0 := w) w.heap.size rfl _ _ rfl (.slice (some ⟨w1.heap.size, 0, none⟩) 0 0) [] bs A bs.length cap rfl rfl q2 q3 (hb.alloc q1 _) q5 q6 ?_); intro v1 w1' hv hb' hg' hat'; rw [List.nil_append] at hv; replace hb := hb'; clear hg' hat' q1 q2 q3 q5 q6 hb'; obtain ⟨Aa, ca, rfl, hra⟩ := hv.reads; have lca : bs.length ≤ ca := hv.cap_le; have RA := Aside0.mk hra; clear hra hv)
      | (go_at_call 8; go_must (refine (digest_calls Aa ca bs H8.out lca (by omega) _ RA.out (Nat.le_trans hg hb.size) (HS.out.below hb) (HK.out.below hb)).mono ?_); rintro e w2 ⟨rfl, hb2⟩; have RA2 := Aside0.mk (RA.out.below hb2); replace hb := hb.trans (hb2.mono hb.size); clear hb2)
      | (go_at_call 9; go_must (refine (ref_digest_calls A cap bs H8.out hcap (by omega) _ (HR.out.below hb)).mono ?_); rintro e w3 ⟨rfl, hb3⟩; have RA3 := RA2.out.below hb3; replace hb := hb.trans (hb3.mono hb.size); have st1 := string_of_reads (P := Tryd.prog) (c := ca) Tryd.underlying22 Tryd.underlying5 Tryd.underlying9 RA3; have st2 := string_of_reads (P := Tryd.prog) (c := cap) Tryd.underlying22 Tryd.underlying5 Tryd.underlying9 (HR.out.below hb); clear hb3))
    go_ret
    exact ⟨rfl, hb⟩
end Go.Proofs.YtlhapohpedihjaaDoor.Sha
