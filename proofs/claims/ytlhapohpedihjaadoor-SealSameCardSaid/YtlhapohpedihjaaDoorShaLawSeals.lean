/- The law SealSeals: its walk. -/
import Derived.Test.YtlhapohpedihjaaDoorShaLaws
namespace Go.Proofs.YtlhapohpedihjaaDoor.Sha
open Go.RowKit Go.Proofs.YtlhapohpedihjaaDoorW.PrintWords Go.Proofs.YtlhapohpedihjaaDoorW.PrintLast Go.Proofs.YtlhapohpedihjaaDoorW.PrintMore Go.Proofs.YtlhapohpedihjaaDoor.Arr
set_option linter.unusedVariables false
set_option linter.unusedSimpArgs false

theorem sealL_bytes (a b : List Int) : Bytes (sealL a b) := digL_bytes _

theorem seal_as (L : List Int) (A : Option Addr) (cap : Nat) (ks : List Int) (hk8 : Bytes ks) (hkc : ks.length ≤ cap) (hks : ks.length ≤ 300) (B : Option Addr) (bc : Nat) (bs : List Int) (hb8 : Bytes bs) (hbc : bs.length ≤ bc) (hbs : bs.length ≤ 300) (hL : L = sealL ks bs)
    (w : World) (hr : ReadsInt w .u8 A ks.length ks) (hrb : ReadsInt w .u8 B bs.length bs) (hg : 2 ≤ w.heap.size) (hs : Cells w 0 (numsA .u32 start.list)) (hk : Cells w 1 (numsA .u32 keysI)) :
    Calls Tryd.prog 10 #[.slice A ks.length cap, .slice B bs.length bc] w fun e w' => e = .returned (.agg (numsA .u8 L)) ∧ Below w.heap.size w w' := by
  rw [hL]
  exact seal_calls A cap ks hk8 hkc (by omega) B bc bs hb8 hbc (by omega) w hr hrb hg hs hk
theorem ref_seal_as (L : List Int) (A : Option Addr) (cap : Nat) (ks : List Int) (hk8 : Bytes ks) (hkc : ks.length ≤ cap) (hks : ks.length ≤ 300) (B : Option Addr) (bc : Nat) (bs : List Int) (hb8 : Bytes bs) (hbc : bs.length ≤ bc) (hbs : bs.length ≤ 300) (hL : L = sealL ks bs)
    (w : World) (hr : ReadsInt w .u8 A ks.length ks) (hrb : ReadsInt w .u8 B bs.length bs) :
    Calls Tryd.prog 11 #[.slice A ks.length cap, .slice B bs.length bc] w fun e w' => e = .returned (.agg (numsA .u8 L)) ∧ Below w.heap.size w w' := by
  rw [hL]
  exact ref_seal_calls A cap ks hk8 hkc (by omega) B bc bs hb8 hbc (by omega) w hr hrb

set_option maxRecDepth 100000 in
set_option maxHeartbeats 4000000 in
theorem lawSeals_calls (A : Option Addr) (cap : Nat) (ks : List Int) (hk8 : Bytes ks) (hkc : ks.length ≤ cap) (B : Option Addr) (bc : Nat) (bs : List Int) (hb8 : Bytes bs) (hbc : bs.length ≤ bc) (w : World) (hr : ReadsInt w .u8 A ks.length ks) (hrb : ReadsInt w .u8 B bs.length bs) (hg : 2 ≤ w.heap.size) (hs : Cells w 0 (numsA .u32 start.list)) (hk : Cells w 1 (numsA .u32 keysI)) :
    Calls Tryd.prog 4 #[.slice A ks.length cap, .slice B bs.length bc] w fun e w' => e = .returned (.bool true) ∧ Below w.heap.size w w' := by
  have K8 := Aside0.mk hk8
  have B8 := Aside0.mk hb8
  have HR := Aside0.mk hr
  have HRB := Aside0.mk hrb
  have HS := Aside0.mk hs
  have HK := Aside0.mk hk
  clear hk8 hb8 hr hrb hs hk
  go_enter Tryd.func4, Tryd.ntmps4
  have hb := Below.refl w.heap.size w
  have tok1 : True := trivial
  by_cases hbig : 300 < ks.length
  · have t1 : decide ((ks.length : Int) > 300) = true := by simp; omega
    go_wp2_with (first
      | (go_at_call 7; have _t := tok1; refine (awake_calls _ hg HS.out HK.out).mono ?_; rintro e w1 ⟨rfl, hb1⟩; clear _t tok1)
      | (go_at_call 7; refine (awake_calls _ (Nat.le_trans hg hb1.size) (HS.out.below hb1) (HK.out.below hb1)).mono ?_; rintro e w2 ⟨rfl, hb2⟩))
    go_ret
    exact ⟨rfl, hb1.trans (hb2.mono hb1.size)⟩
  have t1 : decide ((ks.length : Int) > 300) = false := by simp; omega
  by_cases hbig' : 300 < bs.length
  · have t2 : decide ((bs.length : Int) > 300) = true := by simp; omega
    go_wp2_with (first
      | (go_at_call 7; have _t := tok1; refine (awake_calls _ hg HS.out HK.out).mono ?_; rintro e w1 ⟨rfl, hb1⟩; clear _t tok1)
      | (go_at_call 7; refine (awake_calls _ (Nat.le_trans hg hb1.size) (HS.out.below hb1) (HK.out.below hb1)).mono ?_; rintro e w2 ⟨rfl, hb2⟩))
    go_ret
    exact ⟨rfl, hb1.trans (hb2.mono hb1.size)⟩
  · have t2 : decide ((bs.length : Int) > 300) = false := by simp; omega
    obtain ⟨L, hL, hL1, hL2⟩ : ∃ L, L = sealL ks bs ∧ L.length = 32 ∧ Bytes L := ⟨_, rfl, sealL_length _ _, sealL_bytes _ _⟩
    have eqd := eq32 L L hL1 hL1 hL2 hL2
    have HL := Aside0.mk hL
    clear hL hL1 hL2
    have n1 : ks.length ≤ 300 := by omega
    have n2 : bs.length ≤ 300 := by omega
    go_wp2_with (first
      | (go_at_call 7; refine (awake_calls _ hg HS.out HK.out).mono ?_; rintro e w1 ⟨rfl, hb1⟩; replace hb := hb1; clear hb1)
      | (at_builtin; have q1 := hb.size; have q2 : Row (w1.alloc (.cells #[] 5)) w.heap.size 5 .u8 (.slice (some ⟨w1.heap.size, 0, none⟩) 0 0) [] := row_empty q1; have q3 := HR.out.below (hb.alloc q1 (.cells #[] 5)); have q5 : w.heap.size ≤ (w1.alloc (.cells #[] 5)).heap.size := (by rw [World.size_alloc]; omega); have q6 : ([] : List Int).length + ks.length ≤ 140737488355328 := (by rw [List.length_nil]; omega); go_must (refine app8 (w0 := w) w.heap.size rfl _ _ rfl (.slice (some ⟨w1.heap.size, 0, none⟩) 0 0) [] ks A ks.length cap rfl rfl q2 q3 (hb.alloc q1 _) q5 q6 ?_); intro v1 w1' hv hb' hg' hat'; rw [List.nil_append] at hv; replace hb := hb'; clear hg' hat' q1 q2 q3 q5 q6 hb'; obtain ⟨Aa, ca, rfl, hra⟩ := hv.reads; have lca : ks.length ≤ ca := hv.cap_le; have RA := Aside0.mk hra; clear hra hv)
      | (go_at_call 10; go_must (refine (seal_as L Aa ca ks K8.out lca n1 B bc bs B8.out hbc n2 HL.out _ RA.out (HRB.out.below hb) (Nat.le_trans hg hb.size) (HS.out.below hb) (HK.out.below hb)).mono ?_); rintro e w2 ⟨rfl, hb2⟩; have RA2 := Aside0.mk (RA.out.below hb2); replace hb := hb.trans (hb2.mono hb.size); clear hb2)
      | (go_at_call 11; go_must (refine (ref_seal_as L A cap ks K8.out hkc n1 B bc bs B8.out hbc n2 HL.out _ (HR.out.below hb) (HRB.out.below hb)).mono ?_); rintro e w3 ⟨rfl, hb3⟩; have RA3 := RA2.out.below hb3; replace hb := hb.trans (hb3.mono hb.size); have st1 := string_of_reads (P := Tryd.prog) (c := ca) Tryd.underlying22 Tryd.underlying5 Tryd.underlying9 RA3; have st2 := string_of_reads (P := Tryd.prog) (c := cap) Tryd.underlying22 Tryd.underlying5 Tryd.underlying9 (HR.out.below hb); clear hb3))
    go_ret
    exact ⟨rfl, hb⟩
end Go.Proofs.YtlhapohpedihjaaDoor.Sha
