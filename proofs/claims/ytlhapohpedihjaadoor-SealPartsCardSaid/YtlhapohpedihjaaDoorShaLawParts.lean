/- The law SealParts: its walk. -/
import Derived.Test.YtlhapohpedihjaaDoorShaLawSeals
import Derived.Test.YtlhapohpedihjaaDoorQg
namespace Go.Proofs.YtlhapohpedihjaaDoor.Sha
open Go.RowKit Go.Proofs.YtlhapohpedihjaaDoorW.PrintWords Go.Proofs.YtlhapohpedihjaaDoorW.PrintLast Go.Proofs.YtlhapohpedihjaaDoorW.PrintMore Go.Proofs.YtlhapohpedihjaaDoor.Arr
set_option linter.unusedVariables false
set_option linter.unusedSimpArgs false

theorem digest_as (L : List Int) (A : Option Addr) (n cap : Nat) (bs : List Int) (hn : bs.length = n) (hb8 : Bytes bs) (hcap : n ≤ cap) (hsz : n ≤ 300) (hL : L = digL bs) (w : World) (hr : ReadsInt w .u8 A n bs) (hg : 2 ≤ w.heap.size) (hs : Cells w 0 (numsA .u32 start.list)) (hk : Cells w 1 (numsA .u32 keysI)) :
    Calls Tryd.prog 8 #[.slice A n cap] w fun e w' => e = .returned (.agg (numsA .u8 L)) ∧ Below w.heap.size w w' := by
  rw [hL]
  exact digest_at A n cap bs hn hb8 hcap (by omega) w hr hg hs hk
theorem ref_digest_as (L : List Int) (A : Option Addr) (n cap : Nat) (bs : List Int) (hn : bs.length = n) (hb8 : Bytes bs) (hcap : n ≤ cap) (hsz : n ≤ 300) (hL : L = digL bs) (w : World) (hr : ReadsInt w .u8 A n bs) :
    Calls Tryd.prog 9 #[.slice A n cap] w fun e w' => e = .returned (.agg (numsA .u8 L)) ∧ Below w.heap.size w w' := by
  rw [hL]
  exact ref_digest_at A n cap bs hn hb8 hcap (by omega) w hr
theorem seal_as' (L : List Int) (A : Option Addr) (n cap : Nat) (ks : List Int) (hn : ks.length = n) (hk8 : Bytes ks) (hkc : n ≤ cap) (hks : n ≤ 300) (B : Option Addr) (m bc : Nat) (bs : List Int) (hm : bs.length = m) (hb8 : Bytes bs) (hbc : m ≤ bc) (hbs : m ≤ 300) (hL : L = sealL ks bs)
    (w : World) (hr : ReadsInt w .u8 A n ks) (hrb : ReadsInt w .u8 B m bs) (hg : 2 ≤ w.heap.size) (hs : Cells w 0 (numsA .u32 start.list)) (hk : Cells w 1 (numsA .u32 keysI)) :
    Calls Tryd.prog 10 #[.slice A n cap, .slice B m bc] w fun e w' => e = .returned (.agg (numsA .u8 L)) ∧ Below w.heap.size w w' := by
  subst hn hm
  exact seal_as L A cap ks hk8 hkc hks B bc bs hb8 hbc hbs hL w hr hrb hg hs hk
theorem ref_seal_as' (L : List Int) (A : Option Addr) (n cap : Nat) (ks : List Int) (hn : ks.length = n) (hk8 : Bytes ks) (hkc : n ≤ cap) (hks : n ≤ 300) (B : Option Addr) (m bc : Nat) (bs : List Int) (hm : bs.length = m) (hb8 : Bytes bs) (hbc : m ≤ bc) (hbs : m ≤ 300) (hL : L = sealL ks bs)
    (w : World) (hr : ReadsInt w .u8 A n ks) (hrb : ReadsInt w .u8 B m bs) :
    Calls Tryd.prog 11 #[.slice A n cap, .slice B m bc] w fun e w' => e = .returned (.agg (numsA .u8 L)) ∧ Below w.heap.size w w' := by
  subst hn hm
  exact ref_seal_as L A cap ks hk8 hkc hks B bc bs hb8 hbc hbs hL w hr hrb

set_option maxRecDepth 100000 in
set_option maxHeartbeats 4000000 in
theorem lawParts_calls (A : Option Addr) (cap : Nat) (ks : List Int) (hk8 : Bytes ks) (hkc : ks.length ≤ cap) (B : Option Addr) (bc : Nat) (bs : List Int) (hb8 : Bytes bs) (hbc : bs.length ≤ bc) (x : Int) (hx0 : 0 ≤ x) (hx1 : x < 256) (w : World) (hr : ReadsInt w .u8 A ks.length ks) (hrb : ReadsInt w .u8 B bs.length bs) (hg : 2 ≤ w.heap.size) (hs : Cells w 0 (numsA .u32 start.list)) (hk : Cells w 1 (numsA .u32 keysI)) :
    Calls Tryd.prog 5 #[.slice A ks.length cap, .slice B bs.length bc, .int .u8 x] w fun e w' => e = .returned (.bool true) ∧ Below w.heap.size w w' := by
  have K8 := Aside0.mk hk8
  have B8 := Aside0.mk hb8
  have HR := Aside0.mk hr
  have HRB := Aside0.mk hrb
  have HS := Aside0.mk hs
  have HK := Aside0.mk hk
  clear hk8 hb8 hr hrb hs hk
  go_enter Tryd.func5, Tryd.ntmps5
  have hb := Below.refl w.heap.size w
  have tok1 : True := trivial
  by_cases hbig : 100 < ks.length
  · have t1 : decide ((ks.length : Int) > 100) = true := by simp; omega
    go_wp2_with (first
      | (go_at_call 7; have _t := tok1; refine (awake_calls _ hg HS.out HK.out).mono ?_; rintro e w1 ⟨rfl, hb1⟩; clear _t tok1)
      | (go_at_call 7; refine (awake_calls _ (Nat.le_trans hg hb1.size) (HS.out.below hb1) (HK.out.below hb1)).mono ?_; rintro e w2 ⟨rfl, hb2⟩))
    go_ret
    exact ⟨rfl, hb1.trans (hb2.mono hb1.size)⟩
  have t1 : decide ((ks.length : Int) > 100) = false := by simp; omega
  by_cases hbig' : 200 < bs.length
  · have t2 : decide ((bs.length : Int) > 200) = true := by simp; omega
    go_wp2_with (first
      | (go_at_call 7; have _t := tok1; refine (awake_calls _ hg HS.out HK.out).mono ?_; rintro e w1 ⟨rfl, hb1⟩; clear _t tok1)
      | (go_at_call 7; refine (awake_calls _ (Nat.le_trans hg hb1.size) (HS.out.below hb1) (HK.out.below hb1)).mono ?_; rintro e w2 ⟨rfl, hb2⟩))
    go_ret
    exact ⟨rfl, hb1.trans (hb2.mono hb1.size)⟩
  · have t2 : decide ((bs.length : Int) > 200) = false := by simp; omega
    have X8 : Bytes [x] := fun y hy => by
      rw [List.mem_singleton.1 hy]
      exact ⟨hx0, hx1⟩
    have C8 := Aside0.mk (B8.out.append X8)
    have Q8 := Aside0.mk (K8.out.append X8)
    obtain ⟨D1, hD1, e1, e2⟩ : ∃ L, L = digL (bs ++ [x]) ∧ L.length = 32 ∧ Bytes L := ⟨_, rfl, digL_length _, digL_bytes _⟩
    obtain ⟨D2, hD2, e3, e4⟩ : ∃ L, L = digL bs ∧ L.length = 32 ∧ Bytes L := ⟨_, rfl, digL_length _, digL_bytes _⟩
    obtain ⟨S1, hS1, e5, e6⟩ : ∃ L, L = sealL (ks ++ [x]) bs ∧ L.length = 32 ∧ Bytes L := ⟨_, rfl, sealL_length _ _, sealL_bytes _ _⟩
    obtain ⟨S2, hS2, e7, e8⟩ : ∃ L, L = sealL ks bs ∧ L.length = 32 ∧ Bytes L := ⟨_, rfl, sealL_length _ _, sealL_bytes _ _⟩
    obtain ⟨z1, hz1⟩ : ∃ z : Bool, ∀ w, (Op.equalIn 10000 24 (.agg (numsA .u8 D1)) (.agg (numsA .u8 D2))).run Tryd.prog w = .ok z w := ⟨_, eq32 D1 D2 e1 e3 e2 e4⟩
    obtain ⟨z2, hz2⟩ : ∃ z : Bool, ∀ w, (Op.equalIn 10000 24 (.agg (numsA .u8 S1)) (.agg (numsA .u8 S2))).run Tryd.prog w = .ok z w := ⟨_, eq32 S1 S2 e5 e7 e6 e8⟩
    have HD1 := Aside0.mk hD1
    have HD2 := Aside0.mk hD2
    have HS1 := Aside0.mk hS1
    have HS2 := Aside0.mk hS2
    clear hD1 hD2 hS1 hS2 e1 e2 e3 e4 e5 e6 e7 e8
    have n1 : ks.length ≤ 300 := by omega
    have n2 : bs.length ≤ 300 := by omega
    have n3 : bs.length + 1 ≤ 300 := by omega
    have n4 : ks.length + 1 ≤ 300 := by omega
    have l3 : (bs ++ [x]).length = bs.length + 1 := by simp
    have l4 : (ks ++ [x]).length = ks.length + 1 := by simp
    have L3 := Aside0.mk l3
    have L4 := Aside0.mk l4
    clear l3 l4
    have tok2 : True := trivial
    have tok3 : True := trivial
    have tok4 : True := trivial
    go_wp2_with (first
      | (go_at_call 7; refine (awake_calls _ hg HS.out HK.out).mono ?_; rintro e w1 ⟨rfl, hb1⟩; replace hb := hb1; clear hb1)
      | (at_builtin; have _t := tok1; have q1 := hb.size; have q2 : Row (w1.alloc (.cells #[] 5)) w.heap.size 5 .u8 (.slice (some ⟨w1.heap.size, 0, none⟩) 0 0) [] := row_empty q1; have q3 := HRB.out.below (hb.alloc q1 (.cells #[] 5)); have q5 : w.heap.size ≤ (w1.alloc (.cells #[] 5)).heap.size := (by rw [World.size_alloc]; omega); have q6 : ([] : List Int).length + bs.length ≤ 140737488355328 := (by rw [List.length_nil]; omega); go_must (refine app8 (w0 := w) w.heap.size rfl _ _ rfl (.slice (some ⟨w1.heap.size, 0, none⟩) 0 0) [] bs B bs.length bc rfl rfl q2 q3 (hb.alloc q1 _) q5 q6 ?_); intro v1 w2 hv hb' hg' hat'; rw [List.nil_append] at hv; replace hb := hb'; clear hg' hat' q1 q2 q3 q5 q6 hb' _t tok1)
      | (at_builtin; have _t := tok2; have q1 := hb.size; have q2 := hv.alloc (.cells #[.int .u8 x] 5); have q5 : w.heap.size ≤ (w2.alloc (.cells #[.int .u8 x] 5)).heap.size := (by rw [World.size_alloc]; omega); have q6 : bs.length + 1 ≤ 140737488355328 := (by omega); go_must (refine app8 (w0 := w) w.heap.size rfl _ _ rfl v1 bs [x] _ 1 _ rfl rfl q2 (reads_one rfl) (hb.alloc q1 _) q5 q6 ?_); intro v2 w3 hv' hb' hg' hat'; replace hb := hb'; clear hg' hat' q1 q2 q5 q6 hb' _t tok2 hv; obtain ⟨Ac, cc, rfl, hra⟩ := hv'.reads; have lcc : (bs ++ [x]).length ≤ cc := hv'.cap_le; rw [L3.out] at hra lcc ⊢; have RC := Aside0.mk hra; clear hra hv'; have hb4 := Below.refl w3.heap.size w3)
      | (at_builtin; have _t := tok3; have q1 := hb4.size; have q2 : Row (w3.alloc (.cells #[] 5)) w3.heap.size 5 .u8 (.slice (some ⟨w3.heap.size, 0, none⟩) 0 0) [] := row_empty (Nat.le_refl _); have q3 := HR.out.below ((hb.alloc hb.size (.cells #[] 5))); have q5 : w3.heap.size ≤ (w3.alloc (.cells #[] 5)).heap.size := (by rw [World.size_alloc]; omega); have q6 : ([] : List Int).length + ks.length ≤ 140737488355328 := (by rw [List.length_nil]; omega); go_must (refine app8 (w0 := w3) w3.heap.size rfl _ _ rfl (.slice (some ⟨w3.heap.size, 0, none⟩) 0 0) [] ks A ks.length cap rfl rfl q2 q3 (hb4.alloc q1 _) q5 q6 ?_); intro v3 w4 hv hb' hg' hat'; rw [List.nil_append] at hv; replace hb4 := hb'; clear hg' hat' q1 q2 q3 q5 q6 hb' _t tok3)
      | (at_builtin; have _t := tok4; have q1 := hb4.size; have q2 := hv.alloc (.cells #[.int .u8 x] 5); have q5 : w3.heap.size ≤ (w4.alloc (.cells #[.int .u8 x] 5)).heap.size := (by rw [World.size_alloc]; omega); have q6 : ks.length + 1 ≤ 140737488355328 := (by omega); go_must (refine app8 (w0 := w3) w3.heap.size rfl _ _ rfl v3 ks [x] _ 1 _ rfl rfl q2 (reads_one rfl) (hb4.alloc q1 _) q5 q6 ?_); intro v4 w5 hv' hb' hg' hat'; replace hb4 := hb'; clear hg' hat' q1 q2 q5 q6 hb' _t tok4 hv; obtain ⟨Ak, ck, rfl, hra⟩ := hv'.reads; have lck : (ks ++ [x]).length ≤ ck := hv'.cap_le; rw [L4.out] at hra lck ⊢; have RK := Aside0.mk hra; clear hra hv'))
    have hb5 := hb.trans (hb4.mono hb.size)
    have RC5 := Aside0.mk (RC.out.below hb4)
    have RB5 := Aside0.mk (HRB.out.below hb5)
    have RA5 := Aside0.mk (HR.out.below hb5)
    have HS5 := Aside0.mk (HS.out.below hb5)
    have HK5 := Aside0.mk (HK.out.below hb5)
    have g5 : 2 ≤ w5.heap.size := Nat.le_trans hg hb5.size
    clear hb hb4
    refine Qt.wp_region_all (fun w' => Below w5.heap.size w5 w') (by kernel_rfl) (by kernel_rfl) (Below.refl _ _).drew ?_
    repeat (first
      | (refine Qg.q_val (by first | rfl | (go_simp; done) | (simp [Region.wanted, yielded]; done)) ?_; apply Exists.intro; refine ⟨?_, ?_⟩; (focus (intro w' hw'; skip; go_simp; (first | rfl | done))); intro K hK; go_simp; refine hK _ ?_; clear hK K)
      | (refine Qg.q_call (by first | rfl | (go_simp; done) | (simp [Region.wanted, yielded]; done)) ?_; apply Exists.intro; apply Exists.intro; refine ⟨?_, ?_⟩; (focus (intro w'; go_simp; (first | rfl | exact ⟨rfl, rfl⟩))); apply Exists.intro; refine ⟨?_, ?_⟩; (focus (intro w' hw'; first | with_reducible exact Qt.under hw' (digest_as D1 Ac (bs.length + 1) cc (bs ++ [x]) L3.out C8.out lcc n3 HD1.out _ (RC5.out.below hw') (Nat.le_trans g5 hw'.size) (HS5.out.below hw') (HK5.out.below hw')) | with_reducible exact Qt.under hw' (digest_as D2 B bs.length bc bs rfl B8.out hbc n2 HD2.out _ (RB5.out.below hw') (Nat.le_trans g5 hw'.size) (HS5.out.below hw') (HK5.out.below hw')) | with_reducible exact Qt.under hw' (ref_digest_as D1 Ac (bs.length + 1) cc (bs ++ [x]) L3.out C8.out lcc n3 HD1.out _ (RC5.out.below hw')) | with_reducible exact Qt.under hw' (ref_digest_as D2 B bs.length bc bs rfl B8.out hbc n2 HD2.out _ (RB5.out.below hw')) | with_reducible exact Qt.under hw' (seal_as' S1 Ak (ks.length + 1) ck (ks ++ [x]) L4.out Q8.out lck n4 B bs.length bc bs rfl B8.out hbc n2 HS1.out _ (RK.out.below hw') (RB5.out.below hw') (Nat.le_trans g5 hw'.size) (HS5.out.below hw') (HK5.out.below hw')) | with_reducible exact Qt.under hw' (seal_as' S2 A ks.length cap ks rfl K8.out hkc n1 B bs.length bc bs rfl B8.out hbc n2 HS2.out _ (RA5.out.below hw') (RB5.out.below hw') (Nat.le_trans g5 hw'.size) (HS5.out.below hw') (HK5.out.below hw')) | with_reducible exact Qt.under hw' (ref_seal_as' S1 Ak (ks.length + 1) ck (ks ++ [x]) L4.out Q8.out lck n4 B bs.length bc bs rfl B8.out hbc n2 HS1.out _ (RK.out.below hw') (RB5.out.below hw')) | with_reducible exact Qt.under hw' (ref_seal_as' S2 A ks.length cap ks rfl K8.out hkc n1 B bs.length bc bs rfl B8.out hbc n2 HS2.out _ (RA5.out.below hw') (RB5.out.below hw')))); intro K hK; go_simp; refine hK _ ?_; clear hK K))
    (refine wpQuiet_nil ?_; intro w' hw')
    go_wp2
    go_ret
    exact ⟨rfl, hb5.trans (hw'.mono hb5.size)⟩
end Go.Proofs.YtlhapohpedihjaaDoor.Sha
