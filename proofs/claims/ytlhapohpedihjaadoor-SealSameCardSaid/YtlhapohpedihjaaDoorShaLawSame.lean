/- The law SealSame: its walk. -/
import Derived.Test.YtlhapohpedihjaaDoorShaLawSeals
import Derived.Test.YtlhapohpedihjaaDoorShaSame
import Derived.Test.YtlhapohpedihjaaDoorQg
namespace Go.Proofs.YtlhapohpedihjaaDoor.Sha
open Go.RowKit Go.Proofs.YtlhapohpedihjaaDoorW.PrintWords Go.Proofs.YtlhapohpedihjaaDoorW.PrintLast Go.Proofs.YtlhapohpedihjaaDoorW.PrintMore Go.Proofs.YtlhapohpedihjaaDoor.Arr
set_option linter.unusedVariables false
set_option linter.unusedSimpArgs false

theorem str_inj (xs ys : List Int) (hx : Bytes xs) (hy : Bytes ys) (h : strOfNums xs = strOfNums ys) : xs = ys := by
  have h2 : xs.map (fun x => UInt8.ofNat x.toNat) = ys.map (fun x => UInt8.ofNat x.toNat) := by
    have := congrArg (fun b : ByteArray => b.data.toList) h
    simpa [strOfNums] using this
  have hl : xs.length = ys.length := by simpa using congrArg List.length h2
  apply List.ext_getElem hl
  intro i h1 h3
  have h4 := congrArg (fun l : List UInt8 => l[i]?) h2
  simp [List.getElem?_eq_getElem h1, List.getElem?_eq_getElem h3] at h4
  have a1 := hx _ (List.getElem_mem h1)
  have a2 := hy _ (List.getElem_mem h3)
  have h5 := congrArg UInt8.toNat h4
  simp at h5
  omega
theorem str_same (xs ys : List Int) (hx : Bytes xs) (hy : Bytes ys) : ((strOfNums xs).toList == (strOfNums ys).toList) = decide (xs = ys) := by
  by_cases h : xs = ys
  · subst h; simp
  · rw [decide_eq_false h, beq_eq_false_iff_ne]
    intro e
    refine h (str_inj xs ys hx hy ?_)
    rw [Lib.toList_data, Lib.toList_data] at e
    have : (strOfNums xs).data = (strOfNums ys).data := by
      apply Array.ext'
      exact e
    cases hs : strOfNums xs
    cases ht : strOfNums ys
    rw [hs, ht] at this
    simp at this
    rw [this]
theorem idx_of (z : Int) (n : Nat) (h0 : n ≠ 0) (h1 : n ≤ 1000) : ∃ i : Nat, i < n ∧ wrap64 ((IntKind.u64.wrap z).tmod (n : Int)) = (i : Int) := by
  rw [IntKind.wrap_u64]
  have hz : 0 ≤ z % 18446744073709551616 := Int.emod_nonneg _ (by decide)
  rw [Int.tmod_eq_emod_of_nonneg hz]
  have a := Int.emod_nonneg (z % 18446744073709551616) (show (n : Int) ≠ 0 by omega)
  have b := Int.emod_lt_of_pos (z % 18446744073709551616) (show (0 : Int) < (n : Int) by omega)
  generalize (z % 18446744073709551616) % (n : Int) = q at *
  refine ⟨q.toNat, by omega, ?_⟩
  unfold wrap64
  omega

theorem same_no (A : Option Addr) (m ca : Nat) (aa : List Int) (hm : aa.length = m) (ha8 : Bytes aa) (B : Option Addr) (n cb : Nat) (bs : List Int) (hn : bs.length = n) (hb8 : Bytes bs) (hne : aa ≠ bs) (w : World) (hr : ReadsInt w .u8 A m aa) (hrb : ReadsInt w .u8 B n bs) :
    Calls Tryd.prog 12 #[.slice A m ca, .slice B n cb] w fun e w' => e = .returned (.bool false) ∧ Below w.heap.size w w' := by
  have := same_calls A m ca aa hm ha8 B n cb bs hn hb8 w hr hrb
  rwa [decide_eq_false hne] at this

set_option maxRecDepth 100000 in
set_option maxHeartbeats 4000000 in
theorem lawSame_calls (A : Option Addr) (cap : Nat) (ks : List Int) (hk8 : Bytes ks) (hkc : ks.length ≤ cap) (B : Option Addr) (bc : Nat) (bs : List Int) (hb8 : Bytes bs) (hbc : bs.length ≤ bc) (z : Int) (w : World) (hr : ReadsInt w .u8 A ks.length ks) (hrb : ReadsInt w .u8 B bs.length bs) (hg : 2 ≤ w.heap.size) (hs : Cells w 0 (numsA .u32 start.list)) (hk : Cells w 1 (numsA .u32 keysI)) :
    Calls Tryd.prog 6 #[.slice A ks.length cap, .slice B bs.length bc, .int .i64 z] w fun e w' => e = .returned (.bool true) ∧ Below w.heap.size w w' := by
  have K8 := Aside0.mk hk8
  have B8 := Aside0.mk hb8
  have HR := Aside0.mk hr
  have HRB := Aside0.mk hrb
  have HS := Aside0.mk hs
  have HK := Aside0.mk hk
  clear hk8 hb8 hr hrb hs hk
  go_enter Tryd.func6, Tryd.ntmps6
  have hb := Below.refl w.heap.size w
  have tok1 : True := trivial
  by_cases hbig : 1000 < ks.length
  · have t1 : decide ((ks.length : Int) > 1000) = true := by simp; omega
    go_wp2_with (first
      | (go_at_call 7; have _t := tok1; refine (awake_calls _ hg HS.out HK.out).mono ?_; rintro e w1 ⟨rfl, hb1⟩; clear _t tok1)
      | (go_at_call 7; refine (awake_calls _ (Nat.le_trans hg hb1.size) (HS.out.below hb1) (HK.out.below hb1)).mono ?_; rintro e w2 ⟨rfl, hb2⟩))
    go_ret
    exact ⟨rfl, hb1.trans (hb2.mono hb1.size)⟩
  have t1 : decide ((ks.length : Int) > 1000) = false := by simp; omega
  by_cases hbig' : 1000 < bs.length
  · have t2 : decide ((bs.length : Int) > 1000) = true := by simp; omega
    go_wp2_with (first
      | (go_at_call 7; have _t := tok1; refine (awake_calls _ hg HS.out HK.out).mono ?_; rintro e w1 ⟨rfl, hb1⟩; clear _t tok1)
      | (go_at_call 7; refine (awake_calls _ (Nat.le_trans hg hb1.size) (HS.out.below hb1) (HK.out.below hb1)).mono ?_; rintro e w2 ⟨rfl, hb2⟩))
    go_ret
    exact ⟨rfl, hb1.trans (hb2.mono hb1.size)⟩
  · have t2 : decide ((bs.length : Int) > 1000) = false := by simp; omega
    go_wp2_with (go_at_call 7; refine (awake_calls _ hg HS.out HK.out).mono ?_; rintro e w1 ⟨rfl, hb1⟩; replace hb := hb1; clear hb1)
    have RA1 := Aside0.mk (HR.out.below hb)
    have RB1 := Aside0.mk (HRB.out.below hb)
    have hbb := hb
    clear hb
    have sq := str_same ks bs K8.out B8.out
    refine Qt.wp_region_all (fun w' => Below w1.heap.size w1 w') (by kernel_rfl) (by kernel_rfl) (Below.refl _ _).drew ?_
    repeat (first
      | (refine Qg.q_val (by first | rfl | (go_simp; done) | (simp [Region.wanted, yielded]; done)) ?_; apply Exists.intro; refine ⟨?_, ?_⟩; (focus (intro w' hw'; have st1 := string_of_reads (P := Tryd.prog) (c := cap) Tryd.underlying22 Tryd.underlying5 Tryd.underlying9 (RA1.out.below hw'); have st2 := string_of_reads (P := Tryd.prog) (c := bc) Tryd.underlying22 Tryd.underlying5 Tryd.underlying9 (RB1.out.below hw'); go_simp; (first | rfl | done))); intro K hK; go_simp; refine hK _ ?_; clear hK K)
      | (refine Qg.q_call (by first | rfl | (go_simp; done) | (simp [Region.wanted, yielded]; done)) ?_; apply Exists.intro; apply Exists.intro; refine ⟨?_, ?_⟩; (focus (intro w'; go_simp; (first | rfl | exact ⟨rfl, rfl⟩))); apply Exists.intro; refine ⟨?_, ?_⟩; (focus (intro w' hw'; first | with_reducible exact Qt.under hw' (same_calls A ks.length cap ks rfl K8.out B bs.length bc bs rfl B8.out _ (RA1.out.below hw') (RB1.out.below hw')) | with_reducible exact Qt.under hw' (same_calls A ks.length cap ks rfl K8.out A ks.length cap ks rfl K8.out _ (RA1.out.below hw') (RA1.out.below hw')))); intro K hK; go_simp; refine hK _ ?_; clear hK K))
    (refine wpQuiet_nil ?_; intro w' hw')
    have hb2 := hbb.trans (hw'.mono hbb.size)
    by_cases h0 : ks.length = 0
    · have t3 : ((ks.length : Int) == 0) = true := beq_iff_eq.2 (by omega)
      go_wp2
      go_ret
      exact ⟨rfl, hb2⟩
    have t3 : ((ks.length : Int) == 0) = false := beq_eq_false_iff_ne.2 (by omega)
    have RA2 := Aside0.mk (RA1.out.below hw')
    have hb3 := Below.refl w'.heap.size w'
    clear hbb RA1 RB1 sq
    obtain ⟨i, hi, hidx⟩ := idx_of z ks.length h0 (by omega)
    obtain ⟨y, hy⟩ : ∃ y, ks.getD i 0 = y := ⟨_, rfl⟩
    have y8 := getD_byte ks K8.out i
    rw [hy] at y8
    have hne1 : ks ≠ ks.set i ((y + 1) % 256) := by
      intro e
      have := congrArg (fun l => l.getD i 0) e
      simp only [hy] at this
      simp [List.getD, hi] at this
      omega
    have hne2 : ks ≠ ks.take (ks.length - 1) := by
      intro e
      have := congrArg List.length e
      simp at this
      omega
    have hS8 : Bytes (ks.set i ((y + 1) % 256)) := by
      intro x hx
      rcases List.mem_or_eq_of_mem_set hx with h | h
      · exact K8.out x h
      · omega
    have hT8 : Bytes (ks.take (ks.length - 1)) := fun x hx => K8.out x (List.mem_of_mem_take hx)
    have N1 := Aside0.mk hne1
    have N2 := Aside0.mk hne2
    have S8 := Aside0.mk hS8
    have T8 := Aside0.mk hT8
    have HY := Aside0.mk hy
    clear hne1 hne2 hS8 hT8 hy
    go_wp2_with (at_builtin; have q1 := hb3.size; have q2 : Row (w'.alloc (.cells #[] 5)) w'.heap.size 5 .u8 (.slice (some ⟨w'.heap.size, 0, none⟩) 0 0) [] := row_empty (Nat.le_refl _); have q3 := RA2.out.below (hb3.alloc hb3.size (.cells #[] 5)); have q5 : w'.heap.size ≤ (w'.alloc (.cells #[] 5)).heap.size := (by rw [World.size_alloc]; omega); have q6 : ([] : List Int).length + ks.length ≤ 140737488355328 := (by rw [List.length_nil]; omega); go_must (refine app8 (w0 := w') w'.heap.size rfl _ _ rfl (.slice (some ⟨w'.heap.size, 0, none⟩) 0 0) [] ks A ks.length cap rfl rfl q2 q3 (hb3.alloc q1 _) q5 q6 ?_); intro v2 w3 hv' hb' hg' hat'; rw [List.nil_append] at hv'; replace hb3 := hb'; clear hg' hat' q1 q2 q3 q5 q6 hb'; have hf := hv'.form; rcases hf with ⟨_, e0⟩ | ⟨g, cc, rfl, gB, gl, gc, gm⟩; (exact absurd (by rw [e0]; rfl) h0); have hc := hv'.at_ i hi; rw [HY.out] at hc; have hfz : w3.frozen? ⟨g, i, none⟩ = false := (by simpa using (own_at hv'.own (i : Int) (by omega) (by omega)).2))
    have hst := (own_store hv'.own (i : Int) ((y + 1) % 256)).1
    rw [Int.toNat_natCast] at hst
    have RC := Aside0.mk (own_reads' hst)
    have hb4 : Below w'.heap.size w' (w3.setCell ⟨g, i, none⟩ (.int .u8 ((y + 1) % 256))) := hb3.setCell gB _
    have RA4 := Aside0.mk (RA2.out.below hb4)
    clear hst hb3 hv'
    refine (same_no A ks.length cap ks rfl K8.out (some ⟨g, 0, none⟩) ks.length cc (ks.set i ((y + 1) % 256)) (by simp) S8.out N1.out _ RA4.out RC.out).mono ?_
    rintro e w5 ⟨rfl, hb5⟩
    have hb6 := hb4.trans (hb5.mono hb4.size)
    have RA6 := Aside0.mk (RA2.out.below hb6)
    clear hb4 hb5 hc hfz
    have s1 : (0 : Int) ≤ (ks.length : Int) - 1 := by omega
    have s2 : (ks.length : Int) - 1 ≤ (cap : Int) := by omega
    have s3 : ((ks.length : Int) - 1).toNat = ks.length - 1 := by omega
    go_wp2_with fail
    refine (same_no A ks.length cap ks rfl K8.out A (ks.length - 1) cap (ks.take (ks.length - 1)) (by simp) T8.out N2.out _ RA6.out (RA6.out.take_ _ (by omega))).mono ?_
    rintro e w6 ⟨rfl, hb7⟩
    have hb8 := hb2.trans ((hb6.trans (hb7.mono hb6.size)).mono hb2.size)
    clear hb6 hb7
    go_wp2
    go_ret
    exact ⟨rfl, hb8⟩
end Go.Proofs.YtlhapohpedihjaaDoor.Sha
