/- The program's padded. -/
import Derived.Test.YtlhapohpedihjaaDoorShaTake
import Derived.Test.YtlhapohpedihjaaDoorShaRefD
namespace Go.Proofs.YtlhapohpedihjaaDoor.Sha
open Go.RowKit Go.Proofs.YtlhapohpedihjaaDoorW.PrintWords Go.Proofs.YtlhapohpedihjaaDoorW.PrintLast Go.Proofs.YtlhapohpedihjaaDoorW.PrintMore Go.Proofs.YtlhapohpedihjaaDoor.Arr Go.Proofs.YtlhapohpedihjaaDoor.PSealSeals
set_option linter.unusedVariables false
set_option linter.unusedSimpArgs false

theorem shr_byte (N t : Nat) (ht : t < 8) : shr .u64 (N : Int) (((8 * t : Nat)) : Int) % 256 = ((N / 256 ^ t % 256 : Nat) : Int) := by
  unfold shr
  rw [Int.toNat_natCast, show min (8 * t) IntKind.u64.bits = 8 * t from Nat.min_eq_left (by show 8 * t ≤ 64; omega), show (256 : Nat) ^ t = 2 ^ (8 * t) by rw [Nat.pow_mul]]
  simp
theorem padded_l1 (N : Nat) : ∀ (t k : Nat) (xs : List Int), t ≤ 8 → t + 1 ≤ k → xs.length + t < 140737488355328 → seal_padded.l1 k xs (N : Int) ((t : Int) - 1) = some (xs ++ lastN N t)
  | 0, k, xs, _, hk, _ => by
    obtain ⟨j, rfl⟩ : ∃ j, k = j + 1 := ⟨k - 1, by omega⟩
    unfold seal_padded.l1
    rw [if_neg (by omega), lastN_zero, List.append_nil]
  | t + 1, k, xs, ht, hk, hx => by
    obtain ⟨j, rfl⟩ : ∃ j, k = j + 1 := ⟨k - 1, by omega⟩
    have e1 : ((t + 1 : Nat) : Int) - 1 = t := by omega
    have e2 : wrap64 (8 * (t : Int)) = ((8 * t : Nat) : Int) := by rw [IntWalk.wrap64_in _ (by omega)]; omega
    have e3 : wrap64 ((t : Int) - 1) = (t : Int) - 1 := IntWalk.wrap64_in _ (by omega)
    unfold seal_padded.l1
    rw [e1, if_pos (by omega), e2, if_pos (by omega), if_pos (by omega), shr_byte N t (by omega), e3, padded_l1 N t j _ (by omega) (by omega) (by simp; omega), lastN_succ, List.append_assoc]
    rfl
theorem padded_l0 (bs : List Int) (hsz : bs.length ≤ 140737488351232) : ∀ (d z k : Nat), z + d = need bs.length → d + 20 ≤ k → seal_padded.l0 k bs (padA bs z) = some (padL bs)
  | 0, z, k, hz, hk => by
    obtain ⟨j, rfl⟩ : ∃ j, k = j + 1 := ⟨k - 1, by omega⟩
    have hn := need_end bs.length
    have hnl := need_lt bs.length
    have e1 : IntKind.u64.wrap (IntKind.u64.wrap (bs.length : Int) * 8) = ((bs.length * 8 : Nat) : Int) := by
      rw [IntWalk.u64_in (bs.length : Int) (by omega), IntWalk.u64_in _ (by omega)]; omega
    unfold seal_padded.l0
    rw [padA_length, if_pos (by omega), e1, show (7 : Int) = ((8 : Nat) : Int) - 1 from rfl, padded_l1 _ 8 j _ (by omega) (by omega) (by rw [padA_length]; omega)]
    unfold padL
    rw [show z = need bs.length by omega]
  | d + 1, z, k, hz, hk => by
    obtain ⟨j, rfl⟩ : ∃ j, k = j + 1 := ⟨k - 1, by omega⟩
    have hn := need_ne bs.length z (by omega)
    have hnl := need_lt bs.length
    unfold seal_padded.l0
    rw [padA_length, if_neg (by omega), if_pos (by omega), padA_succ]
    exact padded_l0 bs hsz d (z + 1) j (by omega) (by omega)
theorem padded_f (bs : List Int) (hsz : bs.length ≤ 140737488351232) : seal_padded.f (need bs.length + 20) bs = some (padL bs) := by
  unfold seal_padded.f
  simp only [Option.bind_some, List.nil_append, List.length_nil]
  rw [if_pos (by omega), if_pos (by omega), ← padA_zero]
  exact padded_l0 bs hsz (need bs.length) 0 _ (by omega) (by omega)
theorem padded_calls (A : Option Addr) (cap : Nat) (bs : List Int) (hcap : bs.length ≤ cap) (hsz : bs.length ≤ 140737488351232) (w : World) (hr : ReadsInt w .u8 A bs.length bs) :
    Calls Tryd.prog 13 #[.slice A bs.length cap] w fun e w' => ∃ v, e = .returned v ∧ Row w' w.heap.size 5 .u8 v (padL bs) ∧ Below w.heap.size w w' := by
  refine (seal_padded.calls _ A cap bs (padL bs) w (Kd.C_of_reads (d := (0 : Int)) hr) hcap (padded_f bs hsz)).mono ?_
  rintro e w' ⟨v, he, hR, hb⟩
  exact ⟨v, he, ⟨Kd.own_of_R hR⟩, hb⟩
end Go.Proofs.YtlhapohpedihjaaDoor.Sha
