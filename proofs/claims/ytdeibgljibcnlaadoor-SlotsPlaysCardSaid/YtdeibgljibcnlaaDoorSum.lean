/- frame.Sum computes crcSum of its bytes and changes nothing. -/
import Derived.Test.YtdeibgljibcnlaaDoorByt
namespace Go.Proofs.YtdeibgljibcnlaaDoor
open Go.RowKit

theorem sum_any (v : Value) (l : List UInt8) (w : World) (hv : Byt w v l) :
    Calls Tryd.prog 31 #[v] w fun e w' => e = .returned (.int .u32 (crcSum l).toNat) ∧ w = w' := by
  obtain ⟨ao, c, rfl, h1, h2, h0, h3⟩ := hv.open
  clear h0
  unfold maxLen at h2
  go_enter Tryd.func31, Tryd.ntmps31
  go_wp2
  go_loop [3, 8] (fun r i => ∃ k : Nat, k ≤ l.length ∧ i = .int .i64 k ∧ r = .int .u32 (crcFold 0xffffffff#32 (l.take k)).toNat) (fun _ i => l.length - (intOf i).toNat)
  case atStart => exact ⟨0, Nat.zero_le _, rfl, rfl⟩
  case round =>
    obtain ⟨k, hk, rfl, rfl⟩ := hrel
    by_cases hk' : k < l.length
    · obtain ⟨b, off, rfl, hb, hc⟩ := h3 k hk'
      go_wp2
      rw [byte_u32, xor_u32]
      generalize hS : crcFold 0xffffffff#32 (l.take k) ^^^ BitVec.ofNat 32 l[k].toNat = S
      have HS := Lib.hid hS; clear hS
      go_loop [3, 16] (fun r j => ∃ k : Nat, k ≤ 8 ∧ j = .int .i64 k ∧ r = .int .u32 (crcBits k S).toNat) (fun _ j => 8 - (intOf j).toNat)
      case atStart => exact ⟨0, by omega, rfl, rfl⟩
      case round =>
        obtain ⟨j, hj, rfl, rfl⟩ := hrel
        by_cases hlt : j < 8
        · go_wp2
          go_round
          case rel => exact ⟨j + 1, by omega, by go_num, by rw [crcBit_walk]; rfl⟩
          case measure => simp [intOf]; omega
        · go_wp2
          go_round
          case rel =>
            obtain rfl : j = 8 := by omega
            refine ⟨k + 1, by omega, by go_num, ?_⟩
            rw [crcFold_snoc _ _ _ hk', crcByte, HS.out]
          case measure => simp [intOf]; omega
    · obtain rfl : k = l.length := by omega
      rw [List.take_length]
      go_wp2
      go_ret
      exact ⟨by rw [not_u32]; rfl, rfl⟩
end Go.Proofs.YtdeibgljibcnlaaDoor
