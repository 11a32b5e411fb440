/- pergolaalike.Round. -/
import Derived.Test.YtdeibgljibcnlaaDoorMem
namespace Go.Proofs.YtdeibgljibcnlaaDoor
open Go.RowKit

theorem Round_any (k : Int) (n : Nat) (w : World) (hn : 0 < n) (h1 : n ≤ 1000000) :
    Calls Tryd.prog 10 #[.int .i64 k, .int .i64 n] w fun e w' => e = .returned (.int .i64 (k % (n : Int))) ∧ w = w' := by
  have e1 : k % (n : Int) = if k.tmod n < 0 then k.tmod n + n else k.tmod n := by
    rw [Int.tmod_eq_emod]
    have := Int.emod_nonneg k (show (n : Int) ≠ 0 by omega)
    have := Int.emod_lt_of_pos k (show (0 : Int) < n by omega)
    split <;> split <;> omega
  have b1 : -(n : Int) < k.tmod n ∧ k.tmod n < n := by
    have := Int.tmod_lt_of_pos k (show (0 : Int) < n by omega)
    have := Int.lt_tmod_of_pos k (show (0 : Int) < n by omega)
    omega
  have E1 := Lib.hid e1
  clear e1
  have hn' : (1 : Int) ≤ (n : Int) := by omega
  have hz : ((n : Int) == 0) = false := by simp; omega
  by_cases hneg : k.tmod n < 0
  · go_enter Tryd.func10, Tryd.ntmps10
    go_wp2
    go_ret
    refine ⟨?_, rfl⟩
    rw [E1.out, if_pos hneg]
    rfl
  · go_enter Tryd.func10, Tryd.ntmps10
    go_wp2
    go_ret
    refine ⟨?_, rfl⟩
    rw [E1.out, if_neg (by omega)]
    rfl

theorem Round_at (k m : Int) (n : Nat) (w : World) (hn : 0 < n) (h1 : n ≤ 1000000) (hm : m = (n : Int)) :
    Calls Tryd.prog 10 #[.int .i64 k, .int .i64 m] w fun e w' => ∃ r : Nat, e = .returned (.int .i64 (r : Int)) ∧ r < n ∧ w = w' := by
  subst hm
  refine (Round_any k n w hn h1).mono fun e w' ⟨h2, h3⟩ => ?_
  have a1 := Int.emod_nonneg k (show (n : Int) ≠ 0 by omega)
  have a2 := Int.emod_lt_of_pos k (show (0 : Int) < n by omega)
  obtain ⟨r, hr⟩ := Int.eq_ofNat_of_zero_le a1
  exact ⟨r, by rw [h2, hr], by omega, h3⟩
end Go.Proofs.YtdeibgljibcnlaaDoor
