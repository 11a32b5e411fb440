/- pergolaalike.Sum of one more, Rows, Total. -/
import Derived.Test.YthijffpackkcnaaMem
import Derived.Deep.RegionHeld3
namespace Go.Proofs.Ythijffpackkcnaa
open Go.RowKit

/-- what pergolaalike.Sum answers of one more number -/
def satAdd (n m : Int) : Int := if n > 1099511627776 ∨ m > 1099511627776 - n then 1099511627776 else n + m

theorem Sum_one (n m : Int) (b off c : Nat) (w : World) (hc : w.cell? ⟨b, off, none⟩ = some (.int .i64 m)) (hn : 0 ≤ n) (hn2 : n ≤ 4611686018427387904) (hm : 0 ≤ m) :
    Calls Try.prog 20 #[.int .i64 n, .slice (some ⟨b, off, none⟩) 1 c] w fun e w' => e = .returned (.int .i64 (satAdd n m)) ∧ w = w' := by
  generalize hx : satAdd n m = x
  have HX := Lib.hid hx
  clear hx
  by_cases g1 : 1099511627776 < n
  · have hf : x = 1099511627776 := by rw [← HX.out, satAdd, if_pos (Or.inl g1)]
    have HF := Lib.hid hf
    clear hf
    go_enter Try.func20, Try.ntmps20
    go_wp2
    refine wp_loop_rounds 1 ?_
    rw [rounds_succ]
    go_wp2
    go_ret
    exact ⟨by rw [HF.out]; rfl, rfl⟩
  · by_cases g2 : 1099511627776 - n < m
    · have hf : x = 1099511627776 := by rw [← HX.out, satAdd, if_pos (Or.inr g2)]
      have HF := Lib.hid hf
      clear hf
      go_enter Try.func20, Try.ntmps20
      go_wp2
      refine wp_loop_rounds 1 ?_
      rw [rounds_succ]
      go_wp2
      go_ret
      exact ⟨by rw [HF.out]; rfl, rfl⟩
    · have hf : x = n + m := by rw [← HX.out, satAdd, if_neg (by omega)]
      have HF := Lib.hid hf
      clear hf
      go_enter Try.func20, Try.ntmps20
      go_wp2
      refine wp_loop_rounds 2 ?_
      rw [rounds_succ]
      go_wp2
      rw [rounds_succ]
      go_wp2
      go_ret
      exact ⟨by rw [HF.out]; rfl, rfl⟩
end Go.Proofs.Ythijffpackkcnaa
