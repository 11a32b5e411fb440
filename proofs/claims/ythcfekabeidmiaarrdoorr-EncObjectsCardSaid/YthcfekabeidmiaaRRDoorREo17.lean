/- plane.far, plane.may at one, two, three points. (printed by wip/gen_may.py) fault.New. Words of 64 bits, and ints, in the walk's spelling. errors.Is(e, number) at any error that is none, a number, or a Fault that wraps such. pergolaalike.Code at any error that is none, a number, or a Fault that wraps such. -/
import Derived.Test.YthcfekabeidmiaaRRDoorREo1
import Derived.Test.YthcfekabeidmiaaRRDoorRChecked
import Derived.WalkKit
import Derived.LaidEql
import Derived.Stop.Asserts
import Derived.RowKitTokens
import Derived.Deep.LoopGhost
set_option linter.unusedSimpArgs false
set_option linter.unusedVariables false
namespace Go.Proofs.YthcfekabeidmiaaRRDoorR
/-! PlaneMay -/
section
open Go.RowKit

theorem may1_0 (b : Nat) (x y : Int) (w : World) (h0 : w.cell? ⟨b, 0, none⟩ = some (.int .i64 x)) (h1 : w.cell? ⟨b, 1, none⟩ = some (.int .i64 y)) (c0 : ¬ inC x) :
    Calls Tryd.prog 50 #[.slice (some ⟨b, 0, none⟩) 1 1] w fun e w' => e = .returned (.bool false) ∧ Below w.heap.size w w' := by
  have hb := World.block_lt_of_cell? w ⟨b, 0, none⟩ h0
  have f0 := Lib.hid (fun w => far_yes x w c0)
  clear c0
  go_enter Tryd.func50, Tryd.ntmps50
  go_wp2_with fail
  refine wp_loop_rounds 1 ?_
  rw [rounds_succ]
  go_wp2_with fail
  refine (f0.out _).mono ?_
  rintro e w' ⟨rfl, rfl⟩
  go_wp2_with fail
  go_ret
  exact ⟨rfl, (Below.refl _ _).alloc (Nat.le_refl _) _⟩
theorem may1_1 (b : Nat) (x y : Int) (w : World) (h0 : w.cell? ⟨b, 0, none⟩ = some (.int .i64 x)) (h1 : w.cell? ⟨b, 1, none⟩ = some (.int .i64 y)) (c0 : inC x) (c1 : ¬ inC y) :
    Calls Tryd.prog 50 #[.slice (some ⟨b, 0, none⟩) 1 1] w fun e w' => e = .returned (.bool false) ∧ Below w.heap.size w w' := by
  have hb := World.block_lt_of_cell? w ⟨b, 0, none⟩ h0
  have f0 := Lib.hid (fun w => far_no x w c0)
  have f1 := Lib.hid (fun w => far_yes y w c1)
  clear c0 c1
  go_enter Tryd.func50, Tryd.ntmps50
  go_wp2_with fail
  refine wp_loop_rounds 1 ?_
  rw [rounds_succ]
  go_wp2_with fail
  refine (f0.out _).mono ?_
  rintro e w' ⟨rfl, rfl⟩
  go_wp2_with fail
  refine (f1.out _).mono ?_
  rintro e w' ⟨rfl, rfl⟩
  go_wp2_with fail
  go_ret
  exact ⟨rfl, (Below.refl _ _).alloc (Nat.le_refl _) _⟩
theorem may1_ok (b : Nat) (x y : Int) (w : World) (h0 : w.cell? ⟨b, 0, none⟩ = some (.int .i64 x)) (h1 : w.cell? ⟨b, 1, none⟩ = some (.int .i64 y)) (c0 : inC x) (c1 : inC y) :
    Calls Tryd.prog 50 #[.slice (some ⟨b, 0, none⟩) 1 1] w fun e w' => e = .returned (.bool true) ∧ Below w.heap.size w w' := by
  have hb := World.block_lt_of_cell? w ⟨b, 0, none⟩ h0
  have f0 := Lib.hid (fun w => far_no x w c0)
  have f1 := Lib.hid (fun w => far_no y w c1)
  clear c0 c1
  go_enter Tryd.func50, Tryd.ntmps50
  go_wp2_with fail
  refine wp_loop_rounds 2 ?_
  rw [rounds_succ]
  go_wp2_with fail
  refine (f0.out _).mono ?_
  rintro e w' ⟨rfl, rfl⟩
  go_wp2_with fail
  refine (f1.out _).mono ?_
  rintro e w' ⟨rfl, rfl⟩
  go_wp2_with fail
  rw [rounds_succ]
  go_wp2_with fail
  go_ret
  exact ⟨rfl, (Below.refl _ _).alloc (Nat.le_refl _) _⟩
theorem may2_0 (b : Nat) (x y x2 y2 : Int) (w : World) (h0 : w.cell? ⟨b, 0, none⟩ = some (.int .i64 x)) (h1 : w.cell? ⟨b, 1, none⟩ = some (.int .i64 y)) (_h2 : w.cell? ⟨b, 2, none⟩ = some (.int .i64 x2)) (_h3 : w.cell? ⟨b, 3, none⟩ = some (.int .i64 y2)) (c0 : ¬ inC x) :
    Calls Tryd.prog 50 #[.slice (some ⟨b, 0, none⟩) 2 2] w fun e w' => e = .returned (.bool false) ∧ Below w.heap.size w w' := by
  have hb := World.block_lt_of_cell? w ⟨b, 0, none⟩ h0
  have f0 := Lib.hid (fun w => far_yes x w c0)
  clear c0
  go_enter Tryd.func50, Tryd.ntmps50
  go_wp2_with fail
  refine wp_loop_rounds 1 ?_
  rw [rounds_succ]
  go_wp2_with fail
  refine (f0.out _).mono ?_
  rintro e w' ⟨rfl, rfl⟩
  go_wp2_with fail
  go_ret
  exact ⟨rfl, (Below.refl _ _).alloc (Nat.le_refl _) _⟩
theorem may2_1 (b : Nat) (x y x2 y2 : Int) (w : World) (h0 : w.cell? ⟨b, 0, none⟩ = some (.int .i64 x)) (h1 : w.cell? ⟨b, 1, none⟩ = some (.int .i64 y)) (_h2 : w.cell? ⟨b, 2, none⟩ = some (.int .i64 x2)) (_h3 : w.cell? ⟨b, 3, none⟩ = some (.int .i64 y2)) (c0 : inC x) (c1 : ¬ inC y) :
    Calls Tryd.prog 50 #[.slice (some ⟨b, 0, none⟩) 2 2] w fun e w' => e = .returned (.bool false) ∧ Below w.heap.size w w' := by
  have hb := World.block_lt_of_cell? w ⟨b, 0, none⟩ h0
  have f0 := Lib.hid (fun w => far_no x w c0)
  have f1 := Lib.hid (fun w => far_yes y w c1)
  clear c0 c1
  go_enter Tryd.func50, Tryd.ntmps50
  go_wp2_with fail
  refine wp_loop_rounds 1 ?_
  rw [rounds_succ]
  go_wp2_with fail
  refine (f0.out _).mono ?_
  rintro e w' ⟨rfl, rfl⟩
  go_wp2_with fail
  refine (f1.out _).mono ?_
  rintro e w' ⟨rfl, rfl⟩
  go_wp2_with fail
  go_ret
  exact ⟨rfl, (Below.refl _ _).alloc (Nat.le_refl _) _⟩
theorem may2_2 (b : Nat) (x y x2 y2 : Int) (w : World) (h0 : w.cell? ⟨b, 0, none⟩ = some (.int .i64 x)) (h1 : w.cell? ⟨b, 1, none⟩ = some (.int .i64 y)) (h2 : w.cell? ⟨b, 2, none⟩ = some (.int .i64 x2)) (h3 : w.cell? ⟨b, 3, none⟩ = some (.int .i64 y2)) (c0 : inC x) (c1 : inC y) (c2 : ¬ inC x2) :
    Calls Tryd.prog 50 #[.slice (some ⟨b, 0, none⟩) 2 2] w fun e w' => e = .returned (.bool false) ∧ Below w.heap.size w w' := by
  have hb := World.block_lt_of_cell? w ⟨b, 0, none⟩ h0
  have f0 := Lib.hid (fun w => far_no x w c0)
  have f1 := Lib.hid (fun w => far_no y w c1)
  have f2 := Lib.hid (fun w => far_yes x2 w c2)
  clear c0 c1 c2
  go_enter Tryd.func50, Tryd.ntmps50
  go_wp2_with fail
  refine wp_loop_rounds 2 ?_
  rw [rounds_succ]
  go_wp2_with fail
  refine (f0.out _).mono ?_
  rintro e w' ⟨rfl, rfl⟩
  go_wp2_with fail
  refine (f1.out _).mono ?_
  rintro e w' ⟨rfl, rfl⟩
  go_wp2_with fail
  rw [rounds_succ]
  go_wp2_with fail
  refine (f2.out _).mono ?_
  rintro e w' ⟨rfl, rfl⟩
  go_wp2_with fail
  go_ret
  exact ⟨rfl, ((Below.refl _ _).alloc (Nat.le_refl _) _).alloc (by simp; try omega) _⟩
theorem may2_3 (b : Nat) (x y x2 y2 : Int) (w : World) (h0 : w.cell? ⟨b, 0, none⟩ = some (.int .i64 x)) (h1 : w.cell? ⟨b, 1, none⟩ = some (.int .i64 y)) (h2 : w.cell? ⟨b, 2, none⟩ = some (.int .i64 x2)) (h3 : w.cell? ⟨b, 3, none⟩ = some (.int .i64 y2)) (c0 : inC x) (c1 : inC y) (c2 : inC x2) (c3 : ¬ inC y2) :
    Calls Tryd.prog 50 #[.slice (some ⟨b, 0, none⟩) 2 2] w fun e w' => e = .returned (.bool false) ∧ Below w.heap.size w w' := by
  have hb := World.block_lt_of_cell? w ⟨b, 0, none⟩ h0
  have f0 := Lib.hid (fun w => far_no x w c0)
  have f1 := Lib.hid (fun w => far_no y w c1)
  have f2 := Lib.hid (fun w => far_no x2 w c2)
  have f3 := Lib.hid (fun w => far_yes y2 w c3)
  clear c0 c1 c2 c3
  go_enter Tryd.func50, Tryd.ntmps50
  go_wp2_with fail
  refine wp_loop_rounds 2 ?_
  rw [rounds_succ]
  go_wp2_with fail
  refine (f0.out _).mono ?_
  rintro e w' ⟨rfl, rfl⟩
  go_wp2_with fail
  refine (f1.out _).mono ?_
  rintro e w' ⟨rfl, rfl⟩
  go_wp2_with fail
  rw [rounds_succ]
  go_wp2_with fail
  refine (f2.out _).mono ?_
  rintro e w' ⟨rfl, rfl⟩
  go_wp2_with fail
  refine (f3.out _).mono ?_
  rintro e w' ⟨rfl, rfl⟩
  go_wp2_with fail
  go_ret
  exact ⟨rfl, ((Below.refl _ _).alloc (Nat.le_refl _) _).alloc (by simp; try omega) _⟩
theorem may2_ok (b : Nat) (x y x2 y2 : Int) (w : World) (h0 : w.cell? ⟨b, 0, none⟩ = some (.int .i64 x)) (h1 : w.cell? ⟨b, 1, none⟩ = some (.int .i64 y)) (h2 : w.cell? ⟨b, 2, none⟩ = some (.int .i64 x2)) (h3 : w.cell? ⟨b, 3, none⟩ = some (.int .i64 y2)) (c0 : inC x) (c1 : inC y) (c2 : inC x2) (c3 : inC y2) :
    Calls Tryd.prog 50 #[.slice (some ⟨b, 0, none⟩) 2 2] w fun e w' => e = .returned (.bool true) ∧ Below w.heap.size w w' := by
  have hb := World.block_lt_of_cell? w ⟨b, 0, none⟩ h0
  have f0 := Lib.hid (fun w => far_no x w c0)
  have f1 := Lib.hid (fun w => far_no y w c1)
  have f2 := Lib.hid (fun w => far_no x2 w c2)
  have f3 := Lib.hid (fun w => far_no y2 w c3)
  clear c0 c1 c2 c3
  go_enter Tryd.func50, Tryd.ntmps50
  go_wp2_with fail
  refine wp_loop_rounds 3 ?_
  rw [rounds_succ]
  go_wp2_with fail
  refine (f0.out _).mono ?_
  rintro e w' ⟨rfl, rfl⟩
  go_wp2_with fail
  refine (f1.out _).mono ?_
  rintro e w' ⟨rfl, rfl⟩
  go_wp2_with fail
  rw [rounds_succ]
  go_wp2_with fail
  refine (f2.out _).mono ?_
  rintro e w' ⟨rfl, rfl⟩
  go_wp2_with fail
  refine (f3.out _).mono ?_
  rintro e w' ⟨rfl, rfl⟩
  go_wp2_with fail
  rw [rounds_succ]
  go_wp2_with fail
  go_ret
  exact ⟨rfl, ((Below.refl _ _).alloc (Nat.le_refl _) _).alloc (by simp; try omega) _⟩
theorem may3_0 (b : Nat) (x y x2 y2 x3 y3 : Int) (w : World) (h0 : w.cell? ⟨b, 0, none⟩ = some (.int .i64 x)) (h1 : w.cell? ⟨b, 1, none⟩ = some (.int .i64 y)) (_h2 : w.cell? ⟨b, 2, none⟩ = some (.int .i64 x2)) (_h3 : w.cell? ⟨b, 3, none⟩ = some (.int .i64 y2)) (_h4 : w.cell? ⟨b, 4, none⟩ = some (.int .i64 x3)) (_h5 : w.cell? ⟨b, 5, none⟩ = some (.int .i64 y3)) (c0 : ¬ inC x) :
    Calls Tryd.prog 50 #[.slice (some ⟨b, 0, none⟩) 3 3] w fun e w' => e = .returned (.bool false) ∧ Below w.heap.size w w' := by
  have hb := World.block_lt_of_cell? w ⟨b, 0, none⟩ h0
  have f0 := Lib.hid (fun w => far_yes x w c0)
  clear c0
  go_enter Tryd.func50, Tryd.ntmps50
  go_wp2_with fail
  refine wp_loop_rounds 1 ?_
  rw [rounds_succ]
  go_wp2_with fail
  refine (f0.out _).mono ?_
  rintro e w' ⟨rfl, rfl⟩
  go_wp2_with fail
  go_ret
  exact ⟨rfl, (Below.refl _ _).alloc (Nat.le_refl _) _⟩
theorem may3_1 (b : Nat) (x y x2 y2 x3 y3 : Int) (w : World) (h0 : w.cell? ⟨b, 0, none⟩ = some (.int .i64 x)) (h1 : w.cell? ⟨b, 1, none⟩ = some (.int .i64 y)) (_h2 : w.cell? ⟨b, 2, none⟩ = some (.int .i64 x2)) (_h3 : w.cell? ⟨b, 3, none⟩ = some (.int .i64 y2)) (_h4 : w.cell? ⟨b, 4, none⟩ = some (.int .i64 x3)) (_h5 : w.cell? ⟨b, 5, none⟩ = some (.int .i64 y3)) (c0 : inC x) (c1 : ¬ inC y) :
    Calls Tryd.prog 50 #[.slice (some ⟨b, 0, none⟩) 3 3] w fun e w' => e = .returned (.bool false) ∧ Below w.heap.size w w' := by
  have hb := World.block_lt_of_cell? w ⟨b, 0, none⟩ h0
  have f0 := Lib.hid (fun w => far_no x w c0)
  have f1 := Lib.hid (fun w => far_yes y w c1)
  clear c0 c1
  go_enter Tryd.func50, Tryd.ntmps50
  go_wp2_with fail
  refine wp_loop_rounds 1 ?_
  rw [rounds_succ]
  go_wp2_with fail
  refine (f0.out _).mono ?_
  rintro e w' ⟨rfl, rfl⟩
  go_wp2_with fail
  refine (f1.out _).mono ?_
  rintro e w' ⟨rfl, rfl⟩
  go_wp2_with fail
  go_ret
  exact ⟨rfl, (Below.refl _ _).alloc (Nat.le_refl _) _⟩
theorem may3_2 (b : Nat) (x y x2 y2 x3 y3 : Int) (w : World) (h0 : w.cell? ⟨b, 0, none⟩ = some (.int .i64 x)) (h1 : w.cell? ⟨b, 1, none⟩ = some (.int .i64 y)) (h2 : w.cell? ⟨b, 2, none⟩ = some (.int .i64 x2)) (h3 : w.cell? ⟨b, 3, none⟩ = some (.int .i64 y2)) (_h4 : w.cell? ⟨b, 4, none⟩ = some (.int .i64 x3)) (_h5 : w.cell? ⟨b, 5, none⟩ = some (.int .i64 y3)) (c0 : inC x) (c1 : inC y) (c2 : ¬ inC x2) :
    Calls Tryd.prog 50 #[.slice (some ⟨b, 0, none⟩) 3 3] w fun e w' => e = .returned (.bool false) ∧ Below w.heap.size w w' := by
  have hb := World.block_lt_of_cell? w ⟨b, 0, none⟩ h0
  have f0 := Lib.hid (fun w => far_no x w c0)
  have f1 := Lib.hid (fun w => far_no y w c1)
  have f2 := Lib.hid (fun w => far_yes x2 w c2)
  clear c0 c1 c2
  go_enter Tryd.func50, Tryd.ntmps50
  go_wp2_with fail
  refine wp_loop_rounds 2 ?_
  rw [rounds_succ]
  go_wp2_with fail
  refine (f0.out _).mono ?_
  rintro e w' ⟨rfl, rfl⟩
  go_wp2_with fail
  refine (f1.out _).mono ?_
  rintro e w' ⟨rfl, rfl⟩
  go_wp2_with fail
  rw [rounds_succ]
  go_wp2_with fail
  refine (f2.out _).mono ?_
  rintro e w' ⟨rfl, rfl⟩
  go_wp2_with fail
  go_ret
  exact ⟨rfl, ((Below.refl _ _).alloc (Nat.le_refl _) _).alloc (by simp; try omega) _⟩
theorem may3_3 (b : Nat) (x y x2 y2 x3 y3 : Int) (w : World) (h0 : w.cell? ⟨b, 0, none⟩ = some (.int .i64 x)) (h1 : w.cell? ⟨b, 1, none⟩ = some (.int .i64 y)) (h2 : w.cell? ⟨b, 2, none⟩ = some (.int .i64 x2)) (h3 : w.cell? ⟨b, 3, none⟩ = some (.int .i64 y2)) (_h4 : w.cell? ⟨b, 4, none⟩ = some (.int .i64 x3)) (_h5 : w.cell? ⟨b, 5, none⟩ = some (.int .i64 y3)) (c0 : inC x) (c1 : inC y) (c2 : inC x2) (c3 : ¬ inC y2) :
    Calls Tryd.prog 50 #[.slice (some ⟨b, 0, none⟩) 3 3] w fun e w' => e = .returned (.bool false) ∧ Below w.heap.size w w' := by
  have hb := World.block_lt_of_cell? w ⟨b, 0, none⟩ h0
  have f0 := Lib.hid (fun w => far_no x w c0)
  have f1 := Lib.hid (fun w => far_no y w c1)
  have f2 := Lib.hid (fun w => far_no x2 w c2)
  have f3 := Lib.hid (fun w => far_yes y2 w c3)
  clear c0 c1 c2 c3
  go_enter Tryd.func50, Tryd.ntmps50
  go_wp2_with fail
  refine wp_loop_rounds 2 ?_
  rw [rounds_succ]
  go_wp2_with fail
  refine (f0.out _).mono ?_
  rintro e w' ⟨rfl, rfl⟩
  go_wp2_with fail
  refine (f1.out _).mono ?_
  rintro e w' ⟨rfl, rfl⟩
  go_wp2_with fail
  rw [rounds_succ]
  go_wp2_with fail
  refine (f2.out _).mono ?_
  rintro e w' ⟨rfl, rfl⟩
  go_wp2_with fail
  refine (f3.out _).mono ?_
  rintro e w' ⟨rfl, rfl⟩
  go_wp2_with fail
  go_ret
  exact ⟨rfl, ((Below.refl _ _).alloc (Nat.le_refl _) _).alloc (by simp; try omega) _⟩
theorem may3_4 (b : Nat) (x y x2 y2 x3 y3 : Int) (w : World) (h0 : w.cell? ⟨b, 0, none⟩ = some (.int .i64 x)) (h1 : w.cell? ⟨b, 1, none⟩ = some (.int .i64 y)) (h2 : w.cell? ⟨b, 2, none⟩ = some (.int .i64 x2)) (h3 : w.cell? ⟨b, 3, none⟩ = some (.int .i64 y2)) (h4 : w.cell? ⟨b, 4, none⟩ = some (.int .i64 x3)) (h5 : w.cell? ⟨b, 5, none⟩ = some (.int .i64 y3)) (c0 : inC x) (c1 : inC y) (c2 : inC x2) (c3 : inC y2) (c4 : ¬ inC x3) :
    Calls Tryd.prog 50 #[.slice (some ⟨b, 0, none⟩) 3 3] w fun e w' => e = .returned (.bool false) ∧ Below w.heap.size w w' := by
  have hb := World.block_lt_of_cell? w ⟨b, 0, none⟩ h0
  have f0 := Lib.hid (fun w => far_no x w c0)
  have f1 := Lib.hid (fun w => far_no y w c1)
  have f2 := Lib.hid (fun w => far_no x2 w c2)
  have f3 := Lib.hid (fun w => far_no y2 w c3)
  have f4 := Lib.hid (fun w => far_yes x3 w c4)
  clear c0 c1 c2 c3 c4
  go_enter Tryd.func50, Tryd.ntmps50
  go_wp2_with fail
  refine wp_loop_rounds 3 ?_
  rw [rounds_succ]
  go_wp2_with fail
  refine (f0.out _).mono ?_
  rintro e w' ⟨rfl, rfl⟩
  go_wp2_with fail
  refine (f1.out _).mono ?_
  rintro e w' ⟨rfl, rfl⟩
  go_wp2_with fail
  rw [rounds_succ]
  go_wp2_with fail
  refine (f2.out _).mono ?_
  rintro e w' ⟨rfl, rfl⟩
  go_wp2_with fail
  refine (f3.out _).mono ?_
  rintro e w' ⟨rfl, rfl⟩
  go_wp2_with fail
  rw [rounds_succ]
  go_wp2_with fail
  refine (f4.out _).mono ?_
  rintro e w' ⟨rfl, rfl⟩
  go_wp2_with fail
  go_ret
  exact ⟨rfl, (((Below.refl _ _).alloc (Nat.le_refl _) _).alloc (by simp; try omega) _).alloc (by simp; try omega) _⟩
theorem may3_5 (b : Nat) (x y x2 y2 x3 y3 : Int) (w : World) (h0 : w.cell? ⟨b, 0, none⟩ = some (.int .i64 x)) (h1 : w.cell? ⟨b, 1, none⟩ = some (.int .i64 y)) (h2 : w.cell? ⟨b, 2, none⟩ = some (.int .i64 x2)) (h3 : w.cell? ⟨b, 3, none⟩ = some (.int .i64 y2)) (h4 : w.cell? ⟨b, 4, none⟩ = some (.int .i64 x3)) (h5 : w.cell? ⟨b, 5, none⟩ = some (.int .i64 y3)) (c0 : inC x) (c1 : inC y) (c2 : inC x2) (c3 : inC y2) (c4 : inC x3) (c5 : ¬ inC y3) :
    Calls Tryd.prog 50 #[.slice (some ⟨b, 0, none⟩) 3 3] w fun e w' => e = .returned (.bool false) ∧ Below w.heap.size w w' := by
  have hb := World.block_lt_of_cell? w ⟨b, 0, none⟩ h0
  have f0 := Lib.hid (fun w => far_no x w c0)
  have f1 := Lib.hid (fun w => far_no y w c1)
  have f2 := Lib.hid (fun w => far_no x2 w c2)
  have f3 := Lib.hid (fun w => far_no y2 w c3)
  have f4 := Lib.hid (fun w => far_no x3 w c4)
  have f5 := Lib.hid (fun w => far_yes y3 w c5)
  clear c0 c1 c2 c3 c4 c5
  go_enter Tryd.func50, Tryd.ntmps50
  go_wp2_with fail
  refine wp_loop_rounds 3 ?_
  rw [rounds_succ]
  go_wp2_with fail
  refine (f0.out _).mono ?_
  rintro e w' ⟨rfl, rfl⟩
  go_wp2_with fail
  refine (f1.out _).mono ?_
  rintro e w' ⟨rfl, rfl⟩
  go_wp2_with fail
  rw [rounds_succ]
  go_wp2_with fail
  refine (f2.out _).mono ?_
  rintro e w' ⟨rfl, rfl⟩
  go_wp2_with fail
  refine (f3.out _).mono ?_
  rintro e w' ⟨rfl, rfl⟩
  go_wp2_with fail
  rw [rounds_succ]
  go_wp2_with fail
  refine (f4.out _).mono ?_
  rintro e w' ⟨rfl, rfl⟩
  go_wp2_with fail
  refine (f5.out _).mono ?_
  rintro e w' ⟨rfl, rfl⟩
  go_wp2_with fail
  go_ret
  exact ⟨rfl, (((Below.refl _ _).alloc (Nat.le_refl _) _).alloc (by simp; try omega) _).alloc (by simp; try omega) _⟩
theorem may3_ok (b : Nat) (x y x2 y2 x3 y3 : Int) (w : World) (h0 : w.cell? ⟨b, 0, none⟩ = some (.int .i64 x)) (h1 : w.cell? ⟨b, 1, none⟩ = some (.int .i64 y)) (h2 : w.cell? ⟨b, 2, none⟩ = some (.int .i64 x2)) (h3 : w.cell? ⟨b, 3, none⟩ = some (.int .i64 y2)) (h4 : w.cell? ⟨b, 4, none⟩ = some (.int .i64 x3)) (h5 : w.cell? ⟨b, 5, none⟩ = some (.int .i64 y3)) (c0 : inC x) (c1 : inC y) (c2 : inC x2) (c3 : inC y2) (c4 : inC x3) (c5 : inC y3) :
    Calls Tryd.prog 50 #[.slice (some ⟨b, 0, none⟩) 3 3] w fun e w' => e = .returned (.bool true) ∧ Below w.heap.size w w' := by
  have hb := World.block_lt_of_cell? w ⟨b, 0, none⟩ h0
  have f0 := Lib.hid (fun w => far_no x w c0)
  have f1 := Lib.hid (fun w => far_no y w c1)
  have f2 := Lib.hid (fun w => far_no x2 w c2)
  have f3 := Lib.hid (fun w => far_no y2 w c3)
  have f4 := Lib.hid (fun w => far_no x3 w c4)
  have f5 := Lib.hid (fun w => far_no y3 w c5)
  clear c0 c1 c2 c3 c4 c5
  go_enter Tryd.func50, Tryd.ntmps50
  go_wp2_with fail
  refine wp_loop_rounds 4 ?_
  rw [rounds_succ]
  go_wp2_with fail
  refine (f0.out _).mono ?_
  rintro e w' ⟨rfl, rfl⟩
  go_wp2_with fail
  refine (f1.out _).mono ?_
  rintro e w' ⟨rfl, rfl⟩
  go_wp2_with fail
  rw [rounds_succ]
  go_wp2_with fail
  refine (f2.out _).mono ?_
  rintro e w' ⟨rfl, rfl⟩
  go_wp2_with fail
  refine (f3.out _).mono ?_
  rintro e w' ⟨rfl, rfl⟩
  go_wp2_with fail
  rw [rounds_succ]
  go_wp2_with fail
  refine (f4.out _).mono ?_
  rintro e w' ⟨rfl, rfl⟩
  go_wp2_with fail
  refine (f5.out _).mono ?_
  rintro e w' ⟨rfl, rfl⟩
  go_wp2_with fail
  rw [rounds_succ]
  go_wp2_with fail
  go_ret
  exact ⟨rfl, (((Below.refl _ _).alloc (Nat.le_refl _) _).alloc (by simp; try omega) _).alloc (by simp; try omega) _⟩
end

/-! Err -/
section
open Go.RowKit

theorem New_nil (op : ByteArray) (id : Int) (w : World) :
    Calls Tryd.prog 20 #[.string op, .int .i64 id, .nilIface] w (ErRet w .none) := by
  go_enter Tryd.func20, Tryd.ntmps20
  go_wp2
  go_ret
  exact ⟨_, rfl, rfl, Below.refl _ _⟩

theorem New_num (op : ByteArray) (id : Int) (k : Int) (w : World) :
    Calls Tryd.prog 20 #[.string op, .int .i64 id, .iface 54 (.int .i64 k)] w (ErRet w (.fault op id (.num k))) := by
  go_enter Tryd.func20, Tryd.ntmps20
  go_wp2
  go_ret
  exact ⟨_, rfl, ⟨_, _, rfl, by simp, by simp, by simp, by simp, rfl⟩, (Below.refl _ _).alloc (Nat.le_refl _) _⟩

theorem New_er (op : ByteArray) (id : Int) (E : Er) (v : Value) (w : World) (hv : E.Is w v) :
    Calls Tryd.prog 20 #[.string op, .int .i64 id, v] w (ErRet w (E.wrap op id)) := by
  by_cases hE : E = .none
  · subst hE
    obtain rfl : v = .nilIface := hv
    exact New_nil op id w
  · obtain ⟨T, x, rfl⟩ : ∃ T x, v = .iface T x := by
      cases E with
      | none => exact absurd rfl hE
      | num j => exact ⟨_, _, hv⟩
      | fault a b c => obtain ⟨b, u, h, _⟩ := hv; exact ⟨_, _, h⟩
    have hw : E.wrap op id = .fault op id E := by cases E <;> first | rfl | exact absurd rfl hE
    rw [hw]
    have HE := Lib.hid hE; clear hE
    have hb : Below w.heap.size w (w.alloc (.cells #[.string op, .int .i64 id, .iface T x] 65)) := (Below.refl _ _).alloc (Nat.le_refl _) _
    have hv' := Er.Is.below hb hv
    go_enter Tryd.func20, Tryd.ntmps20
    go_wp2
    go_ret
    exact ⟨_, rfl, ⟨_, _, rfl, by simp, by simp, by simp, by simp, hv'⟩, hb⟩
end

/-! U64 -/
section
open Go.RowKit

theorem or_add64 (a b i : Nat) (h : a < 2 ^ i) : a ||| (b * 2 ^ i) = a + b * 2 ^ i := by
  rw [Nat.or_comm, ← Nat.shiftLeft_eq, ← Nat.shiftLeft_add_eq_or_of_lt h, Nat.add_comm]
theorem ofInt_nat64 (a : Nat) (ha : a < 18446744073709551616) : (BitVec.ofInt 64 (a : Int)).toNat = a := by
  rw [BitVec.ofInt_natCast]; simp; omega
theorem wrap_u64_nat (n : Nat) (h : n < 18446744073709551616) : IntKind.u64.wrap (n : Int) = (n : Int) := by
  simp [IntKind.wrap, IntKind.bits, IntKind.signed]; omega
theorem or_u64_nat (a b : Nat) (ha : a < 18446744073709551616) (hb : b < 18446744073709551616) : bits .or .u64 (a : Int) (b : Int) = ((a ||| b : Nat) : Int) := by
  have hx : a ||| b < 2 ^ 64 := Nat.or_lt_two_pow (by omega) (by omega)
  show IntKind.u64.wrap ((BitVec.ofInt 64 (a : Int) ||| BitVec.ofInt 64 (b : Int)).toNat : Int) = _
  rw [BitVec.toNat_or, ofInt_nat64 a ha, ofInt_nat64 b hb]
  exact wrap_u64_nat _ hx
theorem and_u64_nat (a b : Nat) (ha : a < 18446744073709551616) (hb : b < 18446744073709551616) : bits .and .u64 (a : Int) (b : Int) = ((a &&& b : Nat) : Int) := by
  have hx : a &&& b < 2 ^ 64 := Nat.and_lt_two_pow _ (by omega)
  show IntKind.u64.wrap ((BitVec.ofInt 64 (a : Int) &&& BitVec.ofInt 64 (b : Int)).toNat : Int) = _
  rw [BitVec.toNat_and, ofInt_nat64 a ha, ofInt_nat64 b hb]
  exact wrap_u64_nat _ hx
theorem and1_u64 (a : Nat) (ha : a < 18446744073709551616) : bits .and .u64 (a : Int) 1 = ((a % 2 : Nat) : Int) := by
  have := and_u64_nat a 1 ha (by omega)
  rw [Nat.and_one_is_mod] at this
  exact this
theorem and3_u64 (a : Nat) (ha : a < 18446744073709551616) : bits .and .u64 (a : Int) 3 = ((a % 4 : Nat) : Int) := by
  have := and_u64_nat a 3 ha (by omega)
  rw [show a &&& 3 = a % 4 from Nat.and_two_pow_sub_one_eq_mod a 2] at this
  exact this
theorem or_i64_nat (a b : Nat) (ha : a < 9223372036854775808) (hb : b < 9223372036854775808) : bits .or .i64 (a : Int) (b : Int) = ((a ||| b : Nat) : Int) := by
  have hx : a ||| b < 2 ^ 63 := Nat.or_lt_two_pow (by omega) (by omega)
  show IntKind.i64.wrap ((BitVec.ofInt 64 (a : Int) ||| BitVec.ofInt 64 (b : Int)).toNat : Int) = _
  rw [BitVec.toNat_or, ofInt_nat64 a (by omega), ofInt_nat64 b (by omega)]
  exact IntWalk.i64_in _ (by omega)
theorem cast_pow2 (k : Nat) : (2 : Int) ^ k = ((2 ^ k : Nat) : Int) := by simp
theorem cast_div2 (a k : Nat) : (a : Int) / 2 ^ k = ((a / 2 ^ k : Nat) : Int) := by rw [cast_pow2]; simp
theorem cast_mul2 (a k : Nat) : (a : Int) * 2 ^ k = ((a * 2 ^ k : Nat) : Int) := by rw [cast_pow2]; simp
theorem four_pow (k : Nat) : (4 : Nat) ^ k = 2 ^ (2 * k) := by rw [Nat.pow_mul]
end

/-! Is -/
section
open Go.RowKit Go.Extern.Stop Go.Stop Go.Extern

/-! ### equality of two interface values of one integer type -/
section
variable {P : Program} (w : World)
theorem run_equalIn_iface_int (d : Nat) {ti tn : TypeId} {ms : Array (String × TypeId)} {i : TypeInfo} {k : IntKind} (a b : Int)
    (hi : P.underlying ti = some (.interface ms)) (hn : P.underlying tn = some (.int k)) (hinfo : P.info? tn = some i) (hcomp : i.comparable = true) :
    (Op.equalIn (d + 2) ti (.iface tn (.int k a)) (.iface tn (.int k b))).run P w = .ok (a == b) w := by
  simp [Op.equalIn, run_underlying hi, run_underlying hn, typeInfo, hinfo, hcomp]
theorem run_eql_iface_int {ti tn : TypeId} {ms : Array (String × TypeId)} {i : TypeInfo} {k : IntKind} (a b : Int)
    (hi : P.underlying ti = some (.interface ms)) (hn : P.underlying tn = some (.int k)) (hinfo : P.info? tn = some i) (hcomp : i.comparable = true) :
    (binOp .eql ti (.iface tn (.int k a)) (.iface tn (.int k b))).run P w = .ok (.bool (a == b)) w := by
  simp only [binOp]
  simp [Op.equal, Op.maxDepth, run_equalIn_iface_int w 9998 a b hi hn hinfo hcomp]
end

/-! ### closed facts -/
theorem isTypeOf (v : Value) (w : World) : (Extern.ReflectliteType.typeOf #[.iface 54 v]).run Tryd.prog w = .ok (.iface 97 (.agg #[.pointer (some ⟨1, 54, none⟩)])) w := by kernel_rfl
def comparableFn : Array Value → Sem Value := Extern.ReflectliteType.method fun t => do Extern.Rtype.noPackHeld "Comparable" t; pure (.bool (← typeInfo t).comparable)
theorem isComparable (w : World) : (comparableFn #[.agg #[.pointer (some ⟨1, 54, none⟩)]]).run Tryd.prog w = .ok (.bool true) w := by kernel_rfl
theorem isMethodComparable (v : Value) (w : World) : (Go.method 253 97 v "Comparable").run Tryd.prog w = .ok (98, v) w := by kernel_rfl
theorem isComp : (Tryd.prog.info? 54).map (·.comparable) = some true := by kernel_rfl
theorem noIsE (v : Value) (xT : TypeId) (w : World) : (Instr.typeAssert (.iface 54 v) xT 99 true).run Tryd.prog w = .ok (.tuple #[.nilIface, .bool false]) w := run_typeAssert_lacksB Tryd.underlying99 (by kernel_rfl) (by kernel_rfl) v xT w
theorem noUnwrapE (v : Value) (xT : TypeId) (w : World) : (Instr.typeAssert (.iface 54 v) xT 102 true).run Tryd.prog w = .ok (.tuple #[.nilIface, .bool false]) w := run_typeAssert_lacksB Tryd.underlying102 (by kernel_rfl) (by kernel_rfl) v xT w
theorem noUnwrapsE (v : Value) (xT : TypeId) (w : World) : (Instr.typeAssert (.iface 54 v) xT 104 true).run Tryd.prog w = .ok (.tuple #[.nilIface, .bool false]) w := run_typeAssert_lacksB Tryd.underlying104 (by kernel_rfl) (by kernel_rfl) v xT w
theorem noIsW (v : Value) (xT : TypeId) (w : World) : (Instr.typeAssert (.iface 61 v) xT 99 true).run Tryd.prog w = .ok (.tuple #[.nilIface, .bool false]) w := run_typeAssert_lacksB Tryd.underlying99 (by kernel_rfl) (by kernel_rfl) v xT w
theorem hasUnwrapW (v : Value) (xT : TypeId) (w : World) : (Instr.typeAssert (.iface 61 v) xT 102 true).run Tryd.prog w = .ok (.tuple #[.iface 61 v, .bool true]) w := run_typeAssert_hasB Tryd.underlying102 (by kernel_rfl) v xT w
theorem methodUnwrap (v : Value) (w : World) : (Go.method 253 61 v "Unwrap").run Tryd.prog w = .ok (92, v) w := by kernel_rfl

/-- (*Fault).Unwrap at a Fault that is not nil -/
theorem Unwrap_some (b : Nat) (u : Value) (w : World) (h : w.cell? ⟨b, 2, none⟩ = some u) :
    Calls Tryd.prog 92 #[.pointer (some ⟨b, 0, none⟩)] w fun e w' => e = .returned u ∧ w = w' := by
  go_enter Tryd.func92, Tryd.ntmps92
  go_wp2
  go_ret
  exact ⟨rfl, rfl⟩

/-- does an error hold that number? -/
def Er.has : Er → Int → Bool
  | .none, _ => false
  | .num j, k => j == k
  | .fault _ _ e, k => e.has k
def Er.depth : Er → Nat
  | .fault _ _ e => e.depth + 1
  | _ => 0

theorem is_loop (E : Er) (k : Int) (v : Value) (w : World) (hv : E.Is w v) (hn : E ≠ .none) :
    Calls Tryd.prog 34 #[v, .iface 54 (.int .i64 k), .bool true] w fun e w' => e = .returned (.bool (E.has k)) ∧ w = w' := by
  obtain ⟨i, hi, hcmp⟩ := Option.map_eq_some_iff.1 isComp
  have nE := noIsE
  have uE := noUnwrapE
  have vE := noUnwrapsE
  have nW := noIsW
  have uW := hasUnwrapW
  have mU := methodUnwrap
  have HV := Lib.hid hv
  go_enter Tryd.func34, Tryd.ntmps34
  go_wp2
  go_loopg [0] E.depth (fun n u wr => w = wr ∧ ∃ e : Er, Er.Is w e u ∧ e.depth ≤ n ∧ Hid (e ≠ .none ∧ e.has k = E.has k))
  case atStart => exact ⟨rfl, E, hv, Nat.le_refl _, hn, rfl⟩
  case round =>
    obtain ⟨rfl, e, he, hd, hh⟩ := hrel
    cases e with
    | none => exact (hh.out.1 rfl).elim
    | num j =>
      obtain rfl := he
      have heq := run_eql_iface_int (P := Tryd.prog) w j k Tryd.underlying28 Tryd.underlying54 hi hcmp
      cases hjk : j == k with
      | true =>
        have hfin : E.has k = true := by rw [← hh.out.2]; exact hjk
        go_wp2
        go_ret
        exact ⟨by rw [hfin]; rfl, rfl⟩
      | false =>
        have hfin : E.has k = false := by rw [← hh.out.2]; exact hjk
        go_wp2
        go_ret
        exact ⟨by rw [hfin]; rfl, rfl⟩
    | fault op id inner =>
      obtain ⟨b, x, rfl, hlt, h1, h2, h3, h4⟩ := he
      have hty := run_eql_iface_types (P := Tryd.prog) 61 54 (.pointer (some ⟨b, 0, none⟩)) (.int .i64 k) Tryd.underlying28 (by decide) w
      have hd' : inner.depth < gk := hd
      cases inner with
      | none =>
        obtain rfl : x = .nilIface := h4
        have hfin : E.has k = false := by rw [← hh.out.2]; rfl
        go_wp2_with (go_at_call 92; refine (Unwrap_some b _ _ h3).mono ?_; rintro e w' ⟨rfl, rfl⟩)
        go_ret
        exact ⟨by rw [hfin]; rfl, rfl⟩
      | num j =>
        obtain rfl : x = .iface 54 (.int .i64 j) := h4
        have hh' : Hid ((Er.num j) ≠ .none ∧ (Er.num j).has k = E.has k) := ⟨(fun h => by cases h), hh.out.2⟩
        go_wp2_with (go_at_call 92; refine (Unwrap_some b _ _ h3).mono ?_; rintro e w' ⟨rfl, rfl⟩)
        go_roundg (Er.num j).depth
        case measure => exact hd'
        case rel => exact ⟨rfl, Er.num j, rfl, Nat.le_refl _, hh'⟩
      | fault op' id' inner' =>
        obtain ⟨b', x', hx, rest⟩ := h4
        have hh' : Hid ((Er.fault op' id' inner') ≠ .none ∧ (Er.fault op' id' inner').has k = E.has k) := ⟨(fun h => by cases h), hh.out.2⟩
        subst hx
        go_wp2_with (go_at_call 92; refine (Unwrap_some b _ _ h3).mono ?_; rintro e w' ⟨rfl, rfl⟩)
        go_roundg (Er.fault op' id' inner').depth
        case measure => exact hd'
        case rel => exact ⟨rfl, Er.fault op' id' inner', ⟨b', x', rfl, rest⟩, Nat.le_refl _, hh'⟩

/-- errors.Is(e, number) -/
theorem Is_er (E : Er) (k : Int) (v : Value) (w : World) (hv : E.Is w v) :
    Calls Tryd.prog 23 #[v, .iface 54 (.int .i64 k)] w fun e w' => e = .returned (.bool (E.has k)) ∧ w = w' := by
  have h8 := @run_callFunc_extern Tryd.prog 33 _ Extern.ReflectliteType.typeOf Tryd.func33 (by kernel_rfl) (by kernel_rfl) (by kernel_rfl) (by kernel_rfl)
  have h32 := @run_callFunc_extern Tryd.prog 98 _ comparableFn Tryd.func98 (by kernel_rfl) (by kernel_rfl) (by kernel_rfl) (by kernel_rfl)
  have tT := isTypeOf
  have cT := isComparable
  have mR := isMethodComparable
  cases E with
  | none =>
    obtain rfl : v = .nilIface := hv
    have hn := run_eql_iface_nil_left (P := Tryd.prog) w 54 (.int .i64 k) Tryd.underlying28
    go_enter Tryd.func23, Tryd.ntmps23
    go_wp2
    go_ret
    exact ⟨rfl, rfl⟩
  | num j =>
    have hv' := hv
    obtain rfl : v = .iface 54 (.int .i64 j) := hv
    go_enter Tryd.func23, Tryd.ntmps23
    go_wp2_with (go_at_call 34; refine (is_loop (Er.num j) k _ _ hv' (fun h => by cases h)).mono ?_; rintro e w' ⟨rfl, rfl⟩)
    go_ret
    exact ⟨rfl, rfl⟩
  | fault op id inner =>
    have hv' := hv
    obtain ⟨b, x, rfl, _⟩ := hv
    go_enter Tryd.func23, Tryd.ntmps23
    go_wp2_with (go_at_call 34; refine (is_loop (Er.fault op id inner) k _ _ hv' (fun h => by cases h)).mono ?_; rintro e w' ⟨rfl, rfl⟩)
    go_ret
    exact ⟨rfl, rfl⟩

end

/-! CodeA -/
section
open Go.RowKit Go.Extern.Stop Go.Stop Go.Extern

/-- the number at an error's root -/
def Er.root : Er → Option Int
  | .none => Option.none
  | .num j => some j
  | .fault _ _ e => e.root
/-- the number of an error, as pergolaalike.Code has it -/
def Er.code (e : Er) : Int :=
  match e with
  | .none => 0
  | e => match e.root with
    | some j => if 1 ≤ j ∧ j ≤ 15 then j else -1
    | Option.none => -1
theorem Er.has_root (k : Int) : ∀ e : Er, e.has k = (e.root == some k)
  | .none => rfl
  | .num j => by simp [Er.has, Er.root]
  | .fault _ _ e => by rw [Er.has, Er.root, Er.has_root k e]
theorem Er.code_hit {e : Er} {k : Int} (h : e.has k = true) (h1 : 1 ≤ k) (h2 : k ≤ 15) : e.code = k := by
  rw [Er.has_root] at h
  have h' : e.root = some k := by simpa using h
  cases e <;> simp [Er.code, Er.root] at h' ⊢
  · subst h'; simp [h1, h2]
  · rw [h']; simp [h1, h2]
theorem Er.code_miss {e : Er} (hn : e ≠ .none) (h : ∀ k : Nat, 1 ≤ k → k < 16 → e.has (k : Int) = false) : e.code = -1 := by
  have hr : ∀ j : Int, e.root = some j → ¬ (1 ≤ j ∧ j ≤ 15) := by
    intro j hj hb
    have := h j.toNat (by omega) (by omega)
    rw [Er.has_root, hj] at this
    simp [show ((j.toNat : Nat) : Int) = j from by omega] at this
  cases e with
  | none => exact absurd rfl hn
  | num j => have := hr j rfl; simp [Er.code, Er.root, this]
  | fault a b c =>
    cases hc : c.root with
    | none => simp [Er.code, Er.root, hc]
    | some j => have := hr j hc; simp [Er.code, Er.root, hc, this]

theorem Code_er (E : Er) (v : Value) (w : World) (hv : E.Is w v) :
    Calls Tryd.prog 10 #[v] w fun e w' => e = .returned (.int .i64 E.code) ∧ w = w' := by
  by_cases hE : E = .none
  · subst hE
    obtain rfl : v = .nilIface := hv
    go_enter Tryd.func10, Tryd.ntmps10
    go_wp2
    go_ret
    exact ⟨rfl, rfl⟩
  · obtain ⟨T, x, rfl⟩ : ∃ T x, v = .iface T x := by
      cases E with
      | none => exact absurd rfl hE
      | num j => exact ⟨_, _, hv⟩
      | fault a b c => obtain ⟨b, u, h, _⟩ := hv; exact ⟨_, _, h⟩
    have HE := Lib.hid hE; clear hE
    go_enter Tryd.func10, Tryd.ntmps10
    go_wp2
    go_loop [3] (fun i => ∃ k : Nat, 1 ≤ k ∧ k ≤ 16 ∧ i = .int .i64 k ∧ Hid (∀ j : Nat, 1 ≤ j → j < k → E.has (j : Int) = false)) (fun i => 16 - (intOf i).toNat)
    case atStart => exact ⟨1, by omega, by omega, rfl, fun j h1 h2 => by omega⟩
    case round =>
      obtain ⟨k, hk1, hk2, rfl, hm⟩ := hrel
      by_cases hlt : k ≤ 15
      · cases hh : E.has (k : Int) with
        | true =>
          have hfin := Er.code_hit hh (by omega) (by omega)
          go_wp2_with fail
          refine (Is_er E k _ _ hv).mono ?_
          rw [hh]
          rintro e w' ⟨rfl, rfl⟩
          go_wp2
          go_ret
          exact ⟨by rw [hfin]; rfl, rfl⟩
        | false =>
          have hm' : Hid (∀ j : Nat, 1 ≤ j → j < k + 1 → E.has (j : Int) = false) := fun j h1 h2 => by
            by_cases hj : j = k
            · subst hj; exact hh
            · exact hm.out j h1 (by omega)
          go_wp2_with fail
          refine (Is_er E k _ _ hv).mono ?_
          rw [hh]
          rintro e w' ⟨rfl, rfl⟩
          go_wp2
          go_round
          case rel => exact ⟨k + 1, by omega, by omega, by go_num, hm'⟩
          case measure => simp [intOf]; omega
      · have hfin := Er.code_miss HE.out (fun j h1 h2 => hm.out j h1 (by omega))
        go_wp2
        go_ret
        exact ⟨rfl, rfl⟩
end

end Go.Proofs.YthcfekabeidmiaaRRDoorR
