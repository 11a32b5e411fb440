/- plane.far, plane.may at one, two, three points. (printed by wip/gen_may.py) -/
import Derived.Test.YthcfekabeidmiaaRREr
namespace Go.Proofs.YthcfekabeidmiaaRR
open Go.RowKit

/-- may a coordinate be? -/
def inC (n : Int) : Prop := -1073741823 ≤ n ∧ n ≤ 1073741823
instance (n : Int) : Decidable (inC n) := inferInstanceAs (Decidable (_ ∧ _))
/-- may a point be? -/
def inP (x y : Int) : Prop := inC x ∧ inC y
instance (x y : Int) : Decidable (inP x y) := inferInstanceAs (Decidable (_ ∧ _))

theorem far_no (n : Int) (w : World) (h : inC n) : Calls Try.prog 28 #[.int .i64 n] w fun e w' => e = .returned (.bool false) ∧ w = w' := by
  obtain ⟨h1, h2⟩ := h
  have t1 : decide (n < -1073741823) = false := by simp; omega
  have t2 : decide (1073741823 < n) = false := by simp; omega
  go_enter Try.func28, Try.ntmps28
  go_wp2
  go_ret
  exact ⟨rfl, rfl⟩
theorem far_yes (n : Int) (w : World) (h : ¬ inC n) : Calls Try.prog 28 #[.int .i64 n] w fun e w' => e = .returned (.bool true) ∧ w = w' := by
  by_cases h1 : n < -1073741823
  · have t1 : decide (n < -1073741823) = true := by simp; omega
    clear h
    go_enter Try.func28, Try.ntmps28
    go_wp2
    go_ret
    exact ⟨rfl, rfl⟩
  · have t1 : decide (n < -1073741823) = false := by simp; omega
    have t2 : decide (1073741823 < n) = true := by unfold inC at h; simp; omega
    clear h
    go_enter Try.func28, Try.ntmps28
    go_wp2
    go_ret
    exact ⟨rfl, rfl⟩

theorem may1_0 (b : Nat) (x y : Int) (w : World) (h0 : w.cell? ⟨b, 0, none⟩ = some (.int .i64 x)) (h1 : w.cell? ⟨b, 1, none⟩ = some (.int .i64 y)) (c0 : ¬ inC x) :
    Calls Try.prog 25 #[.slice (some ⟨b, 0, none⟩) 1 1] w fun e w' => e = .returned (.bool false) ∧ Below w.heap.size w w' := by
  have hb := World.block_lt_of_cell? w ⟨b, 0, none⟩ h0
  have f0 := Lib.hid (fun w => far_yes x w c0)
  clear c0
  go_enter Try.func25, Try.ntmps25
  go_wp2_with fail
  refine wp_loop_rounds 1 ?_
  rw [rounds_succ]
  go_wp2_with fail
  refine (f0.out _).mono ?_
  rintro e w' ⟨rfl, rfl⟩
  go_wp2_with fail
  go_ret
  exact ⟨rfl, (Below.refl _ _).alloc (Nat.le_refl _) _⟩
theorem may1_1 (b : Nat) (x y : Int) (w : World) (h0 : w.cell? ⟨b, 0, none⟩ = some (.int .i64 x)) (h1 : w.cell? ⟨b, 1, none⟩ = some (.int .i64 y)) (c0 : inC x) (c1 : ¬ inC y) :
    Calls Try.prog 25 #[.slice (some ⟨b, 0, none⟩) 1 1] w fun e w' => e = .returned (.bool false) ∧ Below w.heap.size w w' := by
  have hb := World.block_lt_of_cell? w ⟨b, 0, none⟩ h0
  have f0 := Lib.hid (fun w => far_no x w c0)
  have f1 := Lib.hid (fun w => far_yes y w c1)
  clear c0 c1
  go_enter Try.func25, Try.ntmps25
  go_wp2_with fail
  refine wp_loop_rounds 1 ?_
  rw [rounds_succ]
  go_wp2_with fail
  refine (f0.out _).mono ?_
  rintro e w' ⟨rfl, rfl⟩
  go_wp2_with fail
  refine (f1.out _).mono ?_
  rintro e w' ⟨rfl, rfl⟩
  go_wp2_with fail
  go_ret
  exact ⟨rfl, (Below.refl _ _).alloc (Nat.le_refl _) _⟩
theorem may1_ok (b : Nat) (x y : Int) (w : World) (h0 : w.cell? ⟨b, 0, none⟩ = some (.int .i64 x)) (h1 : w.cell? ⟨b, 1, none⟩ = some (.int .i64 y)) (c0 : inC x) (c1 : inC y) :
    Calls Try.prog 25 #[.slice (some ⟨b, 0, none⟩) 1 1] w fun e w' => e = .returned (.bool true) ∧ Below w.heap.size w w' := by
  have hb := World.block_lt_of_cell? w ⟨b, 0, none⟩ h0
  have f0 := Lib.hid (fun w => far_no x w c0)
  have f1 := Lib.hid (fun w => far_no y w c1)
  clear c0 c1
  go_enter Try.func25, Try.ntmps25
  go_wp2_with fail
  refine wp_loop_rounds 2 ?_
  rw [rounds_succ]
  go_wp2_with fail
  refine (f0.out _).mono ?_
  rintro e w' ⟨rfl, rfl⟩
  go_wp2_with fail
  refine (f1.out _).mono ?_
  rintro e w' ⟨rfl, rfl⟩
  go_wp2_with fail
  rw [rounds_succ]
  go_wp2_with fail
  go_ret
  exact ⟨rfl, (Below.refl _ _).alloc (Nat.le_refl _) _⟩
theorem may2_0 (b : Nat) (x y x2 y2 : Int) (w : World) (h0 : w.cell? ⟨b, 0, none⟩ = some (.int .i64 x)) (h1 : w.cell? ⟨b, 1, none⟩ = some (.int .i64 y)) (_h2 : w.cell? ⟨b, 2, none⟩ = some (.int .i64 x2)) (_h3 : w.cell? ⟨b, 3, none⟩ = some (.int .i64 y2)) (c0 : ¬ inC x) :
    Calls Try.prog 25 #[.slice (some ⟨b, 0, none⟩) 2 2] w fun e w' => e = .returned (.bool false) ∧ Below w.heap.size w w' := by
  have hb := World.block_lt_of_cell? w ⟨b, 0, none⟩ h0
  have f0 := Lib.hid (fun w => far_yes x w c0)
  clear c0
  go_enter Try.func25, Try.ntmps25
  go_wp2_with fail
  refine wp_loop_rounds 1 ?_
  rw [rounds_succ]
  go_wp2_with fail
  refine (f0.out _).mono ?_
  rintro e w' ⟨rfl, rfl⟩
  go_wp2_with fail
  go_ret
  exact ⟨rfl, (Below.refl _ _).alloc (Nat.le_refl _) _⟩
theorem may2_1 (b : Nat) (x y x2 y2 : Int) (w : World) (h0 : w.cell? ⟨b, 0, none⟩ = some (.int .i64 x)) (h1 : w.cell? ⟨b, 1, none⟩ = some (.int .i64 y)) (_h2 : w.cell? ⟨b, 2, none⟩ = some (.int .i64 x2)) (_h3 : w.cell? ⟨b, 3, none⟩ = some (.int .i64 y2)) (c0 : inC x) (c1 : ¬ inC y) :
    Calls Try.prog 25 #[.slice (some ⟨b, 0, none⟩) 2 2] w fun e w' => e = .returned (.bool false) ∧ Below w.heap.size w w' := by
  have hb := World.block_lt_of_cell? w ⟨b, 0, none⟩ h0
  have f0 := Lib.hid (fun w => far_no x w c0)
  have f1 := Lib.hid (fun w => far_yes y w c1)
  clear c0 c1
  go_enter Try.func25, Try.ntmps25
  go_wp2_with fail
  refine wp_loop_rounds 1 ?_
  rw [rounds_succ]
  go_wp2_with fail
  refine (f0.out _).mono ?_
  rintro e w' ⟨rfl, rfl⟩
  go_wp2_with fail
  refine (f1.out _).mono ?_
  rintro e w' ⟨rfl, rfl⟩
  go_wp2_with fail
  go_ret
  exact ⟨rfl, (Below.refl _ _).alloc (Nat.le_refl _) _⟩
theorem may2_2 (b : Nat) (x y x2 y2 : Int) (w : World) (h0 : w.cell? ⟨b, 0, none⟩ = some (.int .i64 x)) (h1 : w.cell? ⟨b, 1, none⟩ = some (.int .i64 y)) (h2 : w.cell? ⟨b, 2, none⟩ = some (.int .i64 x2)) (h3 : w.cell? ⟨b, 3, none⟩ = some (.int .i64 y2)) (c0 : inC x) (c1 : inC y) (c2 : ¬ inC x2) :
    Calls Try.prog 25 #[.slice (some ⟨b, 0, none⟩) 2 2] w fun e w' => e = .returned (.bool false) ∧ Below w.heap.size w w' := by
  have hb := World.block_lt_of_cell? w ⟨b, 0, none⟩ h0
  have f0 := Lib.hid (fun w => far_no x w c0)
  have f1 := Lib.hid (fun w => far_no y w c1)
  have f2 := Lib.hid (fun w => far_yes x2 w c2)
  clear c0 c1 c2
  go_enter Try.func25, Try.ntmps25
  go_wp2_with fail
  refine wp_loop_rounds 2 ?_
  rw [rounds_succ]
  go_wp2_with fail
  refine (f0.out _).mono ?_
  rintro e w' ⟨rfl, rfl⟩
  go_wp2_with fail
  refine (f1.out _).mono ?_
  rintro e w' ⟨rfl, rfl⟩
  go_wp2_with fail
  rw [rounds_succ]
  go_wp2_with fail
  refine (f2.out _).mono ?_
  rintro e w' ⟨rfl, rfl⟩
  go_wp2_with fail
  go_ret
  exact ⟨rfl, ((Below.refl _ _).alloc (Nat.le_refl _) _).alloc (by simp; try omega) _⟩
theorem may2_3 (b : Nat) (x y x2 y2 : Int) (w : World) (h0 : w.cell? ⟨b, 0, none⟩ = some (.int .i64 x)) (h1 : w.cell? ⟨b, 1, none⟩ = some (.int .i64 y)) (h2 : w.cell? ⟨b, 2, none⟩ = some (.int .i64 x2)) (h3 : w.cell? ⟨b, 3, none⟩ = some (.int .i64 y2)) (c0 : inC x) (c1 : inC y) (c2 : inC x2) (c3 : ¬ inC y2) :
    Calls Try.prog 25 #[.slice (some ⟨b, 0, none⟩) 2 2] w fun e w' => e = .returned (.bool false) ∧ Below w.heap.size w w' := by
  have hb := World.block_lt_of_cell? w ⟨b, 0, none⟩ h0
  have f0 := Lib.hid (fun w => far_no x w c0)
  have f1 := Lib.hid (fun w => far_no y w c1)
  have f2 := Lib.hid (fun w => far_no x2 w c2)
  have f3 := Lib.hid (fun w => far_yes y2 w c3)
  clear c0 c1 c2 c3
  go_enter Try.func25, Try.ntmps25
  go_wp2_with fail
  refine wp_loop_rounds 2 ?_
  rw [rounds_succ]
  go_wp2_with fail
  refine (f0.out _).mono ?_
  rintro e w' ⟨rfl, rfl⟩
  go_wp2_with fail
  refine (f1.out _).mono ?_
  rintro e w' ⟨rfl, rfl⟩
  go_wp2_with fail
  rw [rounds_succ]
  go_wp2_with fail
  refine (f2.out _).mono ?_
  rintro e w' ⟨rfl, rfl⟩
  go_wp2_with fail
  refine (f3.out _).mono ?_
  rintro e w' ⟨rfl, rfl⟩
  go_wp2_with fail
  go_ret
  exact ⟨rfl, ((Below.refl _ _).alloc (Nat.le_refl _) _).alloc (by simp; try omega) _⟩
theorem may2_ok (b : Nat) (x y x2 y2 : Int) (w : World) (h0 : w.cell? ⟨b, 0, none⟩ = some (.int .i64 x)) (h1 : w.cell? ⟨b, 1, none⟩ = some (.int .i64 y)) (h2 : w.cell? ⟨b, 2, none⟩ = some (.int .i64 x2)) (h3 : w.cell? ⟨b, 3, none⟩ = some (.int .i64 y2)) (c0 : inC x) (c1 : inC y) (c2 : inC x2) (c3 : inC y2) :
    Calls Try.prog 25 #[.slice (some ⟨b, 0, none⟩) 2 2] w fun e w' => e = .returned (.bool true) ∧ Below w.heap.size w w' := by
  have hb := World.block_lt_of_cell? w ⟨b, 0, none⟩ h0
  have f0 := Lib.hid (fun w => far_no x w c0)
  have f1 := Lib.hid (fun w => far_no y w c1)
  have f2 := Lib.hid (fun w => far_no x2 w c2)
  have f3 := Lib.hid (fun w => far_no y2 w c3)
  clear c0 c1 c2 c3
  go_enter Try.func25, Try.ntmps25
  go_wp2_with fail
  refine wp_loop_rounds 3 ?_
  rw [rounds_succ]
  go_wp2_with fail
  refine (f0.out _).mono ?_
  rintro e w' ⟨rfl, rfl⟩
  go_wp2_with fail
  refine (f1.out _).mono ?_
  rintro e w' ⟨rfl, rfl⟩
  go_wp2_with fail
  rw [rounds_succ]
  go_wp2_with fail
  refine (f2.out _).mono ?_
  rintro e w' ⟨rfl, rfl⟩
  go_wp2_with fail
  refine (f3.out _).mono ?_
  rintro e w' ⟨rfl, rfl⟩
  go_wp2_with fail
  rw [rounds_succ]
  go_wp2_with fail
  go_ret
  exact ⟨rfl, ((Below.refl _ _).alloc (Nat.le_refl _) _).alloc (by simp; try omega) _⟩
theorem may3_0 (b : Nat) (x y x2 y2 x3 y3 : Int) (w : World) (h0 : w.cell? ⟨b, 0, none⟩ = some (.int .i64 x)) (h1 : w.cell? ⟨b, 1, none⟩ = some (.int .i64 y)) (_h2 : w.cell? ⟨b, 2, none⟩ = some (.int .i64 x2)) (_h3 : w.cell? ⟨b, 3, none⟩ = some (.int .i64 y2)) (_h4 : w.cell? ⟨b, 4, none⟩ = some (.int .i64 x3)) (_h5 : w.cell? ⟨b, 5, none⟩ = some (.int .i64 y3)) (c0 : ¬ inC x) :
    Calls Try.prog 25 #[.slice (some ⟨b, 0, none⟩) 3 3] w fun e w' => e = .returned (.bool false) ∧ Below w.heap.size w w' := by
  have hb := World.block_lt_of_cell? w ⟨b, 0, none⟩ h0
  have f0 := Lib.hid (fun w => far_yes x w c0)
  clear c0
  go_enter Try.func25, Try.ntmps25
  go_wp2_with fail
  refine wp_loop_rounds 1 ?_
  rw [rounds_succ]
  go_wp2_with fail
  refine (f0.out _).mono ?_
  rintro e w' ⟨rfl, rfl⟩
  go_wp2_with fail
  go_ret
  exact ⟨rfl, (Below.refl _ _).alloc (Nat.le_refl _) _⟩
theorem may3_1 (b : Nat) (x y x2 y2 x3 y3 : Int) (w : World) (h0 : w.cell? ⟨b, 0, none⟩ = some (.int .i64 x)) (h1 : w.cell? ⟨b, 1, none⟩ = some (.int .i64 y)) (_h2 : w.cell? ⟨b, 2, none⟩ = some (.int .i64 x2)) (_h3 : w.cell? ⟨b, 3, none⟩ = some (.int .i64 y2)) (_h4 : w.cell? ⟨b, 4, none⟩ = some (.int .i64 x3)) (_h5 : w.cell? ⟨b, 5, none⟩ = some (.int .i64 y3)) (c0 : inC x) (c1 : ¬ inC y) :
    Calls Try.prog 25 #[.slice (some ⟨b, 0, none⟩) 3 3] w fun e w' => e = .returned (.bool false) ∧ Below w.heap.size w w' := by
  have hb := World.block_lt_of_cell? w ⟨b, 0, none⟩ h0
  have f0 := Lib.hid (fun w => far_no x w c0)
  have f1 := Lib.hid (fun w => far_yes y w c1)
  clear c0 c1
  go_enter Try.func25, Try.ntmps25
  go_wp2_with fail
  refine wp_loop_rounds 1 ?_
  rw [rounds_succ]
  go_wp2_with fail
  refine (f0.out _).mono ?_
  rintro e w' ⟨rfl, rfl⟩
  go_wp2_with fail
  refine (f1.out _).mono ?_
  rintro e w' ⟨rfl, rfl⟩
  go_wp2_with fail
  go_ret
  exact ⟨rfl, (Below.refl _ _).alloc (Nat.le_refl _) _⟩
theorem may3_2 (b : Nat) (x y x2 y2 x3 y3 : Int) (w : World) (h0 : w.cell? ⟨b, 0, none⟩ = some (.int .i64 x)) (h1 : w.cell? ⟨b, 1, none⟩ = some (.int .i64 y)) (h2 : w.cell? ⟨b, 2, none⟩ = some (.int .i64 x2)) (h3 : w.cell? ⟨b, 3, none⟩ = some (.int .i64 y2)) (_h4 : w.cell? ⟨b, 4, none⟩ = some (.int .i64 x3)) (_h5 : w.cell? ⟨b, 5, none⟩ = some (.int .i64 y3)) (c0 : inC x) (c1 : inC y) (c2 : ¬ inC x2) :
    Calls Try.prog 25 #[.slice (some ⟨b, 0, none⟩) 3 3] w fun e w' => e = .returned (.bool false) ∧ Below w.heap.size w w' := by
  have hb := World.block_lt_of_cell? w ⟨b, 0, none⟩ h0
  have f0 := Lib.hid (fun w => far_no x w c0)
  have f1 := Lib.hid (fun w => far_no y w c1)
  have f2 := Lib.hid (fun w => far_yes x2 w c2)
  clear c0 c1 c2
  go_enter Try.func25, Try.ntmps25
  go_wp2_with fail
  refine wp_loop_rounds 2 ?_
  rw [rounds_succ]
  go_wp2_with fail
  refine (f0.out _).mono ?_
  rintro e w' ⟨rfl, rfl⟩
  go_wp2_with fail
  refine (f1.out _).mono ?_
  rintro e w' ⟨rfl, rfl⟩
  go_wp2_with fail
  rw [rounds_succ]
  go_wp2_with fail
  refine (f2.out _).mono ?_
  rintro e w' ⟨rfl, rfl⟩
  go_wp2_with fail
  go_ret
  exact ⟨rfl, ((Below.refl _ _).alloc (Nat.le_refl _) _).alloc (by simp; try omega) _⟩
theorem may3_3 (b : Nat) (x y x2 y2 x3 y3 : Int) (w : World) (h0 : w.cell? ⟨b, 0, none⟩ = some (.int .i64 x)) (h1 : w.cell? ⟨b, 1, none⟩ = some (.int .i64 y)) (h2 : w.cell? ⟨b, 2, none⟩ = some (.int .i64 x2)) (h3 : w.cell? ⟨b, 3, none⟩ = some (.int .i64 y2)) (_h4 : w.cell? ⟨b, 4, none⟩ = some (.int .i64 x3)) (_h5 : w.cell? ⟨b, 5, none⟩ = some (.int .i64 y3)) (c0 : inC x) (c1 : inC y) (c2 : inC x2) (c3 : ¬ inC y2) :
    Calls Try.prog 25 #[.slice (some ⟨b, 0, none⟩) 3 3] w fun e w' => e = .returned (.bool false) ∧ Below w.heap.size w w' := by
  have hb := World.block_lt_of_cell? w ⟨b, 0, none⟩ h0
  have f0 := Lib.hid (fun w => far_no x w c0)
  have f1 := Lib.hid (fun w => far_no y w c1)
  have f2 := Lib.hid (fun w => far_no x2 w c2)
  have f3 := Lib.hid (fun w => far_yes y2 w c3)
  clear c0 c1 c2 c3
  go_enter Try.func25, Try.ntmps25
  go_wp2_with fail
  refine wp_loop_rounds 2 ?_
  rw [rounds_succ]
  go_wp2_with fail
  refine (f0.out _).mono ?_
  rintro e w' ⟨rfl, rfl⟩
  go_wp2_with fail
  refine (f1.out _).mono ?_
  rintro e w' ⟨rfl, rfl⟩
  go_wp2_with fail
  rw [rounds_succ]
  go_wp2_with fail
  refine (f2.out _).mono ?_
  rintro e w' ⟨rfl, rfl⟩
  go_wp2_with fail
  refine (f3.out _).mono ?_
  rintro e w' ⟨rfl, rfl⟩
  go_wp2_with fail
  go_ret
  exact ⟨rfl, ((Below.refl _ _).alloc (Nat.le_refl _) _).alloc (by simp; try omega) _⟩
theorem may3_4 (b : Nat) (x y x2 y2 x3 y3 : Int) (w : World) (h0 : w.cell? ⟨b, 0, none⟩ = some (.int .i64 x)) (h1 : w.cell? ⟨b, 1, none⟩ = some (.int .i64 y)) (h2 : w.cell? ⟨b, 2, none⟩ = some (.int .i64 x2)) (h3 : w.cell? ⟨b, 3, none⟩ = some (.int .i64 y2)) (h4 : w.cell? ⟨b, 4, none⟩ = some (.int .i64 x3)) (h5 : w.cell? ⟨b, 5, none⟩ = some (.int .i64 y3)) (c0 : inC x) (c1 : inC y) (c2 : inC x2) (c3 : inC y2) (c4 : ¬ inC x3) :
    Calls Try.prog 25 #[.slice (some ⟨b, 0, none⟩) 3 3] w fun e w' => e = .returned (.bool false) ∧ Below w.heap.size w w' := by
  have hb := World.block_lt_of_cell? w ⟨b, 0, none⟩ h0
  have f0 := Lib.hid (fun w => far_no x w c0)
  have f1 := Lib.hid (fun w => far_no y w c1)
  have f2 := Lib.hid (fun w => far_no x2 w c2)
  have f3 := Lib.hid (fun w => far_no y2 w c3)
  have f4 := Lib.hid (fun w => far_yes x3 w c4)
  clear c0 c1 c2 c3 c4
  go_enter Try.func25, Try.ntmps25
  go_wp2_with fail
  refine wp_loop_rounds 3 ?_
  rw [rounds_succ]
  go_wp2_with fail
  refine (f0.out _).mono ?_
  rintro e w' ⟨rfl, rfl⟩
  go_wp2_with fail
  refine (f1.out _).mono ?_
  rintro e w' ⟨rfl, rfl⟩
  go_wp2_with fail
  rw [rounds_succ]
  go_wp2_with fail
  refine (f2.out _).mono ?_
  rintro e w' ⟨rfl, rfl⟩
  go_wp2_with fail
  refine (f3.out _).mono ?_
  rintro e w' ⟨rfl, rfl⟩
  go_wp2_with fail
  rw [rounds_succ]
  go_wp2_with fail
  refine (f4.out _).mono ?_
  rintro e w' ⟨rfl, rfl⟩
  go_wp2_with fail
  go_ret
  exact ⟨rfl, (((Below.refl _ _).alloc (Nat.le_refl _) _).alloc (by simp; try omega) _).alloc (by simp; try omega) _⟩
theorem may3_5 (b : Nat) (x y x2 y2 x3 y3 : Int) (w : World) (h0 : w.cell? ⟨b, 0, none⟩ = some (.int .i64 x)) (h1 : w.cell? ⟨b, 1, none⟩ = some (.int .i64 y)) (h2 : w.cell? ⟨b, 2, none⟩ = some (.int .i64 x2)) (h3 : w.cell? ⟨b, 3, none⟩ = some (.int .i64 y2)) (h4 : w.cell? ⟨b, 4, none⟩ = some (.int .i64 x3)) (h5 : w.cell? ⟨b, 5, none⟩ = some (.int .i64 y3)) (c0 : inC x) (c1 : inC y) (c2 : inC x2) (c3 : inC y2) (c4 : inC x3) (c5 : ¬ inC y3) :
    Calls Try.prog 25 #[.slice (some ⟨b, 0, none⟩) 3 3] w fun e w' => e = .returned (.bool false) ∧ Below w.heap.size w w' := by
  have hb := World.block_lt_of_cell? w ⟨b, 0, none⟩ h0
  have f0 := Lib.hid (fun w => far_no x w c0)
  have f1 := Lib.hid (fun w => far_no y w c1)
  have f2 := Lib.hid (fun w => far_no x2 w c2)
  have f3 := Lib.hid (fun w => far_no y2 w c3)
  have f4 := Lib.hid (fun w => far_no x3 w c4)
  have f5 := Lib.hid (fun w => far_yes y3 w c5)
  clear c0 c1 c2 c3 c4 c5
  go_enter Try.func25, Try.ntmps25
  go_wp2_with fail
  refine wp_loop_rounds 3 ?_
  rw [rounds_succ]
  go_wp2_with fail
  refine (f0.out _).mono ?_
  rintro e w' ⟨rfl, rfl⟩
  go_wp2_with fail
  refine (f1.out _).mono ?_
  rintro e w' ⟨rfl, rfl⟩
  go_wp2_with fail
  rw [rounds_succ]
  go_wp2_with fail
  refine (f2.out _).mono ?_
  rintro e w' ⟨rfl, rfl⟩
  go_wp2_with fail
  refine (f3.out _).mono ?_
  rintro e w' ⟨rfl, rfl⟩
  go_wp2_with fail
  rw [rounds_succ]
  go_wp2_with fail
  refine (f4.out _).mono ?_
  rintro e w' ⟨rfl, rfl⟩
  go_wp2_with fail
  refine (f5.out _).mono ?_
  rintro e w' ⟨rfl, rfl⟩
  go_wp2_with fail
  go_ret
  exact ⟨rfl, (((Below.refl _ _).alloc (Nat.le_refl _) _).alloc (by simp; try omega) _).alloc (by simp; try omega) _⟩
theorem may3_ok (b : Nat) (x y x2 y2 x3 y3 : Int) (w : World) (h0 : w.cell? ⟨b, 0, none⟩ = some (.int .i64 x)) (h1 : w.cell? ⟨b, 1, none⟩ = some (.int .i64 y)) (h2 : w.cell? ⟨b, 2, none⟩ = some (.int .i64 x2)) (h3 : w.cell? ⟨b, 3, none⟩ = some (.int .i64 y2)) (h4 : w.cell? ⟨b, 4, none⟩ = some (.int .i64 x3)) (h5 : w.cell? ⟨b, 5, none⟩ = some (.int .i64 y3)) (c0 : inC x) (c1 : inC y) (c2 : inC x2) (c3 : inC y2) (c4 : inC x3) (c5 : inC y3) :
    Calls Try.prog 25 #[.slice (some ⟨b, 0, none⟩) 3 3] w fun e w' => e = .returned (.bool true) ∧ Below w.heap.size w w' := by
  have hb := World.block_lt_of_cell? w ⟨b, 0, none⟩ h0
  have f0 := Lib.hid (fun w => far_no x w c0)
  have f1 := Lib.hid (fun w => far_no y w c1)
  have f2 := Lib.hid (fun w => far_no x2 w c2)
  have f3 := Lib.hid (fun w => far_no y2 w c3)
  have f4 := Lib.hid (fun w => far_no x3 w c4)
  have f5 := Lib.hid (fun w => far_no y3 w c5)
  clear c0 c1 c2 c3 c4 c5
  go_enter Try.func25, Try.ntmps25
  go_wp2_with fail
  refine wp_loop_rounds 4 ?_
  rw [rounds_succ]
  go_wp2_with fail
  refine (f0.out _).mono ?_
  rintro e w' ⟨rfl, rfl⟩
  go_wp2_with fail
  refine (f1.out _).mono ?_
  rintro e w' ⟨rfl, rfl⟩
  go_wp2_with fail
  rw [rounds_succ]
  go_wp2_with fail
  refine (f2.out _).mono ?_
  rintro e w' ⟨rfl, rfl⟩
  go_wp2_with fail
  refine (f3.out _).mono ?_
  rintro e w' ⟨rfl, rfl⟩
  go_wp2_with fail
  rw [rounds_succ]
  go_wp2_with fail
  refine (f4.out _).mono ?_
  rintro e w' ⟨rfl, rfl⟩
  go_wp2_with fail
  refine (f5.out _).mono ?_
  rintro e w' ⟨rfl, rfl⟩
  go_wp2_with fail
  rw [rounds_succ]
  go_wp2_with fail
  go_ret
  exact ⟨rfl, (((Below.refl _ _).alloc (Nat.le_refl _) _).alloc (by simp; try omega) _).alloc (by simp; try omega) _⟩
end Go.Proofs.YthcfekabeidmiaaRR
