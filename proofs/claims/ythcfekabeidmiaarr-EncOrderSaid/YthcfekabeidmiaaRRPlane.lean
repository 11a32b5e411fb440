/- plane.CheckPoint, CheckBox; pergolaref3.Point, CheckBox. -/
import Derived.Test.YthcfekabeidmiaaRRPlaneMay
namespace Go.Proofs.YthcfekabeidmiaaRR
open Go.RowKit

theorem may1_any (b : Nat) (x y : Int) (w : World) (h0 : w.cell? ⟨b, 0, none⟩ = some (.int .i64 x)) (h1 : w.cell? ⟨b, 1, none⟩ = some (.int .i64 y)) :
    Calls Try.prog 25 #[.slice (some ⟨b, 0, none⟩) 1 1] w fun e w' => e = .returned (.bool (decide (inP x y))) ∧ Below w.heap.size w w' := by
  by_cases c0 : inC x
  · by_cases c1 : inC y
    · rw [decide_eq_true (show inP x y from ⟨c0, c1⟩)]; exact may1_ok b x y w h0 h1 c0 c1
    · rw [decide_eq_false (show ¬ inP x y from fun h => c1 h.2)]; exact may1_1 b x y w h0 h1 c0 c1
  · rw [decide_eq_false (show ¬ inP x y from fun h => c0 h.1)]; exact may1_0 b x y w h0 h1 c0
theorem may2_any (b : Nat) (x y x2 y2 : Int) (w : World) (h0 : w.cell? ⟨b, 0, none⟩ = some (.int .i64 x)) (h1 : w.cell? ⟨b, 1, none⟩ = some (.int .i64 y)) (h2 : w.cell? ⟨b, 2, none⟩ = some (.int .i64 x2)) (h3 : w.cell? ⟨b, 3, none⟩ = some (.int .i64 y2)) :
    Calls Try.prog 25 #[.slice (some ⟨b, 0, none⟩) 2 2] w fun e w' => e = .returned (.bool (decide (inP x y ∧ inP x2 y2))) ∧ Below w.heap.size w w' := by
  by_cases c0 : inC x
  · by_cases c1 : inC y
    · by_cases c2 : inC x2
      · by_cases c3 : inC y2
        · rw [decide_eq_true (show inP x y ∧ inP x2 y2 from ⟨⟨c0, c1⟩, c2, c3⟩)]; exact may2_ok b x y x2 y2 w h0 h1 h2 h3 c0 c1 c2 c3
        · rw [decide_eq_false (show ¬ (inP x y ∧ inP x2 y2) from fun h => c3 h.2.2)]; exact may2_3 b x y x2 y2 w h0 h1 h2 h3 c0 c1 c2 c3
      · rw [decide_eq_false (show ¬ (inP x y ∧ inP x2 y2) from fun h => c2 h.2.1)]; exact may2_2 b x y x2 y2 w h0 h1 h2 h3 c0 c1 c2
    · rw [decide_eq_false (show ¬ (inP x y ∧ inP x2 y2) from fun h => c1 h.1.2)]; exact may2_1 b x y x2 y2 w h0 h1 h2 h3 c0 c1
  · rw [decide_eq_false (show ¬ (inP x y ∧ inP x2 y2) from fun h => c0 h.1.1)]; exact may2_0 b x y x2 y2 w h0 h1 h2 h3 c0

/-- an error that is none, or a number -/
def Er.ofCode (k : Int) : Er := if k = 0 then .none else .num k

theorem CheckPoint_ok (x y : Int) (w : World) (h : inP x y) : Calls Try.prog 24 #[.agg #[.int .i64 x, .int .i64 y]] w (ErRet w .none) := by
  have M := Lib.hid (fun b w h0 h1 => may1_any b x y w h0 h1)
  rw [decide_eq_true h] at M
  clear h
  go_enter Try.func24, Try.ntmps24
  go_wp2_with fail
  refine (M.out _ _ (by simp) (by simp)).mono ?_
  rintro e w1 ⟨rfl, b1⟩
  go_wp2_with fail
  go_ret
  exact ⟨_, rfl, rfl, (((Below.refl _ _).alloc (Nat.le_refl _) _).alloc (by simp) _).trans (b1.mono (by simp; omega))⟩
theorem CheckPoint_no (x y : Int) (w : World) (h : ¬ inP x y) : Calls Try.prog 24 #[.agg #[.int .i64 x, .int .i64 y]] w (ErRet w (.num 2)) := by
  have M := Lib.hid (fun b w h0 h1 => may1_any b x y w h0 h1)
  rw [decide_eq_false h] at M
  clear h
  go_enter Try.func24, Try.ntmps24
  go_wp2_with fail
  refine (M.out _ _ (by simp) (by simp)).mono ?_
  rintro e w1 ⟨rfl, b1⟩
  go_wp2_with fail
  go_ret
  exact ⟨_, rfl, rfl, (((Below.refl _ _).alloc (Nat.le_refl _) _).alloc (by simp) _).trans (b1.mono (by simp; omega))⟩

/-- why a box may not be -/
def boxCode (a b c d : Int) : Int := if inP a b ∧ inP c d then (if c < a ∨ d < b then 1 else 0) else 2

theorem CheckBox_any (a b c d : Int) (w : World) : Calls Try.prog 22 #[.agg #[.int .i64 a, .int .i64 b, .int .i64 c, .int .i64 d]] w (ErRet w (Er.ofCode (boxCode a b c d))) := by
  have M := Lib.hid (fun g w h0 h1 h2 h3 => may2_any g a b c d w h0 h1 h2 h3)
  have B0 : Below w.heap.size w ((w.alloc (.cells #[.int .i64 a, .int .i64 b, .int .i64 c, .int .i64 d] 53)).alloc (.cells #[.int .i64 a, .int .i64 b, .int .i64 c, .int .i64 d] 39)) := ((Below.refl _ _).alloc (Nat.le_refl _) _).alloc (by simp) _
  by_cases hp : inP a b ∧ inP c d
  · rw [decide_eq_true hp] at M
    have hbox : ∀ w1, Below ((w.alloc (.cells #[.int .i64 a, .int .i64 b, .int .i64 c, .int .i64 d] 53)).alloc (.cells #[.int .i64 a, .int .i64 b, .int .i64 c, .int .i64 d] 39)).heap.size ((w.alloc (.cells #[.int .i64 a, .int .i64 b, .int .i64 c, .int .i64 d] 53)).alloc (.cells #[.int .i64 a, .int .i64 b, .int .i64 c, .int .i64 d] 39)) w1 →
        w1.cell? ⟨w.heap.size, 0, none⟩ = some (.int .i64 a) ∧ w1.cell? ⟨w.heap.size, 1, none⟩ = some (.int .i64 b) ∧ w1.cell? ⟨w.heap.size, 2, none⟩ = some (.int .i64 c) ∧ w1.cell? ⟨w.heap.size, 3, none⟩ = some (.int .i64 d) := fun w1 h =>
      ⟨(h.cell (p := ⟨w.heap.size, 0, none⟩) (by simp; omega)).trans (by simp), (h.cell (p := ⟨w.heap.size, 1, none⟩) (by simp; omega)).trans (by simp), (h.cell (p := ⟨w.heap.size, 2, none⟩) (by simp; omega)).trans (by simp), (h.cell (p := ⟨w.heap.size, 3, none⟩) (by simp; omega)).trans (by simp)⟩
    have HB := Lib.hid hbox
    clear hbox
    by_cases h1 : c < a
    · have hc : boxCode a b c d = 1 := by unfold boxCode; rw [if_pos hp, if_pos (Or.inl h1)]
      rw [hc]
      have t1 : decide (c < a) = true := by simp; omega
      clear hc hp
      go_enter Try.func22, Try.ntmps22
      go_wp2_with fail
      refine (M.out _ _ (by simp) (by simp) (by simp) (by simp)).mono ?_
      rintro e w1 ⟨rfl, b1⟩
      obtain ⟨y0, y1, y2, y3⟩ := HB.out _ b1
      go_wp2_with fail
      go_ret
      exact ⟨_, rfl, rfl, B0.trans (b1.mono B0.size)⟩
    · by_cases h2 : d < b
      · have hc : boxCode a b c d = 1 := by unfold boxCode; rw [if_pos hp, if_pos (Or.inr h2)]
        rw [hc]
        have t1 : decide (c < a) = false := by simp; omega
        have t2 : decide (d < b) = true := by simp; omega
        clear hc hp
        go_enter Try.func22, Try.ntmps22
        go_wp2_with fail
        refine (M.out _ _ (by simp) (by simp) (by simp) (by simp)).mono ?_
        rintro e w1 ⟨rfl, b1⟩
        obtain ⟨y0, y1, y2, y3⟩ := HB.out _ b1
        go_wp2_with fail
        go_ret
        exact ⟨_, rfl, rfl, B0.trans (b1.mono B0.size)⟩
      · have hc : boxCode a b c d = 0 := by unfold boxCode; rw [if_pos hp, if_neg (by omega)]
        rw [hc]
        have t1 : decide (c < a) = false := by simp; omega
        have t2 : decide (d < b) = false := by simp; omega
        clear hc hp
        go_enter Try.func22, Try.ntmps22
        go_wp2_with fail
        refine (M.out _ _ (by simp) (by simp) (by simp) (by simp)).mono ?_
        rintro e w1 ⟨rfl, b1⟩
        obtain ⟨y0, y1, y2, y3⟩ := HB.out _ b1
        go_wp2_with fail
        go_ret
        exact ⟨_, rfl, rfl, B0.trans (b1.mono B0.size)⟩
  · rw [decide_eq_false hp] at M
    have hc : boxCode a b c d = 2 := by unfold boxCode; rw [if_neg hp]
    rw [hc]
    clear hc hp
    go_enter Try.func22, Try.ntmps22
    go_wp2_with fail
    refine (M.out _ _ (by simp) (by simp) (by simp) (by simp)).mono ?_
    rintro e w1 ⟨rfl, b1⟩
    go_wp2_with fail
    go_ret
    exact ⟨_, rfl, rfl, B0.trans (b1.mono B0.size)⟩
end Go.Proofs.YthcfekabeidmiaaRR
