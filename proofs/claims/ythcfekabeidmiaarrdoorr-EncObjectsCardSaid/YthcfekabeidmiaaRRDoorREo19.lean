/- plane.CheckPoint, CheckBox; pergolaref3.Point, CheckBox. pergolaref3.Point, CheckBox, BoxHas. The two curves in plain Lean: interleaved bits; Hilbert's curve, there and back, its neighbours and its quarters. curve.Z, and the document's. curve.Hilbert. curve.Centre; pergolalaw19.awake. pergolalaw19.awake; CurveCentre and CurveGrows answer true. CurveCentre answers true, whatever it is given. curve.Unz. curve.Unhilbert. CurveGrows answers true, whatever it is given. The document's own Z, Unz, Hilbert, Unhilbert and Centre. The document's own Hilbert, Unhilbert and Centre. -/
import Derived.Test.YthcfekabeidmiaaRRDoorREo17
import Derived.Test.YthcfekabeidmiaaRRDoorRChecked


import Derived.BigQuiet
import Derived.Deep.QuietTactic
import Derived.Test.YthcfekabeidmiaaRRDoorREo18

import Derived.Lib.SmallJoins
set_option linter.unusedSimpArgs false
set_option linter.unusedVariables false

namespace Go.Proofs.YthcfekabeidmiaaRRDoorR.Cv
open Go.Proofs.YthcfekabeidmiaaRRDoorR
/-! Plane -/
section
open Go.RowKit

theorem may1_any (b : Nat) (x y : Int) (w : World) (h0 : w.cell? ⟨b, 0, none⟩ = some (.int .i64 x)) (h1 : w.cell? ⟨b, 1, none⟩ = some (.int .i64 y)) :
    Calls Tryd.prog 50 #[.slice (some ⟨b, 0, none⟩) 1 1] w fun e w' => e = .returned (.bool (decide (inP x y))) ∧ Below w.heap.size w w' := by
  by_cases c0 : inC x
  · by_cases c1 : inC y
    · rw [decide_eq_true (show inP x y from ⟨c0, c1⟩)]; exact may1_ok b x y w h0 h1 c0 c1
    · rw [decide_eq_false (show ¬ inP x y from fun h => c1 h.2)]; exact may1_1 b x y w h0 h1 c0 c1
  · rw [decide_eq_false (show ¬ inP x y from fun h => c0 h.1)]; exact may1_0 b x y w h0 h1 c0
theorem may2_any (b : Nat) (x y x2 y2 : Int) (w : World) (h0 : w.cell? ⟨b, 0, none⟩ = some (.int .i64 x)) (h1 : w.cell? ⟨b, 1, none⟩ = some (.int .i64 y)) (h2 : w.cell? ⟨b, 2, none⟩ = some (.int .i64 x2)) (h3 : w.cell? ⟨b, 3, none⟩ = some (.int .i64 y2)) :
    Calls Tryd.prog 50 #[.slice (some ⟨b, 0, none⟩) 2 2] w fun e w' => e = .returned (.bool (decide (inP x y ∧ inP x2 y2))) ∧ Below w.heap.size w w' := by
  by_cases c0 : inC x
  · by_cases c1 : inC y
    · by_cases c2 : inC x2
      · by_cases c3 : inC y2
        · rw [decide_eq_true (show inP x y ∧ inP x2 y2 from ⟨⟨c0, c1⟩, c2, c3⟩)]; exact may2_ok b x y x2 y2 w h0 h1 h2 h3 c0 c1 c2 c3
        · rw [decide_eq_false (show ¬ (inP x y ∧ inP x2 y2) from fun h => c3 h.2.2)]; exact may2_3 b x y x2 y2 w h0 h1 h2 h3 c0 c1 c2 c3
      · rw [decide_eq_false (show ¬ (inP x y ∧ inP x2 y2) from fun h => c2 h.2.1)]; exact may2_2 b x y x2 y2 w h0 h1 h2 h3 c0 c1 c2
    · rw [decide_eq_false (show ¬ (inP x y ∧ inP x2 y2) from fun h => c1 h.1.2)]; exact may2_1 b x y x2 y2 w h0 h1 h2 h3 c0 c1
  · rw [decide_eq_false (show ¬ (inP x y ∧ inP x2 y2) from fun h => c0 h.1.1)]; exact may2_0 b x y x2 y2 w h0 h1 h2 h3 c0

/-- an error that is none, or a number -/
def Er.ofCode (k : Int) : Er := if k = 0 then .none else .num k

theorem CheckPoint_ok (x y : Int) (w : World) (h : inP x y) : Calls Tryd.prog 49 #[.agg #[.int .i64 x, .int .i64 y]] w (ErRet w .none) := by
  have M := Lib.hid (fun b w h0 h1 => may1_any b x y w h0 h1)
  rw [decide_eq_true h] at M
  clear h
  go_enter Tryd.func49, Tryd.ntmps49
  go_wp2_with fail
  refine (M.out _ _ (by simp) (by simp)).mono ?_
  rintro e w1 ⟨rfl, b1⟩
  go_wp2_with fail
  go_ret
  exact ⟨_, rfl, rfl, (((Below.refl _ _).alloc (Nat.le_refl _) _).alloc (by simp) _).trans (b1.mono (by simp; omega))⟩
theorem CheckPoint_no (x y : Int) (w : World) (h : ¬ inP x y) : Calls Tryd.prog 49 #[.agg #[.int .i64 x, .int .i64 y]] w (ErRet w (.num 2)) := by
  have M := Lib.hid (fun b w h0 h1 => may1_any b x y w h0 h1)
  rw [decide_eq_false h] at M
  clear h
  go_enter Tryd.func49, Tryd.ntmps49
  go_wp2_with fail
  refine (M.out _ _ (by simp) (by simp)).mono ?_
  rintro e w1 ⟨rfl, b1⟩
  go_wp2_with fail
  go_ret
  exact ⟨_, rfl, rfl, (((Below.refl _ _).alloc (Nat.le_refl _) _).alloc (by simp) _).trans (b1.mono (by simp; omega))⟩

/-- why a box may not be -/
def boxCode (a b c d : Int) : Int := if inP a b ∧ inP c d then (if c < a ∨ d < b then 1 else 0) else 2

theorem CheckBox_any (a b c d : Int) (w : World) : Calls Tryd.prog 42 #[.agg #[.int .i64 a, .int .i64 b, .int .i64 c, .int .i64 d]] w (ErRet w (Er.ofCode (boxCode a b c d))) := by
  have M := Lib.hid (fun g w h0 h1 h2 h3 => may2_any g a b c d w h0 h1 h2 h3)
  have B0 : Below w.heap.size w ((w.alloc (.cells #[.int .i64 a, .int .i64 b, .int .i64 c, .int .i64 d] 70)).alloc (.cells #[.int .i64 a, .int .i64 b, .int .i64 c, .int .i64 d] 43)) := ((Below.refl _ _).alloc (Nat.le_refl _) _).alloc (by simp) _
  by_cases hp : inP a b ∧ inP c d
  · rw [decide_eq_true hp] at M
    have hbox : ∀ w1, Below ((w.alloc (.cells #[.int .i64 a, .int .i64 b, .int .i64 c, .int .i64 d] 70)).alloc (.cells #[.int .i64 a, .int .i64 b, .int .i64 c, .int .i64 d] 43)).heap.size ((w.alloc (.cells #[.int .i64 a, .int .i64 b, .int .i64 c, .int .i64 d] 70)).alloc (.cells #[.int .i64 a, .int .i64 b, .int .i64 c, .int .i64 d] 43)) w1 →
        w1.cell? ⟨w.heap.size, 0, none⟩ = some (.int .i64 a) ∧ w1.cell? ⟨w.heap.size, 1, none⟩ = some (.int .i64 b) ∧ w1.cell? ⟨w.heap.size, 2, none⟩ = some (.int .i64 c) ∧ w1.cell? ⟨w.heap.size, 3, none⟩ = some (.int .i64 d) := fun w1 h =>
      ⟨(h.cell (p := ⟨w.heap.size, 0, none⟩) (by simp; omega)).trans (by simp), (h.cell (p := ⟨w.heap.size, 1, none⟩) (by simp; omega)).trans (by simp), (h.cell (p := ⟨w.heap.size, 2, none⟩) (by simp; omega)).trans (by simp), (h.cell (p := ⟨w.heap.size, 3, none⟩) (by simp; omega)).trans (by simp)⟩
    have HB := Lib.hid hbox
    clear hbox
    by_cases h1 : c < a
    · have hc : boxCode a b c d = 1 := by unfold boxCode; rw [if_pos hp, if_pos (Or.inl h1)]
      rw [hc]
      have t1 : decide (c < a) = true := by simp; omega
      clear hc hp
      go_enter Tryd.func42, Tryd.ntmps42
      go_wp2_with fail
      refine (M.out _ _ (by simp) (by simp) (by simp) (by simp)).mono ?_
      rintro e w1 ⟨rfl, b1⟩
      obtain ⟨y0, y1, y2, y3⟩ := HB.out _ b1
      go_wp2_with fail
      go_ret
      exact ⟨_, rfl, rfl, B0.trans (b1.mono B0.size)⟩
    · by_cases h2 : d < b
      · have hc : boxCode a b c d = 1 := by unfold boxCode; rw [if_pos hp, if_pos (Or.inr h2)]
        rw [hc]
        have t1 : decide (c < a) = false := by simp; omega
        have t2 : decide (d < b) = true := by simp; omega
        clear hc hp
        go_enter Tryd.func42, Tryd.ntmps42
        go_wp2_with fail
        refine (M.out _ _ (by simp) (by simp) (by simp) (by simp)).mono ?_
        rintro e w1 ⟨rfl, b1⟩
        obtain ⟨y0, y1, y2, y3⟩ := HB.out _ b1
        go_wp2_with fail
        go_ret
        exact ⟨_, rfl, rfl, B0.trans (b1.mono B0.size)⟩
      · have hc : boxCode a b c d = 0 := by unfold boxCode; rw [if_pos hp, if_neg (by omega)]
        rw [hc]
        have t1 : decide (c < a) = false := by simp; omega
        have t2 : decide (d < b) = false := by simp; omega
        clear hc hp
        go_enter Tryd.func42, Tryd.ntmps42
        go_wp2_with fail
        refine (M.out _ _ (by simp) (by simp) (by simp) (by simp)).mono ?_
        rintro e w1 ⟨rfl, b1⟩
        obtain ⟨y0, y1, y2, y3⟩ := HB.out _ b1
        go_wp2_with fail
        go_ret
        exact ⟨_, rfl, rfl, B0.trans (b1.mono B0.size)⟩
  · rw [decide_eq_false hp] at M
    have hc : boxCode a b c d = 2 := by unfold boxCode; rw [if_neg hp]
    rw [hc]
    clear hc hp
    go_enter Tryd.func42, Tryd.ntmps42
    go_wp2_with fail
    refine (M.out _ _ (by simp) (by simp) (by simp) (by simp)).mono ?_
    rintro e w1 ⟨rfl, b1⟩
    go_wp2_with fail
    go_ret
    exact ⟨_, rfl, rfl, B0.trans (b1.mono B0.size)⟩
end

/-! PlaneR -/
section
open Go.RowKit

theorem Point_any (x y : Int) (w : World) : Calls Tryd.prog 28 #[.agg #[.int .i64 x, .int .i64 y]] w fun e w' => e = .returned (.bool (decide (inP x y))) ∧ Below w.heap.size w w' := by
  by_cases a : -1073741823 ≤ x
  · by_cases b : x ≤ 1073741823
    · by_cases c : -1073741823 ≤ y
      · by_cases d : y ≤ 1073741823
        · rw [decide_eq_true (show inP x y from ⟨⟨a, b⟩, c, d⟩)]
          have t1 := decide_eq_true a
          have t2 := decide_eq_true b
          have t3 := decide_eq_true c
          have t4 := decide_eq_true d
          go_enter Tryd.func28, Tryd.ntmps28
          go_wp2
          go_ret
          exact ⟨rfl, (Below.refl _ _).alloc (Nat.le_refl _) _⟩
        · rw [decide_eq_false (show ¬ inP x y from fun h => d h.2.2)]
          have t1 := decide_eq_true a
          have t2 := decide_eq_true b
          have t3 := decide_eq_true c
          have t4 := decide_eq_false d
          clear d
          go_enter Tryd.func28, Tryd.ntmps28
          go_wp2
          go_ret
          exact ⟨rfl, (Below.refl _ _).alloc (Nat.le_refl _) _⟩
      · rw [decide_eq_false (show ¬ inP x y from fun h => c h.2.1)]
        have t1 := decide_eq_true a
        have t2 := decide_eq_true b
        have t3 := decide_eq_false c
        clear c
        go_enter Tryd.func28, Tryd.ntmps28
        go_wp2
        go_ret
        exact ⟨rfl, (Below.refl _ _).alloc (Nat.le_refl _) _⟩
    · rw [decide_eq_false (show ¬ inP x y from fun h => b h.1.2)]
      have t1 := decide_eq_true a
      have t2 := decide_eq_false b
      clear b
      go_enter Tryd.func28, Tryd.ntmps28
      go_wp2
      go_ret
      exact ⟨rfl, (Below.refl _ _).alloc (Nat.le_refl _) _⟩
  · rw [decide_eq_false (show ¬ inP x y from fun h => a h.1.1)]
    have t1 := decide_eq_false a
    clear a
    go_enter Tryd.func28, Tryd.ntmps28
    go_wp2
    go_ret
    exact ⟨rfl, (Below.refl _ _).alloc (Nat.le_refl _) _⟩

/-- the box's own cells, in a later world -/
structure Quad (w : World) (g : Nat) (a b c d : Int) : Prop where
  c0 : w.cell? ⟨g, 0, none⟩ = some (.int .i64 a)
  c1 : w.cell? ⟨g, 1, none⟩ = some (.int .i64 b)
  c2 : w.cell? ⟨g, 2, none⟩ = some (.int .i64 c)
  c3 : w.cell? ⟨g, 3, none⟩ = some (.int .i64 d)
theorem Quad.below {w w' : World} {g : Nat} {a b c d : Int} (h : Quad w g a b c d) (hb : Below w.heap.size w w') : Quad w' g a b c d := by
  have hl := World.block_lt_of_cell? w ⟨g, 0, none⟩ h.c0
  exact ⟨(hb.cell (p := ⟨g, 0, none⟩) hl).trans h.c0, (hb.cell (p := ⟨g, 1, none⟩) hl).trans h.c1, (hb.cell (p := ⟨g, 2, none⟩) hl).trans h.c2, (hb.cell (p := ⟨g, 3, none⟩) hl).trans h.c3⟩
theorem quad_alloc (w : World) (a b c d : Int) (T : TypeId) : Quad (w.alloc (.cells #[.int .i64 a, .int .i64 b, .int .i64 c, .int .i64 d] T)) w.heap.size a b c d := ⟨by simp, by simp, by simp, by simp⟩

theorem CheckBoxR_any (a b c d : Int) (w : World) : Calls Tryd.prog 29 #[.agg #[.int .i64 a, .int .i64 b, .int .i64 c, .int .i64 d]] w fun e w' => e = .returned (.int .i64 (boxCode a b c d)) ∧ Below w.heap.size w w' := by
  have M := Lib.hid (fun x y w => Point_any x y w)
  have B0 : Below w.heap.size w (w.alloc (.cells #[.int .i64 a, .int .i64 b, .int .i64 c, .int .i64 d] 70)) := (Below.refl _ _).alloc (Nat.le_refl _) _
  have Q0 := Lib.hid (quad_alloc w a b c d 70)
  by_cases hp : inP a b
  · have M1 := Lib.hid (fun w => Point_any a b w)
    rw [decide_eq_true hp] at M1
    by_cases hq : inP c d
    · have M2 := Lib.hid (fun w => Point_any c d w)
      rw [decide_eq_true hq] at M2
      by_cases h1 : c < a
      · have hc : boxCode a b c d = 1 := by unfold boxCode; rw [if_pos ⟨hp, hq⟩, if_pos (Or.inl h1)]
        rw [hc]
        have t1 := decide_eq_true h1
        clear hc hp hq
        go_enter Tryd.func29, Tryd.ntmps29
        go_wp2_with fail
        refine (M1.out _).mono ?_
        rintro e w1 ⟨rfl, b1⟩
        obtain ⟨y0, y1, y2, y3⟩ := Q0.out.below b1
        go_wp2_with fail
        refine (M2.out _).mono ?_
        rintro e w2 ⟨rfl, b2⟩
        clear y0 y1 y2 y3
        obtain ⟨y0, y1, y2, y3⟩ := (Q0.out.below b1).below b2
        go_wp2_with fail
        go_ret
        exact ⟨rfl, (B0.trans (b1.mono B0.size)).trans (b2.mono (B0.trans (b1.mono B0.size)).size)⟩
      · by_cases h2 : d < b
        · have hc : boxCode a b c d = 1 := by unfold boxCode; rw [if_pos ⟨hp, hq⟩, if_pos (Or.inr h2)]
          rw [hc]
          have t1 := decide_eq_false h1
          have t2 := decide_eq_true h2
          clear hc hp hq h1
          go_enter Tryd.func29, Tryd.ntmps29
          go_wp2_with fail
          refine (M1.out _).mono ?_
          rintro e w1 ⟨rfl, b1⟩
          obtain ⟨y0, y1, y2, y3⟩ := Q0.out.below b1
          go_wp2_with fail
          refine (M2.out _).mono ?_
          rintro e w2 ⟨rfl, b2⟩
          clear y0 y1 y2 y3
          obtain ⟨y0, y1, y2, y3⟩ := (Q0.out.below b1).below b2
          go_wp2_with fail
          go_ret
          exact ⟨rfl, (B0.trans (b1.mono B0.size)).trans (b2.mono (B0.trans (b1.mono B0.size)).size)⟩
        · have hc : boxCode a b c d = 0 := by unfold boxCode; rw [if_pos ⟨hp, hq⟩, if_neg (by omega)]
          rw [hc]
          have t1 := decide_eq_false h1
          have t2 := decide_eq_false h2
          clear hc hp hq h1 h2
          go_enter Tryd.func29, Tryd.ntmps29
          go_wp2_with fail
          refine (M1.out _).mono ?_
          rintro e w1 ⟨rfl, b1⟩
          obtain ⟨y0, y1, y2, y3⟩ := Q0.out.below b1
          go_wp2_with fail
          refine (M2.out _).mono ?_
          rintro e w2 ⟨rfl, b2⟩
          clear y0 y1 y2 y3
          obtain ⟨y0, y1, y2, y3⟩ := (Q0.out.below b1).below b2
          go_wp2_with fail
          go_ret
          exact ⟨rfl, (B0.trans (b1.mono B0.size)).trans (b2.mono (B0.trans (b1.mono B0.size)).size)⟩
    · have M2 := Lib.hid (fun w => Point_any c d w)
      rw [decide_eq_false hq] at M2
      have hc : boxCode a b c d = 2 := by unfold boxCode; rw [if_neg (fun h => hq h.2)]
      rw [hc]
      clear hc hp hq
      go_enter Tryd.func29, Tryd.ntmps29
      go_wp2_with fail
      refine (M1.out _).mono ?_
      rintro e w1 ⟨rfl, b1⟩
      obtain ⟨y0, y1, y2, y3⟩ := Q0.out.below b1
      go_wp2_with fail
      refine (M2.out _).mono ?_
      rintro e w2 ⟨rfl, b2⟩
      go_wp2_with fail
      go_ret
      exact ⟨rfl, (B0.trans (b1.mono B0.size)).trans (b2.mono (B0.trans (b1.mono B0.size)).size)⟩
  · have M1 := Lib.hid (fun w => Point_any a b w)
    rw [decide_eq_false hp] at M1
    have hc : boxCode a b c d = 2 := by unfold boxCode; rw [if_neg (fun h => hp h.1)]
    rw [hc]
    clear hc hp
    go_enter Tryd.func29, Tryd.ntmps29
    go_wp2_with fail
    refine (M1.out _).mono ?_
    rintro e w1 ⟨rfl, b1⟩
    go_wp2_with fail
    go_ret
    exact ⟨rfl, B0.trans (b1.mono B0.size)⟩

end

/-! CurveMath -/
section
/-! ### interleaved bits -/
/-- n bits of x and of y, one after the other, the least first -/
def ilv : Nat → Nat → Nat → Nat
  | 0, _, _ => 0
  | n + 1, x, y => x % 2 + 2 * (y % 2) + 4 * ilv n (x / 2) (y / 2)
/-- every second bit, n of them -/
def evb : Nat → Nat → Nat
  | 0, _ => 0
  | n + 1, v => v % 2 + 2 * evb n (v / 4)

theorem ilv_lt : ∀ n x y, ilv n x y < 4 ^ n
  | 0, _, _ => by simp [ilv]
  | n + 1, x, y => by
    have := ilv_lt n (x / 2) (y / 2)
    rw [ilv, Nat.pow_succ]; omega
theorem ilv_top : ∀ n x y, ilv (n + 1) x y = ilv n x y + (x / 2 ^ n % 2) * 4 ^ n + (y / 2 ^ n % 2) * (2 * 4 ^ n)
  | 0, x, y => by simp [ilv]; omega
  | n + 1, x, y => by
    rw [ilv, ilv_top n (x / 2) (y / 2), ilv, Nat.div_div_eq_div_mul, Nat.div_div_eq_div_mul, Nat.mul_comm 2 (2 ^ n), ← Nat.pow_succ, Nat.pow_succ 4 n]
    generalize x / 2 ^ (n + 1) % 2 = a
    generalize y / 2 ^ (n + 1) % 2 = b
    have e1 : a * (4 ^ n * 4) = 4 * (a * 4 ^ n) := by rw [← Nat.mul_assoc]; omega
    have e2 : b * (2 * (4 ^ n * 4)) = 4 * (b * (2 * 4 ^ n)) := by rw [← Nat.mul_assoc 2, ← Nat.mul_assoc b]; omega
    rw [e1, e2]; omega
theorem evb_lt : ∀ n v, evb n v < 2 ^ n
  | 0, _ => by simp [evb]
  | n + 1, v => by
    have := evb_lt n (v / 4)
    rw [evb, Nat.pow_succ]; omega
theorem evb_top : ∀ n v, evb (n + 1) v = evb n v + (v / 4 ^ n % 2) * 2 ^ n
  | 0, v => by simp [evb]
  | n + 1, v => by
    rw [evb, evb_top n (v / 4), evb, Nat.div_div_eq_div_mul, Nat.mul_comm 4 (4 ^ n), ← Nat.pow_succ, Nat.pow_succ 2 n]
    generalize v / 4 ^ (n + 1) % 2 = a
    have e1 : a * (2 ^ n * 2) = 2 * (a * 2 ^ n) := by rw [← Nat.mul_assoc]; omega
    rw [e1]; omega
theorem evb_ilv : ∀ n x y, x < 2 ^ n → evb n (ilv n x y) = x
  | 0, x, y, h => by simp [evb]; simp at h; omega
  | n + 1, x, y, h => by
    rw [Nat.pow_succ] at h
    have ih := evb_ilv n (x / 2) (y / 2) (by omega)
    rw [evb, ilv, show (x % 2 + 2 * (y % 2) + 4 * ilv n (x / 2) (y / 2)) / 4 = ilv n (x / 2) (y / 2) from by omega, ih]
    omega
theorem evb_ilv2 : ∀ n x y, y < 2 ^ n → evb n (ilv n x y / 2) = y
  | 0, x, y, h => by simp [evb]; simp at h; omega
  | n + 1, x, y, h => by
    rw [Nat.pow_succ] at h
    have ih := evb_ilv2 n (x / 2) (y / 2) (by omega)
    rw [evb, ilv, show (x % 2 + 2 * (y % 2) + 4 * ilv n (x / 2) (y / 2)) / 2 / 4 = ilv n (x / 2) (y / 2) / 2 from by omega, ih]
    omega
theorem ilv_evb : ∀ n v, v < 4 ^ n → ilv n (evb n v) (evb n (v / 2)) = v
  | 0, v, h => by simp [ilv]; simp at h; omega
  | n + 1, v, h => by
    rw [Nat.pow_succ] at h
    have ih := ilv_evb n (v / 4) (by omega)
    rw [ilv, evb, evb, show (v % 2 + 2 * evb n (v / 4)) / 2 = evb n (v / 4) from by omega, show (v / 2 % 2 + 2 * evb n (v / 2 / 4)) / 2 = evb n (v / 4 / 2) from by
      rw [show v / 2 / 4 = v / 4 / 2 from by omega]; omega, ih]
    omega
theorem ilv_inj {n x y x' y' : Nat} (hx : x < 2 ^ n) (hy : y < 2 ^ n) (hx' : x' < 2 ^ n) (hy' : y' < 2 ^ n) (h : ilv n x y = ilv n x' y') : x = x' ∧ y = y' := by
  have h1 := evb_ilv n x y hx
  have h2 := evb_ilv2 n x y hy
  rw [h] at h1 h2
  rw [evb_ilv n x' y' hx'] at h1
  rw [evb_ilv2 n x' y' hy'] at h2
  exact ⟨h1.symm, h2.symm⟩
theorem ilv_mono : ∀ n {x y x' y' : Nat}, x ≤ x' → y ≤ y' → x' < 2 ^ n → y' < 2 ^ n → ilv n x y ≤ ilv n x' y'
  | 0, _, _, _, _, _, _, _, _ => by simp [ilv]
  | n + 1, x, y, x', y', hx, hy, hx', hy' => by
    rw [Nat.pow_succ] at hx' hy'
    have ih := ilv_mono n (x := x / 2) (y := y / 2) (x' := x' / 2) (y' := y' / 2) (by omega) (by omega) (by omega) (by omega)
    rw [ilv, ilv]
    rcases Nat.lt_or_eq_of_le ih with h | h
    · omega
    · obtain ⟨e1, e2⟩ := ilv_inj (by omega) (by omega) (by omega) (by omega) h
      rw [h]; omega

/-! ### Hilbert's curve -/
/-- a point's place on the curve of n times n quarters -/
def hil : Nat → Nat → Nat → Nat
  | 0, _, _ => 0
  | n + 1, x, y =>
    if x < 2 ^ n then (if y < 2 ^ n then hil n y x else 4 ^ n + hil n x (y - 2 ^ n))
    else if 2 ^ n ≤ y then 2 * 4 ^ n + hil n (x - 2 ^ n) (y - 2 ^ n) else 3 * 4 ^ n + hil n (2 ^ n - 1 - y) (2 * 2 ^ n - 1 - x)
/-- one quarter more -/
def turnQ (h q : Nat) (p : Nat × Nat) : Nat × Nat :=
  if q = 0 then (p.2, p.1) else if q = 1 then (p.1, p.2 + h) else if q = 2 then (p.1 + h, p.2 + h) else (2 * h - 1 - p.2, h - 1 - p.1)
/-- the point at a place -/
def unh : Nat → Nat → Nat × Nat
  | 0, _ => (0, 0)
  | n + 1, v => turnQ (2 ^ n) (v / 4 ^ n % 4) (unh n v)

theorem turnQ_lt {h q : Nat} {p : Nat × Nat} (h1 : p.1 < h) (h2 : p.2 < h) : (turnQ h q p).1 < h * 2 ∧ (turnQ h q p).2 < h * 2 := by
  unfold turnQ
  repeat' split
  all_goals (constructor <;> simp <;> omega)
theorem unh_lt : ∀ n v, (unh n v).1 < 2 ^ n ∧ (unh n v).2 < 2 ^ n
  | 0, _ => by simp [unh]
  | n + 1, v => by
    rw [unh, Nat.pow_succ]
    exact turnQ_lt (unh_lt n v).1 (unh_lt n v).2
theorem four_pos (n : Nat) : 0 < 4 ^ n := Nat.pow_pos (by omega)
theorem two_pos (n : Nat) : 0 < 2 ^ n := Nat.pow_pos (by omega)
theorem unh_add : ∀ n v k, unh n (v + k * 4 ^ n) = unh n v
  | 0, _, _ => rfl
  | n + 1, v, k => by
    rw [unh, unh]
    have e : v + k * 4 ^ (n + 1) = v + (k * 4) * 4 ^ n := by rw [Nat.pow_succ, Nat.mul_comm (4 ^ n) 4, Nat.mul_assoc]
    rw [e, unh_add n v (k * 4), Nat.add_mul_div_right _ _ (four_pos n)]
    congr 1
    omega
theorem unh_mod (n v : Nat) : unh n v = unh n (v % 4 ^ n) := by
  have := unh_add n (v % 4 ^ n) (v / 4 ^ n)
  rw [← this]
  congr 1
  have := Nat.div_add_mod v (4 ^ n)
  rw [Nat.mul_comm] at this
  omega
theorem hil_lt : ∀ n x y, hil n x y < 4 ^ n
  | 0, _, _ => by simp [hil]
  | n + 1, x, y => by
    rw [hil, Nat.pow_succ]
    have h1 := hil_lt n y x
    have h2 := hil_lt n x (y - 2 ^ n)
    have h3 := hil_lt n (x - 2 ^ n) (y - 2 ^ n)
    have h4 := hil_lt n (2 ^ n - 1 - y) (2 * 2 ^ n - 1 - x)
    repeat' split
    all_goals omega
theorem hil_turn {n q a b : Nat} (hq : q < 4) (ha : a < 2 ^ n) (hb : b < 2 ^ n) : hil (n + 1) (turnQ (2 ^ n) q (a, b)).1 (turnQ (2 ^ n) q (a, b)).2 = q * 4 ^ n + hil n a b := by
  unfold turnQ
  by_cases h0 : q = 0
  · subst h0
    simp only [if_pos, hil]
    rw [if_pos hb, if_pos ha]; omega
  · rw [if_neg h0]
    by_cases h1 : q = 1
    · subst h1
      simp only [if_pos, hil]
      rw [if_pos ha, if_neg (by omega), show b + 2 ^ n - 2 ^ n = b from by omega]; omega
    · rw [if_neg h1]
      by_cases h2 : q = 2
      · subst h2
        simp only [if_pos, hil]
        rw [if_neg (by omega), if_pos (by omega), show b + 2 ^ n - 2 ^ n = b from by omega, show a + 2 ^ n - 2 ^ n = a from by omega]
      · obtain rfl : q = 3 := by omega
        rw [if_neg h2]
        simp only [hil]
        rw [if_neg (by omega), if_neg (by omega), show 2 ^ n - 1 - (2 ^ n - 1 - a) = a from by omega, show 2 * 2 ^ n - 1 - (2 * 2 ^ n - 1 - b) = b from by omega]
theorem hil_unh : ∀ n v, v < 4 ^ n → hil n (unh n v).1 (unh n v).2 = v
  | 0, v, h => by simp [hil]; simp at h; omega
  | n + 1, v, h => by
    rw [Nat.pow_succ] at h
    have hq : v / 4 ^ n < 4 := by rw [Nat.div_lt_iff_lt_mul (four_pos n)]; omega
    have ih := hil_unh n (v % 4 ^ n) (Nat.mod_lt _ (four_pos n))
    rw [← unh_mod] at ih
    obtain ⟨h1, h2⟩ := unh_lt n v
    rw [unh, Nat.mod_eq_of_lt hq]
    have := hil_turn (n := n) hq h1 h2
    rw [this, ih, Nat.mul_comm]
    exact Nat.div_add_mod v (4 ^ n)

/-- two neighbours -/
def nbr (p q : Nat × Nat) : Prop := (p.1 = q.1 ∧ (p.2 + 1 = q.2 ∨ q.2 + 1 = p.2)) ∨ (p.2 = q.2 ∧ (p.1 + 1 = q.1 ∨ q.1 + 1 = p.1))
theorem unh_zero : ∀ n, unh n 0 = (0, 0)
  | 0 => rfl
  | n + 1 => by rw [unh, unh_zero n]; simp [turnQ]
theorem unh_last : ∀ n, unh n (4 ^ n - 1) = (2 ^ n - 1, 0)
  | 0 => rfl
  | n + 1 => by
    have hp := four_pos n
    have h2 := two_pos n
    have e : 4 ^ (n + 1) - 1 = (4 ^ n - 1) + 3 * 4 ^ n := by rw [Nat.pow_succ]; omega
    rw [unh, e, unh_add, unh_last n, Nat.add_mul_div_right _ _ hp, Nat.div_eq_of_lt (by omega)]
    simp [turnQ, Nat.pow_succ]
    omega
theorem nbr_turn {h q : Nat} {p r : Nat × Nat} (hq : q < 4) (h1 : p.1 < h) (h2 : p.2 < h) (h3 : r.1 < h) (h4 : r.2 < h) (hn : nbr p r) : nbr (turnQ h q p) (turnQ h q r) := by
  unfold nbr at *
  unfold turnQ
  repeat' split
  all_goals (simp; omega)
theorem unh_next : ∀ n v, v + 1 < 4 ^ n → nbr (unh n v) (unh n (v + 1))
  | 0, v, h => by simp at h
  | n + 1, v, h => by
    have hp := four_pos n
    have h2 := two_pos n
    have hm := Nat.mod_lt v hp
    have hd := Nat.div_add_mod v (4 ^ n)
    have hq : (v + 1) / 4 ^ n < 4 := by rw [Nat.div_lt_iff_lt_mul hp]; rw [Nat.pow_succ] at h; omega
    generalize hqe : v / 4 ^ n = q at *
    generalize hre : v % 4 ^ n = r at *
    have hv : v = r + q * 4 ^ n := by rw [Nat.mul_comm]; omega
    by_cases hr : r + 1 < 4 ^ n
    · have e : (v + 1) / 4 ^ n = q := by
        rw [show v + 1 = (r + 1) + q * 4 ^ n from by omega, Nat.add_mul_div_right _ _ hp, Nat.div_eq_of_lt hr]; omega
      rw [e] at hq
      have ih := unh_next n r hr
      rw [unh, unh, e, hqe, Nat.mod_eq_of_lt hq]
      refine nbr_turn hq (unh_lt n _).1 (unh_lt n _).2 (unh_lt n _).1 (unh_lt n _).2 ?_
      rw [show v + 1 = (r + 1) + q * 4 ^ n from by omega, unh_add, hv, unh_add]
      exact ih
    · have hr' : r = 4 ^ n - 1 := by omega
      have hm1 : (q + 1) * 4 ^ n = q * 4 ^ n + 4 ^ n := by rw [Nat.add_mul, Nat.one_mul]
      have e : (v + 1) / 4 ^ n = q + 1 := by
        rw [show v + 1 = 0 + (q + 1) * 4 ^ n from by omega, Nat.add_mul_div_right _ _ hp]; simp
      rw [e] at hq
      have e0 : unh n v = (2 ^ n - 1, 0) := by rw [hv, unh_add, hr', unh_last]
      have e1 : unh n (v + 1) = (0, 0) := by
        rw [show v + 1 = 0 + (q + 1) * 4 ^ n from by omega, unh_add, unh_zero]
      rw [unh, unh, e, hqe, Nat.mod_eq_of_lt hq, Nat.mod_eq_of_lt (show q < 4 by omega), e0, e1]
      have : q = 0 ∨ q = 1 ∨ q = 2 := by omega
      rcases this with rfl | rfl | rfl
      all_goals (simp [turnQ, nbr]; try omega)

/-- in which quarter a place's point lies -/
theorem unh_quarter (n v : Nat) (h : v < 4 ^ (n + 1)) :
    (v / 4 ^ n = 0 ↔ (unh (n + 1) v).1 < 2 ^ n ∧ (unh (n + 1) v).2 < 2 ^ n) ∧ (v / 4 ^ n = 1 ↔ (unh (n + 1) v).1 < 2 ^ n ∧ ¬ (unh (n + 1) v).2 < 2 ^ n) ∧
    (v / 4 ^ n = 2 ↔ ¬ (unh (n + 1) v).1 < 2 ^ n ∧ ¬ (unh (n + 1) v).2 < 2 ^ n) ∧ (v / 4 ^ n = 3 ↔ ¬ (unh (n + 1) v).1 < 2 ^ n ∧ (unh (n + 1) v).2 < 2 ^ n) := by
  have hq : v / 4 ^ n < 4 := by rw [Nat.div_lt_iff_lt_mul (four_pos n)]; rw [Nat.pow_succ] at h; omega
  have h2 := two_pos n
  obtain ⟨h3, h4⟩ := unh_lt n v
  rw [unh, Nat.mod_eq_of_lt hq]
  generalize v / 4 ^ n = q at *
  generalize unh n v = p at *
  have : q = 0 ∨ q = 1 ∨ q = 2 ∨ q = 3 := by omega
  rcases this with rfl | rfl | rfl | rfl
  all_goals (simp [turnQ]; try omega)
end

/-! CurveZ -/
section
open Go.RowKit

def curveStr : ByteArray := ⟨#[99, 117, 114, 118, 101]⟩
theorem Below.drewN' {B : Nat} {a w : World} (h : Below B a w) (n : Nat) : Below B a (w.drewN n) := ⟨h.os, h.tape, h.output, h.size, h.block⟩
/-- The call hands back a number and an error. -/
def NumErr (w : World) (n : Nat) (E : Er) (e : Ending) (w' : World) : Prop := ∃ u, e = .returned (.tuple #[.int .u64 (n : Int), u]) ∧ E.Is w' u ∧ Below w.heap.size w w'

theorem ilv_step (k X Y : Nat) (hk : k < 31) (hX : X < 4294967296) (hY : Y < 4294967296) :
    bits .or .u64 ((ilv k X Y : Nat) : Int) (bits .or .u64 (IntKind.u64.wrap (bits .and .u64 ((X : Int) / 2 ^ k) 1 * 2 ^ (2 * k))) (IntKind.u64.wrap (bits .and .u64 ((Y : Int) / 2 ^ k) 1 * 2 ^ (2 * k + 1)))) = ((ilv (k + 1) X Y : Nat) : Int) := by
  have hx : X / 2 ^ k ≤ X := Nat.div_le_self _ _
  have hy : Y / 2 ^ k ≤ Y := Nat.div_le_self _ _
  have hp : 2 ^ (2 * k + 1) ≤ 2 ^ 61 := Nat.pow_le_pow_right (by omega) (by omega)
  have hp0 : 2 ^ (2 * k + 1) = 2 ^ (2 * k) * 2 := Nat.pow_succ ..
  have hl := ilv_lt k X Y
  rw [four_pow] at hl
  rw [cast_div2, cast_div2, and1_u64 _ (by omega), and1_u64 _ (by omega), cast_mul2, cast_mul2, ilv_top, four_pow]
  generalize hxb : X / 2 ^ k % 2 = xb
  generalize hyb : Y / 2 ^ k % 2 = yb
  have hxb' : xb < 2 := by omega
  have hyb' : yb < 2 := by omega
  generalize ilv k X Y = v at *
  have m1 : xb * 2 ^ (2 * k) ≤ 2 ^ (2 * k) := by
    have : xb = 0 ∨ xb = 1 := by omega
    rcases this with rfl | rfl <;> omega
  have m2 : yb * 2 ^ (2 * k + 1) ≤ 2 ^ (2 * k + 1) := by
    have : yb = 0 ∨ yb = 1 := by omega
    rcases this with rfl | rfl <;> omega
  have hpos : 0 < 2 ^ (2 * k) := Nat.pow_pos (by omega)
  rw [wrap_u64_nat _ (by omega), wrap_u64_nat _ (by omega), or_u64_nat _ _ (by omega) (by omega), or_add64 _ _ _ (by omega)]
  have e : xb * 2 ^ (2 * k) + yb * 2 ^ (2 * k + 1) = (xb + 2 * yb) * 2 ^ (2 * k) := by
    rw [hp0, Nat.add_mul, ← Nat.mul_assoc, Nat.mul_right_comm, Nat.mul_comm yb 2]
  rw [e, or_u64_nat _ _ (by omega) (by omega), or_add64 _ _ _ hl]
  congr 1
  rw [Nat.add_mul, Nat.mul_comm 2 yb, Nat.mul_assoc yb 2, Nat.add_assoc]

end

/-! CurveH -/
section
open Go.RowKit

theorem two_le (n : Nat) (h : n ≤ 31) : (2 : Int) ^ n ≤ 2147483648 ∧ (1 : Int) ≤ 2 ^ n := by
  have h1 : 2 ^ n ≤ 2 ^ 31 := Nat.pow_le_pow_right (by omega) h
  have h2 : 0 < 2 ^ n := Nat.pow_pos (by omega)
  rw [cast_pow2]
  omega

theorem vor (V q : Nat) (hV : V * 4 < 4 ^ 31) (hq : q < 4) : bits .or .u64 (IntKind.u64.wrap ((V : Int) * 4)) (q : Int) = ((V * 4 + q : Nat) : Int) := by
  have e : (V : Int) * 4 = ((V * 4 : Nat) : Int) := by omega
  rw [e, wrap_u64_nat _ (by omega), or_u64_nat _ _ (by omega) (by omega), Nat.or_comm, show V * 4 = V * 2 ^ 2 from rfl, or_add64 _ _ _ (by omega)]
  congr 1
  omega
theorem vbound {V m n a b : Nat} (hn : n ≤ 31) (h : a = V * 4 ^ (m + 1) + b) (ha : a < 4 ^ n) : V * 4 < 4 ^ 31 := by
  have h1 : 4 ^ n ≤ 4 ^ 31 := Nat.pow_le_pow_right (by omega) hn
  have h2 : 1 ≤ 4 ^ m := Nat.pow_pos (by omega)
  have h3 : V * 4 ≤ V * 4 * 4 ^ m := Nat.le_mul_of_pos_right _ h2
  have h4 : V * 4 ^ (m + 1) = V * 4 * 4 ^ m := by rw [Nat.pow_succ, Nat.mul_assoc, Nat.mul_comm (4 ^ m) 4]
  omega
theorem hstep {A V m x y : Nat} (h : A = V * 4 ^ (m + 1) + hil (m + 1) x y) (q x' y' : Nat) (hh : hil (m + 1) x y = q * 4 ^ m + hil m x' y') : A = (V * 4 + q) * 4 ^ m + hil m x' y' := by
  rw [h, hh, Nat.pow_succ, Nat.add_mul, Nat.mul_assoc, Nat.mul_comm (4 ^ m) 4, ← Nat.mul_assoc]
  omega

end

/-! CurveC -/
section
open Go.RowKit

/-- The call hands back a point and an error. -/
def PtErr (w : World) (x y : Int) (E : Er) (e : Ending) (w' : World) : Prop := ∃ u, e = .returned (.tuple #[.agg #[.int .i64 x, .int .i64 y], u]) ∧ E.Is w' u ∧ Below w.heap.size w w'

/-- a new Fault round a number -/
def FreshF (base : Nat) (w : World) (k : Int) (v : Value) : Prop := ∃ b, v = .iface 61 (.pointer (some ⟨b, 0, none⟩)) ∧ base ≤ b ∧ b < w.heap.size ∧ w.cell? ⟨b, 0, none⟩ = some (.string curveStr) ∧ w.cell? ⟨b, 1, none⟩ = some (.int .i64 0) ∧ w.cell? ⟨b, 2, none⟩ = some (.iface 54 (.int .i64 k))
theorem FreshF.is {base : Nat} {w : World} {k : Int} {v : Value} (h : FreshF base w k v) : Er.Is w (.fault curveStr 0 (.num k)) v := by
  obtain ⟨b, h1, _, h2, h3, h4, h5⟩ := h
  exact ⟨b, _, h1, h2, h3, h4, h5, rfl⟩
theorem FreshF.set {base : Nat} {w : World} {k : Int} {v : Value} (h : FreshF base w k v) (g o : Nat) (x : Value) (hg : g < base) : FreshF base (w.setCell ⟨g, o, none⟩ x) k v := by
  obtain ⟨b, h1, h0, h2, h3, h4, h5⟩ := h
  exact ⟨b, h1, h0, by simpa using h2, (World.cell?_setCell_other _ _ _ _ (by intro e; simp at e; try omega)).trans h3, (World.cell?_setCell_other _ _ _ _ (by intro e; simp at e; try omega)).trans h4, (World.cell?_setCell_other _ _ _ _ (by intro e; simp at e; try omega)).trans h5⟩
/-- a point's two cells, stored anew -/
theorem pt_cells (w : World) (g : Nat) (x y : Value) {a b : Value} (h0 : w.cell? ⟨g, 0, none⟩ = some a) (h1 : w.cell? ⟨g, 1, none⟩ = some b) :
    ((w.setCell ⟨g, 0, none⟩ x).setCell ⟨g, 1, none⟩ y).cell? ⟨g, 0, none⟩ = some x ∧ ((w.setCell ⟨g, 0, none⟩ x).setCell ⟨g, 1, none⟩ y).cell? ⟨g, 1, none⟩ = some y :=
  ⟨(World.cell?_setCell_other _ _ _ _ (by simp)).trans (World.cell?_setCell_same _ _ _ h0), World.cell?_setCell_same _ _ _ ((World.cell?_setCell_other _ _ _ _ (by simp)).trans h1)⟩

theorem Er.wrap_code (k : Int) (h : k ≠ 0) : (Er.ofCode k).wrap curveStr 0 = .fault curveStr 0 (.num k) := by
  unfold Er.ofCode
  rw [if_neg h]; rfl

end

/-! Curve1 -/
section
open Go.RowKit Go.ChangeShapes Go.WideShapes Go.Joins

end

/-! CurveCentre -/
section
open Go.RowKit Go.ChangeShapes Go.WideShapes Go.Joins

/-- the cells of a point -/
structure Pair (w : World) (g : Nat) (x y : Int) : Prop where
  c0 : w.cell? ⟨g, 0, none⟩ = some (.int .i64 x)
  c1 : w.cell? ⟨g, 1, none⟩ = some (.int .i64 y)
theorem Pair.below {w w' : World} {g : Nat} {x y : Int} (h : Pair w g x y) (hb : Below w.heap.size w w') : Pair w' g x y := by
  have hl := World.block_lt_of_cell? w ⟨g, 0, none⟩ h.c0
  exact ⟨(hb.cell (p := ⟨g, 0, none⟩) hl).trans h.c0, (hb.cell (p := ⟨g, 1, none⟩) hl).trans h.c1⟩
theorem pair_alloc (w : World) (x y : Int) (T : TypeId) : Pair (w.alloc (.cells #[.int .i64 x, .int .i64 y] T)) w.heap.size x y := ⟨by simp, by simp⟩

theorem boxCode_zero {a b c d : Int} (h : boxCode a b c d = 0) : inP a b ∧ inP c d ∧ a ≤ c ∧ b ≤ d := by
  unfold boxCode at h
  by_cases hp : inP a b ∧ inP c d
  · rw [if_pos hp] at h
    by_cases h1 : c < a ∨ d < b
    · rw [if_pos h1] at h; cases h
    · exact ⟨hp.1, hp.2, by omega, by omega⟩
  · rw [if_neg hp] at h; cases h
theorem boxCode_mk {a b c d : Int} (h1 : inP a b) (h2 : inP c d) (h3 : a ≤ c) (h4 : b ≤ d) : boxCode a b c d = 0 := by
  unfold boxCode
  rw [if_pos ⟨h1, h2⟩, if_neg (by omega)]

end

/-! CurveUnz -/
section
open Go.RowKit

/-- the point at a place of the first curve, both numbers from 0 on -/
def uX (v : Nat) : Int := (evb 32 v : Int) - 1073741824
def uY (v : Nat) : Int := (evb 32 (v / 2) : Int) - 1073741824

theorem evb_stepG (k v a : Nat) (hk : k < 32) (ha : a < 18446744073709551616) (h : a % 2 = v / 4 ^ k % 2) :
    bits .or .i64 ((evb k v : Nat) : Int) (wrap64 (wrap64 (bits .and .u64 (a : Int) 1) * 2 ^ k)) = ((evb (k + 1) v : Nat) : Int) := by
  have hl := evb_lt k v
  have hp : 2 ^ k ≤ 2 ^ 31 := Nat.pow_le_pow_right (by omega) (by omega)
  rw [and1_u64 _ ha, h, evb_top]
  have hb : v / 4 ^ k % 2 < 2 := Nat.mod_lt _ (by omega)
  generalize v / 4 ^ k % 2 = b at *
  have m1 : b * 2 ^ k ≤ 2 ^ k := by
    have : b = 0 ∨ b = 1 := by omega
    rcases this with rfl | rfl <;> omega
  rw [IntWalk.wrap64_in (b : Int) (by omega), cast_mul2, IntWalk.wrap64_in ((b * 2 ^ k : Nat) : Int) (by omega), or_i64_nat _ _ (by omega) (by omega), or_add64 _ _ _ hl]
theorem evb_step1 (k v : Nat) (hk : k < 32) (hv : v < 18446744073709551616) :
    bits .or .i64 ((evb k v : Nat) : Int) (wrap64 (wrap64 (bits .and .u64 ((v : Int) / 2 ^ (2 * k)) 1) * 2 ^ k)) = ((evb (k + 1) v : Nat) : Int) := by
  have h : v / 2 ^ (2 * k) ≤ v := Nat.div_le_self _ _
  rw [cast_div2]
  exact evb_stepG k v _ hk (by omega) (by rw [four_pow])
theorem evb_step2 (k v : Nat) (hk : k < 32) (hv : v < 18446744073709551616) :
    bits .or .i64 ((evb k (v / 2) : Nat) : Int) (wrap64 (wrap64 (bits .and .u64 ((v : Int) / 2 ^ (2 * k + 1)) 1) * 2 ^ k)) = ((evb (k + 1) (v / 2) : Nat) : Int) := by
  have h : v / 2 ^ (2 * k + 1) ≤ v := Nat.div_le_self _ _
  rw [cast_div2]
  exact evb_stepG k (v / 2) _ hk (by omega) (by rw [four_pow, Nat.div_div_eq_div_mul, Nat.pow_succ, Nat.mul_comm (2 ^ (2 * k)) 2])

end

/-! CurveU -/
section
open Go.RowKit

theorem quarter_of (v k : Nat) (hv : v < 18446744073709551616) : bits .and .u64 ((v : Int) / 2 ^ (2 * k)) 3 = ((v / 4 ^ k % 4 : Nat) : Int) := by
  have h : v / 2 ^ (2 * k) ≤ v := Nat.div_le_self _ _
  rw [cast_div2, and3_u64 _ (by omega), four_pow]

end

/-! CurveGrows -/
section
open Go.RowKit Go.ChangeShapes Go.WideShapes

theorem inC_nat {x : Int} (h : inC x) : ∃ X : Nat, x = (X : Int) - 1073741824 ∧ 1 ≤ X ∧ X < 2147483648 := by
  obtain ⟨h1, h2⟩ := h
  exact ⟨(x + 1073741824).toNat, by omega, by omega, by omega⟩

/-- the place of a point -/
def zOf (x y : Int) : Nat := ilv 31 (x + 1073741824).toNat (y + 1073741824).toNat
theorem z_mono {a b c d : Int} (h1 : inP a b) (h2 : inP c d) (hx : a ≤ c) (hy : b ≤ d) : zOf a b ≤ zOf c d := by
  obtain ⟨⟨p1, p2⟩, p3, p4⟩ := h1
  obtain ⟨⟨q1, q2⟩, q3, q4⟩ := h2
  exact ilv_mono 31 (by omega) (by omega) (by omega) (by omega)
theorem z_inj {a b c d : Int} (h1 : inP a b) (h2 : inP c d) (h : zOf a b = zOf c d) : a = c ∧ b = d := by
  obtain ⟨⟨p1, p2⟩, p3, p4⟩ := h1
  obtain ⟨⟨q1, q2⟩, q3, q4⟩ := h2
  obtain ⟨e1, e2⟩ := ilv_inj (n := 31) (by omega) (by omega) (by omega) (by omega) h
  omega

end

/-! CurveRef -/
section
open Go.RowKit

/-- The call hands back a number and an error's number. -/
def NumCode (w : World) (n : Nat) (k : Int) (e : Ending) (w' : World) : Prop := e = .returned (.tuple #[.int .u64 (n : Int), .int .i64 k]) ∧ Below w.heap.size w w'
/-- The call hands back a point and an error's number. -/
def PtCode (w : World) (x y : Int) (k : Int) (e : Ending) (w' : World) : Prop := e = .returned (.tuple #[.agg #[.int .i64 x, .int .i64 y], .int .i64 k]) ∧ Below w.heap.size w w'

theorem ilv_stepR (k X Y : Nat) (hk : k < 31) (hX : X < 4294967296) (hY : Y < 4294967296) :
    bits .or .u64 (bits .or .u64 ((ilv k X Y : Nat) : Int) (IntKind.u64.wrap (bits .and .u64 ((X : Int) / 2 ^ k) 1 * 2 ^ (2 * k)))) (IntKind.u64.wrap (bits .and .u64 ((Y : Int) / 2 ^ k) 1 * 2 ^ (2 * k + 1))) = ((ilv (k + 1) X Y : Nat) : Int) := by
  rw [← ilv_step k X Y hk hX hY]
  have hx : X / 2 ^ k ≤ X := Nat.div_le_self _ _
  have hy : Y / 2 ^ k ≤ Y := Nat.div_le_self _ _
  have hp : 2 ^ (2 * k + 1) ≤ 2 ^ 61 := Nat.pow_le_pow_right (by omega) (by omega)
  have hp0 : 2 ^ (2 * k + 1) = 2 ^ (2 * k) * 2 := Nat.pow_succ ..
  have hl := ilv_lt k X Y
  have h4 : (4 : Nat) ^ k ≤ 4 ^ 31 := Nat.pow_le_pow_right (by omega) (by omega)
  rw [cast_div2, cast_div2, and1_u64 _ (by omega), and1_u64 _ (by omega), cast_mul2, cast_mul2]
  generalize hxb : X / 2 ^ k % 2 = xb
  generalize hyb : Y / 2 ^ k % 2 = yb
  have hxb' : xb < 2 := by omega
  have hyb' : yb < 2 := by omega
  generalize ilv k X Y = v at *
  have m1 : xb * 2 ^ (2 * k) ≤ 2 ^ (2 * k) := by
    have : xb = 0 ∨ xb = 1 := by omega
    rcases this with rfl | rfl <;> omega
  have m2 : yb * 2 ^ (2 * k + 1) ≤ 2 ^ (2 * k + 1) := by
    have : yb = 0 ∨ yb = 1 := by omega
    rcases this with rfl | rfl <;> omega
  generalize xb * 2 ^ (2 * k) = P at *
  generalize yb * 2 ^ (2 * k + 1) = Q at *
  rw [wrap_u64_nat _ (by omega), wrap_u64_nat _ (by omega), or_u64_nat v P (by omega) (by omega), or_u64_nat P Q (by omega) (by omega),
    or_u64_nat _ Q (Nat.or_lt_two_pow (n := 64) (by omega) (by omega)) (by omega), or_u64_nat v _ (by omega) (Nat.or_lt_two_pow (n := 64) (by omega) (by omega)), Nat.or_assoc]

theorem zOf_uX (v : Nat) (hv : v < 18446744073709551616) (h : inP (uX v) (uY v)) : zOf (uX v) (uY v) = v := by
  obtain ⟨⟨h1, h2⟩, h3, h4⟩ := h
  unfold uX at h1 h2
  unfold uY at h3 h4
  unfold zOf uX uY
  rw [show ((evb 32 v : Int) - 1073741824 + 1073741824).toNat = evb 32 v by omega, show ((evb 32 (v / 2) : Int) - 1073741824 + 1073741824).toNat = evb 32 (v / 2) by omega]
  have t1 : evb 32 v = evb 31 v + v / 4 ^ 31 % 2 * 2147483648 := evb_top 31 v
  have t2 : evb 32 (v / 2) = evb 31 (v / 2) + v / 2 / 4 ^ 31 % 2 * 2147483648 := evb_top 31 (v / 2)
  have b1 : v / 4 ^ 31 % 2 < 2 := Nat.mod_lt _ (by omega)
  have b2 : v / 2 / 4 ^ 31 % 2 < 2 := Nat.mod_lt _ (by omega)
  have u1 : (evb 32 v : Int) ≤ 2147483647 := by omega
  have u2 : (evb 32 (v / 2) : Int) ≤ 2147483647 := by omega
  have c1 : v / 4 ^ 31 % 2 = 0 := by clear h1 h2 h3 h4 b2 t2; generalize v / 4 ^ 31 % 2 = q at *; omega
  have c2 : v / 2 / 4 ^ 31 % 2 = 0 := by clear h1 h2 h3 h4 b1 t1 c1; generalize v / 2 / 4 ^ 31 % 2 = q at *; omega
  rw [c1] at t1
  rw [c2] at t2
  have hv2 : v < 4 ^ 31 := by omega
  rw [t1, t2, Nat.zero_mul, Nat.add_zero, Nat.add_zero]
  exact ilv_evb 31 v hv2

end

/-! CurveRef2 -/
section
open Go.RowKit

/-- in the square of n bits -/
def inQ (x y : Int) (n : Nat) : Prop := (0 ≤ x ∧ 0 ≤ y) ∧ x < 2 ^ n ∧ y < 2 ^ n
instance (x y : Int) (n : Nat) : Decidable (inQ x y n) := inferInstanceAs (Decidable ((0 ≤ x ∧ 0 ≤ y) ∧ x < 2 ^ n ∧ y < 2 ^ n))

end
end Go.Proofs.YthcfekabeidmiaaRRDoorR.Cv
