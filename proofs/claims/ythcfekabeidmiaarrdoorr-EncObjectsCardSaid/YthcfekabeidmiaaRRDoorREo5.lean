/- pergolaref3.Point, Cross, Orient, dot. (printed by wip/gen_ref.py) pergolaref3.On. (printed by wip/gen_ref.py) -/
import Derived.Test.YthcfekabeidmiaaRRDoorREo4
set_option linter.unusedSimpArgs false
set_option linter.unusedVariables false
namespace Go.Proofs.YthcfekabeidmiaaRRDoorR
/-! RefA -/
section
open Go.RowKit

theorem Point_any (x y : Int) (w : World) : Calls Tryd.prog 28 #[.agg #[.int .i64 x, .int .i64 y]] w fun e w' => e = .returned (.bool (decide (inP x y))) ∧ Below w.heap.size w w' := by
  by_cases a : -1073741823 ≤ x
  · by_cases b : x ≤ 1073741823
    · by_cases c : -1073741823 ≤ y
      · by_cases d : y ≤ 1073741823
        · rw [decide_eq_true (show inP x y from ⟨⟨a, b⟩, c, d⟩)]
          have t1 := decide_eq_true a
          have t2 := decide_eq_true b
          have t3 := decide_eq_true c
          have t4 := decide_eq_true d
          go_enter Tryd.func28, Tryd.ntmps28
          go_wp2
          go_ret
          exact ⟨rfl, (Below.refl _ _).alloc (Nat.le_refl _) _⟩
        · rw [decide_eq_false (show ¬ inP x y from fun h => d h.2.2)]
          have t1 := decide_eq_true a
          have t2 := decide_eq_true b
          have t3 := decide_eq_true c
          have t4 := decide_eq_false d
          clear d
          go_enter Tryd.func28, Tryd.ntmps28
          go_wp2
          go_ret
          exact ⟨rfl, (Below.refl _ _).alloc (Nat.le_refl _) _⟩
      · rw [decide_eq_false (show ¬ inP x y from fun h => c h.2.1)]
        have t1 := decide_eq_true a
        have t2 := decide_eq_true b
        have t3 := decide_eq_false c
        clear c
        go_enter Tryd.func28, Tryd.ntmps28
        go_wp2
        go_ret
        exact ⟨rfl, (Below.refl _ _).alloc (Nat.le_refl _) _⟩
    · rw [decide_eq_false (show ¬ inP x y from fun h => b h.1.2)]
      have t1 := decide_eq_true a
      have t2 := decide_eq_false b
      clear b
      go_enter Tryd.func28, Tryd.ntmps28
      go_wp2
      go_ret
      exact ⟨rfl, (Below.refl _ _).alloc (Nat.le_refl _) _⟩
  · rw [decide_eq_false (show ¬ inP x y from fun h => a h.1.1)]
    have t1 := decide_eq_false a
    clear a
    go_enter Tryd.func28, Tryd.ntmps28
    go_wp2
    go_ret
    exact ⟨rfl, (Below.refl _ _).alloc (Nat.le_refl _) _⟩

theorem CrossR_ok (ax ay bx bz cx cy : Int) (w : World) (ha : inP ax ay) (hb : inP bx bz) (hc : inP cx cy) :
    Calls Tryd.prog 59 #[.agg #[.int .i64 ax, .int .i64 ay], .agg #[.int .i64 bx, .int .i64 bz], .agg #[.int .i64 cx, .int .i64 cy]] w fun e w' => e = .returned (.int .i64 (crs (ax, ay) (bx, bz) (cx, cy))) ∧ Below w.heap.size w w' := by
  have PH0 := Lib.hid (fun w => Point_any ax ay w)
  rw [decide_eq_true ha] at PH0
  have PH1 := Lib.hid (fun w => Point_any bx bz w)
  rw [decide_eq_true hb] at PH1
  have PH2 := Lib.hid (fun w => Point_any cx cy w)
  rw [decide_eq_true hc] at PH2
  obtain ⟨⟨p1, p2⟩, p3, p4⟩ := crs_parts (a := (ax, ay)) (b := (bx, bz)) (c := (cx, cy)) ha hb hc
  obtain ⟨d1, d2, d3, d4⟩ := inP_diff (a := (ax, ay)) (b := (bx, bz)) ha hb
  obtain ⟨k1, k2, k3, k4⟩ := inP_diff (a := (ax, ay)) (b := (cx, cy)) ha hc
  simp only at p1 p2 p3 p4 d1 d2 d3 d4 k1 k2 k3 k4
  have HW := Lib.hid (show wrap64 (wrap64 ((bx - ax) * (cy - ay)) - wrap64 ((bz - ay) * (cx - ax))) = crs (ax, ay) (bx, bz) (cx, cy) by
    have w1 : wrap64 ((bx - ax) * (cy - ay)) = (bx - ax) * (cy - ay) := by simp [wrap64]; omega
    have w2 : wrap64 ((bz - ay) * (cx - ax)) = (bz - ay) * (cx - ax) := by simp [wrap64]; omega
    rw [w1, w2]
    unfold crs
    simp only
    simp [wrap64]; omega)
  clear ha hb hc p1 p2 p3 p4
  have B0 : Below w.heap.size w (((w.alloc (.cells #[.int .i64 ax, .int .i64 ay] 43)).alloc (.cells #[.int .i64 bx, .int .i64 bz] 43)).alloc (.cells #[.int .i64 cx, .int .i64 cy] 43)) := (((Below.refl _ _).alloc (Nat.le_refl _) _).alloc (by simp) _).alloc (by simp; omega) _
  have T0 := tri_alloc w 43 ax ay bx bz cx cy
  generalize hW : ((w.alloc (.cells #[.int .i64 ax, .int .i64 ay] 43)).alloc (.cells #[.int .i64 bx, .int .i64 bz] 43)).alloc (.cells #[.int .i64 cx, .int .i64 cy] 43) = W at B0 T0
  have XS := Lib.hid (show ∀ w', Below W.heap.size W w' → _ from fun w' hb => (Tri.below T0 hb).cells)
  obtain ⟨y0, y1, y2, y3, y4, y5⟩ := T0.cells
  have hz : w.heap.size + 1 + 1 < W.heap.size := World.block_lt_of_cell? W ⟨w.heap.size + 1 + 1, 0, none⟩ y4
  clear T0
  go_enter Tryd.func59, Tryd.ntmps59
  go_wp2_with fail
  refine (PH0.out _).mono ?_
  rintro e w1 ⟨rfl, b1⟩
  have B1 := (Below.refl W.heap.size W).trans (b1.mono (Below.refl W.heap.size W).size)
  clear y0 y1 y2 y3 y4 y5
  obtain ⟨y0, y1, y2, y3, y4, y5⟩ := XS.out _ B1
  go_wp2_with fail
  refine (PH1.out _).mono ?_
  rintro e w2 ⟨rfl, b2⟩
  have B2 := B1.trans (b2.mono B1.size)
  clear y0 y1 y2 y3 y4 y5
  obtain ⟨y0, y1, y2, y3, y4, y5⟩ := XS.out _ B2
  go_wp2_with fail
  refine (PH2.out _).mono ?_
  rintro e w3 ⟨rfl, b3⟩
  have B3 := B2.trans (b3.mono B2.size)
  clear y0 y1 y2 y3 y4 y5
  obtain ⟨y0, y1, y2, y3, y4, y5⟩ := XS.out _ B3
  go_wp2_with fail
  go_ret
  exact ⟨by rw [← HW.out]; rfl, B0.trans (B3.mono B0.size)⟩
theorem OrientR_ok (ax ay bx bz cx cy : Int) (w : World) (ha : inP ax ay) (hb : inP bx bz) (hc : inP cx cy) :
    Calls Tryd.prog 68 #[.agg #[.int .i64 ax, .int .i64 ay], .agg #[.int .i64 bx, .int .i64 bz], .agg #[.int .i64 cx, .int .i64 cy]] w fun e w' => e = .returned (.int .i64 (sgn (crs (ax, ay) (bx, bz) (cx, cy)))) ∧ Below w.heap.size w w' := by
  have C := Lib.hid (fun w => CrossR_ok ax ay bx bz cx cy w ha hb hc)
  generalize crs (ax, ay) (bx, bz) (cx, cy) = q at *
  clear ha hb hc
  have B0 : Below w.heap.size w (((w.alloc (.cells #[.int .i64 ax, .int .i64 ay] 43)).alloc (.cells #[.int .i64 bx, .int .i64 bz] 43)).alloc (.cells #[.int .i64 cx, .int .i64 cy] 43)) := (((Below.refl _ _).alloc (Nat.le_refl _) _).alloc (by simp) _).alloc (by simp; omega) _
  have T0 := tri_alloc w 43 ax ay bx bz cx cy
  generalize hW : ((w.alloc (.cells #[.int .i64 ax, .int .i64 ay] 43)).alloc (.cells #[.int .i64 bx, .int .i64 bz] 43)).alloc (.cells #[.int .i64 cx, .int .i64 cy] 43) = W at B0 T0
  have XS := Lib.hid (show ∀ w', Below W.heap.size W w' → _ from fun w' hb => (Tri.below T0 hb).cells)
  obtain ⟨y0, y1, y2, y3, y4, y5⟩ := T0.cells
  have hz : w.heap.size + 1 + 1 < W.heap.size := World.block_lt_of_cell? W ⟨w.heap.size + 1 + 1, 0, none⟩ y4
  clear T0
  by_cases h1 : 0 < q
  · have e0 : sgn q = 1 := by unfold sgn; rw [if_neg (by omega), if_neg (by omega)]
    rw [e0]
    have t1 := decide_eq_true h1
    clear e0
    go_enter Tryd.func68, Tryd.ntmps68
    go_wp2_with fail
    refine (C.out _).mono ?_
    rintro e w1 ⟨rfl, b1⟩
    go_wp2_with fail
    go_ret
    exact ⟨rfl, B0.trans (b1.mono B0.size)⟩
  · have t1 := decide_eq_false h1
    by_cases h2 : q < 0
    · have e0 : sgn q = -1 := by unfold sgn; rw [if_pos (by omega)]
      rw [e0]
      have t2 := decide_eq_true h2
      clear e0
      go_enter Tryd.func68, Tryd.ntmps68
      go_wp2_with fail
      refine (C.out _).mono ?_
      rintro e w1 ⟨rfl, b1⟩
      go_wp2_with fail
      go_ret
      exact ⟨rfl, B0.trans (b1.mono B0.size)⟩
    · have e0 : sgn q = 0 := by unfold sgn; rw [if_neg (by omega), if_pos (by omega)]
      rw [e0]
      have t2 := decide_eq_false h2
      clear e0
      go_enter Tryd.func68, Tryd.ntmps68
      go_wp2_with fail
      refine (C.out _).mono ?_
      rintro e w1 ⟨rfl, b1⟩
      go_wp2_with fail
      go_ret
      exact ⟨rfl, B0.trans (b1.mono B0.size)⟩

/-- the product of two steps from a -/
def dotv (a b c : Pt) : Int := (b.1 - a.1) * (c.1 - a.1) + (b.2 - a.2) * (c.2 - a.2)
theorem dotR_ok (ax ay bx bz cx cy : Int) (w : World) (ha : inP ax ay) (hb : inP bx bz) (hc : inP cx cy) :
    Calls Tryd.prog 60 #[.agg #[.int .i64 ax, .int .i64 ay], .agg #[.int .i64 bx, .int .i64 bz], .agg #[.int .i64 cx, .int .i64 cy]] w fun e w' => e = .returned (.int .i64 (dotv (ax, ay) (bx, bz) (cx, cy))) ∧ Below w.heap.size w w' := by
  obtain ⟨d1, d2, d3, d4⟩ := inP_diff (a := (ax, ay)) (b := (bx, bz)) ha hb
  obtain ⟨k1, k2, k3, k4⟩ := inP_diff (a := (ax, ay)) (b := (cx, cy)) ha hc
  have p := mul_bd (bx - ax) (cx - ax) 2147483646 d1 d2 k1 k2
  have q := mul_bd (bz - ay) (cy - ay) 2147483646 d3 d4 k3 k4
  simp only at d1 d2 d3 d4 k1 k2 k3 k4
  have HW := Lib.hid (show wrap64 (wrap64 ((bx - ax) * (cx - ax)) + wrap64 ((bz - ay) * (cy - ay))) = dotv (ax, ay) (bx, bz) (cx, cy) by
    have w1 : wrap64 ((bx - ax) * (cx - ax)) = (bx - ax) * (cx - ax) := by simp [wrap64]; omega
    have w2 : wrap64 ((bz - ay) * (cy - ay)) = (bz - ay) * (cy - ay) := by simp [wrap64]; omega
    rw [w1, w2]
    unfold dotv
    simp only
    simp [wrap64]; omega)
  clear ha hb hc p q
  have B0 : Below w.heap.size w (((w.alloc (.cells #[.int .i64 ax, .int .i64 ay] 43)).alloc (.cells #[.int .i64 bx, .int .i64 bz] 43)).alloc (.cells #[.int .i64 cx, .int .i64 cy] 43)) := (((Below.refl _ _).alloc (Nat.le_refl _) _).alloc (by simp) _).alloc (by simp; omega) _
  have T0 := tri_alloc w 43 ax ay bx bz cx cy
  generalize hW : ((w.alloc (.cells #[.int .i64 ax, .int .i64 ay] 43)).alloc (.cells #[.int .i64 bx, .int .i64 bz] 43)).alloc (.cells #[.int .i64 cx, .int .i64 cy] 43) = W at B0 T0
  have XS := Lib.hid (show ∀ w', Below W.heap.size W w' → _ from fun w' hb => (Tri.below T0 hb).cells)
  obtain ⟨y0, y1, y2, y3, y4, y5⟩ := T0.cells
  have hz : w.heap.size + 1 + 1 < W.heap.size := World.block_lt_of_cell? W ⟨w.heap.size + 1 + 1, 0, none⟩ y4
  clear T0
  go_enter Tryd.func60, Tryd.ntmps60
  go_wp2_with fail
  go_ret
  exact ⟨by rw [← HW.out]; rfl, B0⟩
end

/-! RefOn -/
section
open Go.RowKit

set_option maxRecDepth 100000 in
theorem OnR_bad0 (ax ay bx bz cx cy : Int) (w : World) (ha : ¬ inP ax ay) :
    Calls Tryd.prog 62 #[.agg #[.int .i64 ax, .int .i64 ay], .agg #[.int .i64 bx, .int .i64 bz], .agg #[.int .i64 cx, .int .i64 cy]] w fun e w' => e = .returned (.bool false) ∧ Below w.heap.size w w' := by
  have PH0 := Lib.hid (fun w => Point_any ax ay w)
  rw [decide_eq_false ha] at PH0
  clear ha
  have B0 : Below w.heap.size w (((w.alloc (.cells #[.int .i64 ax, .int .i64 ay] 43)).alloc (.cells #[.int .i64 bx, .int .i64 bz] 43)).alloc (.cells #[.int .i64 cx, .int .i64 cy] 43)) := (((Below.refl _ _).alloc (Nat.le_refl _) _).alloc (by simp) _).alloc (by simp; omega) _
  have T0 := tri_alloc w 43 ax ay bx bz cx cy
  generalize hW : ((w.alloc (.cells #[.int .i64 ax, .int .i64 ay] 43)).alloc (.cells #[.int .i64 bx, .int .i64 bz] 43)).alloc (.cells #[.int .i64 cx, .int .i64 cy] 43) = W at B0 T0
  have XS := Lib.hid (show ∀ w', Below W.heap.size W w' → _ from fun w' hb => (Tri.below T0 hb).cells)
  obtain ⟨y0, y1, y2, y3, y4, y5⟩ := T0.cells
  have hz : w.heap.size + 1 + 1 < W.heap.size := World.block_lt_of_cell? W ⟨w.heap.size + 1 + 1, 0, none⟩ y4
  clear T0
  go_enter Tryd.func62, Tryd.ntmps62
  go_wp2_with fail
  refine (PH0.out _).mono ?_
  rintro e w1 ⟨rfl, b1⟩
  have B1 := (Below.refl W.heap.size W).trans (b1.mono (Below.refl W.heap.size W).size)
  clear y0 y1 y2 y3 y4 y5
  obtain ⟨y0, y1, y2, y3, y4, y5⟩ := XS.out _ B1
  go_wp2_with fail
  go_ret
  exact ⟨rfl, B0.trans (B1.mono B0.size)⟩
set_option maxRecDepth 100000 in
theorem OnR_bad1 (ax ay bx bz cx cy : Int) (w : World) (ha : inP ax ay) (hb : ¬ inP bx bz) :
    Calls Tryd.prog 62 #[.agg #[.int .i64 ax, .int .i64 ay], .agg #[.int .i64 bx, .int .i64 bz], .agg #[.int .i64 cx, .int .i64 cy]] w fun e w' => e = .returned (.bool false) ∧ Below w.heap.size w w' := by
  have PH0 := Lib.hid (fun w => Point_any ax ay w)
  rw [decide_eq_true ha] at PH0
  have PH1 := Lib.hid (fun w => Point_any bx bz w)
  rw [decide_eq_false hb] at PH1
  clear ha hb
  have B0 : Below w.heap.size w (((w.alloc (.cells #[.int .i64 ax, .int .i64 ay] 43)).alloc (.cells #[.int .i64 bx, .int .i64 bz] 43)).alloc (.cells #[.int .i64 cx, .int .i64 cy] 43)) := (((Below.refl _ _).alloc (Nat.le_refl _) _).alloc (by simp) _).alloc (by simp; omega) _
  have T0 := tri_alloc w 43 ax ay bx bz cx cy
  generalize hW : ((w.alloc (.cells #[.int .i64 ax, .int .i64 ay] 43)).alloc (.cells #[.int .i64 bx, .int .i64 bz] 43)).alloc (.cells #[.int .i64 cx, .int .i64 cy] 43) = W at B0 T0
  have XS := Lib.hid (show ∀ w', Below W.heap.size W w' → _ from fun w' hb => (Tri.below T0 hb).cells)
  obtain ⟨y0, y1, y2, y3, y4, y5⟩ := T0.cells
  have hz : w.heap.size + 1 + 1 < W.heap.size := World.block_lt_of_cell? W ⟨w.heap.size + 1 + 1, 0, none⟩ y4
  clear T0
  go_enter Tryd.func62, Tryd.ntmps62
  go_wp2_with fail
  refine (PH0.out _).mono ?_
  rintro e w1 ⟨rfl, b1⟩
  have B1 := (Below.refl W.heap.size W).trans (b1.mono (Below.refl W.heap.size W).size)
  clear y0 y1 y2 y3 y4 y5
  obtain ⟨y0, y1, y2, y3, y4, y5⟩ := XS.out _ B1
  go_wp2_with fail
  refine (PH1.out _).mono ?_
  rintro e w2 ⟨rfl, b2⟩
  have B2 := B1.trans (b2.mono B1.size)
  clear y0 y1 y2 y3 y4 y5
  obtain ⟨y0, y1, y2, y3, y4, y5⟩ := XS.out _ B2
  go_wp2_with fail
  go_ret
  exact ⟨rfl, B0.trans (B2.mono B0.size)⟩
set_option maxRecDepth 100000 in
theorem OnR_bad2 (ax ay bx bz cx cy : Int) (w : World) (ha : inP ax ay) (hb : inP bx bz) (hc : ¬ inP cx cy) :
    Calls Tryd.prog 62 #[.agg #[.int .i64 ax, .int .i64 ay], .agg #[.int .i64 bx, .int .i64 bz], .agg #[.int .i64 cx, .int .i64 cy]] w fun e w' => e = .returned (.bool false) ∧ Below w.heap.size w w' := by
  have PH0 := Lib.hid (fun w => Point_any ax ay w)
  rw [decide_eq_true ha] at PH0
  have PH1 := Lib.hid (fun w => Point_any bx bz w)
  rw [decide_eq_true hb] at PH1
  have PH2 := Lib.hid (fun w => Point_any cx cy w)
  rw [decide_eq_false hc] at PH2
  clear ha hb hc
  have B0 : Below w.heap.size w (((w.alloc (.cells #[.int .i64 ax, .int .i64 ay] 43)).alloc (.cells #[.int .i64 bx, .int .i64 bz] 43)).alloc (.cells #[.int .i64 cx, .int .i64 cy] 43)) := (((Below.refl _ _).alloc (Nat.le_refl _) _).alloc (by simp) _).alloc (by simp; omega) _
  have T0 := tri_alloc w 43 ax ay bx bz cx cy
  generalize hW : ((w.alloc (.cells #[.int .i64 ax, .int .i64 ay] 43)).alloc (.cells #[.int .i64 bx, .int .i64 bz] 43)).alloc (.cells #[.int .i64 cx, .int .i64 cy] 43) = W at B0 T0
  have XS := Lib.hid (show ∀ w', Below W.heap.size W w' → _ from fun w' hb => (Tri.below T0 hb).cells)
  obtain ⟨y0, y1, y2, y3, y4, y5⟩ := T0.cells
  have hz : w.heap.size + 1 + 1 < W.heap.size := World.block_lt_of_cell? W ⟨w.heap.size + 1 + 1, 0, none⟩ y4
  clear T0
  go_enter Tryd.func62, Tryd.ntmps62
  go_wp2_with fail
  refine (PH0.out _).mono ?_
  rintro e w1 ⟨rfl, b1⟩
  have B1 := (Below.refl W.heap.size W).trans (b1.mono (Below.refl W.heap.size W).size)
  clear y0 y1 y2 y3 y4 y5
  obtain ⟨y0, y1, y2, y3, y4, y5⟩ := XS.out _ B1
  go_wp2_with fail
  refine (PH1.out _).mono ?_
  rintro e w2 ⟨rfl, b2⟩
  have B2 := B1.trans (b2.mono B1.size)
  clear y0 y1 y2 y3 y4 y5
  obtain ⟨y0, y1, y2, y3, y4, y5⟩ := XS.out _ B2
  go_wp2_with fail
  refine (PH2.out _).mono ?_
  rintro e w3 ⟨rfl, b3⟩
  have B3 := B2.trans (b3.mono B2.size)
  clear y0 y1 y2 y3 y4 y5
  obtain ⟨y0, y1, y2, y3, y4, y5⟩ := XS.out _ B3
  go_wp2_with fail
  go_ret
  exact ⟨rfl, B0.trans (B3.mono B0.size)⟩
set_option maxRecDepth 100000 in
theorem OnR_off (ax ay bx bz cx cy : Int) (w : World) (ha : inP ax ay) (hb : inP bx bz) (hc : inP cx cy) (h : crs (ax, ay) (bx, bz) (cx, cy) ≠ 0) :
    Calls Tryd.prog 62 #[.agg #[.int .i64 ax, .int .i64 ay], .agg #[.int .i64 bx, .int .i64 bz], .agg #[.int .i64 cx, .int .i64 cy]] w fun e w' => e = .returned (.bool false) ∧ Below w.heap.size w w' := by
  have PH0 := Lib.hid (fun w => Point_any ax ay w)
  rw [decide_eq_true ha] at PH0
  have PH1 := Lib.hid (fun w => Point_any bx bz w)
  rw [decide_eq_true hb] at PH1
  have PH2 := Lib.hid (fun w => Point_any cx cy w)
  rw [decide_eq_true hc] at PH2
  have C := Lib.hid (fun w => CrossR_ok ax ay bx bz cx cy w ha hb hc)
  have t1 : (crs (ax, ay) (bx, bz) (cx, cy) == 0) = false := by simpa using h
  generalize crs (ax, ay) (bx, bz) (cx, cy) = s at *
  clear h ha hb hc
  have B0 : Below w.heap.size w (((w.alloc (.cells #[.int .i64 ax, .int .i64 ay] 43)).alloc (.cells #[.int .i64 bx, .int .i64 bz] 43)).alloc (.cells #[.int .i64 cx, .int .i64 cy] 43)) := (((Below.refl _ _).alloc (Nat.le_refl _) _).alloc (by simp) _).alloc (by simp; omega) _
  have T0 := tri_alloc w 43 ax ay bx bz cx cy
  generalize hW : ((w.alloc (.cells #[.int .i64 ax, .int .i64 ay] 43)).alloc (.cells #[.int .i64 bx, .int .i64 bz] 43)).alloc (.cells #[.int .i64 cx, .int .i64 cy] 43) = W at B0 T0
  have XS := Lib.hid (show ∀ w', Below W.heap.size W w' → _ from fun w' hb => (Tri.below T0 hb).cells)
  obtain ⟨y0, y1, y2, y3, y4, y5⟩ := T0.cells
  have hz : w.heap.size + 1 + 1 < W.heap.size := World.block_lt_of_cell? W ⟨w.heap.size + 1 + 1, 0, none⟩ y4
  clear T0
  go_enter Tryd.func62, Tryd.ntmps62
  go_wp2_with fail
  refine (PH0.out _).mono ?_
  rintro e w1 ⟨rfl, b1⟩
  have B1 := (Below.refl W.heap.size W).trans (b1.mono (Below.refl W.heap.size W).size)
  clear y0 y1 y2 y3 y4 y5
  obtain ⟨y0, y1, y2, y3, y4, y5⟩ := XS.out _ B1
  go_wp2_with fail
  refine (PH1.out _).mono ?_
  rintro e w2 ⟨rfl, b2⟩
  have B2 := B1.trans (b2.mono B1.size)
  clear y0 y1 y2 y3 y4 y5
  obtain ⟨y0, y1, y2, y3, y4, y5⟩ := XS.out _ B2
  go_wp2_with fail
  refine (PH2.out _).mono ?_
  rintro e w3 ⟨rfl, b3⟩
  have B3 := B2.trans (b3.mono B2.size)
  clear y0 y1 y2 y3 y4 y5
  obtain ⟨y0, y1, y2, y3, y4, y5⟩ := XS.out _ B3
  go_wp2_with fail
  refine (C.out _).mono ?_
  rintro e w4 ⟨rfl, b4⟩
  have B4 := B3.trans (b4.mono B3.size)
  clear y0 y1 y2 y3 y4 y5
  obtain ⟨y0, y1, y2, y3, y4, y5⟩ := XS.out _ B4
  go_wp2_with fail
  go_ret
  exact ⟨rfl, B0.trans (B4.mono B0.size)⟩
set_option maxHeartbeats 4000000 in
set_option maxRecDepth 100000 in
theorem OnR_line (ax ay bx bz cx cy : Int) (w : World) (ha : inP ax ay) (hb : inP bx bz) (hc : inP cx cy) (h : crs (ax, ay) (bx, bz) (cx, cy) = 0) :
    Calls Tryd.prog 62 #[.agg #[.int .i64 ax, .int .i64 ay], .agg #[.int .i64 bx, .int .i64 bz], .agg #[.int .i64 cx, .int .i64 cy]] w fun e w' => e = .returned (.bool (boxB (ax, ay) (bx, bz) (cx, cy))) ∧ Below w.heap.size w w' := by
  have PH0 := Lib.hid (fun w => Point_any ax ay w)
  rw [decide_eq_true ha] at PH0
  have PH1 := Lib.hid (fun w => Point_any bx bz w)
  rw [decide_eq_true hb] at PH1
  have PH2 := Lib.hid (fun w => Point_any cx cy w)
  rw [decide_eq_true hc] at PH2
  have C := Lib.hid (fun w => CrossR_ok ax ay bx bz cx cy w ha hb hc)
  rw [h] at C
  have HB := Lib.hid (show ∀ q : Bool, (q = true ↔ (min ax bx ≤ cx ∧ cx ≤ max ax bx ∧ min ay bz ≤ cy ∧ cy ≤ max ay bz)) → boxB (ax, ay) (bx, bz) (cx, cy) = q from fun q h => by
    unfold boxB
    cases q with
    | true => exact decide_eq_true (h.1 rfl)
    | false => exact decide_eq_false fun k => absurd (h.2 k) (by decide))
  clear h ha hb hc
  have B0 : Below w.heap.size w (((w.alloc (.cells #[.int .i64 ax, .int .i64 ay] 43)).alloc (.cells #[.int .i64 bx, .int .i64 bz] 43)).alloc (.cells #[.int .i64 cx, .int .i64 cy] 43)) := (((Below.refl _ _).alloc (Nat.le_refl _) _).alloc (by simp) _).alloc (by simp; omega) _
  have T0 := tri_alloc w 43 ax ay bx bz cx cy
  generalize hW : ((w.alloc (.cells #[.int .i64 ax, .int .i64 ay] 43)).alloc (.cells #[.int .i64 bx, .int .i64 bz] 43)).alloc (.cells #[.int .i64 cx, .int .i64 cy] 43) = W at B0 T0
  have XS := Lib.hid (show ∀ w', Below W.heap.size W w' → _ from fun w' hb => (Tri.below T0 hb).cells)
  obtain ⟨y0, y1, y2, y3, y4, y5⟩ := T0.cells
  have hz : w.heap.size + 1 + 1 < W.heap.size := World.block_lt_of_cell? W ⟨w.heap.size + 1 + 1, 0, none⟩ y4
  clear T0
  go_enter Tryd.func62, Tryd.ntmps62
  go_wp2_with fail
  refine (PH0.out _).mono ?_
  rintro e w1 ⟨rfl, b1⟩
  have B1 := (Below.refl W.heap.size W).trans (b1.mono (Below.refl W.heap.size W).size)
  clear y0 y1 y2 y3 y4 y5
  obtain ⟨y0, y1, y2, y3, y4, y5⟩ := XS.out _ B1
  go_wp2_with fail
  refine (PH1.out _).mono ?_
  rintro e w2 ⟨rfl, b2⟩
  have B2 := B1.trans (b2.mono B1.size)
  clear y0 y1 y2 y3 y4 y5
  obtain ⟨y0, y1, y2, y3, y4, y5⟩ := XS.out _ B2
  go_wp2_with fail
  refine (PH2.out _).mono ?_
  rintro e w3 ⟨rfl, b3⟩
  have B3 := B2.trans (b3.mono B2.size)
  clear y0 y1 y2 y3 y4 y5
  obtain ⟨y0, y1, y2, y3, y4, y5⟩ := XS.out _ B3
  go_wp2_with fail
  refine (C.out _).mono ?_
  rintro e w4 ⟨rfl, b4⟩
  have B4 := B3.trans (b4.mono B3.size)
  clear y0 y1 y2 y3 y4 y5
  obtain ⟨y0, y1, y2, y3, y4, y5⟩ := XS.out _ B4
  go_wp2_with fail
  all_goals
    go_ret
    exact ⟨congrArg (fun b => Ending.returned (Value.bool b)) (HB.out _ (by simp; try omega)).symm, B0.trans (B4.mono B0.size)⟩

theorem OnR_any (ax ay bx bz cx cy : Int) (w : World) :
    Calls Tryd.prog 62 #[.agg #[.int .i64 ax, .int .i64 ay], .agg #[.int .i64 bx, .int .i64 bz], .agg #[.int .i64 cx, .int .i64 cy]] w fun e w' => e = .returned (.bool (onB (ax, ay) (bx, bz) (cx, cy))) ∧ Below w.heap.size w w' := by
  by_cases ha : inP ax ay
  · by_cases hb : inP bx bz
    · by_cases hc : inP cx cy
      · have oa : okP (ax, ay) = true := decide_eq_true ha
        have ob : okP (bx, bz) = true := decide_eq_true hb
        have oc : okP (cx, cy) = true := decide_eq_true hc
        by_cases h : crs (ax, ay) (bx, bz) (cx, cy) = 0
        · have e1 : onB (ax, ay) (bx, bz) (cx, cy) = boxB (ax, ay) (bx, bz) (cx, cy) := by unfold onB; rw [oa, ob, oc, decide_eq_true h]; rfl
          rw [e1]
          exact OnR_line ax ay bx bz cx cy w ha hb hc h
        · have e1 : onB (ax, ay) (bx, bz) (cx, cy) = false := by unfold onB; rw [decide_eq_false h]; simp
          rw [e1]
          exact OnR_off ax ay bx bz cx cy w ha hb hc h
      · have e1 : onB (ax, ay) (bx, bz) (cx, cy) = false := by unfold onB; rw [show okP (cx, cy) = false from decide_eq_false hc]; simp
        rw [e1]
        exact OnR_bad2 ax ay bx bz cx cy w ha hb hc
    · have e1 : onB (ax, ay) (bx, bz) (cx, cy) = false := by unfold onB; rw [show okP (bx, bz) = false from decide_eq_false hb]; simp
      rw [e1]
      exact OnR_bad1 ax ay bx bz cx cy w ha hb
  · have e1 : onB (ax, ay) (bx, bz) (cx, cy) = false := by unfold onB; rw [show okP (ax, ay) = false from decide_eq_false ha]; simp
    rw [e1]
    exact OnR_bad0 ax ay bx bz cx cy w ha
end

end Go.Proofs.YthcfekabeidmiaaRRDoorR
