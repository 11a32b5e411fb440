/- pergolaref3.On. (printed by wip/gen_ref.py) -/
import Derived.Test.YtpmngdgifdkohaaDoorRefA
namespace Go.Proofs.YtpmngdgifdkohaaDoor
open Go.RowKit

set_option maxRecDepth 100000 in
theorem OnR_bad0 (ax ay bx bz cx cy : Int) (w : World) (ha : ¬ inP ax ay) :
    Calls Tryd.prog 22 #[.agg #[.int .i64 ax, .int .i64 ay], .agg #[.int .i64 bx, .int .i64 bz], .agg #[.int .i64 cx, .int .i64 cy]] w fun e w' => e = .returned (.bool false) ∧ Below w.heap.size w w' := by
  have PH0 := Lib.hid (fun w => Point_any ax ay w)
  rw [decide_eq_false ha] at PH0
  clear ha
  have B0 : Below w.heap.size w (((w.alloc (.cells #[.int .i64 ax, .int .i64 ay] 24)).alloc (.cells #[.int .i64 bx, .int .i64 bz] 24)).alloc (.cells #[.int .i64 cx, .int .i64 cy] 24)) := (((Below.refl _ _).alloc (Nat.le_refl _) _).alloc (by simp) _).alloc (by simp; omega) _
  have T0 := tri_alloc w 24 ax ay bx bz cx cy
  generalize hW : ((w.alloc (.cells #[.int .i64 ax, .int .i64 ay] 24)).alloc (.cells #[.int .i64 bx, .int .i64 bz] 24)).alloc (.cells #[.int .i64 cx, .int .i64 cy] 24) = W at B0 T0
  have XS := Lib.hid (show ∀ w', Below W.heap.size W w' → _ from fun w' hb => (Tri.below T0 hb).cells)
  obtain ⟨y0, y1, y2, y3, y4, y5⟩ := T0.cells
  have hz : w.heap.size + 1 + 1 < W.heap.size := World.block_lt_of_cell? W ⟨w.heap.size + 1 + 1, 0, none⟩ y4
  clear T0
  go_enter Tryd.func22, Tryd.ntmps22
  go_wp2_with fail
  refine (PH0.out _).mono ?_
  rintro e w1 ⟨rfl, b1⟩
  have B1 := (Below.refl W.heap.size W).trans (b1.mono (Below.refl W.heap.size W).size)
  clear y0 y1 y2 y3 y4 y5
  obtain ⟨y0, y1, y2, y3, y4, y5⟩ := XS.out _ B1
  go_wp2_with fail
  go_ret
  exact ⟨rfl, B0.trans (B1.mono B0.size)⟩
set_option maxRecDepth 100000 in
theorem OnR_bad1 (ax ay bx bz cx cy : Int) (w : World) (ha : inP ax ay) (hb : ¬ inP bx bz) :
    Calls Tryd.prog 22 #[.agg #[.int .i64 ax, .int .i64 ay], .agg #[.int .i64 bx, .int .i64 bz], .agg #[.int .i64 cx, .int .i64 cy]] w fun e w' => e = .returned (.bool false) ∧ Below w.heap.size w w' := by
  have PH0 := Lib.hid (fun w => Point_any ax ay w)
  rw [decide_eq_true ha] at PH0
  have PH1 := Lib.hid (fun w => Point_any bx bz w)
  rw [decide_eq_false hb] at PH1
  clear ha hb
  have B0 : Below w.heap.size w (((w.alloc (.cells #[.int .i64 ax, .int .i64 ay] 24)).alloc (.cells #[.int .i64 bx, .int .i64 bz] 24)).alloc (.cells #[.int .i64 cx, .int .i64 cy] 24)) := (((Below.refl _ _).alloc (Nat.le_refl _) _).alloc (by simp) _).alloc (by simp; omega) _
  have T0 := tri_alloc w 24 ax ay bx bz cx cy
  generalize hW : ((w.alloc (.cells #[.int .i64 ax, .int .i64 ay] 24)).alloc (.cells #[.int .i64 bx, .int .i64 bz] 24)).alloc (.cells #[.int .i64 cx, .int .i64 cy] 24) = W at B0 T0
  have XS := Lib.hid (show ∀ w', Below W.heap.size W w' → _ from fun w' hb => (Tri.below T0 hb).cells)
  obtain ⟨y0, y1, y2, y3, y4, y5⟩ := T0.cells
  have hz : w.heap.size + 1 + 1 < W.heap.size := World.block_lt_of_cell? W ⟨w.heap.size + 1 + 1, 0, none⟩ y4
  clear T0
  go_enter Tryd.func22, Tryd.ntmps22
  go_wp2_with fail
  refine (PH0.out _).mono ?_
  rintro e w1 ⟨rfl, b1⟩
  have B1 := (Below.refl W.heap.size W).trans (b1.mono (Below.refl W.heap.size W).size)
  clear y0 y1 y2 y3 y4 y5
  obtain ⟨y0, y1, y2, y3, y4, y5⟩ := XS.out _ B1
  go_wp2_with fail
  refine (PH1.out _).mono ?_
  rintro e w2 ⟨rfl, b2⟩
  have B2 := B1.trans (b2.mono B1.size)
  clear y0 y1 y2 y3 y4 y5
  obtain ⟨y0, y1, y2, y3, y4, y5⟩ := XS.out _ B2
  go_wp2_with fail
  go_ret
  exact ⟨rfl, B0.trans (B2.mono B0.size)⟩
set_option maxRecDepth 100000 in
theorem OnR_bad2 (ax ay bx bz cx cy : Int) (w : World) (ha : inP ax ay) (hb : inP bx bz) (hc : ¬ inP cx cy) :
    Calls Tryd.prog 22 #[.agg #[.int .i64 ax, .int .i64 ay], .agg #[.int .i64 bx, .int .i64 bz], .agg #[.int .i64 cx, .int .i64 cy]] w fun e w' => e = .returned (.bool false) ∧ Below w.heap.size w w' := by
  have PH0 := Lib.hid (fun w => Point_any ax ay w)
  rw [decide_eq_true ha] at PH0
  have PH1 := Lib.hid (fun w => Point_any bx bz w)
  rw [decide_eq_true hb] at PH1
  have PH2 := Lib.hid (fun w => Point_any cx cy w)
  rw [decide_eq_false hc] at PH2
  clear ha hb hc
  have B0 : Below w.heap.size w (((w.alloc (.cells #[.int .i64 ax, .int .i64 ay] 24)).alloc (.cells #[.int .i64 bx, .int .i64 bz] 24)).alloc (.cells #[.int .i64 cx, .int .i64 cy] 24)) := (((Below.refl _ _).alloc (Nat.le_refl _) _).alloc (by simp) _).alloc (by simp; omega) _
  have T0 := tri_alloc w 24 ax ay bx bz cx cy
  generalize hW : ((w.alloc (.cells #[.int .i64 ax, .int .i64 ay] 24)).alloc (.cells #[.int .i64 bx, .int .i64 bz] 24)).alloc (.cells #[.int .i64 cx, .int .i64 cy] 24) = W at B0 T0
  have XS := Lib.hid (show ∀ w', Below W.heap.size W w' → _ from fun w' hb => (Tri.below T0 hb).cells)
  obtain ⟨y0, y1, y2, y3, y4, y5⟩ := T0.cells
  have hz : w.heap.size + 1 + 1 < W.heap.size := World.block_lt_of_cell? W ⟨w.heap.size + 1 + 1, 0, none⟩ y4
  clear T0
  go_enter Tryd.func22, Tryd.ntmps22
  go_wp2_with fail
  refine (PH0.out _).mono ?_
  rintro e w1 ⟨rfl, b1⟩
  have B1 := (Below.refl W.heap.size W).trans (b1.mono (Below.refl W.heap.size W).size)
  clear y0 y1 y2 y3 y4 y5
  obtain ⟨y0, y1, y2, y3, y4, y5⟩ := XS.out _ B1
  go_wp2_with fail
  refine (PH1.out _).mono ?_
  rintro e w2 ⟨rfl, b2⟩
  have B2 := B1.trans (b2.mono B1.size)
  clear y0 y1 y2 y3 y4 y5
  obtain ⟨y0, y1, y2, y3, y4, y5⟩ := XS.out _ B2
  go_wp2_with fail
  refine (PH2.out _).mono ?_
  rintro e w3 ⟨rfl, b3⟩
  have B3 := B2.trans (b3.mono B2.size)
  clear y0 y1 y2 y3 y4 y5
  obtain ⟨y0, y1, y2, y3, y4, y5⟩ := XS.out _ B3
  go_wp2_with fail
  go_ret
  exact ⟨rfl, B0.trans (B3.mono B0.size)⟩
set_option maxRecDepth 100000 in
theorem OnR_off (ax ay bx bz cx cy : Int) (w : World) (ha : inP ax ay) (hb : inP bx bz) (hc : inP cx cy) (h : crs (ax, ay) (bx, bz) (cx, cy) ≠ 0) :
    Calls Tryd.prog 22 #[.agg #[.int .i64 ax, .int .i64 ay], .agg #[.int .i64 bx, .int .i64 bz], .agg #[.int .i64 cx, .int .i64 cy]] w fun e w' => e = .returned (.bool false) ∧ Below w.heap.size w w' := by
  have PH0 := Lib.hid (fun w => Point_any ax ay w)
  rw [decide_eq_true ha] at PH0
  have PH1 := Lib.hid (fun w => Point_any bx bz w)
  rw [decide_eq_true hb] at PH1
  have PH2 := Lib.hid (fun w => Point_any cx cy w)
  rw [decide_eq_true hc] at PH2
  have C := Lib.hid (fun w => CrossR_ok ax ay bx bz cx cy w ha hb hc)
  have t1 : (crs (ax, ay) (bx, bz) (cx, cy) == 0) = false := by simpa using h
  generalize crs (ax, ay) (bx, bz) (cx, cy) = s at *
  clear h ha hb hc
  have B0 : Below w.heap.size w (((w.alloc (.cells #[.int .i64 ax, .int .i64 ay] 24)).alloc (.cells #[.int .i64 bx, .int .i64 bz] 24)).alloc (.cells #[.int .i64 cx, .int .i64 cy] 24)) := (((Below.refl _ _).alloc (Nat.le_refl _) _).alloc (by simp) _).alloc (by simp; omega) _
  have T0 := tri_alloc w 24 ax ay bx bz cx cy
  generalize hW : ((w.alloc (.cells #[.int .i64 ax, .int .i64 ay] 24)).alloc (.cells #[.int .i64 bx, .int .i64 bz] 24)).alloc (.cells #[.int .i64 cx, .int .i64 cy] 24) = W at B0 T0
  have XS := Lib.hid (show ∀ w', Below W.heap.size W w' → _ from fun w' hb => (Tri.below T0 hb).cells)
  obtain ⟨y0, y1, y2, y3, y4, y5⟩ := T0.cells
  have hz : w.heap.size + 1 + 1 < W.heap.size := World.block_lt_of_cell? W ⟨w.heap.size + 1 + 1, 0, none⟩ y4
  clear T0
  go_enter Tryd.func22, Tryd.ntmps22
  go_wp2_with fail
  refine (PH0.out _).mono ?_
  rintro e w1 ⟨rfl, b1⟩
  have B1 := (Below.refl W.heap.size W).trans (b1.mono (Below.refl W.heap.size W).size)
  clear y0 y1 y2 y3 y4 y5
  obtain ⟨y0, y1, y2, y3, y4, y5⟩ := XS.out _ B1
  go_wp2_with fail
  refine (PH1.out _).mono ?_
  rintro e w2 ⟨rfl, b2⟩
  have B2 := B1.trans (b2.mono B1.size)
  clear y0 y1 y2 y3 y4 y5
  obtain ⟨y0, y1, y2, y3, y4, y5⟩ := XS.out _ B2
  go_wp2_with fail
  refine (PH2.out _).mono ?_
  rintro e w3 ⟨rfl, b3⟩
  have B3 := B2.trans (b3.mono B2.size)
  clear y0 y1 y2 y3 y4 y5
  obtain ⟨y0, y1, y2, y3, y4, y5⟩ := XS.out _ B3
  go_wp2_with fail
  refine (C.out _).mono ?_
  rintro e w4 ⟨rfl, b4⟩
  have B4 := B3.trans (b4.mono B3.size)
  clear y0 y1 y2 y3 y4 y5
  obtain ⟨y0, y1, y2, y3, y4, y5⟩ := XS.out _ B4
  go_wp2_with fail
  go_ret
  exact ⟨rfl, B0.trans (B4.mono B0.size)⟩
set_option maxHeartbeats 4000000 in
set_option maxRecDepth 100000 in
theorem OnR_line (ax ay bx bz cx cy : Int) (w : World) (ha : inP ax ay) (hb : inP bx bz) (hc : inP cx cy) (h : crs (ax, ay) (bx, bz) (cx, cy) = 0) :
    Calls Tryd.prog 22 #[.agg #[.int .i64 ax, .int .i64 ay], .agg #[.int .i64 bx, .int .i64 bz], .agg #[.int .i64 cx, .int .i64 cy]] w fun e w' => e = .returned (.bool (boxB (ax, ay) (bx, bz) (cx, cy))) ∧ Below w.heap.size w w' := by
  have PH0 := Lib.hid (fun w => Point_any ax ay w)
  rw [decide_eq_true ha] at PH0
  have PH1 := Lib.hid (fun w => Point_any bx bz w)
  rw [decide_eq_true hb] at PH1
  have PH2 := Lib.hid (fun w => Point_any cx cy w)
  rw [decide_eq_true hc] at PH2
  have C := Lib.hid (fun w => CrossR_ok ax ay bx bz cx cy w ha hb hc)
  rw [h] at C
  have HB := Lib.hid (show ∀ q : Bool, (q = true ↔ (min ax bx ≤ cx ∧ cx ≤ max ax bx ∧ min ay bz ≤ cy ∧ cy ≤ max ay bz)) → boxB (ax, ay) (bx, bz) (cx, cy) = q from fun q h => by
    unfold boxB
    cases q with
    | true => exact decide_eq_true (h.1 rfl)
    | false => exact decide_eq_false fun k => absurd (h.2 k) (by decide))
  clear h ha hb hc
  have B0 : Below w.heap.size w (((w.alloc (.cells #[.int .i64 ax, .int .i64 ay] 24)).alloc (.cells #[.int .i64 bx, .int .i64 bz] 24)).alloc (.cells #[.int .i64 cx, .int .i64 cy] 24)) := (((Below.refl _ _).alloc (Nat.le_refl _) _).alloc (by simp) _).alloc (by simp; omega) _
  have T0 := tri_alloc w 24 ax ay bx bz cx cy
  generalize hW : ((w.alloc (.cells #[.int .i64 ax, .int .i64 ay] 24)).alloc (.cells #[.int .i64 bx, .int .i64 bz] 24)).alloc (.cells #[.int .i64 cx, .int .i64 cy] 24) = W at B0 T0
  have XS := Lib.hid (show ∀ w', Below W.heap.size W w' → _ from fun w' hb => (Tri.below T0 hb).cells)
  obtain ⟨y0, y1, y2, y3, y4, y5⟩ := T0.cells
  have hz : w.heap.size + 1 + 1 < W.heap.size := World.block_lt_of_cell? W ⟨w.heap.size + 1 + 1, 0, none⟩ y4
  clear T0
  go_enter Tryd.func22, Tryd.ntmps22
  go_wp2_with fail
  refine (PH0.out _).mono ?_
  rintro e w1 ⟨rfl, b1⟩
  have B1 := (Below.refl W.heap.size W).trans (b1.mono (Below.refl W.heap.size W).size)
  clear y0 y1 y2 y3 y4 y5
  obtain ⟨y0, y1, y2, y3, y4, y5⟩ := XS.out _ B1
  go_wp2_with fail
  refine (PH1.out _).mono ?_
  rintro e w2 ⟨rfl, b2⟩
  have B2 := B1.trans (b2.mono B1.size)
  clear y0 y1 y2 y3 y4 y5
  obtain ⟨y0, y1, y2, y3, y4, y5⟩ := XS.out _ B2
  go_wp2_with fail
  refine (PH2.out _).mono ?_
  rintro e w3 ⟨rfl, b3⟩
  have B3 := B2.trans (b3.mono B2.size)
  clear y0 y1 y2 y3 y4 y5
  obtain ⟨y0, y1, y2, y3, y4, y5⟩ := XS.out _ B3
  go_wp2_with fail
  refine (C.out _).mono ?_
  rintro e w4 ⟨rfl, b4⟩
  have B4 := B3.trans (b4.mono B3.size)
  clear y0 y1 y2 y3 y4 y5
  obtain ⟨y0, y1, y2, y3, y4, y5⟩ := XS.out _ B4
  go_wp2_with fail
  all_goals
    go_ret
    exact ⟨congrArg (fun b => Ending.returned (Value.bool b)) (HB.out _ (by simp; try omega)).symm, B0.trans (B4.mono B0.size)⟩

theorem OnR_any (ax ay bx bz cx cy : Int) (w : World) :
    Calls Tryd.prog 22 #[.agg #[.int .i64 ax, .int .i64 ay], .agg #[.int .i64 bx, .int .i64 bz], .agg #[.int .i64 cx, .int .i64 cy]] w fun e w' => e = .returned (.bool (onB (ax, ay) (bx, bz) (cx, cy))) ∧ Below w.heap.size w w' := by
  by_cases ha : inP ax ay
  · by_cases hb : inP bx bz
    · by_cases hc : inP cx cy
      · have oa : okP (ax, ay) = true := decide_eq_true ha
        have ob : okP (bx, bz) = true := decide_eq_true hb
        have oc : okP (cx, cy) = true := decide_eq_true hc
        by_cases h : crs (ax, ay) (bx, bz) (cx, cy) = 0
        · have e1 : onB (ax, ay) (bx, bz) (cx, cy) = boxB (ax, ay) (bx, bz) (cx, cy) := by unfold onB; rw [oa, ob, oc, decide_eq_true h]; rfl
          rw [e1]
          exact OnR_line ax ay bx bz cx cy w ha hb hc h
        · have e1 : onB (ax, ay) (bx, bz) (cx, cy) = false := by unfold onB; rw [decide_eq_false h]; simp
          rw [e1]
          exact OnR_off ax ay bx bz cx cy w ha hb hc h
      · have e1 : onB (ax, ay) (bx, bz) (cx, cy) = false := by unfold onB; rw [show okP (cx, cy) = false from decide_eq_false hc]; simp
        rw [e1]
        exact OnR_bad2 ax ay bx bz cx cy w ha hb hc
    · have e1 : onB (ax, ay) (bx, bz) (cx, cy) = false := by unfold onB; rw [show okP (bx, bz) = false from decide_eq_false hb]; simp
      rw [e1]
      exact OnR_bad1 ax ay bx bz cx cy w ha hb
  · have e1 : onB (ax, ay) (bx, bz) (cx, cy) = false := by unfold onB; rw [show okP (ax, ay) = false from decide_eq_false ha]; simp
    rw [e1]
    exact OnR_bad0 ax ay bx bz cx cy w ha
end Go.Proofs.YtpmngdgifdkohaaDoor
