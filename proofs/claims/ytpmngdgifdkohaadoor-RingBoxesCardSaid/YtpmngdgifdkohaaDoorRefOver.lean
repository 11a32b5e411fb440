/- pergolaref3.over. (printed by wip/gen_ref2.py) -/
import Derived.Test.YtpmngdgifdkohaaDoorRefMeet
namespace Go.Proofs.YtpmngdgifdkohaaDoor
open Go.RowKit

/-- do the segments a b and b c go the same way from b? -/
def overB (a b c : Pt) : Bool := decide (a ≠ b) && (decide (c ≠ b) && (decide (crs b a c = 0) && decide (0 < dotv b a c)))
theorem pair_beq {ax ay bx bz : Int} (h : (ax, ay) ≠ (bx, bz)) : ∃ q0 q1 : Bool, (q0 && q1) = false ∧ (ax == bx) = q0 ∧ (ay == bz) = q1 := by
  refine ⟨_, _, ?_, rfl, rfl⟩
  cases q0 : ((ax == bx) && (ay == bz)) with
  | false => rfl
  | true =>
    simp only [Bool.and_eq_true, beq_iff_eq] at q0
    exact absurd (by rw [q0.1, q0.2]) h

set_option maxRecDepth 100000 in
set_option maxHeartbeats 4000000 in
theorem over_ok (ax ay bx bz cx cy : Int) (w : World) (ha : inP ax ay) (hb : inP bx bz) (hc : inP cx cy) :
    Calls Tryd.prog 64 #[.agg #[.int .i64 ax, .int .i64 ay], .agg #[.int .i64 bx, .int .i64 bz], .agg #[.int .i64 cx, .int .i64 cy]] w fun e w' => e = .returned (.bool (overB (ax, ay) (bx, bz) (cx, cy))) ∧ Below w.heap.size w w' := by
  have C := Lib.hid (fun w => CrossR_ok bx bz ax ay cx cy w hb ha hc)
  have DT := Lib.hid (fun w => dotR_ok bx bz ax ay cx cy w hb ha hc)
  have HQ := Lib.hid (show overB (ax, ay) (bx, bz) (cx, cy) = (decide ((ax, ay) ≠ (bx, bz)) && (decide ((cx, cy) ≠ (bx, bz)) && (decide (crs (bx, bz) (ax, ay) (cx, cy) = 0) && decide (0 < dotv (bx, bz) (ax, ay) (cx, cy))))) from rfl)
  clear ha hb hc
  by_cases e0 : (ax, ay) = (bx, bz)
  · have HR := Lib.hid (show overB (ax, ay) (bx, bz) (cx, cy) = false by rw [HQ.out, decide_eq_false (fun h => h e0)]; rfl)
    obtain ⟨rfl, rfl⟩ := Prod.mk.inj e0
    clear e0 HQ C DT
    have B0 : Below w.heap.size w (((w.alloc (.cells #[.int .i64 ax, .int .i64 ay] 24)).alloc (.cells #[.int .i64 ax, .int .i64 ay] 24)).alloc (.cells #[.int .i64 cx, .int .i64 cy] 24)) := (((Below.refl _ _).alloc (Nat.le_refl _) _).alloc (by simp) _).alloc (by simp; omega) _
    go_enter Tryd.func64, Tryd.ntmps64
    go_wp2_with fail
    go_ret
    exact ⟨by rw [HR.out]; rfl, B0⟩
  · obtain ⟨q0, q1, hq01, hqa, hqb⟩ := pair_beq e0
    by_cases e1 : (cx, cy) = (bx, bz)
    · have HR := Lib.hid (show overB (ax, ay) (bx, bz) (cx, cy) = false by rw [HQ.out, decide_eq_false (p := (cx, cy) ≠ (bx, bz)) (fun h => h e1)]; simp)
      obtain ⟨rfl, rfl⟩ := Prod.mk.inj e1
      clear e0 e1 HQ C DT
      have B0 : Below w.heap.size w (((w.alloc (.cells #[.int .i64 ax, .int .i64 ay] 24)).alloc (.cells #[.int .i64 cx, .int .i64 cy] 24)).alloc (.cells #[.int .i64 cx, .int .i64 cy] 24)) := (((Below.refl _ _).alloc (Nat.le_refl _) _).alloc (by simp) _).alloc (by simp; omega) _
      cases q0 <;> cases q1 <;> first | (exact absurd hq01 (by decide)) | skip
      all_goals
        go_enter Tryd.func64, Tryd.ntmps64
        go_wp2_with fail
        go_ret
        exact ⟨by rw [HR.out]; rfl, B0⟩
    · obtain ⟨r0, r1, hr01, hra, hrb⟩ := pair_beq e1
      have HR := Lib.hid (show overB (ax, ay) (bx, bz) (cx, cy) = (decide (crs (bx, bz) (ax, ay) (cx, cy) = 0) && decide (0 < dotv (bx, bz) (ax, ay) (cx, cy))) by rw [HQ.out, decide_eq_true (show (ax, ay) ≠ (bx, bz) from e0), decide_eq_true (show (cx, cy) ≠ (bx, bz) from e1)]; rfl)
      clear e0 e1 HQ
      have B0 : Below w.heap.size w (((w.alloc (.cells #[.int .i64 ax, .int .i64 ay] 24)).alloc (.cells #[.int .i64 bx, .int .i64 bz] 24)).alloc (.cells #[.int .i64 cx, .int .i64 cy] 24)) := (((Below.refl _ _).alloc (Nat.le_refl _) _).alloc (by simp) _).alloc (by simp; omega) _
      have T0 := tri_alloc w 24 ax ay bx bz cx cy
      generalize hW : ((w.alloc (.cells #[.int .i64 ax, .int .i64 ay] 24)).alloc (.cells #[.int .i64 bx, .int .i64 bz] 24)).alloc (.cells #[.int .i64 cx, .int .i64 cy] 24) = W at B0 T0
      have XS := Lib.hid (show ∀ w', Below W.heap.size W w' → _ from fun w' hb => (Tri.below T0 hb).cells)
      obtain ⟨y0, y1, y2, y3, y4, y5⟩ := T0.cells
      have hz : w.heap.size + 1 + 1 < W.heap.size := World.block_lt_of_cell? W ⟨w.heap.size + 1 + 1, 0, none⟩ y4
      clear T0

      generalize crs (bx, bz) (ax, ay) (cx, cy) = s at *
      generalize dotv (bx, bz) (ax, ay) (cx, cy) = d at *
      by_cases h0 : s = 0
      · subst h0
        have HS := Lib.hid (show overB (ax, ay) (bx, bz) (cx, cy) = decide (0 < d) by rw [HR.out]; rfl)
        clear HR
        cases q0 <;> cases q1 <;> first | (exact absurd hq01 (by decide)) | skip
        all_goals
          cases r0 <;> cases r1 <;> first | (exact absurd hr01 (by decide)) | skip
          all_goals
            go_enter Tryd.func64, Tryd.ntmps64
            go_wp2_with fail
            refine (C.out _).mono ?_
            rintro e w1 ⟨rfl, b1⟩
            have B1 := (Below.refl W.heap.size W).trans b1
            clear y0 y1 y2 y3 y4 y5
            obtain ⟨y0, y1, y2, y3, y4, y5⟩ := XS.out _ B1
            go_wp2_with fail
            refine (DT.out _).mono ?_
            rintro e w2 ⟨rfl, b2⟩
            have B2 := B1.trans (b2.mono B1.size)
            go_wp2_with fail
            go_ret
            exact ⟨by rw [HS.out]; rfl, B0.trans (B2.mono B0.size)⟩
      · have t1 : (s == 0) = false := by simpa using h0
        have HS := Lib.hid (show overB (ax, ay) (bx, bz) (cx, cy) = false by rw [HR.out, decide_eq_false h0]; rfl)
        clear HR h0
        cases q0 <;> cases q1 <;> first | (exact absurd hq01 (by decide)) | skip
        all_goals
          cases r0 <;> cases r1 <;> first | (exact absurd hr01 (by decide)) | skip
          all_goals
            go_enter Tryd.func64, Tryd.ntmps64
            go_wp2_with fail
            refine (C.out _).mono ?_
            rintro e w1 ⟨rfl, b1⟩
            have B1 := (Below.refl W.heap.size W).trans b1
            go_wp2_with fail
            go_ret
            exact ⟨by rw [HS.out]; rfl, B0.trans (B1.mono B0.size)⟩
end Go.Proofs.YtpmngdgifdkohaaDoor
