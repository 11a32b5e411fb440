/- CurveCentre answers true, whatever it is given. -/
import Derived.Test.YtmpodnmgeakefaaDoorCurve1
import Derived.Test.YtmpodnmgeakefaaDoorViewPt
namespace Go.Proofs.YtmpodnmgeakefaaDoor
open Go.RowKit Go.ChangeShapes Go.WideShapes Go.Joins

/-- the cells of a point -/
structure Pair (w : World) (g : Nat) (x y : Int) : Prop where
  c0 : w.cell? ⟨g, 0, none⟩ = some (.int .i64 x)
  c1 : w.cell? ⟨g, 1, none⟩ = some (.int .i64 y)
theorem Pair.below {w w' : World} {g : Nat} {x y : Int} (h : Pair w g x y) (hb : Below w.heap.size w w') : Pair w' g x y := by
  have hl := World.block_lt_of_cell? w ⟨g, 0, none⟩ h.c0
  exact ⟨(hb.cell (p := ⟨g, 0, none⟩) hl).trans h.c0, (hb.cell (p := ⟨g, 1, none⟩) hl).trans h.c1⟩
theorem pair_alloc (w : World) (x y : Int) (T : TypeId) : Pair (w.alloc (.cells #[.int .i64 x, .int .i64 y] T)) w.heap.size x y := ⟨by simp, by simp⟩

set_option maxRecDepth 100000 in
theorem centre_no (a b c d : Int) (w : World) (hg : ErrT w) (h : boxCode a b c d ≠ 0) :
    Calls Tryd.prog 4 #[.agg #[.int .i64 a, .int .i64 b, .int .i64 c, .int .i64 d]] w fun e w' => e = .returned (.bool true) ∧ Below w.heap.size w w' := by
  have C := Lib.hid (fun w => Centre_no a b c d w h)
  have R := Lib.hid (fun w => CheckBoxR_any a b c d w)
  have Q0 := Lib.hid (quad_alloc w a b c d 34)
  have b0 : Below w.heap.size w (w.alloc (.cells #[.int .i64 a, .int .i64 b, .int .i64 c, .int .i64 d] 34)) := (Below.refl _ _).alloc (Nat.le_refl _) _
  have t1 : (boxCode a b c d != 0) = true := by simpa using h
  generalize boxCode a b c d = k at *
  clear h
  go_enter Tryd.func4, Tryd.ntmps4
  go_wp2_with fail
  refine (C.out _).mono ?_
  rintro e w1 ⟨u, rfl, hu, b1⟩
  have B1 := b0.trans (b1.mono b0.size)
  obtain ⟨y0, y1, y2, y3⟩ := Q0.out.below b1
  obtain ⟨bu, uu, rfl, _⟩ := hu
  have hz : w.heap.size < w1.heap.size := World.block_lt_of_cell? w1 ⟨w.heap.size, 0, none⟩ y0
  have g1 := hg.below B1 hg.lt
  have B2 : Below w.heap.size w (w1.alloc (.cells #[.int .i64 0, .int .i64 0] 23)) := B1.alloc B1.size _
  go_wp2_with fail
  refine (R.out _).mono ?_
  rintro e w2 ⟨rfl, b2⟩
  obtain ⟨z0, z1⟩ := (pair_alloc w1 0 0 23).below b2
  have B3 := B2.trans (b2.mono B2.size)
  have g3 := hg.below B3 hg.lt
  clear y0 y1 y2 y3
  go_wp2_with fail
  refine (awake19_any _ g3).mono ?_
  rintro e w3 ⟨rfl, b3⟩
  go_wp2_with fail
  go_ret
  exact ⟨rfl, B3.trans (b3.mono B3.size)⟩

theorem boxCode_zero {a b c d : Int} (h : boxCode a b c d = 0) : inP a b ∧ inP c d ∧ a ≤ c ∧ b ≤ d := by
  unfold boxCode at h
  by_cases hp : inP a b ∧ inP c d
  · rw [if_pos hp] at h
    by_cases h1 : c < a ∨ d < b
    · rw [if_pos h1] at h; cases h
    · exact ⟨hp.1, hp.2, by omega, by omega⟩
  · rw [if_neg hp] at h; cases h
theorem boxCode_mk {a b c d : Int} (h1 : inP a b) (h2 : inP c d) (h3 : a ≤ c) (h4 : b ≤ d) : boxCode a b c d = 0 := by
  unfold boxCode
  rw [if_pos ⟨h1, h2⟩, if_neg (by omega)]

set_option maxRecDepth 100000 in
set_option maxHeartbeats 1000000 in
theorem centre_ok (a b c d : Int) (w : World) (hg : ErrT w) (h : boxCode a b c d = 0) :
    Calls Tryd.prog 4 #[.agg #[.int .i64 a, .int .i64 b, .int .i64 c, .int .i64 d]] w fun e w' => e = .returned (.bool true) ∧ Below w.heap.size w w' := by
  obtain ⟨hp, hq, hac, hbd⟩ := boxCode_zero h
  have C := Lib.hid (fun w => Centre_ok a b c d w h)
  have R := Lib.hid (fun w => CheckBoxR_any a b c d w)
  rw [h] at R
  have hp' := hp
  obtain ⟨⟨p1, p2⟩, p3, p4⟩ := hp'
  have hq' := hq
  obtain ⟨⟨q1, q2⟩, q3, q4⟩ := hq'
  have m1 : a ≤ (a + c) / 2 ∧ (a + c) / 2 ≤ c ∧ 2 * ((a + c) / 2) ≤ a + c ∧ a + c ≤ 2 * ((a + c) / 2) + 1 := by omega
  have m2 : b ≤ (b + d) / 2 ∧ (b + d) / 2 ≤ d ∧ 2 * ((b + d) / 2) ≤ b + d ∧ b + d ≤ 2 * ((b + d) / 2) + 1 := by omega
  generalize (a + c) / 2 = mx at *
  generalize (b + d) / 2 = my at *
  obtain ⟨m11, m12, m13, m14⟩ := m1
  obtain ⟨m21, m22, m23, m24⟩ := m2
  have hm : inP mx my := ⟨⟨by omega, by omega⟩, by omega, by omega⟩
  have C2 := Lib.hid (fun w => Centre_ok mx my mx my w (boxCode_mk hm hm (Int.le_refl _) (Int.le_refl _)))
  rw [show (mx + mx) / 2 = mx by omega, show (my + my) / 2 = my by omega] at C2
  have BH := Lib.hid (fun w => BoxHas_yes a b c d mx my w h hm m11 m12 m21 m22)
  have Q0 := Lib.hid (quad_alloc w a b c d 34)
  have b0 : Below w.heap.size w (w.alloc (.cells #[.int .i64 a, .int .i64 b, .int .i64 c, .int .i64 d] 34)) := (Below.refl _ _).alloc (Nat.le_refl _) _
  clear h hp hq hm
  go_enter Tryd.func4, Tryd.ntmps4
  go_wp2_with fail
  refine (C.out _).mono ?_
  rintro e w1 ⟨u, rfl, rfl, b1⟩
  have B1 := b0.trans (b1.mono b0.size)
  have Q1 := Lib.hid (Q0.out.below b1)
  obtain ⟨y0, y1, y2, y3⟩ := Q1.out
  have hz : w.heap.size < w1.heap.size := World.block_lt_of_cell? w1 ⟨w.heap.size, 0, none⟩ y0
  have ba : Below w1.heap.size w1 (w1.alloc (.cells #[.int .i64 mx, .int .i64 my] 23)) := (Below.refl _ _).alloc (Nat.le_refl _) _
  have B2 := B1.trans (ba.mono B1.size)
  have P2 := Lib.hid (pair_alloc w1 mx my 23)
  have Q2 := Lib.hid (Q1.out.below ba)
  go_wp2_with fail
  refine (R.out _).mono ?_
  rintro e w2 ⟨rfl, b2⟩
  clear y0 y1 y2 y3
  have P3 := Lib.hid (P2.out.below b2)
  have Q3 := Lib.hid (Q2.out.below b2)
  obtain ⟨y0, y1, y2, y3⟩ := Q3.out
  obtain ⟨z0, z1⟩ := P3.out
  have B3 := B2.trans (b2.mono B2.size)
  go_wp2_with fail
  refine (C2.out _).mono ?_
  rintro e w3 ⟨u3, rfl, rfl, b3⟩
  clear y0 y1 y2 y3 z0 z1
  have P4 := Lib.hid (P3.out.below b3)
  have Q4 := Lib.hid (Q3.out.below b3)
  have B4 := B3.trans (b3.mono B3.size)
  have ba2 : Below w3.heap.size w3 (w3.alloc (.cells #[.int .i64 mx, .int .i64 my] 23)) := (Below.refl _ _).alloc (Nat.le_refl _) _
  have B5 := B4.trans (ba2.mono B4.size)
  have P5 := Lib.hid (P4.out.below ba2)
  have Q5 := Lib.hid (Q4.out.below ba2)
  have R5 := Lib.hid (pair_alloc w3 mx my 23)
  obtain ⟨y0, y1, y2, y3⟩ := Q4.out
  obtain ⟨z0, z1⟩ := P4.out
  have hz3 : w.heap.size < w3.heap.size := World.block_lt_of_cell? w3 ⟨w.heap.size, 0, none⟩ y0
  have hz4 : w1.heap.size < w3.heap.size := World.block_lt_of_cell? w3 ⟨w1.heap.size, 0, none⟩ z0
  go_wp2_with fail
  refine (BH.out _).mono ?_
  rintro e w4 ⟨rfl, b4⟩
  clear y0 y1 y2 y3 z0 z1
  obtain ⟨z0, z1⟩ := P5.out.below b4
  obtain ⟨x0, x1⟩ := R5.out.below b4
  have B6 := B5.trans (b4.mono B5.size)
  have g6 := hg.below B6 hg.lt
  go_wp2_with fail
  refine (awake19_any _ g6).mono ?_
  rintro e w5 ⟨rfl, b5⟩
  go_wp2_with fail
  go_ret
  exact ⟨rfl, B6.trans (b5.mono B6.size)⟩

set_option maxRecDepth 100000 in
theorem curveCentre_calls {H : Type} {enc : TypeId × Value → H} {W : World} {base : Nat} {v0 : Value} {d0 : DataW H} {p0 : List MemPlace} (hg : ErrT W)
    (o0 : Value.okWide Tryd.prog W .any base 34 v0) (h0 : DataW.Trod enc Tryd.prog W 0 (fun _ => true) true 34 v0 d0 p0) :
    Calls Tryd.prog 4 #[v0] W fun e w' => e = .returned (.bool true) ∧ Below W.heap.size W w' := by
  obtain ⟨a, b, c, d, rfl⟩ := view_box o0 h0
  by_cases h : boxCode a b c d = 0
  · exact centre_ok a b c d W hg h
  · exact centre_no a b c d W hg h
end Go.Proofs.YtmpodnmgeakefaaDoor
