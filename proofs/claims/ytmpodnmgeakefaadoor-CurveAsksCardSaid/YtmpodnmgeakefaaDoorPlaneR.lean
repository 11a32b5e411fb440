/- pergolaref3.Point, CheckBox, BoxHas. -/
import Derived.Test.YtmpodnmgeakefaaDoorPlane
namespace Go.Proofs.YtmpodnmgeakefaaDoor
open Go.RowKit

theorem Point_any (x y : Int) (w : World) : Calls Tryd.prog 9 #[.agg #[.int .i64 x, .int .i64 y]] w fun e w' => e = .returned (.bool (decide (inP x y))) ∧ Below w.heap.size w w' := by
  by_cases a : -1073741823 ≤ x
  · by_cases b : x ≤ 1073741823
    · by_cases c : -1073741823 ≤ y
      · by_cases d : y ≤ 1073741823
        · rw [decide_eq_true (show inP x y from ⟨⟨a, b⟩, c, d⟩)]
          have t1 := decide_eq_true a
          have t2 := decide_eq_true b
          have t3 := decide_eq_true c
          have t4 := decide_eq_true d
          go_enter Tryd.func9, Tryd.ntmps9
          go_wp2
          go_ret
          exact ⟨rfl, (Below.refl _ _).alloc (Nat.le_refl _) _⟩
        · rw [decide_eq_false (show ¬ inP x y from fun h => d h.2.2)]
          have t1 := decide_eq_true a
          have t2 := decide_eq_true b
          have t3 := decide_eq_true c
          have t4 := decide_eq_false d
          clear d
          go_enter Tryd.func9, Tryd.ntmps9
          go_wp2
          go_ret
          exact ⟨rfl, (Below.refl _ _).alloc (Nat.le_refl _) _⟩
      · rw [decide_eq_false (show ¬ inP x y from fun h => c h.2.1)]
        have t1 := decide_eq_true a
        have t2 := decide_eq_true b
        have t3 := decide_eq_false c
        clear c
        go_enter Tryd.func9, Tryd.ntmps9
        go_wp2
        go_ret
        exact ⟨rfl, (Below.refl _ _).alloc (Nat.le_refl _) _⟩
    · rw [decide_eq_false (show ¬ inP x y from fun h => b h.1.2)]
      have t1 := decide_eq_true a
      have t2 := decide_eq_false b
      clear b
      go_enter Tryd.func9, Tryd.ntmps9
      go_wp2
      go_ret
      exact ⟨rfl, (Below.refl _ _).alloc (Nat.le_refl _) _⟩
  · rw [decide_eq_false (show ¬ inP x y from fun h => a h.1.1)]
    have t1 := decide_eq_false a
    clear a
    go_enter Tryd.func9, Tryd.ntmps9
    go_wp2
    go_ret
    exact ⟨rfl, (Below.refl _ _).alloc (Nat.le_refl _) _⟩

/-- the box's own cells, in a later world -/
structure Quad (w : World) (g : Nat) (a b c d : Int) : Prop where
  c0 : w.cell? ⟨g, 0, none⟩ = some (.int .i64 a)
  c1 : w.cell? ⟨g, 1, none⟩ = some (.int .i64 b)
  c2 : w.cell? ⟨g, 2, none⟩ = some (.int .i64 c)
  c3 : w.cell? ⟨g, 3, none⟩ = some (.int .i64 d)
theorem Quad.below {w w' : World} {g : Nat} {a b c d : Int} (h : Quad w g a b c d) (hb : Below w.heap.size w w') : Quad w' g a b c d := by
  have hl := World.block_lt_of_cell? w ⟨g, 0, none⟩ h.c0
  exact ⟨(hb.cell (p := ⟨g, 0, none⟩) hl).trans h.c0, (hb.cell (p := ⟨g, 1, none⟩) hl).trans h.c1, (hb.cell (p := ⟨g, 2, none⟩) hl).trans h.c2, (hb.cell (p := ⟨g, 3, none⟩) hl).trans h.c3⟩
theorem quad_alloc (w : World) (a b c d : Int) (T : TypeId) : Quad (w.alloc (.cells #[.int .i64 a, .int .i64 b, .int .i64 c, .int .i64 d] T)) w.heap.size a b c d := ⟨by simp, by simp, by simp, by simp⟩

theorem CheckBoxR_any (a b c d : Int) (w : World) : Calls Tryd.prog 13 #[.agg #[.int .i64 a, .int .i64 b, .int .i64 c, .int .i64 d]] w fun e w' => e = .returned (.int .i64 (boxCode a b c d)) ∧ Below w.heap.size w w' := by
  have M := Lib.hid (fun x y w => Point_any x y w)
  have B0 : Below w.heap.size w (w.alloc (.cells #[.int .i64 a, .int .i64 b, .int .i64 c, .int .i64 d] 34)) := (Below.refl _ _).alloc (Nat.le_refl _) _
  have Q0 := Lib.hid (quad_alloc w a b c d 34)
  by_cases hp : inP a b
  · have M1 := Lib.hid (fun w => Point_any a b w)
    rw [decide_eq_true hp] at M1
    by_cases hq : inP c d
    · have M2 := Lib.hid (fun w => Point_any c d w)
      rw [decide_eq_true hq] at M2
      by_cases h1 : c < a
      · have hc : boxCode a b c d = 1 := by unfold boxCode; rw [if_pos ⟨hp, hq⟩, if_pos (Or.inl h1)]
        rw [hc]
        have t1 := decide_eq_true h1
        clear hc hp hq
        go_enter Tryd.func13, Tryd.ntmps13
        go_wp2_with fail
        refine (M1.out _).mono ?_
        rintro e w1 ⟨rfl, b1⟩
        obtain ⟨y0, y1, y2, y3⟩ := Q0.out.below b1
        go_wp2_with fail
        refine (M2.out _).mono ?_
        rintro e w2 ⟨rfl, b2⟩
        clear y0 y1 y2 y3
        obtain ⟨y0, y1, y2, y3⟩ := (Q0.out.below b1).below b2
        go_wp2_with fail
        go_ret
        exact ⟨rfl, (B0.trans (b1.mono B0.size)).trans (b2.mono (B0.trans (b1.mono B0.size)).size)⟩
      · by_cases h2 : d < b
        · have hc : boxCode a b c d = 1 := by unfold boxCode; rw [if_pos ⟨hp, hq⟩, if_pos (Or.inr h2)]
          rw [hc]
          have t1 := decide_eq_false h1
          have t2 := decide_eq_true h2
          clear hc hp hq h1
          go_enter Tryd.func13, Tryd.ntmps13
          go_wp2_with fail
          refine (M1.out _).mono ?_
          rintro e w1 ⟨rfl, b1⟩
          obtain ⟨y0, y1, y2, y3⟩ := Q0.out.below b1
          go_wp2_with fail
          refine (M2.out _).mono ?_
          rintro e w2 ⟨rfl, b2⟩
          clear y0 y1 y2 y3
          obtain ⟨y0, y1, y2, y3⟩ := (Q0.out.below b1).below b2
          go_wp2_with fail
          go_ret
          exact ⟨rfl, (B0.trans (b1.mono B0.size)).trans (b2.mono (B0.trans (b1.mono B0.size)).size)⟩
        · have hc : boxCode a b c d = 0 := by unfold boxCode; rw [if_pos ⟨hp, hq⟩, if_neg (by omega)]
          rw [hc]
          have t1 := decide_eq_false h1
          have t2 := decide_eq_false h2
          clear hc hp hq h1 h2
          go_enter Tryd.func13, Tryd.ntmps13
          go_wp2_with fail
          refine (M1.out _).mono ?_
          rintro e w1 ⟨rfl, b1⟩
          obtain ⟨y0, y1, y2, y3⟩ := Q0.out.below b1
          go_wp2_with fail
          refine (M2.out _).mono ?_
          rintro e w2 ⟨rfl, b2⟩
          clear y0 y1 y2 y3
          obtain ⟨y0, y1, y2, y3⟩ := (Q0.out.below b1).below b2
          go_wp2_with fail
          go_ret
          exact ⟨rfl, (B0.trans (b1.mono B0.size)).trans (b2.mono (B0.trans (b1.mono B0.size)).size)⟩
    · have M2 := Lib.hid (fun w => Point_any c d w)
      rw [decide_eq_false hq] at M2
      have hc : boxCode a b c d = 2 := by unfold boxCode; rw [if_neg (fun h => hq h.2)]
      rw [hc]
      clear hc hp hq
      go_enter Tryd.func13, Tryd.ntmps13
      go_wp2_with fail
      refine (M1.out _).mono ?_
      rintro e w1 ⟨rfl, b1⟩
      obtain ⟨y0, y1, y2, y3⟩ := Q0.out.below b1
      go_wp2_with fail
      refine (M2.out _).mono ?_
      rintro e w2 ⟨rfl, b2⟩
      go_wp2_with fail
      go_ret
      exact ⟨rfl, (B0.trans (b1.mono B0.size)).trans (b2.mono (B0.trans (b1.mono B0.size)).size)⟩
  · have M1 := Lib.hid (fun w => Point_any a b w)
    rw [decide_eq_false hp] at M1
    have hc : boxCode a b c d = 2 := by unfold boxCode; rw [if_neg (fun h => hp h.1)]
    rw [hc]
    clear hc hp
    go_enter Tryd.func13, Tryd.ntmps13
    go_wp2_with fail
    refine (M1.out _).mono ?_
    rintro e w1 ⟨rfl, b1⟩
    go_wp2_with fail
    go_ret
    exact ⟨rfl, B0.trans (b1.mono B0.size)⟩

/-- BoxHas, where it is so -/
theorem BoxHas_yes (a b c d x y : Int) (w : World) (h0 : boxCode a b c d = 0) (h : inP x y) (h1 : a ≤ x) (h2 : x ≤ c) (h3 : b ≤ y) (h4 : y ≤ d) :
    Calls Tryd.prog 14 #[.agg #[.int .i64 a, .int .i64 b, .int .i64 c, .int .i64 d], .agg #[.int .i64 x, .int .i64 y]] w fun e w' => e = .returned (.bool true) ∧ Below w.heap.size w w' := by
  have M := Lib.hid (fun w => CheckBoxR_any a b c d w)
  rw [h0] at M
  have P := Lib.hid (fun w => Point_any x y w)
  rw [decide_eq_true h] at P
  have B0 : Below w.heap.size w ((w.alloc (.cells #[.int .i64 a, .int .i64 b, .int .i64 c, .int .i64 d] 34)).alloc (.cells #[.int .i64 x, .int .i64 y] 23)) := ((Below.refl _ _).alloc (Nat.le_refl _) _).alloc (by simp) _
  have Q0 := Lib.hid ((quad_alloc w a b c d 34).below ((Below.refl _ _).alloc (Nat.le_refl _) (.cells #[.int .i64 x, .int .i64 y] 23)))
  have X0 := Lib.hid (show ∀ w1, Below ((w.alloc (.cells #[.int .i64 a, .int .i64 b, .int .i64 c, .int .i64 d] 34)).alloc (.cells #[.int .i64 x, .int .i64 y] 23)).heap.size ((w.alloc (.cells #[.int .i64 a, .int .i64 b, .int .i64 c, .int .i64 d] 34)).alloc (.cells #[.int .i64 x, .int .i64 y] 23)) w1 →
      w1.cell? ⟨w.heap.size + 1, 0, none⟩ = some (.int .i64 x) ∧ w1.cell? ⟨w.heap.size + 1, 1, none⟩ = some (.int .i64 y) from fun w1 h => ⟨(h.cell (p := ⟨w.heap.size + 1, 0, none⟩) (by simp)).trans (by simp), (h.cell (p := ⟨w.heap.size + 1, 1, none⟩) (by simp)).trans (by simp)⟩)
  have t1 := decide_eq_true h1
  have t2 := decide_eq_true h2
  have t3 := decide_eq_true h3
  have t4 := decide_eq_true h4
  clear h0 h
  go_enter Tryd.func14, Tryd.ntmps14
  go_wp2_with fail
  refine (M.out _).mono ?_
  rintro e w1 ⟨rfl, b1⟩
  obtain ⟨z0, z1⟩ := X0.out _ b1
  go_wp2_with fail
  refine (P.out _).mono ?_
  rintro e w2 ⟨rfl, b2⟩
  clear z0 z1
  have b12 := b1.trans (b2.mono b1.size)
  obtain ⟨z0, z1⟩ := X0.out _ b12
  obtain ⟨y0, y1, y2, y3⟩ := Q0.out.below b12
  go_wp2_with fail
  go_ret
  exact ⟨rfl, B0.trans (b12.mono B0.size)⟩
end Go.Proofs.YtmpodnmgeakefaaDoor
