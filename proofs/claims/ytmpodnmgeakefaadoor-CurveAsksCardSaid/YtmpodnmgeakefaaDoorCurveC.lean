/- curve.Centre; pergolalaw19.awake. -/
import Derived.Test.YtmpodnmgeakefaaDoorCurveH
import Derived.Test.YtmpodnmgeakefaaDoorIsA
namespace Go.Proofs.YtmpodnmgeakefaaDoor
open Go.RowKit

/-- The call hands back a point and an error. -/
def PtErr (w : World) (x y : Int) (E : Er) (e : Ending) (w' : World) : Prop := ∃ u, e = .returned (.tuple #[.agg #[.int .i64 x, .int .i64 y], u]) ∧ E.Is w' u ∧ Below w.heap.size w w'

/-- a new Fault round a number -/
def FreshF (base : Nat) (w : World) (k : Int) (v : Value) : Prop := ∃ b, v = .iface 62 (.pointer (some ⟨b, 0, none⟩)) ∧ base ≤ b ∧ b < w.heap.size ∧ w.cell? ⟨b, 0, none⟩ = some (.string curveStr) ∧ w.cell? ⟨b, 1, none⟩ = some (.int .i64 0) ∧ w.cell? ⟨b, 2, none⟩ = some (.iface 60 (.int .i64 k))
theorem FreshF.is {base : Nat} {w : World} {k : Int} {v : Value} (h : FreshF base w k v) : Er.Is w (.fault curveStr 0 (.num k)) v := by
  obtain ⟨b, h1, _, h2, h3, h4, h5⟩ := h
  exact ⟨b, _, h1, h2, h3, h4, h5, rfl⟩
theorem FreshF.set {base : Nat} {w : World} {k : Int} {v : Value} (h : FreshF base w k v) (g o : Nat) (x : Value) (hg : g < base) : FreshF base (w.setCell ⟨g, o, none⟩ x) k v := by
  obtain ⟨b, h1, h0, h2, h3, h4, h5⟩ := h
  exact ⟨b, h1, h0, by simpa using h2, (World.cell?_setCell_other _ _ _ _ (by intro e; simp at e; try omega)).trans h3, (World.cell?_setCell_other _ _ _ _ (by intro e; simp at e; try omega)).trans h4, (World.cell?_setCell_other _ _ _ _ (by intro e; simp at e; try omega)).trans h5⟩
theorem blame_fresh (k : Int) (w : World) : Calls Tryd.prog 26 #[.iface 60 (.int .i64 k)] w fun e w' => ∃ v, e = .returned v ∧ FreshF w.heap.size w' k v ∧ Below w.heap.size w w' := by
  have N : Calls Tryd.prog 32 #[.string curveStr, .int .i64 0, .iface 60 (.int .i64 k)] w fun e w' => ∃ v, e = .returned v ∧ FreshF w.heap.size w' k v ∧ Below w.heap.size w w' := by
    have hs := Lib.hid (show curveStr = ⟨#[99, 117, 114, 118, 101]⟩ from rfl)
    generalize curveStr = s at *
    go_enter Tryd.func32, Tryd.ntmps32
    go_wp2
    go_ret
    exact ⟨_, rfl, ⟨_, rfl, Nat.le_refl _, by simp, by rw [show curveStr = s from hs.out.symm]; simp, by simp, by simp⟩, (Below.refl _ _).alloc (Nat.le_refl _) _⟩
  have HN := Lib.hid N
  clear N
  go_enter Tryd.func26, Tryd.ntmps26
  go_wp2_with fail
  refine HN.out.mono ?_
  rintro e w1 ⟨u, rfl, h1, h2⟩
  go_wp2_with fail
  go_ret
  exact ⟨_, rfl, h1, h2⟩
/-- a point's two cells, stored anew -/
theorem pt_cells (w : World) (g : Nat) (x y : Value) {a b : Value} (h0 : w.cell? ⟨g, 0, none⟩ = some a) (h1 : w.cell? ⟨g, 1, none⟩ = some b) :
    ((w.setCell ⟨g, 0, none⟩ x).setCell ⟨g, 1, none⟩ y).cell? ⟨g, 0, none⟩ = some x ∧ ((w.setCell ⟨g, 0, none⟩ x).setCell ⟨g, 1, none⟩ y).cell? ⟨g, 1, none⟩ = some y :=
  ⟨(World.cell?_setCell_other _ _ _ _ (by simp)).trans (World.cell?_setCell_same _ _ _ h0), World.cell?_setCell_same _ _ _ ((World.cell?_setCell_other _ _ _ _ (by simp)).trans h1)⟩

theorem Er.wrap_code (k : Int) (h : k ≠ 0) : (Er.ofCode k).wrap curveStr 0 = .fault curveStr 0 (.num k) := by
  unfold Er.ofCode
  rw [if_neg h]; rfl

theorem Centre_no (a b c d : Int) (w : World) (h : boxCode a b c d ≠ 0) : Calls Tryd.prog 12 #[.agg #[.int .i64 a, .int .i64 b, .int .i64 c, .int .i64 d]] w (PtErr w 0 0 (.fault curveStr 0 (.num (boxCode a b c d)))) := by
  have C := Lib.hid (fun w => CheckBox_any a b c d w)
  have hw := Er.wrap_code _ h
  have he : Er.ofCode (boxCode a b c d) = .num (boxCode a b c d) := by unfold Er.ofCode; rw [if_neg h]
  generalize boxCode a b c d = k at *
  rw [he] at C hw
  have HW := Lib.hid hw
  clear hw he h
  go_enter Tryd.func12, Tryd.ntmps12
  go_wp2_with fail
  refine (C.out _).mono ?_
  rintro e w1 ⟨u, rfl, hu, b1⟩
  have B := Lib.hid (blame_fresh k w1)
  obtain rfl : u = .iface 60 (.int .i64 k) := hu
  have b01 : Below w.heap.size w w1 := (((Below.refl _ _).alloc (Nat.le_refl _) _).alloc (by simp) _).trans (b1.mono (by simp; omega))
  have p0 := (b1.cell (p := ⟨w.heap.size + 1, 0, none⟩) (by simp)).trans (show _ = some (Value.int .i64 0) by simp)
  have p1 := (b1.cell (p := ⟨w.heap.size + 1, 1, none⟩) (by simp)).trans (show _ = some (Value.int .i64 0) by simp)
  have f0 : w1.frozen? ⟨w.heap.size + 1, 0, none⟩ = false := (b1.frozen (p := ⟨w.heap.size + 1, 0, none⟩) (by simp)).trans (by simp)
  have f1 : w1.frozen? ⟨w.heap.size + 1, 1, none⟩ = false := (b1.frozen (p := ⟨w.heap.size + 1, 1, none⟩) (by simp)).trans (by simp)
  have hl := World.block_lt_of_cell? w1 ⟨w.heap.size + 1, 0, none⟩ p0
  go_wp2_with fail
  refine B.out.mono ?_
  rintro e w2 ⟨u2, rfl, h2, b2⟩
  replace p0 := (b2.cell (p := ⟨w.heap.size + 1, 0, none⟩) hl).trans p0
  replace p1 := (b2.cell (p := ⟨w.heap.size + 1, 1, none⟩) hl).trans p1
  replace f0 := (b2.frozen (p := ⟨w.heap.size + 1, 0, none⟩) hl).trans f0
  replace f1 := (b2.frozen (p := ⟨w.heap.size + 1, 1, none⟩) hl).trans f1
  have b02 := b01.trans (b2.mono b01.size)
  obtain ⟨r0, r1⟩ := pt_cells w2 (w.heap.size + 1) (.int .i64 0) (.int .i64 0) p0 p1
  have H2 := Lib.hid ((h2.set (w.heap.size + 1) 0 (.int .i64 0) hl).set (w.heap.size + 1) 1 (.int .i64 0) hl)
  have b03 := (b02.setCell (p := ⟨w.heap.size + 1, 0, none⟩) (Nat.le_succ _) (.int .i64 0)).setCell (p := ⟨w.heap.size + 1, 1, none⟩) (Nat.le_succ _) (.int .i64 0)
  clear h2
  go_wp2_with fail
  exact bodyPost_ret (v := .tuple #[.agg #[.int .i64 0, .int .i64 0], u2]) (by simp [results, Tryd.results12, go_sem, r0, r1]) rfl ⟨u2, rfl, H2.out.is, b03⟩

theorem Centre_ok (a b c d : Int) (w : World) (h : boxCode a b c d = 0) : Calls Tryd.prog 12 #[.agg #[.int .i64 a, .int .i64 b, .int .i64 c, .int .i64 d]] w (PtErr w ((a + c) / 2) ((b + d) / 2) .none) := by
  have C := Lib.hid (fun w => CheckBox_any a b c d w)
  rw [h, show Er.ofCode 0 = .none from rfl] at C
  have hp : inP a b ∧ inP c d := by
    unfold boxCode at h
    by_cases hp : inP a b ∧ inP c d
    · exact hp
    · rw [if_neg hp] at h; cases h
  obtain ⟨⟨⟨h1, h2⟩, h3, h4⟩, ⟨h5, h6⟩, h7, h8⟩ := hp
  have Q0 := Lib.hid ((quad_alloc w a b c d 34).below ((Below.refl _ _).alloc (Nat.le_refl _) (.cells #[.int .i64 0, .int .i64 0] 23)))
  clear h
  go_enter Tryd.func12, Tryd.ntmps12
  go_wp2_with fail
  refine (C.out _).mono ?_
  rintro e w1 ⟨u, rfl, rfl, b1⟩
  have b01 : Below w.heap.size w w1 := (((Below.refl _ _).alloc (Nat.le_refl _) _).alloc (by simp) _).trans (b1.mono (by simp; omega))
  obtain ⟨y0, y1, y2, y3⟩ := Q0.out.below b1
  have p0 := (b1.cell (p := ⟨w.heap.size + 1, 0, none⟩) (by simp)).trans (show _ = some (Value.int .i64 0) by simp)
  have p1 := (b1.cell (p := ⟨w.heap.size + 1, 1, none⟩) (by simp)).trans (show _ = some (Value.int .i64 0) by simp)
  have f0 : w1.frozen? ⟨w.heap.size + 1, 0, none⟩ = false := (b1.frozen (p := ⟨w.heap.size + 1, 0, none⟩) (by simp)).trans (by simp)
  have f1 : w1.frozen? ⟨w.heap.size + 1, 1, none⟩ = false := (b1.frozen (p := ⟨w.heap.size + 1, 1, none⟩) (by simp)).trans (by simp)
  obtain ⟨r0, r1⟩ := pt_cells w1 (w.heap.size + 1) (.int .i64 ((a + c) / 2)) (.int .i64 ((b + d) / 2)) p0 p1
  have b03 := (b01.setCell (p := ⟨w.heap.size + 1, 0, none⟩) (Nat.le_succ _) (.int .i64 ((a + c) / 2))).setCell (p := ⟨w.heap.size + 1, 1, none⟩) (Nat.le_succ _) (.int .i64 ((b + d) / 2))
  go_wp2_with fail
  exact bodyPost_ret (v := .tuple #[.agg #[.int .i64 ((a + c) / 2), .int .i64 ((b + d) / 2)], .nilIface]) (by simp [results, Tryd.results12, go_sem, r0, r1]) rfl ⟨.nilIface, rfl, rfl, b03⟩
end Go.Proofs.YtmpodnmgeakefaaDoor
