/- plane.may, CheckPoint, CheckBox, Cross, Orient, Has; cmp.Compare. plane.CheckBox, boxes, Has; segm.may, span. A call of a Go function as one step of a region that draws its order; guarded or not. -/
import Derived.Test.YthcfekabeidmiaaRRDoorREo1
import Derived.Deep.RegionLaw
import Derived.Deep.RegionHeld3
set_option linter.unusedSimpArgs false
set_option linter.unusedVariables false
namespace Go.Proofs.YthcfekabeidmiaaRRDoorR
/-! PlaneAny -/
section
open Go.RowKit

theorem may_any (v : Value) (l : List (Int × Int)) (w : World) (hv : Pts w v l) :
    Calls Tryd.prog 50 #[v] w fun e w' => e = .returned (.bool (allP l)) ∧ Below w.heap.size w w' := by
  obtain ⟨ao, c, rfl, h1, h2, h0, h3⟩ := hv.open
  unfold maxLen at h2
  have H3 := Lib.hid h3
  clear h0 h3 hv
  go_enter Tryd.func50, Tryd.ntmps50
  go_wp2_with fail
  go_loopw [7] (fun i wr => ∃ k : Nat, k ≤ l.length ∧ i = .int .i64 k ∧ Hid (allP (l.take k) = true) ∧ Below w.heap.size w wr) (fun i _ => l.length - (intOf i).toNat)
  case atStart => exact ⟨0, Nat.zero_le _, rfl, Lib.hid rfl, Below.refl _ _⟩
  case round =>
    obtain ⟨k, hk, rfl, ha, hb⟩ := hrel
    have hs := hb.size
    by_cases hlt : k < l.length
    · obtain ⟨g, off, rfl, hg, hx, hy⟩ := H3.out k hlt
      have hx' := (hb.cell (p := ⟨g, off + k * 2, none⟩) hg).trans hx
      have hy' := (hb.cell (p := ⟨g, off + k * 2 + 1, none⟩) hg).trans hy
      have HS := Lib.hid (allP_snoc l k hlt)
      have HF := Lib.hid (allP_false l k hlt)
      clear hx hy
      generalize l[k] = p at *
      obtain ⟨x, y⟩ := p
      simp only at hx' hy'
      have i0 : (0 : Int) ≤ (k : Int) := by omega
      have i1 : (k : Int) < (l.length : Int) := by omega
      have hb1 := hb.alloc hs (.cells #[.int .i64 x, .int .i64 y] 43)
      by_cases c0 : inC x
      · have f0 := Lib.hid (fun w => far_no x w c0)
        by_cases c1 : inC y
        · have f1 := Lib.hid (fun w => far_no y w c1)
          have HA := Lib.hid (show allP (l.take (k + 1)) = true by rw [HS.out, ha.out]; exact decide_eq_true ⟨c0, c1⟩)
          clear c0 c1 ha
          go_wp2_with fail
          refine (f0.out _).mono ?_
          rintro e w' ⟨rfl, rfl⟩
          go_wp2_with fail
          refine (f1.out _).mono ?_
          rintro e w' ⟨rfl, rfl⟩
          go_wp2_with fail
          go_roundw
          case rel => exact ⟨k + 1, by omega, by go_num, HA, hb1⟩
          case measure => simp [intOf]; omega
        · have f1 := Lib.hid (fun w => far_yes y w c1)
          have HN := Lib.hid (HF.out (decide_eq_false fun h => c1 h.2))
          clear c0 c1 ha
          go_wp2_with fail
          refine (f0.out _).mono ?_
          rintro e w' ⟨rfl, rfl⟩
          go_wp2_with fail
          refine (f1.out _).mono ?_
          rintro e w' ⟨rfl, rfl⟩
          go_wp2_with fail
          go_ret
          exact ⟨by rw [HN.out]; rfl, hb1⟩
      · have f0 := Lib.hid (fun w => far_yes x w c0)
        have HN := Lib.hid (HF.out (decide_eq_false fun h => c0 h.1))
        clear c0 ha
        go_wp2_with fail
        refine (f0.out _).mono ?_
        rintro e w' ⟨rfl, rfl⟩
        go_wp2_with fail
        go_ret
        exact ⟨by rw [HN.out]; rfl, hb1⟩
    · have HN := Lib.hid (show allP l = true by have := ha.out; rwa [List.take_of_length_le (by omega)] at this)
      have t1 : decide ((k : Int) < (l.length : Int)) = false := by simp; omega
      clear ha
      go_wp2_with fail
      go_ret
      exact ⟨by rw [HN.out]; rfl, hb⟩

theorem pts1 (w : World) (T : TypeId) (b : Nat) (hb : b = w.heap.size) (x y : Int) : Pts (w.alloc (.cells #[.int .i64 x, .int .i64 y] T)) (.slice (some ⟨b, 0, none⟩) 1 1) [(x, y)] := by
  subst hb; exact pts_lit w [(x, y)] T (0, 0) (by simp [maxLen])
theorem pts2 (w : World) (T : TypeId) (b : Nat) (hb : b = w.heap.size) (x y x2 y2 : Int) : Pts (w.alloc (.cells #[.int .i64 x, .int .i64 y, .int .i64 x2, .int .i64 y2] T)) (.slice (some ⟨b, 0, none⟩) 2 2) [(x, y), (x2, y2)] := by
  subst hb; exact pts_lit w [(x, y), (x2, y2)] T (0, 0) (by simp [maxLen])
theorem pts3 (w : World) (T : TypeId) (b : Nat) (hb : b = w.heap.size) (x y x2 y2 x3 y3 : Int) : Pts (w.alloc (.cells #[.int .i64 x, .int .i64 y, .int .i64 x2, .int .i64 y2, .int .i64 x3, .int .i64 y3] T)) (.slice (some ⟨b, 0, none⟩) 3 3) [(x, y), (x2, y2), (x3, y3)] := by
  subst hb; exact pts_lit w [(x, y), (x2, y2), (x3, y3)] T (0, 0) (by simp [maxLen])
theorem pts4 (w : World) (T : TypeId) (b : Nat) (hb : b = w.heap.size) (x y x2 y2 x3 y3 x4 y4 : Int) : Pts (w.alloc (.cells #[.int .i64 x, .int .i64 y, .int .i64 x2, .int .i64 y2, .int .i64 x3, .int .i64 y3, .int .i64 x4, .int .i64 y4] T)) (.slice (some ⟨b, 0, none⟩) 4 4) [(x, y), (x2, y2), (x3, y3), (x4, y4)] := by
  subst hb; exact pts_lit w [(x, y), (x2, y2), (x3, y3), (x4, y4)] T (0, 0) (by simp [maxLen])

/-- why a point may not be -/
def ptEr (b : Bool) : Er := if b then .none else .num 2
theorem ckPoint_any (x y : Int) (w : World) : Calls Tryd.prog 49 #[.agg #[.int .i64 x, .int .i64 y]] w (ErRet w (ptEr (okP (x, y)))) := by
  have M := Lib.hid (fun b w h => may_any (.slice (some ⟨b, 0, none⟩) 1 1) [(x, y)] w h)
  have e0 : allP [(x, y)] = okP (x, y) := by simp [allP]
  rw [e0] at M
  have B0 : Below w.heap.size w ((w.alloc (.cells #[.int .i64 x, .int .i64 y] 43)).alloc (.cells #[.int .i64 x, .int .i64 y] 43)) := ((Below.refl _ _).alloc (Nat.le_refl _) _).alloc (by simp) _
  clear e0
  cases hq : okP (x, y) with
  | true =>
    rw [hq] at M
    clear hq
    go_enter Tryd.func49, Tryd.ntmps49
    go_wp2_with fail
    refine (M.out _ _ (pts1 _ _ _ (by simp) _ _)).mono ?_
    rintro e w1 ⟨rfl, b1⟩
    go_wp2_with fail
    go_ret
    exact ⟨_, rfl, rfl, B0.trans (b1.mono B0.size)⟩
  | false =>
    rw [hq] at M
    clear hq
    go_enter Tryd.func49, Tryd.ntmps49
    go_wp2_with fail
    refine (M.out _ _ (pts1 _ _ _ (by simp) _ _)).mono ?_
    rintro e w1 ⟨rfl, b1⟩
    go_wp2_with fail
    go_ret
    exact ⟨_, rfl, rfl, B0.trans (b1.mono B0.size)⟩

/-! ### cells that stay -/
/-- two cells -/
structure Pair (w : World) (g : Nat) (x y : Int) : Prop where
  c0 : w.cell? ⟨g, 0, none⟩ = some (.int .i64 x)
  c1 : w.cell? ⟨g, 1, none⟩ = some (.int .i64 y)
theorem Pair.below {w w' : World} {g : Nat} {x y : Int} (h : Pair w g x y) (hb : Below w.heap.size w w') : Pair w' g x y := by
  have hl := World.block_lt_of_cell? w ⟨g, 0, none⟩ h.c0
  exact ⟨(hb.cell (p := ⟨g, 0, none⟩) hl).trans h.c0, (hb.cell (p := ⟨g, 1, none⟩) hl).trans h.c1⟩
theorem pair_alloc (w : World) (x y : Int) (T : TypeId) (g : Nat) (hg : g = w.heap.size) : Pair (w.alloc (.cells #[.int .i64 x, .int .i64 y] T)) g x y := by
  subst hg; exact ⟨by simp, by simp⟩
theorem Pair.alloc {w : World} {g : Nat} {x y : Int} (h : Pair w g x y) (o : Obj) : Pair (w.alloc o) g x y := h.below ((Below.refl _ _).alloc (Nat.le_refl _) _)
/-- four cells -/
structure Quad (w : World) (g : Nat) (a b c d : Int) : Prop where
  c0 : w.cell? ⟨g, 0, none⟩ = some (.int .i64 a)
  c1 : w.cell? ⟨g, 1, none⟩ = some (.int .i64 b)
  c2 : w.cell? ⟨g, 2, none⟩ = some (.int .i64 c)
  c3 : w.cell? ⟨g, 3, none⟩ = some (.int .i64 d)
theorem Quad.below {w w' : World} {g : Nat} {a b c d : Int} (h : Quad w g a b c d) (hb : Below w.heap.size w w') : Quad w' g a b c d := by
  have hl := World.block_lt_of_cell? w ⟨g, 0, none⟩ h.c0
  exact ⟨(hb.cell (p := ⟨g, 0, none⟩) hl).trans h.c0, (hb.cell (p := ⟨g, 1, none⟩) hl).trans h.c1, (hb.cell (p := ⟨g, 2, none⟩) hl).trans h.c2, (hb.cell (p := ⟨g, 3, none⟩) hl).trans h.c3⟩
theorem quad_alloc (w : World) (a b c d : Int) (T : TypeId) (g : Nat) (hg : g = w.heap.size) : Quad (w.alloc (.cells #[.int .i64 a, .int .i64 b, .int .i64 c, .int .i64 d] T)) g a b c d := by
  subst hg; exact ⟨by simp, by simp, by simp, by simp⟩
theorem Quad.alloc {w : World} {g : Nat} {a b c d : Int} (h : Quad w g a b c d) (o : Obj) : Quad (w.alloc o) g a b c d := h.below ((Below.refl _ _).alloc (Nat.le_refl _) _)

theorem Cross_ok (ax ay bx bz cx cy : Int) (w : World) (ha : inP ax ay) (hb : inP bx bz) (hc : inP cx cy) :
    Calls Tryd.prog 70 #[.agg #[.int .i64 ax, .int .i64 ay], .agg #[.int .i64 bx, .int .i64 bz], .agg #[.int .i64 cx, .int .i64 cy]] w fun e w' => e = .returned (.int .i64 (crs (ax, ay) (bx, bz) (cx, cy))) ∧ Below w.heap.size w w' := by
  have M := Lib.hid (fun b w h => may_any (.slice (some ⟨b, 0, none⟩) 3 3) [(ax, ay), (bx, bz), (cx, cy)] w h)
  have e0 : allP [(ax, ay), (bx, bz), (cx, cy)] = true := by simp [allP, okP, ha, hb, hc]
  rw [e0] at M
  clear e0
  obtain ⟨⟨p1, p2⟩, p3, p4⟩ := crs_parts (a := (ax, ay)) (b := (bx, bz)) (c := (cx, cy)) ha hb hc
  obtain ⟨d1, d2, d3, d4⟩ := inP_diff (a := (ax, ay)) (b := (bx, bz)) ha hb
  obtain ⟨k1, k2, k3, k4⟩ := inP_diff (a := (ax, ay)) (b := (cx, cy)) ha hc
  simp only at p1 p2 p3 p4 d1 d2 d3 d4 k1 k2 k3 k4
  have HW := Lib.hid (show wrap64 (wrap64 ((bx - ax) * (cy - ay)) - wrap64 ((bz - ay) * (cx - ax))) = crs (ax, ay) (bx, bz) (cx, cy) by
    have w1 : wrap64 ((bx - ax) * (cy - ay)) = (bx - ax) * (cy - ay) := by simp [wrap64]; omega
    have w2 : wrap64 ((bz - ay) * (cx - ax)) = (bz - ay) * (cx - ax) := by simp [wrap64]; omega
    rw [w1, w2]
    unfold crs
    simp only
    simp [wrap64]; omega)
  have B0 : Below w.heap.size w ((((w.alloc (.cells #[.int .i64 ax, .int .i64 ay] 43)).alloc (.cells #[.int .i64 bx, .int .i64 bz] 43)).alloc (.cells #[.int .i64 cx, .int .i64 cy] 43)).alloc (.cells #[.int .i64 ax, .int .i64 ay, .int .i64 bx, .int .i64 bz, .int .i64 cx, .int .i64 cy] 43)) := ((((Below.refl _ _).alloc (Nat.le_refl _) _).alloc (by simp) _).alloc (by simp; omega) _).alloc (by simp; omega) _
  have Q1 := Lib.hid ((((pair_alloc w ax ay 43 w.heap.size rfl).alloc (.cells #[.int .i64 bx, .int .i64 bz] 43)).alloc (.cells #[.int .i64 cx, .int .i64 cy] 43)).alloc (.cells #[.int .i64 ax, .int .i64 ay, .int .i64 bx, .int .i64 bz, .int .i64 cx, .int .i64 cy] 43))
  have Q2 := Lib.hid (((pair_alloc (w.alloc (.cells #[.int .i64 ax, .int .i64 ay] 43)) bx bz 43 (w.heap.size + 1) (by simp)).alloc (.cells #[.int .i64 cx, .int .i64 cy] 43)).alloc (.cells #[.int .i64 ax, .int .i64 ay, .int .i64 bx, .int .i64 bz, .int .i64 cx, .int .i64 cy] 43))
  have Q3 := Lib.hid ((pair_alloc ((w.alloc (.cells #[.int .i64 ax, .int .i64 ay] 43)).alloc (.cells #[.int .i64 bx, .int .i64 bz] 43)) cx cy 43 (w.heap.size + 1 + 1) (by simp)).alloc (.cells #[.int .i64 ax, .int .i64 ay, .int .i64 bx, .int .i64 bz, .int .i64 cx, .int .i64 cy] 43))
  clear ha hb hc p1 p2 p3 p4
  go_enter Tryd.func70, Tryd.ntmps70
  go_wp2_with fail
  refine (M.out _ _ (pts3 _ _ _ (by simp) _ _ _ _ _ _)).mono ?_
  rintro e w1 ⟨rfl, b1⟩
  obtain ⟨y0, y1⟩ := Q1.out.below b1
  obtain ⟨y2, y3⟩ := Q2.out.below b1
  obtain ⟨y4, y5⟩ := Q3.out.below b1
  go_wp2_with fail
  go_ret
  exact ⟨by rw [← HW.out]; rfl, B0.trans (b1.mono B0.size)⟩

theorem Compare_int (x y : Int) (w : World) : Calls Tryd.prog 69 #[.int .i64 x, .int .i64 y] w fun e w' => e = .returned (.int .i64 (sgn (x - y))) ∧ w = w' := by
  have N : ∀ z w, Calls Tryd.prog 72 #[.int .i64 z] w fun e w' => e = .returned (.bool false) ∧ w = w' := by
    intro z w
    have t : (z != z) = false := by simp
    go_enter Tryd.func72, Tryd.ntmps72
    go_wp2
    go_ret
    exact ⟨rfl, rfl⟩
  have NH := Lib.hid N
  clear N
  by_cases h1 : x < y
  · have e0 : sgn (x - y) = -1 := by unfold sgn; rw [if_pos (by omega)]
    rw [e0]
    have t1 := decide_eq_true h1
    clear e0
    go_enter Tryd.func69, Tryd.ntmps69
    go_wp2_with (refine (NH.out _ _).mono ?_; rintro e w' ⟨rfl, rfl⟩)
    go_ret
    exact ⟨rfl, rfl⟩
  · have t1 := decide_eq_false h1
    by_cases h2 : y < x
    · have e0 : sgn (x - y) = 1 := by unfold sgn; rw [if_neg (by omega), if_neg (by omega)]
      rw [e0]
      have t2 := decide_eq_true h2
      clear e0
      go_enter Tryd.func69, Tryd.ntmps69
      go_wp2_with (refine (NH.out _ _).mono ?_; rintro e w' ⟨rfl, rfl⟩)
      go_ret
      exact ⟨rfl, rfl⟩
    · have e0 : sgn (x - y) = 0 := by unfold sgn; rw [if_neg (by omega), if_pos (by omega)]
      rw [e0]
      have t2 := decide_eq_false h2
      clear e0
      go_enter Tryd.func69, Tryd.ntmps69
      go_wp2_with (refine (NH.out _ _).mono ?_; rintro e w' ⟨rfl, rfl⟩)
      go_ret
      exact ⟨rfl, rfl⟩

theorem Orient_ok (ax ay bx bz cx cy : Int) (w : World) (ha : inP ax ay) (hb : inP bx bz) (hc : inP cx cy) :
    Calls Tryd.prog 64 #[.agg #[.int .i64 ax, .int .i64 ay], .agg #[.int .i64 bx, .int .i64 bz], .agg #[.int .i64 cx, .int .i64 cy]] w fun e w' => e = .returned (.int .i64 (sgn (crs (ax, ay) (bx, bz) (cx, cy)))) ∧ Below w.heap.size w w' := by
  have C := Lib.hid (fun w => Cross_ok ax ay bx bz cx cy w ha hb hc)
  have K := Lib.hid (fun w => Compare_int (crs (ax, ay) (bx, bz) (cx, cy)) 0 w)
  rw [Int.sub_zero] at K
  generalize crs (ax, ay) (bx, bz) (cx, cy) = q at *
  have B0 : Below w.heap.size w (((w.alloc (.cells #[.int .i64 ax, .int .i64 ay] 43)).alloc (.cells #[.int .i64 bx, .int .i64 bz] 43)).alloc (.cells #[.int .i64 cx, .int .i64 cy] 43)) := (((Below.refl _ _).alloc (Nat.le_refl _) _).alloc (by simp) _).alloc (by simp; omega) _
  clear ha hb hc
  go_enter Tryd.func64, Tryd.ntmps64
  go_wp2_with fail
  refine (C.out _).mono ?_
  rintro e w1 ⟨rfl, b1⟩
  go_wp2_with fail
  refine (K.out _).mono ?_
  rintro e w2 ⟨rfl, rfl⟩
  go_wp2_with fail
  go_ret
  exact ⟨rfl, B0.trans (b1.mono B0.size)⟩
end

/-! Segm -/
section
open Go.RowKit

theorem ckBox_ok (a b c d : Int) (w : World) (h1 : inP a b) (h2 : inP c d) (h3 : a ≤ c) (h4 : b ≤ d) : Calls Tryd.prog 42 #[.agg #[.int .i64 a, .int .i64 b, .int .i64 c, .int .i64 d]] w (ErRet w .none) := by
  have M := Lib.hid (fun g w h => may_any (.slice (some ⟨g, 0, none⟩) 2 2) [(a, b), (c, d)] w h)
  have e0 : allP [(a, b), (c, d)] = true := by simp [allP, okP, h1, h2]
  rw [e0] at M
  clear e0
  have B0 : Below w.heap.size w ((w.alloc (.cells #[.int .i64 a, .int .i64 b, .int .i64 c, .int .i64 d] 70)).alloc (.cells #[.int .i64 a, .int .i64 b, .int .i64 c, .int .i64 d] 43)) := ((Below.refl _ _).alloc (Nat.le_refl _) _).alloc (by simp) _
  have Q0 := Lib.hid ((quad_alloc w a b c d 70 w.heap.size rfl).alloc (.cells #[.int .i64 a, .int .i64 b, .int .i64 c, .int .i64 d] 43))
  have t1 : decide (c < a) = false := by simp; omega
  have t2 : decide (d < b) = false := by simp; omega
  clear h1 h2
  go_enter Tryd.func42, Tryd.ntmps42
  go_wp2_with fail
  refine (M.out _ _ (pts2 _ _ _ (by simp) _ _ _ _)).mono ?_
  rintro e w1 ⟨rfl, b1⟩
  obtain ⟨y0, y1, y2, y3⟩ := Q0.out.below b1
  go_wp2_with fail
  go_ret
  exact ⟨_, rfl, rfl, B0.trans (b1.mono B0.size)⟩

theorem boxes1 (g : Nat) (a b c d : Int) (w : World) (q : Quad w g a b c d) (h1 : inP a b) (h2 : inP c d) (h3 : a ≤ c) (h4 : b ≤ d) :
    Calls Tryd.prog 71 #[.slice (some ⟨g, 0, none⟩) 1 1] w fun e w' => e = .returned (.bool true) ∧ Below w.heap.size w w' := by
  have C := Lib.hid (fun w => ckBox_ok a b c d w h1 h2 h3 h4)
  have hb := World.block_lt_of_cell? w ⟨g, 0, none⟩ q.c0
  obtain ⟨y0, y1, y2, y3⟩ := q
  clear h1 h2
  go_enter Tryd.func71, Tryd.ntmps71
  go_wp2_with fail
  refine wp_loop_rounds 2 ?_
  rw [rounds_succ]
  go_wp2_with fail
  refine (C.out _).mono ?_
  rintro e w1 ⟨u, rfl, rfl, b1⟩
  go_wp2_with fail
  rw [rounds_succ]
  go_wp2_with fail
  go_ret
  exact ⟨rfl, ((Below.refl _ _).alloc (Nat.le_refl _) _).trans (b1.mono (by simp))⟩

theorem Has_ok (a b c d x y : Int) (w : World) (h1 : inP a b) (h2 : inP c d) (h3 : a ≤ c) (h4 : b ≤ d) (hp : inP x y) :
    Calls Tryd.prog 65 #[.agg #[.int .i64 a, .int .i64 b, .int .i64 c, .int .i64 d], .agg #[.int .i64 x, .int .i64 y]] w fun e w' => e = .returned (.bool (decide (a ≤ x ∧ x ≤ c ∧ b ≤ y ∧ y ≤ d))) ∧ Below w.heap.size w w' := by
  have BX := Lib.hid (fun g w q => boxes1 g a b c d w q h1 h2 h3 h4)
  have M := Lib.hid (fun g w h => may_any (.slice (some ⟨g, 0, none⟩) 1 1) [(x, y)] w h)
  have e0 : allP [(x, y)] = true := by simp [allP, okP, hp]
  rw [e0] at M
  clear e0 h1 h2 hp
  have B0 : Below w.heap.size w (((w.alloc (.cells #[.int .i64 a, .int .i64 b, .int .i64 c, .int .i64 d] 70)).alloc (.cells #[.int .i64 x, .int .i64 y] 43)).alloc (.cells #[.int .i64 a, .int .i64 b, .int .i64 c, .int .i64 d] 70)) := (((Below.refl _ _).alloc (Nat.le_refl _) _).alloc (by simp) _).alloc (by simp; omega) _
  have Q0 := Lib.hid (((quad_alloc w a b c d 70 w.heap.size rfl).alloc (.cells #[.int .i64 x, .int .i64 y] 43)).alloc (.cells #[.int .i64 a, .int .i64 b, .int .i64 c, .int .i64 d] 70))
  have P0 := Lib.hid ((pair_alloc (w.alloc (.cells #[.int .i64 a, .int .i64 b, .int .i64 c, .int .i64 d] 70)) x y 43 (w.heap.size + 1) (by simp)).alloc (.cells #[.int .i64 a, .int .i64 b, .int .i64 c, .int .i64 d] 70))
  have HH : ∀ q, decide (a ≤ x ∧ x ≤ c ∧ b ≤ y ∧ y ≤ d) = q → Calls Tryd.prog 65 #[.agg #[.int .i64 a, .int .i64 b, .int .i64 c, .int .i64 d], .agg #[.int .i64 x, .int .i64 y]] w fun e w' => e = .returned (.bool q) ∧ Below w.heap.size w w' := by
    intro q hq
    by_cases c1 : a ≤ x
    · have t1 := decide_eq_true c1
      by_cases c2 : x ≤ c
      · have t2 := decide_eq_true c2
        by_cases c3 : b ≤ y
        · have t3 := decide_eq_true c3
          by_cases c4 : y ≤ d
          · have t4 := decide_eq_true c4
            obtain rfl : q = true := by rw [← hq]; simp [*]
            clear hq
            go_enter Tryd.func65, Tryd.ntmps65
            go_wp2_with fail
            refine (BX.out _ _ (quad_alloc _ _ _ _ _ _ _ (by simp))).mono ?_
            rintro e w1 ⟨rfl, b1⟩
            obtain ⟨z0, z1⟩ := P0.out.below b1
            have hz := World.block_lt_of_cell? w1 ⟨w.heap.size + 1, 0, none⟩ z0
            go_wp2_with fail
            refine (M.out _ _ (pts1 _ _ _ (by simp) _ _)).mono ?_
            rintro e w2 ⟨rfl, b2⟩
            have b1a := b1.alloc b1.size (.cells #[.int .i64 x, .int .i64 y] 43)
            have b12 := b1a.trans (b2.mono b1a.size)
            clear z0 z1
            obtain ⟨z0, z1⟩ := P0.out.below b12
            obtain ⟨y0, y1, y2, y3⟩ := Q0.out.below b12
            go_wp2_with fail
            go_ret
            exact ⟨rfl, B0.trans (b12.mono B0.size)⟩
          · have t4 := decide_eq_false c4
            obtain rfl : q = false := by rw [← hq]; simp [*]
            clear hq
            go_enter Tryd.func65, Tryd.ntmps65
            go_wp2_with fail
            refine (BX.out _ _ (quad_alloc _ _ _ _ _ _ _ (by simp))).mono ?_
            rintro e w1 ⟨rfl, b1⟩
            obtain ⟨z0, z1⟩ := P0.out.below b1
            have hz := World.block_lt_of_cell? w1 ⟨w.heap.size + 1, 0, none⟩ z0
            go_wp2_with fail
            refine (M.out _ _ (pts1 _ _ _ (by simp) _ _)).mono ?_
            rintro e w2 ⟨rfl, b2⟩
            have b1a := b1.alloc b1.size (.cells #[.int .i64 x, .int .i64 y] 43)
            have b12 := b1a.trans (b2.mono b1a.size)
            clear z0 z1
            obtain ⟨z0, z1⟩ := P0.out.below b12
            obtain ⟨y0, y1, y2, y3⟩ := Q0.out.below b12
            go_wp2_with fail
            go_ret
            exact ⟨rfl, B0.trans (b12.mono B0.size)⟩
        · have t3 := decide_eq_false c3
          obtain rfl : q = false := by rw [← hq]; simp [*]
          clear hq
          go_enter Tryd.func65, Tryd.ntmps65
          go_wp2_with fail
          refine (BX.out _ _ (quad_alloc _ _ _ _ _ _ _ (by simp))).mono ?_
          rintro e w1 ⟨rfl, b1⟩
          obtain ⟨z0, z1⟩ := P0.out.below b1
          have hz := World.block_lt_of_cell? w1 ⟨w.heap.size + 1, 0, none⟩ z0
          go_wp2_with fail
          refine (M.out _ _ (pts1 _ _ _ (by simp) _ _)).mono ?_
          rintro e w2 ⟨rfl, b2⟩
          have b1a := b1.alloc b1.size (.cells #[.int .i64 x, .int .i64 y] 43)
          have b12 := b1a.trans (b2.mono b1a.size)
          clear z0 z1
          obtain ⟨z0, z1⟩ := P0.out.below b12
          obtain ⟨y0, y1, y2, y3⟩ := Q0.out.below b12
          go_wp2_with fail
          go_ret
          exact ⟨rfl, B0.trans (b12.mono B0.size)⟩
      · have t2 := decide_eq_false c2
        obtain rfl : q = false := by rw [← hq]; simp [*]
        clear hq
        go_enter Tryd.func65, Tryd.ntmps65
        go_wp2_with fail
        refine (BX.out _ _ (quad_alloc _ _ _ _ _ _ _ (by simp))).mono ?_
        rintro e w1 ⟨rfl, b1⟩
        obtain ⟨z0, z1⟩ := P0.out.below b1
        have hz := World.block_lt_of_cell? w1 ⟨w.heap.size + 1, 0, none⟩ z0
        go_wp2_with fail
        refine (M.out _ _ (pts1 _ _ _ (by simp) _ _)).mono ?_
        rintro e w2 ⟨rfl, b2⟩
        have b1a := b1.alloc b1.size (.cells #[.int .i64 x, .int .i64 y] 43)
        have b12 := b1a.trans (b2.mono b1a.size)
        clear z0 z1
        obtain ⟨z0, z1⟩ := P0.out.below b12
        obtain ⟨y0, y1, y2, y3⟩ := Q0.out.below b12
        go_wp2_with fail
        go_ret
        exact ⟨rfl, B0.trans (b12.mono B0.size)⟩
    · have t1 := decide_eq_false c1
      obtain rfl : q = false := by rw [← hq]; simp [*]
      clear hq
      go_enter Tryd.func65, Tryd.ntmps65
      go_wp2_with fail
      refine (BX.out _ _ (quad_alloc _ _ _ _ _ _ _ (by simp))).mono ?_
      rintro e w1 ⟨rfl, b1⟩
      obtain ⟨z0, z1⟩ := P0.out.below b1
      have hz := World.block_lt_of_cell? w1 ⟨w.heap.size + 1, 0, none⟩ z0
      go_wp2_with fail
      refine (M.out _ _ (pts1 _ _ _ (by simp) _ _)).mono ?_
      rintro e w2 ⟨rfl, b2⟩
      have b1a := b1.alloc b1.size (.cells #[.int .i64 x, .int .i64 y] 43)
      have b12 := b1a.trans (b2.mono b1a.size)
      clear z0 z1
      obtain ⟨z0, z1⟩ := P0.out.below b12
      obtain ⟨y0, y1, y2, y3⟩ := Q0.out.below b12
      go_wp2_with fail
      go_ret
      exact ⟨rfl, B0.trans (b12.mono B0.size)⟩
  exact HH _ rfl

theorem span_any (ax ay bx bz : Int) (w : World) : Calls Tryd.prog 66 #[.agg #[.int .i64 ax, .int .i64 ay], .agg #[.int .i64 bx, .int .i64 bz]] w fun e w' => e = .returned (.agg #[.int .i64 (min ax bx), .int .i64 (min ay bz), .int .i64 (max ax bx), .int .i64 (max ay bz)]) ∧ Below w.heap.size w w' := by
  go_enter Tryd.func66, Tryd.ntmps66
  go_wp2_with fail
  all_goals
    refine bodyPost_ret (v := .agg #[.int .i64 (min ax bx), .int .i64 (min ay bz), .int .i64 (max ax bx), .int .i64 (max ay bz)]) ?_ rfl ⟨rfl, (((Below.refl _ _).alloc (Nat.le_refl _) _).alloc (by simp) _).alloc (by simp; omega) _⟩
    simp [results, Tryd.results66, go_sem]
    try omega

theorem segmMay_any (v : Value) (l : List (Int × Int)) (w : World) (hv : Pts w v l) :
    Calls Tryd.prog 63 #[v] w fun e w' => e = .returned (.bool (allP l)) ∧ Below w.heap.size w w' := by
  obtain ⟨ao, c, rfl, h1, h2, h0, h3⟩ := hv.open
  unfold maxLen at h2
  have H3 := Lib.hid h3
  clear h0 h3 hv
  go_enter Tryd.func63, Tryd.ntmps63
  go_wp2_with fail
  go_loopw [7] (fun i wr => ∃ k : Nat, k ≤ l.length ∧ i = .int .i64 k ∧ Hid (allP (l.take k) = true) ∧ Below w.heap.size w wr) (fun i _ => l.length - (intOf i).toNat)
  case atStart => exact ⟨0, Nat.zero_le _, rfl, Lib.hid rfl, Below.refl _ _⟩
  case round =>
    obtain ⟨k, hk, rfl, ha, hb⟩ := hrel
    have hs := hb.size
    by_cases hlt : k < l.length
    · obtain ⟨g, off, rfl, hg, hx, hy⟩ := H3.out k hlt
      have hx' := (hb.cell (p := ⟨g, off + k * 2, none⟩) hg).trans hx
      have hy' := (hb.cell (p := ⟨g, off + k * 2 + 1, none⟩) hg).trans hy
      have HS := Lib.hid (allP_snoc l k hlt)
      have HF := Lib.hid (allP_false l k hlt)
      clear hx hy
      generalize l[k] = p at *
      obtain ⟨x, y⟩ := p
      simp only at hx' hy'
      have i0 : (0 : Int) ≤ (k : Int) := by omega
      have i1 : (k : Int) < (l.length : Int) := by omega
      have hb1 := hb.alloc hs (.cells #[.int .i64 x, .int .i64 y] 43)
      have C := Lib.hid (fun w => ckPoint_any x y w)
      cases hq : okP (x, y) with
      | true =>
        rw [hq] at C
        have HA := Lib.hid (show allP (l.take (k + 1)) = true by rw [HS.out, ha.out, hq]; rfl)
        clear hq ha
        go_wp2_with fail
        refine (C.out _).mono ?_
        rintro e w1 ⟨u, rfl, rfl, b1⟩
        have hb2 := hb1.trans (b1.mono hb1.size)
        go_wp2_with fail
        go_roundw
        case rel => exact ⟨k + 1, by omega, by go_num, HA, hb2⟩
        case measure => simp [intOf]; omega
      | false =>
        rw [hq] at C
        have HN := Lib.hid (HF.out hq)
        clear hq ha
        go_wp2_with fail
        refine (C.out _).mono ?_
        rintro e w1 ⟨u, rfl, rfl, b1⟩
        have hb2 := hb1.trans (b1.mono hb1.size)
        go_wp2_with fail
        go_ret
        exact ⟨by rw [HN.out]; rfl, hb2⟩
    · have HN := Lib.hid (show allP l = true by have := ha.out; rwa [List.take_of_length_le (by omega)] at this)
      have t1 : decide ((k : Int) < (l.length : Int)) = false := by simp; omega
      clear ha
      go_wp2_with fail
      go_ret
      exact ⟨by rw [HN.out]; rfl, hb⟩
end

/-! Reg -/
section
open Go.RowKit

theorem step_go {P : Program} {w : World} {ops : Array Oper} {o : Oper} {a : Act} {K : Act → World → Prop} {Q : Exit → Act → World → Prop} {E : Prop} (hw : Region.wanted o (yielded ops a.tmps) = true) (f : FuncId) (xs : List Operand) (ts : Array TypeId)
    (ho : o.op = .call { callee := .value (.func f), args := xs.toArray, argTypes := ts }) (hent : ∀ (args : Array Value) (w : World), (callFunc f args).run P w = .ok (.enter f args) w) (ys : List Value) (hx : xs.map a.eval = ys)
    {R : Ending → World → Prop} (hc : Calls P f ys.toArray w R) (h : ∀ e w', R e w' → ∃ v, e = .returned v ∧ K (a.put o.dst v) w') :
    if Region.wanted o (yielded ops a.tmps) = true then Oper.wp P o a w K Q else E := by
  rw [if_pos hw]
  have hrun : (execOp a.eval o).run P w = .ok (.enter f ys.toArray) w := by
    subst hx
    simp [execOp, ho, resolve, Deferred.ofValue, invoke, Act.eval, hent]
  unfold Oper.wp
  rw [hrun, Oper.upon_enter]
  exact hc.mono fun e w' hr => by
    obtain ⟨v, rfl, hk⟩ := h e w' hr
    exact hk
end

end Go.Proofs.YthcfekabeidmiaaRRDoorR
