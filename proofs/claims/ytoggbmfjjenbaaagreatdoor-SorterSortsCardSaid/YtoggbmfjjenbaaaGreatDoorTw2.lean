/- plane.may, CheckPoint, CheckBox, Cross, Orient, Has; cmp.Compare. A call of a Go function as one step of a region that draws its order; guarded or not. cmp.Compare at uint64, cmp.Or of two, sorter.compare, Less. Rows of items with keys; loads and stores of whole items; what turns when a row is sorted. -/
import Derived.Test.YtoggbmfjjenbaaaGreatDoorTw1
import Derived.Deep.RegionLaw
import Derived.Deep.RegionHeld3
import Derived.Deep.MidRow
import Derived.Laws.OwnMore
import Derived.Lib.OwnKind
import Derived.OrdersHeld
set_option linter.unusedSimpArgs false
set_option linter.unusedVariables false
namespace Go.Proofs.YtoggbmfjjenbaaaGreatDoor
/-! PlaneAny -/
section
open Go.RowKit

theorem may_any (v : Value) (l : List (Int × Int)) (w : World) (hv : Pts w v l) :
    Calls Tryz.prog 62 #[v] w fun e w' => e = .returned (.bool (allP l)) ∧ Below w.heap.size w w' := by
  obtain ⟨ao, c, rfl, h1, h2, h0, h3⟩ := hv.open
  unfold maxLen at h2
  have H3 := Lib.hid h3
  clear h0 h3 hv
  go_enter Tryz.func62, Tryz.ntmps62
  go_wp2_with fail
  go_loopw [7] (fun i wr => ∃ k : Nat, k ≤ l.length ∧ i = .int .i64 k ∧ Hid (allP (l.take k) = true) ∧ Below w.heap.size w wr) (fun i _ => l.length - (intOf i).toNat)
  case atStart => exact ⟨0, Nat.zero_le _, rfl, Lib.hid rfl, Below.refl _ _⟩
  case round =>
    obtain ⟨k, hk, rfl, ha, hb⟩ := hrel
    have hs := hb.size
    by_cases hlt : k < l.length
    · obtain ⟨g, off, rfl, hg, hx, hy⟩ := H3.out k hlt
      have hx' := (hb.cell (p := ⟨g, off + k * 2, none⟩) hg).trans hx
      have hy' := (hb.cell (p := ⟨g, off + k * 2 + 1, none⟩) hg).trans hy
      have HS := Lib.hid (allP_snoc l k hlt)
      have HF := Lib.hid (allP_false l k hlt)
      clear hx hy
      generalize l[k] = p at *
      obtain ⟨x, y⟩ := p
      simp only at hx' hy'
      have i0 : (0 : Int) ≤ (k : Int) := by omega
      have i1 : (k : Int) < (l.length : Int) := by omega
      have hb1 := hb.alloc hs (.cells #[.int .i64 x, .int .i64 y] 67)
      by_cases c0 : inC x
      · have f0 := Lib.hid (fun w => far_no x w c0)
        by_cases c1 : inC y
        · have f1 := Lib.hid (fun w => far_no y w c1)
          have HA := Lib.hid (show allP (l.take (k + 1)) = true by rw [HS.out, ha.out]; exact decide_eq_true ⟨c0, c1⟩)
          clear c0 c1 ha
          go_wp2_with fail
          refine (f0.out _).mono ?_
          rintro e w' ⟨rfl, rfl⟩
          go_wp2_with fail
          refine (f1.out _).mono ?_
          rintro e w' ⟨rfl, rfl⟩
          go_wp2_with fail
          go_roundw
          case rel => exact ⟨k + 1, by omega, by go_num, HA, hb1⟩
          case measure => simp [intOf]; omega
        · have f1 := Lib.hid (fun w => far_yes y w c1)
          have HN := Lib.hid (HF.out (decide_eq_false fun h => c1 h.2))
          clear c0 c1 ha
          go_wp2_with fail
          refine (f0.out _).mono ?_
          rintro e w' ⟨rfl, rfl⟩
          go_wp2_with fail
          refine (f1.out _).mono ?_
          rintro e w' ⟨rfl, rfl⟩
          go_wp2_with fail
          go_ret
          exact ⟨by rw [HN.out]; rfl, hb1⟩
      · have f0 := Lib.hid (fun w => far_yes x w c0)
        have HN := Lib.hid (HF.out (decide_eq_false fun h => c0 h.1))
        clear c0 ha
        go_wp2_with fail
        refine (f0.out _).mono ?_
        rintro e w' ⟨rfl, rfl⟩
        go_wp2_with fail
        go_ret
        exact ⟨by rw [HN.out]; rfl, hb1⟩
    · have HN := Lib.hid (show allP l = true by have := ha.out; rwa [List.take_of_length_le (by omega)] at this)
      have t1 : decide ((k : Int) < (l.length : Int)) = false := by simp; omega
      clear ha
      go_wp2_with fail
      go_ret
      exact ⟨by rw [HN.out]; rfl, hb⟩

theorem pts1 (w : World) (T : TypeId) (b : Nat) (hb : b = w.heap.size) (x y : Int) : Pts (w.alloc (.cells #[.int .i64 x, .int .i64 y] T)) (.slice (some ⟨b, 0, none⟩) 1 1) [(x, y)] := by
  subst hb; exact pts_lit w [(x, y)] T (0, 0) (by simp [maxLen])
theorem pts2 (w : World) (T : TypeId) (b : Nat) (hb : b = w.heap.size) (x y x2 y2 : Int) : Pts (w.alloc (.cells #[.int .i64 x, .int .i64 y, .int .i64 x2, .int .i64 y2] T)) (.slice (some ⟨b, 0, none⟩) 2 2) [(x, y), (x2, y2)] := by
  subst hb; exact pts_lit w [(x, y), (x2, y2)] T (0, 0) (by simp [maxLen])
theorem pts3 (w : World) (T : TypeId) (b : Nat) (hb : b = w.heap.size) (x y x2 y2 x3 y3 : Int) : Pts (w.alloc (.cells #[.int .i64 x, .int .i64 y, .int .i64 x2, .int .i64 y2, .int .i64 x3, .int .i64 y3] T)) (.slice (some ⟨b, 0, none⟩) 3 3) [(x, y), (x2, y2), (x3, y3)] := by
  subst hb; exact pts_lit w [(x, y), (x2, y2), (x3, y3)] T (0, 0) (by simp [maxLen])
theorem pts4 (w : World) (T : TypeId) (b : Nat) (hb : b = w.heap.size) (x y x2 y2 x3 y3 x4 y4 : Int) : Pts (w.alloc (.cells #[.int .i64 x, .int .i64 y, .int .i64 x2, .int .i64 y2, .int .i64 x3, .int .i64 y3, .int .i64 x4, .int .i64 y4] T)) (.slice (some ⟨b, 0, none⟩) 4 4) [(x, y), (x2, y2), (x3, y3), (x4, y4)] := by
  subst hb; exact pts_lit w [(x, y), (x2, y2), (x3, y3), (x4, y4)] T (0, 0) (by simp [maxLen])

/-- why a point may not be -/
def ptEr (b : Bool) : Er := if b then .none else .num 2
theorem ckPoint_any (x y : Int) (w : World) : Calls Tryz.prog 46 #[.agg #[.int .i64 x, .int .i64 y]] w (ErRet w (ptEr (okP (x, y)))) := by
  have M := Lib.hid (fun b w h => may_any (.slice (some ⟨b, 0, none⟩) 1 1) [(x, y)] w h)
  have e0 : allP [(x, y)] = okP (x, y) := by simp [allP]
  rw [e0] at M
  have B0 : Below w.heap.size w ((w.alloc (.cells #[.int .i64 x, .int .i64 y] 67)).alloc (.cells #[.int .i64 x, .int .i64 y] 67)) := ((Below.refl _ _).alloc (Nat.le_refl _) _).alloc (by simp) _
  clear e0
  cases hq : okP (x, y) with
  | true =>
    rw [hq] at M
    clear hq
    go_enter Tryz.func46, Tryz.ntmps46
    go_wp2_with fail
    refine (M.out _ _ (pts1 _ _ _ (by simp) _ _)).mono ?_
    rintro e w1 ⟨rfl, b1⟩
    go_wp2_with fail
    go_ret
    exact ⟨_, rfl, rfl, B0.trans (b1.mono B0.size)⟩
  | false =>
    rw [hq] at M
    clear hq
    go_enter Tryz.func46, Tryz.ntmps46
    go_wp2_with fail
    refine (M.out _ _ (pts1 _ _ _ (by simp) _ _)).mono ?_
    rintro e w1 ⟨rfl, b1⟩
    go_wp2_with fail
    go_ret
    exact ⟨_, rfl, rfl, B0.trans (b1.mono B0.size)⟩

/-! ### cells that stay -/
/-- two cells -/
structure Pair (w : World) (g : Nat) (x y : Int) : Prop where
  c0 : w.cell? ⟨g, 0, none⟩ = some (.int .i64 x)
  c1 : w.cell? ⟨g, 1, none⟩ = some (.int .i64 y)
theorem Pair.below {w w' : World} {g : Nat} {x y : Int} (h : Pair w g x y) (hb : Below w.heap.size w w') : Pair w' g x y := by
  have hl := World.block_lt_of_cell? w ⟨g, 0, none⟩ h.c0
  exact ⟨(hb.cell (p := ⟨g, 0, none⟩) hl).trans h.c0, (hb.cell (p := ⟨g, 1, none⟩) hl).trans h.c1⟩
theorem pair_alloc (w : World) (x y : Int) (T : TypeId) (g : Nat) (hg : g = w.heap.size) : Pair (w.alloc (.cells #[.int .i64 x, .int .i64 y] T)) g x y := by
  subst hg; exact ⟨by simp, by simp⟩
theorem Pair.alloc {w : World} {g : Nat} {x y : Int} (h : Pair w g x y) (o : Obj) : Pair (w.alloc o) g x y := h.below ((Below.refl _ _).alloc (Nat.le_refl _) _)
/-- four cells -/
structure Quad (w : World) (g : Nat) (a b c d : Int) : Prop where
  c0 : w.cell? ⟨g, 0, none⟩ = some (.int .i64 a)
  c1 : w.cell? ⟨g, 1, none⟩ = some (.int .i64 b)
  c2 : w.cell? ⟨g, 2, none⟩ = some (.int .i64 c)
  c3 : w.cell? ⟨g, 3, none⟩ = some (.int .i64 d)
theorem Quad.below {w w' : World} {g : Nat} {a b c d : Int} (h : Quad w g a b c d) (hb : Below w.heap.size w w') : Quad w' g a b c d := by
  have hl := World.block_lt_of_cell? w ⟨g, 0, none⟩ h.c0
  exact ⟨(hb.cell (p := ⟨g, 0, none⟩) hl).trans h.c0, (hb.cell (p := ⟨g, 1, none⟩) hl).trans h.c1, (hb.cell (p := ⟨g, 2, none⟩) hl).trans h.c2, (hb.cell (p := ⟨g, 3, none⟩) hl).trans h.c3⟩
theorem quad_alloc (w : World) (a b c d : Int) (T : TypeId) (g : Nat) (hg : g = w.heap.size) : Quad (w.alloc (.cells #[.int .i64 a, .int .i64 b, .int .i64 c, .int .i64 d] T)) g a b c d := by
  subst hg; exact ⟨by simp, by simp, by simp, by simp⟩
theorem Quad.alloc {w : World} {g : Nat} {a b c d : Int} (h : Quad w g a b c d) (o : Obj) : Quad (w.alloc o) g a b c d := h.below ((Below.refl _ _).alloc (Nat.le_refl _) _)

theorem Cross_ok (ax ay bx bz cx cy : Int) (w : World) (ha : inP ax ay) (hb : inP bx bz) (hc : inP cx cy) :
    Calls Tryz.prog 94 #[.agg #[.int .i64 ax, .int .i64 ay], .agg #[.int .i64 bx, .int .i64 bz], .agg #[.int .i64 cx, .int .i64 cy]] w fun e w' => e = .returned (.int .i64 (crs (ax, ay) (bx, bz) (cx, cy))) ∧ Below w.heap.size w w' := by
  have M := Lib.hid (fun b w h => may_any (.slice (some ⟨b, 0, none⟩) 3 3) [(ax, ay), (bx, bz), (cx, cy)] w h)
  have e0 : allP [(ax, ay), (bx, bz), (cx, cy)] = true := by simp [allP, okP, ha, hb, hc]
  rw [e0] at M
  clear e0
  obtain ⟨⟨p1, p2⟩, p3, p4⟩ := crs_parts (a := (ax, ay)) (b := (bx, bz)) (c := (cx, cy)) ha hb hc
  obtain ⟨d1, d2, d3, d4⟩ := inP_diff (a := (ax, ay)) (b := (bx, bz)) ha hb
  obtain ⟨k1, k2, k3, k4⟩ := inP_diff (a := (ax, ay)) (b := (cx, cy)) ha hc
  simp only at p1 p2 p3 p4 d1 d2 d3 d4 k1 k2 k3 k4
  have HW := Lib.hid (show wrap64 (wrap64 ((bx - ax) * (cy - ay)) - wrap64 ((bz - ay) * (cx - ax))) = crs (ax, ay) (bx, bz) (cx, cy) by
    have w1 : wrap64 ((bx - ax) * (cy - ay)) = (bx - ax) * (cy - ay) := by simp [wrap64]; omega
    have w2 : wrap64 ((bz - ay) * (cx - ax)) = (bz - ay) * (cx - ax) := by simp [wrap64]; omega
    rw [w1, w2]
    unfold crs
    simp only
    simp [wrap64]; omega)
  have B0 : Below w.heap.size w ((((w.alloc (.cells #[.int .i64 ax, .int .i64 ay] 67)).alloc (.cells #[.int .i64 bx, .int .i64 bz] 67)).alloc (.cells #[.int .i64 cx, .int .i64 cy] 67)).alloc (.cells #[.int .i64 ax, .int .i64 ay, .int .i64 bx, .int .i64 bz, .int .i64 cx, .int .i64 cy] 67)) := ((((Below.refl _ _).alloc (Nat.le_refl _) _).alloc (by simp) _).alloc (by simp; omega) _).alloc (by simp; omega) _
  have Q1 := Lib.hid ((((pair_alloc w ax ay 67 w.heap.size rfl).alloc (.cells #[.int .i64 bx, .int .i64 bz] 67)).alloc (.cells #[.int .i64 cx, .int .i64 cy] 67)).alloc (.cells #[.int .i64 ax, .int .i64 ay, .int .i64 bx, .int .i64 bz, .int .i64 cx, .int .i64 cy] 67))
  have Q2 := Lib.hid (((pair_alloc (w.alloc (.cells #[.int .i64 ax, .int .i64 ay] 67)) bx bz 67 (w.heap.size + 1) (by simp)).alloc (.cells #[.int .i64 cx, .int .i64 cy] 67)).alloc (.cells #[.int .i64 ax, .int .i64 ay, .int .i64 bx, .int .i64 bz, .int .i64 cx, .int .i64 cy] 67))
  have Q3 := Lib.hid ((pair_alloc ((w.alloc (.cells #[.int .i64 ax, .int .i64 ay] 67)).alloc (.cells #[.int .i64 bx, .int .i64 bz] 67)) cx cy 67 (w.heap.size + 1 + 1) (by simp)).alloc (.cells #[.int .i64 ax, .int .i64 ay, .int .i64 bx, .int .i64 bz, .int .i64 cx, .int .i64 cy] 67))
  clear ha hb hc p1 p2 p3 p4
  go_enter Tryz.func94, Tryz.ntmps94
  go_wp2_with fail
  refine (M.out _ _ (pts3 _ _ _ (by simp) _ _ _ _ _ _)).mono ?_
  rintro e w1 ⟨rfl, b1⟩
  obtain ⟨y0, y1⟩ := Q1.out.below b1
  obtain ⟨y2, y3⟩ := Q2.out.below b1
  obtain ⟨y4, y5⟩ := Q3.out.below b1
  go_wp2_with fail
  go_ret
  exact ⟨by rw [← HW.out]; rfl, B0.trans (b1.mono B0.size)⟩

theorem Compare_int (x y : Int) (w : World) : Calls Tryz.prog 55 #[.int .i64 x, .int .i64 y] w fun e w' => e = .returned (.int .i64 (sgn (x - y))) ∧ w = w' := by
  have N : ∀ z w, Calls Tryz.prog 68 #[.int .i64 z] w fun e w' => e = .returned (.bool false) ∧ w = w' := by
    intro z w
    have t : (z != z) = false := by simp
    go_enter Tryz.func68, Tryz.ntmps68
    go_wp2
    go_ret
    exact ⟨rfl, rfl⟩
  have NH := Lib.hid N
  clear N
  by_cases h1 : x < y
  · have e0 : sgn (x - y) = -1 := by unfold sgn; rw [if_pos (by omega)]
    rw [e0]
    have t1 := decide_eq_true h1
    clear e0
    go_enter Tryz.func55, Tryz.ntmps55
    go_wp2_with (refine (NH.out _ _).mono ?_; rintro e w' ⟨rfl, rfl⟩)
    go_ret
    exact ⟨rfl, rfl⟩
  · have t1 := decide_eq_false h1
    by_cases h2 : y < x
    · have e0 : sgn (x - y) = 1 := by unfold sgn; rw [if_neg (by omega), if_neg (by omega)]
      rw [e0]
      have t2 := decide_eq_true h2
      clear e0
      go_enter Tryz.func55, Tryz.ntmps55
      go_wp2_with (refine (NH.out _ _).mono ?_; rintro e w' ⟨rfl, rfl⟩)
      go_ret
      exact ⟨rfl, rfl⟩
    · have e0 : sgn (x - y) = 0 := by unfold sgn; rw [if_neg (by omega), if_pos (by omega)]
      rw [e0]
      have t2 := decide_eq_false h2
      clear e0
      go_enter Tryz.func55, Tryz.ntmps55
      go_wp2_with (refine (NH.out _ _).mono ?_; rintro e w' ⟨rfl, rfl⟩)
      go_ret
      exact ⟨rfl, rfl⟩

theorem Orient_ok (ax ay bx bz cx cy : Int) (w : World) (ha : inP ax ay) (hb : inP bx bz) (hc : inP cx cy) :
    Calls Tryz.prog 89 #[.agg #[.int .i64 ax, .int .i64 ay], .agg #[.int .i64 bx, .int .i64 bz], .agg #[.int .i64 cx, .int .i64 cy]] w fun e w' => e = .returned (.int .i64 (sgn (crs (ax, ay) (bx, bz) (cx, cy)))) ∧ Below w.heap.size w w' := by
  have C := Lib.hid (fun w => Cross_ok ax ay bx bz cx cy w ha hb hc)
  have K := Lib.hid (fun w => Compare_int (crs (ax, ay) (bx, bz) (cx, cy)) 0 w)
  rw [Int.sub_zero] at K
  generalize crs (ax, ay) (bx, bz) (cx, cy) = q at *
  have B0 : Below w.heap.size w (((w.alloc (.cells #[.int .i64 ax, .int .i64 ay] 67)).alloc (.cells #[.int .i64 bx, .int .i64 bz] 67)).alloc (.cells #[.int .i64 cx, .int .i64 cy] 67)) := (((Below.refl _ _).alloc (Nat.le_refl _) _).alloc (by simp) _).alloc (by simp; omega) _
  clear ha hb hc
  go_enter Tryz.func89, Tryz.ntmps89
  go_wp2_with fail
  refine (C.out _).mono ?_
  rintro e w1 ⟨rfl, b1⟩
  go_wp2_with fail
  refine (K.out _).mono ?_
  rintro e w2 ⟨rfl, rfl⟩
  go_wp2_with fail
  go_ret
  exact ⟨rfl, B0.trans (b1.mono B0.size)⟩
end

/-! Reg -/
section
open Go.RowKit

theorem step_go {P : Program} {w : World} {ops : Array Oper} {o : Oper} {a : Act} {K : Act → World → Prop} {Q : Exit → Act → World → Prop} {E : Prop} (hw : Region.wanted o (yielded ops a.tmps) = true) (f : FuncId) (xs : List Operand) (ts : Array TypeId)
    (ho : o.op = .call { callee := .value (.func f), args := xs.toArray, argTypes := ts }) (hent : ∀ (args : Array Value) (w : World), (callFunc f args).run P w = .ok (.enter f args) w) (ys : List Value) (hx : xs.map a.eval = ys)
    {R : Ending → World → Prop} (hc : Calls P f ys.toArray w R) (h : ∀ e w', R e w' → ∃ v, e = .returned v ∧ K (a.put o.dst v) w') :
    if Region.wanted o (yielded ops a.tmps) = true then Oper.wp P o a w K Q else E := by
  rw [if_pos hw]
  have hrun : (execOp a.eval o).run P w = .ok (.enter f ys.toArray) w := by
    subst hx
    simp [execOp, ho, resolve, Deferred.ofValue, invoke, Act.eval, hent]
  unfold Oper.wp
  rw [hrun, Oper.upon_enter]
  exact hc.mono fun e w' hr => by
    obtain ⟨v, rfl, hk⟩ := h e w' hr
    exact hk
end

/-! SCmp -/
section
open Go.RowKit

theorem Compare_u64 (x y : Int) (w : World) : Calls Tryz.prog 54 #[.int .u64 x, .int .u64 y] w fun e w' => e = .returned (.int .i64 (sgn (x - y))) ∧ w = w' := by
  have N : ∀ z w, Calls Tryz.prog 67 #[.int .u64 z] w fun e w' => e = .returned (.bool false) ∧ w = w' := by
    intro z w
    have t : (z != z) = false := by simp
    go_enter Tryz.func67, Tryz.ntmps67
    go_wp2
    go_ret
    exact ⟨rfl, rfl⟩
  have NH := Lib.hid N
  clear N
  by_cases h1 : x < y
  · have e0 : sgn (x - y) = -1 := by unfold sgn; rw [if_pos (by omega)]
    rw [e0]
    have t1 := decide_eq_true h1
    clear e0
    go_enter Tryz.func54, Tryz.ntmps54
    go_wp2_with (refine (NH.out _ _).mono ?_; rintro e w' ⟨rfl, rfl⟩)
    go_ret
    exact ⟨rfl, rfl⟩
  · have t1 := decide_eq_false h1
    by_cases h2 : y < x
    · have e0 : sgn (x - y) = 1 := by unfold sgn; rw [if_neg (by omega), if_neg (by omega)]
      rw [e0]
      have t2 := decide_eq_true h2
      clear e0
      go_enter Tryz.func54, Tryz.ntmps54
      go_wp2_with (refine (NH.out _ _).mono ?_; rintro e w' ⟨rfl, rfl⟩)
      go_ret
      exact ⟨rfl, rfl⟩
    · have e0 : sgn (x - y) = 0 := by unfold sgn; rw [if_neg (by omega), if_pos (by omega)]
      rw [e0]
      have t2 := decide_eq_false h2
      clear e0
      go_enter Tryz.func54, Tryz.ntmps54
      go_wp2_with (refine (NH.out _ _).mono ?_; rintro e w' ⟨rfl, rfl⟩)
      go_ret
      exact ⟨rfl, rfl⟩

theorem Or_two (b : Nat) (x y z : Int) (w : World) (hz : z = if x = 0 then y else x) (h0 : w.cell? ⟨b, 0, none⟩ = some (.int .i64 x)) (h1 : w.cell? ⟨b, 1, none⟩ = some (.int .i64 y)) :
    Calls Tryz.prog 53 #[.slice (some ⟨b, 0, none⟩) 2 2] w fun e w' => e = .returned (.int .i64 z) ∧ w = w' := by
  have HZZ := Lib.hid hz
  clear hz
  go_enter Tryz.func53, Tryz.ntmps53
  go_wp2_with fail
  go_loopw [5, 8] (fun _ i wr => ∃ k : Nat, k ≤ 2 ∧ i = .int .i64 k ∧ wr = w ∧ (1 ≤ k → x = 0) ∧ (2 ≤ k → y = 0)) (fun _ i _ => 2 - (intOf i).toNat)
  case atStart => exact ⟨0, by omega, rfl, rfl, fun h => by omega, fun h => by omega⟩
  case round =>
    obtain ⟨k, hk, rfl, rfl, hx, hy⟩ := hrel
    rcases (show k = 0 ∨ k = 1 ∨ k = 2 by omega) with rfl | rfl | rfl
    · by_cases hz : x = 0
      · have t : (x != 0) = false := by simpa using hz
        go_wp2_with fail
        go_roundw
        case rel => exact ⟨1, by omega, by go_num, by first | rfl | trivial, fun _ => hz, fun h => by omega⟩
        case measure => simp [intOf]
      · have t : (x != 0) = true := by simpa using hz
        have HZ := Lib.hid hz
        clear hz
        go_wp2_with fail
        go_ret
        exact ⟨by rw [HZZ.out, if_neg HZ.out]; rfl, rfl⟩
    · have hx0 := Lib.hid (hx (by omega))
      by_cases hz : y = 0
      · have t : (y != 0) = false := by simpa using hz
        go_wp2_with fail
        go_roundw
        case rel => exact ⟨2, by omega, by go_num, by first | rfl | trivial, fun _ => hx0.out, fun _ => hz⟩
        case measure => simp [intOf]
      · have t : (y != 0) = true := by simpa using hz
        clear hz
        go_wp2_with fail
        go_ret
        exact ⟨by rw [HZZ.out, if_pos hx0.out]; rfl, rfl⟩
    · have hx0 := Lib.hid (hx (by omega))
      have hy0 := Lib.hid (hy (by omega))
      go_wp2_with fail
      go_ret
      exact ⟨by rw [HZZ.out, if_pos hx0.out, hy0.out]; rfl, rfl⟩

/-- an item with its key, by value -/
def kdA (x : KdV) : Value := .agg #[.int .u64 x.1.key, .int .i64 x.1.id, .int .i64 x.1.kind, x.2]

set_option maxRecDepth 100000 in
theorem cmp_any (x y : KdV) (w : World) (hx : ∃ ao n c, x.2 = .slice ao n c) (hy : ∃ ao n c, y.2 = .slice ao n c) :
    Calls Tryz.prog 32 #[kdA x, kdA y] w fun e w' => e = .returned (.int .i64 (cmpK x.1 y.1)) ∧ Below w.heap.size w w' := by
  have HC : cmpK x.1 y.1 = if sgn ((x.1.key : Int) - (y.1.key : Int)) = 0 then sgn (x.1.id - y.1.id) else sgn ((x.1.key : Int) - (y.1.key : Int)) := by
    unfold cmpK
    by_cases h : (x.1.key : Int) - (y.1.key : Int) = 0
    · rw [if_pos h, if_pos (sgn_zero.2 h)]
    · rw [if_neg h, if_neg (fun q => h (sgn_zero.1 q))]
  rw [HC]
  obtain ⟨⟨k1, i1, d1, p1⟩, v1⟩ := x
  obtain ⟨⟨k2, i2, d2, p2⟩, v2⟩ := y
  obtain ⟨a1, n1, c1, rfl⟩ := hx
  obtain ⟨a2, n2, c2, rfl⟩ := hy
  unfold kdA
  simp only
  clear HC
  obtain ⟨Z, hZ⟩ : ∃ Z, Z = if sgn ((k1 : Int) - (k2 : Int)) = 0 then sgn (i1 - i2) else sgn ((k1 : Int) - (k2 : Int)) := ⟨_, rfl⟩
  rw [← hZ]
  have HZ := Lib.hid hZ
  clear hZ
  have BB : Below w.heap.size w ((w.alloc (.cells #[.int .u64 k1, .int .i64 i1, .int .i64 d1, .slice a1 n1 c1] 53)).alloc (.cells #[.int .u64 k2, .int .i64 i2, .int .i64 d2, .slice a2 n2 c2] 53)) := ((Below.refl _ _).alloc (Nat.le_refl _) _).alloc (by simp) _
  have x0 : ((w.alloc (.cells #[.int .u64 k1, .int .i64 i1, .int .i64 d1, .slice a1 n1 c1] 53)).alloc (.cells #[.int .u64 k2, .int .i64 i2, .int .i64 d2, .slice a2 n2 c2] 53)).cell? ⟨w.heap.size, 0, none⟩ = some (.int .u64 k1) := by simp
  have x1 : ((w.alloc (.cells #[.int .u64 k1, .int .i64 i1, .int .i64 d1, .slice a1 n1 c1] 53)).alloc (.cells #[.int .u64 k2, .int .i64 i2, .int .i64 d2, .slice a2 n2 c2] 53)).cell? ⟨w.heap.size, 1, none⟩ = some (.int .i64 i1) := by simp
  have y0 : ((w.alloc (.cells #[.int .u64 k1, .int .i64 i1, .int .i64 d1, .slice a1 n1 c1] 53)).alloc (.cells #[.int .u64 k2, .int .i64 i2, .int .i64 d2, .slice a2 n2 c2] 53)).cell? ⟨w.heap.size + 1, 0, none⟩ = some (.int .u64 k2) := by simp
  have y1 : ((w.alloc (.cells #[.int .u64 k1, .int .i64 i1, .int .i64 d1, .slice a1 n1 c1] 53)).alloc (.cells #[.int .u64 k2, .int .i64 i2, .int .i64 d2, .slice a2 n2 c2] 53)).cell? ⟨w.heap.size + 1, 1, none⟩ = some (.int .i64 i2) := by simp
  have hl : w.heap.size + 1 < ((w.alloc (.cells #[.int .u64 k1, .int .i64 i1, .int .i64 d1, .slice a1 n1 c1] 53)).alloc (.cells #[.int .u64 k2, .int .i64 i2, .int .i64 d2, .slice a2 n2 c2] 53)).heap.size := by simp
  have HX := Lib.hid (And.intro x0 x1)
  have HY := Lib.hid (And.intro y0 y1)
  have HB := Lib.hid BB
  have HL := Lib.hid hl
  clear x0 x1 y0 y1 BB hl
  go_enter Tryz.func32, Tryz.ntmps32
  go_wp2_with fail
  generalize (w.alloc (.cells #[.int .u64 k1, .int .i64 i1, .int .i64 d1, .slice a1 n1 c1] 53)).alloc (.cells #[.int .u64 k2, .int .i64 i2, .int .i64 d2, .slice a2 n2 c2] 53) = w2 at *
  have hx0 := HX.out.1
  have hx1 := HX.out.2
  have hy0 := HY.out.1
  have hy1 := HY.out.2
  have hl := HL.out
  have hl' : w.heap.size < w2.heap.size := by omega
  refine wp_region_noPanic ?_
  refine wp_region_held_drew (S := fun w' => Below w2.heap.size w2 w') (by kernel_rfl) (Below.refl _ _).drew (fun hHeld => ?_)
  generalize w2.drew = D at hHeld ⊢
  have kb : Below w2.heap.size w2 D := hHeld
  refine wpAnyH_take (i := 0) (oi := ⟨some 5, _, _, _, _, _⟩) (v := ?qv0cm) rfl (by kernel_rfl) (by kernel_rfl) (by kernel_rfl) (fun _ _ _ h => h) (Or.inl ⟨by rfl, ?qy0cm⟩) hHeld ?qr0cm
  case qy0cm => (intro w' hSw; go_simp; try with_reducible rfl)
  try simp only [Act.put, List.setIfInBounds_toArray, List.set_cons_zero, List.set_cons_succ]
  refine wpAnyH_take (i := 1) (oi := ⟨some 6, _, _, _, _, _⟩) (v := ?qv1cm) rfl (by kernel_rfl) (by kernel_rfl) (by kernel_rfl) (fun _ _ _ h => h) (Or.inl ⟨by rfl, ?qy1cm⟩) hHeld ?qr1cm
  case qy1cm => (intro w' hSw; have z0 := (hSw.cell (p := ⟨w.heap.size, 0, none⟩) hl').trans hx0; have z1 := (hSw.cell (p := ⟨w.heap.size, 1, none⟩) hl').trans hx1; have z2 := (hSw.cell (p := ⟨w.heap.size + 1, 0, none⟩) hl).trans hy0; have z3 := (hSw.cell (p := ⟨w.heap.size + 1, 1, none⟩) hl).trans hy1; go_simp; try with_reducible rfl)
  try simp only [Act.put, List.setIfInBounds_toArray, List.set_cons_zero, List.set_cons_succ]
  refine wpAnyH_take (i := 2) (oi := ⟨some 7, _, _, _, _, _⟩) (v := ?qv2cm) rfl (by kernel_rfl) (by kernel_rfl) (by kernel_rfl) (fun _ _ _ h => h) (Or.inl ⟨by rfl, ?qy2cm⟩) hHeld ?qr2cm
  case qy2cm => (intro w' hSw; go_simp; try with_reducible rfl)
  try simp only [Act.put, List.setIfInBounds_toArray, List.set_cons_zero, List.set_cons_succ]
  refine wpAnyH_take (i := 3) (oi := ⟨some 8, _, _, _, _, _⟩) (v := ?qv3cm) rfl (by kernel_rfl) (by kernel_rfl) (by kernel_rfl) (fun _ _ _ h => h) (Or.inl ⟨by rfl, ?qy3cm⟩) hHeld ?qr3cm
  case qy3cm => (intro w' hSw; have z0 := (hSw.cell (p := ⟨w.heap.size, 0, none⟩) hl').trans hx0; have z1 := (hSw.cell (p := ⟨w.heap.size, 1, none⟩) hl').trans hx1; have z2 := (hSw.cell (p := ⟨w.heap.size + 1, 0, none⟩) hl).trans hy0; have z3 := (hSw.cell (p := ⟨w.heap.size + 1, 1, none⟩) hl).trans hy1; go_simp; try with_reducible rfl)
  try simp only [Act.put, List.setIfInBounds_toArray, List.set_cons_zero, List.set_cons_succ]
  refine wpAnyH_take (i := 5) (oi := ⟨some 10, _, _, _, _, _⟩) (v := ?qv5cm) rfl (by kernel_rfl) (by kernel_rfl) (by kernel_rfl) (fun _ _ _ h => h) (Or.inl ⟨by rfl, ?qy5cm⟩) hHeld ?qr5cm
  case qy5cm => (intro w' hSw; go_simp; try with_reducible rfl)
  try simp only [Act.put, List.setIfInBounds_toArray, List.set_cons_zero, List.set_cons_succ]
  refine wpAnyH_take (i := 6) (oi := ⟨some 11, _, _, _, _, _⟩) (v := ?qv6cm) rfl (by kernel_rfl) (by kernel_rfl) (by kernel_rfl) (fun _ _ _ h => h) (Or.inl ⟨by rfl, ?qy6cm⟩) hHeld ?qr6cm
  case qy6cm => (intro w' hSw; go_simp; try with_reducible rfl)
  try simp only [Act.put, List.setIfInBounds_toArray, List.set_cons_zero, List.set_cons_succ]
  refine wpAnyH_take (i := 7) (oi := ⟨some 12, _, _, _, _, _⟩) (v := ?qv7cm) rfl (by kernel_rfl) (by kernel_rfl) (by kernel_rfl) (fun _ _ _ h => h) (Or.inl ⟨by rfl, ?qy7cm⟩) hHeld ?qr7cm
  case qy7cm => (intro w' hSw; have z0 := (hSw.cell (p := ⟨w.heap.size, 0, none⟩) hl').trans hx0; have z1 := (hSw.cell (p := ⟨w.heap.size, 1, none⟩) hl').trans hx1; have z2 := (hSw.cell (p := ⟨w.heap.size + 1, 0, none⟩) hl).trans hy0; have z3 := (hSw.cell (p := ⟨w.heap.size + 1, 1, none⟩) hl).trans hy1; go_simp; try with_reducible rfl)
  try simp only [Act.put, List.setIfInBounds_toArray, List.set_cons_zero, List.set_cons_succ]
  refine wpAnyH_take (i := 8) (oi := ⟨some 13, _, _, _, _, _⟩) (v := ?qv8cm) rfl (by kernel_rfl) (by kernel_rfl) (by kernel_rfl) (fun _ _ _ h => h) (Or.inl ⟨by rfl, ?qy8cm⟩) hHeld ?qr8cm
  case qy8cm => (intro w' hSw; go_simp; try with_reducible rfl)
  try simp only [Act.put, List.setIfInBounds_toArray, List.set_cons_zero, List.set_cons_succ]
  refine wpAnyH_take (i := 9) (oi := ⟨some 14, _, _, _, _, _⟩) (v := ?qv9cm) rfl (by kernel_rfl) (by kernel_rfl) (by kernel_rfl) (fun _ _ _ h => h) (Or.inl ⟨by rfl, ?qy9cm⟩) hHeld ?qr9cm
  case qy9cm => (intro w' hSw; go_simp; try with_reducible rfl)
  try simp only [Act.put, List.setIfInBounds_toArray, List.set_cons_zero, List.set_cons_succ]
  refine wpAnyH_take (i := 10) (oi := ⟨some 15, _, _, _, _, _⟩) (v := ?qv10cm) rfl (by kernel_rfl) (by kernel_rfl) (by kernel_rfl) (fun _ _ _ h => h) (Or.inl ⟨by rfl, ?qy10cm⟩) hHeld ?qr10cm
  case qy10cm => (intro w' hSw; have z0 := (hSw.cell (p := ⟨w.heap.size, 0, none⟩) hl').trans hx0; have z1 := (hSw.cell (p := ⟨w.heap.size, 1, none⟩) hl').trans hx1; have z2 := (hSw.cell (p := ⟨w.heap.size + 1, 0, none⟩) hl).trans hy0; have z3 := (hSw.cell (p := ⟨w.heap.size + 1, 1, none⟩) hl).trans hy1; go_simp; try with_reducible rfl)
  try simp only [Act.put, List.setIfInBounds_toArray, List.set_cons_zero, List.set_cons_succ]
  refine wpAnyH_ready (rs := [4]) (by kernel_rfl) (by simp) ?_
  refine AllReadyH.cons (o := ⟨some 9, _, _, _, _, _⟩) rfl (fun K hK => ?_) AllReadyH.nil
  refine step_go (by rfl) 54 _ _ (by rfl) (fun _ _ => by kernel_rfl) _ (by rfl) (Compare_u64 k1 k2 _) ?_
  rintro e w3 ⟨rfl, rfl⟩
  refine ⟨_, rfl, ?_⟩
  refine hK.out _ _ (kb) (fun hHeld => ?_)
  clear hK K
  try simp only [Act.put, List.setIfInBounds_toArray, List.set_cons_zero, List.set_cons_succ]
  refine wpAnyH_ready (rs := [11]) (by kernel_rfl) (by simp) ?_
  refine AllReadyH.cons (o := ⟨some 16, _, _, _, _, _⟩) rfl (fun K hK => ?_) AllReadyH.nil
  refine step_go (by rfl) 55 _ _ (by rfl) (fun _ _ => by kernel_rfl) _ (by rfl) (Compare_int i1 i2 _) ?_
  rintro e w3 ⟨rfl, rfl⟩
  refine ⟨_, rfl, ?_⟩
  refine hK.out _ _ (kb) (fun hHeld => ?_)
  clear hK K
  try simp only [Act.put, List.setIfInBounds_toArray, List.set_cons_zero, List.set_cons_succ]
  refine wpAnyH_ready (rs := [12]) (by kernel_rfl) (by simp) ?_
  refine AllReadyH.cons (o := ⟨some 17, _, _, _, _, _⟩) rfl (fun K hK => ?_) AllReadyH.nil
  go_simp
  refine hK.out _ _ (kb.alloc kb.size _) (fun hHeld => ?_)
  clear hK K
  try simp only [Act.put, List.setIfInBounds_toArray, List.set_cons_zero, List.set_cons_succ]
  refine wpAnyH_ready (rs := [13]) (by kernel_rfl) (by simp) ?_
  refine AllReadyH.cons (o := ⟨some 18, _, _, _, _, _⟩) rfl (fun K hK => ?_) AllReadyH.nil
  refine step_go (by rfl) 53 _ _ (by rfl) (fun _ _ => by kernel_rfl) _ (by rfl) (Or_two D.heap.size (sgn ((k1 : Int) - (k2 : Int))) (sgn (i1 - i2)) Z _ HZ.out (by simp) (by simp)) ?_
  rintro e w3 ⟨rfl, rfl⟩
  refine ⟨_, rfl, ?_⟩
  refine hK.out _ _ (kb.alloc kb.size _) (fun hHeld => ?_)
  clear hK K
  try simp only [Act.put, List.setIfInBounds_toArray, List.set_cons_zero, List.set_cons_succ]
  refine wpAnyH_take (i := 14) (oi := ⟨some 4, _, _, _, _, _⟩) (v := ?qv14cm) rfl (by kernel_rfl) (by kernel_rfl) (by kernel_rfl) (fun _ _ _ h => h) (Or.inl ⟨by rfl, ?qy14cm⟩) hHeld ?qr14cm
  case qy14cm => (intro w' hSw; go_simp; try with_reducible rfl)
  try simp only [Act.put, List.setIfInBounds_toArray, List.set_cons_zero, List.set_cons_succ]
  refine wpAnyH_done (by kernel_rfl) ?_ _
  refine NoPanic.normal ?_
  have BF := HB.out.trans ((show Below w2.heap.size w2 (D.alloc (.cells #[.int .i64 (sgn ((k1 : Int) - (k2 : Int))), .int .i64 (sgn (i1 - i2))] 3)) from kb.alloc kb.size _).mono HB.out.size)
  have HBF := Lib.hid BF
  clear BF hHeld
  go_wp2_with fail
  go_ret
  exact ⟨rfl, HBF.out⟩
theorem Less_any (x y : KdV) (w : World) (hx : ∃ ao n c, x.2 = .slice ao n c) (hy : ∃ ao n c, y.2 = .slice ao n c) :
    Calls Tryz.prog 33 #[kdA x, kdA y] w fun e w' => e = .returned (.bool (ltK x.1 y.1)) ∧ Below w.heap.size w w' := by
  have C := Lib.hid (fun w => cmp_any x y w hx hy)
  rw [← cmpK_neg]
  generalize cmpK x.1 y.1 = k at *
  obtain ⟨⟨k1, i1, d1, p1⟩, v1⟩ := x
  obtain ⟨⟨k2, i2, d2, p2⟩, v2⟩ := y
  obtain ⟨a1, n1, c1, rfl⟩ := hx
  obtain ⟨a2, n2, c2, rfl⟩ := hy
  unfold kdA at *
  simp only at *
  have BB : Below w.heap.size w ((w.alloc (.cells #[.int .u64 k1, .int .i64 i1, .int .i64 d1, .slice a1 n1 c1] 53)).alloc (.cells #[.int .u64 k2, .int .i64 i2, .int .i64 d2, .slice a2 n2 c2] 53)) := ((Below.refl _ _).alloc (Nat.le_refl _) _).alloc (by simp) _
  go_enter Tryz.func33, Tryz.ntmps33
  go_wp2_with fail
  refine (C.out _).mono ?_
  rintro e w1 ⟨rfl, b1⟩
  have B1 := BB.trans (b1.mono BB.size)
  go_wp2_with fail
  go_ret
  exact ⟨rfl, B1⟩
end

/-! SRow -/
section
open Go.RowKit

def kdC (x : KdV) : List Value := [.int .u64 x.1.key, .int .i64 x.1.id, .int .i64 x.1.kind, x.2]
def kdR (r : List KdV) : List Value := r.flatMap kdC
theorem kdR_length : ∀ r : List KdV, (kdR r).length = r.length * 4
  | [] => rfl
  | x :: r => by
    have ih := kdR_length r
    unfold kdR at ih ⊢
    rw [List.flatMap_cons, List.length_append, ih, List.length_cons]
    simp only [kdC, List.length_cons, List.length_nil]
    omega
theorem kdR_append (r s : List KdV) : kdR (r ++ s) = kdR r ++ kdR s := by simp [kdR]
theorem kdR_get : ∀ (r : List KdV) (i : Nat) (h : i < r.length) (j : Nat), j < 4 → (kdR r)[i * 4 + j]? = (kdC r[i])[j]?
  | x :: r, 0, _, j, hj => by
    unfold kdR
    rw [List.flatMap_cons, Nat.zero_mul, Nat.zero_add, List.getElem?_append_left (by simpa [kdC] using hj)]
    rfl
  | x :: r, i + 1, h, j, hj => by
    have ih := kdR_get r i (by simpa using h) j hj
    unfold kdR at ih ⊢
    rw [List.flatMap_cons, show (i + 1) * 4 + j = (kdC x).length + (i * 4 + j) by simp only [kdC, List.length_cons, List.length_nil]; omega, List.getElem?_append_right (Nat.le_add_right _ _), Nat.add_sub_cancel_left, ih]
    rfl
theorem kdR_set : ∀ (r : List KdV) (k : Nat) (_ : k < r.length) (x : KdV), kdR (r.set k x) = ((((kdR r).set (k * 4) (.int .u64 x.1.key)).set (k * 4 + 1) (.int .i64 x.1.id)).set (k * 4 + 2) (.int .i64 x.1.kind)).set (k * 4 + 3) x.2
  | y :: r, 0, _, x => by
    unfold kdR
    rw [List.set_cons_zero, List.flatMap_cons, List.flatMap_cons]
    rfl
  | y :: r, k + 1, h, x => by
    have ih := kdR_set r k (by simpa using h) x
    unfold kdR at ih ⊢
    rw [List.set_cons_succ, List.flatMap_cons, List.flatMap_cons, ih]
    have e : ∀ (l : List Value) (j : Nat) (v : Value), kdC y ++ l.set j v = (kdC y ++ l).set (j + 4) v := fun l j v => by
      rw [List.set_append_right _ _ (by simp [kdC])]
      rfl
    rw [e, e, e, e]
    rw [show k * 4 + 4 = (k + 1) * 4 by omega, show k * 4 + 1 + 4 = (k + 1) * 4 + 1 by omega, show k * 4 + 2 + 4 = (k + 1) * 4 + 2 by omega, show k * 4 + 3 + 4 = (k + 1) * 4 + 3 by omega]

/-- block g alone turns -/
structure OnlG (g : Nat) (w w' : World) : Prop where
  below : Below g w w'
  kept : ∀ k, k ≠ g → k < w.heap.size → w'.heap[k]? = w.heap[k]?
theorem OnlG.refl (g : Nat) (w : World) : OnlG g w w := ⟨Below.refl _ _, fun _ _ _ => rfl⟩
theorem OnlG.size {g : Nat} {w w' : World} (h : OnlG g w w') : w.heap.size ≤ w'.heap.size := h.below.size
theorem OnlG.trans {g : Nat} {w w' w'' : World} (h : OnlG g w w') (h' : OnlG g w' w'') : OnlG g w w'' :=
  ⟨h.below.trans h'.below, fun k hk hl => (h'.kept k hk (Nat.lt_of_lt_of_le hl h.size)).trans (h.kept k hk hl)⟩
theorem OnlG.setCell {g : Nat} {w w' : World} (h : OnlG g w w') (j : Nat) (u : Value) : OnlG g w (w'.setCell ⟨g, j, none⟩ u) :=
  ⟨h.below.setCell (p := ⟨g, j, none⟩) (Nat.le_refl _) u, fun k hk hl => (Below.heap_setCell _ _ _ _ (fun q => hk (by simpa using q))).trans (h.kept k hk hl)⟩
theorem OnlG.of_below {g : Nat} {w w' : World} (h : Below w.heap.size w w') (hg : g ≤ w.heap.size) : OnlG g w w' := ⟨h.mono hg, fun k _ hl => h.block k hl⟩
theorem OnlG.drewN {g : Nat} {w w' : World} (h : OnlG g w w') (n : Nat) : OnlG g w (w'.drewN n) := ⟨⟨h.below.os, h.below.tape, h.below.output, h.below.size, h.below.block⟩, h.kept⟩
theorem OnlG.drew {g : Nat} {w w' : World} (h : OnlG g w w') : OnlG g w w'.drew := ⟨h.below.drew, h.kept⟩

/-- Block g is a row of items with keys of the call's own. -/
def RowO (w : World) (B g cap : Nat) (r : List KdV) : Prop := w.ownsRow B 53 4 (.slice (some ⟨g, 0, none⟩) r.length cap) r.length (kdR r)
theorem RowO.lt {w : World} {B g cap : Nat} {r : List KdV} (h : RowO w B g cap r) : B ≤ g ∧ g < w.heap.size := World.ownsRow.lt h g rfl
theorem RowO.kind {w : World} {B g cap : Nat} {r : List KdV} (h : RowO w B g cap r) : ∃ c m, w.heap[g]? = some (.cells c 53 m) := Go.Lib.ownsRow_kind h g rfl
theorem RowO.below {w w' : World} {B g cap : Nat} {r : List KdV} (h : RowO w B g cap r) (hb : Below w.heap.size w w') : RowO w' B g cap r := own_below' h hb
theorem RowO.drew {w : World} {B g cap : Nat} {r : List KdV} (h : RowO w B g cap r) : RowO w.drew B g cap r := own_below' h (Below.refl _ _).drew
theorem RowO.drewN {w : World} {B g cap : Nat} {r : List KdV} (h : RowO w B g cap r) (n : Nat) : RowO (w.drewN n) B g cap r := own_below' h ⟨rfl, rfl, rfl, Nat.le_refl _, fun _ _ => rfl⟩
theorem RowO.cap {w : World} {B g cap : Nat} {r : List KdV} (h : RowO w B g cap r) : r.length ≤ cap ∧ cap ≤ maxLen := by
  rcases h.2 with ⟨q, _⟩ | ⟨g', cap', cur, e, _, _, h1, h2, _⟩
  · cases q
  · simp only [Value.slice.injEq, Option.some.injEq, Addr.mk.injEq, and_true, true_and] at e
    obtain ⟨_, rfl⟩ := e
    exact ⟨h1, h2⟩
/-- an item's four cells -/
structure At (w : World) (g i : Nat) (x : KdV) : Prop where
  c0 : w.cell? ⟨g, i * 4, none⟩ = some (.int .u64 x.1.key)
  c1 : w.cell? ⟨g, i * 4 + 1, none⟩ = some (.int .i64 x.1.id)
  c2 : w.cell? ⟨g, i * 4 + 2, none⟩ = some (.int .i64 x.1.kind)
  c3 : w.cell? ⟨g, i * 4 + 3, none⟩ = some x.2
theorem RowO.cells {w : World} {B g cap : Nat} {r : List KdV} (h : RowO w B g cap r) {i : Nat} {x : KdV} (hx : r[i]? = some x) : At w g i x := by
  obtain ⟨hi, rfl⟩ := List.getElem?_eq_some_iff.1 hx
  have l := kdR_length r
  have c := fun j (hj : j < 4) => (World.ownsRow.cellAt h (i * 4 + j) (by omega)).trans (kdR_get r i hi j hj)
  exact ⟨c 0 (by omega), c 1 (by omega), c 2 (by omega), c 3 (by omega)⟩
theorem RowO.set {w : World} {B g cap : Nat} {r : List KdV} (h : RowO w B g cap r) (k : Nat) (hk : k < r.length) (x : KdV) :
    RowO (w.setCells g (k * 4) (kdC x)) B g cap (r.set k x) := by
  have s0 := (World.ownsRow.stored h (k * 4) (.int .u64 x.1.key)).1
  have s1 := (World.ownsRow.stored s0 (k * 4 + 1) (.int .i64 x.1.id)).1
  have s2 := (World.ownsRow.stored s1 (k * 4 + 2) (.int .i64 x.1.kind)).1
  have s3 := (World.ownsRow.stored s2 (k * 4 + 3) x.2).1
  unfold RowO
  rw [List.length_set, kdR_set r k hk x]
  exact s3
theorem OnlG.setCells {g : Nat} {w w' : World} (h : OnlG g w w') (k : Nat) (x : KdV) : OnlG g w (w'.setCells g (k * 4) (kdC x)) :=
  (((h.setCell (k * 4) _).setCell (k * 4 + 1) _).setCell (k * 4 + 2) _).setCell (k * 4 + 3) _
theorem RowO.there {w : World} {B g cap : Nat} {r : List KdV} (h : RowO w B g cap r) (k : Nat) (hk : k < r.length) : w.there g (k * 4) 4 := fun j hj => by
  have l := kdR_length r
  refine ⟨?_, World.ownsRow.frozenAt h _⟩
  rw [World.ownsRow.cellAt h (k * 4 + j) (by omega), List.getElem?_eq_getElem (by omega)]
  rfl
theorem info_kd : (Tryz.prog.info? 53).map (·.size) = some 4 := by kernel_rfl

/-- a slice by value -/
def IsSl (v : Value) : Prop := ∃ ao n c, v = .slice ao n c
theorem IsSl.one {v : Value} (h : IsSl v) : v.oneCell' = true := by obtain ⟨ao, n, c, rfl⟩ := h; rfl
/-- an item is stored into a row -/
theorem wpList_store_kd {ops : Array Oper} {rest : List Oper} {op : Oper} {a : Act} {w : World} {Q : Exit → Act → World → Prop} (hgd : op.guard = none) (x y : Operand) (ho : op.op = .store 53 x y)
    (B g cap k : Nat) (r : List KdV) (z : KdV) (hx : a.eval x = .pointer (some ⟨g, k * 4, none⟩)) (hy : a.eval y = kdA z) (hz : IsSl z.2) (hr : RowO w B g cap r) (hk : k < r.length)
    (h : ∀ w', RowO w' B g cap (r.set k z) → OnlG g w w' → wpList Tryz.prog ops Q rest (a.put op.dst undef) w') : wpList Tryz.prog ops Q (op :: rest) a w := by
  refine wpList_store_mid hgd 53 x y ho g (k * 4) (kdC z).toArray hx hy (hr.there k hk) info_kd ?_ (h _ (hr.set k hk z) ((OnlG.refl g w).setCells k z))
  refine all_oneCell_toArray fun v hv => ?_
  simp only [kdC, List.mem_cons, List.not_mem_nil, or_false] at hv
  rcases hv with rfl | rfl | rfl | rfl
  · rfl
  · rfl
  · rfl
  · exact hz.one
/-- .. as one step of a drawn region -/
theorem step_store_kd {ops : Array Oper} {op : Oper} {a : Act} {w : World} {K : Act → World → Prop} {Q : Exit → Act → World → Prop} {E : Prop} (hw : Region.wanted op (yielded ops a.tmps) = true) (x y : Operand) (ho : op.op = .store 53 x y)
    (B g cap k : Nat) (r : List KdV) (z : KdV) (hx : a.eval x = .pointer (some ⟨g, k * 4, none⟩)) (hy : a.eval y = kdA z) (hz : IsSl z.2) (hr : RowO w B g cap r) (hk : k < r.length)
    (h : ∀ w', RowO w' B g cap (r.set k z) → OnlG g w w' → K (a.put op.dst undef) w') : if Region.wanted op (yielded ops a.tmps) = true then Oper.wp Tryz.prog op a w K Q else E := by
  rw [if_pos hw]
  refine wp_store_mid 53 x y ho g (k * 4) (kdC z).toArray hx hy (hr.there k hk) info_kd ?_ (h _ (hr.set k hk z) ((OnlG.refl g w).setCells k z))
  refine all_oneCell_toArray fun v hv => ?_
  simp only [kdC, List.mem_cons, List.not_mem_nil, or_false] at hv
  rcases hv with rfl | rfl | rfl | rfl
  · rfl
  · rfl
  · rfl
  · exact hz.one
/-- an operation that yields a value and turns nothing -/
theorem wpList_val {P : Program} {ops : Array Oper} {rest : List Oper} {op : Oper} {a : Act} {w : World} {Q : Exit → Act → World → Prop} (hgd : op.guard = none) (v : Value) (hrun : (execOp a.eval op).run P w = .ok (.value v) w)
    (h : wpList P ops Q rest (a.put op.dst v) w) : wpList P ops Q (op :: rest) a w :=
  wpList_plain hgd fun K hK => by
    unfold Oper.wp
    rw [hrun]
    exact hK _ _ h
/-- two loads that come up together, in the world at hand: no condition need hold behind what follows -/
theorem wpAnyH_load2 {P : Program} {ops : Array Oper} {Q : Exit → Act → World → Prop} {md : Region.Mode} {S : World → Prop} {i j : Nat} {oi oj : Oper} {vi vj : Value} {fuel : Nat} {listed : Array Bool} {a : Act} {w : World}
    (hi : ops[i]? = some oi) (hj : ops[j]? = some oj) (hne : i ≠ j) (hr : Region.ready md ops listed = [i, j]) (hr1 : Region.ready md ops (listed.setIfInBounds i true) = [j]) (hr2 : Region.ready md ops (listed.setIfInBounds j true) = [i])
    (y1 : YieldsIf P ops (fun x => x = w) oi vi a) (y2 : YieldsIf P ops (fun x => x = w) oj vj a) (y2' : YieldsIf P ops (fun x => x = w) oj vj (a.put oi.dst vi)) (y1' : YieldsIf P ops (fun x => x = w) oi vi (a.put oj.dst vj))
    (hc : (a.put oj.dst vj).put oi.dst vi = (a.put oi.dst vi).put oj.dst vj) (hS : S w)
    (h : wpAnyH P md ops Q S fuel ((listed.setIfInBounds i true).setIfInBounds j true) ((a.put oi.dst vi).put oj.dst vj) w) : wpAnyH P md ops Q S (fuel + 1 + 1) listed a w := by
  refine wpAnyH_all hr (by simp) (fun k hk => ?_)
  rcases List.mem_cons.1 hk with rfl | hk
  · refine y1.wpOp hi rfl ⟨hS, wpAnyH_all hr1 (by simp) (fun k hk => ?_)⟩
    obtain rfl := List.mem_singleton.1 hk
    exact y2'.wpOp hj rfl ⟨hS, h⟩
  · obtain rfl := List.mem_singleton.1 hk
    refine y2.wpOp hj rfl ⟨hS, wpAnyH_all hr2 (by simp) (fun k hk => ?_)⟩
    obtain rfl := List.mem_singleton.1 hk
    refine y1'.wpOp hi rfl ⟨hS, ?_⟩
    rw [Array.setIfInBounds_comm _ _ hne.symm, hc]
    exact h
/-- a call of a function value that a slot holds, as one step of a drawn region -/
theorem step_gov {P : Program} {w : World} {ops : Array Oper} {o : Oper} {a : Act} {K : Act → World → Prop} {Q : Exit → Act → World → Prop} {E : Prop} (hw : Region.wanted o (yielded ops a.tmps) = true) (f : FuncId) (x : Operand) (xs : List Operand) (ts : Array TypeId)
    (ho : o.op = .call { callee := .value x, args := xs.toArray, argTypes := ts }) (hxf : a.eval x = .func (.func f) #[] #[]) (hent : ∀ (args : Array Value) (w : World), (callFunc f args).run P w = .ok (.enter f args) w) (ys : List Value) (hx : xs.map a.eval = ys)
    {R : Ending → World → Prop} (hc : Calls P f ys.toArray w R) (h : ∀ e w', R e w' → ∃ v, e = .returned v ∧ K (a.put o.dst v) w') :
    if Region.wanted o (yielded ops a.tmps) = true then Oper.wp P o a w K Q else E := by
  rw [if_pos hw]
  have hrun : (execOp a.eval o).run P w = .ok (.enter f ys.toArray) w := by
    subst hx
    simp [execOp, ho, resolve, hxf, Deferred.ofValue, invoke, hent]
  unfold Oper.wp
  rw [hrun, Oper.upon_enter]
  exact hc.mono fun e w' hr => by
    obtain ⟨v, rfl, hk⟩ := h e w' hr
    exact hk
end

end Go.Proofs.YtoggbmfjjenbaaaGreatDoor
