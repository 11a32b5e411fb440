/- curve.Hilbert. -/
import Derived.Test.YtmpodnmgeakefaaDoorCurveZ
namespace Go.Proofs.YtmpodnmgeakefaaDoor
open Go.RowKit

theorem cmay_yes (n : Int) (w : World) (h1 : 1 ≤ n) (h2 : n ≤ 31) : Calls Tryd.prog 28 #[.int .i64 n] w fun e w' => e = .returned (.bool true) ∧ w = w' := by
  have t1 := decide_eq_true h1
  have t2 := decide_eq_true h2
  go_enter Tryd.func28, Tryd.ntmps28
  go_wp2
  go_ret
  exact ⟨rfl, rfl⟩
theorem cmay_no (n : Int) (w : World) (h : ¬ (1 ≤ n ∧ n ≤ 31)) : Calls Tryd.prog 28 #[.int .i64 n] w fun e w' => e = .returned (.bool false) ∧ w = w' := by
  by_cases h1 : 1 ≤ n
  · have t1 := decide_eq_true h1
    have t2 : decide (n ≤ 31) = false := by simp; omega
    clear h
    go_enter Tryd.func28, Tryd.ntmps28
    go_wp2
    go_ret
    exact ⟨rfl, rfl⟩
  · have t1 := decide_eq_false h1
    clear h h1
    go_enter Tryd.func28, Tryd.ntmps28
    go_wp2
    go_ret
    exact ⟨rfl, rfl⟩

theorem two_le (n : Nat) (h : n ≤ 31) : (2 : Int) ^ n ≤ 2147483648 ∧ (1 : Int) ≤ 2 ^ n := by
  have h1 : 2 ^ n ≤ 2 ^ 31 := Nat.pow_le_pow_right (by omega) h
  have h2 : 0 < 2 ^ n := Nat.pow_pos (by omega)
  rw [cast_pow2]
  omega

theorem vor (V q : Nat) (hV : V * 4 < 4 ^ 31) (hq : q < 4) : bits .or .u64 (IntKind.u64.wrap ((V : Int) * 4)) (q : Int) = ((V * 4 + q : Nat) : Int) := by
  have e : (V : Int) * 4 = ((V * 4 : Nat) : Int) := by omega
  rw [e, wrap_u64_nat _ (by omega), or_u64_nat _ _ (by omega) (by omega), Nat.or_comm, show V * 4 = V * 2 ^ 2 from rfl, or_add64 _ _ _ (by omega)]
  congr 1
  omega
theorem vbound {V m n a b : Nat} (hn : n ≤ 31) (h : a = V * 4 ^ (m + 1) + b) (ha : a < 4 ^ n) : V * 4 < 4 ^ 31 := by
  have h1 : 4 ^ n ≤ 4 ^ 31 := Nat.pow_le_pow_right (by omega) hn
  have h2 : 1 ≤ 4 ^ m := Nat.pow_pos (by omega)
  have h3 : V * 4 ≤ V * 4 * 4 ^ m := Nat.le_mul_of_pos_right _ h2
  have h4 : V * 4 ^ (m + 1) = V * 4 * 4 ^ m := by rw [Nat.pow_succ, Nat.mul_assoc, Nat.mul_comm (4 ^ m) 4]
  omega
theorem hstep {A V m x y : Nat} (h : A = V * 4 ^ (m + 1) + hil (m + 1) x y) (q x' y' : Nat) (hh : hil (m + 1) x y = q * 4 ^ m + hil m x' y') : A = (V * 4 + q) * 4 ^ m + hil m x' y' := by
  rw [h, hh, Nat.pow_succ, Nat.add_mul, Nat.mul_assoc, Nat.mul_comm (4 ^ m) 4, ← Nat.mul_assoc]
  omega

set_option maxRecDepth 100000 in
set_option maxHeartbeats 1000000 in
theorem Hilbert_ok (X Y n : Nat) (w : World) (hn1 : 1 ≤ n) (hn2 : n ≤ 31) (hX : X < 2 ^ n) (hY : Y < 2 ^ n) :
    Calls Tryd.prog 16 #[.agg #[.int .i64 (X : Int), .int .i64 (Y : Int)], .int .i64 (n : Int)] w (NumErr w (hil n X Y) .none) := by
  obtain ⟨p1, p2⟩ := two_le n hn2
  have a1 : (X : Int) < 2 ^ n := by rw [cast_pow2]; omega
  have a2 : (Y : Int) < 2 ^ n := by rw [cast_pow2]; omega
  have t1 : decide ((2 : Int) ^ n ≤ (X : Int)) = false := by simp only [decide_eq_false_iff_not]; omega
  have t2 : decide ((2 : Int) ^ n ≤ (Y : Int)) = false := by simp only [decide_eq_false_iff_not]; omega
  have t3 : decide ((X : Int) < 0) = false := by simp
  have t4 : decide ((Y : Int) < 0) = false := by simp
  have M := Lib.hid (fun w => cmay_yes (n : Int) w (by omega) (by omega))
  have HX := Lib.hid hX
  have HY := Lib.hid hY
  clear hX hY
  go_enter Tryd.func16, Tryd.ntmps16
  go_wp2_with fail
  refine (M.out _).mono ?_
  rintro e w' ⟨rfl, rfl⟩
  go_wp2_with fail
  go_quiet (fail)
  go_wp2_with fail
  go_quiet (fail)
  go_wp2_with fail
  have b0 : Below w.heap.size w (w.alloc (.cells #[.int .i64 (X : Int), .int .i64 (Y : Int)] 23)) := (Below.refl _ _).alloc (Nat.le_refl _) _
  have B0 := Lib.hid b0
  clear t1 t2 t3 t4 a1 a2 b0
  go_loopw [1, 4, 6, 7] (fun bv vv xv yv wr => ∃ m V x y : Nat, m ≤ n ∧ bv = .int .i64 ((m : Int) - 1) ∧ vv = .int .u64 (V : Int) ∧ xv = .int .i64 (x : Int) ∧ yv = .int .i64 (y : Int) ∧ Hid (hil n X Y = V * 4 ^ m + hil m x y) ∧ Hid (x < 2 ^ m ∧ y < 2 ^ m) ∧ Below w.heap.size w wr) (fun bv _ _ _ _ => (intOf bv + 1).toNat)
  case atStart => exact ⟨n, 0, X, Y, Nat.le_refl _, rfl, rfl, rfl, rfl, Lib.hid (by simp), Lib.hid ⟨HX.out, HY.out⟩, by first | exact Below.drewN' B0.out _ | exact Below.drewN' (Below.drewN' B0.out _) _⟩
  case round =>
    obtain ⟨m, V, x, y, hm, rfl, rfl, rfl, rfl, hh, hxy, hb⟩ := hrel
    cases m with
    | zero =>
      have hfin : hil n X Y = V := by rw [hh.out]; simp [hil]
      have HF := Lib.hid hfin
      clear hfin hh
      have e0 : (((0 : Nat) : Int) - 1) = -1 := rfl
      rw [e0]
      go_wp2_with fail
      go_ret2
      exact ⟨_, by rw [HF.out]; rfl, rfl, hb⟩
    | succ m =>
      have e0 : (((m + 1 : Nat) : Int) - 1) = (m : Int) := by omega
      rw [e0]
      obtain ⟨q1, q2⟩ := two_le m (by omega)
      obtain ⟨hx, hy⟩ := hxy.out
      rw [Nat.pow_succ] at hx hy
      have i1 : (x : Int) < 2 * 2 ^ m := by rw [cast_pow2]; omega
      have i2 : (y : Int) < 2 * 2 ^ m := by rw [cast_pow2]; omega
      clear hx hy e0
      have hvb := vbound hn2 hh.out (hil_lt n X Y)
      have e2 := cast_pow2 m
      by_cases hxh : x < 2 ^ m
      · have c1 : (x : Int) < 2 ^ m := by rw [cast_pow2]; omega
        have d1 := decide_eq_true c1
        by_cases hyh : y < 2 ^ m
        · have c2 : (y : Int) < 2 ^ m := by rw [cast_pow2]; omega
          have d2 := decide_eq_true c2
          have VO := Lib.hid (vor V 0 hvb (by omega))
          have HN := Lib.hid (hstep hh.out 0 y x (by rw [hil, if_pos hxh, if_pos hyh]; omega))
          have HXY := Lib.hid (⟨hyh, hxh⟩ : y < 2 ^ m ∧ x < 2 ^ m)
          clear hvb e2 hxh hyh hh hxy
          go_wp2_with fail
          go_roundw
          case rel => exact ⟨m, V * 4 + 0, y, x, by omega, rfl, by rw [← VO.out]; rfl, rfl, rfl, HN, HXY, hb⟩
          case measure => simp [intOf]; try omega
        · have c2 : ¬ (y : Int) < 2 ^ m := by rw [cast_pow2]; omega
          have d2 := decide_eq_false c2
          have VO := Lib.hid (vor V 1 hvb (by omega))
          have HN := Lib.hid (hstep hh.out 1 x (y - 2 ^ m) (by rw [hil, if_pos hxh, if_neg hyh]; omega))
          have HXY := Lib.hid (⟨hxh, by have := hxy.out.2; rw [Nat.pow_succ] at this; omega⟩ : x < 2 ^ m ∧ y - 2 ^ m < 2 ^ m)
          have EY := Lib.hid (show (y : Int) - 2 ^ m = ((y - 2 ^ m : Nat) : Int) by rw [e2]; omega)
          clear hvb e2 hxh hyh hh hxy
          go_wp2_with fail
          go_roundw
          case rel => exact ⟨m, V * 4 + 1, x, y - 2 ^ m, by omega, rfl, by rw [← VO.out]; rfl, rfl, by rw [← EY.out], HN, HXY, hb⟩
          case measure => simp [intOf]; try omega
      · have c1 : ¬ (x : Int) < 2 ^ m := by rw [cast_pow2]; omega
        have d1 := decide_eq_false c1
        by_cases hyh : 2 ^ m ≤ y
        · have c2 : (2 : Int) ^ m ≤ y := by rw [cast_pow2]; omega
          have d2 := decide_eq_true c2
          have VO := Lib.hid (vor V 2 hvb (by omega))
          have HN := Lib.hid (hstep hh.out 2 (x - 2 ^ m) (y - 2 ^ m) (by rw [hil, if_neg hxh, if_pos hyh]))
          have HXY := Lib.hid (⟨by have := hxy.out.1; rw [Nat.pow_succ] at this; omega, by have := hxy.out.2; rw [Nat.pow_succ] at this; omega⟩ : x - 2 ^ m < 2 ^ m ∧ y - 2 ^ m < 2 ^ m)
          have EX := Lib.hid (show (x : Int) - 2 ^ m = ((x - 2 ^ m : Nat) : Int) by rw [e2]; omega)
          have EY := Lib.hid (show (y : Int) - 2 ^ m = ((y - 2 ^ m : Nat) : Int) by rw [e2]; omega)
          clear hvb e2 hxh hyh hh hxy
          go_wp2_with fail
          go_roundw
          case rel => exact ⟨m, V * 4 + 2, x - 2 ^ m, y - 2 ^ m, by omega, rfl, by rw [← VO.out]; rfl, by rw [← EX.out], by rw [← EY.out], HN, HXY, hb⟩
          case measure => simp [intOf]; try omega
        · have c2 : ¬ (2 : Int) ^ m ≤ y := by rw [cast_pow2]; omega
          have d2 := decide_eq_false c2
          have VO := Lib.hid (vor V 3 hvb (by omega))
          have HN := Lib.hid (hstep hh.out 3 (2 ^ m - 1 - y) (2 * 2 ^ m - 1 - x) (by rw [hil, if_neg hxh, if_neg hyh]))
          have HXY := Lib.hid (⟨by omega, by have := hxy.out.1; rw [Nat.pow_succ] at this; omega⟩ : 2 ^ m - 1 - y < 2 ^ m ∧ 2 * 2 ^ m - 1 - x < 2 ^ m)
          have EX := Lib.hid (show (2 : Int) ^ m - 1 - y = ((2 ^ m - 1 - y : Nat) : Int) by rw [e2]; omega)
          have EY := Lib.hid (show 2 * (2 : Int) ^ m - 1 - x = ((2 * 2 ^ m - 1 - x : Nat) : Int) by have := hxy.out.1; rw [Nat.pow_succ] at this; rw [e2]; omega)
          clear hvb e2 hxh hyh hh hxy
          go_wp2_with fail
          go_roundw
          case rel => exact ⟨m, V * 4 + 3, 2 ^ m - 1 - y, 2 * 2 ^ m - 1 - x, by omega, rfl, by rw [← VO.out]; rfl, by rw [← EX.out], by rw [← EY.out], HN, HXY, hb⟩
          case measure => simp [intOf]; try omega
end Go.Proofs.YtmpodnmgeakefaaDoor
