/- The document's own Hilbert, Unhilbert and Centre. -/
import Derived.Test.YtmpodnmgeakefaaDoorCurveRef
namespace Go.Proofs.YtmpodnmgeakefaaDoor
open Go.RowKit

theorem HilbertR_bits (x y n : Int) (w : World) (h : ¬ (1 ≤ n ∧ n ≤ 31)) :
    Calls Tryd.prog 20 #[.agg #[.int .i64 x, .int .i64 y], .int .i64 n] w (NumCode w 0 1) := by
  have b0 : Below w.heap.size w (w.alloc (.cells #[.int .i64 x, .int .i64 y] 23)) := (Below.refl _ _).alloc (Nat.le_refl _) _
  by_cases h1 : n < 1
  · have t1 := decide_eq_true h1
    clear h
    go_enter Tryd.func20, Tryd.ntmps20
    go_wp2_with fail
    go_ret2
    exact ⟨rfl, b0⟩
  · have t1 := decide_eq_false h1
    have t2 : decide (31 < n) = true := by simp; omega
    clear h
    go_enter Tryd.func20, Tryd.ntmps20
    go_wp2_with fail
    go_ret2
    exact ⟨rfl, b0⟩

/-- in the square of n bits -/
def inQ (x y : Int) (n : Nat) : Prop := (0 ≤ x ∧ 0 ≤ y) ∧ x < 2 ^ n ∧ y < 2 ^ n
instance (x y : Int) (n : Nat) : Decidable (inQ x y n) := inferInstanceAs (Decidable ((0 ≤ x ∧ 0 ≤ y) ∧ x < 2 ^ n ∧ y < 2 ^ n))

set_option maxHeartbeats 1000000 in
theorem HilbertR_range (x y : Int) (n : Nat) (w : World) (hn1 : 1 ≤ n) (hn2 : n ≤ 31) (h : ¬ inQ x y n) :
    Calls Tryd.prog 20 #[.agg #[.int .i64 x, .int .i64 y], .int .i64 (n : Int)] w (NumCode w 0 2) := by
  have b0 : Below w.heap.size w (w.alloc (.cells #[.int .i64 x, .int .i64 y] 23)) := (Below.refl _ _).alloc (Nat.le_refl _) _
  obtain ⟨p1, p2⟩ := two_le n hn2
  have hn3 : (n : Int) ≤ 31 := by omega
  have hn4 : (1 : Int) ≤ (n : Int) := by omega
  have eW1 : IntKind.i64.wrap ((2 : Int) ^ n) = 2 ^ n := IntWalk.i64_in _ (by omega)
  by_cases h1 : x < 0
  · have t1 := decide_eq_true h1
    clear h
    go_enter Tryd.func20, Tryd.ntmps20
    go_wp2_with fail
    go_quiet (fail)
    go_wp2_with fail
    go_ret2
    exact ⟨rfl, Below.drewN' b0 _⟩
  · have t1 := decide_eq_false h1
    by_cases h2 : y < 0
    · have t2 := decide_eq_true h2
      clear h
      go_enter Tryd.func20, Tryd.ntmps20
      go_wp2_with fail
      go_quiet (fail)
      go_wp2_with fail
      go_ret2
      exact ⟨rfl, Below.drewN' b0 _⟩
    · have t2 := decide_eq_false h2
      by_cases h3 : (2 : Int) ^ n ≤ x
      · have t3 := decide_eq_true h3
        clear h
        go_enter Tryd.func20, Tryd.ntmps20
        go_wp2_with fail
        go_quiet (fail)
        go_wp2_with fail
        go_ret2
        exact ⟨rfl, Below.drewN' b0 _⟩
      · have t3 := decide_eq_false h3
        have h4 : (2 : Int) ^ n ≤ y := by
          have : ¬ y < 2 ^ n := fun h4 => h ⟨⟨by omega, by omega⟩, by omega, h4⟩
          omega
        have t4 := decide_eq_true h4
        clear h
        go_enter Tryd.func20, Tryd.ntmps20
        go_wp2_with fail
        go_quiet (fail)
        go_wp2_with fail
        go_ret2
        exact ⟨rfl, Below.drewN' b0 _⟩

theorem CentreR_no (a b c d : Int) (w : World) (h : boxCode a b c d ≠ 0) : Calls Tryd.prog 22 #[.agg #[.int .i64 a, .int .i64 b, .int .i64 c, .int .i64 d]] w (PtCode w 0 0 (boxCode a b c d)) := by
  have C := Lib.hid (fun w => CheckBoxR_any a b c d w)
  generalize boxCode a b c d = k at *
  have hk : (k != 0) = true := by simpa using h
  have P0 := Lib.hid ((pair_alloc (w.alloc (.cells #[.int .i64 a, .int .i64 b, .int .i64 c, .int .i64 d] 34)) 0 0 23))
  go_enter Tryd.func22, Tryd.ntmps22
  go_wp2_with fail
  refine (C.out _).mono ?_
  rintro e w1 ⟨rfl, b1⟩
  have b01 : Below w.heap.size w w1 := (((Below.refl _ _).alloc (Nat.le_refl _) _).alloc (by simp) _).trans (b1.mono (by simp; omega))
  obtain ⟨p0, p1⟩ := P0.out.below b1
  rw [show (w.alloc (.cells #[.int .i64 a, .int .i64 b, .int .i64 c, .int .i64 d] 34)).heap.size = w.heap.size + 1 by simp] at p0 p1
  have f0 : w1.frozen? ⟨w.heap.size + 1, 0, none⟩ = false := (b1.frozen (p := ⟨w.heap.size + 1, 0, none⟩) (by simp)).trans (by simp)
  have f1 : w1.frozen? ⟨w.heap.size + 1, 1, none⟩ = false := (b1.frozen (p := ⟨w.heap.size + 1, 1, none⟩) (by simp)).trans (by simp)
  obtain ⟨r0, r1⟩ := pt_cells w1 (w.heap.size + 1) (.int .i64 0) (.int .i64 0) p0 p1
  have b03 := (b01.setCell (p := ⟨w.heap.size + 1, 0, none⟩) (Nat.le_succ _) (.int .i64 0)).setCell (p := ⟨w.heap.size + 1, 1, none⟩) (Nat.le_succ _) (.int .i64 0)
  go_wp2_with fail
  exact bodyPost_ret (v := .tuple #[.agg #[.int .i64 0, .int .i64 0], .int .i64 k]) (by simp [results, Tryd.results22, go_sem, r0, r1]) rfl ⟨rfl, b03⟩

theorem CentreR_ok (a b c d : Int) (w : World) (h : boxCode a b c d = 0) : Calls Tryd.prog 22 #[.agg #[.int .i64 a, .int .i64 b, .int .i64 c, .int .i64 d]] w (PtCode w ((a + c) / 2) ((b + d) / 2) 0) := by
  have C := Lib.hid (fun w => CheckBoxR_any a b c d w)
  rw [h] at C
  obtain ⟨⟨⟨h1, h2⟩, h3, h4⟩, ⟨⟨h5, h6⟩, h7, h8⟩, _, _⟩ := boxCode_zero h
  clear h
  have P0 := Lib.hid ((pair_alloc (w.alloc (.cells #[.int .i64 a, .int .i64 b, .int .i64 c, .int .i64 d] 34)) 0 0 23))
  have Q0 := Lib.hid ((quad_alloc w a b c d 34).below ((Below.refl _ _).alloc (Nat.le_refl _) (.cells #[.int .i64 0, .int .i64 0] 23)))
  go_enter Tryd.func22, Tryd.ntmps22
  go_wp2_with fail
  refine (C.out _).mono ?_
  rintro e w1 ⟨rfl, b1⟩
  have b01 : Below w.heap.size w w1 := (((Below.refl _ _).alloc (Nat.le_refl _) _).alloc (by simp) _).trans (b1.mono (by simp; omega))
  obtain ⟨p0, p1⟩ := P0.out.below b1
  obtain ⟨q0, q1, q2, q3⟩ := Q0.out.below b1
  rw [show (w.alloc (.cells #[.int .i64 a, .int .i64 b, .int .i64 c, .int .i64 d] 34)).heap.size = w.heap.size + 1 by simp] at p0 p1
  have f0 : w1.frozen? ⟨w.heap.size + 1, 0, none⟩ = false := (b1.frozen (p := ⟨w.heap.size + 1, 0, none⟩) (by simp)).trans (by simp)
  have f1 : w1.frozen? ⟨w.heap.size + 1, 1, none⟩ = false := (b1.frozen (p := ⟨w.heap.size + 1, 1, none⟩) (by simp)).trans (by simp)
  obtain ⟨r0, r1⟩ := pt_cells w1 (w.heap.size + 1) (.int .i64 ((a + c) / 2)) (.int .i64 ((b + d) / 2)) p0 p1
  have b03 := (b01.setCell (p := ⟨w.heap.size + 1, 0, none⟩) (Nat.le_succ _) (.int .i64 ((a + c) / 2))).setCell (p := ⟨w.heap.size + 1, 1, none⟩) (Nat.le_succ _) (.int .i64 ((b + d) / 2))
  go_wp2_with fail
  exact bodyPost_ret (v := .tuple #[.agg #[.int .i64 ((a + c) / 2), .int .i64 ((b + d) / 2)], .int .i64 0]) (by simp [results, Tryd.results22, go_sem, r0, r1]) rfl ⟨rfl, b03⟩

set_option maxRecDepth 100000 in
set_option maxHeartbeats 2000000 in
theorem HilbertR_ok (X Y n : Nat) (w : World) (hn1 : 1 ≤ n) (hn2 : n ≤ 31) (hX : X < 2 ^ n) (hY : Y < 2 ^ n) :
    Calls Tryd.prog 20 #[.agg #[.int .i64 (X : Int), .int .i64 (Y : Int)], .int .i64 (n : Int)] w (NumCode w (hil n X Y) 0) := by
  obtain ⟨p1, p2⟩ := two_le n hn2
  have a1 : (X : Int) < 2 ^ n := by rw [cast_pow2]; omega
  have a2 : (Y : Int) < 2 ^ n := by rw [cast_pow2]; omega
  have t1 : decide ((2 : Int) ^ n ≤ (X : Int)) = false := by simp only [decide_eq_false_iff_not]; omega
  have t2 : decide ((2 : Int) ^ n ≤ (Y : Int)) = false := by simp only [decide_eq_false_iff_not]; omega
  have t3 : decide ((X : Int) < 0) = false := by simp
  have t4 : decide ((Y : Int) < 0) = false := by simp
  have eW1 : IntKind.i64.wrap ((2 : Int) ^ n) = 2 ^ n := IntWalk.i64_in _ (by omega)
  have HX := Lib.hid hX
  have HY := Lib.hid hY
  have hn3 : (n : Int) ≤ 31 := by omega
  have hn4 : (1 : Int) ≤ (n : Int) := by omega
  clear hX hY
  go_enter Tryd.func20, Tryd.ntmps20
  go_wp2_with fail
  go_quiet (fail)
  go_wp2_with fail
  go_quiet (fail)
  go_wp2_with fail
  have b0 : Below w.heap.size w (w.alloc (.cells #[.int .i64 (X : Int), .int .i64 (Y : Int)] 23)) := (Below.refl _ _).alloc (Nat.le_refl _) _
  have B0 := Lib.hid b0
  clear t1 t2 t3 t4 a1 a2 b0
  go_loopw [9, 6, 7, 8] (fun bv vv xv yv wr => ∃ m V x y : Nat, m ≤ n ∧ bv = .int .i64 (m : Int) ∧ vv = .int .u64 (V : Int) ∧ xv = .int .i64 (x : Int) ∧ yv = .int .i64 (y : Int) ∧ Hid (hil n X Y = V * 4 ^ m + hil m x y) ∧ Hid (x < 2 ^ m ∧ y < 2 ^ m) ∧ Below w.heap.size w wr) (fun bv _ _ _ _ => (intOf bv).toNat)
  case atStart => exact ⟨n, 0, X, Y, Nat.le_refl _, rfl, rfl, rfl, rfl, Lib.hid (by simp), Lib.hid ⟨HX.out, HY.out⟩, by first | exact Below.drewN' B0.out _ | exact Below.drewN' (Below.drewN' B0.out _) _⟩
  case round =>
    obtain ⟨m, V, x, y, hm, rfl, rfl, rfl, rfl, hh, hxy, hb⟩ := hrel
    cases m with
    | zero =>
      have hfin : hil n X Y = V := by rw [hh.out]; simp [hil]
      have HF := Lib.hid hfin
      clear hfin hh
      go_wp2_with fail
      go_ret2
      exact ⟨by rw [HF.out]; rfl, hb⟩
    | succ m =>
      have e0 : ((m + 1 : Nat) : Int) = (m : Int) + 1 := by omega
      rw [e0]
      obtain ⟨q1, q2⟩ := two_le m (by omega)
      obtain ⟨hx, hy⟩ := hxy.out
      rw [Nat.pow_succ] at hx hy
      have i1 : (x : Int) < 2 * 2 ^ m := by rw [cast_pow2]; omega
      have i2 : (y : Int) < 2 * 2 ^ m := by rw [cast_pow2]; omega
      clear hx hy e0
      have z0 : ¬ ((2 : Int) ^ m = 0) := by omega
      have z1 : ((2 : Int) ^ m == 0) = false := by simp only [beq_eq_false_iff_ne]; exact z0
      have hvb := vbound hn2 hh.out (hil_lt n X Y)
      have e2 := cast_pow2 m
      have hp := two_pos m
      have hx2 := hxy.out.1
      have hy2 := hxy.out.2
      rw [Nat.pow_succ] at hx2 hy2
      by_cases hxh : x < 2 ^ m
      · have c1 : (x : Int) < 2 ^ m := by rw [cast_pow2]; omega
        have d1 := decide_eq_true c1
        have EX := Lib.hid (show (x : Int) % 2 ^ m = ((x : Nat) : Int) from Int.emod_eq_of_lt (by omega) c1)
        by_cases hyh : y < 2 ^ m
        · have c2 : (y : Int) < 2 ^ m := by rw [cast_pow2]; omega
          have d2 := decide_eq_true c2
          have VO := Lib.hid (vor V 0 hvb (by omega))
          have HN := Lib.hid (hstep hh.out 0 y x (by rw [hil, if_pos hxh, if_pos hyh]; omega))
          have HXY := Lib.hid (⟨hyh, hxh⟩ : y < 2 ^ m ∧ x < 2 ^ m)
          have EY := Lib.hid (show (y : Int) % 2 ^ m = ((y : Nat) : Int) from Int.emod_eq_of_lt (by omega) c2)
          clear hvb e2 hxh hyh hh hxy hp hx2 hy2
          go_wp2_with fail
          go_quiet (fail)
          go_wp2_with fail
          go_roundw
          case rel => exact ⟨m, V * 4 + 0, y, x, by omega, by go_num, by rw [← VO.out]; rfl, by rw [EY.out], by rw [EX.out], HN, HXY, Below.drewN' hb _⟩
          case measure => simp [intOf]; try omega
        · have c2 : ¬ (y : Int) < 2 ^ m := by rw [cast_pow2]; omega
          have d2 := decide_eq_false c2
          have d3 : decide ((2 : Int) ^ m ≤ (y : Int)) = true := by simp only [decide_eq_true_eq]; omega
          have VO := Lib.hid (vor V 1 hvb (by omega))
          have HN := Lib.hid (hstep hh.out 1 x (y - 2 ^ m) (by rw [hil, if_pos hxh, if_neg hyh]; omega))
          have HXY := Lib.hid (⟨hxh, by omega⟩ : x < 2 ^ m ∧ y - 2 ^ m < 2 ^ m)
          have EY := Lib.hid (show (y : Int) % 2 ^ m = ((y - 2 ^ m : Nat) : Int) by rw [show (y : Int) = ((y - 2 ^ m : Nat) : Int) + 2 ^ m by rw [e2]; omega, Int.add_emod_right]; exact Int.emod_eq_of_lt (by omega) (by rw [e2]; omega))
          clear hvb e2 hxh hyh hh hxy hp hx2 hy2
          go_wp2_with fail
          go_quiet (fail)
          go_wp2_with fail
          go_roundw
          case rel => exact ⟨m, V * 4 + 1, x, y - 2 ^ m, by omega, by go_num, by rw [← VO.out]; rfl, by rw [EX.out], by rw [EY.out], HN, HXY, Below.drewN' hb _⟩
          case measure => simp [intOf]; try omega
      · have c1 : ¬ (x : Int) < 2 ^ m := by rw [cast_pow2]; omega
        have d1 := decide_eq_false c1
        have EX := Lib.hid (show (x : Int) % 2 ^ m = ((x - 2 ^ m : Nat) : Int) by rw [show (x : Int) = ((x - 2 ^ m : Nat) : Int) + 2 ^ m by rw [e2]; omega, Int.add_emod_right]; exact Int.emod_eq_of_lt (by omega) (by rw [e2]; omega))
        by_cases hyh : 2 ^ m ≤ y
        · have c2 : (2 : Int) ^ m ≤ y := by rw [cast_pow2]; omega
          have d2 := decide_eq_true c2
          have VO := Lib.hid (vor V 2 hvb (by omega))
          have HN := Lib.hid (hstep hh.out 2 (x - 2 ^ m) (y - 2 ^ m) (by rw [hil, if_neg hxh, if_pos hyh]))
          have HXY := Lib.hid (⟨by omega, by omega⟩ : x - 2 ^ m < 2 ^ m ∧ y - 2 ^ m < 2 ^ m)
          have EY := Lib.hid (show (y : Int) % 2 ^ m = ((y - 2 ^ m : Nat) : Int) by rw [show (y : Int) = ((y - 2 ^ m : Nat) : Int) + 2 ^ m by rw [e2]; omega, Int.add_emod_right]; exact Int.emod_eq_of_lt (by omega) (by rw [e2]; omega))
          clear hvb e2 hxh hyh hh hxy hp hx2 hy2
          go_wp2_with fail
          go_quiet (fail)
          go_wp2_with fail
          go_roundw
          case rel => exact ⟨m, V * 4 + 2, x - 2 ^ m, y - 2 ^ m, by omega, by go_num, by rw [← VO.out]; rfl, by rw [EX.out], by rw [EY.out], HN, HXY, Below.drewN' hb _⟩
          case measure => simp [intOf]; try omega
        · have c2 : ¬ (2 : Int) ^ m ≤ y := by rw [cast_pow2]; omega
          have d2 := decide_eq_false c2
          have c3 : (y : Int) < 2 ^ m := by omega
          have VO := Lib.hid (vor V 3 hvb (by omega))
          have HN := Lib.hid (hstep hh.out 3 (2 ^ m - 1 - y) (2 * 2 ^ m - 1 - x) (by rw [hil, if_neg hxh, if_neg hyh]))
          have HXY := Lib.hid (⟨by omega, by omega⟩ : 2 ^ m - 1 - y < 2 ^ m ∧ 2 * 2 ^ m - 1 - x < 2 ^ m)
          have EY' : (y : Int) % 2 ^ m = ((y : Nat) : Int) := Int.emod_eq_of_lt (by omega) c3
          have EY := Lib.hid (show (2 : Int) ^ m - 1 - (y : Int) % 2 ^ m = ((2 ^ m - 1 - y : Nat) : Int) by rw [EY', e2]; omega)
          have EX2 := Lib.hid (show (2 : Int) ^ m - 1 - (x : Int) % 2 ^ m = ((2 * 2 ^ m - 1 - x : Nat) : Int) by rw [EX.out, e2]; omega)
          clear hvb e2 hxh hyh hh hxy hp hx2 hy2 EY'
          go_wp2_with fail
          go_quiet (fail)
          go_wp2_with fail
          go_roundw
          case rel => exact ⟨m, V * 4 + 3, 2 ^ m - 1 - y, 2 * 2 ^ m - 1 - x, by omega, by go_num, by rw [← VO.out]; rfl, by rw [EY.out], by rw [EX2.out], HN, HXY, Below.drewN' hb _⟩
          case measure => simp [intOf]; try omega

theorem UnhilbertR_bits (v : Nat) (n : Int) (w : World) (h : ¬ (1 ≤ n ∧ n ≤ 31)) :
    Calls Tryd.prog 21 #[.int .u64 (v : Int), .int .i64 n] w (PtCode w 0 0 1) := by
  have b0 : Below w.heap.size w (w.alloc (.cells #[.int .i64 0, .int .i64 0] 23)) := (Below.refl _ _).alloc (Nat.le_refl _) _
  by_cases h1 : n < 1
  · have t1 := decide_eq_true h1
    clear h
    go_enter Tryd.func21, Tryd.ntmps21
    go_wp2_with fail
    exact bodyPost_ret (v := .tuple #[.agg #[.int .i64 0, .int .i64 0], .int .i64 1]) (by simp [results, Tryd.results21, go_sem]) rfl ⟨rfl, b0⟩
  · have t1 := decide_eq_false h1
    have t2 : decide (31 < n) = true := by simp; omega
    clear h
    go_enter Tryd.func21, Tryd.ntmps21
    go_wp2_with fail
    exact bodyPost_ret (v := .tuple #[.agg #[.int .i64 0, .int .i64 0], .int .i64 1]) (by simp [results, Tryd.results21, go_sem]) rfl ⟨rfl, b0⟩

theorem UnhilbertR_range (v n : Nat) (w : World) (hn1 : 1 ≤ n) (hn2 : n ≤ 31) (hv : v < 18446744073709551616) (h : 4 ^ n ≤ v) :
    Calls Tryd.prog 21 #[.int .u64 (v : Int), .int .i64 (n : Int)] w (PtCode w 0 0 2) := by
  have b0 : Below w.heap.size w (w.alloc (.cells #[.int .i64 0, .int .i64 0] 23)) := (Below.refl _ _).alloc (Nat.le_refl _) _
  have hn3 : (n : Int) ≤ 31 := by omega
  have hn4 : (1 : Int) ≤ (n : Int) := by omega
  have hv1 : (v : Int) ≤ 18446744073709551615 := by omega
  have e0 : 0 < v / 4 ^ n := Nat.div_pos h (four_pos n)
  have e1 : decide ((0 : Int) < (v : Int) / 2 ^ (2 * n)) = true := by rw [cast_div2, ← four_pow, decide_eq_true_eq]; omega
  clear h e0 hv
  go_enter Tryd.func21, Tryd.ntmps21
  go_wp2_with fail
  exact bodyPost_ret (v := .tuple #[.agg #[.int .i64 0, .int .i64 0], .int .i64 2]) (by simp [results, Tryd.results21, go_sem]) rfl ⟨rfl, b0⟩

set_option maxRecDepth 100000 in
set_option maxHeartbeats 1000000 in
theorem UnhilbertR_ok (v n : Nat) (w : World) (hn1 : 1 ≤ n) (hn2 : n ≤ 31) (hv : v < 4 ^ n) :
    Calls Tryd.prog 21 #[.int .u64 (v : Int), .int .i64 (n : Int)] w (PtCode w ((unh n v).1 : Nat) ((unh n v).2 : Nat) 0) := by
  have h4 : (4 : Nat) ^ n ≤ 4 ^ 31 := Nat.pow_le_pow_right (by omega) hn2
  have hv64 : v < 18446744073709551616 := by omega
  have e0 : (v : Int) / 2 ^ (2 * n) = 0 := by rw [cast_div2, ← four_pow, Nat.div_eq_of_lt hv]; rfl
  have hv1 : (v : Int) ≤ 18446744073709551615 := by omega
  have hn3 : (n : Int) ≤ 31 := by omega
  have hn4 : (1 : Int) ≤ (n : Int) := by omega
  clear h4 hv
  have HV := Lib.hid hv64
  clear hv64
  go_enter Tryd.func21, Tryd.ntmps21
  go_wp2_with fail
  clear e0
  go_loop [6, 7, 8] (fun xv yv i => ∃ k : Nat, k ≤ n ∧ i = .int .i64 ((k : Int) + 1) ∧ xv = .int .i64 ((unh k v).1 : Nat) ∧ yv = .int .i64 ((unh k v).2 : Nat)) (fun _ _ i => n + 1 - (intOf i).toNat)
  case atStart => exact ⟨0, Nat.zero_le _, rfl, rfl, rfl⟩
  case round =>
    obtain ⟨k, hk, rfl, rfl, rfl⟩ := hrel
    by_cases hlt : k < n
    · obtain ⟨p1, p2⟩ := two_le k (by omega)
      obtain ⟨u1, u2⟩ := unh_lt k v
      have hu := Lib.hid (show unh (k + 1) v = turnQ (2 ^ k) (v / 4 ^ k % 4) (unh k v) from rfl)
      have i1 : ((unh k v).1 : Int) < 2 ^ k := by rw [cast_pow2]; omega
      have i2 : ((unh k v).2 : Int) < 2 ^ k := by rw [cast_pow2]; omega
      have hq := quarter_of v k HV.out
      have hq4 : v / 4 ^ k % 4 < 4 := Nat.mod_lt _ (by omega)
      have E2 := Lib.hid (cast_pow2 k)
      have U1 := Lib.hid u1
      have U2 := Lib.hid u2
      generalize unh k v = P at *
      obtain ⟨px, py⟩ := P
      generalize v / 4 ^ k % 4 = q at *
      clear u1 u2
      have : q = 0 ∨ q = 1 ∨ q = 2 ∨ q = 3 := by omega
      rcases this with rfl | rfl | rfl | rfl
      · have T := Lib.hid (show unh (k + 1) v = (py, px) by rw [hu.out]; simp [turnQ])
        clear hq4
        go_wp2_with fail
        go_round
        case rel => exact ⟨k + 1, by omega, by go_num, by rw [T.out], by rw [T.out]⟩
        case measure => simp [intOf]; try omega
      · have T := Lib.hid (show unh (k + 1) v = (px, py + 2 ^ k) by rw [hu.out]; simp [turnQ])
        have EY := Lib.hid (show (py : Int) + 2 ^ k = ((py + 2 ^ k : Nat) : Int) by rw [E2.out]; omega)
        clear hq4
        go_wp2_with fail
        go_round
        case rel => exact ⟨k + 1, by omega, by go_num, by rw [T.out], by rw [T.out, ← EY.out]⟩
        case measure => simp [intOf]; try omega
      · have T := Lib.hid (show unh (k + 1) v = (px + 2 ^ k, py + 2 ^ k) by rw [hu.out]; simp [turnQ])
        have EX := Lib.hid (show (px : Int) + 2 ^ k = ((px + 2 ^ k : Nat) : Int) by rw [E2.out]; omega)
        have EY := Lib.hid (show (py : Int) + 2 ^ k = ((py + 2 ^ k : Nat) : Int) by rw [E2.out]; omega)
        clear hq4
        go_wp2_with fail
        go_round
        case rel => exact ⟨k + 1, by omega, by go_num, by rw [T.out, ← EX.out], by rw [T.out, ← EY.out]⟩
        case measure => simp [intOf]; try omega
      · have T := Lib.hid (show unh (k + 1) v = (2 * 2 ^ k - 1 - py, 2 ^ k - 1 - px) by rw [hu.out]; simp [turnQ])
        have EX := Lib.hid (show (2 : Int) ^ k - 1 - py + 2 ^ k = ((2 * 2 ^ k - 1 - py : Nat) : Int) by have := U2.out; rw [E2.out]; simp at this; omega)
        have EY := Lib.hid (show (2 : Int) ^ k - 1 - px = ((2 ^ k - 1 - px : Nat) : Int) by have := U1.out; rw [E2.out]; simp at this; omega)
        clear hq4
        go_wp2_with fail
        go_round
        case rel => exact ⟨k + 1, by omega, by go_num, by rw [T.out, ← EX.out], by rw [T.out, ← EY.out]⟩
        case measure => simp [intOf]; try omega
    · obtain rfl : k = n := by omega
      generalize (unh k v).1 = px at *
      generalize (unh k v).2 = py at *
      have b0 : Below w.heap.size w (w.alloc (.cells #[.int .i64 (px : Int), .int .i64 (py : Int)] 23)) := (Below.refl _ _).alloc (Nat.le_refl _) _
      go_wp2_with fail
      exact bodyPost_ret (v := .tuple #[.agg #[.int .i64 (px : Int), .int .i64 (py : Int)], .int .i64 0]) (by simp [results, Tryd.results21, go_sem]) rfl ⟨rfl, b0⟩
end Go.Proofs.YtmpodnmgeakefaaDoor
