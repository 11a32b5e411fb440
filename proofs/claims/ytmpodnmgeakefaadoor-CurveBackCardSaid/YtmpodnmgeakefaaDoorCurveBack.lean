/- CurveBack answers true, whatever it is given. -/
import Derived.Test.YtmpodnmgeakefaaDoorCurveUnz
import Derived.Test.YtmpodnmgeakefaaDoorCurveNb
import Derived.Test.YtmpodnmgeakefaaDoorCurveGrows
namespace Go.Proofs.YtmpodnmgeakefaaDoor
open Go.RowKit Go.ChangeShapes Go.WideShapes

/-- there and back: the point at the place of a point is the point -/
theorem uX_zOf {x y : Int} (h : inP x y) : uX (zOf x y) = x ∧ uY (zOf x y) = y := by
  obtain ⟨X, rfl, _, hX⟩ := inC_nat h.1
  obtain ⟨Y, rfl, _, hY⟩ := inC_nat h.2
  have hl := ilv_lt 31 X Y
  unfold zOf
  rw [show ((X : Int) - 1073741824 + 1073741824).toNat = X by omega, show ((Y : Int) - 1073741824 + 1073741824).toNat = Y by omega]
  unfold uX uY
  rw [evb_top 31, evb_top 31, evb_ilv 31 X Y hX, evb_ilv2 31 X Y hY, Nat.div_eq_of_lt hl, Nat.div_eq_of_lt (show ilv 31 X Y / 2 < 4 ^ 31 by omega)]
  simp
theorem zOf_lt (x y : Int) : zOf x y < 18446744073709551616 := by
  have := ilv_lt 31 (x + 1073741824).toNat (y + 1073741824).toNat
  unfold zOf; omega

set_option maxRecDepth 100000 in
theorem back_out (x y : Int) (v : Nat) (n : Int) (w : World) (hg : ErrT w) (h : ¬ (1 ≤ n ∧ n ≤ 31)) :
    Calls Tryd.prog 7 #[.agg #[.int .i64 x, .int .i64 y], .int .u64 (v : Int), .int .i64 n] w fun e w' => e = .returned (.bool true) ∧ Below w.heap.size w w' := by
  have b0 : Below w.heap.size w (w.alloc (.cells #[.int .i64 x, .int .i64 y] 23)) := (Below.refl _ _).alloc (Nat.le_refl _) _
  have g0 := hg.below b0 hg.lt
  by_cases h1 : n < 1
  · have t1 := decide_eq_true h1
    clear h
    go_enter Tryd.func7, Tryd.ntmps7
    go_wp2_with fail
    refine (awake19_any _ g0).mono ?_
    rintro e w1 ⟨rfl, b1⟩
    go_wp2_with fail
    go_ret
    exact ⟨rfl, b0.trans (b1.mono b0.size)⟩
  · have t1 := decide_eq_false h1
    have t2 : decide (31 < n) = true := by simp; omega
    clear h
    go_enter Tryd.func7, Tryd.ntmps7
    go_wp2_with fail
    refine (awake19_any _ g0).mono ?_
    rintro e w1 ⟨rfl, b1⟩
    go_wp2_with fail
    go_ret
    exact ⟨rfl, b0.trans (b1.mono b0.size)⟩

set_option maxRecDepth 100000 in
set_option maxHeartbeats 2000000 in
theorem back_no (x y : Int) (v n : Nat) (w : World) (hg : ErrT w) (hv : v < 18446744073709551616) (hn1 : 1 ≤ n) (hn2 : n ≤ 31) (hp : ¬ inP x y) :
    Calls Tryd.prog 7 #[.agg #[.int .i64 x, .int .i64 y], .int .u64 (v : Int), .int .i64 (n : Int)] w fun e w' => e = .returned (.bool true) ∧ Below w.heap.size w w' := by
  have b0 : Below w.heap.size w (w.alloc (.cells #[.int .i64 x, .int .i64 y] 23)) := (Below.refl _ _).alloc (Nat.le_refl _) _
  have X0 := Lib.hid (pair_alloc w x y 23)
  have ZN := Lib.hid (fun w => Z_no x y w hp)
  have PN := Lib.hid (fun w => Point_any x y w)
  rw [decide_eq_false hp] at PN
  obtain ⟨p1, p2⟩ := four_le n hn2
  obtain ⟨r1, r2⟩ := two_le n hn2
  have hA := mask_u64 v n hv hn2
  have h4 := four_pos n
  have hlt := Nat.mod_lt v h4
  generalize v % 4 ^ n = V at *
  have U := Lib.hid (fun w => Unhilbert_ok V n w hn1 hn2 hlt)
  have hu := hil_unh n V hlt
  obtain ⟨a1, a2⟩ := unh_lt n V
  generalize unh n V = P at *
  obtain ⟨px, py⟩ := P
  have HI := Lib.hid (fun w => Hilbert_ok px py n w hn1 hn2 a1 a2)
  rw [show hil n px py = V from hu] at HI
  have l1 : (px : Int) < 2 ^ n := by rw [cast_pow2]; simp at a1; omega
  have l2 : (py : Int) < 2 ^ n := by rw [cast_pow2]; simp at a2; omega
  have d1 := decide_eq_true l1
  have d2 := decide_eq_true l2
  have eW1 : IntKind.i64.wrap ((2 : Int) ^ n) = 2 ^ n := IntWalk.i64_in _ (by omega)
  have h41 : 4 ^ n ≤ 4 ^ 31 := Nat.pow_le_pow_right (by omega) hn2
  have hVi : (V : Int) ≤ 4611686018427387903 := by omega
  have hn3 : (n : Int) ≤ 31 := by omega
  have hn4 : (1 : Int) ≤ (n : Int) := by omega
  have hv1 : (v : Int) ≤ 18446744073709551615 := by omega
  clear h4 hlt hu a1 a2 h41 hv hp
  go_enter Tryd.func7, Tryd.ntmps7
  go_wp2_with fail
  refine (ZN.out _).mono ?_
  rintro e w1 ⟨u, rfl, hu, b1⟩
  obtain ⟨bb, iu, rfl, _⟩ := hu
  have X1 := Lib.hid (X0.out.below b1)
  have B1 := b0.trans (b1.mono b0.size)
  have KX := Lib.hid (show ∀ w', Below w1.heap.size w1 w' → w'.cell? ⟨w.heap.size, 0, none⟩ = some (.int .i64 x) ∧ w'.cell? ⟨w.heap.size, 1, none⟩ = some (.int .i64 y) from fun w' h => ⟨(X1.out.below h).c0, (X1.out.below h).c1⟩)
  go_wp2_with fail
  go_region_held3 (fun w' => w'.cell? ⟨w.heap.size, 0, none⟩ = some (.int .i64 x) ∧ w'.cell? ⟨w.heap.size, 1, none⟩ = some (.int .i64 y))
    (first | exact KX.out _ (Below.refl _ _).drew | exact KX.out _ ((Below.refl _ _).drew.trans b2))
    ((refine (PN.out _).mono ?_; rintro e w2 ⟨rfl, b2⟩))
  have B2 := B1.drew.trans (b2.mono B1.drew.size)
  go_wp2_with fail
  refine (U.out _).mono ?_
  rintro e w3 ⟨u, rfl, rfl, b3⟩
  have B3 := B2.trans (b3.mono B2.size)
  have P3 := Lib.hid (pair_alloc w3 px py 23)
  have ba : Below w3.heap.size w3 (w3.alloc (.cells #[.int .i64 (px : Int), .int .i64 (py : Int)] 23)) := (Below.refl _ _).alloc (Nat.le_refl _) _
  have B4 := B3.trans (ba.mono B3.size)
  go_wp2_with fail
  refine (HI.out _).mono ?_
  rintro e w5 ⟨u, rfl, rfl, b5⟩
  have B5 := B4.trans (b5.mono B4.size)
  have P5 := Lib.hid (P3.out.below b5)
  have KY := Lib.hid (show ∀ w', Below w5.heap.size w5 w' → w'.cell? ⟨w3.heap.size, 0, none⟩ = some (.int .i64 (px : Int)) ∧ w'.cell? ⟨w3.heap.size, 1, none⟩ = some (.int .i64 (py : Int)) from fun w' h => ⟨(P5.out.below h).c0, (P5.out.below h).c1⟩)
  go_wp2_with fail
  go_region_held3 (fun w' => w'.cell? ⟨w3.heap.size, 0, none⟩ = some (.int .i64 (px : Int)) ∧ w'.cell? ⟨w3.heap.size, 1, none⟩ = some (.int .i64 (py : Int)))
    (first | exact KY.out _ (Below.refl _ _).drew | exact KY.out _ ((Below.refl _ _).drew.trans b6))
    ((refine (awake19_any _ (hg.below B5.drew hg.lt)).mono ?_; rintro e w6 ⟨rfl, b6⟩))
  go_wp2_with fail
  go_ret
  exact ⟨rfl, B5.drew.trans (b6.mono B5.drew.size)⟩

set_option maxRecDepth 100000 in
set_option maxHeartbeats 2000000 in
theorem back_yes (x y : Int) (v n : Nat) (w : World) (hg : ErrT w) (hv : v < 18446744073709551616) (hn1 : 1 ≤ n) (hn2 : n ≤ 31) (hp : inP x y) :
    Calls Tryd.prog 7 #[.agg #[.int .i64 x, .int .i64 y], .int .u64 (v : Int), .int .i64 (n : Int)] w fun e w' => e = .returned (.bool true) ∧ Below w.heap.size w w' := by
  have b0 : Below w.heap.size w (w.alloc (.cells #[.int .i64 x, .int .i64 y] 23)) := (Below.refl _ _).alloc (Nat.le_refl _) _
  have X0 := Lib.hid (pair_alloc w x y 23)
  have ZN := Lib.hid (fun w => Z_pt x y w hp)
  have UP := uX_zOf hp
  have UZ := Lib.hid (fun w => Unz_ok (zOf x y) w (zOf_lt x y) (by rw [UP.1, UP.2]; exact hp))
  rw [UP.1, UP.2] at UZ
  clear UP
  generalize zOf x y = z at *
  have PN := Lib.hid (fun w => Point_any x y w)
  rw [decide_eq_true hp] at PN
  obtain ⟨p1, p2⟩ := four_le n hn2
  obtain ⟨r1, r2⟩ := two_le n hn2
  have hA := mask_u64 v n hv hn2
  have h4 := four_pos n
  have hlt := Nat.mod_lt v h4
  generalize v % 4 ^ n = V at *
  have U := Lib.hid (fun w => Unhilbert_ok V n w hn1 hn2 hlt)
  have hu := hil_unh n V hlt
  obtain ⟨a1, a2⟩ := unh_lt n V
  generalize unh n V = P at *
  obtain ⟨px, py⟩ := P
  have HI := Lib.hid (fun w => Hilbert_ok px py n w hn1 hn2 a1 a2)
  rw [show hil n px py = V from hu] at HI
  have l1 : (px : Int) < 2 ^ n := by rw [cast_pow2]; simp at a1; omega
  have l2 : (py : Int) < 2 ^ n := by rw [cast_pow2]; simp at a2; omega
  have d1 := decide_eq_true l1
  have d2 := decide_eq_true l2
  have eW1 : IntKind.i64.wrap ((2 : Int) ^ n) = 2 ^ n := IntWalk.i64_in _ (by omega)
  have h41 : 4 ^ n ≤ 4 ^ 31 := Nat.pow_le_pow_right (by omega) hn2
  have hVi : (V : Int) ≤ 4611686018427387903 := by omega
  have hn3 : (n : Int) ≤ 31 := by omega
  have hn4 : (1 : Int) ≤ (n : Int) := by omega
  have hv1 : (v : Int) ≤ 18446744073709551615 := by omega
  clear h4 hlt hu a1 a2 h41 hv hp
  go_enter Tryd.func7, Tryd.ntmps7
  go_wp2_with fail
  refine (ZN.out _).mono ?_
  rintro e w1 ⟨u, rfl, rfl, b1⟩
  have X1 := Lib.hid (X0.out.below b1)
  have B1 := b0.trans (b1.mono b0.size)
  have KX := Lib.hid (show ∀ w', Below w1.heap.size w1 w' → w'.cell? ⟨w.heap.size, 0, none⟩ = some (.int .i64 x) ∧ w'.cell? ⟨w.heap.size, 1, none⟩ = some (.int .i64 y) from fun w' h => ⟨(X1.out.below h).c0, (X1.out.below h).c1⟩)
  go_wp2_with fail
  go_region_held3 (fun w' => w'.cell? ⟨w.heap.size, 0, none⟩ = some (.int .i64 x) ∧ w'.cell? ⟨w.heap.size, 1, none⟩ = some (.int .i64 y))
    (first | exact KX.out _ (Below.refl _ _).drew | exact KX.out _ ((Below.refl _ _).drew.trans b2))
    ((refine (PN.out _).mono ?_; rintro e w2 ⟨rfl, b2⟩))
  have B2 := B1.drew.trans (b2.mono B1.drew.size)
  have X2 := Lib.hid (show Pair w2 w.heap.size x y from ⟨(KX.out _ ((Below.refl _ _).drew.trans b2)).1, (KX.out _ ((Below.refl _ _).drew.trans b2)).2⟩)
  go_wp2_with fail
  refine (UZ.out _).mono ?_
  rintro e w2' ⟨u, rfl, rfl, b2'⟩
  replace B2 := B2.trans (b2'.mono B2.size)
  have bz : Below w2'.heap.size w2' (w2'.alloc (.cells #[.int .i64 x, .int .i64 y] 23)) := (Below.refl _ _).alloc (Nat.le_refl _) _
  obtain ⟨x0, x1⟩ := (X2.out.below b2').below bz
  replace B2 := B2.trans (bz.mono B2.size)
  go_wp2_with fail
  refine (U.out _).mono ?_
  rintro e w3 ⟨u, rfl, rfl, b3⟩
  have B3 := B2.trans (b3.mono B2.size)
  have P3 := Lib.hid (pair_alloc w3 px py 23)
  have ba : Below w3.heap.size w3 (w3.alloc (.cells #[.int .i64 (px : Int), .int .i64 (py : Int)] 23)) := (Below.refl _ _).alloc (Nat.le_refl _) _
  have B4 := B3.trans (ba.mono B3.size)
  go_wp2_with fail
  refine (HI.out _).mono ?_
  rintro e w5 ⟨u, rfl, rfl, b5⟩
  have B5 := B4.trans (b5.mono B4.size)
  have P5 := Lib.hid (P3.out.below b5)
  have KY := Lib.hid (show ∀ w', Below w5.heap.size w5 w' → w'.cell? ⟨w3.heap.size, 0, none⟩ = some (.int .i64 (px : Int)) ∧ w'.cell? ⟨w3.heap.size, 1, none⟩ = some (.int .i64 (py : Int)) from fun w' h => ⟨(P5.out.below h).c0, (P5.out.below h).c1⟩)
  go_wp2_with fail
  go_region_held3 (fun w' => w'.cell? ⟨w3.heap.size, 0, none⟩ = some (.int .i64 (px : Int)) ∧ w'.cell? ⟨w3.heap.size, 1, none⟩ = some (.int .i64 (py : Int)))
    (first | exact KY.out _ (Below.refl _ _).drew | exact KY.out _ ((Below.refl _ _).drew.trans b6))
    ((refine (awake19_any _ (hg.below B5.drew hg.lt)).mono ?_; rintro e w6 ⟨rfl, b6⟩))
  go_wp2_with fail
  go_ret
  exact ⟨rfl, B5.drew.trans (b6.mono B5.drew.size)⟩

set_option maxRecDepth 100000 in
theorem curveBack_calls {H : Type} {enc : TypeId × Value → H} {W : World} {base : Nat} {v0 v1 v2 : Value} {d0 d1 d2 : DataW H} {p0 p1 p2 : List MemPlace} (hg : ErrT W)
    (o0 : Value.okWide Tryd.prog W .any base 23 v0) (h0 : DataW.Trod enc Tryd.prog W 0 (fun _ => true) true 23 v0 d0 p0)
    (o1 : Value.okWide Tryd.prog W .any base 26 v1) (h1 : DataW.Trod enc Tryd.prog W 0 (fun _ => true) true 26 v1 d1 p1)
    (o2 : Value.okWide Tryd.prog W .any base 3 v2) (h2 : DataW.Trod enc Tryd.prog W 0 (fun _ => true) true 3 v2 d2 p2) :
    Calls Tryd.prog 7 #[v0, v1, v2] W fun e w' => e = .returned (.bool true) ∧ Below W.heap.size W w' := by
  obtain ⟨x, y, rfl, _⟩ := view_pt o0 h0
  obtain ⟨a, rfl, rfl, rfl, wa⟩ := open_int Tryd.underlying26 o1 h1
  obtain ⟨b, rfl, rfl, rfl, wb⟩ := open_int Tryd.underlying3 o2 h2
  obtain ⟨h1, h2⟩ := bounds_u64 wa
  obtain ⟨v, rfl⟩ := Int.eq_ofNat_of_zero_le h1
  by_cases h : 1 ≤ b ∧ b ≤ 31
  · obtain ⟨n, rfl⟩ := Int.eq_ofNat_of_zero_le (show 0 ≤ b by omega)
    by_cases hp : inP x y
    · exact back_yes x y v n W hg (by omega) (by omega) (by omega) hp
    · exact back_no x y v n W hg (by omega) (by omega) (by omega) hp
  · exact back_out x y v b W hg h
end Go.Proofs.YtmpodnmgeakefaaDoor
