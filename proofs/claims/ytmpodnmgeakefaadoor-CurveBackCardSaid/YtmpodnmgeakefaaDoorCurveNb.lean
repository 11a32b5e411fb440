/- CurveNeighbours answers true, whatever it is given. -/
import Derived.Test.YtmpodnmgeakefaaDoorCurveU
import Derived.Test.YtmpodnmgeakefaaDoorCurveCentre
import Derived.Deep.RegionHeld3
namespace Go.Proofs.YtmpodnmgeakefaaDoor
open Go.RowKit Go.ChangeShapes Go.WideShapes

theorem four_le (n : Nat) (h : n ≤ 31) : (2 : Int) ^ (2 * n) ≤ 4611686018427387904 ∧ (1 : Int) ≤ 2 ^ (2 * n) := by
  have h1 : 2 ^ (2 * n) ≤ 2 ^ 62 := Nat.pow_le_pow_right (by omega) (by omega)
  have h2 : 0 < 2 ^ (2 * n) := Nat.pow_pos (by omega)
  rw [cast_pow2]
  omega
theorem mask_u64 (v n : Nat) (hv : v < 18446744073709551616) (hn : n ≤ 31) : bits .and .u64 (v : Int) ((2 : Int) ^ (2 * n) - 1) = ((v % 4 ^ n : Nat) : Int) := by
  obtain ⟨h1, h2⟩ := four_le n hn
  rw [cast_pow2] at h1 h2
  have e : (2 : Int) ^ (2 * n) - 1 = ((2 ^ (2 * n) - 1 : Nat) : Int) := by rw [cast_pow2]; omega
  rw [e, and_u64_nat _ _ hv (by omega), Nat.and_two_pow_sub_one_eq_mod, four_pow]

set_option maxRecDepth 100000 in
theorem nb_out (v : Nat) (n : Int) (w : World) (hg : ErrT w) (h : ¬ (1 ≤ n ∧ n ≤ 31)) :
    Calls Tryd.prog 5 #[.int .u64 (v : Int), .int .i64 n] w fun e w' => e = .returned (.bool true) ∧ Below w.heap.size w w' := by
  by_cases h1 : n < 1
  · have t1 := decide_eq_true h1
    clear h
    go_enter Tryd.func5, Tryd.ntmps5
    go_wp2_with fail
    refine (awake19_any _ hg).mono ?_
    rintro e w1 ⟨rfl, b1⟩
    go_wp2_with fail
    go_ret
    exact ⟨rfl, b1⟩
  · have t1 := decide_eq_false h1
    have t2 : decide (31 < n) = true := by simp; omega
    clear h
    go_enter Tryd.func5, Tryd.ntmps5
    go_wp2_with fail
    refine (awake19_any _ hg).mono ?_
    rintro e w1 ⟨rfl, b1⟩
    go_wp2_with fail
    go_ret
    exact ⟨rfl, b1⟩

set_option maxRecDepth 100000 in
set_option maxHeartbeats 1000000 in
theorem nb_last (v n : Nat) (w : World) (hg : ErrT w) (hv : v < 18446744073709551616) (hn1 : 1 ≤ n) (hn2 : n ≤ 31) (hV : v % 4 ^ n = 4 ^ n - 1) :
    Calls Tryd.prog 5 #[.int .u64 (v : Int), .int .i64 (n : Int)] w fun e w' => e = .returned (.bool true) ∧ Below w.heap.size w w' := by
  obtain ⟨p1, p2⟩ := four_le n hn2
  obtain ⟨r1, r2⟩ := two_le n hn2
  have hA := mask_u64 v n hv hn2
  have h4 := four_pos n
  have e4 : ((4 ^ n - 1 : Nat) : Int) = (2 : Int) ^ (2 * n) - 1 := by rw [cast_pow2, ← four_pow]; omega
  rw [hV, e4] at hA
  have U0 := Lib.hid (fun w => Unhilbert_ok 0 n w hn1 hn2 h4)
  rw [unh_zero] at U0
  have U1 := Lib.hid (fun w => Unhilbert_ok (4 ^ n - 1) n w hn1 hn2 (by omega))
  rw [unh_last, e4] at U1
  have e5 : ((2 ^ n - 1 : Nat) : Int) = (2 : Int) ^ n - 1 := by have := two_pos n; rw [cast_pow2]; omega
  rw [show ((2 ^ n - 1, 0) : Nat × Nat).1 = 2 ^ n - 1 from rfl, show ((2 ^ n - 1, 0) : Nat × Nat).2 = 0 from rfl, e5] at U1
  have hn3 : (n : Int) ≤ 31 := by omega
  have hn4 : (1 : Int) ≤ (n : Int) := by omega
  have hv1 : (v : Int) ≤ 18446744073709551615 := by omega
  clear h4 e4 hV e5 hv
  go_enter Tryd.func5, Tryd.ntmps5
  go_wp2_with fail
  refine (U0.out _).mono ?_
  rintro e w1 ⟨u, rfl, rfl, b1⟩
  have ba : Below w1.heap.size w1 (w1.alloc (.cells #[.int .i64 0, .int .i64 0] 23)) := (Below.refl _ _).alloc (Nat.le_refl _) _
  have P1 := Lib.hid (pair_alloc w1 0 0 23)
  have B1 := b1.trans (ba.mono b1.size)
  go_wp2_with fail
  refine (U1.out _).mono ?_
  rintro e w2 ⟨u, rfl, rfl, b2⟩
  have B2 := B1.trans (b2.mono B1.size)
  have bb : Below w2.heap.size w2 (w2.alloc (.cells #[.int .i64 (2 ^ n - 1), .int .i64 ((0 : Nat) : Int)] 23)) := (Below.refl _ _).alloc (Nat.le_refl _) _
  have P2 := Lib.hid ((P1.out.below b2).below bb)
  have Q2 := Lib.hid (pair_alloc w2 (2 ^ n - 1) ((0 : Nat) : Int) 23)
  have B3 := B2.trans (bb.mono B2.size)
  have g3 := hg.below B3 hg.lt
  have eW1 : IntKind.i64.wrap ((2 : Int) ^ n) = 2 ^ n := IntWalk.i64_in _ (by omega)
  have eW2 : IntKind.i64.wrap ((2 : Int) ^ n - 1) = 2 ^ n - 1 := IntWalk.i64_in _ (by omega)
  have KEEP := Lib.hid (show ∀ w', Below (w2.alloc (.cells #[.int .i64 (2 ^ n - 1), .int .i64 ((0 : Nat) : Int)] 23)).heap.size (w2.alloc (.cells #[.int .i64 (2 ^ n - 1), .int .i64 ((0 : Nat) : Int)] 23)) w' → w'.cell? ⟨w1.heap.size, 0, none⟩ = some (.int .i64 0) ∧ w'.cell? ⟨w1.heap.size, 1, none⟩ = some (.int .i64 0) ∧ w'.cell? ⟨w2.heap.size, 0, none⟩ = some (.int .i64 (2 ^ n - 1)) ∧ w'.cell? ⟨w2.heap.size, 1, none⟩ = some (.int .i64 0) from fun w' h => ⟨(P2.out.below h).c0, (P2.out.below h).c1, (Q2.out.below h).c0, (Q2.out.below h).c1⟩)
  go_wp2_with fail
  go_region_held3 (fun w' => w'.cell? ⟨w1.heap.size, 0, none⟩ = some (.int .i64 0) ∧ w'.cell? ⟨w1.heap.size, 1, none⟩ = some (.int .i64 0) ∧ w'.cell? ⟨w2.heap.size, 0, none⟩ = some (.int .i64 (2 ^ n - 1)) ∧ w'.cell? ⟨w2.heap.size, 1, none⟩ = some (.int .i64 0))
    (first | exact KEEP.out _ (Below.refl _ _).drew | exact KEEP.out _ ((Below.refl _ _).drew.trans b4))
    ((refine (awake19_any _ (hg.below B3.drew hg.lt)).mono ?_; rintro e w4 ⟨rfl, b4⟩))
  go_wp2_with fail
  go_ret
  exact ⟨rfl, B3.drew.trans (b4.mono B3.drew.size)⟩

set_option maxRecDepth 100000 in
set_option maxHeartbeats 1000000 in
theorem nb_in (v n : Nat) (w : World) (hg : ErrT w) (hv : v < 18446744073709551616) (hn1 : 1 ≤ n) (hn2 : n ≤ 31) (hV : v % 4 ^ n ≠ 4 ^ n - 1) :
    Calls Tryd.prog 5 #[.int .u64 (v : Int), .int .i64 (n : Int)] w fun e w' => e = .returned (.bool true) ∧ Below w.heap.size w w' := by
  obtain ⟨p1, p2⟩ := four_le n hn2
  have hA := mask_u64 v n hv hn2
  have h4 := four_pos n
  have hlt := Nat.mod_lt v h4
  have e4 : ((4 ^ n : Nat) : Int) = (2 : Int) ^ (2 * n) := by rw [cast_pow2, ← four_pow]
  generalize v % 4 ^ n = V at *
  have hne : ((V : Int) == (2 : Int) ^ (2 * n) - 1) = false := by
    simp only [beq_eq_false_iff_ne, ne_eq]
    omega
  have hNB := unh_next n V (by omega)
  have U0 := Lib.hid (fun w => Unhilbert_ok V n w hn1 hn2 hlt)
  have U1 := Lib.hid (fun w => Unhilbert_ok (V + 1) n w hn1 hn2 (by omega))
  have e5 : ((V + 1 : Nat) : Int) = (V : Int) + 1 := by omega
  rw [e5] at U1
  obtain ⟨a1, a2⟩ := unh_lt n V
  obtain ⟨b1', b2'⟩ := unh_lt n (V + 1)
  have h31 : 2 ^ n ≤ 2 ^ 31 := Nat.pow_le_pow_right (by omega) hn2
  generalize unh n V = P at *
  generalize unh n (V + 1) = Q at *
  obtain ⟨px, py⟩ := P
  obtain ⟨qx, qy⟩ := Q
  have l1 : (px : Int) ≤ 2147483648 := by simp at a1; omega
  have l2 : (py : Int) ≤ 2147483648 := by simp at a2; omega
  have l3 : (qx : Int) ≤ 2147483648 := by simp at b1'; omega
  have l4 : (qy : Int) ≤ 2147483648 := by simp at b2'; omega
  have hVi : (V : Int) ≤ 4611686018427387903 := by omega
  have hn3 : (n : Int) ≤ 31 := by omega
  have hn4 : (1 : Int) ≤ (n : Int) := by omega
  have hv1 : (v : Int) ≤ 18446744073709551615 := by omega
  have hcase : ((px : Int) - qx = 0 ∧ (py : Int) - qy = -1) ∨ ((px : Int) - qx = 0 ∧ (py : Int) - qy = 1) ∨ ((px : Int) - qx = -1 ∧ (py : Int) - qy = 0) ∨ ((px : Int) - qx = 1 ∧ (py : Int) - qy = 0) := by
    rcases hNB with ⟨h1, h2 | h2⟩ | ⟨h1, h2 | h2⟩ <;> simp at h1 h2 <;> omega
  clear h4 e4 e5 hV hv hlt hNB a1 a2 b1' b2' h31
  have hS : wrap64 (wrap64 (((px : Int) - qx) * ((px : Int) - qx)) + wrap64 (((py : Int) - qy) * ((py : Int) - qy))) = 1 := by
    rcases hcase with ⟨k1, k2⟩ | ⟨k1, k2⟩ | ⟨k1, k2⟩ | ⟨k1, k2⟩ <;> rw [k1, k2] <;> (unfold wrap64; decide)
  clear hcase
  go_enter Tryd.func5, Tryd.ntmps5
  go_wp2_with fail
  refine (U0.out _).mono ?_
  rintro e w1 ⟨u, rfl, rfl, b1⟩
  have ba : Below w1.heap.size w1 (w1.alloc (.cells #[.int .i64 (px : Int), .int .i64 (py : Int)] 23)) := (Below.refl _ _).alloc (Nat.le_refl _) _
  have P1 := Lib.hid (pair_alloc w1 px py 23)
  have B1 := b1.trans (ba.mono b1.size)
  go_wp2_with fail
  refine (U1.out _).mono ?_
  rintro e w2 ⟨u, rfl, rfl, b2⟩
  have B2 := B1.trans (b2.mono B1.size)
  obtain ⟨x0, x1⟩ := P1.out.below b2
  have hz : w1.heap.size < w2.heap.size := World.block_lt_of_cell? w2 ⟨w1.heap.size, 0, none⟩ x0
  have B3 : Below w.heap.size w (w2.alloc (.cells #[.int .i64 (qx : Int), .int .i64 (qy : Int)] 23)) := B2.alloc B2.size _
  have g3 := hg.below B3 hg.lt
  go_wp2_with fail
  refine (awake19_any _ g3).mono ?_
  rintro e w4 ⟨rfl, b4⟩
  go_wp2_with fail
  go_ret
  exact ⟨rfl, B3.trans (b4.mono B3.size)⟩

set_option maxRecDepth 100000 in
theorem curveNeighbours_calls {H : Type} {enc : TypeId × Value → H} {W : World} {base : Nat} {v0 v1 : Value} {d0 d1 : DataW H} {p0 p1 : List MemPlace} (hg : ErrT W)
    (o0 : Value.okWide Tryd.prog W .any base 26 v0) (h0 : DataW.Trod enc Tryd.prog W 0 (fun _ => true) true 26 v0 d0 p0)
    (o1 : Value.okWide Tryd.prog W .any base 3 v1) (h1 : DataW.Trod enc Tryd.prog W 0 (fun _ => true) true 3 v1 d1 p1) :
    Calls Tryd.prog 5 #[v0, v1] W fun e w' => e = .returned (.bool true) ∧ Below W.heap.size W w' := by
  obtain ⟨a, rfl, rfl, rfl, wa⟩ := open_int Tryd.underlying26 o0 h0
  obtain ⟨b, rfl, rfl, rfl, wb⟩ := open_int Tryd.underlying3 o1 h1
  obtain ⟨h1, h2⟩ := bounds_u64 wa
  obtain ⟨v, rfl⟩ := Int.eq_ofNat_of_zero_le h1
  by_cases h : 1 ≤ b ∧ b ≤ 31
  · obtain ⟨n, rfl⟩ := Int.eq_ofNat_of_zero_le (show 0 ≤ b by omega)
    by_cases hl : v % 4 ^ n = 4 ^ n - 1
    · exact nb_last v n W hg (by omega) (by omega) (by omega) hl
    · exact nb_in v n W hg (by omega) (by omega) (by omega) hl
  · exact nb_out v b W hg h
end Go.Proofs.YtmpodnmgeakefaaDoor
