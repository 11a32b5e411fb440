/- CurveAsks answers true, whatever it is given. -/
import Derived.Test.YtmpodnmgeakefaaDoorCurveRef2
namespace Go.Proofs.YtmpodnmgeakefaaDoor
open Go.RowKit Go.ChangeShapes Go.WideShapes

theorem Hilbert_bits (x y n : Int) (w : World) (h : ¬ (1 ≤ n ∧ n ≤ 31)) :
    Calls Tryd.prog 16 #[.agg #[.int .i64 x, .int .i64 y], .int .i64 n] w (NumErr w 0 (.fault curveStr 0 (.num 1))) := by
  have M := Lib.hid (fun w => cmay_no n w h)
  have BL := Lib.hid (fun w => blame_any (.num 1) _ w rfl)
  have b0 : Below w.heap.size w (w.alloc (.cells #[.int .i64 x, .int .i64 y] 23)) := (Below.refl _ _).alloc (Nat.le_refl _) _
  clear h
  go_enter Tryd.func16, Tryd.ntmps16
  go_wp2_with fail
  refine (M.out _).mono ?_
  rintro e w' ⟨rfl, rfl⟩
  go_wp2_with fail
  refine (BL.out _).mono ?_
  rintro e w2 ⟨u2, rfl, h2, b2⟩
  go_wp2_with fail
  go_ret2
  exact ⟨_, rfl, h2, b0.trans (b2.mono b0.size)⟩

set_option maxHeartbeats 1000000 in
theorem Hilbert_range (x y : Int) (n : Nat) (w : World) (hn1 : 1 ≤ n) (hn2 : n ≤ 31) (h : ¬ inQ x y n) :
    Calls Tryd.prog 16 #[.agg #[.int .i64 x, .int .i64 y], .int .i64 (n : Int)] w (NumErr w 0 (.fault curveStr 0 (.num 2))) := by
  have b0 : Below w.heap.size w (w.alloc (.cells #[.int .i64 x, .int .i64 y] 23)) := (Below.refl _ _).alloc (Nat.le_refl _) _
  obtain ⟨p1, p2⟩ := two_le n hn2
  have M := Lib.hid (fun w => cmay_yes (n : Int) w (by omega) (by omega))
  have BL := Lib.hid (fun w => blame_any (.num 2) _ w rfl)
  have hn3 : (n : Int) ≤ 31 := by omega
  have hn4 : (1 : Int) ≤ (n : Int) := by omega
  have eW1 : IntKind.i64.wrap ((2 : Int) ^ n) = 2 ^ n := IntWalk.i64_in _ (by omega)
  by_cases h1 : x < 0
  · have t1 := decide_eq_true h1
    clear h
    go_enter Tryd.func16, Tryd.ntmps16
    go_wp2_with fail
    refine (M.out _).mono ?_
    rintro e w' ⟨rfl, rfl⟩
    go_wp2_with fail
    go_quiet (fail)
    go_wp2_with fail
    refine (BL.out _).mono ?_
    rintro e w2 ⟨u2, rfl, h2, b2⟩
    go_wp2_with fail
    go_ret2
    have b1 := Below.drewN' b0 nq
    exact ⟨_, rfl, h2, b1.trans (b2.mono b1.size)⟩
  · have t1 := decide_eq_false h1
    by_cases h3 : (2 : Int) ^ n ≤ x
    · have t3 := decide_eq_true h3
      clear h
      go_enter Tryd.func16, Tryd.ntmps16
      go_wp2_with fail
      refine (M.out _).mono ?_
      rintro e w' ⟨rfl, rfl⟩
      go_wp2_with fail
      go_quiet (fail)
      go_wp2_with fail
      refine (BL.out _).mono ?_
      rintro e w2 ⟨u2, rfl, h2, b2⟩
      go_wp2_with fail
      go_ret2
      have b1 := Below.drewN' b0 nq
      exact ⟨_, rfl, h2, b1.trans (b2.mono b1.size)⟩
    · have t3 := decide_eq_false h3
      by_cases h2 : y < 0
      · have t2 := decide_eq_true h2
        clear h
        go_enter Tryd.func16, Tryd.ntmps16
        go_wp2_with fail
        refine (M.out _).mono ?_
        rintro e w' ⟨rfl, rfl⟩
        go_wp2_with fail
        go_quiet (fail)
        go_wp2_with fail
        refine (BL.out _).mono ?_
        rintro e w2 ⟨u2, rfl, h2, b2⟩
        go_wp2_with fail
        go_ret2
        have b1 := Below.drewN' b0 nq
        exact ⟨_, rfl, h2, b1.trans (b2.mono b1.size)⟩
      · have t2 := decide_eq_false h2
        have h4 : (2 : Int) ^ n ≤ y := by
          have : ¬ y < 2 ^ n := fun h4 => h ⟨⟨by omega, by omega⟩, by omega, h4⟩
          omega
        have t4 := decide_eq_true h4
        clear h
        go_enter Tryd.func16, Tryd.ntmps16
        go_wp2_with fail
        refine (M.out _).mono ?_
        rintro e w' ⟨rfl, rfl⟩
        go_wp2_with fail
        go_quiet (fail)
        go_wp2_with fail
        refine (BL.out _).mono ?_
        rintro e w2 ⟨u2, rfl, h2, b2⟩
        go_wp2_with fail
        go_ret2
        have b1 := Below.drewN' b0 nq
        exact ⟨_, rfl, h2, b1.trans (b2.mono b1.size)⟩

theorem Unhilbert_bits (v : Nat) (n : Int) (w : World) (h : ¬ (1 ≤ n ∧ n ≤ 31)) :
    Calls Tryd.prog 15 #[.int .u64 (v : Int), .int .i64 n] w (PtErr w 0 0 (.fault curveStr 0 (.num 1))) := by
  have M := Lib.hid (fun w => cmay_no n w h)
  have BL := Lib.hid (fun w => blame_fresh 1 w)
  clear h
  have Z0 := Lib.hid (pair_alloc w 0 0 23)
  have b0 : Below w.heap.size w (w.alloc (.cells #[.int .i64 0, .int .i64 0] 23)) := (Below.refl _ _).alloc (Nat.le_refl _) _
  go_enter Tryd.func15, Tryd.ntmps15
  go_wp2_with fail
  refine (M.out _).mono ?_
  rintro e w' ⟨rfl, rfl⟩
  go_wp2_with fail
  refine (BL.out _).mono ?_
  rintro e w2 ⟨u2, rfl, h2, b2⟩
  obtain ⟨p0, p1⟩ := Z0.out.below b2
  have f0 : w2.frozen? ⟨w.heap.size, 0, none⟩ = false := (b2.frozen (p := ⟨w.heap.size, 0, none⟩) (by simp)).trans (by simp)
  have f1 : w2.frozen? ⟨w.heap.size, 1, none⟩ = false := (b2.frozen (p := ⟨w.heap.size, 1, none⟩) (by simp)).trans (by simp)
  have b02 := b0.trans (b2.mono b0.size)
  obtain ⟨r0, r1⟩ := pt_cells w2 w.heap.size (.int .i64 0) (.int .i64 0) p0 p1
  have H2 := Lib.hid ((h2.set w.heap.size 0 (.int .i64 0) (by simp)).set w.heap.size 1 (.int .i64 0) (by simp))
  have b03 := (b02.setCell (p := ⟨w.heap.size, 0, none⟩) (Nat.le_refl _) (.int .i64 0)).setCell (p := ⟨w.heap.size, 1, none⟩) (Nat.le_refl _) (.int .i64 0)
  clear h2
  go_wp2_with fail
  exact bodyPost_ret (v := .tuple #[.agg #[.int .i64 0, .int .i64 0], u2]) (by simp [results, Tryd.results15, go_sem, r0, r1]) rfl ⟨u2, rfl, H2.out.is, b03⟩

theorem Unhilbert_range (v n : Nat) (w : World) (hn1 : 1 ≤ n) (hn2 : n ≤ 31) (hv : v < 18446744073709551616) (h : 4 ^ n ≤ v) :
    Calls Tryd.prog 15 #[.int .u64 (v : Int), .int .i64 (n : Int)] w (PtErr w 0 0 (.fault curveStr 0 (.num 2))) := by
  have M := Lib.hid (fun w => cmay_yes (n : Int) w (by omega) (by omega))
  have BL := Lib.hid (fun w => blame_fresh 2 w)
  have hn3 : (n : Int) ≤ 31 := by omega
  have hn4 : (1 : Int) ≤ (n : Int) := by omega
  have hv1 : (v : Int) ≤ 18446744073709551615 := by omega
  have e0 : 0 < v / 4 ^ n := Nat.div_pos h (four_pos n)
  have e1 : ((v : Int) / 2 ^ (2 * n) != 0) = true := by rw [cast_div2, ← four_pow]; simp only [bne_iff_ne]; omega
  clear h e0 hv
  have Z0 := Lib.hid (pair_alloc w 0 0 23)
  have b0 : Below w.heap.size w (w.alloc (.cells #[.int .i64 0, .int .i64 0] 23)) := (Below.refl _ _).alloc (Nat.le_refl _) _
  go_enter Tryd.func15, Tryd.ntmps15
  go_wp2_with fail
  refine (M.out _).mono ?_
  rintro e w' ⟨rfl, rfl⟩
  go_wp2_with fail
  refine (BL.out _).mono ?_
  rintro e w2 ⟨u2, rfl, h2, b2⟩
  obtain ⟨p0, p1⟩ := Z0.out.below b2
  have f0 : w2.frozen? ⟨w.heap.size, 0, none⟩ = false := (b2.frozen (p := ⟨w.heap.size, 0, none⟩) (by simp)).trans (by simp)
  have f1 : w2.frozen? ⟨w.heap.size, 1, none⟩ = false := (b2.frozen (p := ⟨w.heap.size, 1, none⟩) (by simp)).trans (by simp)
  have b02 := b0.trans (b2.mono b0.size)
  obtain ⟨r0, r1⟩ := pt_cells w2 w.heap.size (.int .i64 0) (.int .i64 0) p0 p1
  have H2 := Lib.hid ((h2.set w.heap.size 0 (.int .i64 0) (by simp)).set w.heap.size 1 (.int .i64 0) (by simp))
  have b03 := (b02.setCell (p := ⟨w.heap.size, 0, none⟩) (Nat.le_refl _) (.int .i64 0)).setCell (p := ⟨w.heap.size, 1, none⟩) (Nat.le_refl _) (.int .i64 0)
  clear h2
  go_wp2_with fail
  exact bodyPost_ret (v := .tuple #[.agg #[.int .i64 0, .int .i64 0], u2]) (by simp [results, Tryd.results15, go_sem, r0, r1]) rfl ⟨u2, rfl, H2.out.is, b03⟩

/-- pergolaalike.Is says yes of it -/
def Agree (E : Er) (k : Int) : Prop := E.isB k curveStr 0 = true
theorem agree_none : Agree .none 0 := by simp [Agree, Er.isB, Er.code]
theorem agree_fault (k : Int) (h : 1 ≤ k ∧ k ≤ 15) : Agree (.fault curveStr 0 (.num k)) k := by
  have : k = 1 ∨ k = 2 ∨ k = 3 ∨ k = 4 ∨ k = 5 ∨ k = 6 ∨ k = 7 ∨ k = 8 ∨ k = 9 ∨ k = 10 ∨ k = 11 ∨ k = 12 ∨ k = 13 ∨ k = 14 ∨ k = 15 := by omega
  rcases this with rfl | rfl | rfl | rfl | rfl | rfl | rfl | rfl | rfl | rfl | rfl | rfl | rfl | rfl | rfl <;> simp [Agree, Er.isB, Er.code, Er.root]

theorem Z_both (x y : Int) : ∃ (N : Nat) (E : Er) (k : Int), Agree E k ∧ (∀ w, Calls Tryd.prog 11 #[.agg #[.int .i64 x, .int .i64 y]] w (NumErr w N E)) ∧ (∀ w, Calls Tryd.prog 18 #[.agg #[.int .i64 x, .int .i64 y]] w (NumCode w N k)) := by
  by_cases h : inP x y
  · exact ⟨_, _, _, agree_none, fun w => Z_pt x y w h, fun w => ZR_pt x y w h⟩
  · exact ⟨_, _, _, agree_fault 2 (by omega), fun w => Z_no x y w h, fun w => ZR_no x y w h⟩
theorem Unz_both (v : Nat) (hv : v < 18446744073709551616) : ∃ (x y : Int) (E : Er) (k : Int), Agree E k ∧ (∀ w, Calls Tryd.prog 17 #[.int .u64 (v : Int)] w (PtErr w x y E)) ∧ (∀ w, Calls Tryd.prog 19 #[.int .u64 (v : Int)] w (PtCode w x y k)) := by
  by_cases h : inP (uX v) (uY v)
  · exact ⟨_, _, _, _, agree_none, fun w => Unz_ok v w hv h, fun w => UnzR_ok v w hv h⟩
  · exact ⟨_, _, _, _, agree_fault 2 (by omega), fun w => Unz_no v w hv h, fun w => UnzR_no v w hv h⟩
theorem Hilbert_both (x y n : Int) : ∃ (N : Nat) (E : Er) (k : Int), Agree E k ∧ (∀ w, Calls Tryd.prog 16 #[.agg #[.int .i64 x, .int .i64 y], .int .i64 n] w (NumErr w N E)) ∧ (∀ w, Calls Tryd.prog 20 #[.agg #[.int .i64 x, .int .i64 y], .int .i64 n] w (NumCode w N k)) := by
  by_cases h : 1 ≤ n ∧ n ≤ 31
  · obtain ⟨m, rfl⟩ := Int.eq_ofNat_of_zero_le (show 0 ≤ n by omega)
    have e2 := cast_pow2 m
    by_cases hq : inQ x y m
    · obtain ⟨⟨h1, h2⟩, h3, h4⟩ := hq
      obtain ⟨X, rfl⟩ := Int.eq_ofNat_of_zero_le h1
      obtain ⟨Y, rfl⟩ := Int.eq_ofNat_of_zero_le h2
      exact ⟨_, _, _, agree_none, fun w => Hilbert_ok X Y m w (by omega) (by omega) (by omega) (by omega), fun w => HilbertR_ok X Y m w (by omega) (by omega) (by omega) (by omega)⟩
    · exact ⟨_, _, _, agree_fault 2 (by omega), fun w => Hilbert_range x y m w (by omega) (by omega) hq, fun w => HilbertR_range x y m w (by omega) (by omega) hq⟩
  · exact ⟨_, _, _, agree_fault 1 (by omega), fun w => Hilbert_bits x y n w h, fun w => HilbertR_bits x y n w h⟩
theorem Unhilbert_both (v : Nat) (n : Int) (hv : v < 18446744073709551616) : ∃ (x y : Int) (E : Er) (k : Int), Agree E k ∧ (∀ w, Calls Tryd.prog 15 #[.int .u64 (v : Int), .int .i64 n] w (PtErr w x y E)) ∧ (∀ w, Calls Tryd.prog 21 #[.int .u64 (v : Int), .int .i64 n] w (PtCode w x y k)) := by
  by_cases h : 1 ≤ n ∧ n ≤ 31
  · obtain ⟨m, rfl⟩ := Int.eq_ofNat_of_zero_le (show 0 ≤ n by omega)
    by_cases hq : v < 4 ^ m
    · exact ⟨_, _, _, _, agree_none, fun w => Unhilbert_ok v m w (by omega) (by omega) hq, fun w => UnhilbertR_ok v m w (by omega) (by omega) hq⟩
    · exact ⟨_, _, _, _, agree_fault 2 (by omega), fun w => Unhilbert_range v m w (by omega) (by omega) hv (by omega), fun w => UnhilbertR_range v m w (by omega) (by omega) hv (by omega)⟩
  · exact ⟨_, _, _, _, agree_fault 1 (by omega), fun w => Unhilbert_bits v n w h, fun w => UnhilbertR_bits v n w h⟩
theorem boxCode_one (a b c d : Int) (h : boxCode a b c d ≠ 0) : 1 ≤ boxCode a b c d ∧ boxCode a b c d ≤ 15 := by
  revert h
  unfold boxCode
  repeat' split
  all_goals (intro h; first | omega | exact absurd rfl h)
theorem Centre_both (a b c d : Int) : ∃ (x y : Int) (E : Er) (k : Int), Agree E k ∧ (∀ w, Calls Tryd.prog 12 #[.agg #[.int .i64 a, .int .i64 b, .int .i64 c, .int .i64 d]] w (PtErr w x y E)) ∧ (∀ w, Calls Tryd.prog 22 #[.agg #[.int .i64 a, .int .i64 b, .int .i64 c, .int .i64 d]] w (PtCode w x y k)) := by
  by_cases h : boxCode a b c d = 0
  · exact ⟨_, _, _, _, agree_none, fun w => Centre_ok a b c d w h, fun w => CentreR_ok a b c d w h⟩
  · exact ⟨_, _, _, _, agree_fault _ (boxCode_one a b c d h), fun w => Centre_no a b c d w h, fun w => CentreR_no a b c d w h⟩

theorem IsC (E : Er) (k : Int) (v : Value) (w : World) (ha : Agree E k) (hv : E.Is w v) (hg : ErrT w) :
    Calls Tryd.prog 23 #[v, .int .i64 k, .string curveStr, .int .i64 0] w fun e w' => e = .returned (.bool true) ∧ Below w.heap.size w w' := by
  have := IsA_any E k curveStr 0 v w hv hg
  rw [show E.isB k curveStr 0 = true from ha] at this
  exact this

set_option maxRecDepth 100000 in
set_option maxHeartbeats 4000000 in
theorem asks19 (x y : Int) (v : Nat) (n a b c d : Int) (w : World) (hg : ErrT w) (hv : v < 18446744073709551616) :
    Calls Tryd.prog 8 #[.agg #[.int .i64 x, .int .i64 y], .int .u64 (v : Int), .int .i64 n, .agg #[.int .i64 a, .int .i64 b, .int .i64 c, .int .i64 d]] w fun e w' => e = .returned (.bool true) ∧ Below w.heap.size w w' := by
  obtain ⟨N1, E1, k1, A1, L1, R1⟩ := Z_both x y
  obtain ⟨x2, y2, E2, k2, A2, L2, R2⟩ := Unz_both v hv
  obtain ⟨N3, E3, k3, A3, L3, R3⟩ := Hilbert_both x y n
  obtain ⟨x4, y4, E4, k4, A4, L4, R4⟩ := Unhilbert_both v n hv
  obtain ⟨x5, y5, E5, k5, A5, L5, R5⟩ := Centre_both a b c d
  replace L1 := Lib.hid L1
  replace L2 := Lib.hid L2
  replace L3 := Lib.hid L3
  replace L4 := Lib.hid L4
  replace L5 := Lib.hid L5
  replace R1 := Lib.hid R1
  replace R2 := Lib.hid R2
  replace R3 := Lib.hid R3
  replace R4 := Lib.hid R4
  replace R5 := Lib.hid R5
  clear hv
  have b0 : Below w.heap.size w ((w.alloc (.cells #[.int .i64 x, .int .i64 y] 23)).alloc (.cells #[.int .i64 a, .int .i64 b, .int .i64 c, .int .i64 d] 34)) := ((Below.refl _ _).alloc (Nat.le_refl _) _).alloc (by simp) _
  have X0 := Lib.hid ((pair_alloc w x y 23).below ((Below.refl _ _).alloc (Nat.le_refl _) (.cells #[.int .i64 a, .int .i64 b, .int .i64 c, .int .i64 d] 34)))
  have Q0 := Lib.hid (show Quad ((w.alloc (.cells #[.int .i64 x, .int .i64 y] 23)).alloc (.cells #[.int .i64 a, .int .i64 b, .int .i64 c, .int .i64 d] 34)) (w.heap.size + 1) a b c d from ⟨by simp, by simp, by simp, by simp⟩)
  go_enter Tryd.func8, Tryd.ntmps8
  go_wp2_with fail
  refine (L1.out _).mono ?_
  rintro e w1 ⟨u1, rfl, i1, b1⟩
  have B1 := b0.trans (b1.mono b0.size)
  obtain ⟨x0, x1⟩ := X0.out.below b1
  go_wp2_with fail
  refine (R1.out _).mono ?_
  rintro e w2 ⟨rfl, b2⟩
  have b02 := b1.trans (b2.mono b1.size)
  replace i1 := i1.below b2
  have B2 := B1.trans (b2.mono B1.size)
  clear x0 x1
  go_wp2_with fail
  refine (L2.out _).mono ?_
  rintro e w3 ⟨u3, rfl, i3, b3⟩
  have ba : Below w3.heap.size w3 (w3.alloc (.cells #[.int .i64 x2, .int .i64 y2] 23)) := (Below.refl _ _).alloc (Nat.le_refl _) _
  have P3 := Lib.hid (pair_alloc w3 x2 y2 23)
  have b3a := b3.trans (ba.mono b3.size)
  have b03 := b02.trans (b3a.mono b02.size)
  replace i1 := i1.below b3a
  replace i3 := i3.below ba
  have B3 := B2.trans (b3a.mono B2.size)
  go_wp2_with fail
  refine (R2.out _).mono ?_
  rintro e w4 ⟨rfl, b4⟩
  have bb : Below w4.heap.size w4 (w4.alloc (.cells #[.int .i64 x2, .int .i64 y2] 23)) := (Below.refl _ _).alloc (Nat.le_refl _) _
  have b4a := b4.trans (bb.mono b4.size)
  have P4 := Lib.hid (P3.out.below b4a)
  have P4' := Lib.hid (pair_alloc w4 x2 y2 23)
  have b04 := b03.trans (b4a.mono b03.size)
  replace i1 := i1.below b4a
  replace i3 := i3.below b4a
  have B4 := B3.trans (b4a.mono B3.size)
  obtain ⟨x0, x1⟩ := X0.out.below b04
  go_wp2_with fail
  refine (L3.out _).mono ?_
  rintro e w5 ⟨u5, rfl, i5, b5⟩
  have P5 := Lib.hid (P4.out.below b5)
  have P5' := Lib.hid (P4'.out.below b5)
  have b05 := b04.trans (b5.mono b04.size)
  replace i1 := i1.below b5
  replace i3 := i3.below b5
  have B5 := B4.trans (b5.mono B4.size)
  clear x0 x1
  obtain ⟨x0, x1⟩ := X0.out.below b05
  go_wp2_with fail
  refine (R3.out _).mono ?_
  rintro e w6 ⟨rfl, b6⟩
  have P6 := Lib.hid (P5.out.below b6)
  have P6' := Lib.hid (P5'.out.below b6)
  have b06 := b05.trans (b6.mono b05.size)
  replace i1 := i1.below b6
  replace i3 := i3.below b6
  replace i5 := i5.below b6
  have B6 := B5.trans (b6.mono B5.size)
  clear x0 x1
  go_wp2_with fail
  refine (L4.out _).mono ?_
  rintro e w7 ⟨u7, rfl, i7, b7⟩
  have bc : Below w7.heap.size w7 (w7.alloc (.cells #[.int .i64 x4, .int .i64 y4] 23)) := (Below.refl _ _).alloc (Nat.le_refl _) _
  have b7a := b7.trans (bc.mono b7.size)
  have P7 := Lib.hid (P6.out.below b7a)
  have P7' := Lib.hid (P6'.out.below b7a)
  have S7 := Lib.hid (pair_alloc w7 x4 y4 23)
  have b07 := b06.trans (b7a.mono b06.size)
  replace i1 := i1.below b7a
  replace i3 := i3.below b7a
  replace i5 := i5.below b7a
  replace i7 := i7.below bc
  have B7 := B6.trans (b7a.mono B6.size)
  go_wp2_with fail
  refine (R4.out _).mono ?_
  rintro e w8 ⟨rfl, b8⟩
  have bd : Below w8.heap.size w8 (w8.alloc (.cells #[.int .i64 x4, .int .i64 y4] 23)) := (Below.refl _ _).alloc (Nat.le_refl _) _
  have b8a := b8.trans (bd.mono b8.size)
  have P8 := Lib.hid (P7.out.below b8a)
  have P8' := Lib.hid (P7'.out.below b8a)
  have S8 := Lib.hid (S7.out.below b8a)
  have S8' := Lib.hid (pair_alloc w8 x4 y4 23)
  have b08 := b07.trans (b8a.mono b07.size)
  replace i1 := i1.below b8a
  replace i3 := i3.below b8a
  replace i5 := i5.below b8a
  replace i7 := i7.below b8a
  have B8 := B7.trans (b8a.mono B7.size)
  obtain ⟨q0, q1, q2, q3⟩ := Q0.out.below b08
  go_wp2_with fail
  refine (L5.out _).mono ?_
  rintro e w9 ⟨u9, rfl, i9, b9⟩
  have be : Below w9.heap.size w9 (w9.alloc (.cells #[.int .i64 x5, .int .i64 y5] 23)) := (Below.refl _ _).alloc (Nat.le_refl _) _
  have b9a := b9.trans (be.mono b9.size)
  have P9 := Lib.hid (P8.out.below b9a)
  have P9' := Lib.hid (P8'.out.below b9a)
  have S9 := Lib.hid (S8.out.below b9a)
  have S9' := Lib.hid (S8'.out.below b9a)
  have T9 := Lib.hid (pair_alloc w9 x5 y5 23)
  have b09 := b08.trans (b9a.mono b08.size)
  replace i1 := i1.below b9a
  replace i3 := i3.below b9a
  replace i5 := i5.below b9a
  replace i7 := i7.below b9a
  replace i9 := i9.below be
  have B9 := B8.trans (b9a.mono B8.size)
  clear q0 q1 q2 q3
  obtain ⟨q0, q1, q2, q3⟩ := Q0.out.below b09
  go_wp2_with fail
  refine (R5.out _).mono ?_
  rintro e w10 ⟨rfl, b10⟩
  have bf : Below w10.heap.size w10 (w10.alloc (.cells #[.int .i64 x5, .int .i64 y5] 23)) := (Below.refl _ _).alloc (Nat.le_refl _) _
  have b10a := b10.trans (bf.mono b10.size)
  have Pa := Lib.hid (P9.out.below b10a)
  have Pa' := Lib.hid (P9'.out.below b10a)
  have Sa := Lib.hid (S9.out.below b10a)
  have Sa' := Lib.hid (S9'.out.below b10a)
  have Ta := Lib.hid (T9.out.below b10a)
  have Ta' := Lib.hid (pair_alloc w10 x5 y5 23)
  replace i1 := i1.below b10a
  replace i3 := i3.below b10a
  replace i5 := i5.below b10a
  replace i7 := i7.below b10a
  replace i9 := i9.below b10a
  have Ba := B9.trans (b10a.mono B9.size)
  have ga := hg.below Ba hg.lt
  clear q0 q1 q2 q3
  go_wp2_with fail
  refine (IsC E1 k1 u1 _ A1 i1 ga).mono ?_
  rintro e w11 ⟨rfl, c11⟩
  obtain ⟨p0, p1⟩ := Pa.out.below c11
  obtain ⟨p2, p3⟩ := Pa'.out.below c11
  have Sb := Lib.hid (Sa.out.below c11)
  have Sb' := Lib.hid (Sa'.out.below c11)
  have Tb := Lib.hid (Ta.out.below c11)
  have Tb' := Lib.hid (Ta'.out.below c11)
  replace i3 := i3.below c11
  replace i5 := i5.below c11
  replace i7 := i7.below c11
  replace i9 := i9.below c11
  have Bb := Ba.trans (c11.mono Ba.size)
  have gb := ga.below c11 ga.lt
  go_wp2_with fail
  refine (IsC E2 k2 u3 _ A2 i3 gb).mono ?_
  rintro e w12 ⟨rfl, c12⟩
  clear p0 p1 p2 p3
  have Sc := Lib.hid (Sb.out.below c12)
  have Sc' := Lib.hid (Sb'.out.below c12)
  have Tc := Lib.hid (Tb.out.below c12)
  have Tc' := Lib.hid (Tb'.out.below c12)
  replace i5 := i5.below c12
  replace i7 := i7.below c12
  replace i9 := i9.below c12
  have Bc := Bb.trans (c12.mono Bb.size)
  have gc := gb.below c12 gb.lt
  go_wp2_with fail
  refine (IsC E3 k3 u5 _ A3 i5 gc).mono ?_
  rintro e w13 ⟨rfl, c13⟩
  obtain ⟨s0, s1⟩ := Sc.out.below c13
  obtain ⟨s2, s3⟩ := Sc'.out.below c13
  have Td := Lib.hid (Tc.out.below c13)
  have Td' := Lib.hid (Tc'.out.below c13)
  replace i7 := i7.below c13
  replace i9 := i9.below c13
  have Bd := Bc.trans (c13.mono Bc.size)
  have gd := gc.below c13 gc.lt
  go_wp2_with fail
  refine (IsC E4 k4 u7 _ A4 i7 gd).mono ?_
  rintro e w14 ⟨rfl, c14⟩
  clear s0 s1 s2 s3
  obtain ⟨t0, t1⟩ := Td.out.below c14
  obtain ⟨t2, t3⟩ := Td'.out.below c14
  replace i9 := i9.below c14
  have Be := Bd.trans (c14.mono Bd.size)
  have ge := gd.below c14 gd.lt
  go_wp2_with fail
  refine (IsC E5 k5 u9 _ A5 i9 ge).mono ?_
  rintro e w15 ⟨rfl, c15⟩
  clear t0 t1 t2 t3
  have Bf := Be.trans (c15.mono Be.size)
  have gf := ge.below c15 ge.lt
  go_wp2_with fail
  refine (awake19_any _ gf).mono ?_
  rintro e w16 ⟨rfl, c16⟩
  go_wp2_with fail
  go_ret
  exact ⟨rfl, Bf.trans (c16.mono Bf.size)⟩

set_option maxRecDepth 100000 in
theorem curveAsks_calls {H : Type} {enc : TypeId × Value → H} {W : World} {base : Nat} {v0 v1 v2 v3 : Value} {d0 d1 d2 d3 : DataW H} {p0 p1 p2 p3 : List MemPlace} (hg : ErrT W)
    (o0 : Value.okWide Tryd.prog W .any base 23 v0) (h0 : DataW.Trod enc Tryd.prog W 0 (fun _ => true) true 23 v0 d0 p0)
    (o1 : Value.okWide Tryd.prog W .any base 26 v1) (h1 : DataW.Trod enc Tryd.prog W 0 (fun _ => true) true 26 v1 d1 p1)
    (o2 : Value.okWide Tryd.prog W .any base 3 v2) (h2 : DataW.Trod enc Tryd.prog W 0 (fun _ => true) true 3 v2 d2 p2)
    (o3 : Value.okWide Tryd.prog W .any base 34 v3) (h3 : DataW.Trod enc Tryd.prog W 0 (fun _ => true) true 34 v3 d3 p3) :
    Calls Tryd.prog 8 #[v0, v1, v2, v3] W fun e w' => e = .returned (.bool true) ∧ Below W.heap.size W w' := by
  obtain ⟨x, y, rfl, _⟩ := view_pt o0 h0
  obtain ⟨a, b, c, d, rfl, _⟩ := view_box o3 h3
  obtain ⟨m, rfl, rfl, rfl, wa⟩ := open_int Tryd.underlying26 o1 h1
  obtain ⟨n, rfl, rfl, rfl, wb⟩ := open_int Tryd.underlying3 o2 h2
  obtain ⟨h1, h2⟩ := bounds_u64 wa
  obtain ⟨v, rfl⟩ := Int.eq_ofNat_of_zero_le h1
  exact asks19 x y v n a b c d W hg (by omega)
end Go.Proofs.YtmpodnmgeakefaaDoor
