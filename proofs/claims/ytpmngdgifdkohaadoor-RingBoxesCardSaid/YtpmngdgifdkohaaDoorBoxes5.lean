/- RingBoxes answers true, whatever it is given. -/
import Derived.Test.YtpmngdgifdkohaaDoorMulR
import Derived.Test.YtpmngdgifdkohaaDoorCutMath
import Derived.Test.YtpmngdgifdkohaaDoorAwake5
import Derived.Test.YtpmngdgifdkohaaDoorViewPt
import Derived.Test.YtpmngdgifdkohaaDoorErrLaid
namespace Go.Proofs.YtpmngdgifdkohaaDoor
open Go.RowKit Go.ChangeShapes Go.WideShapes

set_option maxRecDepth 100000 in
theorem AreaBox_ok (x0 y0 x1 y1 : Int) (w : World) (h0 : inP x0 y0) (h1 : inP x1 y1) (hx : x0 ≤ x1) (hy : y0 ≤ y1) :
    Calls Tryd.prog 26 #[.agg #[.int .i64 x0, .int .i64 y0, .int .i64 x1, .int .i64 y1]] w fun e w' => e = .returned (.agg #[.int .u64 0, .int .u64 ((x1 - x0) * (y1 - y0))]) ∧ Below w.heap.size w w' := by
  have B0 : Below w.heap.size w ((w.alloc (.cells #[.int .i64 x0, .int .i64 y0, .int .i64 x1, .int .i64 y1] 39)).alloc (.cells #[.int .u64 0, .int .u64 0] 42)) := ((Below.refl _ _).alloc (Nat.le_refl _) _).alloc (by simp) _
  have M := Lib.hid (fun w => CheckBoxR_any x0 y0 x1 y1 w)
  rw [boxCode_zero.2 ⟨h0, h1, hx, hy⟩] at M
  have Q0 := Lib.hid ((quad_alloc w x0 y0 x1 y1 39 w.heap.size rfl).below ((Below.refl _ _).alloc (Nat.le_refl _) (.cells #[.int .u64 0, .int .u64 0] 42)))
  have R0 := Lib.hid (pairU_alloc (w.alloc (.cells #[.int .i64 x0, .int .i64 y0, .int .i64 x1, .int .i64 y1] 39)) 0 0 42 (w.heap.size + 1) (by simp))
  obtain ⟨⟨a1, a2⟩, a3, a4⟩ := h0
  obtain ⟨⟨b1, b2⟩, b3, b4⟩ := h1
  obtain ⟨n, hn⟩ := Int.eq_ofNat_of_zero_le (show 0 ≤ x1 - x0 by omega)
  obtain ⟨m, hm⟩ := Int.eq_ofNat_of_zero_le (show 0 ≤ y1 - y0 by omega)
  have e1 : wrap64 (x1 - x0) = (n : Int) := by rw [wrap64_i64, IntWalk.i64_in _ (by omega), hn]
  have e2 : wrap64 (y1 - y0) = (m : Int) := by rw [wrap64_i64, IntWalk.i64_in _ (by omega), hm]
  have e3 : IntKind.u64.wrap (n : Int) = (n : Int) := wrap_u64_nat n (by omega)
  have e4 : IntKind.u64.wrap (m : Int) = (m : Int) := wrap_u64_nat m (by omega)
  have MU := Lib.hid (fun w => Mul_small n m w (by omega) (by omega))
  have HP := Lib.hid (show (x1 - x0) * (y1 - y0) = ((n * m : Nat) : Int) by rw [hn, hm]; rfl)
  generalize ((n * m : Nat) : Int) = P at *
  clear a1 a2 a3 a4 b1 b2 b3 b4 hn hm hx hy
  go_enter Tryd.func26, Tryd.ntmps26
  go_wp2_with fail
  refine (M.out _).mono ?_
  rintro e w1 ⟨rfl, d1⟩
  have B1 := B0.trans (d1.mono B0.size)
  obtain ⟨z0, z1, z2, z3⟩ := Q0.out.below d1
  go_wp2_with fail
  refine (MU.out _).mono ?_
  rintro e w2 ⟨rfl, d2⟩
  have B2 := B1.trans (d2.mono B1.size)
  have R2 := (R0.out.below d1).below d2
  have hlt := R2.lt
  obtain ⟨r0, r1, r2, r3⟩ := R2
  have hle : w.heap.size ≤ w.heap.size + 1 := by omega
  go_wp2_with fail
  obtain ⟨p0, p1⟩ := two_cells r0 r1 r2 r3 (.int .u64 0) (.int .u64 P)
  exact bodyPost_ret (v := .agg #[.int .u64 0, .int .u64 P]) (by simp [results, Tryd.results26, go_sem, p0, p1]) rfl ⟨by rw [HP.out], (B2.setCell (p := ⟨w.heap.size + 1, 0, none⟩) hle _).setCell (p := ⟨w.heap.size + 1, 1, none⟩) hle _⟩

/-! ### the law -/
theorem bb_boxL {x0 y0 x1 y1 : Int} (hx : x0 < x1) (hy : y0 < y1) : bbTo (boxL x0 y0 x1 y1) 4 = (x0, y0, x1, y1) := by
  have e : bbTo (boxL x0 y0 x1 y1) 4 = (min (min (min (min x0 x0) x1) x1) x0, min (min (min (min y0 y0) y0) y1) y1, max (max (max (max x0 x0) x1) x1) x0, max (max (max (max y0 y0) y0) y1) y1) := rfl
  rw [e]
  refine Prod.ext ?_ (Prod.ext ?_ (Prod.ext ?_ ?_)) <;> simp only <;> omega
theorem has_boxL {x0 y0 x1 y1 px py : Int} (h0 : inP x0 y0) (h1 : inP x1 y1) (hx : x0 < x1) (hy : y0 < y1) : hasE (boxL x0 y0 x1 y1) (px, py) = boxHasB x0 y0 x1 y1 px py := by
  unfold boxHasB
  rw [decide_eq_true (boxCode_zero.2 ⟨h0, h1, by omega, by omega⟩)]
  by_cases hp : inP px py
  · rw [hasC h0 h1 hx hy hp, decide_eq_true hp]
    simp only [Bool.true_and, ← Bool.decide_and]
  · rw [decide_eq_false hp]
    unfold hasE
    rw [show okP (px, py) = false from decide_eq_false hp]
    simp

set_option maxRecDepth 100000 in
set_option maxHeartbeats 1000000 in
theorem boxes_out (x0 y0 x1 y1 px py : Int) (w : World) (hg : ErrT w) (h : ¬ (boxCode x0 y0 x1 y1 = 0 ∧ x0 ≠ x1 ∧ y0 ≠ y1)) :
    Calls Tryd.prog 7 #[.agg #[.int .i64 x0, .int .i64 y0, .int .i64 x1, .int .i64 y1], .agg #[.int .i64 px, .int .i64 py]] w fun e w' => e = .returned (.bool true) ∧ Below w.heap.size w w' := by
  have B0 : Below w.heap.size w ((w.alloc (.cells #[.int .i64 x0, .int .i64 y0, .int .i64 x1, .int .i64 y1] 39)).alloc (.cells #[.int .i64 px, .int .i64 py] 24)) := ((Below.refl _ _).alloc (Nat.le_refl _) _).alloc (by simp) _
  have M := Lib.hid (fun w => CheckBoxR_any x0 y0 x1 y1 w)
  have G := Lib.hid (fun w' (h : Below w.heap.size w w') => awake5_any w' (hg.below h hg.lt))
  have Q0 := Lib.hid ((quad_alloc w x0 y0 x1 y1 39 w.heap.size rfl).below ((Below.refl _ _).alloc (Nat.le_refl _) (.cells #[.int .i64 px, .int .i64 py] 24)))
  have T : (boxCode x0 y0 x1 y1 != 0) = true ∨ (boxCode x0 y0 x1 y1 = 0 ∧ ((x0 == x1) = true ∨ ((x0 == x1) = false ∧ (y0 == y1) = true))) := by
    by_cases c1 : boxCode x0 y0 x1 y1 = 0
    · by_cases c2 : x0 = x1
      · exact .inr ⟨c1, .inl (beq_iff_eq.2 c2)⟩
      · by_cases c3 : y0 = y1
        · exact .inr ⟨c1, .inr ⟨beq_eq_false_iff_ne.2 c2, beq_iff_eq.2 c3⟩⟩
        · exact absurd ⟨c1, c2, c3⟩ h
    · exact .inl (by simpa using c1)
  clear h hg
  generalize boxCode x0 y0 x1 y1 = k at *
  rcases T with t1 | ⟨rfl, t2 | ⟨t2, t3⟩⟩
  all_goals
    go_enter Tryd.func7, Tryd.ntmps7
    go_wp2_with fail
    refine (M.out _).mono ?_
    rintro e w1 ⟨rfl, b1⟩
    have B1 := B0.trans (b1.mono B0.size)
    obtain ⟨z0, z1, z2, z3⟩ := Q0.out.below b1
    go_wp2_with fail
    refine (G.out _ B1).mono ?_
    rintro e w2 ⟨rfl, b2⟩
    go_wp2_with fail
    go_ret
    exact ⟨rfl, B1.trans (b2.mono B1.size)⟩

set_option maxRecDepth 100000 in
set_option maxHeartbeats 4000000 in
theorem boxes_in (x0 y0 x1 y1 px py : Int) (w : World) (hg : ErrT w) (h0 : inP x0 y0) (h1 : inP x1 y1) (hx : x0 < x1) (hy : y0 < y1) :
    Calls Tryd.prog 7 #[.agg #[.int .i64 x0, .int .i64 y0, .int .i64 x1, .int .i64 y1], .agg #[.int .i64 px, .int .i64 py]] w fun e w' => e = .returned (.bool true) ∧ Below w.heap.size w w' := by
  have B0 : Below w.heap.size w ((w.alloc (.cells #[.int .i64 x0, .int .i64 y0, .int .i64 x1, .int .i64 y1] 39)).alloc (.cells #[.int .i64 px, .int .i64 py] 24)) := ((Below.refl _ _).alloc (Nat.le_refl _) _).alloc (by simp) _
  have M := Lib.hid (fun w => CheckBoxR_any x0 y0 x1 y1 w)
  rw [boxCode_zero.2 ⟨h0, h1, by omega, by omega⟩] at M
  have GT := Lib.hid (fun w' (h : Below w.heap.size w w') => hg.below h hg.lt)
  have Q0 := Lib.hid ((quad_alloc w x0 y0 x1 y1 39 w.heap.size rfl).below ((Below.refl _ _).alloc (Nat.le_refl _) (.cells #[.int .i64 px, .int .i64 py] 24)))
  have Y0 := Lib.hid (pair_alloc (w.alloc (.cells #[.int .i64 x0, .int .i64 y0, .int .i64 x1, .int .i64 y1] 39)) px py 24 (w.heap.size + 1) (by simp))
  have t1 : (x0 == x1) = false := beq_eq_false_iff_ne.2 (by omega)
  have t2 : (y0 == y1) = false := beq_eq_false_iff_ne.2 (by omega)
  have rB := boxL_ring h0 h1 hx hy
  have hA := area_pos hx hy
  obtain ⟨wB, lB, bB⟩ := twice_val2 rB areaB (by omega)
  have AD := Lib.hid (fun w => AddR_pos _ _ w hA hA (by omega))
  have AR := Lib.hid (fun w => AreaBox_ok x0 y0 x1 y1 w h0 h1 (by omega) (by omega))
  have CB := Lib.hid (fun v w (h : Pts w v (boxL x0 y0 x1 y1)) => Check_any v _ w h)
  have BB := Lib.hid (fun v w (h : Pts w v (boxL x0 y0 x1 y1)) => Box_any v _ w h)
  have HC := Lib.hid (fun v w (h : Pts w v (boxL x0 y0 x1 y1)) => Has_any v _ px py w h)
  have TB := Lib.hid (fun v w (h : Pts w v (boxL x0 y0 x1 y1)) => Twice_any v _ w h)
  have LB := Lib.hid (fun v w (h : Pts w v (boxL x0 y0 x1 y1)) => Left_any v _ w h)
  have BH := Lib.hid (fun w => BoxHas_any x0 y0 x1 y1 px py w)
  have hbb : bbE (boxL x0 y0 x1 y1) = (x0, y0, x1, y1) := by
    unfold bbE
    rw [ringOk_yes rB]
    exact bb_boxL hx hy
  rw [rB] at CB BB
  rw [hbb] at BB
  rw [wB] at TB
  rw [lB] at LB
  rw [has_boxL h0 h1 hx hy] at HC
  clear rB wB lB bB hA h0 h1 hx hy hg hbb
  generalize (x1 - x0) * (y1 - y0) = A at *
  generalize boxHasB x0 y0 x1 y1 px py = sH at *
  have U2 := Lib.hid (fun w => u_any 0 (A + A) w)
  have t7 : (A + A == A + A) = true := by simp
  have t8 : (sH == sH) = true := by simp
  go_enter Tryd.func7, Tryd.ntmps7
  go_wp2_with fail
  refine (M.out _).mono ?_
  rintro e w2 ⟨rfl, b1⟩
  have B2 := B0.trans (b1.mono B0.size)
  have Q2 := Lib.hid (Q0.out.below b1)
  have Y2 := Lib.hid (Y0.out.below b1)
  obtain ⟨z0, z1, z2, z3⟩ := Q2.out
  have P3 := Lib.hid (show Pts (w2.alloc (.cells #[.int .i64 x0, .int .i64 y0, .int .i64 x1, .int .i64 y0, .int .i64 x1, .int .i64 y1, .int .i64 x0, .int .i64 y1] 24)) (.slice (some ⟨w2.heap.size, 0, none⟩) 4 4) (boxL x0 y0 x1 y1) from pts4 w2 _ _ rfl _ _ _ _ _ _ _ _)
  have b23 : Below w2.heap.size w2 (w2.alloc (.cells #[.int .i64 x0, .int .i64 y0, .int .i64 x1, .int .i64 y0, .int .i64 x1, .int .i64 y1, .int .i64 x0, .int .i64 y1] 24)) := (Below.refl _ _).alloc (Nat.le_refl _) _
  go_wp2_with fail
  refine (BB.out _ _ P3.out).mono ?_
  rintro e w4 ⟨u, rfl, rfl, d1⟩
  have d24 := b23.trans (d1.mono b23.size)
  have d25 := d24.alloc d24.size (.cells #[.int .i64 x0, .int .i64 y0, .int .i64 x1, .int .i64 y1] 39)
  have P5 := Lib.hid ((P3.out.below d1).alloc (.cells #[.int .i64 x0, .int .i64 y0, .int .i64 x1, .int .i64 y1] 39))
  have S5 := Lib.hid (quad_alloc w4 x0 y0 x1 y1 39 w4.heap.size rfl)
  clear z0 z1 z2 z3
  obtain ⟨z0, z1, z2, z3⟩ := Q2.out.below d25
  unfold bxAgg
  simp only
  go_wp2_with fail
  refine (AR.out _).mono ?_
  rintro e w6 ⟨rfl, d2⟩
  have d26 := d25.trans (d2.mono d25.size)
  have P6 := Lib.hid (P5.out.below d2)
  have S6 := Lib.hid (S5.out.below d2)
  have V7 := Lib.hid (pairU_alloc w6 0 A 42 w6.heap.size rfl)
  obtain ⟨y0', y1', _, _⟩ := V7.out
  have d67 : Below w6.heap.size w6 (w6.alloc (.cells #[.int .u64 0, .int .u64 A] 42)) := (Below.refl _ _).alloc (Nat.le_refl _) _
  go_wp2_with fail
  refine (AD.out _).mono ?_
  rintro e w8 ⟨rfl, d3⟩
  have d68 := d67.trans (d3.mono d67.size)
  have d69 := d68.alloc d68.size (.cells #[.int .u64 0, .int .u64 (A + A)] 42)
  have V9 := Lib.hid (pairU_alloc w8 0 (A + A) 42 w8.heap.size rfl)
  have d29 := d26.trans (d69.mono d26.size)
  go_wp2_with fail
  generalize w8.alloc (.cells #[.int .u64 0, .int .u64 (A + A)] 42) = w9 at *
  have XS := Lib.hid (show ∀ w', Below w9.heap.size w9 w' → w'.cell? ⟨w.heap.size, 0, none⟩ = some (.int .i64 x0) ∧ w'.cell? ⟨w.heap.size, 1, none⟩ = some (.int .i64 y0) ∧ w'.cell? ⟨w.heap.size, 2, none⟩ = some (.int .i64 x1) ∧ w'.cell? ⟨w.heap.size, 3, none⟩ = some (.int .i64 y1) ∧ w'.cell? ⟨w4.heap.size, 0, none⟩ = some (.int .i64 x0) ∧ w'.cell? ⟨w4.heap.size, 1, none⟩ = some (.int .i64 y0) ∧ w'.cell? ⟨w4.heap.size, 2, none⟩ = some (.int .i64 x1) ∧ w'.cell? ⟨w4.heap.size, 3, none⟩ = some (.int .i64 y1) ∧ w'.cell? ⟨w.heap.size + 1, 0, none⟩ = some (.int .i64 px) ∧ w'.cell? ⟨w.heap.size + 1, 1, none⟩ = some (.int .i64 py) ∧ w'.cell? ⟨w8.heap.size, 0, none⟩ = some (.int .u64 0) ∧ w'.cell? ⟨w8.heap.size, 1, none⟩ = some (.int .u64 (A + A)) from fun w' h => by
    obtain ⟨a0, a1, a2, a3⟩ := Q2.out.below (d29.trans (h.mono d29.size))
    obtain ⟨c0, c1, c2, c3⟩ := S6.out.below (d69.trans (h.mono d69.size))
    obtain ⟨e0, e1⟩ := Y2.out.below (d29.trans (h.mono d29.size))
    exact ⟨a0, a1, a2, a3, c0, c1, c2, c3, e0, e1, (V9.out.below h).c0, (V9.out.below h).c1⟩)
  have PB := Lib.hid (show ∀ w', Below w9.heap.size w9 w' → Pts w' _ (boxL x0 y0 x1 y1) from fun w' h => P6.out.below (d69.trans (h.mono d69.size)))
  have BW := B2.trans (d29.mono B2.size)
  have G9 := Lib.hid (show ∀ w', Below w9.heap.size w9 w' → ErrT w' from fun w' h => GT.out _ (BW.trans (h.mono BW.size)))
  clear z0 z1 z2 z3 y0' y1' d1 d24 d25 d2 d26 d67 d3 d68 d69 d29 P3 P5 P6 S5 S6 V7 V9 Q2 Y2 Q0 Y0 B0 B2 b1 b23
  refine wp_region_noPanic ?_
  refine wp_region_held_drew (S := fun w' => Below w9.heap.size w9 w') (by kernel_rfl) (Below.refl _ _).drew (fun hHeld => ?_)
  generalize w9.drew = D at hHeld ⊢
  have r1 : Below w9.heap.size w9 D := hHeld
  refine wpAnyH_take (i := 0) (oi := ⟨some 65, _, _, _, _, _⟩) (v := ?qv0bx) rfl (by kernel_rfl) (by kernel_rfl) (by kernel_rfl) (fun _ _ _ h => h) (Or.inl ⟨by rfl, ?qy0bx⟩) hHeld ?qr0bx
  case qy0bx => (intro w' hSw; go_simp; try with_reducible rfl)
  try simp only [Act.put, List.setIfInBounds_toArray, List.set_cons_zero, List.set_cons_succ]
  refine wpAnyH_ready (rs := [1]) (by kernel_rfl) (by simp) ?_
  refine AllReadyH.cons (o := ⟨some 66, _, _, _, _, _⟩) rfl (fun K hK => ?_) AllReadyH.nil
  refine step_go (by rfl) 14 _ _ (by rfl) (fun _ _ => by kernel_rfl) _ (by rfl) (CB.out _ _ (PB.out _ r1)) ?_
  rintro e x1 ⟨_, rfl, rfl, q1⟩
  refine ⟨_, rfl, ?_⟩
  have r2 := r1.trans (q1.mono r1.size)
  refine hK.out _ _ (r2) (fun hHeld => ?_)
  clear hK K
  try simp only [Act.put, List.setIfInBounds_toArray, List.set_cons_zero, List.set_cons_succ]
  refine wpAnyH_take (i := 2) (oi := ⟨some 67, _, _, _, _, _⟩) (v := ?qv2bx) rfl (by kernel_rfl) (by kernel_rfl) (by kernel_rfl) (fun _ _ _ h => h) (Or.inl ⟨by rfl, ?qy2bx⟩) hHeld ?qr2bx
  case qy2bx => (intro w' hSw; go_simp; try with_reducible rfl)
  try simp only [Act.put, List.setIfInBounds_toArray, List.set_cons_zero, List.set_cons_succ]
  refine wpAnyH_take (i := 3) (oi := ⟨some 68, _, _, _, _, _⟩) (v := ?qv3bx) rfl (by kernel_rfl) (by kernel_rfl) (by kernel_rfl) (fun _ _ _ h => h) (Or.inl ⟨by rfl, ?qy3bx⟩) hHeld ?qr3bx
  case qy3bx => (intro w' hSw; go_simp; try with_reducible rfl)
  try simp only [Act.put, List.setIfInBounds_toArray, List.set_cons_zero, List.set_cons_succ]
  refine wpAnyH_take (i := 4) (oi := ⟨some 69, _, _, _, _, _⟩) (v := ?qv4bx) rfl (by kernel_rfl) (by kernel_rfl) (by kernel_rfl) (fun _ _ _ h => h) (Or.inl ⟨by rfl, ?qy4bx⟩) hHeld ?qr4bx
  case qy4bx => (intro w' hSw; go_simp; try with_reducible rfl)
  try simp only [Act.put, List.setIfInBounds_toArray, List.set_cons_zero, List.set_cons_succ]
  refine wpAnyH_take (i := 5) (oi := ⟨some 70, _, _, _, _, _⟩) (v := ?qv5bx) rfl (by kernel_rfl) (by kernel_rfl) (by kernel_rfl) (fun _ _ _ h => h) (Or.inl ⟨by rfl, ?qy5bx⟩) hHeld ?qr5bx
  case qy5bx => (intro w' hSw; go_simp; try with_reducible rfl)
  try simp only [Act.put, List.setIfInBounds_toArray, List.set_cons_zero, List.set_cons_succ]
  refine wpAnyH_take (i := 6) (oi := ⟨some 71, _, _, _, _, _⟩) (v := ?qv6bx) rfl (by kernel_rfl) (by kernel_rfl) (by kernel_rfl) (fun _ _ _ h => h) (Or.inl ⟨by rfl, ?qy6bx⟩) hHeld ?qr6bx
  case qy6bx => (intro w' hSw; go_simp; try with_reducible rfl)
  try simp only [Act.put, List.setIfInBounds_toArray, List.set_cons_zero, List.set_cons_succ]
  refine wpAnyH_take (i := 7) (oi := ⟨some 72, _, _, _, _, _⟩) (v := ?qv7bx) rfl (by kernel_rfl) (by kernel_rfl) (by kernel_rfl) (fun _ _ _ h => h) (Or.inl ⟨by rfl, ?qy7bx⟩) hHeld ?qr7bx
  case qy7bx => (intro w' hSw; go_simp; try with_reducible rfl)
  try simp only [Act.put, List.setIfInBounds_toArray, List.set_cons_zero, List.set_cons_succ]
  refine wpAnyH_take (i := 8) (oi := ⟨some 73, _, _, _, _, _⟩) (v := ?qv8bx) rfl (by kernel_rfl) (by kernel_rfl) (by kernel_rfl) (fun _ _ _ h => h) (Or.inl ⟨by rfl, ?qy8bx⟩) hHeld ?qr8bx
  case qy8bx => (intro w' hSw; obtain ⟨z0, z1, z2, z3, z4, z5, z6, z7, z8, z9, y0, y1⟩ := XS.out w' hSw; go_simp; try with_reducible rfl)
  try simp only [Act.put, List.setIfInBounds_toArray, List.set_cons_zero, List.set_cons_succ]
  refine wpAnyH_take (i := 9) (oi := ⟨some 74, _, _, _, _, _⟩) (v := ?qv9bx) rfl (by kernel_rfl) (by kernel_rfl) (by kernel_rfl) (fun _ _ _ h => h) (Or.inl ⟨by rfl, ?qy9bx⟩) hHeld ?qr9bx
  case qy9bx => (intro w' hSw; obtain ⟨z0, z1, z2, z3, z4, z5, z6, z7, z8, z9, y0, y1⟩ := XS.out w' hSw; go_simp; try with_reducible rfl)
  try simp only [Act.put, List.setIfInBounds_toArray, List.set_cons_zero, List.set_cons_succ]
  refine wpAnyH_take (i := 10) (oi := ⟨some 75, _, _, _, _, _⟩) (v := ?qv10bx) rfl (by kernel_rfl) (by kernel_rfl) (by kernel_rfl) (fun _ _ _ h => h) (Or.inl ⟨by rfl, ?qy10bx⟩) hHeld ?qr10bx
  case qy10bx => (intro w' hSw; go_simp; try with_reducible rfl)
  try simp only [Act.put, List.setIfInBounds_toArray, List.set_cons_zero, List.set_cons_succ]
  refine wpAnyH_take (i := 11) (oi := ⟨some 76, _, _, _, _, _⟩) (v := ?qv11bx) rfl (by kernel_rfl) (by kernel_rfl) (by kernel_rfl) (fun _ _ _ h => h) (Or.inl ⟨by rfl, ?qy11bx⟩) hHeld ?qr11bx
  case qy11bx => (intro w' hSw; go_simp; try with_reducible rfl)
  try simp only [Act.put, List.setIfInBounds_toArray, List.set_cons_zero, List.set_cons_succ]
  refine wpAnyH_take (i := 12) (oi := ⟨some 77, _, _, _, _, _⟩) (v := ?qv12bx) rfl (by kernel_rfl) (by kernel_rfl) (by kernel_rfl) (fun _ _ _ h => h) (Or.inl ⟨by rfl, ?qy12bx⟩) hHeld ?qr12bx
  case qy12bx => (intro w' hSw; go_simp; try with_reducible rfl)
  try simp only [Act.put, List.setIfInBounds_toArray, List.set_cons_zero, List.set_cons_succ]
  refine wpAnyH_take (i := 13) (oi := ⟨some 78, _, _, _, _, _⟩) (v := ?qv13bx) rfl (by kernel_rfl) (by kernel_rfl) (by kernel_rfl) (fun _ _ _ h => h) (Or.inl ⟨by rfl, ?qy13bx⟩) hHeld ?qr13bx
  case qy13bx => (intro w' hSw; go_simp; try with_reducible rfl)
  try simp only [Act.put, List.setIfInBounds_toArray, List.set_cons_zero, List.set_cons_succ]
  refine wpAnyH_ready (rs := [14]) (by kernel_rfl) (by simp) ?_
  refine AllReadyH.cons (o := ⟨some 79, _, _, _, _, _⟩) rfl (fun K hK => ?_) AllReadyH.nil
  refine step_go (by rfl) 16 _ _ (by rfl) (fun _ _ => by kernel_rfl) _ (by rfl) (LB.out _ _ (PB.out _ r2)) ?_
  rintro e x2 ⟨rfl, q2⟩
  refine ⟨_, rfl, ?_⟩
  have r3 := r2.trans (q2.mono r2.size)
  refine hK.out _ _ (r3) (fun hHeld => ?_)
  clear hK K
  try simp only [Act.put, List.setIfInBounds_toArray, List.set_cons_zero, List.set_cons_succ]
  refine wpAnyH_take (i := 15) (oi := ⟨some 80, _, _, _, _, _⟩) (v := ?qv15bx) rfl (by kernel_rfl) (by kernel_rfl) (by kernel_rfl) (fun _ _ _ h => h) (Or.inl ⟨by rfl, ?qy15bx⟩) hHeld ?qr15bx
  case qy15bx => (intro w' hSw; go_simp; try with_reducible rfl)
  try simp only [Act.put, List.setIfInBounds_toArray, List.set_cons_zero, List.set_cons_succ]
  refine wpAnyH_take (i := 16) (oi := ⟨some 81, _, _, _, _, _⟩) (v := ?qv16bx) rfl (by kernel_rfl) (by kernel_rfl) (by kernel_rfl) (fun _ _ _ h => h) (Or.inl ⟨by rfl, ?qy16bx⟩) hHeld ?qr16bx
  case qy16bx => (intro w' hSw; go_simp; try with_reducible rfl)
  try simp only [Act.put, List.setIfInBounds_toArray, List.set_cons_zero, List.set_cons_succ]
  refine wpAnyH_take (i := 17) (oi := ⟨some 82, _, _, _, _, _⟩) (v := ?qv17bx) rfl (by kernel_rfl) (by kernel_rfl) (by kernel_rfl) (fun _ _ _ h => h) (Or.inl ⟨by rfl, ?qy17bx⟩) hHeld ?qr17bx
  case qy17bx => (intro w' hSw; go_simp; try with_reducible rfl)
  try simp only [Act.put, List.setIfInBounds_toArray, List.set_cons_zero, List.set_cons_succ]
  refine wpAnyH_take (i := 20) (oi := ⟨some 85, _, _, _, _, _⟩) (v := ?qv20bx) rfl (by kernel_rfl) (by kernel_rfl) (by kernel_rfl) (fun _ _ _ h => h) (Or.inl ⟨by rfl, ?qy20bx⟩) hHeld ?qr20bx
  case qy20bx => (intro w' hSw; obtain ⟨z0, z1, z2, z3, z4, z5, z6, z7, z8, z9, y0, y1⟩ := XS.out w' hSw; go_simp; try with_reducible rfl)
  try simp only [Act.put, List.setIfInBounds_toArray, List.set_cons_zero, List.set_cons_succ]
  refine wpAnyH_ready (rs := [18]) (by kernel_rfl) (by simp) ?_
  refine AllReadyH.cons (o := ⟨some 83, _, _, _, _, _⟩) rfl (fun K hK => ?_) AllReadyH.nil
  refine step_go (by rfl) 17 _ _ (by rfl) (fun _ _ => by kernel_rfl) _ (by rfl) (TB.out _ _ (PB.out _ r3)) ?_
  rintro e x3 ⟨rfl, q3⟩
  refine ⟨_, rfl, ?_⟩
  have r4 := r3.trans (q3.mono r3.size)
  refine hK.out _ _ (r4) (fun hHeld => ?_)
  clear hK K
  try simp only [Act.put, List.setIfInBounds_toArray, List.set_cons_zero, List.set_cons_succ]
  refine wpAnyH_ready (rs := [19]) (by kernel_rfl) (by simp) ?_
  refine AllReadyH.cons (o := ⟨some 84, _, _, _, _, _⟩) rfl (fun K hK => ?_) AllReadyH.nil
  refine step_go (by rfl) 21 _ _ (by rfl) (fun _ _ => by kernel_rfl) _ (by rfl) (U2.out _) ?_
  rintro e x4 ⟨rfl, q4⟩
  refine ⟨_, rfl, ?_⟩
  have r5 := r4.trans (q4.mono r4.size)
  refine hK.out _ _ (r5) (fun hHeld => ?_)
  clear hK K
  try simp only [Act.put, List.setIfInBounds_toArray, List.set_cons_zero, List.set_cons_succ]
  refine wpAnyH_take (i := 21) (oi := ⟨some 86, _, _, _, _, _⟩) (v := ?qv21bx) rfl (by kernel_rfl) (by kernel_rfl) (by kernel_rfl) (fun _ _ _ h => h) (Or.inl ⟨by rfl, ?qy21bx⟩) hHeld ?qr21bx
  case qy21bx => (intro w' hSw; go_simp; try with_reducible rfl)
  try simp only [Act.put, List.setIfInBounds_toArray, List.set_cons_zero, List.set_cons_succ]
  refine wpAnyH_take (i := 22) (oi := ⟨some 87, _, _, _, _, _⟩) (v := ?qv22bx) rfl (by kernel_rfl) (by kernel_rfl) (by kernel_rfl) (fun _ _ _ h => h) (Or.inl ⟨by rfl, ?qy22bx⟩) hHeld ?qr22bx
  case qy22bx => (intro w' hSw; go_simp; try with_reducible rfl)
  try simp only [Act.put, List.setIfInBounds_toArray, List.set_cons_zero, List.set_cons_succ]
  refine wpAnyH_take (i := 23) (oi := ⟨some 88, _, _, _, _, _⟩) (v := ?qv23bx) rfl (by kernel_rfl) (by kernel_rfl) (by kernel_rfl) (fun _ _ _ h => h) (Or.inl ⟨by rfl, ?qy23bx⟩) hHeld ?qr23bx
  case qy23bx => (intro w' hSw; go_simp; try with_reducible rfl)
  try simp only [Act.put, List.setIfInBounds_toArray, List.set_cons_zero, List.set_cons_succ]
  refine wpAnyH_take (i := 24) (oi := ⟨some 89, _, _, _, _, _⟩) (v := ?qv24bx) rfl (by kernel_rfl) (by kernel_rfl) (by kernel_rfl) (fun _ _ _ h => h) (Or.inl ⟨by rfl, ?qy24bx⟩) hHeld ?qr24bx
  case qy24bx => (intro w' hSw; go_simp; try with_reducible rfl)
  try simp only [Act.put, List.setIfInBounds_toArray, List.set_cons_zero, List.set_cons_succ]
  refine wpAnyH_take (i := 25) (oi := ⟨some 90, _, _, _, _, _⟩) (v := ?qv25bx) rfl (by kernel_rfl) (by kernel_rfl) (by kernel_rfl) (fun _ _ _ h => h) (Or.inl ⟨by rfl, ?qy25bx⟩) hHeld ?qr25bx
  case qy25bx => (intro w' hSw; obtain ⟨z0, z1, z2, z3, z4, z5, z6, z7, z8, z9, y0, y1⟩ := XS.out w' hSw; go_simp; try with_reducible rfl)
  try simp only [Act.put, List.setIfInBounds_toArray, List.set_cons_zero, List.set_cons_succ]
  refine wpAnyH_take (i := 27) (oi := ⟨some 92, _, _, _, _, _⟩) (v := ?qv27bx) rfl (by kernel_rfl) (by kernel_rfl) (by kernel_rfl) (fun _ _ _ h => h) (Or.inl ⟨by rfl, ?qy27bx⟩) hHeld ?qr27bx
  case qy27bx => (intro w' hSw; obtain ⟨z0, z1, z2, z3, z4, z5, z6, z7, z8, z9, y0, y1⟩ := XS.out w' hSw; go_simp; try with_reducible rfl)
  try simp only [Act.put, List.setIfInBounds_toArray, List.set_cons_zero, List.set_cons_succ]
  refine wpAnyH_take (i := 28) (oi := ⟨some 93, _, _, _, _, _⟩) (v := ?qv28bx) rfl (by kernel_rfl) (by kernel_rfl) (by kernel_rfl) (fun _ _ _ h => h) (Or.inl ⟨by rfl, ?qy28bx⟩) hHeld ?qr28bx
  case qy28bx => (intro w' hSw; obtain ⟨z0, z1, z2, z3, z4, z5, z6, z7, z8, z9, y0, y1⟩ := XS.out w' hSw; go_simp; try with_reducible rfl)
  try simp only [Act.put, List.setIfInBounds_toArray, List.set_cons_zero, List.set_cons_succ]
  refine wpAnyH_ready (rs := [26]) (by kernel_rfl) (by simp) ?_
  refine AllReadyH.cons (o := ⟨some 91, _, _, _, _, _⟩) rfl (fun K hK => ?_) AllReadyH.nil
  refine step_go (by rfl) 15 _ _ (by rfl) (fun _ _ => by kernel_rfl) _ (by rfl) (HC.out _ _ (PB.out _ r5)) ?_
  rintro e x5 ⟨rfl, q5⟩
  refine ⟨_, rfl, ?_⟩
  have r6 := r5.trans (q5.mono r5.size)
  refine hK.out _ _ (r6) (fun hHeld => ?_)
  clear hK K
  try simp only [Act.put, List.setIfInBounds_toArray, List.set_cons_zero, List.set_cons_succ]
  refine wpAnyH_ready (rs := [29]) (by kernel_rfl) (by simp) ?_
  refine AllReadyH.cons (o := ⟨some 94, _, _, _, _, _⟩) rfl (fun K hK => ?_) AllReadyH.nil
  refine step_go (by rfl) 27 _ _ (by rfl) (fun _ _ => by kernel_rfl) _ (by rfl) (BH.out _) ?_
  rintro e x6 ⟨rfl, q6⟩
  refine ⟨_, rfl, ?_⟩
  have r7 := r6.trans (q6.mono r6.size)
  refine hK.out _ _ (r7) (fun hHeld => ?_)
  clear hK K
  try simp only [Act.put, List.setIfInBounds_toArray, List.set_cons_zero, List.set_cons_succ]
  refine wpAnyH_take (i := 30) (oi := ⟨some 95, _, _, _, _, _⟩) (v := ?qv30bx) rfl (by kernel_rfl) (by kernel_rfl) (by kernel_rfl) (fun _ _ _ h => h) (Or.inl ⟨by rfl, ?qy30bx⟩) hHeld ?qr30bx
  case qy30bx => (intro w' hSw; go_simp; try with_reducible rfl)
  try simp only [Act.put, List.setIfInBounds_toArray, List.set_cons_zero, List.set_cons_succ]
  refine wpAnyH_take (i := 31) (oi := ⟨some 96, _, _, _, _, _⟩) (v := ?qv31bx) rfl (by kernel_rfl) (by kernel_rfl) (by kernel_rfl) (fun _ _ _ h => h) (Or.inl ⟨by rfl, ?qy31bx⟩) hHeld ?qr31bx
  case qy31bx => (intro w' hSw; go_simp; try with_reducible rfl)
  try simp only [Act.put, List.setIfInBounds_toArray, List.set_cons_zero, List.set_cons_succ]
  refine wpAnyH_take (i := 32) (oi := ⟨some 97, _, _, _, _, _⟩) (v := ?qv32bx) rfl (by kernel_rfl) (by kernel_rfl) (by kernel_rfl) (fun _ _ _ h => h) (Or.inl ⟨by rfl, ?qy32bx⟩) hHeld ?qr32bx
  case qy32bx => (intro w' hSw; go_simp; try with_reducible rfl)
  try simp only [Act.put, List.setIfInBounds_toArray, List.set_cons_zero, List.set_cons_succ]
  refine wpAnyH_ready (rs := [33]) (by kernel_rfl) (by simp) ?_
  refine AllReadyH.cons (o := ⟨some 98, _, _, _, _, _⟩) rfl (fun K hK => ?_) AllReadyH.nil
  refine step_go (by rfl) 11 _ _ (by rfl) (fun _ _ => by kernel_rfl) _ (by rfl) (awake5_any _ (G9.out _ r7)) ?_
  rintro e x7 ⟨rfl, q7⟩
  refine ⟨_, rfl, ?_⟩
  have r8 := r7.trans (q7.mono r7.size)
  refine hK.out _ _ (r8) (fun hHeld => ?_)
  clear hK K
  try simp only [Act.put, List.setIfInBounds_toArray, List.set_cons_zero, List.set_cons_succ]
  refine wpAnyH_take (i := 34) (oi := ⟨some 99, _, _, _, _, _⟩) (v := ?qv34bx) rfl (by kernel_rfl) (by kernel_rfl) (by kernel_rfl) (fun _ _ _ h => h) (Or.inl ⟨by rfl, ?qy34bx⟩) hHeld ?qr34bx
  case qy34bx => (intro w' hSw; go_simp; try with_reducible rfl)
  try simp only [Act.put, List.setIfInBounds_toArray, List.set_cons_zero, List.set_cons_succ]
  refine wpAnyH_take (i := 35) (oi := ⟨some 4, _, _, _, _, _⟩) (v := ?qv35bx) rfl (by kernel_rfl) (by kernel_rfl) (by kernel_rfl) (fun _ _ _ h => h) (Or.inl ⟨by rfl, ?qy35bx⟩) hHeld ?qr35bx
  case qy35bx => (intro w' hSw; go_simp; try with_reducible rfl)
  try simp only [Act.put, List.setIfInBounds_toArray, List.set_cons_zero, List.set_cons_succ]
  refine wpAnyH_done (by kernel_rfl) ?_ _
  refine NoPanic.normal ?_
  go_wp2_with fail
  go_ret
  exact ⟨rfl, BW.trans (r8.mono BW.size)⟩

set_option maxRecDepth 100000 in
theorem ringBoxes_calls {H : Type} {enc : TypeId × Value → H} {W : World} {base : Nat} {v0 v1 : Value} {d0 d1 : DataW H} {p0 p1 : List MemPlace} (hg : ErrT W)
    (o0 : Value.okWide Tryd.prog W .any base 39 v0) (h0 : DataW.Trod enc Tryd.prog W 0 (fun _ => true) true 39 v0 d0 p0)
    (o1 : Value.okWide Tryd.prog W .any base 24 v1) (h1 : DataW.Trod enc Tryd.prog W 0 (fun _ => true) true 24 v1 d1 p1) :
    Calls Tryd.prog 7 #[v0, v1] W fun e w' => e = .returned (.bool true) ∧ Below W.heap.size W w' := by
  obtain ⟨a, b, c, d, rfl⟩ := view_box o0 h0
  obtain ⟨x, y, rfl, _⟩ := view_pt o1 h1
  by_cases h : boxCode a b c d = 0 ∧ a ≠ c ∧ b ≠ d
  · obtain ⟨h1, h2, h3, h4⟩ := boxCode_zero.1 h.1
    exact boxes_in a b c d x y W hg h1 h2 (by omega) (by omega)
  · exact boxes_out a b c d x y W hg h
end Go.Proofs.YtpmngdgifdkohaaDoor
