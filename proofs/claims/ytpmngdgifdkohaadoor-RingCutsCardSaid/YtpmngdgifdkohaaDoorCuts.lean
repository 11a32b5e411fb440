/- RingCuts answers true, whatever it is given. -/
import Derived.Test.YtpmngdgifdkohaaDoorAddR
namespace Go.Proofs.YtpmngdgifdkohaaDoor
open Go.RowKit Go.ChangeShapes Go.WideShapes

/-! ### the law -/
theorem cut_law {x0 y0 x1 y1 px py : Int} (h0 : inP x0 y0) (h1 : inP x1 y1) (hx : x0 < x1) (hy : y0 < y1) (hp : inP px py) :
    hasE (boxL x0 y0 x1 y1) (px, py) = (hasE (triS x0 y0 x1 y1) (px, py) || hasE (triT x0 y0 x1 y1) (px, py)) ∧
    (hasE (triS x0 y0 x1 y1) (px, py) = true → hasE (triT x0 y0 x1 y1) (px, py) = true → onB (x0, y0) (x1, y1) (px, py) = true) := by
  rw [hasS h0 h1 hx hy hp, hasT h0 h1 hx hy hp, hasC h0 h1 hx hy hp]
  constructor
  · rw [← Bool.decide_or]
    exact decide_eq_decide.2 (by omega)
  · intro a b
    have a' := of_decide_eq_true a
    have b' := of_decide_eq_true b
    unfold onB
    rw [show okP (x0, y0) = true from decide_eq_true h0, show okP (x1, y1) = true from decide_eq_true h1, show okP (px, py) = true from decide_eq_true hp, decide_eq_true (show crs (x0, y0) (x1, y1) (px, py) = 0 by omega)]
    unfold boxB
    simp only
    rw [decide_eq_true (by omega)]
    rfl

set_option maxRecDepth 100000 in
set_option maxHeartbeats 1000000 in
theorem cuts_out (x0 y0 x1 y1 px py : Int) (w : World) (hg : ErrT w) (h : ¬ (boxCode x0 y0 x1 y1 = 0 ∧ x0 ≠ x1 ∧ y0 ≠ y1 ∧ inP px py)) :
    Calls Tryd.prog 4 #[.agg #[.int .i64 x0, .int .i64 y0, .int .i64 x1, .int .i64 y1], .agg #[.int .i64 px, .int .i64 py]] w fun e w' => e = .returned (.bool true) ∧ Below w.heap.size w w' := by
  have B0 : Below w.heap.size w ((w.alloc (.cells #[.int .i64 x0, .int .i64 y0, .int .i64 x1, .int .i64 y1] 39)).alloc (.cells #[.int .i64 px, .int .i64 py] 24)) := ((Below.refl _ _).alloc (Nat.le_refl _) _).alloc (by simp) _
  have M := Lib.hid (fun w => CheckBoxR_any x0 y0 x1 y1 w)
  have P := Lib.hid (fun w => Point_any px py w)
  have G := Lib.hid (fun w' (h : Below w.heap.size w w') => awake5_any w' (hg.below h hg.lt))
  have Q0 := Lib.hid ((quad_alloc w x0 y0 x1 y1 39 w.heap.size rfl).below ((Below.refl _ _).alloc (Nat.le_refl _) (.cells #[.int .i64 px, .int .i64 py] 24)))
  have Y0 := Lib.hid (pair_alloc (w.alloc (.cells #[.int .i64 x0, .int .i64 y0, .int .i64 x1, .int .i64 y1] 39)) px py 24 (w.heap.size + 1) (by simp))
  have T : (boxCode x0 y0 x1 y1 != 0) = true ∨ (boxCode x0 y0 x1 y1 = 0 ∧ ((x0 == x1) = true ∨ ((x0 == x1) = false ∧ ((y0 == y1) = true ∨ ((y0 == y1) = false ∧ decide (inP px py) = false))))) := by
    by_cases c1 : boxCode x0 y0 x1 y1 = 0
    · by_cases c2 : x0 = x1
      · exact .inr ⟨c1, .inl (beq_iff_eq.2 c2)⟩
      · by_cases c3 : y0 = y1
        · exact .inr ⟨c1, .inr ⟨beq_eq_false_iff_ne.2 c2, .inl (beq_iff_eq.2 c3)⟩⟩
        · exact .inr ⟨c1, .inr ⟨beq_eq_false_iff_ne.2 c2, .inr ⟨beq_eq_false_iff_ne.2 c3, decide_eq_false fun k => h ⟨c1, c2, c3, k⟩⟩⟩⟩
    · exact .inl (by simpa using c1)
  clear h hg
  generalize boxCode x0 y0 x1 y1 = k at *
  generalize decide (inP px py) = q at *
  rcases T with t1 | ⟨rfl, t2 | ⟨t2, t3 | ⟨t3, rfl⟩⟩⟩
  iterate 3
    · go_enter Tryd.func4, Tryd.ntmps4
      go_wp2_with fail
      refine (M.out _).mono ?_
      rintro e w1 ⟨rfl, b1⟩
      have B1 := B0.trans (b1.mono B0.size)
      obtain ⟨z0, z1, z2, z3⟩ := Q0.out.below b1
      go_wp2_with fail
      refine (G.out _ B1).mono ?_
      rintro e w2 ⟨rfl, b2⟩
      go_wp2_with fail
      go_ret
      exact ⟨rfl, B1.trans (b2.mono B1.size)⟩
  · go_enter Tryd.func4, Tryd.ntmps4
    go_wp2_with fail
    refine (M.out _).mono ?_
    rintro e w1 ⟨rfl, b1⟩
    have B1 := B0.trans (b1.mono B0.size)
    obtain ⟨z0, z1, z2, z3⟩ := Q0.out.below b1
    obtain ⟨z4, z5⟩ := Y0.out.below b1
    go_wp2_with fail
    refine (P.out _).mono ?_
    rintro e w2 ⟨rfl, b2⟩
    have B2 := B1.trans (b2.mono B1.size)
    go_wp2_with fail
    refine (G.out _ B2).mono ?_
    rintro e w3 ⟨rfl, b3⟩
    go_wp2_with fail
    go_ret
    exact ⟨rfl, B2.trans (b3.mono B2.size)⟩

set_option maxRecDepth 100000 in
set_option maxHeartbeats 8000000 in
theorem cuts_in (x0 y0 x1 y1 px py : Int) (w : World) (hg : ErrT w) (h0 : inP x0 y0) (h1 : inP x1 y1) (hx : x0 < x1) (hy : y0 < y1) (hp : inP px py) :
    Calls Tryd.prog 4 #[.agg #[.int .i64 x0, .int .i64 y0, .int .i64 x1, .int .i64 y1], .agg #[.int .i64 px, .int .i64 py]] w fun e w' => e = .returned (.bool true) ∧ Below w.heap.size w w' := by
  have B0 : Below w.heap.size w ((w.alloc (.cells #[.int .i64 x0, .int .i64 y0, .int .i64 x1, .int .i64 y1] 39)).alloc (.cells #[.int .i64 px, .int .i64 py] 24)) := ((Below.refl _ _).alloc (Nat.le_refl _) _).alloc (by simp) _
  have M := Lib.hid (fun w => CheckBoxR_any x0 y0 x1 y1 w)
  rw [boxCode_zero.2 ⟨h0, h1, by omega, by omega⟩] at M
  have P := Lib.hid (fun w => Point_any px py w)
  rw [decide_eq_true hp] at P
  have GT := Lib.hid (fun w' (h : Below w.heap.size w w') => hg.below h hg.lt)
  have Q0 := Lib.hid ((quad_alloc w x0 y0 x1 y1 39 w.heap.size rfl).below ((Below.refl _ _).alloc (Nat.le_refl _) (.cells #[.int .i64 px, .int .i64 py] 24)))
  have Y0 := Lib.hid (pair_alloc (w.alloc (.cells #[.int .i64 x0, .int .i64 y0, .int .i64 x1, .int .i64 y1] 39)) px py 24 (w.heap.size + 1) (by simp))
  have t1 : (x0 == x1) = false := beq_eq_false_iff_ne.2 (by omega)
  have t2 : (y0 == y1) = false := beq_eq_false_iff_ne.2 (by omega)
  have rS := triS_ring h0 h1 hx hy
  have rT := triT_ring h0 h1 hx hy
  have rB := boxL_ring h0 h1 hx hy
  have hA := area_pos hx hy
  obtain ⟨wS, _, bS⟩ := twice_val2 rS areaS hA
  obtain ⟨wT, _, bT⟩ := twice_val2 rT areaT hA
  obtain ⟨wB, _, bB⟩ := twice_val2 rB areaB (by omega)
  have AD := Lib.hid (fun w => AddR_pos _ _ w hA hA (by omega))
  have LAW := Lib.hid (cut_law h0 h1 hx hy hp)
  have CS := Lib.hid (fun v w (h : Pts w v (triS x0 y0 x1 y1)) => Check_any v _ w h)
  have CT := Lib.hid (fun v w (h : Pts w v (triT x0 y0 x1 y1)) => Check_any v _ w h)
  have HS := Lib.hid (fun v w (h : Pts w v (triS x0 y0 x1 y1)) => Has_any v _ px py w h)
  have HT := Lib.hid (fun v w (h : Pts w v (triT x0 y0 x1 y1)) => Has_any v _ px py w h)
  have HC := Lib.hid (fun v w (h : Pts w v (boxL x0 y0 x1 y1)) => Has_any v _ px py w h)
  have TS := Lib.hid (fun v w (h : Pts w v (triS x0 y0 x1 y1)) => Twice_any v _ w h)
  have TT := Lib.hid (fun v w (h : Pts w v (triT x0 y0 x1 y1)) => Twice_any v _ w h)
  have TB := Lib.hid (fun v w (h : Pts w v (boxL x0 y0 x1 y1)) => Twice_any v _ w h)
  rw [rS] at CS
  rw [rT] at CT
  rw [wS] at TS
  rw [wT] at TT
  rw [wB] at TB
  have ON := Lib.hid (fun w => OnR_any x0 y0 x1 y1 px py w)
  clear rS rT rB wS wT wB bS bT bB hA h0 h1 hx hy hp hg
  generalize (x1 - x0) * (y1 - y0) = A at *
  have UU := Lib.hid (fun w => u_any 0 A w)
  have U2 := Lib.hid (fun w => u_any 0 (A + A) w)
  go_enter Tryd.func4, Tryd.ntmps4
  go_wp2_with fail
  refine (M.out _).mono ?_
  rintro e w1 ⟨rfl, b1⟩
  have B1 := B0.trans (b1.mono B0.size)
  obtain ⟨z0, z1, z2, z3⟩ := Q0.out.below b1
  obtain ⟨z4, z5⟩ := Y0.out.below b1
  go_wp2_with fail
  refine (P.out _).mono ?_
  rintro e w2 ⟨rfl, b2⟩
  have B2 := B1.trans (b2.mono B1.size)
  have Q2 := Lib.hid ((Q0.out.below b1).below b2)
  have Y2 := Lib.hid ((Y0.out.below b1).below b2)
  clear z0 z1 z2 z3 z4 z5
  obtain ⟨z0, z1, z2, z3⟩ := Q2.out
  have P3 := Lib.hid (show Pts (w2.alloc (.cells #[.int .i64 x0, .int .i64 y0, .int .i64 x1, .int .i64 y0, .int .i64 x1, .int .i64 y1, .int .i64 x0, .int .i64 y1] 24)) (.slice (some ⟨w2.heap.size, 0, none⟩) 4 4) (boxL x0 y0 x1 y1) from pts4 w2 _ _ rfl _ _ _ _ _ _ _ _)
  have B3 := B2.alloc B2.size (.cells #[.int .i64 x0, .int .i64 y0, .int .i64 x1, .int .i64 y0, .int .i64 x1, .int .i64 y1, .int .i64 x0, .int .i64 y1] 24)
  have X3 := Lib.hid (show ∀ w', Below (w2.alloc (.cells #[.int .i64 x0, .int .i64 y0, .int .i64 x1, .int .i64 y0, .int .i64 x1, .int .i64 y1, .int .i64 x0, .int .i64 y1] 24)).heap.size (w2.alloc (.cells #[.int .i64 x0, .int .i64 y0, .int .i64 x1, .int .i64 y0, .int .i64 x1, .int .i64 y1, .int .i64 x0, .int .i64 y1] 24)) w' →
      w'.cell? ⟨w2.heap.size, 0, none⟩ = some (.int .i64 x0) ∧ w'.cell? ⟨w2.heap.size, 1, none⟩ = some (.int .i64 y0) ∧ w'.cell? ⟨w2.heap.size, 2, none⟩ = some (.int .i64 x1) ∧ w'.cell? ⟨w2.heap.size, 3, none⟩ = some (.int .i64 y0) ∧ w'.cell? ⟨w2.heap.size, 4, none⟩ = some (.int .i64 x1) ∧ w'.cell? ⟨w2.heap.size, 5, none⟩ = some (.int .i64 y1) ∧ w'.cell? ⟨w2.heap.size, 6, none⟩ = some (.int .i64 x0) ∧ w'.cell? ⟨w2.heap.size, 7, none⟩ = some (.int .i64 y1) from fun w' h =>
    ⟨(h.cell (p := ⟨w2.heap.size, 0, none⟩) (by simp)).trans (by simp), (h.cell (p := ⟨w2.heap.size, 1, none⟩) (by simp)).trans (by simp), (h.cell (p := ⟨w2.heap.size, 2, none⟩) (by simp)).trans (by simp), (h.cell (p := ⟨w2.heap.size, 3, none⟩) (by simp)).trans (by simp), (h.cell (p := ⟨w2.heap.size, 4, none⟩) (by simp)).trans (by simp), (h.cell (p := ⟨w2.heap.size, 5, none⟩) (by simp)).trans (by simp), (h.cell (p := ⟨w2.heap.size, 6, none⟩) (by simp)).trans (by simp), (h.cell (p := ⟨w2.heap.size, 7, none⟩) (by simp)).trans (by simp)⟩)
  have Y3 := Lib.hid (Y2.out.alloc (.cells #[.int .i64 x0, .int .i64 y0, .int .i64 x1, .int .i64 y0, .int .i64 x1, .int .i64 y1, .int .i64 x0, .int .i64 y1] 24))
  go_wp2_with fail
  generalize w2.alloc (.cells #[.int .i64 x0, .int .i64 y0, .int .i64 x1, .int .i64 y0, .int .i64 x1, .int .i64 y1, .int .i64 x0, .int .i64 y1] 24) = w3 at *
  refine wp_region_noPanic ?_
  refine wp_region_held_drew (S := fun w' => Below w3.heap.size w3 w') (by kernel_rfl) (Below.refl _ _).drew (fun hHeld => ?_)
  generalize w3.drew = D1 at hHeld ⊢
  have k1 : Below w3.heap.size w3 D1 := hHeld
  refine wpAnyH_take (i := 0) (oi := ⟨some 56, _, _, _, _, _⟩) (v := ?qv0ca) rfl (by kernel_rfl) (by kernel_rfl) (by kernel_rfl) (fun _ _ _ h => h) (Or.inl ⟨by rfl, ?qy0ca⟩) hHeld ?qr0ca
  case qy0ca => (intro w' hSw; go_simp; try with_reducible rfl)
  try simp only [Act.put, List.setIfInBounds_toArray, List.set_cons_zero, List.set_cons_succ]
  refine wpAnyH_take (i := 1) (oi := ⟨some 57, _, _, _, _, _⟩) (v := ?qv1ca) rfl (by kernel_rfl) (by kernel_rfl) (by kernel_rfl) (fun _ _ _ h => h) (Or.inl ⟨by rfl, ?qy1ca⟩) hHeld ?qr1ca
  case qy1ca => (intro w' hSw; go_simp; try with_reducible rfl)
  try simp only [Act.put, List.setIfInBounds_toArray, List.set_cons_zero, List.set_cons_succ]
  refine wpAnyH_take (i := 2) (oi := ⟨some 58, _, _, _, _, _⟩) (v := ?qv2ca) rfl (by kernel_rfl) (by kernel_rfl) (by kernel_rfl) (fun _ _ _ h => h) (Or.inl ⟨by rfl, ?qy2ca⟩) hHeld ?qr2ca
  case qy2ca => (intro w' hSw; obtain ⟨z0, z1, z2, z3, z4, z5, z6, z7⟩ := X3.out w' hSw; go_simp; try with_reducible rfl)
  try simp only [Act.put, List.setIfInBounds_toArray, List.set_cons_zero, List.set_cons_succ]
  refine wpAnyH_take (i := 3) (oi := ⟨some 59, _, _, _, _, _⟩) (v := ?qv3ca) rfl (by kernel_rfl) (by kernel_rfl) (by kernel_rfl) (fun _ _ _ h => h) (Or.inl ⟨by rfl, ?qy3ca⟩) hHeld ?qr3ca
  case qy3ca => (intro w' hSw; go_simp; try with_reducible rfl)
  try simp only [Act.put, List.setIfInBounds_toArray, List.set_cons_zero, List.set_cons_succ]
  refine wpAnyH_take (i := 4) (oi := ⟨some 60, _, _, _, _, _⟩) (v := ?qv4ca) rfl (by kernel_rfl) (by kernel_rfl) (by kernel_rfl) (fun _ _ _ h => h) (Or.inl ⟨by rfl, ?qy4ca⟩) hHeld ?qr4ca
  case qy4ca => (intro w' hSw; go_simp; try with_reducible rfl)
  try simp only [Act.put, List.setIfInBounds_toArray, List.set_cons_zero, List.set_cons_succ]
  refine wpAnyH_take (i := 5) (oi := ⟨some 61, _, _, _, _, _⟩) (v := ?qv5ca) rfl (by kernel_rfl) (by kernel_rfl) (by kernel_rfl) (fun _ _ _ h => h) (Or.inl ⟨by rfl, ?qy5ca⟩) hHeld ?qr5ca
  case qy5ca => (intro w' hSw; obtain ⟨z0, z1, z2, z3, z4, z5, z6, z7⟩ := X3.out w' hSw; go_simp; try with_reducible rfl)
  try simp only [Act.put, List.setIfInBounds_toArray, List.set_cons_zero, List.set_cons_succ]
  refine wpAnyH_take (i := 6) (oi := ⟨some 62, _, _, _, _, _⟩) (v := ?qv6ca) rfl (by kernel_rfl) (by kernel_rfl) (by kernel_rfl) (fun _ _ _ h => h) (Or.inl ⟨by rfl, ?qy6ca⟩) hHeld ?qr6ca
  case qy6ca => (intro w' hSw; go_simp; try with_reducible rfl)
  try simp only [Act.put, List.setIfInBounds_toArray, List.set_cons_zero, List.set_cons_succ]
  refine wpAnyH_take (i := 7) (oi := ⟨some 63, _, _, _, _, _⟩) (v := ?qv7ca) rfl (by kernel_rfl) (by kernel_rfl) (by kernel_rfl) (fun _ _ _ h => h) (Or.inl ⟨by rfl, ?qy7ca⟩) hHeld ?qr7ca
  case qy7ca => (intro w' hSw; go_simp; try with_reducible rfl)
  try simp only [Act.put, List.setIfInBounds_toArray, List.set_cons_zero, List.set_cons_succ]
  refine wpAnyH_take (i := 8) (oi := ⟨some 64, _, _, _, _, _⟩) (v := ?qv8ca) rfl (by kernel_rfl) (by kernel_rfl) (by kernel_rfl) (fun _ _ _ h => h) (Or.inl ⟨by rfl, ?qy8ca⟩) hHeld ?qr8ca
  case qy8ca => (intro w' hSw; obtain ⟨z0, z1, z2, z3, z4, z5, z6, z7⟩ := X3.out w' hSw; go_simp; try with_reducible rfl)
  try simp only [Act.put, List.setIfInBounds_toArray, List.set_cons_zero, List.set_cons_succ]
  refine wpAnyH_ready (rs := [9]) (by kernel_rfl) (by simp) ?_
  refine AllReadyH.cons (o := ⟨some 65, _, _, _, _, _⟩) rfl (fun K hK => ?_) AllReadyH.nil
  go_simp
  have PS := Lib.hid (show Pts (D1.alloc (.cells #[.int .i64 x0, .int .i64 y0, .int .i64 x1, .int .i64 y0, .int .i64 x1, .int .i64 y1] 24)) (.slice (some ⟨D1.heap.size, 0, none⟩) 3 3) (triS x0 y0 x1 y1) from pts3 D1 _ _ rfl _ _ _ _ _ _)
  have k2 := k1.alloc k1.size (.cells #[.int .i64 x0, .int .i64 y0, .int .i64 x1, .int .i64 y0, .int .i64 x1, .int .i64 y1] 24)
  refine hK.out _ _ k2 (fun hHeld => ?_)
  clear hK K
  try simp only [Act.put, List.setIfInBounds_toArray, List.set_cons_zero, List.set_cons_succ]
  refine wpAnyH_take (i := 10) (oi := ⟨some 6, _, _, _, _, _⟩) (v := ?qv10ca) rfl (by kernel_rfl) (by kernel_rfl) (by kernel_rfl) (fun _ _ _ h => h) (Or.inl ⟨by rfl, ?qy10ca⟩) hHeld ?qr10ca
  case qy10ca => (intro w' hSw; go_simp; try with_reducible rfl)
  try simp only [Act.put, List.setIfInBounds_toArray, List.set_cons_zero, List.set_cons_succ]
  refine wpAnyH_done (by kernel_rfl) ?_ _
  refine NoPanic.normal ?_
  go_wp2_with fail
  generalize D1.alloc (.cells #[.int .i64 x0, .int .i64 y0, .int .i64 x1, .int .i64 y0, .int .i64 x1, .int .i64 y1] 24) = w4 at *
  have X4 := Lib.hid (show ∀ w', Below w4.heap.size w4 w' → _ from fun w' h => X3.out w' (k2.trans (h.mono k2.size)))
  refine wp_region_noPanic ?_
  refine wp_region_held_drew (S := fun w' => Below w4.heap.size w4 w') (by kernel_rfl) (Below.refl _ _).drew (fun hHeld => ?_)
  generalize w4.drew = D2 at hHeld ⊢
  have k3 : Below w4.heap.size w4 D2 := hHeld
  refine wpAnyH_take (i := 0) (oi := ⟨some 66, _, _, _, _, _⟩) (v := ?qv0cb) rfl (by kernel_rfl) (by kernel_rfl) (by kernel_rfl) (fun _ _ _ h => h) (Or.inl ⟨by rfl, ?qy0cb⟩) hHeld ?qr0cb
  case qy0cb => (intro w' hSw; go_simp; try with_reducible rfl)
  try simp only [Act.put, List.setIfInBounds_toArray, List.set_cons_zero, List.set_cons_succ]
  refine wpAnyH_take (i := 1) (oi := ⟨some 67, _, _, _, _, _⟩) (v := ?qv1cb) rfl (by kernel_rfl) (by kernel_rfl) (by kernel_rfl) (fun _ _ _ h => h) (Or.inl ⟨by rfl, ?qy1cb⟩) hHeld ?qr1cb
  case qy1cb => (intro w' hSw; go_simp; try with_reducible rfl)
  try simp only [Act.put, List.setIfInBounds_toArray, List.set_cons_zero, List.set_cons_succ]
  refine wpAnyH_take (i := 2) (oi := ⟨some 68, _, _, _, _, _⟩) (v := ?qv2cb) rfl (by kernel_rfl) (by kernel_rfl) (by kernel_rfl) (fun _ _ _ h => h) (Or.inl ⟨by rfl, ?qy2cb⟩) hHeld ?qr2cb
  case qy2cb => (intro w' hSw; obtain ⟨z0, z1, z2, z3, z4, z5, z6, z7⟩ := X4.out w' hSw; go_simp; try with_reducible rfl)
  try simp only [Act.put, List.setIfInBounds_toArray, List.set_cons_zero, List.set_cons_succ]
  refine wpAnyH_take (i := 3) (oi := ⟨some 69, _, _, _, _, _⟩) (v := ?qv3cb) rfl (by kernel_rfl) (by kernel_rfl) (by kernel_rfl) (fun _ _ _ h => h) (Or.inl ⟨by rfl, ?qy3cb⟩) hHeld ?qr3cb
  case qy3cb => (intro w' hSw; go_simp; try with_reducible rfl)
  try simp only [Act.put, List.setIfInBounds_toArray, List.set_cons_zero, List.set_cons_succ]
  refine wpAnyH_take (i := 4) (oi := ⟨some 70, _, _, _, _, _⟩) (v := ?qv4cb) rfl (by kernel_rfl) (by kernel_rfl) (by kernel_rfl) (fun _ _ _ h => h) (Or.inl ⟨by rfl, ?qy4cb⟩) hHeld ?qr4cb
  case qy4cb => (intro w' hSw; go_simp; try with_reducible rfl)
  try simp only [Act.put, List.setIfInBounds_toArray, List.set_cons_zero, List.set_cons_succ]
  refine wpAnyH_take (i := 5) (oi := ⟨some 71, _, _, _, _, _⟩) (v := ?qv5cb) rfl (by kernel_rfl) (by kernel_rfl) (by kernel_rfl) (fun _ _ _ h => h) (Or.inl ⟨by rfl, ?qy5cb⟩) hHeld ?qr5cb
  case qy5cb => (intro w' hSw; obtain ⟨z0, z1, z2, z3, z4, z5, z6, z7⟩ := X4.out w' hSw; go_simp; try with_reducible rfl)
  try simp only [Act.put, List.setIfInBounds_toArray, List.set_cons_zero, List.set_cons_succ]
  refine wpAnyH_take (i := 6) (oi := ⟨some 72, _, _, _, _, _⟩) (v := ?qv6cb) rfl (by kernel_rfl) (by kernel_rfl) (by kernel_rfl) (fun _ _ _ h => h) (Or.inl ⟨by rfl, ?qy6cb⟩) hHeld ?qr6cb
  case qy6cb => (intro w' hSw; go_simp; try with_reducible rfl)
  try simp only [Act.put, List.setIfInBounds_toArray, List.set_cons_zero, List.set_cons_succ]
  refine wpAnyH_take (i := 7) (oi := ⟨some 73, _, _, _, _, _⟩) (v := ?qv7cb) rfl (by kernel_rfl) (by kernel_rfl) (by kernel_rfl) (fun _ _ _ h => h) (Or.inl ⟨by rfl, ?qy7cb⟩) hHeld ?qr7cb
  case qy7cb => (intro w' hSw; go_simp; try with_reducible rfl)
  try simp only [Act.put, List.setIfInBounds_toArray, List.set_cons_zero, List.set_cons_succ]
  refine wpAnyH_take (i := 8) (oi := ⟨some 74, _, _, _, _, _⟩) (v := ?qv8cb) rfl (by kernel_rfl) (by kernel_rfl) (by kernel_rfl) (fun _ _ _ h => h) (Or.inl ⟨by rfl, ?qy8cb⟩) hHeld ?qr8cb
  case qy8cb => (intro w' hSw; obtain ⟨z0, z1, z2, z3, z4, z5, z6, z7⟩ := X4.out w' hSw; go_simp; try with_reducible rfl)
  try simp only [Act.put, List.setIfInBounds_toArray, List.set_cons_zero, List.set_cons_succ]
  refine wpAnyH_ready (rs := [9]) (by kernel_rfl) (by simp) ?_
  refine AllReadyH.cons (o := ⟨some 75, _, _, _, _, _⟩) rfl (fun K hK => ?_) AllReadyH.nil
  go_simp
  have PT := Lib.hid (show Pts (D2.alloc (.cells #[.int .i64 x0, .int .i64 y0, .int .i64 x1, .int .i64 y1, .int .i64 x0, .int .i64 y1] 24)) (.slice (some ⟨D2.heap.size, 0, none⟩) 3 3) (triT x0 y0 x1 y1) from pts3 D2 _ _ rfl _ _ _ _ _ _)
  have k4 := k3.alloc k3.size (.cells #[.int .i64 x0, .int .i64 y0, .int .i64 x1, .int .i64 y1, .int .i64 x0, .int .i64 y1] 24)
  refine hK.out _ _ k4 (fun hHeld => ?_)
  clear hK K
  try simp only [Act.put, List.setIfInBounds_toArray, List.set_cons_zero, List.set_cons_succ]
  refine wpAnyH_take (i := 10) (oi := ⟨some 7, _, _, _, _, _⟩) (v := ?qv10cb) rfl (by kernel_rfl) (by kernel_rfl) (by kernel_rfl) (fun _ _ _ h => h) (Or.inl ⟨by rfl, ?qy10cb⟩) hHeld ?qr10cb
  case qy10cb => (intro w' hSw; go_simp; try with_reducible rfl)
  try simp only [Act.put, List.setIfInBounds_toArray, List.set_cons_zero, List.set_cons_succ]
  refine wpAnyH_done (by kernel_rfl) ?_ _
  refine NoPanic.normal ?_
  have PB5 := Lib.hid (show Pts (D2.alloc (.cells #[.int .i64 x0, .int .i64 y0, .int .i64 x1, .int .i64 y1, .int .i64 x0, .int .i64 y1] 24)) _ (boxL x0 y0 x1 y1) from P3.out.below (k2.trans (k4.mono k2.size)))
  have PS5 := Lib.hid (show Pts (D2.alloc (.cells #[.int .i64 x0, .int .i64 y0, .int .i64 x1, .int .i64 y1, .int .i64 x0, .int .i64 y1] 24)) _ (triS x0 y0 x1 y1) from PS.out.below k4)
  have k24 := k2.trans (k4.mono k2.size)
  have B5 := B3.trans (k24.mono B3.size)
  have X5 := Lib.hid (show ∀ w', Below (D2.alloc (.cells #[.int .i64 x0, .int .i64 y0, .int .i64 x1, .int .i64 y1, .int .i64 x0, .int .i64 y1] 24)).heap.size (D2.alloc (.cells #[.int .i64 x0, .int .i64 y0, .int .i64 x1, .int .i64 y1, .int .i64 x0, .int .i64 y1] 24)) w' → _ from fun w' h => X3.out w' (k24.trans (h.mono k24.size)))
  have Y5 := Lib.hid (Y3.out.below k24)
  clear X3 X4 P3 PS k2 k4 k24 k1 k3
  generalize D2.alloc (.cells #[.int .i64 x0, .int .i64 y0, .int .i64 x1, .int .i64 y1, .int .i64 x0, .int .i64 y1] 24) = w5 at *
  go_wp2_with fail
  refine (TS.out _ _ PS5.out).mono ?_
  rintro e v1 ⟨rfl, d1⟩
  go_wp2_with fail
  refine (UU.out _).mono ?_
  rintro e v2 ⟨rfl, d2⟩
  have d12 := d1.trans (d2.mono d1.size)
  go_wp2_with fail
  refine (TT.out _ _ (PT.out.below d12)).mono ?_
  rintro e v3 ⟨rfl, d3⟩
  have d13 := d12.trans (d3.mono d12.size)
  go_wp2_with fail
  refine (UU.out _).mono ?_
  rintro e v4 ⟨rfl, d4⟩
  have d14 := d13.trans (d4.mono d13.size)
  go_wp2_with fail
  refine (AD.out _).mono ?_
  rintro e v5 ⟨rfl, d5⟩
  have d15 := d14.trans (d5.mono d14.size)
  have d16 := d15.alloc d15.size (.cells #[.int .u64 0, .int .u64 (A + A)] 42)
  have S7 := Lib.hid (pairU_alloc v5 0 (A + A) 42 v5.heap.size rfl)
  go_wp2_with fail
  generalize v5.alloc (.cells #[.int .u64 0, .int .u64 (A + A)] 42) = w7 at *
  have XS := Lib.hid (show ∀ w', Below w7.heap.size w7 w' → w'.cell? ⟨w2.heap.size, 0, none⟩ = some (.int .i64 x0) ∧ w'.cell? ⟨w2.heap.size, 1, none⟩ = some (.int .i64 y0) ∧ w'.cell? ⟨w2.heap.size, 2, none⟩ = some (.int .i64 x1) ∧ w'.cell? ⟨w2.heap.size, 3, none⟩ = some (.int .i64 y0) ∧ w'.cell? ⟨w2.heap.size, 4, none⟩ = some (.int .i64 x1) ∧ w'.cell? ⟨w2.heap.size, 5, none⟩ = some (.int .i64 y1) ∧ w'.cell? ⟨w2.heap.size, 6, none⟩ = some (.int .i64 x0) ∧ w'.cell? ⟨w2.heap.size, 7, none⟩ = some (.int .i64 y1) ∧ w'.cell? ⟨w.heap.size + 1, 0, none⟩ = some (.int .i64 px) ∧ w'.cell? ⟨w.heap.size + 1, 1, none⟩ = some (.int .i64 py) ∧ w'.cell? ⟨v5.heap.size, 0, none⟩ = some (.int .u64 0) ∧ w'.cell? ⟨v5.heap.size, 1, none⟩ = some (.int .u64 (A + A)) from fun w' h => by
    obtain ⟨a0, a1, a2, a3, a4, a5, a6, a7⟩ := X5.out w' (d16.trans (h.mono d16.size))
    obtain ⟨e0, e1⟩ := Y5.out.below (d16.trans (h.mono d16.size))
    exact ⟨a0, a1, a2, a3, a4, a5, a6, a7, e0, e1, (S7.out.below h).c0, (S7.out.below h).c1⟩)
  have PB7 := Lib.hid (show ∀ w', Below w7.heap.size w7 w' → Pts w' _ (boxL x0 y0 x1 y1) from fun w' h => PB5.out.below (d16.trans (h.mono d16.size)))
  have PS7 := Lib.hid (show ∀ w', Below w7.heap.size w7 w' → Pts w' _ (triS x0 y0 x1 y1) from fun w' h => PS5.out.below (d16.trans (h.mono d16.size)))
  have PT7 := Lib.hid (show ∀ w', Below w7.heap.size w7 w' → Pts w' _ (triT x0 y0 x1 y1) from fun w' h => PT.out.below (d16.trans (h.mono d16.size)))
  have BB7 := B5.trans (d16.mono B5.size)
  have G7 := Lib.hid (show ∀ w', Below w7.heap.size w7 w' → ErrT w' from fun w' h => GT.out _ (BB7.trans (h.mono BB7.size)))
  clear X5 Y5 S7 PB5 PS5 PT d1 d2 d12 d3 d13 d4 d14 d5 d15 d16 B5
  obtain ⟨law1, law2⟩ := LAW.out
  clear LAW
  generalize hasE (boxL x0 y0 x1 y1) (px, py) = hc at *
  generalize hasE (triS x0 y0 x1 y1) (px, py) = hs at *
  generalize hasE (triT x0 y0 x1 y1) (px, py) = ht at *
  have t7 : (A + A == A + A) = true := by simp
  subst law1
  cases hs with
  | true =>
    cases ht with
    | true =>
      have o := law2 rfl rfl
      rw [o] at ON
      clear law2 o
      refine wp_region_noPanic ?_
      refine wp_region_held_drew (S := fun w' => Below w7.heap.size w7 w') (by kernel_rfl) (Below.refl _ _).drew (fun hHeld => ?_)
      generalize w7.drew = D3 at hHeld ⊢
      have r1 : Below w7.heap.size w7 D3 := hHeld
      refine wpAnyH_take (i := 0) (oi := ⟨some 86, _, _, _, _, _⟩) (v := ?qv0ta) rfl (by kernel_rfl) (by kernel_rfl) (by kernel_rfl) (fun _ _ _ h => h) (Or.inl ⟨by rfl, ?qy0ta⟩) hHeld ?qr0ta
      case qy0ta => (intro w' hSw; go_simp; try with_reducible rfl)
      try simp only [Act.put, List.setIfInBounds_toArray, List.set_cons_zero, List.set_cons_succ]
      refine wpAnyH_ready (rs := [1]) (by kernel_rfl) (by simp) ?_
      refine AllReadyH.cons (o := ⟨some 87, _, _, _, _, _⟩) rfl (fun K hK => ?_) AllReadyH.nil
      refine step_go (by rfl) 14 _ _ (by rfl) (fun _ _ => by kernel_rfl) _ (by rfl) (CS.out _ _ (PS7.out _ r1)) ?_
      rintro e x1 ⟨_, rfl, rfl, q1⟩
      refine ⟨_, rfl, ?_⟩
      have r2 := r1.trans (q1.mono r1.size)
      refine hK.out _ _ (r2) (fun hHeld => ?_)
      clear hK K
      try simp only [Act.put, List.setIfInBounds_toArray, List.set_cons_zero, List.set_cons_succ]
      refine wpAnyH_take (i := 2) (oi := ⟨some 88, _, _, _, _, _⟩) (v := ?qv2ta) rfl (by kernel_rfl) (by kernel_rfl) (by kernel_rfl) (fun _ _ _ h => h) (Or.inl ⟨by rfl, ?qy2ta⟩) hHeld ?qr2ta
      case qy2ta => (intro w' hSw; go_simp; try with_reducible rfl)
      try simp only [Act.put, List.setIfInBounds_toArray, List.set_cons_zero, List.set_cons_succ]
      refine wpAnyH_take (i := 3) (oi := ⟨some 89, _, _, _, _, _⟩) (v := ?qv3ta) rfl (by kernel_rfl) (by kernel_rfl) (by kernel_rfl) (fun _ _ _ h => h) (Or.inl ⟨by rfl, ?qy3ta⟩) hHeld ?qr3ta
      case qy3ta => (intro w' hSw; go_simp; try with_reducible rfl)
      try simp only [Act.put, List.setIfInBounds_toArray, List.set_cons_zero, List.set_cons_succ]
      refine wpAnyH_take (i := 4) (oi := ⟨some 90, _, _, _, _, _⟩) (v := ?qv4ta) rfl (by kernel_rfl) (by kernel_rfl) (by kernel_rfl) (fun _ _ _ h => h) (Or.inl ⟨by rfl, ?qy4ta⟩) hHeld ?qr4ta
      case qy4ta => (intro w' hSw; go_simp; try with_reducible rfl)
      try simp only [Act.put, List.setIfInBounds_toArray, List.set_cons_zero, List.set_cons_succ]
      refine wpAnyH_ready (rs := [5]) (by kernel_rfl) (by simp) ?_
      refine AllReadyH.cons (o := ⟨some 91, _, _, _, _, _⟩) rfl (fun K hK => ?_) AllReadyH.nil
      refine step_go (by rfl) 14 _ _ (by rfl) (fun _ _ => by kernel_rfl) _ (by rfl) (CT.out _ _ (PT7.out _ r2)) ?_
      rintro e x2 ⟨_, rfl, rfl, q2⟩
      refine ⟨_, rfl, ?_⟩
      have r3 := r2.trans (q2.mono r2.size)
      refine hK.out _ _ (r3) (fun hHeld => ?_)
      clear hK K
      try simp only [Act.put, List.setIfInBounds_toArray, List.set_cons_zero, List.set_cons_succ]
      refine wpAnyH_take (i := 6) (oi := ⟨some 92, _, _, _, _, _⟩) (v := ?qv6ta) rfl (by kernel_rfl) (by kernel_rfl) (by kernel_rfl) (fun _ _ _ h => h) (Or.inl ⟨by rfl, ?qy6ta⟩) hHeld ?qr6ta
      case qy6ta => (intro w' hSw; go_simp; try with_reducible rfl)
      try simp only [Act.put, List.setIfInBounds_toArray, List.set_cons_zero, List.set_cons_succ]
      refine wpAnyH_take (i := 7) (oi := ⟨some 93, _, _, _, _, _⟩) (v := ?qv7ta) rfl (by kernel_rfl) (by kernel_rfl) (by kernel_rfl) (fun _ _ _ h => h) (Or.inl ⟨by rfl, ?qy7ta⟩) hHeld ?qr7ta
      case qy7ta => (intro w' hSw; go_simp; try with_reducible rfl)
      try simp only [Act.put, List.setIfInBounds_toArray, List.set_cons_zero, List.set_cons_succ]
      refine wpAnyH_take (i := 8) (oi := ⟨some 94, _, _, _, _, _⟩) (v := ?qv8ta) rfl (by kernel_rfl) (by kernel_rfl) (by kernel_rfl) (fun _ _ _ h => h) (Or.inl ⟨by rfl, ?qy8ta⟩) hHeld ?qr8ta
      case qy8ta => (intro w' hSw; go_simp; try with_reducible rfl)
      try simp only [Act.put, List.setIfInBounds_toArray, List.set_cons_zero, List.set_cons_succ]
      refine wpAnyH_take (i := 9) (oi := ⟨some 95, _, _, _, _, _⟩) (v := ?qv9ta) rfl (by kernel_rfl) (by kernel_rfl) (by kernel_rfl) (fun _ _ _ h => h) (Or.inl ⟨by rfl, ?qy9ta⟩) hHeld ?qr9ta
      case qy9ta => (intro w' hSw; go_simp; try with_reducible rfl)
      try simp only [Act.put, List.setIfInBounds_toArray, List.set_cons_zero, List.set_cons_succ]
      refine wpAnyH_take (i := 10) (oi := ⟨some 96, _, _, _, _, _⟩) (v := ?qv10ta) rfl (by kernel_rfl) (by kernel_rfl) (by kernel_rfl) (fun _ _ _ h => h) (Or.inl ⟨by rfl, ?qy10ta⟩) hHeld ?qr10ta
      case qy10ta => (intro w' hSw; obtain ⟨z0, z1, z2, z3, z4, z5, z6, z7, z8, z9, y0, y1⟩ := XS.out w' hSw; go_simp; try with_reducible rfl)
      try simp only [Act.put, List.setIfInBounds_toArray, List.set_cons_zero, List.set_cons_succ]
      refine wpAnyH_take (i := 17) (oi := ⟨some 103, _, _, _, _, _⟩) (v := ?qv17ta) rfl (by kernel_rfl) (by kernel_rfl) (by kernel_rfl) (fun _ _ _ h => h) (Or.inl ⟨by rfl, ?qy17ta⟩) hHeld ?qr17ta
      case qy17ta => (intro w' hSw; go_simp; try with_reducible rfl)
      try simp only [Act.put, List.setIfInBounds_toArray, List.set_cons_zero, List.set_cons_succ]
      refine wpAnyH_take (i := 18) (oi := ⟨some 104, _, _, _, _, _⟩) (v := ?qv18ta) rfl (by kernel_rfl) (by kernel_rfl) (by kernel_rfl) (fun _ _ _ h => h) (Or.inl ⟨by rfl, ?qy18ta⟩) hHeld ?qr18ta
      case qy18ta => (intro w' hSw; obtain ⟨z0, z1, z2, z3, z4, z5, z6, z7, z8, z9, y0, y1⟩ := XS.out w' hSw; go_simp; try with_reducible rfl)
      try simp only [Act.put, List.setIfInBounds_toArray, List.set_cons_zero, List.set_cons_succ]
      refine wpAnyH_ready (rs := [11]) (by kernel_rfl) (by simp) ?_
      refine AllReadyH.cons (o := ⟨some 97, _, _, _, _, _⟩) rfl (fun K hK => ?_) AllReadyH.nil
      refine step_go (by rfl) 15 _ _ (by rfl) (fun _ _ => by kernel_rfl) _ (by rfl) (HS.out _ _ (PS7.out _ r3)) ?_
      rintro e x3 ⟨rfl, q3⟩
      refine ⟨_, rfl, ?_⟩
      have r4 := r3.trans (q3.mono r3.size)
      refine hK.out _ _ (r4) (fun hHeld => ?_)
      clear hK K
      try simp only [Act.put, List.setIfInBounds_toArray, List.set_cons_zero, List.set_cons_succ]
      refine wpAnyH_take (i := 12) (oi := ⟨some 98, _, _, _, _, _⟩) (v := ?qv12ta) rfl (by kernel_rfl) (by kernel_rfl) (by kernel_rfl) (fun _ _ _ h => h) (Or.inl ⟨by rfl, ?qy12ta⟩) hHeld ?qr12ta
      case qy12ta => (intro w' hSw; go_simp; try with_reducible rfl)
      try simp only [Act.put, List.setIfInBounds_toArray, List.set_cons_zero, List.set_cons_succ]
      refine wpAnyH_take (i := 13) (oi := ⟨some 99, _, _, _, _, _⟩) (v := undef) rfl (by kernel_rfl) (by kernel_rfl) (by kernel_rfl) (fun _ _ _ h => h) (Or.inr ⟨by rfl, rfl⟩) hHeld ?_
      try simp only [Act.put, List.setIfInBounds_toArray, List.set_cons_zero, List.set_cons_succ]
      refine wpAnyH_take (i := 14) (oi := ⟨some 100, _, _, _, _, _⟩) (v := undef) rfl (by kernel_rfl) (by kernel_rfl) (by kernel_rfl) (fun _ _ _ h => h) (Or.inr ⟨by rfl, rfl⟩) hHeld ?_
      try simp only [Act.put, List.setIfInBounds_toArray, List.set_cons_zero, List.set_cons_succ]
      refine wpAnyH_take (i := 15) (oi := ⟨some 101, _, _, _, _, _⟩) (v := undef) rfl (by kernel_rfl) (by kernel_rfl) (by kernel_rfl) (fun _ _ _ h => h) (Or.inr ⟨by rfl, rfl⟩) hHeld ?_
      try simp only [Act.put, List.setIfInBounds_toArray, List.set_cons_zero, List.set_cons_succ]
      refine wpAnyH_take (i := 16) (oi := ⟨some 102, _, _, _, _, _⟩) (v := ?qv16ta) rfl (by kernel_rfl) (by kernel_rfl) (by kernel_rfl) (fun _ _ _ h => h) (Or.inl ⟨by rfl, ?qy16ta⟩) hHeld ?qr16ta
      case qy16ta => (intro w' hSw; go_simp; try with_reducible rfl)
      try simp only [Act.put, List.setIfInBounds_toArray, List.set_cons_zero, List.set_cons_succ]
      refine wpAnyH_ready (rs := [19]) (by kernel_rfl) (by simp) ?_
      refine AllReadyH.cons (o := ⟨some 105, _, _, _, _, _⟩) rfl (fun K hK => ?_) AllReadyH.nil
      refine step_go (by rfl) 15 _ _ (by rfl) (fun _ _ => by kernel_rfl) _ (by rfl) (HC.out _ _ (PB7.out _ r4)) ?_
      rintro e x4 ⟨rfl, q4⟩
      refine ⟨_, rfl, ?_⟩
      have r5 := r4.trans (q4.mono r4.size)
      refine hK.out _ _ (r5) (fun hHeld => ?_)
      clear hK K
      try simp only [Act.put, List.setIfInBounds_toArray, List.set_cons_zero, List.set_cons_succ]
      refine wpAnyH_take (i := 20) (oi := ⟨some 106, _, _, _, _, _⟩) (v := ?qv20ta) rfl (by kernel_rfl) (by kernel_rfl) (by kernel_rfl) (fun _ _ _ h => h) (Or.inl ⟨by rfl, ?qy20ta⟩) hHeld ?qr20ta
      case qy20ta => (intro w' hSw; go_simp; try with_reducible rfl)
      try simp only [Act.put, List.setIfInBounds_toArray, List.set_cons_zero, List.set_cons_succ]
      refine wpAnyH_take (i := 21) (oi := ⟨some 107, _, _, _, _, _⟩) (v := ?qv21ta) rfl (by kernel_rfl) (by kernel_rfl) (by kernel_rfl) (fun _ _ _ h => h) (Or.inl ⟨by rfl, ?qy21ta⟩) hHeld ?qr21ta
      case qy21ta => (intro w' hSw; go_simp; try with_reducible rfl)
      try simp only [Act.put, List.setIfInBounds_toArray, List.set_cons_zero, List.set_cons_succ]
      refine wpAnyH_take (i := 22) (oi := ⟨some 108, _, _, _, _, _⟩) (v := ?qv22ta) rfl (by kernel_rfl) (by kernel_rfl) (by kernel_rfl) (fun _ _ _ h => h) (Or.inl ⟨by rfl, ?qy22ta⟩) hHeld ?qr22ta
      case qy22ta => (intro w' hSw; go_simp; try with_reducible rfl)
      try simp only [Act.put, List.setIfInBounds_toArray, List.set_cons_zero, List.set_cons_succ]
      refine wpAnyH_take (i := 23) (oi := ⟨some 109, _, _, _, _, _⟩) (v := ?qv23ta) rfl (by kernel_rfl) (by kernel_rfl) (by kernel_rfl) (fun _ _ _ h => h) (Or.inl ⟨by rfl, ?qy23ta⟩) hHeld ?qr23ta
      case qy23ta => (intro w' hSw; obtain ⟨z0, z1, z2, z3, z4, z5, z6, z7, z8, z9, y0, y1⟩ := XS.out w' hSw; go_simp; try with_reducible rfl)
      try simp only [Act.put, List.setIfInBounds_toArray, List.set_cons_zero, List.set_cons_succ]
      refine wpAnyH_take (i := 24) (oi := ⟨some 110, _, _, _, _, _⟩) (v := ?qv24ta) rfl (by kernel_rfl) (by kernel_rfl) (by kernel_rfl) (fun _ _ _ h => h) (Or.inl ⟨by rfl, ?qy24ta⟩) hHeld ?qr24ta
      case qy24ta => (intro w' hSw; go_simp; try with_reducible rfl)
      try simp only [Act.put, List.setIfInBounds_toArray, List.set_cons_zero, List.set_cons_succ]
      refine wpAnyH_ready (rs := [25]) (by kernel_rfl) (by simp) ?_
      refine AllReadyH.cons (o := ⟨some 111, _, _, _, _, _⟩) rfl (fun K hK => ?_) AllReadyH.nil
      refine step_go (by rfl) 17 _ _ (by rfl) (fun _ _ => by kernel_rfl) _ (by rfl) (TB.out _ _ (PB7.out _ r5)) ?_
      rintro e x5 ⟨rfl, q5⟩
      refine ⟨_, rfl, ?_⟩
      have r6 := r5.trans (q5.mono r5.size)
      refine hK.out _ _ (r6) (fun hHeld => ?_)
      clear hK K
      try simp only [Act.put, List.setIfInBounds_toArray, List.set_cons_zero, List.set_cons_succ]
      refine wpAnyH_ready (rs := [26]) (by kernel_rfl) (by simp) ?_
      refine AllReadyH.cons (o := ⟨some 112, _, _, _, _, _⟩) rfl (fun K hK => ?_) AllReadyH.nil
      refine step_go (by rfl) 21 _ _ (by rfl) (fun _ _ => by kernel_rfl) _ (by rfl) (U2.out _) ?_
      rintro e x6 ⟨rfl, q6⟩
      refine ⟨_, rfl, ?_⟩
      have r7 := r6.trans (q6.mono r6.size)
      refine hK.out _ _ (r7) (fun hHeld => ?_)
      clear hK K
      try simp only [Act.put, List.setIfInBounds_toArray, List.set_cons_zero, List.set_cons_succ]
      refine wpAnyH_take (i := 27) (oi := ⟨some 113, _, _, _, _, _⟩) (v := ?qv27ta) rfl (by kernel_rfl) (by kernel_rfl) (by kernel_rfl) (fun _ _ _ h => h) (Or.inl ⟨by rfl, ?qy27ta⟩) hHeld ?qr27ta
      case qy27ta => (intro w' hSw; go_simp; try with_reducible rfl)
      try simp only [Act.put, List.setIfInBounds_toArray, List.set_cons_zero, List.set_cons_succ]
      refine wpAnyH_take (i := 28) (oi := ⟨some 114, _, _, _, _, _⟩) (v := ?qv28ta) rfl (by kernel_rfl) (by kernel_rfl) (by kernel_rfl) (fun _ _ _ h => h) (Or.inl ⟨by rfl, ?qy28ta⟩) hHeld ?qr28ta
      case qy28ta => (intro w' hSw; go_simp; try with_reducible rfl)
      try simp only [Act.put, List.setIfInBounds_toArray, List.set_cons_zero, List.set_cons_succ]
      refine wpAnyH_take (i := 29) (oi := ⟨some 115, _, _, _, _, _⟩) (v := ?qv29ta) rfl (by kernel_rfl) (by kernel_rfl) (by kernel_rfl) (fun _ _ _ h => h) (Or.inl ⟨by rfl, ?qy29ta⟩) hHeld ?qr29ta
      case qy29ta => (intro w' hSw; go_simp; try with_reducible rfl)
      try simp only [Act.put, List.setIfInBounds_toArray, List.set_cons_zero, List.set_cons_succ]
      refine wpAnyH_take (i := 30) (oi := ⟨some 116, _, _, _, _, _⟩) (v := ?qv30ta) rfl (by kernel_rfl) (by kernel_rfl) (by kernel_rfl) (fun _ _ _ h => h) (Or.inl ⟨by rfl, ?qy30ta⟩) hHeld ?qr30ta
      case qy30ta => (intro w' hSw; go_simp; try with_reducible rfl)
      try simp only [Act.put, List.setIfInBounds_toArray, List.set_cons_zero, List.set_cons_succ]
      refine wpAnyH_take (i := 31) (oi := ⟨some 117, _, _, _, _, _⟩) (v := ?qv31ta) rfl (by kernel_rfl) (by kernel_rfl) (by kernel_rfl) (fun _ _ _ h => h) (Or.inl ⟨by rfl, ?qy31ta⟩) hHeld ?qr31ta
      case qy31ta => (intro w' hSw; go_simp; try with_reducible rfl)
      try simp only [Act.put, List.setIfInBounds_toArray, List.set_cons_zero, List.set_cons_succ]
      refine wpAnyH_take (i := 32) (oi := ⟨some 118, _, _, _, _, _⟩) (v := ?qv32ta) rfl (by kernel_rfl) (by kernel_rfl) (by kernel_rfl) (fun _ _ _ h => h) (Or.inl ⟨by rfl, ?qy32ta⟩) hHeld ?qr32ta
      case qy32ta => (intro w' hSw; go_simp; try with_reducible rfl)
      try simp only [Act.put, List.setIfInBounds_toArray, List.set_cons_zero, List.set_cons_succ]
      refine wpAnyH_take (i := 33) (oi := ⟨some 119, _, _, _, _, _⟩) (v := ?qv33ta) rfl (by kernel_rfl) (by kernel_rfl) (by kernel_rfl) (fun _ _ _ h => h) (Or.inl ⟨by rfl, ?qy33ta⟩) hHeld ?qr33ta
      case qy33ta => (intro w' hSw; go_simp; try with_reducible rfl)
      try simp only [Act.put, List.setIfInBounds_toArray, List.set_cons_zero, List.set_cons_succ]
      refine wpAnyH_take (i := 34) (oi := ⟨some 120, _, _, _, _, _⟩) (v := ?qv34ta) rfl (by kernel_rfl) (by kernel_rfl) (by kernel_rfl) (fun _ _ _ h => h) (Or.inl ⟨by rfl, ?qy34ta⟩) hHeld ?qr34ta
      case qy34ta => (intro w' hSw; go_simp; try with_reducible rfl)
      try simp only [Act.put, List.setIfInBounds_toArray, List.set_cons_zero, List.set_cons_succ]
      refine wpAnyH_take (i := 35) (oi := ⟨some 121, _, _, _, _, _⟩) (v := ?qv35ta) rfl (by kernel_rfl) (by kernel_rfl) (by kernel_rfl) (fun _ _ _ h => h) (Or.inl ⟨by rfl, ?qy35ta⟩) hHeld ?qr35ta
      case qy35ta => (intro w' hSw; obtain ⟨z0, z1, z2, z3, z4, z5, z6, z7, z8, z9, y0, y1⟩ := XS.out w' hSw; go_simp; try with_reducible rfl)
      try simp only [Act.put, List.setIfInBounds_toArray, List.set_cons_zero, List.set_cons_succ]
      refine wpAnyH_ready (rs := [36]) (by kernel_rfl) (by simp) ?_
      refine AllReadyH.cons (o := ⟨some 122, _, _, _, _, _⟩) rfl (fun K hK => ?_) AllReadyH.nil
      refine step_go (by rfl) 15 _ _ (by rfl) (fun _ _ => by kernel_rfl) _ (by rfl) (HS.out _ _ (PS7.out _ r7)) ?_
      rintro e x7 ⟨rfl, q7⟩
      refine ⟨_, rfl, ?_⟩
      have r8 := r7.trans (q7.mono r7.size)
      refine hK.out _ _ (r8) (fun hHeld => ?_)
      clear hK K
      try simp only [Act.put, List.setIfInBounds_toArray, List.set_cons_zero, List.set_cons_succ]
      refine wpAnyH_take (i := 37) (oi := ⟨some 123, _, _, _, _, _⟩) (v := ?qv37ta) rfl (by kernel_rfl) (by kernel_rfl) (by kernel_rfl) (fun _ _ _ h => h) (Or.inl ⟨by rfl, ?qy37ta⟩) hHeld ?qr37ta
      case qy37ta => (intro w' hSw; go_simp; try with_reducible rfl)
      try simp only [Act.put, List.setIfInBounds_toArray, List.set_cons_zero, List.set_cons_succ]
      refine wpAnyH_take (i := 38) (oi := ⟨some 124, _, _, _, _, _⟩) (v := ?qv38ta) rfl (by kernel_rfl) (by kernel_rfl) (by kernel_rfl) (fun _ _ _ h => h) (Or.inl ⟨by rfl, ?qy38ta⟩) hHeld ?qr38ta
      case qy38ta => (intro w' hSw; go_simp; try with_reducible rfl)
      try simp only [Act.put, List.setIfInBounds_toArray, List.set_cons_zero, List.set_cons_succ]
      refine wpAnyH_take (i := 39) (oi := ⟨some 125, _, _, _, _, _⟩) (v := ?qv39ta) rfl (by kernel_rfl) (by kernel_rfl) (by kernel_rfl) (fun _ _ _ h => h) (Or.inl ⟨by rfl, ?qy39ta⟩) hHeld ?qr39ta
      case qy39ta => (intro w' hSw; go_simp; try with_reducible rfl)
      try simp only [Act.put, List.setIfInBounds_toArray, List.set_cons_zero, List.set_cons_succ]
      refine wpAnyH_take (i := 40) (oi := ⟨some 126, _, _, _, _, _⟩) (v := ?qv40ta) rfl (by kernel_rfl) (by kernel_rfl) (by kernel_rfl) (fun _ _ _ h => h) (Or.inl ⟨by rfl, ?qy40ta⟩) hHeld ?qr40ta
      case qy40ta => (intro w' hSw; obtain ⟨z0, z1, z2, z3, z4, z5, z6, z7, z8, z9, y0, y1⟩ := XS.out w' hSw; go_simp; try with_reducible rfl)
      try simp only [Act.put, List.setIfInBounds_toArray, List.set_cons_zero, List.set_cons_succ]
      refine wpAnyH_ready (rs := [41]) (by kernel_rfl) (by simp) ?_
      refine AllReadyH.cons (o := ⟨some 127, _, _, _, _, _⟩) rfl (fun K hK => ?_) AllReadyH.nil
      refine step_go (by rfl) 15 _ _ (by rfl) (fun _ _ => by kernel_rfl) _ (by rfl) (HT.out _ _ (PT7.out _ r8)) ?_
      rintro e x8 ⟨rfl, q8⟩
      refine ⟨_, rfl, ?_⟩
      have r9 := r8.trans (q8.mono r8.size)
      refine hK.out _ _ (r9) (fun hHeld => ?_)
      clear hK K
      try simp only [Act.put, List.setIfInBounds_toArray, List.set_cons_zero, List.set_cons_succ]
      refine wpAnyH_take (i := 42) (oi := ⟨some 128, _, _, _, _, _⟩) (v := ?qv42ta) rfl (by kernel_rfl) (by kernel_rfl) (by kernel_rfl) (fun _ _ _ h => h) (Or.inl ⟨by rfl, ?qy42ta⟩) hHeld ?qr42ta
      case qy42ta => (intro w' hSw; go_simp; try with_reducible rfl)
      try simp only [Act.put, List.setIfInBounds_toArray, List.set_cons_zero, List.set_cons_succ]
      refine wpAnyH_take (i := 43) (oi := ⟨some 129, _, _, _, _, _⟩) (v := ?qv43ta) rfl (by kernel_rfl) (by kernel_rfl) (by kernel_rfl) (fun _ _ _ h => h) (Or.inl ⟨by rfl, ?qy43ta⟩) hHeld ?qr43ta
      case qy43ta => (intro w' hSw; go_simp; try with_reducible rfl)
      try simp only [Act.put, List.setIfInBounds_toArray, List.set_cons_zero, List.set_cons_succ]
      refine wpAnyH_take (i := 44) (oi := ⟨some 130, _, _, _, _, _⟩) (v := ?qv44ta) rfl (by kernel_rfl) (by kernel_rfl) (by kernel_rfl) (fun _ _ _ h => h) (Or.inl ⟨by rfl, ?qy44ta⟩) hHeld ?qr44ta
      case qy44ta => (intro w' hSw; go_simp; try with_reducible rfl)
      try simp only [Act.put, List.setIfInBounds_toArray, List.set_cons_zero, List.set_cons_succ]
      refine wpAnyH_take (i := 45) (oi := ⟨some 131, _, _, _, _, _⟩) (v := ?qv45ta) rfl (by kernel_rfl) (by kernel_rfl) (by kernel_rfl) (fun _ _ _ h => h) (Or.inl ⟨by rfl, ?qy45ta⟩) hHeld ?qr45ta
      case qy45ta => (intro w' hSw; go_simp; try with_reducible rfl)
      try simp only [Act.put, List.setIfInBounds_toArray, List.set_cons_zero, List.set_cons_succ]
      refine wpAnyH_take (i := 46) (oi := ⟨some 132, _, _, _, _, _⟩) (v := ?qv46ta) rfl (by kernel_rfl) (by kernel_rfl) (by kernel_rfl) (fun _ _ _ h => h) (Or.inl ⟨by rfl, ?qy46ta⟩) hHeld ?qr46ta
      case qy46ta => (intro w' hSw; go_simp; try with_reducible rfl)
      try simp only [Act.put, List.setIfInBounds_toArray, List.set_cons_zero, List.set_cons_succ]
      refine wpAnyH_take (i := 47) (oi := ⟨some 133, _, _, _, _, _⟩) (v := ?qv47ta) rfl (by kernel_rfl) (by kernel_rfl) (by kernel_rfl) (fun _ _ _ h => h) (Or.inl ⟨by rfl, ?qy47ta⟩) hHeld ?qr47ta
      case qy47ta => (intro w' hSw; obtain ⟨z0, z1, z2, z3, z4, z5, z6, z7, z8, z9, y0, y1⟩ := XS.out w' hSw; go_simp; try with_reducible rfl)
      try simp only [Act.put, List.setIfInBounds_toArray, List.set_cons_zero, List.set_cons_succ]
      refine wpAnyH_take (i := 48) (oi := ⟨some 134, _, _, _, _, _⟩) (v := ?qv48ta) rfl (by kernel_rfl) (by kernel_rfl) (by kernel_rfl) (fun _ _ _ h => h) (Or.inl ⟨by rfl, ?qy48ta⟩) hHeld ?qr48ta
      case qy48ta => (intro w' hSw; go_simp; try with_reducible rfl)
      try simp only [Act.put, List.setIfInBounds_toArray, List.set_cons_zero, List.set_cons_succ]
      refine wpAnyH_take (i := 49) (oi := ⟨some 135, _, _, _, _, _⟩) (v := ?qv49ta) rfl (by kernel_rfl) (by kernel_rfl) (by kernel_rfl) (fun _ _ _ h => h) (Or.inl ⟨by rfl, ?qy49ta⟩) hHeld ?qr49ta
      case qy49ta => (intro w' hSw; go_simp; try with_reducible rfl)
      try simp only [Act.put, List.setIfInBounds_toArray, List.set_cons_zero, List.set_cons_succ]
      refine wpAnyH_take (i := 50) (oi := ⟨some 136, _, _, _, _, _⟩) (v := ?qv50ta) rfl (by kernel_rfl) (by kernel_rfl) (by kernel_rfl) (fun _ _ _ h => h) (Or.inl ⟨by rfl, ?qy50ta⟩) hHeld ?qr50ta
      case qy50ta => (intro w' hSw; obtain ⟨z0, z1, z2, z3, z4, z5, z6, z7, z8, z9, y0, y1⟩ := XS.out w' hSw; go_simp; try with_reducible rfl)
      try simp only [Act.put, List.setIfInBounds_toArray, List.set_cons_zero, List.set_cons_succ]
      refine wpAnyH_take (i := 51) (oi := ⟨some 137, _, _, _, _, _⟩) (v := ?qv51ta) rfl (by kernel_rfl) (by kernel_rfl) (by kernel_rfl) (fun _ _ _ h => h) (Or.inl ⟨by rfl, ?qy51ta⟩) hHeld ?qr51ta
      case qy51ta => (intro w' hSw; obtain ⟨z0, z1, z2, z3, z4, z5, z6, z7, z8, z9, y0, y1⟩ := XS.out w' hSw; go_simp; try with_reducible rfl)
      try simp only [Act.put, List.setIfInBounds_toArray, List.set_cons_zero, List.set_cons_succ]
      refine wpAnyH_ready (rs := [52]) (by kernel_rfl) (by simp) ?_
      refine AllReadyH.cons (o := ⟨some 138, _, _, _, _, _⟩) rfl (fun K hK => ?_) AllReadyH.nil
      refine step_go (by rfl) 22 _ _ (by rfl) (fun _ _ => by kernel_rfl) _ (by rfl) (ON.out _) ?_
      rintro e x9 ⟨rfl, q9⟩
      refine ⟨_, rfl, ?_⟩
      have r10 := r9.trans (q9.mono r9.size)
      refine hK.out _ _ (r10) (fun hHeld => ?_)
      clear hK K
      try simp only [Act.put, List.setIfInBounds_toArray, List.set_cons_zero, List.set_cons_succ]
      refine wpAnyH_take (i := 53) (oi := ⟨some 139, _, _, _, _, _⟩) (v := ?qv53ta) rfl (by kernel_rfl) (by kernel_rfl) (by kernel_rfl) (fun _ _ _ h => h) (Or.inl ⟨by rfl, ?qy53ta⟩) hHeld ?qr53ta
      case qy53ta => (intro w' hSw; go_simp; try with_reducible rfl)
      try simp only [Act.put, List.setIfInBounds_toArray, List.set_cons_zero, List.set_cons_succ]
      refine wpAnyH_take (i := 54) (oi := ⟨some 140, _, _, _, _, _⟩) (v := ?qv54ta) rfl (by kernel_rfl) (by kernel_rfl) (by kernel_rfl) (fun _ _ _ h => h) (Or.inl ⟨by rfl, ?qy54ta⟩) hHeld ?qr54ta
      case qy54ta => (intro w' hSw; go_simp; try with_reducible rfl)
      try simp only [Act.put, List.setIfInBounds_toArray, List.set_cons_zero, List.set_cons_succ]
      refine wpAnyH_take (i := 55) (oi := ⟨some 141, _, _, _, _, _⟩) (v := ?qv55ta) rfl (by kernel_rfl) (by kernel_rfl) (by kernel_rfl) (fun _ _ _ h => h) (Or.inl ⟨by rfl, ?qy55ta⟩) hHeld ?qr55ta
      case qy55ta => (intro w' hSw; go_simp; try with_reducible rfl)
      try simp only [Act.put, List.setIfInBounds_toArray, List.set_cons_zero, List.set_cons_succ]
      refine wpAnyH_ready (rs := [56]) (by kernel_rfl) (by simp) ?_
      refine AllReadyH.cons (o := ⟨some 142, _, _, _, _, _⟩) rfl (fun K hK => ?_) AllReadyH.nil
      refine step_go (by rfl) 11 _ _ (by rfl) (fun _ _ => by kernel_rfl) _ (by rfl) (awake5_any _ (G7.out _ r10)) ?_
      rintro e x10 ⟨rfl, q10⟩
      refine ⟨_, rfl, ?_⟩
      have r11 := r10.trans (q10.mono r10.size)
      refine hK.out _ _ (r11) (fun hHeld => ?_)
      clear hK K
      try simp only [Act.put, List.setIfInBounds_toArray, List.set_cons_zero, List.set_cons_succ]
      refine wpAnyH_take (i := 57) (oi := ⟨some 143, _, _, _, _, _⟩) (v := ?qv57ta) rfl (by kernel_rfl) (by kernel_rfl) (by kernel_rfl) (fun _ _ _ h => h) (Or.inl ⟨by rfl, ?qy57ta⟩) hHeld ?qr57ta
      case qy57ta => (intro w' hSw; go_simp; try with_reducible rfl)
      try simp only [Act.put, List.setIfInBounds_toArray, List.set_cons_zero, List.set_cons_succ]
      refine wpAnyH_take (i := 58) (oi := ⟨some 4, _, _, _, _, _⟩) (v := ?qv58ta) rfl (by kernel_rfl) (by kernel_rfl) (by kernel_rfl) (fun _ _ _ h => h) (Or.inl ⟨by rfl, ?qy58ta⟩) hHeld ?qr58ta
      case qy58ta => (intro w' hSw; go_simp; try with_reducible rfl)
      try simp only [Act.put, List.setIfInBounds_toArray, List.set_cons_zero, List.set_cons_succ]
      refine wpAnyH_done (by kernel_rfl) ?_ _
      refine NoPanic.normal ?_
      go_wp2_with fail
      go_ret
      exact ⟨rfl, BB7.trans (r11.mono BB7.size)⟩
    | false =>
      clear law2
      refine wp_region_noPanic ?_
      refine wp_region_held_drew (S := fun w' => Below w7.heap.size w7 w') (by kernel_rfl) (Below.refl _ _).drew (fun hHeld => ?_)
      generalize w7.drew = D3 at hHeld ⊢
      have r1 : Below w7.heap.size w7 D3 := hHeld
      refine wpAnyH_take (i := 0) (oi := ⟨some 86, _, _, _, _, _⟩) (v := ?qv0tb) rfl (by kernel_rfl) (by kernel_rfl) (by kernel_rfl) (fun _ _ _ h => h) (Or.inl ⟨by rfl, ?qy0tb⟩) hHeld ?qr0tb
      case qy0tb => (intro w' hSw; go_simp; try with_reducible rfl)
      try simp only [Act.put, List.setIfInBounds_toArray, List.set_cons_zero, List.set_cons_succ]
      refine wpAnyH_ready (rs := [1]) (by kernel_rfl) (by simp) ?_
      refine AllReadyH.cons (o := ⟨some 87, _, _, _, _, _⟩) rfl (fun K hK => ?_) AllReadyH.nil
      refine step_go (by rfl) 14 _ _ (by rfl) (fun _ _ => by kernel_rfl) _ (by rfl) (CS.out _ _ (PS7.out _ r1)) ?_
      rintro e x1 ⟨_, rfl, rfl, q1⟩
      refine ⟨_, rfl, ?_⟩
      have r2 := r1.trans (q1.mono r1.size)
      refine hK.out _ _ (r2) (fun hHeld => ?_)
      clear hK K
      try simp only [Act.put, List.setIfInBounds_toArray, List.set_cons_zero, List.set_cons_succ]
      refine wpAnyH_take (i := 2) (oi := ⟨some 88, _, _, _, _, _⟩) (v := ?qv2tb) rfl (by kernel_rfl) (by kernel_rfl) (by kernel_rfl) (fun _ _ _ h => h) (Or.inl ⟨by rfl, ?qy2tb⟩) hHeld ?qr2tb
      case qy2tb => (intro w' hSw; go_simp; try with_reducible rfl)
      try simp only [Act.put, List.setIfInBounds_toArray, List.set_cons_zero, List.set_cons_succ]
      refine wpAnyH_take (i := 3) (oi := ⟨some 89, _, _, _, _, _⟩) (v := ?qv3tb) rfl (by kernel_rfl) (by kernel_rfl) (by kernel_rfl) (fun _ _ _ h => h) (Or.inl ⟨by rfl, ?qy3tb⟩) hHeld ?qr3tb
      case qy3tb => (intro w' hSw; go_simp; try with_reducible rfl)
      try simp only [Act.put, List.setIfInBounds_toArray, List.set_cons_zero, List.set_cons_succ]
      refine wpAnyH_take (i := 4) (oi := ⟨some 90, _, _, _, _, _⟩) (v := ?qv4tb) rfl (by kernel_rfl) (by kernel_rfl) (by kernel_rfl) (fun _ _ _ h => h) (Or.inl ⟨by rfl, ?qy4tb⟩) hHeld ?qr4tb
      case qy4tb => (intro w' hSw; go_simp; try with_reducible rfl)
      try simp only [Act.put, List.setIfInBounds_toArray, List.set_cons_zero, List.set_cons_succ]
      refine wpAnyH_ready (rs := [5]) (by kernel_rfl) (by simp) ?_
      refine AllReadyH.cons (o := ⟨some 91, _, _, _, _, _⟩) rfl (fun K hK => ?_) AllReadyH.nil
      refine step_go (by rfl) 14 _ _ (by rfl) (fun _ _ => by kernel_rfl) _ (by rfl) (CT.out _ _ (PT7.out _ r2)) ?_
      rintro e x2 ⟨_, rfl, rfl, q2⟩
      refine ⟨_, rfl, ?_⟩
      have r3 := r2.trans (q2.mono r2.size)
      refine hK.out _ _ (r3) (fun hHeld => ?_)
      clear hK K
      try simp only [Act.put, List.setIfInBounds_toArray, List.set_cons_zero, List.set_cons_succ]
      refine wpAnyH_take (i := 6) (oi := ⟨some 92, _, _, _, _, _⟩) (v := ?qv6tb) rfl (by kernel_rfl) (by kernel_rfl) (by kernel_rfl) (fun _ _ _ h => h) (Or.inl ⟨by rfl, ?qy6tb⟩) hHeld ?qr6tb
      case qy6tb => (intro w' hSw; go_simp; try with_reducible rfl)
      try simp only [Act.put, List.setIfInBounds_toArray, List.set_cons_zero, List.set_cons_succ]
      refine wpAnyH_take (i := 7) (oi := ⟨some 93, _, _, _, _, _⟩) (v := ?qv7tb) rfl (by kernel_rfl) (by kernel_rfl) (by kernel_rfl) (fun _ _ _ h => h) (Or.inl ⟨by rfl, ?qy7tb⟩) hHeld ?qr7tb
      case qy7tb => (intro w' hSw; go_simp; try with_reducible rfl)
      try simp only [Act.put, List.setIfInBounds_toArray, List.set_cons_zero, List.set_cons_succ]
      refine wpAnyH_take (i := 8) (oi := ⟨some 94, _, _, _, _, _⟩) (v := ?qv8tb) rfl (by kernel_rfl) (by kernel_rfl) (by kernel_rfl) (fun _ _ _ h => h) (Or.inl ⟨by rfl, ?qy8tb⟩) hHeld ?qr8tb
      case qy8tb => (intro w' hSw; go_simp; try with_reducible rfl)
      try simp only [Act.put, List.setIfInBounds_toArray, List.set_cons_zero, List.set_cons_succ]
      refine wpAnyH_take (i := 9) (oi := ⟨some 95, _, _, _, _, _⟩) (v := ?qv9tb) rfl (by kernel_rfl) (by kernel_rfl) (by kernel_rfl) (fun _ _ _ h => h) (Or.inl ⟨by rfl, ?qy9tb⟩) hHeld ?qr9tb
      case qy9tb => (intro w' hSw; go_simp; try with_reducible rfl)
      try simp only [Act.put, List.setIfInBounds_toArray, List.set_cons_zero, List.set_cons_succ]
      refine wpAnyH_take (i := 10) (oi := ⟨some 96, _, _, _, _, _⟩) (v := ?qv10tb) rfl (by kernel_rfl) (by kernel_rfl) (by kernel_rfl) (fun _ _ _ h => h) (Or.inl ⟨by rfl, ?qy10tb⟩) hHeld ?qr10tb
      case qy10tb => (intro w' hSw; obtain ⟨z0, z1, z2, z3, z4, z5, z6, z7, z8, z9, y0, y1⟩ := XS.out w' hSw; go_simp; try with_reducible rfl)
      try simp only [Act.put, List.setIfInBounds_toArray, List.set_cons_zero, List.set_cons_succ]
      refine wpAnyH_take (i := 17) (oi := ⟨some 103, _, _, _, _, _⟩) (v := ?qv17tb) rfl (by kernel_rfl) (by kernel_rfl) (by kernel_rfl) (fun _ _ _ h => h) (Or.inl ⟨by rfl, ?qy17tb⟩) hHeld ?qr17tb
      case qy17tb => (intro w' hSw; go_simp; try with_reducible rfl)
      try simp only [Act.put, List.setIfInBounds_toArray, List.set_cons_zero, List.set_cons_succ]
      refine wpAnyH_take (i := 18) (oi := ⟨some 104, _, _, _, _, _⟩) (v := ?qv18tb) rfl (by kernel_rfl) (by kernel_rfl) (by kernel_rfl) (fun _ _ _ h => h) (Or.inl ⟨by rfl, ?qy18tb⟩) hHeld ?qr18tb
      case qy18tb => (intro w' hSw; obtain ⟨z0, z1, z2, z3, z4, z5, z6, z7, z8, z9, y0, y1⟩ := XS.out w' hSw; go_simp; try with_reducible rfl)
      try simp only [Act.put, List.setIfInBounds_toArray, List.set_cons_zero, List.set_cons_succ]
      refine wpAnyH_ready (rs := [11]) (by kernel_rfl) (by simp) ?_
      refine AllReadyH.cons (o := ⟨some 97, _, _, _, _, _⟩) rfl (fun K hK => ?_) AllReadyH.nil
      refine step_go (by rfl) 15 _ _ (by rfl) (fun _ _ => by kernel_rfl) _ (by rfl) (HS.out _ _ (PS7.out _ r3)) ?_
      rintro e x3 ⟨rfl, q3⟩
      refine ⟨_, rfl, ?_⟩
      have r4 := r3.trans (q3.mono r3.size)
      refine hK.out _ _ (r4) (fun hHeld => ?_)
      clear hK K
      try simp only [Act.put, List.setIfInBounds_toArray, List.set_cons_zero, List.set_cons_succ]
      refine wpAnyH_take (i := 12) (oi := ⟨some 98, _, _, _, _, _⟩) (v := ?qv12tb) rfl (by kernel_rfl) (by kernel_rfl) (by kernel_rfl) (fun _ _ _ h => h) (Or.inl ⟨by rfl, ?qy12tb⟩) hHeld ?qr12tb
      case qy12tb => (intro w' hSw; go_simp; try with_reducible rfl)
      try simp only [Act.put, List.setIfInBounds_toArray, List.set_cons_zero, List.set_cons_succ]
      refine wpAnyH_take (i := 13) (oi := ⟨some 99, _, _, _, _, _⟩) (v := undef) rfl (by kernel_rfl) (by kernel_rfl) (by kernel_rfl) (fun _ _ _ h => h) (Or.inr ⟨by rfl, rfl⟩) hHeld ?_
      try simp only [Act.put, List.setIfInBounds_toArray, List.set_cons_zero, List.set_cons_succ]
      refine wpAnyH_take (i := 14) (oi := ⟨some 100, _, _, _, _, _⟩) (v := undef) rfl (by kernel_rfl) (by kernel_rfl) (by kernel_rfl) (fun _ _ _ h => h) (Or.inr ⟨by rfl, rfl⟩) hHeld ?_
      try simp only [Act.put, List.setIfInBounds_toArray, List.set_cons_zero, List.set_cons_succ]
      refine wpAnyH_take (i := 15) (oi := ⟨some 101, _, _, _, _, _⟩) (v := undef) rfl (by kernel_rfl) (by kernel_rfl) (by kernel_rfl) (fun _ _ _ h => h) (Or.inr ⟨by rfl, rfl⟩) hHeld ?_
      try simp only [Act.put, List.setIfInBounds_toArray, List.set_cons_zero, List.set_cons_succ]
      refine wpAnyH_take (i := 16) (oi := ⟨some 102, _, _, _, _, _⟩) (v := ?qv16tb) rfl (by kernel_rfl) (by kernel_rfl) (by kernel_rfl) (fun _ _ _ h => h) (Or.inl ⟨by rfl, ?qy16tb⟩) hHeld ?qr16tb
      case qy16tb => (intro w' hSw; go_simp; try with_reducible rfl)
      try simp only [Act.put, List.setIfInBounds_toArray, List.set_cons_zero, List.set_cons_succ]
      refine wpAnyH_ready (rs := [19]) (by kernel_rfl) (by simp) ?_
      refine AllReadyH.cons (o := ⟨some 105, _, _, _, _, _⟩) rfl (fun K hK => ?_) AllReadyH.nil
      refine step_go (by rfl) 15 _ _ (by rfl) (fun _ _ => by kernel_rfl) _ (by rfl) (HC.out _ _ (PB7.out _ r4)) ?_
      rintro e x4 ⟨rfl, q4⟩
      refine ⟨_, rfl, ?_⟩
      have r5 := r4.trans (q4.mono r4.size)
      refine hK.out _ _ (r5) (fun hHeld => ?_)
      clear hK K
      try simp only [Act.put, List.setIfInBounds_toArray, List.set_cons_zero, List.set_cons_succ]
      refine wpAnyH_take (i := 20) (oi := ⟨some 106, _, _, _, _, _⟩) (v := ?qv20tb) rfl (by kernel_rfl) (by kernel_rfl) (by kernel_rfl) (fun _ _ _ h => h) (Or.inl ⟨by rfl, ?qy20tb⟩) hHeld ?qr20tb
      case qy20tb => (intro w' hSw; go_simp; try with_reducible rfl)
      try simp only [Act.put, List.setIfInBounds_toArray, List.set_cons_zero, List.set_cons_succ]
      refine wpAnyH_take (i := 21) (oi := ⟨some 107, _, _, _, _, _⟩) (v := ?qv21tb) rfl (by kernel_rfl) (by kernel_rfl) (by kernel_rfl) (fun _ _ _ h => h) (Or.inl ⟨by rfl, ?qy21tb⟩) hHeld ?qr21tb
      case qy21tb => (intro w' hSw; go_simp; try with_reducible rfl)
      try simp only [Act.put, List.setIfInBounds_toArray, List.set_cons_zero, List.set_cons_succ]
      refine wpAnyH_take (i := 22) (oi := ⟨some 108, _, _, _, _, _⟩) (v := ?qv22tb) rfl (by kernel_rfl) (by kernel_rfl) (by kernel_rfl) (fun _ _ _ h => h) (Or.inl ⟨by rfl, ?qy22tb⟩) hHeld ?qr22tb
      case qy22tb => (intro w' hSw; go_simp; try with_reducible rfl)
      try simp only [Act.put, List.setIfInBounds_toArray, List.set_cons_zero, List.set_cons_succ]
      refine wpAnyH_take (i := 23) (oi := ⟨some 109, _, _, _, _, _⟩) (v := ?qv23tb) rfl (by kernel_rfl) (by kernel_rfl) (by kernel_rfl) (fun _ _ _ h => h) (Or.inl ⟨by rfl, ?qy23tb⟩) hHeld ?qr23tb
      case qy23tb => (intro w' hSw; obtain ⟨z0, z1, z2, z3, z4, z5, z6, z7, z8, z9, y0, y1⟩ := XS.out w' hSw; go_simp; try with_reducible rfl)
      try simp only [Act.put, List.setIfInBounds_toArray, List.set_cons_zero, List.set_cons_succ]
      refine wpAnyH_take (i := 24) (oi := ⟨some 110, _, _, _, _, _⟩) (v := ?qv24tb) rfl (by kernel_rfl) (by kernel_rfl) (by kernel_rfl) (fun _ _ _ h => h) (Or.inl ⟨by rfl, ?qy24tb⟩) hHeld ?qr24tb
      case qy24tb => (intro w' hSw; go_simp; try with_reducible rfl)
      try simp only [Act.put, List.setIfInBounds_toArray, List.set_cons_zero, List.set_cons_succ]
      refine wpAnyH_ready (rs := [25]) (by kernel_rfl) (by simp) ?_
      refine AllReadyH.cons (o := ⟨some 111, _, _, _, _, _⟩) rfl (fun K hK => ?_) AllReadyH.nil
      refine step_go (by rfl) 17 _ _ (by rfl) (fun _ _ => by kernel_rfl) _ (by rfl) (TB.out _ _ (PB7.out _ r5)) ?_
      rintro e x5 ⟨rfl, q5⟩
      refine ⟨_, rfl, ?_⟩
      have r6 := r5.trans (q5.mono r5.size)
      refine hK.out _ _ (r6) (fun hHeld => ?_)
      clear hK K
      try simp only [Act.put, List.setIfInBounds_toArray, List.set_cons_zero, List.set_cons_succ]
      refine wpAnyH_ready (rs := [26]) (by kernel_rfl) (by simp) ?_
      refine AllReadyH.cons (o := ⟨some 112, _, _, _, _, _⟩) rfl (fun K hK => ?_) AllReadyH.nil
      refine step_go (by rfl) 21 _ _ (by rfl) (fun _ _ => by kernel_rfl) _ (by rfl) (U2.out _) ?_
      rintro e x6 ⟨rfl, q6⟩
      refine ⟨_, rfl, ?_⟩
      have r7 := r6.trans (q6.mono r6.size)
      refine hK.out _ _ (r7) (fun hHeld => ?_)
      clear hK K
      try simp only [Act.put, List.setIfInBounds_toArray, List.set_cons_zero, List.set_cons_succ]
      refine wpAnyH_take (i := 27) (oi := ⟨some 113, _, _, _, _, _⟩) (v := ?qv27tb) rfl (by kernel_rfl) (by kernel_rfl) (by kernel_rfl) (fun _ _ _ h => h) (Or.inl ⟨by rfl, ?qy27tb⟩) hHeld ?qr27tb
      case qy27tb => (intro w' hSw; go_simp; try with_reducible rfl)
      try simp only [Act.put, List.setIfInBounds_toArray, List.set_cons_zero, List.set_cons_succ]
      refine wpAnyH_take (i := 28) (oi := ⟨some 114, _, _, _, _, _⟩) (v := ?qv28tb) rfl (by kernel_rfl) (by kernel_rfl) (by kernel_rfl) (fun _ _ _ h => h) (Or.inl ⟨by rfl, ?qy28tb⟩) hHeld ?qr28tb
      case qy28tb => (intro w' hSw; go_simp; try with_reducible rfl)
      try simp only [Act.put, List.setIfInBounds_toArray, List.set_cons_zero, List.set_cons_succ]
      refine wpAnyH_take (i := 29) (oi := ⟨some 115, _, _, _, _, _⟩) (v := ?qv29tb) rfl (by kernel_rfl) (by kernel_rfl) (by kernel_rfl) (fun _ _ _ h => h) (Or.inl ⟨by rfl, ?qy29tb⟩) hHeld ?qr29tb
      case qy29tb => (intro w' hSw; go_simp; try with_reducible rfl)
      try simp only [Act.put, List.setIfInBounds_toArray, List.set_cons_zero, List.set_cons_succ]
      refine wpAnyH_take (i := 30) (oi := ⟨some 116, _, _, _, _, _⟩) (v := ?qv30tb) rfl (by kernel_rfl) (by kernel_rfl) (by kernel_rfl) (fun _ _ _ h => h) (Or.inl ⟨by rfl, ?qy30tb⟩) hHeld ?qr30tb
      case qy30tb => (intro w' hSw; go_simp; try with_reducible rfl)
      try simp only [Act.put, List.setIfInBounds_toArray, List.set_cons_zero, List.set_cons_succ]
      refine wpAnyH_take (i := 31) (oi := ⟨some 117, _, _, _, _, _⟩) (v := ?qv31tb) rfl (by kernel_rfl) (by kernel_rfl) (by kernel_rfl) (fun _ _ _ h => h) (Or.inl ⟨by rfl, ?qy31tb⟩) hHeld ?qr31tb
      case qy31tb => (intro w' hSw; go_simp; try with_reducible rfl)
      try simp only [Act.put, List.setIfInBounds_toArray, List.set_cons_zero, List.set_cons_succ]
      refine wpAnyH_take (i := 32) (oi := ⟨some 118, _, _, _, _, _⟩) (v := ?qv32tb) rfl (by kernel_rfl) (by kernel_rfl) (by kernel_rfl) (fun _ _ _ h => h) (Or.inl ⟨by rfl, ?qy32tb⟩) hHeld ?qr32tb
      case qy32tb => (intro w' hSw; go_simp; try with_reducible rfl)
      try simp only [Act.put, List.setIfInBounds_toArray, List.set_cons_zero, List.set_cons_succ]
      refine wpAnyH_take (i := 33) (oi := ⟨some 119, _, _, _, _, _⟩) (v := ?qv33tb) rfl (by kernel_rfl) (by kernel_rfl) (by kernel_rfl) (fun _ _ _ h => h) (Or.inl ⟨by rfl, ?qy33tb⟩) hHeld ?qr33tb
      case qy33tb => (intro w' hSw; go_simp; try with_reducible rfl)
      try simp only [Act.put, List.setIfInBounds_toArray, List.set_cons_zero, List.set_cons_succ]
      refine wpAnyH_take (i := 34) (oi := ⟨some 120, _, _, _, _, _⟩) (v := ?qv34tb) rfl (by kernel_rfl) (by kernel_rfl) (by kernel_rfl) (fun _ _ _ h => h) (Or.inl ⟨by rfl, ?qy34tb⟩) hHeld ?qr34tb
      case qy34tb => (intro w' hSw; go_simp; try with_reducible rfl)
      try simp only [Act.put, List.setIfInBounds_toArray, List.set_cons_zero, List.set_cons_succ]
      refine wpAnyH_take (i := 35) (oi := ⟨some 121, _, _, _, _, _⟩) (v := ?qv35tb) rfl (by kernel_rfl) (by kernel_rfl) (by kernel_rfl) (fun _ _ _ h => h) (Or.inl ⟨by rfl, ?qy35tb⟩) hHeld ?qr35tb
      case qy35tb => (intro w' hSw; obtain ⟨z0, z1, z2, z3, z4, z5, z6, z7, z8, z9, y0, y1⟩ := XS.out w' hSw; go_simp; try with_reducible rfl)
      try simp only [Act.put, List.setIfInBounds_toArray, List.set_cons_zero, List.set_cons_succ]
      refine wpAnyH_ready (rs := [36]) (by kernel_rfl) (by simp) ?_
      refine AllReadyH.cons (o := ⟨some 122, _, _, _, _, _⟩) rfl (fun K hK => ?_) AllReadyH.nil
      refine step_go (by rfl) 15 _ _ (by rfl) (fun _ _ => by kernel_rfl) _ (by rfl) (HS.out _ _ (PS7.out _ r7)) ?_
      rintro e x7 ⟨rfl, q7⟩
      refine ⟨_, rfl, ?_⟩
      have r8 := r7.trans (q7.mono r7.size)
      refine hK.out _ _ (r8) (fun hHeld => ?_)
      clear hK K
      try simp only [Act.put, List.setIfInBounds_toArray, List.set_cons_zero, List.set_cons_succ]
      refine wpAnyH_take (i := 37) (oi := ⟨some 123, _, _, _, _, _⟩) (v := ?qv37tb) rfl (by kernel_rfl) (by kernel_rfl) (by kernel_rfl) (fun _ _ _ h => h) (Or.inl ⟨by rfl, ?qy37tb⟩) hHeld ?qr37tb
      case qy37tb => (intro w' hSw; go_simp; try with_reducible rfl)
      try simp only [Act.put, List.setIfInBounds_toArray, List.set_cons_zero, List.set_cons_succ]
      refine wpAnyH_take (i := 38) (oi := ⟨some 124, _, _, _, _, _⟩) (v := ?qv38tb) rfl (by kernel_rfl) (by kernel_rfl) (by kernel_rfl) (fun _ _ _ h => h) (Or.inl ⟨by rfl, ?qy38tb⟩) hHeld ?qr38tb
      case qy38tb => (intro w' hSw; go_simp; try with_reducible rfl)
      try simp only [Act.put, List.setIfInBounds_toArray, List.set_cons_zero, List.set_cons_succ]
      refine wpAnyH_take (i := 39) (oi := ⟨some 125, _, _, _, _, _⟩) (v := ?qv39tb) rfl (by kernel_rfl) (by kernel_rfl) (by kernel_rfl) (fun _ _ _ h => h) (Or.inl ⟨by rfl, ?qy39tb⟩) hHeld ?qr39tb
      case qy39tb => (intro w' hSw; go_simp; try with_reducible rfl)
      try simp only [Act.put, List.setIfInBounds_toArray, List.set_cons_zero, List.set_cons_succ]
      refine wpAnyH_take (i := 40) (oi := ⟨some 126, _, _, _, _, _⟩) (v := ?qv40tb) rfl (by kernel_rfl) (by kernel_rfl) (by kernel_rfl) (fun _ _ _ h => h) (Or.inl ⟨by rfl, ?qy40tb⟩) hHeld ?qr40tb
      case qy40tb => (intro w' hSw; obtain ⟨z0, z1, z2, z3, z4, z5, z6, z7, z8, z9, y0, y1⟩ := XS.out w' hSw; go_simp; try with_reducible rfl)
      try simp only [Act.put, List.setIfInBounds_toArray, List.set_cons_zero, List.set_cons_succ]
      refine wpAnyH_ready (rs := [41]) (by kernel_rfl) (by simp) ?_
      refine AllReadyH.cons (o := ⟨some 127, _, _, _, _, _⟩) rfl (fun K hK => ?_) AllReadyH.nil
      refine step_go (by rfl) 15 _ _ (by rfl) (fun _ _ => by kernel_rfl) _ (by rfl) (HT.out _ _ (PT7.out _ r8)) ?_
      rintro e x8 ⟨rfl, q8⟩
      refine ⟨_, rfl, ?_⟩
      have r9 := r8.trans (q8.mono r8.size)
      refine hK.out _ _ (r9) (fun hHeld => ?_)
      clear hK K
      try simp only [Act.put, List.setIfInBounds_toArray, List.set_cons_zero, List.set_cons_succ]
      refine wpAnyH_take (i := 42) (oi := ⟨some 128, _, _, _, _, _⟩) (v := ?qv42tb) rfl (by kernel_rfl) (by kernel_rfl) (by kernel_rfl) (fun _ _ _ h => h) (Or.inl ⟨by rfl, ?qy42tb⟩) hHeld ?qr42tb
      case qy42tb => (intro w' hSw; go_simp; try with_reducible rfl)
      try simp only [Act.put, List.setIfInBounds_toArray, List.set_cons_zero, List.set_cons_succ]
      refine wpAnyH_take (i := 43) (oi := ⟨some 129, _, _, _, _, _⟩) (v := ?qv43tb) rfl (by kernel_rfl) (by kernel_rfl) (by kernel_rfl) (fun _ _ _ h => h) (Or.inl ⟨by rfl, ?qy43tb⟩) hHeld ?qr43tb
      case qy43tb => (intro w' hSw; go_simp; try with_reducible rfl)
      try simp only [Act.put, List.setIfInBounds_toArray, List.set_cons_zero, List.set_cons_succ]
      refine wpAnyH_take (i := 44) (oi := ⟨some 130, _, _, _, _, _⟩) (v := ?qv44tb) rfl (by kernel_rfl) (by kernel_rfl) (by kernel_rfl) (fun _ _ _ h => h) (Or.inl ⟨by rfl, ?qy44tb⟩) hHeld ?qr44tb
      case qy44tb => (intro w' hSw; go_simp; try with_reducible rfl)
      try simp only [Act.put, List.setIfInBounds_toArray, List.set_cons_zero, List.set_cons_succ]
      refine wpAnyH_take (i := 45) (oi := ⟨some 131, _, _, _, _, _⟩) (v := undef) rfl (by kernel_rfl) (by kernel_rfl) (by kernel_rfl) (fun _ _ _ h => h) (Or.inr ⟨by rfl, rfl⟩) hHeld ?_
      try simp only [Act.put, List.setIfInBounds_toArray, List.set_cons_zero, List.set_cons_succ]
      refine wpAnyH_take (i := 46) (oi := ⟨some 132, _, _, _, _, _⟩) (v := undef) rfl (by kernel_rfl) (by kernel_rfl) (by kernel_rfl) (fun _ _ _ h => h) (Or.inr ⟨by rfl, rfl⟩) hHeld ?_
      try simp only [Act.put, List.setIfInBounds_toArray, List.set_cons_zero, List.set_cons_succ]
      refine wpAnyH_take (i := 47) (oi := ⟨some 133, _, _, _, _, _⟩) (v := undef) rfl (by kernel_rfl) (by kernel_rfl) (by kernel_rfl) (fun _ _ _ h => h) (Or.inr ⟨by rfl, rfl⟩) hHeld ?_
      try simp only [Act.put, List.setIfInBounds_toArray, List.set_cons_zero, List.set_cons_succ]
      refine wpAnyH_take (i := 48) (oi := ⟨some 134, _, _, _, _, _⟩) (v := undef) rfl (by kernel_rfl) (by kernel_rfl) (by kernel_rfl) (fun _ _ _ h => h) (Or.inr ⟨by rfl, rfl⟩) hHeld ?_
      try simp only [Act.put, List.setIfInBounds_toArray, List.set_cons_zero, List.set_cons_succ]
      refine wpAnyH_take (i := 49) (oi := ⟨some 135, _, _, _, _, _⟩) (v := undef) rfl (by kernel_rfl) (by kernel_rfl) (by kernel_rfl) (fun _ _ _ h => h) (Or.inr ⟨by rfl, rfl⟩) hHeld ?_
      try simp only [Act.put, List.setIfInBounds_toArray, List.set_cons_zero, List.set_cons_succ]
      refine wpAnyH_take (i := 50) (oi := ⟨some 136, _, _, _, _, _⟩) (v := undef) rfl (by kernel_rfl) (by kernel_rfl) (by kernel_rfl) (fun _ _ _ h => h) (Or.inr ⟨by rfl, rfl⟩) hHeld ?_
      try simp only [Act.put, List.setIfInBounds_toArray, List.set_cons_zero, List.set_cons_succ]
      refine wpAnyH_take (i := 51) (oi := ⟨some 137, _, _, _, _, _⟩) (v := undef) rfl (by kernel_rfl) (by kernel_rfl) (by kernel_rfl) (fun _ _ _ h => h) (Or.inr ⟨by rfl, rfl⟩) hHeld ?_
      try simp only [Act.put, List.setIfInBounds_toArray, List.set_cons_zero, List.set_cons_succ]
      refine wpAnyH_take (i := 52) (oi := ⟨some 138, _, _, _, _, _⟩) (v := undef) rfl (by kernel_rfl) (by kernel_rfl) (by kernel_rfl) (fun _ _ _ h => h) (Or.inr ⟨by rfl, rfl⟩) hHeld ?_
      try simp only [Act.put, List.setIfInBounds_toArray, List.set_cons_zero, List.set_cons_succ]
      refine wpAnyH_take (i := 53) (oi := ⟨some 139, _, _, _, _, _⟩) (v := ?qv53tb) rfl (by kernel_rfl) (by kernel_rfl) (by kernel_rfl) (fun _ _ _ h => h) (Or.inl ⟨by rfl, ?qy53tb⟩) hHeld ?qr53tb
      case qy53tb => (intro w' hSw; go_simp; try with_reducible rfl)
      try simp only [Act.put, List.setIfInBounds_toArray, List.set_cons_zero, List.set_cons_succ]
      refine wpAnyH_take (i := 54) (oi := ⟨some 140, _, _, _, _, _⟩) (v := ?qv54tb) rfl (by kernel_rfl) (by kernel_rfl) (by kernel_rfl) (fun _ _ _ h => h) (Or.inl ⟨by rfl, ?qy54tb⟩) hHeld ?qr54tb
      case qy54tb => (intro w' hSw; go_simp; try with_reducible rfl)
      try simp only [Act.put, List.setIfInBounds_toArray, List.set_cons_zero, List.set_cons_succ]
      refine wpAnyH_take (i := 55) (oi := ⟨some 141, _, _, _, _, _⟩) (v := ?qv55tb) rfl (by kernel_rfl) (by kernel_rfl) (by kernel_rfl) (fun _ _ _ h => h) (Or.inl ⟨by rfl, ?qy55tb⟩) hHeld ?qr55tb
      case qy55tb => (intro w' hSw; go_simp; try with_reducible rfl)
      try simp only [Act.put, List.setIfInBounds_toArray, List.set_cons_zero, List.set_cons_succ]
      refine wpAnyH_ready (rs := [56]) (by kernel_rfl) (by simp) ?_
      refine AllReadyH.cons (o := ⟨some 142, _, _, _, _, _⟩) rfl (fun K hK => ?_) AllReadyH.nil
      refine step_go (by rfl) 11 _ _ (by rfl) (fun _ _ => by kernel_rfl) _ (by rfl) (awake5_any _ (G7.out _ r9)) ?_
      rintro e x9 ⟨rfl, q9⟩
      refine ⟨_, rfl, ?_⟩
      have r10 := r9.trans (q9.mono r9.size)
      refine hK.out _ _ (r10) (fun hHeld => ?_)
      clear hK K
      try simp only [Act.put, List.setIfInBounds_toArray, List.set_cons_zero, List.set_cons_succ]
      refine wpAnyH_take (i := 57) (oi := ⟨some 143, _, _, _, _, _⟩) (v := ?qv57tb) rfl (by kernel_rfl) (by kernel_rfl) (by kernel_rfl) (fun _ _ _ h => h) (Or.inl ⟨by rfl, ?qy57tb⟩) hHeld ?qr57tb
      case qy57tb => (intro w' hSw; go_simp; try with_reducible rfl)
      try simp only [Act.put, List.setIfInBounds_toArray, List.set_cons_zero, List.set_cons_succ]
      refine wpAnyH_take (i := 58) (oi := ⟨some 4, _, _, _, _, _⟩) (v := ?qv58tb) rfl (by kernel_rfl) (by kernel_rfl) (by kernel_rfl) (fun _ _ _ h => h) (Or.inl ⟨by rfl, ?qy58tb⟩) hHeld ?qr58tb
      case qy58tb => (intro w' hSw; go_simp; try with_reducible rfl)
      try simp only [Act.put, List.setIfInBounds_toArray, List.set_cons_zero, List.set_cons_succ]
      refine wpAnyH_done (by kernel_rfl) ?_ _
      refine NoPanic.normal ?_
      go_wp2_with fail
      go_ret
      exact ⟨rfl, BB7.trans (r10.mono BB7.size)⟩
  | false =>
    cases ht with
    | true =>
      clear law2
      refine wp_region_noPanic ?_
      refine wp_region_held_drew (S := fun w' => Below w7.heap.size w7 w') (by kernel_rfl) (Below.refl _ _).drew (fun hHeld => ?_)
      generalize w7.drew = D3 at hHeld ⊢
      have r1 : Below w7.heap.size w7 D3 := hHeld
      refine wpAnyH_take (i := 0) (oi := ⟨some 86, _, _, _, _, _⟩) (v := ?qv0tc) rfl (by kernel_rfl) (by kernel_rfl) (by kernel_rfl) (fun _ _ _ h => h) (Or.inl ⟨by rfl, ?qy0tc⟩) hHeld ?qr0tc
      case qy0tc => (intro w' hSw; go_simp; try with_reducible rfl)
      try simp only [Act.put, List.setIfInBounds_toArray, List.set_cons_zero, List.set_cons_succ]
      refine wpAnyH_ready (rs := [1]) (by kernel_rfl) (by simp) ?_
      refine AllReadyH.cons (o := ⟨some 87, _, _, _, _, _⟩) rfl (fun K hK => ?_) AllReadyH.nil
      refine step_go (by rfl) 14 _ _ (by rfl) (fun _ _ => by kernel_rfl) _ (by rfl) (CS.out _ _ (PS7.out _ r1)) ?_
      rintro e x1 ⟨_, rfl, rfl, q1⟩
      refine ⟨_, rfl, ?_⟩
      have r2 := r1.trans (q1.mono r1.size)
      refine hK.out _ _ (r2) (fun hHeld => ?_)
      clear hK K
      try simp only [Act.put, List.setIfInBounds_toArray, List.set_cons_zero, List.set_cons_succ]
      refine wpAnyH_take (i := 2) (oi := ⟨some 88, _, _, _, _, _⟩) (v := ?qv2tc) rfl (by kernel_rfl) (by kernel_rfl) (by kernel_rfl) (fun _ _ _ h => h) (Or.inl ⟨by rfl, ?qy2tc⟩) hHeld ?qr2tc
      case qy2tc => (intro w' hSw; go_simp; try with_reducible rfl)
      try simp only [Act.put, List.setIfInBounds_toArray, List.set_cons_zero, List.set_cons_succ]
      refine wpAnyH_take (i := 3) (oi := ⟨some 89, _, _, _, _, _⟩) (v := ?qv3tc) rfl (by kernel_rfl) (by kernel_rfl) (by kernel_rfl) (fun _ _ _ h => h) (Or.inl ⟨by rfl, ?qy3tc⟩) hHeld ?qr3tc
      case qy3tc => (intro w' hSw; go_simp; try with_reducible rfl)
      try simp only [Act.put, List.setIfInBounds_toArray, List.set_cons_zero, List.set_cons_succ]
      refine wpAnyH_take (i := 4) (oi := ⟨some 90, _, _, _, _, _⟩) (v := ?qv4tc) rfl (by kernel_rfl) (by kernel_rfl) (by kernel_rfl) (fun _ _ _ h => h) (Or.inl ⟨by rfl, ?qy4tc⟩) hHeld ?qr4tc
      case qy4tc => (intro w' hSw; go_simp; try with_reducible rfl)
      try simp only [Act.put, List.setIfInBounds_toArray, List.set_cons_zero, List.set_cons_succ]
      refine wpAnyH_ready (rs := [5]) (by kernel_rfl) (by simp) ?_
      refine AllReadyH.cons (o := ⟨some 91, _, _, _, _, _⟩) rfl (fun K hK => ?_) AllReadyH.nil
      refine step_go (by rfl) 14 _ _ (by rfl) (fun _ _ => by kernel_rfl) _ (by rfl) (CT.out _ _ (PT7.out _ r2)) ?_
      rintro e x2 ⟨_, rfl, rfl, q2⟩
      refine ⟨_, rfl, ?_⟩
      have r3 := r2.trans (q2.mono r2.size)
      refine hK.out _ _ (r3) (fun hHeld => ?_)
      clear hK K
      try simp only [Act.put, List.setIfInBounds_toArray, List.set_cons_zero, List.set_cons_succ]
      refine wpAnyH_take (i := 6) (oi := ⟨some 92, _, _, _, _, _⟩) (v := ?qv6tc) rfl (by kernel_rfl) (by kernel_rfl) (by kernel_rfl) (fun _ _ _ h => h) (Or.inl ⟨by rfl, ?qy6tc⟩) hHeld ?qr6tc
      case qy6tc => (intro w' hSw; go_simp; try with_reducible rfl)
      try simp only [Act.put, List.setIfInBounds_toArray, List.set_cons_zero, List.set_cons_succ]
      refine wpAnyH_take (i := 7) (oi := ⟨some 93, _, _, _, _, _⟩) (v := ?qv7tc) rfl (by kernel_rfl) (by kernel_rfl) (by kernel_rfl) (fun _ _ _ h => h) (Or.inl ⟨by rfl, ?qy7tc⟩) hHeld ?qr7tc
      case qy7tc => (intro w' hSw; go_simp; try with_reducible rfl)
      try simp only [Act.put, List.setIfInBounds_toArray, List.set_cons_zero, List.set_cons_succ]
      refine wpAnyH_take (i := 8) (oi := ⟨some 94, _, _, _, _, _⟩) (v := ?qv8tc) rfl (by kernel_rfl) (by kernel_rfl) (by kernel_rfl) (fun _ _ _ h => h) (Or.inl ⟨by rfl, ?qy8tc⟩) hHeld ?qr8tc
      case qy8tc => (intro w' hSw; go_simp; try with_reducible rfl)
      try simp only [Act.put, List.setIfInBounds_toArray, List.set_cons_zero, List.set_cons_succ]
      refine wpAnyH_take (i := 9) (oi := ⟨some 95, _, _, _, _, _⟩) (v := ?qv9tc) rfl (by kernel_rfl) (by kernel_rfl) (by kernel_rfl) (fun _ _ _ h => h) (Or.inl ⟨by rfl, ?qy9tc⟩) hHeld ?qr9tc
      case qy9tc => (intro w' hSw; go_simp; try with_reducible rfl)
      try simp only [Act.put, List.setIfInBounds_toArray, List.set_cons_zero, List.set_cons_succ]
      refine wpAnyH_take (i := 10) (oi := ⟨some 96, _, _, _, _, _⟩) (v := ?qv10tc) rfl (by kernel_rfl) (by kernel_rfl) (by kernel_rfl) (fun _ _ _ h => h) (Or.inl ⟨by rfl, ?qy10tc⟩) hHeld ?qr10tc
      case qy10tc => (intro w' hSw; obtain ⟨z0, z1, z2, z3, z4, z5, z6, z7, z8, z9, y0, y1⟩ := XS.out w' hSw; go_simp; try with_reducible rfl)
      try simp only [Act.put, List.setIfInBounds_toArray, List.set_cons_zero, List.set_cons_succ]
      refine wpAnyH_take (i := 17) (oi := ⟨some 103, _, _, _, _, _⟩) (v := ?qv17tc) rfl (by kernel_rfl) (by kernel_rfl) (by kernel_rfl) (fun _ _ _ h => h) (Or.inl ⟨by rfl, ?qy17tc⟩) hHeld ?qr17tc
      case qy17tc => (intro w' hSw; go_simp; try with_reducible rfl)
      try simp only [Act.put, List.setIfInBounds_toArray, List.set_cons_zero, List.set_cons_succ]
      refine wpAnyH_take (i := 18) (oi := ⟨some 104, _, _, _, _, _⟩) (v := ?qv18tc) rfl (by kernel_rfl) (by kernel_rfl) (by kernel_rfl) (fun _ _ _ h => h) (Or.inl ⟨by rfl, ?qy18tc⟩) hHeld ?qr18tc
      case qy18tc => (intro w' hSw; obtain ⟨z0, z1, z2, z3, z4, z5, z6, z7, z8, z9, y0, y1⟩ := XS.out w' hSw; go_simp; try with_reducible rfl)
      try simp only [Act.put, List.setIfInBounds_toArray, List.set_cons_zero, List.set_cons_succ]
      refine wpAnyH_ready (rs := [11]) (by kernel_rfl) (by simp) ?_
      refine AllReadyH.cons (o := ⟨some 97, _, _, _, _, _⟩) rfl (fun K hK => ?_) AllReadyH.nil
      refine step_go (by rfl) 15 _ _ (by rfl) (fun _ _ => by kernel_rfl) _ (by rfl) (HS.out _ _ (PS7.out _ r3)) ?_
      rintro e x3 ⟨rfl, q3⟩
      refine ⟨_, rfl, ?_⟩
      have r4 := r3.trans (q3.mono r3.size)
      refine hK.out _ _ (r4) (fun hHeld => ?_)
      clear hK K
      try simp only [Act.put, List.setIfInBounds_toArray, List.set_cons_zero, List.set_cons_succ]
      refine wpAnyH_take (i := 12) (oi := ⟨some 98, _, _, _, _, _⟩) (v := ?qv12tc) rfl (by kernel_rfl) (by kernel_rfl) (by kernel_rfl) (fun _ _ _ h => h) (Or.inl ⟨by rfl, ?qy12tc⟩) hHeld ?qr12tc
      case qy12tc => (intro w' hSw; go_simp; try with_reducible rfl)
      try simp only [Act.put, List.setIfInBounds_toArray, List.set_cons_zero, List.set_cons_succ]
      refine wpAnyH_take (i := 13) (oi := ⟨some 99, _, _, _, _, _⟩) (v := ?qv13tc) rfl (by kernel_rfl) (by kernel_rfl) (by kernel_rfl) (fun _ _ _ h => h) (Or.inl ⟨by rfl, ?qy13tc⟩) hHeld ?qr13tc
      case qy13tc => (intro w' hSw; go_simp; try with_reducible rfl)
      try simp only [Act.put, List.setIfInBounds_toArray, List.set_cons_zero, List.set_cons_succ]
      refine wpAnyH_take (i := 14) (oi := ⟨some 100, _, _, _, _, _⟩) (v := ?qv14tc) rfl (by kernel_rfl) (by kernel_rfl) (by kernel_rfl) (fun _ _ _ h => h) (Or.inl ⟨by rfl, ?qy14tc⟩) hHeld ?qr14tc
      case qy14tc => (intro w' hSw; obtain ⟨z0, z1, z2, z3, z4, z5, z6, z7, z8, z9, y0, y1⟩ := XS.out w' hSw; go_simp; try with_reducible rfl)
      try simp only [Act.put, List.setIfInBounds_toArray, List.set_cons_zero, List.set_cons_succ]
      refine wpAnyH_ready (rs := [15]) (by kernel_rfl) (by simp) ?_
      refine AllReadyH.cons (o := ⟨some 101, _, _, _, _, _⟩) rfl (fun K hK => ?_) AllReadyH.nil
      refine step_go (by rfl) 15 _ _ (by rfl) (fun _ _ => by kernel_rfl) _ (by rfl) (HT.out _ _ (PT7.out _ r4)) ?_
      rintro e x4 ⟨rfl, q4⟩
      refine ⟨_, rfl, ?_⟩
      have r5 := r4.trans (q4.mono r4.size)
      refine hK.out _ _ (r5) (fun hHeld => ?_)
      clear hK K
      try simp only [Act.put, List.setIfInBounds_toArray, List.set_cons_zero, List.set_cons_succ]
      refine wpAnyH_take (i := 16) (oi := ⟨some 102, _, _, _, _, _⟩) (v := ?qv16tc) rfl (by kernel_rfl) (by kernel_rfl) (by kernel_rfl) (fun _ _ _ h => h) (Or.inl ⟨by rfl, ?qy16tc⟩) hHeld ?qr16tc
      case qy16tc => (intro w' hSw; go_simp; try with_reducible rfl)
      try simp only [Act.put, List.setIfInBounds_toArray, List.set_cons_zero, List.set_cons_succ]
      refine wpAnyH_ready (rs := [19]) (by kernel_rfl) (by simp) ?_
      refine AllReadyH.cons (o := ⟨some 105, _, _, _, _, _⟩) rfl (fun K hK => ?_) AllReadyH.nil
      refine step_go (by rfl) 15 _ _ (by rfl) (fun _ _ => by kernel_rfl) _ (by rfl) (HC.out _ _ (PB7.out _ r5)) ?_
      rintro e x5 ⟨rfl, q5⟩
      refine ⟨_, rfl, ?_⟩
      have r6 := r5.trans (q5.mono r5.size)
      refine hK.out _ _ (r6) (fun hHeld => ?_)
      clear hK K
      try simp only [Act.put, List.setIfInBounds_toArray, List.set_cons_zero, List.set_cons_succ]
      refine wpAnyH_take (i := 20) (oi := ⟨some 106, _, _, _, _, _⟩) (v := ?qv20tc) rfl (by kernel_rfl) (by kernel_rfl) (by kernel_rfl) (fun _ _ _ h => h) (Or.inl ⟨by rfl, ?qy20tc⟩) hHeld ?qr20tc
      case qy20tc => (intro w' hSw; go_simp; try with_reducible rfl)
      try simp only [Act.put, List.setIfInBounds_toArray, List.set_cons_zero, List.set_cons_succ]
      refine wpAnyH_take (i := 21) (oi := ⟨some 107, _, _, _, _, _⟩) (v := ?qv21tc) rfl (by kernel_rfl) (by kernel_rfl) (by kernel_rfl) (fun _ _ _ h => h) (Or.inl ⟨by rfl, ?qy21tc⟩) hHeld ?qr21tc
      case qy21tc => (intro w' hSw; go_simp; try with_reducible rfl)
      try simp only [Act.put, List.setIfInBounds_toArray, List.set_cons_zero, List.set_cons_succ]
      refine wpAnyH_take (i := 22) (oi := ⟨some 108, _, _, _, _, _⟩) (v := ?qv22tc) rfl (by kernel_rfl) (by kernel_rfl) (by kernel_rfl) (fun _ _ _ h => h) (Or.inl ⟨by rfl, ?qy22tc⟩) hHeld ?qr22tc
      case qy22tc => (intro w' hSw; go_simp; try with_reducible rfl)
      try simp only [Act.put, List.setIfInBounds_toArray, List.set_cons_zero, List.set_cons_succ]
      refine wpAnyH_take (i := 23) (oi := ⟨some 109, _, _, _, _, _⟩) (v := ?qv23tc) rfl (by kernel_rfl) (by kernel_rfl) (by kernel_rfl) (fun _ _ _ h => h) (Or.inl ⟨by rfl, ?qy23tc⟩) hHeld ?qr23tc
      case qy23tc => (intro w' hSw; obtain ⟨z0, z1, z2, z3, z4, z5, z6, z7, z8, z9, y0, y1⟩ := XS.out w' hSw; go_simp; try with_reducible rfl)
      try simp only [Act.put, List.setIfInBounds_toArray, List.set_cons_zero, List.set_cons_succ]
      refine wpAnyH_take (i := 24) (oi := ⟨some 110, _, _, _, _, _⟩) (v := ?qv24tc) rfl (by kernel_rfl) (by kernel_rfl) (by kernel_rfl) (fun _ _ _ h => h) (Or.inl ⟨by rfl, ?qy24tc⟩) hHeld ?qr24tc
      case qy24tc => (intro w' hSw; go_simp; try with_reducible rfl)
      try simp only [Act.put, List.setIfInBounds_toArray, List.set_cons_zero, List.set_cons_succ]
      refine wpAnyH_ready (rs := [25]) (by kernel_rfl) (by simp) ?_
      refine AllReadyH.cons (o := ⟨some 111, _, _, _, _, _⟩) rfl (fun K hK => ?_) AllReadyH.nil
      refine step_go (by rfl) 17 _ _ (by rfl) (fun _ _ => by kernel_rfl) _ (by rfl) (TB.out _ _ (PB7.out _ r6)) ?_
      rintro e x6 ⟨rfl, q6⟩
      refine ⟨_, rfl, ?_⟩
      have r7 := r6.trans (q6.mono r6.size)
      refine hK.out _ _ (r7) (fun hHeld => ?_)
      clear hK K
      try simp only [Act.put, List.setIfInBounds_toArray, List.set_cons_zero, List.set_cons_succ]
      refine wpAnyH_ready (rs := [26]) (by kernel_rfl) (by simp) ?_
      refine AllReadyH.cons (o := ⟨some 112, _, _, _, _, _⟩) rfl (fun K hK => ?_) AllReadyH.nil
      refine step_go (by rfl) 21 _ _ (by rfl) (fun _ _ => by kernel_rfl) _ (by rfl) (U2.out _) ?_
      rintro e x7 ⟨rfl, q7⟩
      refine ⟨_, rfl, ?_⟩
      have r8 := r7.trans (q7.mono r7.size)
      refine hK.out _ _ (r8) (fun hHeld => ?_)
      clear hK K
      try simp only [Act.put, List.setIfInBounds_toArray, List.set_cons_zero, List.set_cons_succ]
      refine wpAnyH_take (i := 27) (oi := ⟨some 113, _, _, _, _, _⟩) (v := ?qv27tc) rfl (by kernel_rfl) (by kernel_rfl) (by kernel_rfl) (fun _ _ _ h => h) (Or.inl ⟨by rfl, ?qy27tc⟩) hHeld ?qr27tc
      case qy27tc => (intro w' hSw; go_simp; try with_reducible rfl)
      try simp only [Act.put, List.setIfInBounds_toArray, List.set_cons_zero, List.set_cons_succ]
      refine wpAnyH_take (i := 28) (oi := ⟨some 114, _, _, _, _, _⟩) (v := ?qv28tc) rfl (by kernel_rfl) (by kernel_rfl) (by kernel_rfl) (fun _ _ _ h => h) (Or.inl ⟨by rfl, ?qy28tc⟩) hHeld ?qr28tc
      case qy28tc => (intro w' hSw; go_simp; try with_reducible rfl)
      try simp only [Act.put, List.setIfInBounds_toArray, List.set_cons_zero, List.set_cons_succ]
      refine wpAnyH_take (i := 29) (oi := ⟨some 115, _, _, _, _, _⟩) (v := ?qv29tc) rfl (by kernel_rfl) (by kernel_rfl) (by kernel_rfl) (fun _ _ _ h => h) (Or.inl ⟨by rfl, ?qy29tc⟩) hHeld ?qr29tc
      case qy29tc => (intro w' hSw; go_simp; try with_reducible rfl)
      try simp only [Act.put, List.setIfInBounds_toArray, List.set_cons_zero, List.set_cons_succ]
      refine wpAnyH_take (i := 30) (oi := ⟨some 116, _, _, _, _, _⟩) (v := ?qv30tc) rfl (by kernel_rfl) (by kernel_rfl) (by kernel_rfl) (fun _ _ _ h => h) (Or.inl ⟨by rfl, ?qy30tc⟩) hHeld ?qr30tc
      case qy30tc => (intro w' hSw; go_simp; try with_reducible rfl)
      try simp only [Act.put, List.setIfInBounds_toArray, List.set_cons_zero, List.set_cons_succ]
      refine wpAnyH_take (i := 31) (oi := ⟨some 117, _, _, _, _, _⟩) (v := ?qv31tc) rfl (by kernel_rfl) (by kernel_rfl) (by kernel_rfl) (fun _ _ _ h => h) (Or.inl ⟨by rfl, ?qy31tc⟩) hHeld ?qr31tc
      case qy31tc => (intro w' hSw; go_simp; try with_reducible rfl)
      try simp only [Act.put, List.setIfInBounds_toArray, List.set_cons_zero, List.set_cons_succ]
      refine wpAnyH_take (i := 32) (oi := ⟨some 118, _, _, _, _, _⟩) (v := ?qv32tc) rfl (by kernel_rfl) (by kernel_rfl) (by kernel_rfl) (fun _ _ _ h => h) (Or.inl ⟨by rfl, ?qy32tc⟩) hHeld ?qr32tc
      case qy32tc => (intro w' hSw; go_simp; try with_reducible rfl)
      try simp only [Act.put, List.setIfInBounds_toArray, List.set_cons_zero, List.set_cons_succ]
      refine wpAnyH_take (i := 33) (oi := ⟨some 119, _, _, _, _, _⟩) (v := ?qv33tc) rfl (by kernel_rfl) (by kernel_rfl) (by kernel_rfl) (fun _ _ _ h => h) (Or.inl ⟨by rfl, ?qy33tc⟩) hHeld ?qr33tc
      case qy33tc => (intro w' hSw; go_simp; try with_reducible rfl)
      try simp only [Act.put, List.setIfInBounds_toArray, List.set_cons_zero, List.set_cons_succ]
      refine wpAnyH_take (i := 34) (oi := ⟨some 120, _, _, _, _, _⟩) (v := ?qv34tc) rfl (by kernel_rfl) (by kernel_rfl) (by kernel_rfl) (fun _ _ _ h => h) (Or.inl ⟨by rfl, ?qy34tc⟩) hHeld ?qr34tc
      case qy34tc => (intro w' hSw; go_simp; try with_reducible rfl)
      try simp only [Act.put, List.setIfInBounds_toArray, List.set_cons_zero, List.set_cons_succ]
      refine wpAnyH_take (i := 35) (oi := ⟨some 121, _, _, _, _, _⟩) (v := ?qv35tc) rfl (by kernel_rfl) (by kernel_rfl) (by kernel_rfl) (fun _ _ _ h => h) (Or.inl ⟨by rfl, ?qy35tc⟩) hHeld ?qr35tc
      case qy35tc => (intro w' hSw; obtain ⟨z0, z1, z2, z3, z4, z5, z6, z7, z8, z9, y0, y1⟩ := XS.out w' hSw; go_simp; try with_reducible rfl)
      try simp only [Act.put, List.setIfInBounds_toArray, List.set_cons_zero, List.set_cons_succ]
      refine wpAnyH_ready (rs := [36]) (by kernel_rfl) (by simp) ?_
      refine AllReadyH.cons (o := ⟨some 122, _, _, _, _, _⟩) rfl (fun K hK => ?_) AllReadyH.nil
      refine step_go (by rfl) 15 _ _ (by rfl) (fun _ _ => by kernel_rfl) _ (by rfl) (HS.out _ _ (PS7.out _ r8)) ?_
      rintro e x8 ⟨rfl, q8⟩
      refine ⟨_, rfl, ?_⟩
      have r9 := r8.trans (q8.mono r8.size)
      refine hK.out _ _ (r9) (fun hHeld => ?_)
      clear hK K
      try simp only [Act.put, List.setIfInBounds_toArray, List.set_cons_zero, List.set_cons_succ]
      refine wpAnyH_take (i := 37) (oi := ⟨some 123, _, _, _, _, _⟩) (v := ?qv37tc) rfl (by kernel_rfl) (by kernel_rfl) (by kernel_rfl) (fun _ _ _ h => h) (Or.inl ⟨by rfl, ?qy37tc⟩) hHeld ?qr37tc
      case qy37tc => (intro w' hSw; go_simp; try with_reducible rfl)
      try simp only [Act.put, List.setIfInBounds_toArray, List.set_cons_zero, List.set_cons_succ]
      refine wpAnyH_take (i := 38) (oi := ⟨some 124, _, _, _, _, _⟩) (v := ?qv38tc) rfl (by kernel_rfl) (by kernel_rfl) (by kernel_rfl) (fun _ _ _ h => h) (Or.inl ⟨by rfl, ?qy38tc⟩) hHeld ?qr38tc
      case qy38tc => (intro w' hSw; go_simp; try with_reducible rfl)
      try simp only [Act.put, List.setIfInBounds_toArray, List.set_cons_zero, List.set_cons_succ]
      refine wpAnyH_take (i := 39) (oi := ⟨some 125, _, _, _, _, _⟩) (v := undef) rfl (by kernel_rfl) (by kernel_rfl) (by kernel_rfl) (fun _ _ _ h => h) (Or.inr ⟨by rfl, rfl⟩) hHeld ?_
      try simp only [Act.put, List.setIfInBounds_toArray, List.set_cons_zero, List.set_cons_succ]
      refine wpAnyH_take (i := 40) (oi := ⟨some 126, _, _, _, _, _⟩) (v := undef) rfl (by kernel_rfl) (by kernel_rfl) (by kernel_rfl) (fun _ _ _ h => h) (Or.inr ⟨by rfl, rfl⟩) hHeld ?_
      try simp only [Act.put, List.setIfInBounds_toArray, List.set_cons_zero, List.set_cons_succ]
      refine wpAnyH_take (i := 41) (oi := ⟨some 127, _, _, _, _, _⟩) (v := undef) rfl (by kernel_rfl) (by kernel_rfl) (by kernel_rfl) (fun _ _ _ h => h) (Or.inr ⟨by rfl, rfl⟩) hHeld ?_
      try simp only [Act.put, List.setIfInBounds_toArray, List.set_cons_zero, List.set_cons_succ]
      refine wpAnyH_take (i := 42) (oi := ⟨some 128, _, _, _, _, _⟩) (v := undef) rfl (by kernel_rfl) (by kernel_rfl) (by kernel_rfl) (fun _ _ _ h => h) (Or.inr ⟨by rfl, rfl⟩) hHeld ?_
      try simp only [Act.put, List.setIfInBounds_toArray, List.set_cons_zero, List.set_cons_succ]
      refine wpAnyH_take (i := 43) (oi := ⟨some 129, _, _, _, _, _⟩) (v := ?qv43tc) rfl (by kernel_rfl) (by kernel_rfl) (by kernel_rfl) (fun _ _ _ h => h) (Or.inl ⟨by rfl, ?qy43tc⟩) hHeld ?qr43tc
      case qy43tc => (intro w' hSw; go_simp; try with_reducible rfl)
      try simp only [Act.put, List.setIfInBounds_toArray, List.set_cons_zero, List.set_cons_succ]
      refine wpAnyH_take (i := 44) (oi := ⟨some 130, _, _, _, _, _⟩) (v := ?qv44tc) rfl (by kernel_rfl) (by kernel_rfl) (by kernel_rfl) (fun _ _ _ h => h) (Or.inl ⟨by rfl, ?qy44tc⟩) hHeld ?qr44tc
      case qy44tc => (intro w' hSw; go_simp; try with_reducible rfl)
      try simp only [Act.put, List.setIfInBounds_toArray, List.set_cons_zero, List.set_cons_succ]
      refine wpAnyH_take (i := 45) (oi := ⟨some 131, _, _, _, _, _⟩) (v := undef) rfl (by kernel_rfl) (by kernel_rfl) (by kernel_rfl) (fun _ _ _ h => h) (Or.inr ⟨by rfl, rfl⟩) hHeld ?_
      try simp only [Act.put, List.setIfInBounds_toArray, List.set_cons_zero, List.set_cons_succ]
      refine wpAnyH_take (i := 46) (oi := ⟨some 132, _, _, _, _, _⟩) (v := undef) rfl (by kernel_rfl) (by kernel_rfl) (by kernel_rfl) (fun _ _ _ h => h) (Or.inr ⟨by rfl, rfl⟩) hHeld ?_
      try simp only [Act.put, List.setIfInBounds_toArray, List.set_cons_zero, List.set_cons_succ]
      refine wpAnyH_take (i := 47) (oi := ⟨some 133, _, _, _, _, _⟩) (v := undef) rfl (by kernel_rfl) (by kernel_rfl) (by kernel_rfl) (fun _ _ _ h => h) (Or.inr ⟨by rfl, rfl⟩) hHeld ?_
      try simp only [Act.put, List.setIfInBounds_toArray, List.set_cons_zero, List.set_cons_succ]
      refine wpAnyH_take (i := 48) (oi := ⟨some 134, _, _, _, _, _⟩) (v := undef) rfl (by kernel_rfl) (by kernel_rfl) (by kernel_rfl) (fun _ _ _ h => h) (Or.inr ⟨by rfl, rfl⟩) hHeld ?_
      try simp only [Act.put, List.setIfInBounds_toArray, List.set_cons_zero, List.set_cons_succ]
      refine wpAnyH_take (i := 49) (oi := ⟨some 135, _, _, _, _, _⟩) (v := undef) rfl (by kernel_rfl) (by kernel_rfl) (by kernel_rfl) (fun _ _ _ h => h) (Or.inr ⟨by rfl, rfl⟩) hHeld ?_
      try simp only [Act.put, List.setIfInBounds_toArray, List.set_cons_zero, List.set_cons_succ]
      refine wpAnyH_take (i := 50) (oi := ⟨some 136, _, _, _, _, _⟩) (v := undef) rfl (by kernel_rfl) (by kernel_rfl) (by kernel_rfl) (fun _ _ _ h => h) (Or.inr ⟨by rfl, rfl⟩) hHeld ?_
      try simp only [Act.put, List.setIfInBounds_toArray, List.set_cons_zero, List.set_cons_succ]
      refine wpAnyH_take (i := 51) (oi := ⟨some 137, _, _, _, _, _⟩) (v := undef) rfl (by kernel_rfl) (by kernel_rfl) (by kernel_rfl) (fun _ _ _ h => h) (Or.inr ⟨by rfl, rfl⟩) hHeld ?_
      try simp only [Act.put, List.setIfInBounds_toArray, List.set_cons_zero, List.set_cons_succ]
      refine wpAnyH_take (i := 52) (oi := ⟨some 138, _, _, _, _, _⟩) (v := undef) rfl (by kernel_rfl) (by kernel_rfl) (by kernel_rfl) (fun _ _ _ h => h) (Or.inr ⟨by rfl, rfl⟩) hHeld ?_
      try simp only [Act.put, List.setIfInBounds_toArray, List.set_cons_zero, List.set_cons_succ]
      refine wpAnyH_take (i := 53) (oi := ⟨some 139, _, _, _, _, _⟩) (v := ?qv53tc) rfl (by kernel_rfl) (by kernel_rfl) (by kernel_rfl) (fun _ _ _ h => h) (Or.inl ⟨by rfl, ?qy53tc⟩) hHeld ?qr53tc
      case qy53tc => (intro w' hSw; go_simp; try with_reducible rfl)
      try simp only [Act.put, List.setIfInBounds_toArray, List.set_cons_zero, List.set_cons_succ]
      refine wpAnyH_take (i := 54) (oi := ⟨some 140, _, _, _, _, _⟩) (v := ?qv54tc) rfl (by kernel_rfl) (by kernel_rfl) (by kernel_rfl) (fun _ _ _ h => h) (Or.inl ⟨by rfl, ?qy54tc⟩) hHeld ?qr54tc
      case qy54tc => (intro w' hSw; go_simp; try with_reducible rfl)
      try simp only [Act.put, List.setIfInBounds_toArray, List.set_cons_zero, List.set_cons_succ]
      refine wpAnyH_take (i := 55) (oi := ⟨some 141, _, _, _, _, _⟩) (v := ?qv55tc) rfl (by kernel_rfl) (by kernel_rfl) (by kernel_rfl) (fun _ _ _ h => h) (Or.inl ⟨by rfl, ?qy55tc⟩) hHeld ?qr55tc
      case qy55tc => (intro w' hSw; go_simp; try with_reducible rfl)
      try simp only [Act.put, List.setIfInBounds_toArray, List.set_cons_zero, List.set_cons_succ]
      refine wpAnyH_ready (rs := [56]) (by kernel_rfl) (by simp) ?_
      refine AllReadyH.cons (o := ⟨some 142, _, _, _, _, _⟩) rfl (fun K hK => ?_) AllReadyH.nil
      refine step_go (by rfl) 11 _ _ (by rfl) (fun _ _ => by kernel_rfl) _ (by rfl) (awake5_any _ (G7.out _ r9)) ?_
      rintro e x9 ⟨rfl, q9⟩
      refine ⟨_, rfl, ?_⟩
      have r10 := r9.trans (q9.mono r9.size)
      refine hK.out _ _ (r10) (fun hHeld => ?_)
      clear hK K
      try simp only [Act.put, List.setIfInBounds_toArray, List.set_cons_zero, List.set_cons_succ]
      refine wpAnyH_take (i := 57) (oi := ⟨some 143, _, _, _, _, _⟩) (v := ?qv57tc) rfl (by kernel_rfl) (by kernel_rfl) (by kernel_rfl) (fun _ _ _ h => h) (Or.inl ⟨by rfl, ?qy57tc⟩) hHeld ?qr57tc
      case qy57tc => (intro w' hSw; go_simp; try with_reducible rfl)
      try simp only [Act.put, List.setIfInBounds_toArray, List.set_cons_zero, List.set_cons_succ]
      refine wpAnyH_take (i := 58) (oi := ⟨some 4, _, _, _, _, _⟩) (v := ?qv58tc) rfl (by kernel_rfl) (by kernel_rfl) (by kernel_rfl) (fun _ _ _ h => h) (Or.inl ⟨by rfl, ?qy58tc⟩) hHeld ?qr58tc
      case qy58tc => (intro w' hSw; go_simp; try with_reducible rfl)
      try simp only [Act.put, List.setIfInBounds_toArray, List.set_cons_zero, List.set_cons_succ]
      refine wpAnyH_done (by kernel_rfl) ?_ _
      refine NoPanic.normal ?_
      go_wp2_with fail
      go_ret
      exact ⟨rfl, BB7.trans (r10.mono BB7.size)⟩
    | false =>
      clear law2
      refine wp_region_noPanic ?_
      refine wp_region_held_drew (S := fun w' => Below w7.heap.size w7 w') (by kernel_rfl) (Below.refl _ _).drew (fun hHeld => ?_)
      generalize w7.drew = D3 at hHeld ⊢
      have r1 : Below w7.heap.size w7 D3 := hHeld
      refine wpAnyH_take (i := 0) (oi := ⟨some 86, _, _, _, _, _⟩) (v := ?qv0td) rfl (by kernel_rfl) (by kernel_rfl) (by kernel_rfl) (fun _ _ _ h => h) (Or.inl ⟨by rfl, ?qy0td⟩) hHeld ?qr0td
      case qy0td => (intro w' hSw; go_simp; try with_reducible rfl)
      try simp only [Act.put, List.setIfInBounds_toArray, List.set_cons_zero, List.set_cons_succ]
      refine wpAnyH_ready (rs := [1]) (by kernel_rfl) (by simp) ?_
      refine AllReadyH.cons (o := ⟨some 87, _, _, _, _, _⟩) rfl (fun K hK => ?_) AllReadyH.nil
      refine step_go (by rfl) 14 _ _ (by rfl) (fun _ _ => by kernel_rfl) _ (by rfl) (CS.out _ _ (PS7.out _ r1)) ?_
      rintro e x1 ⟨_, rfl, rfl, q1⟩
      refine ⟨_, rfl, ?_⟩
      have r2 := r1.trans (q1.mono r1.size)
      refine hK.out _ _ (r2) (fun hHeld => ?_)
      clear hK K
      try simp only [Act.put, List.setIfInBounds_toArray, List.set_cons_zero, List.set_cons_succ]
      refine wpAnyH_take (i := 2) (oi := ⟨some 88, _, _, _, _, _⟩) (v := ?qv2td) rfl (by kernel_rfl) (by kernel_rfl) (by kernel_rfl) (fun _ _ _ h => h) (Or.inl ⟨by rfl, ?qy2td⟩) hHeld ?qr2td
      case qy2td => (intro w' hSw; go_simp; try with_reducible rfl)
      try simp only [Act.put, List.setIfInBounds_toArray, List.set_cons_zero, List.set_cons_succ]
      refine wpAnyH_take (i := 3) (oi := ⟨some 89, _, _, _, _, _⟩) (v := ?qv3td) rfl (by kernel_rfl) (by kernel_rfl) (by kernel_rfl) (fun _ _ _ h => h) (Or.inl ⟨by rfl, ?qy3td⟩) hHeld ?qr3td
      case qy3td => (intro w' hSw; go_simp; try with_reducible rfl)
      try simp only [Act.put, List.setIfInBounds_toArray, List.set_cons_zero, List.set_cons_succ]
      refine wpAnyH_take (i := 4) (oi := ⟨some 90, _, _, _, _, _⟩) (v := ?qv4td) rfl (by kernel_rfl) (by kernel_rfl) (by kernel_rfl) (fun _ _ _ h => h) (Or.inl ⟨by rfl, ?qy4td⟩) hHeld ?qr4td
      case qy4td => (intro w' hSw; go_simp; try with_reducible rfl)
      try simp only [Act.put, List.setIfInBounds_toArray, List.set_cons_zero, List.set_cons_succ]
      refine wpAnyH_ready (rs := [5]) (by kernel_rfl) (by simp) ?_
      refine AllReadyH.cons (o := ⟨some 91, _, _, _, _, _⟩) rfl (fun K hK => ?_) AllReadyH.nil
      refine step_go (by rfl) 14 _ _ (by rfl) (fun _ _ => by kernel_rfl) _ (by rfl) (CT.out _ _ (PT7.out _ r2)) ?_
      rintro e x2 ⟨_, rfl, rfl, q2⟩
      refine ⟨_, rfl, ?_⟩
      have r3 := r2.trans (q2.mono r2.size)
      refine hK.out _ _ (r3) (fun hHeld => ?_)
      clear hK K
      try simp only [Act.put, List.setIfInBounds_toArray, List.set_cons_zero, List.set_cons_succ]
      refine wpAnyH_take (i := 6) (oi := ⟨some 92, _, _, _, _, _⟩) (v := ?qv6td) rfl (by kernel_rfl) (by kernel_rfl) (by kernel_rfl) (fun _ _ _ h => h) (Or.inl ⟨by rfl, ?qy6td⟩) hHeld ?qr6td
      case qy6td => (intro w' hSw; go_simp; try with_reducible rfl)
      try simp only [Act.put, List.setIfInBounds_toArray, List.set_cons_zero, List.set_cons_succ]
      refine wpAnyH_take (i := 7) (oi := ⟨some 93, _, _, _, _, _⟩) (v := ?qv7td) rfl (by kernel_rfl) (by kernel_rfl) (by kernel_rfl) (fun _ _ _ h => h) (Or.inl ⟨by rfl, ?qy7td⟩) hHeld ?qr7td
      case qy7td => (intro w' hSw; go_simp; try with_reducible rfl)
      try simp only [Act.put, List.setIfInBounds_toArray, List.set_cons_zero, List.set_cons_succ]
      refine wpAnyH_take (i := 8) (oi := ⟨some 94, _, _, _, _, _⟩) (v := ?qv8td) rfl (by kernel_rfl) (by kernel_rfl) (by kernel_rfl) (fun _ _ _ h => h) (Or.inl ⟨by rfl, ?qy8td⟩) hHeld ?qr8td
      case qy8td => (intro w' hSw; go_simp; try with_reducible rfl)
      try simp only [Act.put, List.setIfInBounds_toArray, List.set_cons_zero, List.set_cons_succ]
      refine wpAnyH_take (i := 9) (oi := ⟨some 95, _, _, _, _, _⟩) (v := ?qv9td) rfl (by kernel_rfl) (by kernel_rfl) (by kernel_rfl) (fun _ _ _ h => h) (Or.inl ⟨by rfl, ?qy9td⟩) hHeld ?qr9td
      case qy9td => (intro w' hSw; go_simp; try with_reducible rfl)
      try simp only [Act.put, List.setIfInBounds_toArray, List.set_cons_zero, List.set_cons_succ]
      refine wpAnyH_take (i := 10) (oi := ⟨some 96, _, _, _, _, _⟩) (v := ?qv10td) rfl (by kernel_rfl) (by kernel_rfl) (by kernel_rfl) (fun _ _ _ h => h) (Or.inl ⟨by rfl, ?qy10td⟩) hHeld ?qr10td
      case qy10td => (intro w' hSw; obtain ⟨z0, z1, z2, z3, z4, z5, z6, z7, z8, z9, y0, y1⟩ := XS.out w' hSw; go_simp; try with_reducible rfl)
      try simp only [Act.put, List.setIfInBounds_toArray, List.set_cons_zero, List.set_cons_succ]
      refine wpAnyH_take (i := 17) (oi := ⟨some 103, _, _, _, _, _⟩) (v := ?qv17td) rfl (by kernel_rfl) (by kernel_rfl) (by kernel_rfl) (fun _ _ _ h => h) (Or.inl ⟨by rfl, ?qy17td⟩) hHeld ?qr17td
      case qy17td => (intro w' hSw; go_simp; try with_reducible rfl)
      try simp only [Act.put, List.setIfInBounds_toArray, List.set_cons_zero, List.set_cons_succ]
      refine wpAnyH_take (i := 18) (oi := ⟨some 104, _, _, _, _, _⟩) (v := ?qv18td) rfl (by kernel_rfl) (by kernel_rfl) (by kernel_rfl) (fun _ _ _ h => h) (Or.inl ⟨by rfl, ?qy18td⟩) hHeld ?qr18td
      case qy18td => (intro w' hSw; obtain ⟨z0, z1, z2, z3, z4, z5, z6, z7, z8, z9, y0, y1⟩ := XS.out w' hSw; go_simp; try with_reducible rfl)
      try simp only [Act.put, List.setIfInBounds_toArray, List.set_cons_zero, List.set_cons_succ]
      refine wpAnyH_ready (rs := [11]) (by kernel_rfl) (by simp) ?_
      refine AllReadyH.cons (o := ⟨some 97, _, _, _, _, _⟩) rfl (fun K hK => ?_) AllReadyH.nil
      refine step_go (by rfl) 15 _ _ (by rfl) (fun _ _ => by kernel_rfl) _ (by rfl) (HS.out _ _ (PS7.out _ r3)) ?_
      rintro e x3 ⟨rfl, q3⟩
      refine ⟨_, rfl, ?_⟩
      have r4 := r3.trans (q3.mono r3.size)
      refine hK.out _ _ (r4) (fun hHeld => ?_)
      clear hK K
      try simp only [Act.put, List.setIfInBounds_toArray, List.set_cons_zero, List.set_cons_succ]
      refine wpAnyH_take (i := 12) (oi := ⟨some 98, _, _, _, _, _⟩) (v := ?qv12td) rfl (by kernel_rfl) (by kernel_rfl) (by kernel_rfl) (fun _ _ _ h => h) (Or.inl ⟨by rfl, ?qy12td⟩) hHeld ?qr12td
      case qy12td => (intro w' hSw; go_simp; try with_reducible rfl)
      try simp only [Act.put, List.setIfInBounds_toArray, List.set_cons_zero, List.set_cons_succ]
      refine wpAnyH_take (i := 13) (oi := ⟨some 99, _, _, _, _, _⟩) (v := ?qv13td) rfl (by kernel_rfl) (by kernel_rfl) (by kernel_rfl) (fun _ _ _ h => h) (Or.inl ⟨by rfl, ?qy13td⟩) hHeld ?qr13td
      case qy13td => (intro w' hSw; go_simp; try with_reducible rfl)
      try simp only [Act.put, List.setIfInBounds_toArray, List.set_cons_zero, List.set_cons_succ]
      refine wpAnyH_take (i := 14) (oi := ⟨some 100, _, _, _, _, _⟩) (v := ?qv14td) rfl (by kernel_rfl) (by kernel_rfl) (by kernel_rfl) (fun _ _ _ h => h) (Or.inl ⟨by rfl, ?qy14td⟩) hHeld ?qr14td
      case qy14td => (intro w' hSw; obtain ⟨z0, z1, z2, z3, z4, z5, z6, z7, z8, z9, y0, y1⟩ := XS.out w' hSw; go_simp; try with_reducible rfl)
      try simp only [Act.put, List.setIfInBounds_toArray, List.set_cons_zero, List.set_cons_succ]
      refine wpAnyH_ready (rs := [15]) (by kernel_rfl) (by simp) ?_
      refine AllReadyH.cons (o := ⟨some 101, _, _, _, _, _⟩) rfl (fun K hK => ?_) AllReadyH.nil
      refine step_go (by rfl) 15 _ _ (by rfl) (fun _ _ => by kernel_rfl) _ (by rfl) (HT.out _ _ (PT7.out _ r4)) ?_
      rintro e x4 ⟨rfl, q4⟩
      refine ⟨_, rfl, ?_⟩
      have r5 := r4.trans (q4.mono r4.size)
      refine hK.out _ _ (r5) (fun hHeld => ?_)
      clear hK K
      try simp only [Act.put, List.setIfInBounds_toArray, List.set_cons_zero, List.set_cons_succ]
      refine wpAnyH_take (i := 16) (oi := ⟨some 102, _, _, _, _, _⟩) (v := ?qv16td) rfl (by kernel_rfl) (by kernel_rfl) (by kernel_rfl) (fun _ _ _ h => h) (Or.inl ⟨by rfl, ?qy16td⟩) hHeld ?qr16td
      case qy16td => (intro w' hSw; go_simp; try with_reducible rfl)
      try simp only [Act.put, List.setIfInBounds_toArray, List.set_cons_zero, List.set_cons_succ]
      refine wpAnyH_ready (rs := [19]) (by kernel_rfl) (by simp) ?_
      refine AllReadyH.cons (o := ⟨some 105, _, _, _, _, _⟩) rfl (fun K hK => ?_) AllReadyH.nil
      refine step_go (by rfl) 15 _ _ (by rfl) (fun _ _ => by kernel_rfl) _ (by rfl) (HC.out _ _ (PB7.out _ r5)) ?_
      rintro e x5 ⟨rfl, q5⟩
      refine ⟨_, rfl, ?_⟩
      have r6 := r5.trans (q5.mono r5.size)
      refine hK.out _ _ (r6) (fun hHeld => ?_)
      clear hK K
      try simp only [Act.put, List.setIfInBounds_toArray, List.set_cons_zero, List.set_cons_succ]
      refine wpAnyH_take (i := 20) (oi := ⟨some 106, _, _, _, _, _⟩) (v := ?qv20td) rfl (by kernel_rfl) (by kernel_rfl) (by kernel_rfl) (fun _ _ _ h => h) (Or.inl ⟨by rfl, ?qy20td⟩) hHeld ?qr20td
      case qy20td => (intro w' hSw; go_simp; try with_reducible rfl)
      try simp only [Act.put, List.setIfInBounds_toArray, List.set_cons_zero, List.set_cons_succ]
      refine wpAnyH_take (i := 21) (oi := ⟨some 107, _, _, _, _, _⟩) (v := ?qv21td) rfl (by kernel_rfl) (by kernel_rfl) (by kernel_rfl) (fun _ _ _ h => h) (Or.inl ⟨by rfl, ?qy21td⟩) hHeld ?qr21td
      case qy21td => (intro w' hSw; go_simp; try with_reducible rfl)
      try simp only [Act.put, List.setIfInBounds_toArray, List.set_cons_zero, List.set_cons_succ]
      refine wpAnyH_take (i := 22) (oi := ⟨some 108, _, _, _, _, _⟩) (v := ?qv22td) rfl (by kernel_rfl) (by kernel_rfl) (by kernel_rfl) (fun _ _ _ h => h) (Or.inl ⟨by rfl, ?qy22td⟩) hHeld ?qr22td
      case qy22td => (intro w' hSw; go_simp; try with_reducible rfl)
      try simp only [Act.put, List.setIfInBounds_toArray, List.set_cons_zero, List.set_cons_succ]
      refine wpAnyH_take (i := 23) (oi := ⟨some 109, _, _, _, _, _⟩) (v := ?qv23td) rfl (by kernel_rfl) (by kernel_rfl) (by kernel_rfl) (fun _ _ _ h => h) (Or.inl ⟨by rfl, ?qy23td⟩) hHeld ?qr23td
      case qy23td => (intro w' hSw; obtain ⟨z0, z1, z2, z3, z4, z5, z6, z7, z8, z9, y0, y1⟩ := XS.out w' hSw; go_simp; try with_reducible rfl)
      try simp only [Act.put, List.setIfInBounds_toArray, List.set_cons_zero, List.set_cons_succ]
      refine wpAnyH_take (i := 24) (oi := ⟨some 110, _, _, _, _, _⟩) (v := ?qv24td) rfl (by kernel_rfl) (by kernel_rfl) (by kernel_rfl) (fun _ _ _ h => h) (Or.inl ⟨by rfl, ?qy24td⟩) hHeld ?qr24td
      case qy24td => (intro w' hSw; go_simp; try with_reducible rfl)
      try simp only [Act.put, List.setIfInBounds_toArray, List.set_cons_zero, List.set_cons_succ]
      refine wpAnyH_ready (rs := [25]) (by kernel_rfl) (by simp) ?_
      refine AllReadyH.cons (o := ⟨some 111, _, _, _, _, _⟩) rfl (fun K hK => ?_) AllReadyH.nil
      refine step_go (by rfl) 17 _ _ (by rfl) (fun _ _ => by kernel_rfl) _ (by rfl) (TB.out _ _ (PB7.out _ r6)) ?_
      rintro e x6 ⟨rfl, q6⟩
      refine ⟨_, rfl, ?_⟩
      have r7 := r6.trans (q6.mono r6.size)
      refine hK.out _ _ (r7) (fun hHeld => ?_)
      clear hK K
      try simp only [Act.put, List.setIfInBounds_toArray, List.set_cons_zero, List.set_cons_succ]
      refine wpAnyH_ready (rs := [26]) (by kernel_rfl) (by simp) ?_
      refine AllReadyH.cons (o := ⟨some 112, _, _, _, _, _⟩) rfl (fun K hK => ?_) AllReadyH.nil
      refine step_go (by rfl) 21 _ _ (by rfl) (fun _ _ => by kernel_rfl) _ (by rfl) (U2.out _) ?_
      rintro e x7 ⟨rfl, q7⟩
      refine ⟨_, rfl, ?_⟩
      have r8 := r7.trans (q7.mono r7.size)
      refine hK.out _ _ (r8) (fun hHeld => ?_)
      clear hK K
      try simp only [Act.put, List.setIfInBounds_toArray, List.set_cons_zero, List.set_cons_succ]
      refine wpAnyH_take (i := 27) (oi := ⟨some 113, _, _, _, _, _⟩) (v := ?qv27td) rfl (by kernel_rfl) (by kernel_rfl) (by kernel_rfl) (fun _ _ _ h => h) (Or.inl ⟨by rfl, ?qy27td⟩) hHeld ?qr27td
      case qy27td => (intro w' hSw; go_simp; try with_reducible rfl)
      try simp only [Act.put, List.setIfInBounds_toArray, List.set_cons_zero, List.set_cons_succ]
      refine wpAnyH_take (i := 28) (oi := ⟨some 114, _, _, _, _, _⟩) (v := ?qv28td) rfl (by kernel_rfl) (by kernel_rfl) (by kernel_rfl) (fun _ _ _ h => h) (Or.inl ⟨by rfl, ?qy28td⟩) hHeld ?qr28td
      case qy28td => (intro w' hSw; go_simp; try with_reducible rfl)
      try simp only [Act.put, List.setIfInBounds_toArray, List.set_cons_zero, List.set_cons_succ]
      refine wpAnyH_take (i := 29) (oi := ⟨some 115, _, _, _, _, _⟩) (v := ?qv29td) rfl (by kernel_rfl) (by kernel_rfl) (by kernel_rfl) (fun _ _ _ h => h) (Or.inl ⟨by rfl, ?qy29td⟩) hHeld ?qr29td
      case qy29td => (intro w' hSw; go_simp; try with_reducible rfl)
      try simp only [Act.put, List.setIfInBounds_toArray, List.set_cons_zero, List.set_cons_succ]
      refine wpAnyH_take (i := 30) (oi := ⟨some 116, _, _, _, _, _⟩) (v := ?qv30td) rfl (by kernel_rfl) (by kernel_rfl) (by kernel_rfl) (fun _ _ _ h => h) (Or.inl ⟨by rfl, ?qy30td⟩) hHeld ?qr30td
      case qy30td => (intro w' hSw; go_simp; try with_reducible rfl)
      try simp only [Act.put, List.setIfInBounds_toArray, List.set_cons_zero, List.set_cons_succ]
      refine wpAnyH_take (i := 31) (oi := ⟨some 117, _, _, _, _, _⟩) (v := ?qv31td) rfl (by kernel_rfl) (by kernel_rfl) (by kernel_rfl) (fun _ _ _ h => h) (Or.inl ⟨by rfl, ?qy31td⟩) hHeld ?qr31td
      case qy31td => (intro w' hSw; go_simp; try with_reducible rfl)
      try simp only [Act.put, List.setIfInBounds_toArray, List.set_cons_zero, List.set_cons_succ]
      refine wpAnyH_take (i := 32) (oi := ⟨some 118, _, _, _, _, _⟩) (v := ?qv32td) rfl (by kernel_rfl) (by kernel_rfl) (by kernel_rfl) (fun _ _ _ h => h) (Or.inl ⟨by rfl, ?qy32td⟩) hHeld ?qr32td
      case qy32td => (intro w' hSw; go_simp; try with_reducible rfl)
      try simp only [Act.put, List.setIfInBounds_toArray, List.set_cons_zero, List.set_cons_succ]
      refine wpAnyH_take (i := 33) (oi := ⟨some 119, _, _, _, _, _⟩) (v := ?qv33td) rfl (by kernel_rfl) (by kernel_rfl) (by kernel_rfl) (fun _ _ _ h => h) (Or.inl ⟨by rfl, ?qy33td⟩) hHeld ?qr33td
      case qy33td => (intro w' hSw; go_simp; try with_reducible rfl)
      try simp only [Act.put, List.setIfInBounds_toArray, List.set_cons_zero, List.set_cons_succ]
      refine wpAnyH_take (i := 34) (oi := ⟨some 120, _, _, _, _, _⟩) (v := ?qv34td) rfl (by kernel_rfl) (by kernel_rfl) (by kernel_rfl) (fun _ _ _ h => h) (Or.inl ⟨by rfl, ?qy34td⟩) hHeld ?qr34td
      case qy34td => (intro w' hSw; go_simp; try with_reducible rfl)
      try simp only [Act.put, List.setIfInBounds_toArray, List.set_cons_zero, List.set_cons_succ]
      refine wpAnyH_take (i := 35) (oi := ⟨some 121, _, _, _, _, _⟩) (v := ?qv35td) rfl (by kernel_rfl) (by kernel_rfl) (by kernel_rfl) (fun _ _ _ h => h) (Or.inl ⟨by rfl, ?qy35td⟩) hHeld ?qr35td
      case qy35td => (intro w' hSw; obtain ⟨z0, z1, z2, z3, z4, z5, z6, z7, z8, z9, y0, y1⟩ := XS.out w' hSw; go_simp; try with_reducible rfl)
      try simp only [Act.put, List.setIfInBounds_toArray, List.set_cons_zero, List.set_cons_succ]
      refine wpAnyH_ready (rs := [36]) (by kernel_rfl) (by simp) ?_
      refine AllReadyH.cons (o := ⟨some 122, _, _, _, _, _⟩) rfl (fun K hK => ?_) AllReadyH.nil
      refine step_go (by rfl) 15 _ _ (by rfl) (fun _ _ => by kernel_rfl) _ (by rfl) (HS.out _ _ (PS7.out _ r8)) ?_
      rintro e x8 ⟨rfl, q8⟩
      refine ⟨_, rfl, ?_⟩
      have r9 := r8.trans (q8.mono r8.size)
      refine hK.out _ _ (r9) (fun hHeld => ?_)
      clear hK K
      try simp only [Act.put, List.setIfInBounds_toArray, List.set_cons_zero, List.set_cons_succ]
      refine wpAnyH_take (i := 37) (oi := ⟨some 123, _, _, _, _, _⟩) (v := ?qv37td) rfl (by kernel_rfl) (by kernel_rfl) (by kernel_rfl) (fun _ _ _ h => h) (Or.inl ⟨by rfl, ?qy37td⟩) hHeld ?qr37td
      case qy37td => (intro w' hSw; go_simp; try with_reducible rfl)
      try simp only [Act.put, List.setIfInBounds_toArray, List.set_cons_zero, List.set_cons_succ]
      refine wpAnyH_take (i := 38) (oi := ⟨some 124, _, _, _, _, _⟩) (v := ?qv38td) rfl (by kernel_rfl) (by kernel_rfl) (by kernel_rfl) (fun _ _ _ h => h) (Or.inl ⟨by rfl, ?qy38td⟩) hHeld ?qr38td
      case qy38td => (intro w' hSw; go_simp; try with_reducible rfl)
      try simp only [Act.put, List.setIfInBounds_toArray, List.set_cons_zero, List.set_cons_succ]
      refine wpAnyH_take (i := 39) (oi := ⟨some 125, _, _, _, _, _⟩) (v := undef) rfl (by kernel_rfl) (by kernel_rfl) (by kernel_rfl) (fun _ _ _ h => h) (Or.inr ⟨by rfl, rfl⟩) hHeld ?_
      try simp only [Act.put, List.setIfInBounds_toArray, List.set_cons_zero, List.set_cons_succ]
      refine wpAnyH_take (i := 40) (oi := ⟨some 126, _, _, _, _, _⟩) (v := undef) rfl (by kernel_rfl) (by kernel_rfl) (by kernel_rfl) (fun _ _ _ h => h) (Or.inr ⟨by rfl, rfl⟩) hHeld ?_
      try simp only [Act.put, List.setIfInBounds_toArray, List.set_cons_zero, List.set_cons_succ]
      refine wpAnyH_take (i := 41) (oi := ⟨some 127, _, _, _, _, _⟩) (v := undef) rfl (by kernel_rfl) (by kernel_rfl) (by kernel_rfl) (fun _ _ _ h => h) (Or.inr ⟨by rfl, rfl⟩) hHeld ?_
      try simp only [Act.put, List.setIfInBounds_toArray, List.set_cons_zero, List.set_cons_succ]
      refine wpAnyH_take (i := 42) (oi := ⟨some 128, _, _, _, _, _⟩) (v := undef) rfl (by kernel_rfl) (by kernel_rfl) (by kernel_rfl) (fun _ _ _ h => h) (Or.inr ⟨by rfl, rfl⟩) hHeld ?_
      try simp only [Act.put, List.setIfInBounds_toArray, List.set_cons_zero, List.set_cons_succ]
      refine wpAnyH_take (i := 43) (oi := ⟨some 129, _, _, _, _, _⟩) (v := ?qv43td) rfl (by kernel_rfl) (by kernel_rfl) (by kernel_rfl) (fun _ _ _ h => h) (Or.inl ⟨by rfl, ?qy43td⟩) hHeld ?qr43td
      case qy43td => (intro w' hSw; go_simp; try with_reducible rfl)
      try simp only [Act.put, List.setIfInBounds_toArray, List.set_cons_zero, List.set_cons_succ]
      refine wpAnyH_take (i := 44) (oi := ⟨some 130, _, _, _, _, _⟩) (v := ?qv44td) rfl (by kernel_rfl) (by kernel_rfl) (by kernel_rfl) (fun _ _ _ h => h) (Or.inl ⟨by rfl, ?qy44td⟩) hHeld ?qr44td
      case qy44td => (intro w' hSw; go_simp; try with_reducible rfl)
      try simp only [Act.put, List.setIfInBounds_toArray, List.set_cons_zero, List.set_cons_succ]
      refine wpAnyH_take (i := 45) (oi := ⟨some 131, _, _, _, _, _⟩) (v := undef) rfl (by kernel_rfl) (by kernel_rfl) (by kernel_rfl) (fun _ _ _ h => h) (Or.inr ⟨by rfl, rfl⟩) hHeld ?_
      try simp only [Act.put, List.setIfInBounds_toArray, List.set_cons_zero, List.set_cons_succ]
      refine wpAnyH_take (i := 46) (oi := ⟨some 132, _, _, _, _, _⟩) (v := undef) rfl (by kernel_rfl) (by kernel_rfl) (by kernel_rfl) (fun _ _ _ h => h) (Or.inr ⟨by rfl, rfl⟩) hHeld ?_
      try simp only [Act.put, List.setIfInBounds_toArray, List.set_cons_zero, List.set_cons_succ]
      refine wpAnyH_take (i := 47) (oi := ⟨some 133, _, _, _, _, _⟩) (v := undef) rfl (by kernel_rfl) (by kernel_rfl) (by kernel_rfl) (fun _ _ _ h => h) (Or.inr ⟨by rfl, rfl⟩) hHeld ?_
      try simp only [Act.put, List.setIfInBounds_toArray, List.set_cons_zero, List.set_cons_succ]
      refine wpAnyH_take (i := 48) (oi := ⟨some 134, _, _, _, _, _⟩) (v := undef) rfl (by kernel_rfl) (by kernel_rfl) (by kernel_rfl) (fun _ _ _ h => h) (Or.inr ⟨by rfl, rfl⟩) hHeld ?_
      try simp only [Act.put, List.setIfInBounds_toArray, List.set_cons_zero, List.set_cons_succ]
      refine wpAnyH_take (i := 49) (oi := ⟨some 135, _, _, _, _, _⟩) (v := undef) rfl (by kernel_rfl) (by kernel_rfl) (by kernel_rfl) (fun _ _ _ h => h) (Or.inr ⟨by rfl, rfl⟩) hHeld ?_
      try simp only [Act.put, List.setIfInBounds_toArray, List.set_cons_zero, List.set_cons_succ]
      refine wpAnyH_take (i := 50) (oi := ⟨some 136, _, _, _, _, _⟩) (v := undef) rfl (by kernel_rfl) (by kernel_rfl) (by kernel_rfl) (fun _ _ _ h => h) (Or.inr ⟨by rfl, rfl⟩) hHeld ?_
      try simp only [Act.put, List.setIfInBounds_toArray, List.set_cons_zero, List.set_cons_succ]
      refine wpAnyH_take (i := 51) (oi := ⟨some 137, _, _, _, _, _⟩) (v := undef) rfl (by kernel_rfl) (by kernel_rfl) (by kernel_rfl) (fun _ _ _ h => h) (Or.inr ⟨by rfl, rfl⟩) hHeld ?_
      try simp only [Act.put, List.setIfInBounds_toArray, List.set_cons_zero, List.set_cons_succ]
      refine wpAnyH_take (i := 52) (oi := ⟨some 138, _, _, _, _, _⟩) (v := undef) rfl (by kernel_rfl) (by kernel_rfl) (by kernel_rfl) (fun _ _ _ h => h) (Or.inr ⟨by rfl, rfl⟩) hHeld ?_
      try simp only [Act.put, List.setIfInBounds_toArray, List.set_cons_zero, List.set_cons_succ]
      refine wpAnyH_take (i := 53) (oi := ⟨some 139, _, _, _, _, _⟩) (v := ?qv53td) rfl (by kernel_rfl) (by kernel_rfl) (by kernel_rfl) (fun _ _ _ h => h) (Or.inl ⟨by rfl, ?qy53td⟩) hHeld ?qr53td
      case qy53td => (intro w' hSw; go_simp; try with_reducible rfl)
      try simp only [Act.put, List.setIfInBounds_toArray, List.set_cons_zero, List.set_cons_succ]
      refine wpAnyH_take (i := 54) (oi := ⟨some 140, _, _, _, _, _⟩) (v := ?qv54td) rfl (by kernel_rfl) (by kernel_rfl) (by kernel_rfl) (fun _ _ _ h => h) (Or.inl ⟨by rfl, ?qy54td⟩) hHeld ?qr54td
      case qy54td => (intro w' hSw; go_simp; try with_reducible rfl)
      try simp only [Act.put, List.setIfInBounds_toArray, List.set_cons_zero, List.set_cons_succ]
      refine wpAnyH_take (i := 55) (oi := ⟨some 141, _, _, _, _, _⟩) (v := ?qv55td) rfl (by kernel_rfl) (by kernel_rfl) (by kernel_rfl) (fun _ _ _ h => h) (Or.inl ⟨by rfl, ?qy55td⟩) hHeld ?qr55td
      case qy55td => (intro w' hSw; go_simp; try with_reducible rfl)
      try simp only [Act.put, List.setIfInBounds_toArray, List.set_cons_zero, List.set_cons_succ]
      refine wpAnyH_ready (rs := [56]) (by kernel_rfl) (by simp) ?_
      refine AllReadyH.cons (o := ⟨some 142, _, _, _, _, _⟩) rfl (fun K hK => ?_) AllReadyH.nil
      refine step_go (by rfl) 11 _ _ (by rfl) (fun _ _ => by kernel_rfl) _ (by rfl) (awake5_any _ (G7.out _ r9)) ?_
      rintro e x9 ⟨rfl, q9⟩
      refine ⟨_, rfl, ?_⟩
      have r10 := r9.trans (q9.mono r9.size)
      refine hK.out _ _ (r10) (fun hHeld => ?_)
      clear hK K
      try simp only [Act.put, List.setIfInBounds_toArray, List.set_cons_zero, List.set_cons_succ]
      refine wpAnyH_take (i := 57) (oi := ⟨some 143, _, _, _, _, _⟩) (v := ?qv57td) rfl (by kernel_rfl) (by kernel_rfl) (by kernel_rfl) (fun _ _ _ h => h) (Or.inl ⟨by rfl, ?qy57td⟩) hHeld ?qr57td
      case qy57td => (intro w' hSw; go_simp; try with_reducible rfl)
      try simp only [Act.put, List.setIfInBounds_toArray, List.set_cons_zero, List.set_cons_succ]
      refine wpAnyH_take (i := 58) (oi := ⟨some 4, _, _, _, _, _⟩) (v := ?qv58td) rfl (by kernel_rfl) (by kernel_rfl) (by kernel_rfl) (fun _ _ _ h => h) (Or.inl ⟨by rfl, ?qy58td⟩) hHeld ?qr58td
      case qy58td => (intro w' hSw; go_simp; try with_reducible rfl)
      try simp only [Act.put, List.setIfInBounds_toArray, List.set_cons_zero, List.set_cons_succ]
      refine wpAnyH_done (by kernel_rfl) ?_ _
      refine NoPanic.normal ?_
      go_wp2_with fail
      go_ret
      exact ⟨rfl, BB7.trans (r10.mono BB7.size)⟩

set_option maxRecDepth 100000 in
theorem ringCuts_calls {H : Type} {enc : TypeId × Value → H} {W : World} {base : Nat} {v0 v1 : Value} {d0 d1 : DataW H} {p0 p1 : List MemPlace} (hg : ErrT W)
    (o0 : Value.okWide Tryd.prog W .any base 39 v0) (h0 : DataW.Trod enc Tryd.prog W 0 (fun _ => true) true 39 v0 d0 p0)
    (o1 : Value.okWide Tryd.prog W .any base 24 v1) (h1 : DataW.Trod enc Tryd.prog W 0 (fun _ => true) true 24 v1 d1 p1) :
    Calls Tryd.prog 4 #[v0, v1] W fun e w' => e = .returned (.bool true) ∧ Below W.heap.size W w' := by
  obtain ⟨a, b, c, d, rfl⟩ := view_box o0 h0
  obtain ⟨x, y, rfl, _⟩ := view_pt o1 h1
  by_cases h : boxCode a b c d = 0 ∧ a ≠ c ∧ b ≠ d ∧ inP x y
  · obtain ⟨h1, h2, h3, h4⟩ := boxCode_zero.1 h.1
    exact cuts_in a b c d x y W hg h1 h2 (by omega) (by omega) h.2.2.2
  · exact cuts_out a b c d x y W hg h
end Go.Proofs.YtpmngdgifdkohaaDoor
