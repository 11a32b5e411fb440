/- RingAsks answers true, whatever it is given. -/
import Derived.Test.YtpmngdgifdkohaaDoorRingBoxR
import Derived.Test.YtpmngdgifdkohaaDoorMoves
namespace Go.Proofs.YtpmngdgifdkohaaDoor
open Go.RowKit Go.ChangeShapes Go.WideShapes

set_option maxRecDepth 100000 in
set_option maxHeartbeats 4000000 in
theorem asks5_any (v : Value) (l : List (Int × Int)) (px py : Int) (w : World) (hv : Pts w v l) (hg : ErrT w) :
    Calls Tryd.prog 8 #[v, .agg #[.int .i64 px, .int .i64 py]] w fun e w' => e = .returned (.bool true) ∧ Below w.heap.size w w' := by
  have B0 : Below w.heap.size w (w.alloc (.cells #[.int .i64 px, .int .i64 py] 24)) := (Below.refl _ _).alloc (Nat.le_refl _) _
  have S := Lib.hid (fun w' (h : Below w.heap.size w w') => small_any v l w' (hv.below h))
  have G := Lib.hid (fun w' (h : Below w.heap.size w w') => awake5_any w' (hg.below h hg.lt))
  by_cases h8 : l.length ≤ 80
  · have t0 : decide ((l.length : Int) ≤ 80) = true := decide_eq_true (by omega)
    rw [t0] at S
    have Y := Lib.hid (pair_alloc w px py 24 w.heap.size rfl)
    have GT := Lib.hid (fun w' (h : Below w.heap.size w w') => hg.below h hg.lt)
    have VV := Lib.hid (fun w' (h : Below w.heap.size w w') => hv.below h)
    have CR := Lib.hid (show ∀ w', Below w.heap.size w w' → _ from fun w' h => CheckR_any v l w' (hv.below h))
    have BX := Lib.hid (show ∀ w', Below w.heap.size w w' → _ from fun w' h => Box_any v l w' (hv.below h))
    have BR := Lib.hid (show ∀ w', Below w.heap.size w w' → _ from fun w' h => RingBox_any v l w' (hv.below h))
    have HIB := Lib.hid (ringEr_isB l)
    have I1 := Lib.hid (show ∀ u w', (ringEr l).Is w' u → ErrT w' → Calls Tryd.prog 23 #[u, .int .i64 (ringRes l).1, .string strRing, .int .i64 (ringRes l).2] w' fun e w'' => e = .returned (.bool true) ∧ Below w'.heap.size w' w'' from fun u w' h1 h2 => by rw [← HIB.out]; exact IsA_any _ _ _ _ _ _ h1 h2)
    have C1 := Lib.hid (show ∀ w', Below w.heap.size w w' → _ from fun w' h => Check_any v l w' (hv.below h))
    have T1 := Lib.hid (show ∀ w', Below w.heap.size w w' → _ from fun w' h => Twice_any v l w' (hv.below h))
    have T2 := Lib.hid (show ∀ w', Below w.heap.size w w' → _ from fun w' h => TwiceR_any v l w' (hv.below h))
    have L1 := Lib.hid (show ∀ w', Below w.heap.size w w' → _ from fun w' h => Left_any v l w' (hv.below h))
    have L2 := Lib.hid (show ∀ w', Below w.heap.size w w' → _ from fun w' h => LeftR_any v l w' (hv.below h))
    have H1 := Lib.hid (show ∀ w', Below w.heap.size w w' → _ from fun w' h => Has_any v l px py w' (hv.below h))
    have H2 := Lib.hid (show ∀ w', Below w.heap.size w w' → _ from fun w' h => HasR_any v l px py w' (hv.below h))
    have E1 := Lib.hid (show ∀ w', Below w.heap.size w w' → _ from fun w' h => Edge_any v l px py w' (hv.below h))
    have E2 := Lib.hid (show ∀ w', Below w.heap.size w w' → _ from fun w' h => EdgeR_any v l px py w' (hv.below h))
    clear hv hg h8 HIB
    generalize twiceE l = sT at *
    generalize leftE l = sL at *
    generalize hasE l (px, py) = sH at *
    generalize edgeE l (px, py) = sE at *
    generalize bbE l = bb at *
    obtain ⟨m1, m2, m3, m4⟩ := bb
    generalize ringEr l = E at *
    generalize hrr : ringRes l = rr at *
    clear hrr
    obtain ⟨r1, r2⟩ := rr
    simp only at I1
    have UU := Lib.hid (fun w => u_any 0 sT w)
    have t6 : (sL == sL) = true := by simp
    have t7 : (sT == sT) = true := by simp
    have t8 : (sH == sH) = true := by simp
    have t9 : (sE == sE) = true := by simp
    go_enter Tryd.func8, Tryd.ntmps8
    go_wp2_with fail
    refine (S.out _ B0).mono ?_
    rintro e w1 ⟨rfl, rfl⟩
    go_wp2_with fail
    refine (CR.out _ B0).mono ?_
    rintro e w1 ⟨rfl, b1⟩
    have B1 := B0.trans (b1.mono B0.size)
    go_wp2_with fail
    refine (BX.out _ B1).mono ?_
    rintro e w2 ⟨u2, rfl, hu2, b2⟩
    have B2 := B1.trans (b2.mono B1.size)
    have B3 := B2.alloc B2.size (.cells #[.int .i64 m1, .int .i64 m2, .int .i64 m3, .int .i64 m4] 39)
    have Q3 := Lib.hid (quad_alloc w2 m1 m2 m3 m4 39 w2.heap.size rfl)
    have b23 : Below w2.heap.size w2 (w2.alloc (.cells #[.int .i64 m1, .int .i64 m2, .int .i64 m3, .int .i64 m4] 39)) := (Below.refl _ _).alloc (Nat.le_refl _) _
    unfold bxAgg
    simp only
    go_wp2_with fail
    refine (BR.out _ B3).mono ?_
    rintro e w4 ⟨rfl, b4⟩
    have B4 := B3.trans (b4.mono B3.size)
    have B5 := B4.alloc B4.size (.cells #[.int .i64 m1, .int .i64 m2, .int .i64 m3, .int .i64 m4] 39)
    have b45 : Below w4.heap.size w4 (w4.alloc (.cells #[.int .i64 m1, .int .i64 m2, .int .i64 m3, .int .i64 m4] 39)) := (Below.refl _ _).alloc (Nat.le_refl _) _
    have Q5 := Lib.hid (quad_alloc w4 m1 m2 m3 m4 39 w4.heap.size rfl)
    have Q3' := Lib.hid ((Q3.out.below b4).below b45)
    have Y5 := Lib.hid ((((Y.out.below b1).below b2).below b23).below b4 |>.below b45)
    have HU5 := Lib.hid ((hu2.below (b23.trans (b4.mono b23.size))).below b45)
    clear hu2 b1 b2 b4 b23
    unfold bxAgg
    simp only
    go_wp2_with fail
    generalize w4.alloc (.cells #[.int .i64 m1, .int .i64 m2, .int .i64 m3, .int .i64 m4] 39) = w5 at *
    have XS := Lib.hid (show ∀ w', Below w5.heap.size w5 w' → w'.cell? ⟨w2.heap.size, 0, none⟩ = some (.int .i64 m1) ∧ w'.cell? ⟨w2.heap.size, 1, none⟩ = some (.int .i64 m2) ∧ w'.cell? ⟨w2.heap.size, 2, none⟩ = some (.int .i64 m3) ∧ w'.cell? ⟨w2.heap.size, 3, none⟩ = some (.int .i64 m4) ∧ w'.cell? ⟨w4.heap.size, 0, none⟩ = some (.int .i64 m1) ∧ w'.cell? ⟨w4.heap.size, 1, none⟩ = some (.int .i64 m2) ∧ w'.cell? ⟨w4.heap.size, 2, none⟩ = some (.int .i64 m3) ∧ w'.cell? ⟨w4.heap.size, 3, none⟩ = some (.int .i64 m4) ∧ w'.cell? ⟨w.heap.size, 0, none⟩ = some (.int .i64 px) ∧ w'.cell? ⟨w.heap.size, 1, none⟩ = some (.int .i64 py) from fun w' h => by
      obtain ⟨a1, a2, a3, a4⟩ := Q3'.out.below h
      obtain ⟨d1, d2, d3, d4⟩ := Q5.out.below h
      obtain ⟨e1, e2⟩ := Y5.out.below h
      exact ⟨a1, a2, a3, a4, d1, d2, d3, d4, e1, e2⟩)
    have HU := Lib.hid (show ∀ w', Below w5.heap.size w5 w' → E.Is w' u2 from fun w' h => HU5.out.below h)
    have BB := Lib.hid (show ∀ w', Below w5.heap.size w5 w' → Below w.heap.size w w' from fun w' h => B5.trans (h.mono B5.size))
    refine wp_region_noPanic ?_
    refine wp_region_held_drew (S := fun w' => Below w5.heap.size w5 w') (by kernel_rfl) (Below.refl _ _).drew (fun hHeld => ?_)
    generalize w5.drew = D at hHeld ⊢
    have k1 : Below w5.heap.size w5 D := hHeld
    refine wpAnyH_take (i := 0) (oi := ⟨some 32, _, _, _, _, _⟩) (v := ?qv0as) rfl (by kernel_rfl) (by kernel_rfl) (by kernel_rfl) (fun _ _ _ h => h) (Or.inl ⟨by rfl, ?qy0as⟩) hHeld ?qr0as
    case qy0as => (intro w' hSw; go_simp; try with_reducible rfl)
    try simp only [Act.put, List.setIfInBounds_toArray, List.set_cons_zero, List.set_cons_succ]
    refine wpAnyH_take (i := 2) (oi := ⟨some 34, _, _, _, _, _⟩) (v := ?qv2as) rfl (by kernel_rfl) (by kernel_rfl) (by kernel_rfl) (fun _ _ _ h => h) (Or.inl ⟨by rfl, ?qy2as⟩) hHeld ?qr2as
    case qy2as => (intro w' hSw; go_simp; try with_reducible rfl)
    try simp only [Act.put, List.setIfInBounds_toArray, List.set_cons_zero, List.set_cons_succ]
    refine wpAnyH_take (i := 3) (oi := ⟨some 35, _, _, _, _, _⟩) (v := ?qv3as) rfl (by kernel_rfl) (by kernel_rfl) (by kernel_rfl) (fun _ _ _ h => h) (Or.inl ⟨by rfl, ?qy3as⟩) hHeld ?qr3as
    case qy3as => (intro w' hSw; go_simp; try with_reducible rfl)
    try simp only [Act.put, List.setIfInBounds_toArray, List.set_cons_zero, List.set_cons_succ]
    refine wpAnyH_ready (rs := [1]) (by kernel_rfl) (by simp) ?_
    refine AllReadyH.cons (o := ⟨some 33, _, _, _, _, _⟩) rfl (fun K hK => ?_) AllReadyH.nil
    refine step_go (by rfl) 14 _ _ (by rfl) (fun _ _ => by kernel_rfl) _ (by rfl) (C1.out _ (BB.out _ k1)) ?_
    rintro e x1 ⟨u, rfl, hu, a1⟩
    refine ⟨_, rfl, ?_⟩
    have k2 := k1.trans (a1.mono k1.size)
    refine hK.out _ _ (k2) (fun hHeld => ?_)
    clear hK K
    try simp only [Act.put, List.setIfInBounds_toArray, List.set_cons_zero, List.set_cons_succ]
    refine wpAnyH_ready (rs := [4]) (by kernel_rfl) (by simp) ?_
    refine AllReadyH.cons (o := ⟨some 36, _, _, _, _, _⟩) rfl (fun K hK => ?_) AllReadyH.nil
    refine step_go (by rfl) 23 _ _ (by rfl) (fun _ _ => by kernel_rfl) _ (by rfl) (I1.out _ _ hu (GT.out _ (BB.out _ k2))) ?_
    rintro e x2 ⟨rfl, a2⟩
    refine ⟨_, rfl, ?_⟩
    have k3 := k2.trans (a2.mono k2.size)
    refine hK.out _ _ (k3) (fun hHeld => ?_)
    clear hK K
    try simp only [Act.put, List.setIfInBounds_toArray, List.set_cons_zero, List.set_cons_succ]
    refine wpAnyH_take (i := 5) (oi := ⟨some 37, _, _, _, _, _⟩) (v := ?qv5as) rfl (by kernel_rfl) (by kernel_rfl) (by kernel_rfl) (fun _ _ _ h => h) (Or.inl ⟨by rfl, ?qy5as⟩) hHeld ?qr5as
    case qy5as => (intro w' hSw; go_simp; try with_reducible rfl)
    try simp only [Act.put, List.setIfInBounds_toArray, List.set_cons_zero, List.set_cons_succ]
    refine wpAnyH_take (i := 6) (oi := ⟨some 38, _, _, _, _, _⟩) (v := ?qv6as) rfl (by kernel_rfl) (by kernel_rfl) (by kernel_rfl) (fun _ _ _ h => h) (Or.inl ⟨by rfl, ?qy6as⟩) hHeld ?qr6as
    case qy6as => (intro w' hSw; obtain ⟨z0, z1, z2, z3, z4, z5, z6, z7, z8, z9⟩ := XS.out w' hSw; go_simp; try with_reducible rfl)
    try simp only [Act.put, List.setIfInBounds_toArray, List.set_cons_zero, List.set_cons_succ]
    refine wpAnyH_take (i := 7) (oi := ⟨some 39, _, _, _, _, _⟩) (v := ?qv7as) rfl (by kernel_rfl) (by kernel_rfl) (by kernel_rfl) (fun _ _ _ h => h) (Or.inl ⟨by rfl, ?qy7as⟩) hHeld ?qr7as
    case qy7as => (intro w' hSw; obtain ⟨z0, z1, z2, z3, z4, z5, z6, z7, z8, z9⟩ := XS.out w' hSw; go_simp; try with_reducible rfl)
    try simp only [Act.put, List.setIfInBounds_toArray, List.set_cons_zero, List.set_cons_succ]
    refine wpAnyH_take (i := 8) (oi := ⟨some 40, _, _, _, _, _⟩) (v := ?qv8as) rfl (by kernel_rfl) (by kernel_rfl) (by kernel_rfl) (fun _ _ _ h => h) (Or.inl ⟨by rfl, ?qy8as⟩) hHeld ?qr8as
    case qy8as => (intro w' hSw; go_simp; try with_reducible rfl)
    try simp only [Act.put, List.setIfInBounds_toArray, List.set_cons_zero, List.set_cons_succ]
    refine wpAnyH_take (i := 9) (oi := ⟨some 41, _, _, _, _, _⟩) (v := ?qv9as) rfl (by kernel_rfl) (by kernel_rfl) (by kernel_rfl) (fun _ _ _ h => h) (Or.inl ⟨by rfl, ?qy9as⟩) hHeld ?qr9as
    case qy9as => (intro w' hSw; go_simp; try with_reducible rfl)
    try simp only [Act.put, List.setIfInBounds_toArray, List.set_cons_zero, List.set_cons_succ]
    refine wpAnyH_take (i := 10) (oi := ⟨some 42, _, _, _, _, _⟩) (v := ?qv10as) rfl (by kernel_rfl) (by kernel_rfl) (by kernel_rfl) (fun _ _ _ h => h) (Or.inl ⟨by rfl, ?qy10as⟩) hHeld ?qr10as
    case qy10as => (intro w' hSw; go_simp; try with_reducible rfl)
    try simp only [Act.put, List.setIfInBounds_toArray, List.set_cons_zero, List.set_cons_succ]
    refine wpAnyH_take (i := 11) (oi := ⟨some 43, _, _, _, _, _⟩) (v := ?qv11as) rfl (by kernel_rfl) (by kernel_rfl) (by kernel_rfl) (fun _ _ _ h => h) (Or.inl ⟨by rfl, ?qy11as⟩) hHeld ?qr11as
    case qy11as => (intro w' hSw; go_simp; try with_reducible rfl)
    try simp only [Act.put, List.setIfInBounds_toArray, List.set_cons_zero, List.set_cons_succ]
    refine wpAnyH_take (i := 12) (oi := ⟨some 44, _, _, _, _, _⟩) (v := ?qv12as) rfl (by kernel_rfl) (by kernel_rfl) (by kernel_rfl) (fun _ _ _ h => h) (Or.inl ⟨by rfl, ?qy12as⟩) hHeld ?qr12as
    case qy12as => (intro w' hSw; go_simp; try with_reducible rfl)
    try simp only [Act.put, List.setIfInBounds_toArray, List.set_cons_zero, List.set_cons_succ]
    refine wpAnyH_take (i := 13) (oi := ⟨some 45, _, _, _, _, _⟩) (v := ?qv13as) rfl (by kernel_rfl) (by kernel_rfl) (by kernel_rfl) (fun _ _ _ h => h) (Or.inl ⟨by rfl, ?qy13as⟩) hHeld ?qr13as
    case qy13as => (intro w' hSw; go_simp; try with_reducible rfl)
    try simp only [Act.put, List.setIfInBounds_toArray, List.set_cons_zero, List.set_cons_succ]
    refine wpAnyH_ready (rs := [14]) (by kernel_rfl) (by simp) ?_
    refine AllReadyH.cons (o := ⟨some 46, _, _, _, _, _⟩) rfl (fun K hK => ?_) AllReadyH.nil
    refine step_go (by rfl) 23 _ _ (by rfl) (fun _ _ => by kernel_rfl) _ (by rfl) (I1.out _ _ (HU.out _ k3) (GT.out _ (BB.out _ k3))) ?_
    rintro e x3 ⟨rfl, a3⟩
    refine ⟨_, rfl, ?_⟩
    have k4 := k3.trans (a3.mono k3.size)
    refine hK.out _ _ (k4) (fun hHeld => ?_)
    clear hK K
    try simp only [Act.put, List.setIfInBounds_toArray, List.set_cons_zero, List.set_cons_succ]
    refine wpAnyH_take (i := 15) (oi := ⟨some 47, _, _, _, _, _⟩) (v := ?qv15as) rfl (by kernel_rfl) (by kernel_rfl) (by kernel_rfl) (fun _ _ _ h => h) (Or.inl ⟨by rfl, ?qy15as⟩) hHeld ?qr15as
    case qy15as => (intro w' hSw; go_simp; try with_reducible rfl)
    try simp only [Act.put, List.setIfInBounds_toArray, List.set_cons_zero, List.set_cons_succ]
    refine wpAnyH_take (i := 16) (oi := ⟨some 48, _, _, _, _, _⟩) (v := ?qv16as) rfl (by kernel_rfl) (by kernel_rfl) (by kernel_rfl) (fun _ _ _ h => h) (Or.inl ⟨by rfl, ?qy16as⟩) hHeld ?qr16as
    case qy16as => (intro w' hSw; go_simp; try with_reducible rfl)
    try simp only [Act.put, List.setIfInBounds_toArray, List.set_cons_zero, List.set_cons_succ]
    refine wpAnyH_take (i := 17) (oi := ⟨some 49, _, _, _, _, _⟩) (v := ?qv17as) rfl (by kernel_rfl) (by kernel_rfl) (by kernel_rfl) (fun _ _ _ h => h) (Or.inl ⟨by rfl, ?qy17as⟩) hHeld ?qr17as
    case qy17as => (intro w' hSw; go_simp; try with_reducible rfl)
    try simp only [Act.put, List.setIfInBounds_toArray, List.set_cons_zero, List.set_cons_succ]
    refine wpAnyH_take (i := 20) (oi := ⟨some 52, _, _, _, _, _⟩) (v := ?qv20as) rfl (by kernel_rfl) (by kernel_rfl) (by kernel_rfl) (fun _ _ _ h => h) (Or.inl ⟨by rfl, ?qy20as⟩) hHeld ?qr20as
    case qy20as => (intro w' hSw; go_simp; try with_reducible rfl)
    try simp only [Act.put, List.setIfInBounds_toArray, List.set_cons_zero, List.set_cons_succ]
    refine wpAnyH_ready (rs := [18]) (by kernel_rfl) (by simp) ?_
    refine AllReadyH.cons (o := ⟨some 50, _, _, _, _, _⟩) rfl (fun K hK => ?_) AllReadyH.nil
    refine step_go (by rfl) 17 _ _ (by rfl) (fun _ _ => by kernel_rfl) _ (by rfl) (T1.out _ (BB.out _ k4)) ?_
    rintro e x4 ⟨rfl, a4⟩
    refine ⟨_, rfl, ?_⟩
    have k5 := k4.trans (a4.mono k4.size)
    refine hK.out _ _ (k5) (fun hHeld => ?_)
    clear hK K
    try simp only [Act.put, List.setIfInBounds_toArray, List.set_cons_zero, List.set_cons_succ]
    refine wpAnyH_ready (rs := [19]) (by kernel_rfl) (by simp) ?_
    refine AllReadyH.cons (o := ⟨some 51, _, _, _, _, _⟩) rfl (fun K hK => ?_) AllReadyH.nil
    refine step_go (by rfl) 21 _ _ (by rfl) (fun _ _ => by kernel_rfl) _ (by rfl) (UU.out _) ?_
    rintro e x5 ⟨rfl, a5⟩
    refine ⟨_, rfl, ?_⟩
    have k6 := k5.trans (a5.mono k5.size)
    refine hK.out _ _ (k6) (fun hHeld => ?_)
    clear hK K
    try simp only [Act.put, List.setIfInBounds_toArray, List.set_cons_zero, List.set_cons_succ]
    refine wpAnyH_ready (rs := [21]) (by kernel_rfl) (by simp) ?_
    refine AllReadyH.cons (o := ⟨some 53, _, _, _, _, _⟩) rfl (fun K hK => ?_) AllReadyH.nil
    refine step_go (by rfl) 29 _ _ (by rfl) (fun _ _ => by kernel_rfl) _ (by rfl) (T2.out _ (BB.out _ k6)) ?_
    rintro e x6 ⟨rfl, a6⟩
    refine ⟨_, rfl, ?_⟩
    have k7 := k6.trans (a6.mono k6.size)
    refine hK.out _ _ (k7) (fun hHeld => ?_)
    clear hK K
    try simp only [Act.put, List.setIfInBounds_toArray, List.set_cons_zero, List.set_cons_succ]
    refine wpAnyH_take (i := 22) (oi := ⟨some 54, _, _, _, _, _⟩) (v := ?qv22as) rfl (by kernel_rfl) (by kernel_rfl) (by kernel_rfl) (fun _ _ _ h => h) (Or.inl ⟨by rfl, ?qy22as⟩) hHeld ?qr22as
    case qy22as => (intro w' hSw; go_simp; try with_reducible rfl)
    try simp only [Act.put, List.setIfInBounds_toArray, List.set_cons_zero, List.set_cons_succ]
    refine wpAnyH_take (i := 23) (oi := ⟨some 55, _, _, _, _, _⟩) (v := ?qv23as) rfl (by kernel_rfl) (by kernel_rfl) (by kernel_rfl) (fun _ _ _ h => h) (Or.inl ⟨by rfl, ?qy23as⟩) hHeld ?qr23as
    case qy23as => (intro w' hSw; go_simp; try with_reducible rfl)
    try simp only [Act.put, List.setIfInBounds_toArray, List.set_cons_zero, List.set_cons_succ]
    refine wpAnyH_take (i := 24) (oi := ⟨some 56, _, _, _, _, _⟩) (v := ?qv24as) rfl (by kernel_rfl) (by kernel_rfl) (by kernel_rfl) (fun _ _ _ h => h) (Or.inl ⟨by rfl, ?qy24as⟩) hHeld ?qr24as
    case qy24as => (intro w' hSw; go_simp; try with_reducible rfl)
    try simp only [Act.put, List.setIfInBounds_toArray, List.set_cons_zero, List.set_cons_succ]
    refine wpAnyH_take (i := 25) (oi := ⟨some 57, _, _, _, _, _⟩) (v := ?qv25as) rfl (by kernel_rfl) (by kernel_rfl) (by kernel_rfl) (fun _ _ _ h => h) (Or.inl ⟨by rfl, ?qy25as⟩) hHeld ?qr25as
    case qy25as => (intro w' hSw; go_simp; try with_reducible rfl)
    try simp only [Act.put, List.setIfInBounds_toArray, List.set_cons_zero, List.set_cons_succ]
    refine wpAnyH_take (i := 27) (oi := ⟨some 59, _, _, _, _, _⟩) (v := ?qv27as) rfl (by kernel_rfl) (by kernel_rfl) (by kernel_rfl) (fun _ _ _ h => h) (Or.inl ⟨by rfl, ?qy27as⟩) hHeld ?qr27as
    case qy27as => (intro w' hSw; go_simp; try with_reducible rfl)
    try simp only [Act.put, List.setIfInBounds_toArray, List.set_cons_zero, List.set_cons_succ]
    refine wpAnyH_ready (rs := [26]) (by kernel_rfl) (by simp) ?_
    refine AllReadyH.cons (o := ⟨some 58, _, _, _, _, _⟩) rfl (fun K hK => ?_) AllReadyH.nil
    refine step_go (by rfl) 16 _ _ (by rfl) (fun _ _ => by kernel_rfl) _ (by rfl) (L1.out _ (BB.out _ k7)) ?_
    rintro e x7 ⟨rfl, a7⟩
    refine ⟨_, rfl, ?_⟩
    have k8 := k7.trans (a7.mono k7.size)
    refine hK.out _ _ (k8) (fun hHeld => ?_)
    clear hK K
    try simp only [Act.put, List.setIfInBounds_toArray, List.set_cons_zero, List.set_cons_succ]
    refine wpAnyH_ready (rs := [28]) (by kernel_rfl) (by simp) ?_
    refine AllReadyH.cons (o := ⟨some 60, _, _, _, _, _⟩) rfl (fun K hK => ?_) AllReadyH.nil
    refine step_go (by rfl) 30 _ _ (by rfl) (fun _ _ => by kernel_rfl) _ (by rfl) (L2.out _ (BB.out _ k8)) ?_
    rintro e x8 ⟨rfl, a8⟩
    refine ⟨_, rfl, ?_⟩
    have k9 := k8.trans (a8.mono k8.size)
    refine hK.out _ _ (k9) (fun hHeld => ?_)
    clear hK K
    try simp only [Act.put, List.setIfInBounds_toArray, List.set_cons_zero, List.set_cons_succ]
    refine wpAnyH_take (i := 29) (oi := ⟨some 61, _, _, _, _, _⟩) (v := ?qv29as) rfl (by kernel_rfl) (by kernel_rfl) (by kernel_rfl) (fun _ _ _ h => h) (Or.inl ⟨by rfl, ?qy29as⟩) hHeld ?qr29as
    case qy29as => (intro w' hSw; go_simp; try with_reducible rfl)
    try simp only [Act.put, List.setIfInBounds_toArray, List.set_cons_zero, List.set_cons_succ]
    refine wpAnyH_take (i := 30) (oi := ⟨some 62, _, _, _, _, _⟩) (v := ?qv30as) rfl (by kernel_rfl) (by kernel_rfl) (by kernel_rfl) (fun _ _ _ h => h) (Or.inl ⟨by rfl, ?qy30as⟩) hHeld ?qr30as
    case qy30as => (intro w' hSw; go_simp; try with_reducible rfl)
    try simp only [Act.put, List.setIfInBounds_toArray, List.set_cons_zero, List.set_cons_succ]
    refine wpAnyH_take (i := 31) (oi := ⟨some 63, _, _, _, _, _⟩) (v := ?qv31as) rfl (by kernel_rfl) (by kernel_rfl) (by kernel_rfl) (fun _ _ _ h => h) (Or.inl ⟨by rfl, ?qy31as⟩) hHeld ?qr31as
    case qy31as => (intro w' hSw; go_simp; try with_reducible rfl)
    try simp only [Act.put, List.setIfInBounds_toArray, List.set_cons_zero, List.set_cons_succ]
    refine wpAnyH_take (i := 32) (oi := ⟨some 64, _, _, _, _, _⟩) (v := ?qv32as) rfl (by kernel_rfl) (by kernel_rfl) (by kernel_rfl) (fun _ _ _ h => h) (Or.inl ⟨by rfl, ?qy32as⟩) hHeld ?qr32as
    case qy32as => (intro w' hSw; go_simp; try with_reducible rfl)
    try simp only [Act.put, List.setIfInBounds_toArray, List.set_cons_zero, List.set_cons_succ]
    refine wpAnyH_take (i := 33) (oi := ⟨some 65, _, _, _, _, _⟩) (v := ?qv33as) rfl (by kernel_rfl) (by kernel_rfl) (by kernel_rfl) (fun _ _ _ h => h) (Or.inl ⟨by rfl, ?qy33as⟩) hHeld ?qr33as
    case qy33as => (intro w' hSw; obtain ⟨z0, z1, z2, z3, z4, z5, z6, z7, z8, z9⟩ := XS.out w' hSw; go_simp; try with_reducible rfl)
    try simp only [Act.put, List.setIfInBounds_toArray, List.set_cons_zero, List.set_cons_succ]
    refine wpAnyH_take (i := 35) (oi := ⟨some 67, _, _, _, _, _⟩) (v := ?qv35as) rfl (by kernel_rfl) (by kernel_rfl) (by kernel_rfl) (fun _ _ _ h => h) (Or.inl ⟨by rfl, ?qy35as⟩) hHeld ?qr35as
    case qy35as => (intro w' hSw; go_simp; try with_reducible rfl)
    try simp only [Act.put, List.setIfInBounds_toArray, List.set_cons_zero, List.set_cons_succ]
    refine wpAnyH_take (i := 36) (oi := ⟨some 68, _, _, _, _, _⟩) (v := ?qv36as) rfl (by kernel_rfl) (by kernel_rfl) (by kernel_rfl) (fun _ _ _ h => h) (Or.inl ⟨by rfl, ?qy36as⟩) hHeld ?qr36as
    case qy36as => (intro w' hSw; obtain ⟨z0, z1, z2, z3, z4, z5, z6, z7, z8, z9⟩ := XS.out w' hSw; go_simp; try with_reducible rfl)
    try simp only [Act.put, List.setIfInBounds_toArray, List.set_cons_zero, List.set_cons_succ]
    refine wpAnyH_ready (rs := [34]) (by kernel_rfl) (by simp) ?_
    refine AllReadyH.cons (o := ⟨some 66, _, _, _, _, _⟩) rfl (fun K hK => ?_) AllReadyH.nil
    refine step_go (by rfl) 15 _ _ (by rfl) (fun _ _ => by kernel_rfl) _ (by rfl) (H1.out _ (BB.out _ k9)) ?_
    rintro e x9 ⟨rfl, a9⟩
    refine ⟨_, rfl, ?_⟩
    have ka := k9.trans (a9.mono k9.size)
    refine hK.out _ _ (ka) (fun hHeld => ?_)
    clear hK K
    try simp only [Act.put, List.setIfInBounds_toArray, List.set_cons_zero, List.set_cons_succ]
    refine wpAnyH_ready (rs := [37]) (by kernel_rfl) (by simp) ?_
    refine AllReadyH.cons (o := ⟨some 69, _, _, _, _, _⟩) rfl (fun K hK => ?_) AllReadyH.nil
    refine step_go (by rfl) 31 _ _ (by rfl) (fun _ _ => by kernel_rfl) _ (by rfl) (H2.out _ (BB.out _ ka)) ?_
    rintro e xa ⟨rfl, aa⟩
    refine ⟨_, rfl, ?_⟩
    have kb := ka.trans (aa.mono ka.size)
    refine hK.out _ _ (kb) (fun hHeld => ?_)
    clear hK K
    try simp only [Act.put, List.setIfInBounds_toArray, List.set_cons_zero, List.set_cons_succ]
    refine wpAnyH_take (i := 38) (oi := ⟨some 70, _, _, _, _, _⟩) (v := ?qv38as) rfl (by kernel_rfl) (by kernel_rfl) (by kernel_rfl) (fun _ _ _ h => h) (Or.inl ⟨by rfl, ?qy38as⟩) hHeld ?qr38as
    case qy38as => (intro w' hSw; go_simp; try with_reducible rfl)
    try simp only [Act.put, List.setIfInBounds_toArray, List.set_cons_zero, List.set_cons_succ]
    refine wpAnyH_take (i := 39) (oi := ⟨some 71, _, _, _, _, _⟩) (v := ?qv39as) rfl (by kernel_rfl) (by kernel_rfl) (by kernel_rfl) (fun _ _ _ h => h) (Or.inl ⟨by rfl, ?qy39as⟩) hHeld ?qr39as
    case qy39as => (intro w' hSw; go_simp; try with_reducible rfl)
    try simp only [Act.put, List.setIfInBounds_toArray, List.set_cons_zero, List.set_cons_succ]
    refine wpAnyH_take (i := 40) (oi := ⟨some 72, _, _, _, _, _⟩) (v := ?qv40as) rfl (by kernel_rfl) (by kernel_rfl) (by kernel_rfl) (fun _ _ _ h => h) (Or.inl ⟨by rfl, ?qy40as⟩) hHeld ?qr40as
    case qy40as => (intro w' hSw; go_simp; try with_reducible rfl)
    try simp only [Act.put, List.setIfInBounds_toArray, List.set_cons_zero, List.set_cons_succ]
    refine wpAnyH_take (i := 41) (oi := ⟨some 73, _, _, _, _, _⟩) (v := ?qv41as) rfl (by kernel_rfl) (by kernel_rfl) (by kernel_rfl) (fun _ _ _ h => h) (Or.inl ⟨by rfl, ?qy41as⟩) hHeld ?qr41as
    case qy41as => (intro w' hSw; go_simp; try with_reducible rfl)
    try simp only [Act.put, List.setIfInBounds_toArray, List.set_cons_zero, List.set_cons_succ]
    refine wpAnyH_take (i := 42) (oi := ⟨some 74, _, _, _, _, _⟩) (v := ?qv42as) rfl (by kernel_rfl) (by kernel_rfl) (by kernel_rfl) (fun _ _ _ h => h) (Or.inl ⟨by rfl, ?qy42as⟩) hHeld ?qr42as
    case qy42as => (intro w' hSw; obtain ⟨z0, z1, z2, z3, z4, z5, z6, z7, z8, z9⟩ := XS.out w' hSw; go_simp; try with_reducible rfl)
    try simp only [Act.put, List.setIfInBounds_toArray, List.set_cons_zero, List.set_cons_succ]
    refine wpAnyH_take (i := 44) (oi := ⟨some 76, _, _, _, _, _⟩) (v := ?qv44as) rfl (by kernel_rfl) (by kernel_rfl) (by kernel_rfl) (fun _ _ _ h => h) (Or.inl ⟨by rfl, ?qy44as⟩) hHeld ?qr44as
    case qy44as => (intro w' hSw; go_simp; try with_reducible rfl)
    try simp only [Act.put, List.setIfInBounds_toArray, List.set_cons_zero, List.set_cons_succ]
    refine wpAnyH_take (i := 45) (oi := ⟨some 77, _, _, _, _, _⟩) (v := ?qv45as) rfl (by kernel_rfl) (by kernel_rfl) (by kernel_rfl) (fun _ _ _ h => h) (Or.inl ⟨by rfl, ?qy45as⟩) hHeld ?qr45as
    case qy45as => (intro w' hSw; obtain ⟨z0, z1, z2, z3, z4, z5, z6, z7, z8, z9⟩ := XS.out w' hSw; go_simp; try with_reducible rfl)
    try simp only [Act.put, List.setIfInBounds_toArray, List.set_cons_zero, List.set_cons_succ]
    refine wpAnyH_ready (rs := [43]) (by kernel_rfl) (by simp) ?_
    refine AllReadyH.cons (o := ⟨some 75, _, _, _, _, _⟩) rfl (fun K hK => ?_) AllReadyH.nil
    refine step_go (by rfl) 32 _ _ (by rfl) (fun _ _ => by kernel_rfl) _ (by rfl) (E1.out _ (BB.out _ kb)) ?_
    rintro e xb ⟨rfl, ab⟩
    refine ⟨_, rfl, ?_⟩
    have kc := kb.trans (ab.mono kb.size)
    refine hK.out _ _ (kc) (fun hHeld => ?_)
    clear hK K
    try simp only [Act.put, List.setIfInBounds_toArray, List.set_cons_zero, List.set_cons_succ]
    refine wpAnyH_ready (rs := [46]) (by kernel_rfl) (by simp) ?_
    refine AllReadyH.cons (o := ⟨some 78, _, _, _, _, _⟩) rfl (fun K hK => ?_) AllReadyH.nil
    refine step_go (by rfl) 33 _ _ (by rfl) (fun _ _ => by kernel_rfl) _ (by rfl) (E2.out _ (BB.out _ kc)) ?_
    rintro e xc ⟨rfl, ac⟩
    refine ⟨_, rfl, ?_⟩
    have kd := kc.trans (ac.mono kc.size)
    refine hK.out _ _ (kd) (fun hHeld => ?_)
    clear hK K
    try simp only [Act.put, List.setIfInBounds_toArray, List.set_cons_zero, List.set_cons_succ]
    refine wpAnyH_take (i := 47) (oi := ⟨some 79, _, _, _, _, _⟩) (v := ?qv47as) rfl (by kernel_rfl) (by kernel_rfl) (by kernel_rfl) (fun _ _ _ h => h) (Or.inl ⟨by rfl, ?qy47as⟩) hHeld ?qr47as
    case qy47as => (intro w' hSw; go_simp; try with_reducible rfl)
    try simp only [Act.put, List.setIfInBounds_toArray, List.set_cons_zero, List.set_cons_succ]
    refine wpAnyH_take (i := 48) (oi := ⟨some 80, _, _, _, _, _⟩) (v := ?qv48as) rfl (by kernel_rfl) (by kernel_rfl) (by kernel_rfl) (fun _ _ _ h => h) (Or.inl ⟨by rfl, ?qy48as⟩) hHeld ?qr48as
    case qy48as => (intro w' hSw; go_simp; try with_reducible rfl)
    try simp only [Act.put, List.setIfInBounds_toArray, List.set_cons_zero, List.set_cons_succ]
    refine wpAnyH_take (i := 49) (oi := ⟨some 81, _, _, _, _, _⟩) (v := ?qv49as) rfl (by kernel_rfl) (by kernel_rfl) (by kernel_rfl) (fun _ _ _ h => h) (Or.inl ⟨by rfl, ?qy49as⟩) hHeld ?qr49as
    case qy49as => (intro w' hSw; go_simp; try with_reducible rfl)
    try simp only [Act.put, List.setIfInBounds_toArray, List.set_cons_zero, List.set_cons_succ]
    refine wpAnyH_ready (rs := [50]) (by kernel_rfl) (by simp) ?_
    refine AllReadyH.cons (o := ⟨some 82, _, _, _, _, _⟩) rfl (fun K hK => ?_) AllReadyH.nil
    refine step_go (by rfl) 11 _ _ (by rfl) (fun _ _ => by kernel_rfl) _ (by rfl) (G.out _ (BB.out _ kd)) ?_
    rintro e xd ⟨rfl, ad⟩
    refine ⟨_, rfl, ?_⟩
    have ke := kd.trans (ad.mono kd.size)
    refine hK.out _ _ (ke) (fun hHeld => ?_)
    clear hK K
    try simp only [Act.put, List.setIfInBounds_toArray, List.set_cons_zero, List.set_cons_succ]
    refine wpAnyH_take (i := 51) (oi := ⟨some 83, _, _, _, _, _⟩) (v := ?qv51as) rfl (by kernel_rfl) (by kernel_rfl) (by kernel_rfl) (fun _ _ _ h => h) (Or.inl ⟨by rfl, ?qy51as⟩) hHeld ?qr51as
    case qy51as => (intro w' hSw; go_simp; try with_reducible rfl)
    try simp only [Act.put, List.setIfInBounds_toArray, List.set_cons_zero, List.set_cons_succ]
    refine wpAnyH_take (i := 52) (oi := ⟨some 4, _, _, _, _, _⟩) (v := ?qv52as) rfl (by kernel_rfl) (by kernel_rfl) (by kernel_rfl) (fun _ _ _ h => h) (Or.inl ⟨by rfl, ?qy52as⟩) hHeld ?qr52as
    case qy52as => (intro w' hSw; go_simp; try with_reducible rfl)
    try simp only [Act.put, List.setIfInBounds_toArray, List.set_cons_zero, List.set_cons_succ]
    refine wpAnyH_done (by kernel_rfl) ?_ _
    refine NoPanic.normal ?_
    go_wp2_with fail
    go_ret
    exact ⟨rfl, BB.out _ ke⟩
  · have t0 : decide ((l.length : Int) ≤ 80) = false := decide_eq_false (by omega)
    rw [t0] at S
    clear hv hg h8
    go_enter Tryd.func8, Tryd.ntmps8
    go_wp2_with fail
    refine (S.out _ B0).mono ?_
    rintro e w1 ⟨rfl, rfl⟩
    go_wp2_with fail
    refine (G.out _ B0).mono ?_
    rintro e w2 ⟨rfl, b2⟩
    go_wp2_with fail
    go_ret
    exact ⟨rfl, B0.trans (b2.mono B0.size)⟩

set_option maxRecDepth 100000 in
theorem ringAsks_calls {H : Type} {enc : TypeId × Value → H} {W : World} {base : Nat} {v0 v1 : Value} {d0 d1 : DataW H} {p0 p1 : List MemPlace} (hg : ErrT W)
    (o0 : Value.okWide Tryd.prog W .any base 22 v0) (h0 : DataW.Trod enc Tryd.prog W 0 (fun _ => true) true 22 v0 d0 p0)
    (o1 : Value.okWide Tryd.prog W .any base 24 v1) (h1 : DataW.Trod enc Tryd.prog W 0 (fun _ => true) true 24 v1 d1 p1) :
    Calls Tryd.prog 8 #[v0, v1] W fun e w' => e = .returned (.bool true) ∧ Below W.heap.size W w' := by
  obtain ⟨l, hl, _⟩ := view_pts o0 h0
  obtain ⟨a, b, rfl, _, _⟩ := view_pt o1 h1
  exact asks5_any v0 l a b W hl hg
end Go.Proofs.YtpmngdgifdkohaaDoor
