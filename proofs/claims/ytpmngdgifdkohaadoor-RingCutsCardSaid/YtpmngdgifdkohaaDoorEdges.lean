/- RingEdges answers true, whatever it is given. -/
import Derived.Test.YtpmngdgifdkohaaDoorEdgeMath
import Derived.Test.YtpmngdgifdkohaaDoorMoves
namespace Go.Proofs.YtpmngdgifdkohaaDoor
open Go.RowKit Go.ChangeShapes Go.WideShapes

theorem CompareR_pos (t : Int) (w : World) (h : 0 < t) : Calls Tryd.prog 34 #[.agg #[.int .u64 0, .int .u64 t], .agg #[.int .u64 0, .int .u64 0]] w fun e w' => e = .returned (.int .i64 1) ∧ Below w.heap.size w w' := by
  have t1 : decide (t < 0) = false := decide_eq_false (by omega)
  have t2 : (t == 0) = false := beq_eq_false_iff_ne.2 (by omega)
  clear h
  go_enter Tryd.func34, Tryd.ntmps34
  go_wp2
  go_ret
  exact ⟨rfl, ((Below.refl _ _).alloc (Nat.le_refl _) _).alloc (by simp) _⟩

set_option maxRecDepth 100000 in
theorem edges_out (v : Value) (l : List (Int × Int)) (k px py : Int) (w : World) (hv : Pts w v l) (hg : ErrT w) (h : ¬ (l.length ≤ 80 ∧ ringEr l = .none)) :
    Calls Tryd.prog 9 #[v, .int .i64 k, .agg #[.int .i64 px, .int .i64 py]] w fun e w' => e = .returned (.bool true) ∧ Below w.heap.size w w' := by
  have B0 : Below w.heap.size w (w.alloc (.cells #[.int .i64 px, .int .i64 py] 24)) := (Below.refl _ _).alloc (Nat.le_refl _) _
  have S := Lib.hid (fun w' (h : Below w.heap.size w w') => small_any v l w' (hv.below h))
  have G := Lib.hid (fun w' (h : Below w.heap.size w w') => awake5_any w' (hg.below h hg.lt))
  by_cases h8 : l.length ≤ 80
  · have hn : ¬ ringEr l = .none := fun k => h ⟨h8, k⟩
    obtain ⟨i, j, hr2⟩ := ringEr_some hn
    have C := Lib.hid (Check_any v l _ (hv.below B0))
    rw [hr2] at C
    have t0 : decide ((l.length : Int) ≤ 80) = true := decide_eq_true (by omega)
    rw [t0] at S
    clear h h8 hn hr2 hv hg
    go_enter Tryd.func9, Tryd.ntmps9
    go_wp2_with fail
    refine (S.out _ B0).mono ?_
    rintro e w1 ⟨rfl, rfl⟩
    go_wp2_with fail
    refine C.out.mono ?_
    rintro e w2 ⟨u, rfl, hu, b2⟩
    obtain ⟨bu, uu, rfl, _⟩ := hu
    have B2 := B0.trans (b2.mono B0.size)
    go_wp2_with fail
    refine (G.out _ B2).mono ?_
    rintro e w3 ⟨rfl, b3⟩
    go_wp2_with fail
    go_ret
    exact ⟨rfl, B2.trans (b3.mono B2.size)⟩
  · have t0 : decide ((l.length : Int) ≤ 80) = false := decide_eq_false (by omega)
    rw [t0] at S
    clear h h8 hv hg
    go_enter Tryd.func9, Tryd.ntmps9
    go_wp2_with fail
    refine (S.out _ B0).mono ?_
    rintro e w1 ⟨rfl, rfl⟩
    go_wp2_with fail
    refine (G.out _ B0).mono ?_
    rintro e w2 ⟨rfl, b2⟩
    go_wp2_with fail
    go_ret
    exact ⟨rfl, B0.trans (b2.mono B0.size)⟩

set_option maxRecDepth 100000 in
set_option maxHeartbeats 4000000 in
theorem edges_in (v : Value) (l : List (Int × Int)) (k px py : Int) (w : World) (hv : Pts w v l) (hg : ErrT w) (h8 : l.length ≤ 80) (hr : ringEr l = .none) :
    Calls Tryd.prog 9 #[v, .int .i64 k, .agg #[.int .i64 px, .int .i64 py]] w fun e w' => e = .returned (.bool true) ∧ Below w.heap.size w w' := by
  obtain ⟨hl, n3, n64⟩ := ringEr_ok hr
  have B0 : Below w.heap.size w (w.alloc (.cells #[.int .i64 px, .int .i64 py] 24)) := (Below.refl _ _).alloc (Nat.le_refl _) _
  have Y := Lib.hid (pair_alloc w px py 24 w.heap.size rfl)
  have S := Lib.hid (fun w' (h : Below w.heap.size w w') => small_any v l w' (hv.below h))
  have GT := Lib.hid (fun w' (h : Below w.heap.size w w') => hg.below h hg.lt)
  have C := Lib.hid (show ∀ w', Below w.heap.size w w' → _ from fun w' h => Check_any v l w' (hv.below h))
  have BX := Lib.hid (show ∀ w', Below w.heap.size w w' → _ from fun w' h => Box_any v l w' (hv.below h))
  have EG := Lib.hid (show ∀ w', Below w.heap.size w w' → _ from fun w' h => Edge_any v l px py w' (hv.below h))
  have HS := Lib.hid (show ∀ w', Below w.heap.size w w' → _ from fun w' h => Has_any v l px py w' (hv.below h))
  have TW := Lib.hid (show ∀ w', Below w.heap.size w w' → _ from fun w' h => Twice_any v l w' (hv.below h))
  have R1 := Lib.hid (fun w => Round_at k (l.length : Int) l.length w (by omega) (by omega) rfl)
  have t0 : decide ((l.length : Int) ≤ 80) = true := decide_eq_true (by omega)
  rw [t0] at S
  rw [hr] at C BX
  have hbe : bbE l = bbTo l l.length := by unfold bbE; rw [ringOk_yes hr]; rfl
  rw [hbe] at BX
  have PB := Lib.hid (fun w => BoxHas_any (bbTo l l.length).1 (bbTo l l.length).2.1 (bbTo l l.length).2.2.1 (bbTo l l.length).2.2.2 px py w)
  have HB := Lib.hid (show hasE l (px, py) = true → boxHasB (bbTo l l.length).1 (bbTo l l.length).2.1 (bbTo l l.length).2.2.1 (bbTo l l.length).2.2.2 px py = true from fun h => has_box hr h)
  have EH := Lib.hid (show edgeE l (px, py) = true → hasE l (px, py) = true from fun h => edge_has h)
  have CE := Lib.hid (show ∀ j, j < l.length → edgeE l (pt l j) = true from fun j hj => corner_edge hr hj)
  have OH := Lib.hid (fun y => out_has hr y)
  have TP := Lib.hid (twice_pos hr)
  have BI := (bbTo_in hl (by omega) l.length (Nat.le_refl _)).2
  have HVH := Lib.hid (show ∀ x y w', Below w.heap.size w w' → _ from fun x y w' h => Has_any v l x y w' (hv.below h))
  have HVE := Lib.hid (show ∀ x y w', Below w.heap.size w w' → _ from fun x y w' h => Edge_any v l x y w' (hv.below h))
  obtain ⟨ao, c, rfl, h1, h2, h0, h3'⟩ := hv.open
  have PC := Lib.hid (show ∀ i (h : i < l.length), ∃ b off, ao = some ⟨b, off, none⟩ ∧ b < w.heap.size ∧ w.cell? ⟨b, off + i * 2, none⟩ = some (.int .i64 (pt l i).1) ∧ w.cell? ⟨b, off + i * 2 + 1, none⟩ = some (.int .i64 (pt l i).2) from fun i h => by rw [pt_get l i h]; exact h3' i h)
  unfold maxLen at h2
  clear h0 h3' hv hg hr hl hbe
  generalize bbTo l l.length = bb at *
  obtain ⟨m1, m2, m3, m4⟩ := bb
  simp only at BI PB HB OH
  obtain ⟨⟨n1, n2⟩, _, _⟩ := BI
  go_enter Tryd.func9, Tryd.ntmps9
  go_wp2_with fail
  refine (S.out _ B0).mono ?_
  rintro e w1 ⟨rfl, rfl⟩
  go_wp2_with fail
  refine (C.out _ B0).mono ?_
  rintro e w1 ⟨u, rfl, rfl, b1⟩
  have B1 := B0.trans (b1.mono B0.size)
  go_wp2_with fail
  refine (BX.out _ B1).mono ?_
  rintro e w2 ⟨u, rfl, rfl, b2⟩
  have b12 := b1.trans (b2.mono b1.size)
  have B2 := B1.trans (b2.mono B1.size)
  have B3 := B2.alloc B2.size (.cells #[.int .i64 m1, .int .i64 m2, .int .i64 m3, .int .i64 m4] 39)
  have Q3 := Lib.hid (quad_alloc w2 m1 m2 m3 m4 39 w2.heap.size rfl)
  have Y3 := Lib.hid ((Y.out.below b12).alloc (.cells #[.int .i64 m1, .int .i64 m2, .int .i64 m3, .int .i64 m4] 39))
  unfold bxAgg
  simp only
  obtain ⟨y0, y1⟩ := Y3.out
  cases hE : edgeE l (px, py) with
  | true =>
    have hH := EH.out hE
    have hB := HB.out hH
    rw [hE] at EG
    rw [hH] at HS
    rw [hB] at PB
    clear hE hH hB HB EH
    go_wp2_with fail
    refine (EG.out _ B3).mono ?_
    rintro e w4 ⟨rfl, b4⟩
    have B4 := B3.trans (b4.mono B3.size)
    have Y4 := Lib.hid (Y3.out.below b4)
    have Q4 := Lib.hid (Q3.out.below b4)
    clear y0 y1
    obtain ⟨y0, y1⟩ := Y4.out
    go_wp2_with fail
    refine (HS.out _ B4).mono ?_
    rintro e w5 ⟨rfl, b5⟩
    have B5 := B4.trans (b5.mono B4.size)
    have Y5 := Lib.hid (Y4.out.below b5)
    have Q5 := Lib.hid (Q4.out.below b5)
    clear y0 y1
    obtain ⟨y0, y1⟩ := Y5.out
    go_wp2_with fail
    refine (HS.out _ B5).mono ?_
    rintro e w6 ⟨rfl, b6⟩
    have B6 := B5.trans (b6.mono B5.size)
    have Y6 := Lib.hid (Y5.out.below b6)
    have Q6 := Lib.hid (Q5.out.below b6)
    clear y0 y1
    obtain ⟨y0, y1⟩ := Y6.out
    obtain ⟨z0, z1, z2, z3⟩ := Q6.out
    go_wp2_with fail
    refine (PB.out _).mono ?_
    rintro e w7 ⟨rfl, b7⟩
    have BX0 := B6.trans (b7.mono B6.size)
    have QX := Lib.hid (Q6.out.below b7)
    clear y0 y1 z0 z1 z2 z3
    go_wp2_with fail
    refine (R1.out _).mono ?_
    rintro e wq ⟨r, rfl, hr, rfl⟩
    obtain ⟨g, off, rfl, hgl, a0, a1⟩ := PC.out r hr
    have HC := Lib.hid (CE.out r hr)
    have XS := Lib.hid (show ∀ w', Below w7.heap.size w7 w' → w'.cell? ⟨g, off + r * 2, none⟩ = some (.int .i64 (pt l r).1) ∧ w'.cell? ⟨g, off + r * 2 + 1, none⟩ = some (.int .i64 (pt l r).2) ∧ w'.cell? ⟨w2.heap.size, 2, none⟩ = some (.int .i64 m3) from fun w' h => by
      have h' := BX0.trans (h.mono BX0.size)
      exact ⟨(h'.cell (p := ⟨g, off + r * 2, none⟩) hgl).trans a0, (h'.cell (p := ⟨g, off + r * 2 + 1, none⟩) hgl).trans a1, (QX.out.below h).c2⟩)
    clear a0 a1
    generalize pt l r = pr at *
    obtain ⟨rx, ry⟩ := pr
    simp only at XS
    have HC2 := Lib.hid (show hasE l (rx, ry) = true from edge_has HC.out)
    have HH1 := Lib.hid (show ∀ w', Below w7.heap.size w7 w' → _ from fun w' h => HVH.out rx ry w' (BX0.trans (h.mono BX0.size)))
    have HE1 := Lib.hid (show ∀ w', Below w7.heap.size w7 w' → _ from fun w' h => HVE.out rx ry w' (BX0.trans (h.mono BX0.size)))
    have HH2 := Lib.hid (show ∀ w', Below w7.heap.size w7 w' → _ from fun w' h => HVH.out (m3 + 1) ry w' (BX0.trans (h.mono BX0.size)))
    have TW1 := Lib.hid (show ∀ w', Below w7.heap.size w7 w' → _ from fun w' h => TW.out w' (BX0.trans (h.mono BX0.size)))
    have G1 := Lib.hid (show ∀ w', Below w7.heap.size w7 w' → ErrT w' from fun w' h => GT.out w' (BX0.trans (h.mono BX0.size)))
    have OH1 := Lib.hid (OH.out ry)
    rw [HC2.out] at HH1
    rw [HC.out] at HE1
    rw [OH1.out] at HH2
    have hT := TP.out.1
    generalize twiceE l = sT at *
    have UU := Lib.hid (fun w => u_any 0 sT w)
    have CP := Lib.hid (fun w => CompareR_pos sT w hT)
    have e1 : IntKind.i64.wrap (m3 + 1) = m3 + 1 := by rw [IntWalk.i64_in _ (by omega)]
    have j0 : (0 : Int) ≤ (r : Int) := by omega
    have j1 : (r : Int) < (l.length : Int) := by omega
    clear HC HC2 OH1 OH CE HVH HVE TW TP hT
    go_wp2_with fail
    refine wp_region_noPanic ?_
    refine wp_region_held_drew (S := fun w' => Below w7.heap.size w7 w') (by kernel_rfl) (Below.refl _ _).drew (fun hHeld => ?_)
    generalize w7.drew = D at hHeld ⊢
    have k1 : Below w7.heap.size w7 D := hHeld
    refine wpAnyH_take (i := 0) (oi := ⟨some 51, _, _, _, _, _⟩) (v := ?qv0ea) rfl (by kernel_rfl) (by kernel_rfl) (by kernel_rfl) (fun _ _ _ h => h) (Or.inl ⟨by rfl, ?qy0ea⟩) hHeld ?qr0ea
    case qy0ea => (intro w' hSw; go_simp; try with_reducible rfl)
    try simp only [Act.put, List.setIfInBounds_toArray, List.set_cons_zero, List.set_cons_succ]
    refine wpAnyH_take (i := 1) (oi := ⟨some 52, _, _, _, _, _⟩) (v := ?qv1ea) rfl (by kernel_rfl) (by kernel_rfl) (by kernel_rfl) (fun _ _ _ h => h) (Or.inl ⟨by rfl, ?qy1ea⟩) hHeld ?qr1ea
    case qy1ea => (intro w' hSw; go_simp; try with_reducible rfl)
    try simp only [Act.put, List.setIfInBounds_toArray, List.set_cons_zero, List.set_cons_succ]
    refine wpAnyH_take (i := 2) (oi := ⟨some 53, _, _, _, _, _⟩) (v := ?qv2ea) rfl (by kernel_rfl) (by kernel_rfl) (by kernel_rfl) (fun _ _ _ h => h) (Or.inl ⟨by rfl, ?qy2ea⟩) hHeld ?qr2ea
    case qy2ea => (intro w' hSw; go_simp; try with_reducible rfl)
    try simp only [Act.put, List.setIfInBounds_toArray, List.set_cons_zero, List.set_cons_succ]
    refine wpAnyH_take (i := 3) (oi := ⟨some 54, _, _, _, _, _⟩) (v := ?qv3ea) rfl (by kernel_rfl) (by kernel_rfl) (by kernel_rfl) (fun _ _ _ h => h) (Or.inl ⟨by rfl, ?qy3ea⟩) hHeld ?qr3ea
    case qy3ea => (intro w' hSw; go_simp; try with_reducible rfl)
    try simp only [Act.put, List.setIfInBounds_toArray, List.set_cons_zero, List.set_cons_succ]
    refine wpAnyH_take (i := 4) (oi := ⟨some 55, _, _, _, _, _⟩) (v := ?qv4ea) rfl (by kernel_rfl) (by kernel_rfl) (by kernel_rfl) (fun _ _ _ h => h) (Or.inl ⟨by rfl, ?qy4ea⟩) hHeld ?qr4ea
    case qy4ea => (intro w' hSw; obtain ⟨z0, z1, z2⟩ := XS.out w' hSw; go_simp; try with_reducible rfl)
    try simp only [Act.put, List.setIfInBounds_toArray, List.set_cons_zero, List.set_cons_succ]
    refine wpAnyH_ready (rs := [5]) (by kernel_rfl) (by simp) ?_
    refine AllReadyH.cons (o := ⟨some 56, _, _, _, _, _⟩) rfl (fun K hK => ?_) AllReadyH.nil
    refine step_go (by rfl) 15 _ _ (by rfl) (fun _ _ => by kernel_rfl) _ (by rfl) (HH1.out _ k1) ?_
    rintro e x1 ⟨rfl, q1⟩
    refine ⟨_, rfl, ?_⟩
    have k2 := k1.trans (q1.mono k1.size)
    refine hK.out _ _ (k2) (fun hHeld => ?_)
    clear hK K
    try simp only [Act.put, List.setIfInBounds_toArray, List.set_cons_zero, List.set_cons_succ]
    refine wpAnyH_take (i := 6) (oi := ⟨some 57, _, _, _, _, _⟩) (v := ?qv6ea) rfl (by kernel_rfl) (by kernel_rfl) (by kernel_rfl) (fun _ _ _ h => h) (Or.inl ⟨by rfl, ?qy6ea⟩) hHeld ?qr6ea
    case qy6ea => (intro w' hSw; go_simp; try with_reducible rfl)
    try simp only [Act.put, List.setIfInBounds_toArray, List.set_cons_zero, List.set_cons_succ]
    refine wpAnyH_take (i := 7) (oi := ⟨some 58, _, _, _, _, _⟩) (v := ?qv7ea) rfl (by kernel_rfl) (by kernel_rfl) (by kernel_rfl) (fun _ _ _ h => h) (Or.inl ⟨by rfl, ?qy7ea⟩) hHeld ?qr7ea
    case qy7ea => (intro w' hSw; go_simp; try with_reducible rfl)
    try simp only [Act.put, List.setIfInBounds_toArray, List.set_cons_zero, List.set_cons_succ]
    refine wpAnyH_take (i := 8) (oi := ⟨some 59, _, _, _, _, _⟩) (v := ?qv8ea) rfl (by kernel_rfl) (by kernel_rfl) (by kernel_rfl) (fun _ _ _ h => h) (Or.inl ⟨by rfl, ?qy8ea⟩) hHeld ?qr8ea
    case qy8ea => (intro w' hSw; go_simp; try with_reducible rfl)
    try simp only [Act.put, List.setIfInBounds_toArray, List.set_cons_zero, List.set_cons_succ]
    refine wpAnyH_take (i := 9) (oi := ⟨some 60, _, _, _, _, _⟩) (v := ?qv9ea) rfl (by kernel_rfl) (by kernel_rfl) (by kernel_rfl) (fun _ _ _ h => h) (Or.inl ⟨by rfl, ?qy9ea⟩) hHeld ?qr9ea
    case qy9ea => (intro w' hSw; go_simp; try with_reducible rfl)
    try simp only [Act.put, List.setIfInBounds_toArray, List.set_cons_zero, List.set_cons_succ]
    refine wpAnyH_take (i := 10) (oi := ⟨some 61, _, _, _, _, _⟩) (v := ?qv10ea) rfl (by kernel_rfl) (by kernel_rfl) (by kernel_rfl) (fun _ _ _ h => h) (Or.inl ⟨by rfl, ?qy10ea⟩) hHeld ?qr10ea
    case qy10ea => (intro w' hSw; go_simp; try with_reducible rfl)
    try simp only [Act.put, List.setIfInBounds_toArray, List.set_cons_zero, List.set_cons_succ]
    refine wpAnyH_take (i := 11) (oi := ⟨some 62, _, _, _, _, _⟩) (v := ?qv11ea) rfl (by kernel_rfl) (by kernel_rfl) (by kernel_rfl) (fun _ _ _ h => h) (Or.inl ⟨by rfl, ?qy11ea⟩) hHeld ?qr11ea
    case qy11ea => (intro w' hSw; obtain ⟨z0, z1, z2⟩ := XS.out w' hSw; go_simp; try with_reducible rfl)
    try simp only [Act.put, List.setIfInBounds_toArray, List.set_cons_zero, List.set_cons_succ]
    refine wpAnyH_ready (rs := [12]) (by kernel_rfl) (by simp) ?_
    refine AllReadyH.cons (o := ⟨some 63, _, _, _, _, _⟩) rfl (fun K hK => ?_) AllReadyH.nil
    refine step_go (by rfl) 32 _ _ (by rfl) (fun _ _ => by kernel_rfl) _ (by rfl) (HE1.out _ k2) ?_
    rintro e x2 ⟨rfl, q2⟩
    refine ⟨_, rfl, ?_⟩
    have k3 := k2.trans (q2.mono k2.size)
    refine hK.out _ _ (k3) (fun hHeld => ?_)
    clear hK K
    try simp only [Act.put, List.setIfInBounds_toArray, List.set_cons_zero, List.set_cons_succ]
    refine wpAnyH_take (i := 13) (oi := ⟨some 64, _, _, _, _, _⟩) (v := ?qv13ea) rfl (by kernel_rfl) (by kernel_rfl) (by kernel_rfl) (fun _ _ _ h => h) (Or.inl ⟨by rfl, ?qy13ea⟩) hHeld ?qr13ea
    case qy13ea => (intro w' hSw; go_simp; try with_reducible rfl)
    try simp only [Act.put, List.setIfInBounds_toArray, List.set_cons_zero, List.set_cons_succ]
    refine wpAnyH_take (i := 14) (oi := ⟨some 65, _, _, _, _, _⟩) (v := ?qv14ea) rfl (by kernel_rfl) (by kernel_rfl) (by kernel_rfl) (fun _ _ _ h => h) (Or.inl ⟨by rfl, ?qy14ea⟩) hHeld ?qr14ea
    case qy14ea => (intro w' hSw; go_simp; try with_reducible rfl)
    try simp only [Act.put, List.setIfInBounds_toArray, List.set_cons_zero, List.set_cons_succ]
    refine wpAnyH_take (i := 15) (oi := ⟨some 66, _, _, _, _, _⟩) (v := ?qv15ea) rfl (by kernel_rfl) (by kernel_rfl) (by kernel_rfl) (fun _ _ _ h => h) (Or.inl ⟨by rfl, ?qy15ea⟩) hHeld ?qr15ea
    case qy15ea => (intro w' hSw; go_simp; try with_reducible rfl)
    try simp only [Act.put, List.setIfInBounds_toArray, List.set_cons_zero, List.set_cons_succ]
    refine wpAnyH_take (i := 16) (oi := ⟨some 67, _, _, _, _, _⟩) (v := ?qv16ea) rfl (by kernel_rfl) (by kernel_rfl) (by kernel_rfl) (fun _ _ _ h => h) (Or.inl ⟨by rfl, ?qy16ea⟩) hHeld ?qr16ea
    case qy16ea => (intro w' hSw; go_simp; try with_reducible rfl)
    try simp only [Act.put, List.setIfInBounds_toArray, List.set_cons_zero, List.set_cons_succ]
    refine wpAnyH_take (i := 17) (oi := ⟨some 68, _, _, _, _, _⟩) (v := ?qv17ea) rfl (by kernel_rfl) (by kernel_rfl) (by kernel_rfl) (fun _ _ _ h => h) (Or.inl ⟨by rfl, ?qy17ea⟩) hHeld ?qr17ea
    case qy17ea => (intro w' hSw; go_simp; try with_reducible rfl)
    try simp only [Act.put, List.setIfInBounds_toArray, List.set_cons_zero, List.set_cons_succ]
    refine wpAnyH_take (i := 18) (oi := ⟨some 69, _, _, _, _, _⟩) (v := ?qv18ea) rfl (by kernel_rfl) (by kernel_rfl) (by kernel_rfl) (fun _ _ _ h => h) (Or.inl ⟨by rfl, ?qy18ea⟩) hHeld ?qr18ea
    case qy18ea => (intro w' hSw; obtain ⟨z0, z1, z2⟩ := XS.out w' hSw; go_simp; try with_reducible rfl)
    try simp only [Act.put, List.setIfInBounds_toArray, List.set_cons_zero, List.set_cons_succ]
    refine wpAnyH_take (i := 19) (oi := ⟨some 70, _, _, _, _, _⟩) (v := ?qv19ea) rfl (by kernel_rfl) (by kernel_rfl) (by kernel_rfl) (fun _ _ _ h => h) (Or.inl ⟨by rfl, ?qy19ea⟩) hHeld ?qr19ea
    case qy19ea => (intro w' hSw; go_simp; try with_reducible rfl)
    try simp only [Act.put, List.setIfInBounds_toArray, List.set_cons_zero, List.set_cons_succ]
    refine wpAnyH_take (i := 20) (oi := ⟨some 71, _, _, _, _, _⟩) (v := ?qv20ea) rfl (by kernel_rfl) (by kernel_rfl) (by kernel_rfl) (fun _ _ _ h => h) (Or.inl ⟨by rfl, ?qy20ea⟩) hHeld ?qr20ea
    case qy20ea => (intro w' hSw; go_simp; try with_reducible rfl)
    try simp only [Act.put, List.setIfInBounds_toArray, List.set_cons_zero, List.set_cons_succ]
    refine wpAnyH_take (i := 21) (oi := ⟨some 72, _, _, _, _, _⟩) (v := ?qv21ea) rfl (by kernel_rfl) (by kernel_rfl) (by kernel_rfl) (fun _ _ _ h => h) (Or.inl ⟨by rfl, ?qy21ea⟩) hHeld ?qr21ea
    case qy21ea => (intro w' hSw; go_simp; try with_reducible rfl)
    try simp only [Act.put, List.setIfInBounds_toArray, List.set_cons_zero, List.set_cons_succ]
    refine wpAnyH_take (i := 22) (oi := ⟨some 73, _, _, _, _, _⟩) (v := ?qv22ea) rfl (by kernel_rfl) (by kernel_rfl) (by kernel_rfl) (fun _ _ _ h => h) (Or.inl ⟨by rfl, ?qy22ea⟩) hHeld ?qr22ea
    case qy22ea => (intro w' hSw; go_simp; try with_reducible rfl)
    try simp only [Act.put, List.setIfInBounds_toArray, List.set_cons_zero, List.set_cons_succ]
    refine wpAnyH_take (i := 23) (oi := ⟨some 74, _, _, _, _, _⟩) (v := ?qv23ea) rfl (by kernel_rfl) (by kernel_rfl) (by kernel_rfl) (fun _ _ _ h => h) (Or.inl ⟨by rfl, ?qy23ea⟩) hHeld ?qr23ea
    case qy23ea => (intro w' hSw; go_simp; try with_reducible rfl)
    try simp only [Act.put, List.setIfInBounds_toArray, List.set_cons_zero, List.set_cons_succ]
    refine wpAnyH_take (i := 24) (oi := ⟨some 75, _, _, _, _, _⟩) (v := ?qv24ea) rfl (by kernel_rfl) (by kernel_rfl) (by kernel_rfl) (fun _ _ _ h => h) (Or.inl ⟨by rfl, ?qy24ea⟩) hHeld ?qr24ea
    case qy24ea => (intro w' hSw; obtain ⟨z0, z1, z2⟩ := XS.out w' hSw; go_simp; try with_reducible rfl)
    try simp only [Act.put, List.setIfInBounds_toArray, List.set_cons_zero, List.set_cons_succ]
    refine wpAnyH_take (i := 25) (oi := ⟨some 76, _, _, _, _, _⟩) (v := ?qv25ea) rfl (by kernel_rfl) (by kernel_rfl) (by kernel_rfl) (fun _ _ _ h => h) (Or.inl ⟨by rfl, ?qy25ea⟩) hHeld ?qr25ea
    case qy25ea => (intro w' hSw; go_simp; try with_reducible rfl)
    try simp only [Act.put, List.setIfInBounds_toArray, List.set_cons_zero, List.set_cons_succ]
    refine wpAnyH_ready (rs := [26]) (by kernel_rfl) (by simp) ?_
    refine AllReadyH.cons (o := ⟨some 77, _, _, _, _, _⟩) rfl (fun K hK => ?_) AllReadyH.nil
    refine step_go (by rfl) 15 _ _ (by rfl) (fun _ _ => by kernel_rfl) _ (by rfl) (HH2.out _ k3) ?_
    rintro e x3 ⟨rfl, q3⟩
    refine ⟨_, rfl, ?_⟩
    have k4 := k3.trans (q3.mono k3.size)
    refine hK.out _ _ (k4) (fun hHeld => ?_)
    clear hK K
    try simp only [Act.put, List.setIfInBounds_toArray, List.set_cons_zero, List.set_cons_succ]
    refine wpAnyH_take (i := 27) (oi := ⟨some 78, _, _, _, _, _⟩) (v := ?qv27ea) rfl (by kernel_rfl) (by kernel_rfl) (by kernel_rfl) (fun _ _ _ h => h) (Or.inl ⟨by rfl, ?qy27ea⟩) hHeld ?qr27ea
    case qy27ea => (intro w' hSw; go_simp; try with_reducible rfl)
    try simp only [Act.put, List.setIfInBounds_toArray, List.set_cons_zero, List.set_cons_succ]
    refine wpAnyH_take (i := 28) (oi := ⟨some 79, _, _, _, _, _⟩) (v := ?qv28ea) rfl (by kernel_rfl) (by kernel_rfl) (by kernel_rfl) (fun _ _ _ h => h) (Or.inl ⟨by rfl, ?qy28ea⟩) hHeld ?qr28ea
    case qy28ea => (intro w' hSw; go_simp; try with_reducible rfl)
    try simp only [Act.put, List.setIfInBounds_toArray, List.set_cons_zero, List.set_cons_succ]
    refine wpAnyH_take (i := 29) (oi := ⟨some 80, _, _, _, _, _⟩) (v := ?qv29ea) rfl (by kernel_rfl) (by kernel_rfl) (by kernel_rfl) (fun _ _ _ h => h) (Or.inl ⟨by rfl, ?qy29ea⟩) hHeld ?qr29ea
    case qy29ea => (intro w' hSw; go_simp; try with_reducible rfl)
    try simp only [Act.put, List.setIfInBounds_toArray, List.set_cons_zero, List.set_cons_succ]
    refine wpAnyH_take (i := 30) (oi := ⟨some 81, _, _, _, _, _⟩) (v := ?qv30ea) rfl (by kernel_rfl) (by kernel_rfl) (by kernel_rfl) (fun _ _ _ h => h) (Or.inl ⟨by rfl, ?qy30ea⟩) hHeld ?qr30ea
    case qy30ea => (intro w' hSw; go_simp; try with_reducible rfl)
    try simp only [Act.put, List.setIfInBounds_toArray, List.set_cons_zero, List.set_cons_succ]
    refine wpAnyH_take (i := 33) (oi := ⟨some 84, _, _, _, _, _⟩) (v := ?qv33ea) rfl (by kernel_rfl) (by kernel_rfl) (by kernel_rfl) (fun _ _ _ h => h) (Or.inl ⟨by rfl, ?qy33ea⟩) hHeld ?qr33ea
    case qy33ea => (intro w' hSw; go_simp; try with_reducible rfl)
    try simp only [Act.put, List.setIfInBounds_toArray, List.set_cons_zero, List.set_cons_succ]
    refine wpAnyH_ready (rs := [31]) (by kernel_rfl) (by simp) ?_
    refine AllReadyH.cons (o := ⟨some 82, _, _, _, _, _⟩) rfl (fun K hK => ?_) AllReadyH.nil
    refine step_go (by rfl) 17 _ _ (by rfl) (fun _ _ => by kernel_rfl) _ (by rfl) (TW1.out _ k4) ?_
    rintro e x4 ⟨rfl, q4⟩
    refine ⟨_, rfl, ?_⟩
    have k5 := k4.trans (q4.mono k4.size)
    refine hK.out _ _ (k5) (fun hHeld => ?_)
    clear hK K
    try simp only [Act.put, List.setIfInBounds_toArray, List.set_cons_zero, List.set_cons_succ]
    refine wpAnyH_ready (rs := [32]) (by kernel_rfl) (by simp) ?_
    refine AllReadyH.cons (o := ⟨some 83, _, _, _, _, _⟩) rfl (fun K hK => ?_) AllReadyH.nil
    refine step_go (by rfl) 21 _ _ (by rfl) (fun _ _ => by kernel_rfl) _ (by rfl) (UU.out _) ?_
    rintro e x5 ⟨rfl, q5⟩
    refine ⟨_, rfl, ?_⟩
    have k6 := k5.trans (q5.mono k5.size)
    refine hK.out _ _ (k6) (fun hHeld => ?_)
    clear hK K
    try simp only [Act.put, List.setIfInBounds_toArray, List.set_cons_zero, List.set_cons_succ]
    refine wpAnyH_ready (rs := [34]) (by kernel_rfl) (by simp) ?_
    refine AllReadyH.cons (o := ⟨some 85, _, _, _, _, _⟩) rfl (fun K hK => ?_) AllReadyH.nil
    refine step_go (by rfl) 34 _ _ (by rfl) (fun _ _ => by kernel_rfl) _ (by rfl) (CP.out _) ?_
    rintro e x6 ⟨rfl, q6⟩
    refine ⟨_, rfl, ?_⟩
    have k7 := k6.trans (q6.mono k6.size)
    refine hK.out _ _ (k7) (fun hHeld => ?_)
    clear hK K
    try simp only [Act.put, List.setIfInBounds_toArray, List.set_cons_zero, List.set_cons_succ]
    refine wpAnyH_take (i := 35) (oi := ⟨some 86, _, _, _, _, _⟩) (v := ?qv35ea) rfl (by kernel_rfl) (by kernel_rfl) (by kernel_rfl) (fun _ _ _ h => h) (Or.inl ⟨by rfl, ?qy35ea⟩) hHeld ?qr35ea
    case qy35ea => (intro w' hSw; go_simp; try with_reducible rfl)
    try simp only [Act.put, List.setIfInBounds_toArray, List.set_cons_zero, List.set_cons_succ]
    refine wpAnyH_take (i := 36) (oi := ⟨some 87, _, _, _, _, _⟩) (v := ?qv36ea) rfl (by kernel_rfl) (by kernel_rfl) (by kernel_rfl) (fun _ _ _ h => h) (Or.inl ⟨by rfl, ?qy36ea⟩) hHeld ?qr36ea
    case qy36ea => (intro w' hSw; go_simp; try with_reducible rfl)
    try simp only [Act.put, List.setIfInBounds_toArray, List.set_cons_zero, List.set_cons_succ]
    refine wpAnyH_take (i := 37) (oi := ⟨some 88, _, _, _, _, _⟩) (v := ?qv37ea) rfl (by kernel_rfl) (by kernel_rfl) (by kernel_rfl) (fun _ _ _ h => h) (Or.inl ⟨by rfl, ?qy37ea⟩) hHeld ?qr37ea
    case qy37ea => (intro w' hSw; go_simp; try with_reducible rfl)
    try simp only [Act.put, List.setIfInBounds_toArray, List.set_cons_zero, List.set_cons_succ]
    refine wpAnyH_ready (rs := [38]) (by kernel_rfl) (by simp) ?_
    refine AllReadyH.cons (o := ⟨some 89, _, _, _, _, _⟩) rfl (fun K hK => ?_) AllReadyH.nil
    refine step_go (by rfl) 11 _ _ (by rfl) (fun _ _ => by kernel_rfl) _ (by rfl) (awake5_any _ (G1.out _ k7)) ?_
    rintro e x7 ⟨rfl, q7⟩
    refine ⟨_, rfl, ?_⟩
    have k8 := k7.trans (q7.mono k7.size)
    refine hK.out _ _ (k8) (fun hHeld => ?_)
    clear hK K
    try simp only [Act.put, List.setIfInBounds_toArray, List.set_cons_zero, List.set_cons_succ]
    refine wpAnyH_take (i := 39) (oi := ⟨some 90, _, _, _, _, _⟩) (v := ?qv39ea) rfl (by kernel_rfl) (by kernel_rfl) (by kernel_rfl) (fun _ _ _ h => h) (Or.inl ⟨by rfl, ?qy39ea⟩) hHeld ?qr39ea
    case qy39ea => (intro w' hSw; go_simp; try with_reducible rfl)
    try simp only [Act.put, List.setIfInBounds_toArray, List.set_cons_zero, List.set_cons_succ]
    refine wpAnyH_take (i := 40) (oi := ⟨some 6, _, _, _, _, _⟩) (v := ?qv40ea) rfl (by kernel_rfl) (by kernel_rfl) (by kernel_rfl) (fun _ _ _ h => h) (Or.inl ⟨by rfl, ?qy40ea⟩) hHeld ?qr40ea
    case qy40ea => (intro w' hSw; go_simp; try with_reducible rfl)
    try simp only [Act.put, List.setIfInBounds_toArray, List.set_cons_zero, List.set_cons_succ]
    refine wpAnyH_done (by kernel_rfl) ?_ _
    refine NoPanic.normal ?_
    go_wp2_with fail
    go_ret
    exact ⟨rfl, BX0.trans (k8.mono BX0.size)⟩
  | false =>
    cases hH : hasE l (px, py) with
    | true =>
      have hB := HB.out hH
      rw [hE] at EG
      rw [hH] at HS
      rw [hB] at PB
      clear hE hH hB HB EH
      go_wp2_with fail
      refine (EG.out _ B3).mono ?_
      rintro e w4 ⟨rfl, b4⟩
      have B4 := B3.trans (b4.mono B3.size)
      have Y4 := Lib.hid (Y3.out.below b4)
      have Q4 := Lib.hid (Q3.out.below b4)
      clear y0 y1
      obtain ⟨y0, y1⟩ := Y4.out
      go_wp2_with fail
      refine (HS.out _ B4).mono ?_
      rintro e w6 ⟨rfl, b6⟩
      have B6 := B4.trans (b6.mono B4.size)
      have Y6 := Lib.hid (Y4.out.below b6)
      have Q6 := Lib.hid (Q4.out.below b6)
      clear y0 y1
      obtain ⟨y0, y1⟩ := Y6.out
      obtain ⟨z0, z1, z2, z3⟩ := Q6.out
      go_wp2_with fail
      refine (PB.out _).mono ?_
      rintro e w7 ⟨rfl, b7⟩
      have BX0 := B6.trans (b7.mono B6.size)
      have QX := Lib.hid (Q6.out.below b7)
      clear y0 y1 z0 z1 z2 z3
      go_wp2_with fail
      refine (R1.out _).mono ?_
      rintro e wq ⟨r, rfl, hr, rfl⟩
      obtain ⟨g, off, rfl, hgl, a0, a1⟩ := PC.out r hr
      have HC := Lib.hid (CE.out r hr)
      have XS := Lib.hid (show ∀ w', Below w7.heap.size w7 w' → w'.cell? ⟨g, off + r * 2, none⟩ = some (.int .i64 (pt l r).1) ∧ w'.cell? ⟨g, off + r * 2 + 1, none⟩ = some (.int .i64 (pt l r).2) ∧ w'.cell? ⟨w2.heap.size, 2, none⟩ = some (.int .i64 m3) from fun w' h => by
        have h' := BX0.trans (h.mono BX0.size)
        exact ⟨(h'.cell (p := ⟨g, off + r * 2, none⟩) hgl).trans a0, (h'.cell (p := ⟨g, off + r * 2 + 1, none⟩) hgl).trans a1, (QX.out.below h).c2⟩)
      clear a0 a1
      generalize pt l r = pr at *
      obtain ⟨rx, ry⟩ := pr
      simp only at XS
      have HC2 := Lib.hid (show hasE l (rx, ry) = true from edge_has HC.out)
      have HH1 := Lib.hid (show ∀ w', Below w7.heap.size w7 w' → _ from fun w' h => HVH.out rx ry w' (BX0.trans (h.mono BX0.size)))
      have HE1 := Lib.hid (show ∀ w', Below w7.heap.size w7 w' → _ from fun w' h => HVE.out rx ry w' (BX0.trans (h.mono BX0.size)))
      have HH2 := Lib.hid (show ∀ w', Below w7.heap.size w7 w' → _ from fun w' h => HVH.out (m3 + 1) ry w' (BX0.trans (h.mono BX0.size)))
      have TW1 := Lib.hid (show ∀ w', Below w7.heap.size w7 w' → _ from fun w' h => TW.out w' (BX0.trans (h.mono BX0.size)))
      have G1 := Lib.hid (show ∀ w', Below w7.heap.size w7 w' → ErrT w' from fun w' h => GT.out w' (BX0.trans (h.mono BX0.size)))
      have OH1 := Lib.hid (OH.out ry)
      rw [HC2.out] at HH1
      rw [HC.out] at HE1
      rw [OH1.out] at HH2
      have hT := TP.out.1
      generalize twiceE l = sT at *
      have UU := Lib.hid (fun w => u_any 0 sT w)
      have CP := Lib.hid (fun w => CompareR_pos sT w hT)
      have e1 : IntKind.i64.wrap (m3 + 1) = m3 + 1 := by rw [IntWalk.i64_in _ (by omega)]
      have j0 : (0 : Int) ≤ (r : Int) := by omega
      have j1 : (r : Int) < (l.length : Int) := by omega
      clear HC HC2 OH1 OH CE HVH HVE TW TP hT
      go_wp2_with fail
      refine wp_region_noPanic ?_
      refine wp_region_held_drew (S := fun w' => Below w7.heap.size w7 w') (by kernel_rfl) (Below.refl _ _).drew (fun hHeld => ?_)
      generalize w7.drew = D at hHeld ⊢
      have k1 : Below w7.heap.size w7 D := hHeld
      refine wpAnyH_take (i := 0) (oi := ⟨some 51, _, _, _, _, _⟩) (v := ?qv0eb) rfl (by kernel_rfl) (by kernel_rfl) (by kernel_rfl) (fun _ _ _ h => h) (Or.inl ⟨by rfl, ?qy0eb⟩) hHeld ?qr0eb
      case qy0eb => (intro w' hSw; go_simp; try with_reducible rfl)
      try simp only [Act.put, List.setIfInBounds_toArray, List.set_cons_zero, List.set_cons_succ]
      refine wpAnyH_take (i := 1) (oi := ⟨some 52, _, _, _, _, _⟩) (v := ?qv1eb) rfl (by kernel_rfl) (by kernel_rfl) (by kernel_rfl) (fun _ _ _ h => h) (Or.inl ⟨by rfl, ?qy1eb⟩) hHeld ?qr1eb
      case qy1eb => (intro w' hSw; go_simp; try with_reducible rfl)
      try simp only [Act.put, List.setIfInBounds_toArray, List.set_cons_zero, List.set_cons_succ]
      refine wpAnyH_take (i := 2) (oi := ⟨some 53, _, _, _, _, _⟩) (v := ?qv2eb) rfl (by kernel_rfl) (by kernel_rfl) (by kernel_rfl) (fun _ _ _ h => h) (Or.inl ⟨by rfl, ?qy2eb⟩) hHeld ?qr2eb
      case qy2eb => (intro w' hSw; go_simp; try with_reducible rfl)
      try simp only [Act.put, List.setIfInBounds_toArray, List.set_cons_zero, List.set_cons_succ]
      refine wpAnyH_take (i := 3) (oi := ⟨some 54, _, _, _, _, _⟩) (v := ?qv3eb) rfl (by kernel_rfl) (by kernel_rfl) (by kernel_rfl) (fun _ _ _ h => h) (Or.inl ⟨by rfl, ?qy3eb⟩) hHeld ?qr3eb
      case qy3eb => (intro w' hSw; go_simp; try with_reducible rfl)
      try simp only [Act.put, List.setIfInBounds_toArray, List.set_cons_zero, List.set_cons_succ]
      refine wpAnyH_take (i := 4) (oi := ⟨some 55, _, _, _, _, _⟩) (v := ?qv4eb) rfl (by kernel_rfl) (by kernel_rfl) (by kernel_rfl) (fun _ _ _ h => h) (Or.inl ⟨by rfl, ?qy4eb⟩) hHeld ?qr4eb
      case qy4eb => (intro w' hSw; obtain ⟨z0, z1, z2⟩ := XS.out w' hSw; go_simp; try with_reducible rfl)
      try simp only [Act.put, List.setIfInBounds_toArray, List.set_cons_zero, List.set_cons_succ]
      refine wpAnyH_ready (rs := [5]) (by kernel_rfl) (by simp) ?_
      refine AllReadyH.cons (o := ⟨some 56, _, _, _, _, _⟩) rfl (fun K hK => ?_) AllReadyH.nil
      refine step_go (by rfl) 15 _ _ (by rfl) (fun _ _ => by kernel_rfl) _ (by rfl) (HH1.out _ k1) ?_
      rintro e x1 ⟨rfl, q1⟩
      refine ⟨_, rfl, ?_⟩
      have k2 := k1.trans (q1.mono k1.size)
      refine hK.out _ _ (k2) (fun hHeld => ?_)
      clear hK K
      try simp only [Act.put, List.setIfInBounds_toArray, List.set_cons_zero, List.set_cons_succ]
      refine wpAnyH_take (i := 6) (oi := ⟨some 57, _, _, _, _, _⟩) (v := ?qv6eb) rfl (by kernel_rfl) (by kernel_rfl) (by kernel_rfl) (fun _ _ _ h => h) (Or.inl ⟨by rfl, ?qy6eb⟩) hHeld ?qr6eb
      case qy6eb => (intro w' hSw; go_simp; try with_reducible rfl)
      try simp only [Act.put, List.setIfInBounds_toArray, List.set_cons_zero, List.set_cons_succ]
      refine wpAnyH_take (i := 7) (oi := ⟨some 58, _, _, _, _, _⟩) (v := ?qv7eb) rfl (by kernel_rfl) (by kernel_rfl) (by kernel_rfl) (fun _ _ _ h => h) (Or.inl ⟨by rfl, ?qy7eb⟩) hHeld ?qr7eb
      case qy7eb => (intro w' hSw; go_simp; try with_reducible rfl)
      try simp only [Act.put, List.setIfInBounds_toArray, List.set_cons_zero, List.set_cons_succ]
      refine wpAnyH_take (i := 8) (oi := ⟨some 59, _, _, _, _, _⟩) (v := ?qv8eb) rfl (by kernel_rfl) (by kernel_rfl) (by kernel_rfl) (fun _ _ _ h => h) (Or.inl ⟨by rfl, ?qy8eb⟩) hHeld ?qr8eb
      case qy8eb => (intro w' hSw; go_simp; try with_reducible rfl)
      try simp only [Act.put, List.setIfInBounds_toArray, List.set_cons_zero, List.set_cons_succ]
      refine wpAnyH_take (i := 9) (oi := ⟨some 60, _, _, _, _, _⟩) (v := ?qv9eb) rfl (by kernel_rfl) (by kernel_rfl) (by kernel_rfl) (fun _ _ _ h => h) (Or.inl ⟨by rfl, ?qy9eb⟩) hHeld ?qr9eb
      case qy9eb => (intro w' hSw; go_simp; try with_reducible rfl)
      try simp only [Act.put, List.setIfInBounds_toArray, List.set_cons_zero, List.set_cons_succ]
      refine wpAnyH_take (i := 10) (oi := ⟨some 61, _, _, _, _, _⟩) (v := ?qv10eb) rfl (by kernel_rfl) (by kernel_rfl) (by kernel_rfl) (fun _ _ _ h => h) (Or.inl ⟨by rfl, ?qy10eb⟩) hHeld ?qr10eb
      case qy10eb => (intro w' hSw; go_simp; try with_reducible rfl)
      try simp only [Act.put, List.setIfInBounds_toArray, List.set_cons_zero, List.set_cons_succ]
      refine wpAnyH_take (i := 11) (oi := ⟨some 62, _, _, _, _, _⟩) (v := ?qv11eb) rfl (by kernel_rfl) (by kernel_rfl) (by kernel_rfl) (fun _ _ _ h => h) (Or.inl ⟨by rfl, ?qy11eb⟩) hHeld ?qr11eb
      case qy11eb => (intro w' hSw; obtain ⟨z0, z1, z2⟩ := XS.out w' hSw; go_simp; try with_reducible rfl)
      try simp only [Act.put, List.setIfInBounds_toArray, List.set_cons_zero, List.set_cons_succ]
      refine wpAnyH_ready (rs := [12]) (by kernel_rfl) (by simp) ?_
      refine AllReadyH.cons (o := ⟨some 63, _, _, _, _, _⟩) rfl (fun K hK => ?_) AllReadyH.nil
      refine step_go (by rfl) 32 _ _ (by rfl) (fun _ _ => by kernel_rfl) _ (by rfl) (HE1.out _ k2) ?_
      rintro e x2 ⟨rfl, q2⟩
      refine ⟨_, rfl, ?_⟩
      have k3 := k2.trans (q2.mono k2.size)
      refine hK.out _ _ (k3) (fun hHeld => ?_)
      clear hK K
      try simp only [Act.put, List.setIfInBounds_toArray, List.set_cons_zero, List.set_cons_succ]
      refine wpAnyH_take (i := 13) (oi := ⟨some 64, _, _, _, _, _⟩) (v := ?qv13eb) rfl (by kernel_rfl) (by kernel_rfl) (by kernel_rfl) (fun _ _ _ h => h) (Or.inl ⟨by rfl, ?qy13eb⟩) hHeld ?qr13eb
      case qy13eb => (intro w' hSw; go_simp; try with_reducible rfl)
      try simp only [Act.put, List.setIfInBounds_toArray, List.set_cons_zero, List.set_cons_succ]
      refine wpAnyH_take (i := 14) (oi := ⟨some 65, _, _, _, _, _⟩) (v := ?qv14eb) rfl (by kernel_rfl) (by kernel_rfl) (by kernel_rfl) (fun _ _ _ h => h) (Or.inl ⟨by rfl, ?qy14eb⟩) hHeld ?qr14eb
      case qy14eb => (intro w' hSw; go_simp; try with_reducible rfl)
      try simp only [Act.put, List.setIfInBounds_toArray, List.set_cons_zero, List.set_cons_succ]
      refine wpAnyH_take (i := 15) (oi := ⟨some 66, _, _, _, _, _⟩) (v := ?qv15eb) rfl (by kernel_rfl) (by kernel_rfl) (by kernel_rfl) (fun _ _ _ h => h) (Or.inl ⟨by rfl, ?qy15eb⟩) hHeld ?qr15eb
      case qy15eb => (intro w' hSw; go_simp; try with_reducible rfl)
      try simp only [Act.put, List.setIfInBounds_toArray, List.set_cons_zero, List.set_cons_succ]
      refine wpAnyH_take (i := 16) (oi := ⟨some 67, _, _, _, _, _⟩) (v := ?qv16eb) rfl (by kernel_rfl) (by kernel_rfl) (by kernel_rfl) (fun _ _ _ h => h) (Or.inl ⟨by rfl, ?qy16eb⟩) hHeld ?qr16eb
      case qy16eb => (intro w' hSw; go_simp; try with_reducible rfl)
      try simp only [Act.put, List.setIfInBounds_toArray, List.set_cons_zero, List.set_cons_succ]
      refine wpAnyH_take (i := 17) (oi := ⟨some 68, _, _, _, _, _⟩) (v := ?qv17eb) rfl (by kernel_rfl) (by kernel_rfl) (by kernel_rfl) (fun _ _ _ h => h) (Or.inl ⟨by rfl, ?qy17eb⟩) hHeld ?qr17eb
      case qy17eb => (intro w' hSw; go_simp; try with_reducible rfl)
      try simp only [Act.put, List.setIfInBounds_toArray, List.set_cons_zero, List.set_cons_succ]
      refine wpAnyH_take (i := 18) (oi := ⟨some 69, _, _, _, _, _⟩) (v := ?qv18eb) rfl (by kernel_rfl) (by kernel_rfl) (by kernel_rfl) (fun _ _ _ h => h) (Or.inl ⟨by rfl, ?qy18eb⟩) hHeld ?qr18eb
      case qy18eb => (intro w' hSw; obtain ⟨z0, z1, z2⟩ := XS.out w' hSw; go_simp; try with_reducible rfl)
      try simp only [Act.put, List.setIfInBounds_toArray, List.set_cons_zero, List.set_cons_succ]
      refine wpAnyH_take (i := 19) (oi := ⟨some 70, _, _, _, _, _⟩) (v := ?qv19eb) rfl (by kernel_rfl) (by kernel_rfl) (by kernel_rfl) (fun _ _ _ h => h) (Or.inl ⟨by rfl, ?qy19eb⟩) hHeld ?qr19eb
      case qy19eb => (intro w' hSw; go_simp; try with_reducible rfl)
      try simp only [Act.put, List.setIfInBounds_toArray, List.set_cons_zero, List.set_cons_succ]
      refine wpAnyH_take (i := 20) (oi := ⟨some 71, _, _, _, _, _⟩) (v := ?qv20eb) rfl (by kernel_rfl) (by kernel_rfl) (by kernel_rfl) (fun _ _ _ h => h) (Or.inl ⟨by rfl, ?qy20eb⟩) hHeld ?qr20eb
      case qy20eb => (intro w' hSw; go_simp; try with_reducible rfl)
      try simp only [Act.put, List.setIfInBounds_toArray, List.set_cons_zero, List.set_cons_succ]
      refine wpAnyH_take (i := 21) (oi := ⟨some 72, _, _, _, _, _⟩) (v := ?qv21eb) rfl (by kernel_rfl) (by kernel_rfl) (by kernel_rfl) (fun _ _ _ h => h) (Or.inl ⟨by rfl, ?qy21eb⟩) hHeld ?qr21eb
      case qy21eb => (intro w' hSw; go_simp; try with_reducible rfl)
      try simp only [Act.put, List.setIfInBounds_toArray, List.set_cons_zero, List.set_cons_succ]
      refine wpAnyH_take (i := 22) (oi := ⟨some 73, _, _, _, _, _⟩) (v := ?qv22eb) rfl (by kernel_rfl) (by kernel_rfl) (by kernel_rfl) (fun _ _ _ h => h) (Or.inl ⟨by rfl, ?qy22eb⟩) hHeld ?qr22eb
      case qy22eb => (intro w' hSw; go_simp; try with_reducible rfl)
      try simp only [Act.put, List.setIfInBounds_toArray, List.set_cons_zero, List.set_cons_succ]
      refine wpAnyH_take (i := 23) (oi := ⟨some 74, _, _, _, _, _⟩) (v := ?qv23eb) rfl (by kernel_rfl) (by kernel_rfl) (by kernel_rfl) (fun _ _ _ h => h) (Or.inl ⟨by rfl, ?qy23eb⟩) hHeld ?qr23eb
      case qy23eb => (intro w' hSw; go_simp; try with_reducible rfl)
      try simp only [Act.put, List.setIfInBounds_toArray, List.set_cons_zero, List.set_cons_succ]
      refine wpAnyH_take (i := 24) (oi := ⟨some 75, _, _, _, _, _⟩) (v := ?qv24eb) rfl (by kernel_rfl) (by kernel_rfl) (by kernel_rfl) (fun _ _ _ h => h) (Or.inl ⟨by rfl, ?qy24eb⟩) hHeld ?qr24eb
      case qy24eb => (intro w' hSw; obtain ⟨z0, z1, z2⟩ := XS.out w' hSw; go_simp; try with_reducible rfl)
      try simp only [Act.put, List.setIfInBounds_toArray, List.set_cons_zero, List.set_cons_succ]
      refine wpAnyH_take (i := 25) (oi := ⟨some 76, _, _, _, _, _⟩) (v := ?qv25eb) rfl (by kernel_rfl) (by kernel_rfl) (by kernel_rfl) (fun _ _ _ h => h) (Or.inl ⟨by rfl, ?qy25eb⟩) hHeld ?qr25eb
      case qy25eb => (intro w' hSw; go_simp; try with_reducible rfl)
      try simp only [Act.put, List.setIfInBounds_toArray, List.set_cons_zero, List.set_cons_succ]
      refine wpAnyH_ready (rs := [26]) (by kernel_rfl) (by simp) ?_
      refine AllReadyH.cons (o := ⟨some 77, _, _, _, _, _⟩) rfl (fun K hK => ?_) AllReadyH.nil
      refine step_go (by rfl) 15 _ _ (by rfl) (fun _ _ => by kernel_rfl) _ (by rfl) (HH2.out _ k3) ?_
      rintro e x3 ⟨rfl, q3⟩
      refine ⟨_, rfl, ?_⟩
      have k4 := k3.trans (q3.mono k3.size)
      refine hK.out _ _ (k4) (fun hHeld => ?_)
      clear hK K
      try simp only [Act.put, List.setIfInBounds_toArray, List.set_cons_zero, List.set_cons_succ]
      refine wpAnyH_take (i := 27) (oi := ⟨some 78, _, _, _, _, _⟩) (v := ?qv27eb) rfl (by kernel_rfl) (by kernel_rfl) (by kernel_rfl) (fun _ _ _ h => h) (Or.inl ⟨by rfl, ?qy27eb⟩) hHeld ?qr27eb
      case qy27eb => (intro w' hSw; go_simp; try with_reducible rfl)
      try simp only [Act.put, List.setIfInBounds_toArray, List.set_cons_zero, List.set_cons_succ]
      refine wpAnyH_take (i := 28) (oi := ⟨some 79, _, _, _, _, _⟩) (v := ?qv28eb) rfl (by kernel_rfl) (by kernel_rfl) (by kernel_rfl) (fun _ _ _ h => h) (Or.inl ⟨by rfl, ?qy28eb⟩) hHeld ?qr28eb
      case qy28eb => (intro w' hSw; go_simp; try with_reducible rfl)
      try simp only [Act.put, List.setIfInBounds_toArray, List.set_cons_zero, List.set_cons_succ]
      refine wpAnyH_take (i := 29) (oi := ⟨some 80, _, _, _, _, _⟩) (v := ?qv29eb) rfl (by kernel_rfl) (by kernel_rfl) (by kernel_rfl) (fun _ _ _ h => h) (Or.inl ⟨by rfl, ?qy29eb⟩) hHeld ?qr29eb
      case qy29eb => (intro w' hSw; go_simp; try with_reducible rfl)
      try simp only [Act.put, List.setIfInBounds_toArray, List.set_cons_zero, List.set_cons_succ]
      refine wpAnyH_take (i := 30) (oi := ⟨some 81, _, _, _, _, _⟩) (v := ?qv30eb) rfl (by kernel_rfl) (by kernel_rfl) (by kernel_rfl) (fun _ _ _ h => h) (Or.inl ⟨by rfl, ?qy30eb⟩) hHeld ?qr30eb
      case qy30eb => (intro w' hSw; go_simp; try with_reducible rfl)
      try simp only [Act.put, List.setIfInBounds_toArray, List.set_cons_zero, List.set_cons_succ]
      refine wpAnyH_take (i := 33) (oi := ⟨some 84, _, _, _, _, _⟩) (v := ?qv33eb) rfl (by kernel_rfl) (by kernel_rfl) (by kernel_rfl) (fun _ _ _ h => h) (Or.inl ⟨by rfl, ?qy33eb⟩) hHeld ?qr33eb
      case qy33eb => (intro w' hSw; go_simp; try with_reducible rfl)
      try simp only [Act.put, List.setIfInBounds_toArray, List.set_cons_zero, List.set_cons_succ]
      refine wpAnyH_ready (rs := [31]) (by kernel_rfl) (by simp) ?_
      refine AllReadyH.cons (o := ⟨some 82, _, _, _, _, _⟩) rfl (fun K hK => ?_) AllReadyH.nil
      refine step_go (by rfl) 17 _ _ (by rfl) (fun _ _ => by kernel_rfl) _ (by rfl) (TW1.out _ k4) ?_
      rintro e x4 ⟨rfl, q4⟩
      refine ⟨_, rfl, ?_⟩
      have k5 := k4.trans (q4.mono k4.size)
      refine hK.out _ _ (k5) (fun hHeld => ?_)
      clear hK K
      try simp only [Act.put, List.setIfInBounds_toArray, List.set_cons_zero, List.set_cons_succ]
      refine wpAnyH_ready (rs := [32]) (by kernel_rfl) (by simp) ?_
      refine AllReadyH.cons (o := ⟨some 83, _, _, _, _, _⟩) rfl (fun K hK => ?_) AllReadyH.nil
      refine step_go (by rfl) 21 _ _ (by rfl) (fun _ _ => by kernel_rfl) _ (by rfl) (UU.out _) ?_
      rintro e x5 ⟨rfl, q5⟩
      refine ⟨_, rfl, ?_⟩
      have k6 := k5.trans (q5.mono k5.size)
      refine hK.out _ _ (k6) (fun hHeld => ?_)
      clear hK K
      try simp only [Act.put, List.setIfInBounds_toArray, List.set_cons_zero, List.set_cons_succ]
      refine wpAnyH_ready (rs := [34]) (by kernel_rfl) (by simp) ?_
      refine AllReadyH.cons (o := ⟨some 85, _, _, _, _, _⟩) rfl (fun K hK => ?_) AllReadyH.nil
      refine step_go (by rfl) 34 _ _ (by rfl) (fun _ _ => by kernel_rfl) _ (by rfl) (CP.out _) ?_
      rintro e x6 ⟨rfl, q6⟩
      refine ⟨_, rfl, ?_⟩
      have k7 := k6.trans (q6.mono k6.size)
      refine hK.out _ _ (k7) (fun hHeld => ?_)
      clear hK K
      try simp only [Act.put, List.setIfInBounds_toArray, List.set_cons_zero, List.set_cons_succ]
      refine wpAnyH_take (i := 35) (oi := ⟨some 86, _, _, _, _, _⟩) (v := ?qv35eb) rfl (by kernel_rfl) (by kernel_rfl) (by kernel_rfl) (fun _ _ _ h => h) (Or.inl ⟨by rfl, ?qy35eb⟩) hHeld ?qr35eb
      case qy35eb => (intro w' hSw; go_simp; try with_reducible rfl)
      try simp only [Act.put, List.setIfInBounds_toArray, List.set_cons_zero, List.set_cons_succ]
      refine wpAnyH_take (i := 36) (oi := ⟨some 87, _, _, _, _, _⟩) (v := ?qv36eb) rfl (by kernel_rfl) (by kernel_rfl) (by kernel_rfl) (fun _ _ _ h => h) (Or.inl ⟨by rfl, ?qy36eb⟩) hHeld ?qr36eb
      case qy36eb => (intro w' hSw; go_simp; try with_reducible rfl)
      try simp only [Act.put, List.setIfInBounds_toArray, List.set_cons_zero, List.set_cons_succ]
      refine wpAnyH_take (i := 37) (oi := ⟨some 88, _, _, _, _, _⟩) (v := ?qv37eb) rfl (by kernel_rfl) (by kernel_rfl) (by kernel_rfl) (fun _ _ _ h => h) (Or.inl ⟨by rfl, ?qy37eb⟩) hHeld ?qr37eb
      case qy37eb => (intro w' hSw; go_simp; try with_reducible rfl)
      try simp only [Act.put, List.setIfInBounds_toArray, List.set_cons_zero, List.set_cons_succ]
      refine wpAnyH_ready (rs := [38]) (by kernel_rfl) (by simp) ?_
      refine AllReadyH.cons (o := ⟨some 89, _, _, _, _, _⟩) rfl (fun K hK => ?_) AllReadyH.nil
      refine step_go (by rfl) 11 _ _ (by rfl) (fun _ _ => by kernel_rfl) _ (by rfl) (awake5_any _ (G1.out _ k7)) ?_
      rintro e x7 ⟨rfl, q7⟩
      refine ⟨_, rfl, ?_⟩
      have k8 := k7.trans (q7.mono k7.size)
      refine hK.out _ _ (k8) (fun hHeld => ?_)
      clear hK K
      try simp only [Act.put, List.setIfInBounds_toArray, List.set_cons_zero, List.set_cons_succ]
      refine wpAnyH_take (i := 39) (oi := ⟨some 90, _, _, _, _, _⟩) (v := ?qv39eb) rfl (by kernel_rfl) (by kernel_rfl) (by kernel_rfl) (fun _ _ _ h => h) (Or.inl ⟨by rfl, ?qy39eb⟩) hHeld ?qr39eb
      case qy39eb => (intro w' hSw; go_simp; try with_reducible rfl)
      try simp only [Act.put, List.setIfInBounds_toArray, List.set_cons_zero, List.set_cons_succ]
      refine wpAnyH_take (i := 40) (oi := ⟨some 6, _, _, _, _, _⟩) (v := ?qv40eb) rfl (by kernel_rfl) (by kernel_rfl) (by kernel_rfl) (fun _ _ _ h => h) (Or.inl ⟨by rfl, ?qy40eb⟩) hHeld ?qr40eb
      case qy40eb => (intro w' hSw; go_simp; try with_reducible rfl)
      try simp only [Act.put, List.setIfInBounds_toArray, List.set_cons_zero, List.set_cons_succ]
      refine wpAnyH_done (by kernel_rfl) ?_ _
      refine NoPanic.normal ?_
      go_wp2_with fail
      go_ret
      exact ⟨rfl, BX0.trans (k8.mono BX0.size)⟩
    | false =>
      rw [hE] at EG
      rw [hH] at HS
      clear hE hH HB EH
      go_wp2_with fail
      refine (EG.out _ B3).mono ?_
      rintro e w4 ⟨rfl, b4⟩
      have B4 := B3.trans (b4.mono B3.size)
      have Y4 := Lib.hid (Y3.out.below b4)
      have Q4 := Lib.hid (Q3.out.below b4)
      clear y0 y1
      obtain ⟨y0, y1⟩ := Y4.out
      go_wp2_with fail
      refine (HS.out _ B4).mono ?_
      rintro e w7 ⟨rfl, b7⟩
      have BX0 := B4.trans (b7.mono B4.size)
      have QX := Lib.hid (Q4.out.below b7)
      clear y0 y1
      go_wp2_with fail
      refine (R1.out _).mono ?_
      rintro e wq ⟨r, rfl, hr, rfl⟩
      obtain ⟨g, off, rfl, hgl, a0, a1⟩ := PC.out r hr
      have HC := Lib.hid (CE.out r hr)
      have XS := Lib.hid (show ∀ w', Below w7.heap.size w7 w' → w'.cell? ⟨g, off + r * 2, none⟩ = some (.int .i64 (pt l r).1) ∧ w'.cell? ⟨g, off + r * 2 + 1, none⟩ = some (.int .i64 (pt l r).2) ∧ w'.cell? ⟨w2.heap.size, 2, none⟩ = some (.int .i64 m3) from fun w' h => by
        have h' := BX0.trans (h.mono BX0.size)
        exact ⟨(h'.cell (p := ⟨g, off + r * 2, none⟩) hgl).trans a0, (h'.cell (p := ⟨g, off + r * 2 + 1, none⟩) hgl).trans a1, (QX.out.below h).c2⟩)
      clear a0 a1
      generalize pt l r = pr at *
      obtain ⟨rx, ry⟩ := pr
      simp only at XS
      have HC2 := Lib.hid (show hasE l (rx, ry) = true from edge_has HC.out)
      have HH1 := Lib.hid (show ∀ w', Below w7.heap.size w7 w' → _ from fun w' h => HVH.out rx ry w' (BX0.trans (h.mono BX0.size)))
      have HE1 := Lib.hid (show ∀ w', Below w7.heap.size w7 w' → _ from fun w' h => HVE.out rx ry w' (BX0.trans (h.mono BX0.size)))
      have HH2 := Lib.hid (show ∀ w', Below w7.heap.size w7 w' → _ from fun w' h => HVH.out (m3 + 1) ry w' (BX0.trans (h.mono BX0.size)))
      have TW1 := Lib.hid (show ∀ w', Below w7.heap.size w7 w' → _ from fun w' h => TW.out w' (BX0.trans (h.mono BX0.size)))
      have G1 := Lib.hid (show ∀ w', Below w7.heap.size w7 w' → ErrT w' from fun w' h => GT.out w' (BX0.trans (h.mono BX0.size)))
      have OH1 := Lib.hid (OH.out ry)
      rw [HC2.out] at HH1
      rw [HC.out] at HE1
      rw [OH1.out] at HH2
      have hT := TP.out.1
      generalize twiceE l = sT at *
      have UU := Lib.hid (fun w => u_any 0 sT w)
      have CP := Lib.hid (fun w => CompareR_pos sT w hT)
      have e1 : IntKind.i64.wrap (m3 + 1) = m3 + 1 := by rw [IntWalk.i64_in _ (by omega)]
      have j0 : (0 : Int) ≤ (r : Int) := by omega
      have j1 : (r : Int) < (l.length : Int) := by omega
      clear HC HC2 OH1 OH CE HVH HVE TW TP hT
      go_wp2_with fail
      refine wp_region_noPanic ?_
      refine wp_region_held_drew (S := fun w' => Below w7.heap.size w7 w') (by kernel_rfl) (Below.refl _ _).drew (fun hHeld => ?_)
      generalize w7.drew = D at hHeld ⊢
      have k1 : Below w7.heap.size w7 D := hHeld
      refine wpAnyH_take (i := 0) (oi := ⟨some 51, _, _, _, _, _⟩) (v := ?qv0ec) rfl (by kernel_rfl) (by kernel_rfl) (by kernel_rfl) (fun _ _ _ h => h) (Or.inl ⟨by rfl, ?qy0ec⟩) hHeld ?qr0ec
      case qy0ec => (intro w' hSw; go_simp; try with_reducible rfl)
      try simp only [Act.put, List.setIfInBounds_toArray, List.set_cons_zero, List.set_cons_succ]
      refine wpAnyH_take (i := 1) (oi := ⟨some 52, _, _, _, _, _⟩) (v := ?qv1ec) rfl (by kernel_rfl) (by kernel_rfl) (by kernel_rfl) (fun _ _ _ h => h) (Or.inl ⟨by rfl, ?qy1ec⟩) hHeld ?qr1ec
      case qy1ec => (intro w' hSw; go_simp; try with_reducible rfl)
      try simp only [Act.put, List.setIfInBounds_toArray, List.set_cons_zero, List.set_cons_succ]
      refine wpAnyH_take (i := 2) (oi := ⟨some 53, _, _, _, _, _⟩) (v := ?qv2ec) rfl (by kernel_rfl) (by kernel_rfl) (by kernel_rfl) (fun _ _ _ h => h) (Or.inl ⟨by rfl, ?qy2ec⟩) hHeld ?qr2ec
      case qy2ec => (intro w' hSw; go_simp; try with_reducible rfl)
      try simp only [Act.put, List.setIfInBounds_toArray, List.set_cons_zero, List.set_cons_succ]
      refine wpAnyH_take (i := 3) (oi := ⟨some 54, _, _, _, _, _⟩) (v := ?qv3ec) rfl (by kernel_rfl) (by kernel_rfl) (by kernel_rfl) (fun _ _ _ h => h) (Or.inl ⟨by rfl, ?qy3ec⟩) hHeld ?qr3ec
      case qy3ec => (intro w' hSw; go_simp; try with_reducible rfl)
      try simp only [Act.put, List.setIfInBounds_toArray, List.set_cons_zero, List.set_cons_succ]
      refine wpAnyH_take (i := 4) (oi := ⟨some 55, _, _, _, _, _⟩) (v := ?qv4ec) rfl (by kernel_rfl) (by kernel_rfl) (by kernel_rfl) (fun _ _ _ h => h) (Or.inl ⟨by rfl, ?qy4ec⟩) hHeld ?qr4ec
      case qy4ec => (intro w' hSw; obtain ⟨z0, z1, z2⟩ := XS.out w' hSw; go_simp; try with_reducible rfl)
      try simp only [Act.put, List.setIfInBounds_toArray, List.set_cons_zero, List.set_cons_succ]
      refine wpAnyH_ready (rs := [5]) (by kernel_rfl) (by simp) ?_
      refine AllReadyH.cons (o := ⟨some 56, _, _, _, _, _⟩) rfl (fun K hK => ?_) AllReadyH.nil
      refine step_go (by rfl) 15 _ _ (by rfl) (fun _ _ => by kernel_rfl) _ (by rfl) (HH1.out _ k1) ?_
      rintro e x1 ⟨rfl, q1⟩
      refine ⟨_, rfl, ?_⟩
      have k2 := k1.trans (q1.mono k1.size)
      refine hK.out _ _ (k2) (fun hHeld => ?_)
      clear hK K
      try simp only [Act.put, List.setIfInBounds_toArray, List.set_cons_zero, List.set_cons_succ]
      refine wpAnyH_take (i := 6) (oi := ⟨some 57, _, _, _, _, _⟩) (v := ?qv6ec) rfl (by kernel_rfl) (by kernel_rfl) (by kernel_rfl) (fun _ _ _ h => h) (Or.inl ⟨by rfl, ?qy6ec⟩) hHeld ?qr6ec
      case qy6ec => (intro w' hSw; go_simp; try with_reducible rfl)
      try simp only [Act.put, List.setIfInBounds_toArray, List.set_cons_zero, List.set_cons_succ]
      refine wpAnyH_take (i := 7) (oi := ⟨some 58, _, _, _, _, _⟩) (v := ?qv7ec) rfl (by kernel_rfl) (by kernel_rfl) (by kernel_rfl) (fun _ _ _ h => h) (Or.inl ⟨by rfl, ?qy7ec⟩) hHeld ?qr7ec
      case qy7ec => (intro w' hSw; go_simp; try with_reducible rfl)
      try simp only [Act.put, List.setIfInBounds_toArray, List.set_cons_zero, List.set_cons_succ]
      refine wpAnyH_take (i := 8) (oi := ⟨some 59, _, _, _, _, _⟩) (v := ?qv8ec) rfl (by kernel_rfl) (by kernel_rfl) (by kernel_rfl) (fun _ _ _ h => h) (Or.inl ⟨by rfl, ?qy8ec⟩) hHeld ?qr8ec
      case qy8ec => (intro w' hSw; go_simp; try with_reducible rfl)
      try simp only [Act.put, List.setIfInBounds_toArray, List.set_cons_zero, List.set_cons_succ]
      refine wpAnyH_take (i := 9) (oi := ⟨some 60, _, _, _, _, _⟩) (v := ?qv9ec) rfl (by kernel_rfl) (by kernel_rfl) (by kernel_rfl) (fun _ _ _ h => h) (Or.inl ⟨by rfl, ?qy9ec⟩) hHeld ?qr9ec
      case qy9ec => (intro w' hSw; go_simp; try with_reducible rfl)
      try simp only [Act.put, List.setIfInBounds_toArray, List.set_cons_zero, List.set_cons_succ]
      refine wpAnyH_take (i := 10) (oi := ⟨some 61, _, _, _, _, _⟩) (v := ?qv10ec) rfl (by kernel_rfl) (by kernel_rfl) (by kernel_rfl) (fun _ _ _ h => h) (Or.inl ⟨by rfl, ?qy10ec⟩) hHeld ?qr10ec
      case qy10ec => (intro w' hSw; go_simp; try with_reducible rfl)
      try simp only [Act.put, List.setIfInBounds_toArray, List.set_cons_zero, List.set_cons_succ]
      refine wpAnyH_take (i := 11) (oi := ⟨some 62, _, _, _, _, _⟩) (v := ?qv11ec) rfl (by kernel_rfl) (by kernel_rfl) (by kernel_rfl) (fun _ _ _ h => h) (Or.inl ⟨by rfl, ?qy11ec⟩) hHeld ?qr11ec
      case qy11ec => (intro w' hSw; obtain ⟨z0, z1, z2⟩ := XS.out w' hSw; go_simp; try with_reducible rfl)
      try simp only [Act.put, List.setIfInBounds_toArray, List.set_cons_zero, List.set_cons_succ]
      refine wpAnyH_ready (rs := [12]) (by kernel_rfl) (by simp) ?_
      refine AllReadyH.cons (o := ⟨some 63, _, _, _, _, _⟩) rfl (fun K hK => ?_) AllReadyH.nil
      refine step_go (by rfl) 32 _ _ (by rfl) (fun _ _ => by kernel_rfl) _ (by rfl) (HE1.out _ k2) ?_
      rintro e x2 ⟨rfl, q2⟩
      refine ⟨_, rfl, ?_⟩
      have k3 := k2.trans (q2.mono k2.size)
      refine hK.out _ _ (k3) (fun hHeld => ?_)
      clear hK K
      try simp only [Act.put, List.setIfInBounds_toArray, List.set_cons_zero, List.set_cons_succ]
      refine wpAnyH_take (i := 13) (oi := ⟨some 64, _, _, _, _, _⟩) (v := ?qv13ec) rfl (by kernel_rfl) (by kernel_rfl) (by kernel_rfl) (fun _ _ _ h => h) (Or.inl ⟨by rfl, ?qy13ec⟩) hHeld ?qr13ec
      case qy13ec => (intro w' hSw; go_simp; try with_reducible rfl)
      try simp only [Act.put, List.setIfInBounds_toArray, List.set_cons_zero, List.set_cons_succ]
      refine wpAnyH_take (i := 14) (oi := ⟨some 65, _, _, _, _, _⟩) (v := ?qv14ec) rfl (by kernel_rfl) (by kernel_rfl) (by kernel_rfl) (fun _ _ _ h => h) (Or.inl ⟨by rfl, ?qy14ec⟩) hHeld ?qr14ec
      case qy14ec => (intro w' hSw; go_simp; try with_reducible rfl)
      try simp only [Act.put, List.setIfInBounds_toArray, List.set_cons_zero, List.set_cons_succ]
      refine wpAnyH_take (i := 15) (oi := ⟨some 66, _, _, _, _, _⟩) (v := ?qv15ec) rfl (by kernel_rfl) (by kernel_rfl) (by kernel_rfl) (fun _ _ _ h => h) (Or.inl ⟨by rfl, ?qy15ec⟩) hHeld ?qr15ec
      case qy15ec => (intro w' hSw; go_simp; try with_reducible rfl)
      try simp only [Act.put, List.setIfInBounds_toArray, List.set_cons_zero, List.set_cons_succ]
      refine wpAnyH_take (i := 16) (oi := ⟨some 67, _, _, _, _, _⟩) (v := ?qv16ec) rfl (by kernel_rfl) (by kernel_rfl) (by kernel_rfl) (fun _ _ _ h => h) (Or.inl ⟨by rfl, ?qy16ec⟩) hHeld ?qr16ec
      case qy16ec => (intro w' hSw; go_simp; try with_reducible rfl)
      try simp only [Act.put, List.setIfInBounds_toArray, List.set_cons_zero, List.set_cons_succ]
      refine wpAnyH_take (i := 17) (oi := ⟨some 68, _, _, _, _, _⟩) (v := ?qv17ec) rfl (by kernel_rfl) (by kernel_rfl) (by kernel_rfl) (fun _ _ _ h => h) (Or.inl ⟨by rfl, ?qy17ec⟩) hHeld ?qr17ec
      case qy17ec => (intro w' hSw; go_simp; try with_reducible rfl)
      try simp only [Act.put, List.setIfInBounds_toArray, List.set_cons_zero, List.set_cons_succ]
      refine wpAnyH_take (i := 18) (oi := ⟨some 69, _, _, _, _, _⟩) (v := ?qv18ec) rfl (by kernel_rfl) (by kernel_rfl) (by kernel_rfl) (fun _ _ _ h => h) (Or.inl ⟨by rfl, ?qy18ec⟩) hHeld ?qr18ec
      case qy18ec => (intro w' hSw; obtain ⟨z0, z1, z2⟩ := XS.out w' hSw; go_simp; try with_reducible rfl)
      try simp only [Act.put, List.setIfInBounds_toArray, List.set_cons_zero, List.set_cons_succ]
      refine wpAnyH_take (i := 19) (oi := ⟨some 70, _, _, _, _, _⟩) (v := ?qv19ec) rfl (by kernel_rfl) (by kernel_rfl) (by kernel_rfl) (fun _ _ _ h => h) (Or.inl ⟨by rfl, ?qy19ec⟩) hHeld ?qr19ec
      case qy19ec => (intro w' hSw; go_simp; try with_reducible rfl)
      try simp only [Act.put, List.setIfInBounds_toArray, List.set_cons_zero, List.set_cons_succ]
      refine wpAnyH_take (i := 20) (oi := ⟨some 71, _, _, _, _, _⟩) (v := ?qv20ec) rfl (by kernel_rfl) (by kernel_rfl) (by kernel_rfl) (fun _ _ _ h => h) (Or.inl ⟨by rfl, ?qy20ec⟩) hHeld ?qr20ec
      case qy20ec => (intro w' hSw; go_simp; try with_reducible rfl)
      try simp only [Act.put, List.setIfInBounds_toArray, List.set_cons_zero, List.set_cons_succ]
      refine wpAnyH_take (i := 21) (oi := ⟨some 72, _, _, _, _, _⟩) (v := ?qv21ec) rfl (by kernel_rfl) (by kernel_rfl) (by kernel_rfl) (fun _ _ _ h => h) (Or.inl ⟨by rfl, ?qy21ec⟩) hHeld ?qr21ec
      case qy21ec => (intro w' hSw; go_simp; try with_reducible rfl)
      try simp only [Act.put, List.setIfInBounds_toArray, List.set_cons_zero, List.set_cons_succ]
      refine wpAnyH_take (i := 22) (oi := ⟨some 73, _, _, _, _, _⟩) (v := ?qv22ec) rfl (by kernel_rfl) (by kernel_rfl) (by kernel_rfl) (fun _ _ _ h => h) (Or.inl ⟨by rfl, ?qy22ec⟩) hHeld ?qr22ec
      case qy22ec => (intro w' hSw; go_simp; try with_reducible rfl)
      try simp only [Act.put, List.setIfInBounds_toArray, List.set_cons_zero, List.set_cons_succ]
      refine wpAnyH_take (i := 23) (oi := ⟨some 74, _, _, _, _, _⟩) (v := ?qv23ec) rfl (by kernel_rfl) (by kernel_rfl) (by kernel_rfl) (fun _ _ _ h => h) (Or.inl ⟨by rfl, ?qy23ec⟩) hHeld ?qr23ec
      case qy23ec => (intro w' hSw; go_simp; try with_reducible rfl)
      try simp only [Act.put, List.setIfInBounds_toArray, List.set_cons_zero, List.set_cons_succ]
      refine wpAnyH_take (i := 24) (oi := ⟨some 75, _, _, _, _, _⟩) (v := ?qv24ec) rfl (by kernel_rfl) (by kernel_rfl) (by kernel_rfl) (fun _ _ _ h => h) (Or.inl ⟨by rfl, ?qy24ec⟩) hHeld ?qr24ec
      case qy24ec => (intro w' hSw; obtain ⟨z0, z1, z2⟩ := XS.out w' hSw; go_simp; try with_reducible rfl)
      try simp only [Act.put, List.setIfInBounds_toArray, List.set_cons_zero, List.set_cons_succ]
      refine wpAnyH_take (i := 25) (oi := ⟨some 76, _, _, _, _, _⟩) (v := ?qv25ec) rfl (by kernel_rfl) (by kernel_rfl) (by kernel_rfl) (fun _ _ _ h => h) (Or.inl ⟨by rfl, ?qy25ec⟩) hHeld ?qr25ec
      case qy25ec => (intro w' hSw; go_simp; try with_reducible rfl)
      try simp only [Act.put, List.setIfInBounds_toArray, List.set_cons_zero, List.set_cons_succ]
      refine wpAnyH_ready (rs := [26]) (by kernel_rfl) (by simp) ?_
      refine AllReadyH.cons (o := ⟨some 77, _, _, _, _, _⟩) rfl (fun K hK => ?_) AllReadyH.nil
      refine step_go (by rfl) 15 _ _ (by rfl) (fun _ _ => by kernel_rfl) _ (by rfl) (HH2.out _ k3) ?_
      rintro e x3 ⟨rfl, q3⟩
      refine ⟨_, rfl, ?_⟩
      have k4 := k3.trans (q3.mono k3.size)
      refine hK.out _ _ (k4) (fun hHeld => ?_)
      clear hK K
      try simp only [Act.put, List.setIfInBounds_toArray, List.set_cons_zero, List.set_cons_succ]
      refine wpAnyH_take (i := 27) (oi := ⟨some 78, _, _, _, _, _⟩) (v := ?qv27ec) rfl (by kernel_rfl) (by kernel_rfl) (by kernel_rfl) (fun _ _ _ h => h) (Or.inl ⟨by rfl, ?qy27ec⟩) hHeld ?qr27ec
      case qy27ec => (intro w' hSw; go_simp; try with_reducible rfl)
      try simp only [Act.put, List.setIfInBounds_toArray, List.set_cons_zero, List.set_cons_succ]
      refine wpAnyH_take (i := 28) (oi := ⟨some 79, _, _, _, _, _⟩) (v := ?qv28ec) rfl (by kernel_rfl) (by kernel_rfl) (by kernel_rfl) (fun _ _ _ h => h) (Or.inl ⟨by rfl, ?qy28ec⟩) hHeld ?qr28ec
      case qy28ec => (intro w' hSw; go_simp; try with_reducible rfl)
      try simp only [Act.put, List.setIfInBounds_toArray, List.set_cons_zero, List.set_cons_succ]
      refine wpAnyH_take (i := 29) (oi := ⟨some 80, _, _, _, _, _⟩) (v := ?qv29ec) rfl (by kernel_rfl) (by kernel_rfl) (by kernel_rfl) (fun _ _ _ h => h) (Or.inl ⟨by rfl, ?qy29ec⟩) hHeld ?qr29ec
      case qy29ec => (intro w' hSw; go_simp; try with_reducible rfl)
      try simp only [Act.put, List.setIfInBounds_toArray, List.set_cons_zero, List.set_cons_succ]
      refine wpAnyH_take (i := 30) (oi := ⟨some 81, _, _, _, _, _⟩) (v := ?qv30ec) rfl (by kernel_rfl) (by kernel_rfl) (by kernel_rfl) (fun _ _ _ h => h) (Or.inl ⟨by rfl, ?qy30ec⟩) hHeld ?qr30ec
      case qy30ec => (intro w' hSw; go_simp; try with_reducible rfl)
      try simp only [Act.put, List.setIfInBounds_toArray, List.set_cons_zero, List.set_cons_succ]
      refine wpAnyH_take (i := 33) (oi := ⟨some 84, _, _, _, _, _⟩) (v := ?qv33ec) rfl (by kernel_rfl) (by kernel_rfl) (by kernel_rfl) (fun _ _ _ h => h) (Or.inl ⟨by rfl, ?qy33ec⟩) hHeld ?qr33ec
      case qy33ec => (intro w' hSw; go_simp; try with_reducible rfl)
      try simp only [Act.put, List.setIfInBounds_toArray, List.set_cons_zero, List.set_cons_succ]
      refine wpAnyH_ready (rs := [31]) (by kernel_rfl) (by simp) ?_
      refine AllReadyH.cons (o := ⟨some 82, _, _, _, _, _⟩) rfl (fun K hK => ?_) AllReadyH.nil
      refine step_go (by rfl) 17 _ _ (by rfl) (fun _ _ => by kernel_rfl) _ (by rfl) (TW1.out _ k4) ?_
      rintro e x4 ⟨rfl, q4⟩
      refine ⟨_, rfl, ?_⟩
      have k5 := k4.trans (q4.mono k4.size)
      refine hK.out _ _ (k5) (fun hHeld => ?_)
      clear hK K
      try simp only [Act.put, List.setIfInBounds_toArray, List.set_cons_zero, List.set_cons_succ]
      refine wpAnyH_ready (rs := [32]) (by kernel_rfl) (by simp) ?_
      refine AllReadyH.cons (o := ⟨some 83, _, _, _, _, _⟩) rfl (fun K hK => ?_) AllReadyH.nil
      refine step_go (by rfl) 21 _ _ (by rfl) (fun _ _ => by kernel_rfl) _ (by rfl) (UU.out _) ?_
      rintro e x5 ⟨rfl, q5⟩
      refine ⟨_, rfl, ?_⟩
      have k6 := k5.trans (q5.mono k5.size)
      refine hK.out _ _ (k6) (fun hHeld => ?_)
      clear hK K
      try simp only [Act.put, List.setIfInBounds_toArray, List.set_cons_zero, List.set_cons_succ]
      refine wpAnyH_ready (rs := [34]) (by kernel_rfl) (by simp) ?_
      refine AllReadyH.cons (o := ⟨some 85, _, _, _, _, _⟩) rfl (fun K hK => ?_) AllReadyH.nil
      refine step_go (by rfl) 34 _ _ (by rfl) (fun _ _ => by kernel_rfl) _ (by rfl) (CP.out _) ?_
      rintro e x6 ⟨rfl, q6⟩
      refine ⟨_, rfl, ?_⟩
      have k7 := k6.trans (q6.mono k6.size)
      refine hK.out _ _ (k7) (fun hHeld => ?_)
      clear hK K
      try simp only [Act.put, List.setIfInBounds_toArray, List.set_cons_zero, List.set_cons_succ]
      refine wpAnyH_take (i := 35) (oi := ⟨some 86, _, _, _, _, _⟩) (v := ?qv35ec) rfl (by kernel_rfl) (by kernel_rfl) (by kernel_rfl) (fun _ _ _ h => h) (Or.inl ⟨by rfl, ?qy35ec⟩) hHeld ?qr35ec
      case qy35ec => (intro w' hSw; go_simp; try with_reducible rfl)
      try simp only [Act.put, List.setIfInBounds_toArray, List.set_cons_zero, List.set_cons_succ]
      refine wpAnyH_take (i := 36) (oi := ⟨some 87, _, _, _, _, _⟩) (v := ?qv36ec) rfl (by kernel_rfl) (by kernel_rfl) (by kernel_rfl) (fun _ _ _ h => h) (Or.inl ⟨by rfl, ?qy36ec⟩) hHeld ?qr36ec
      case qy36ec => (intro w' hSw; go_simp; try with_reducible rfl)
      try simp only [Act.put, List.setIfInBounds_toArray, List.set_cons_zero, List.set_cons_succ]
      refine wpAnyH_take (i := 37) (oi := ⟨some 88, _, _, _, _, _⟩) (v := ?qv37ec) rfl (by kernel_rfl) (by kernel_rfl) (by kernel_rfl) (fun _ _ _ h => h) (Or.inl ⟨by rfl, ?qy37ec⟩) hHeld ?qr37ec
      case qy37ec => (intro w' hSw; go_simp; try with_reducible rfl)
      try simp only [Act.put, List.setIfInBounds_toArray, List.set_cons_zero, List.set_cons_succ]
      refine wpAnyH_ready (rs := [38]) (by kernel_rfl) (by simp) ?_
      refine AllReadyH.cons (o := ⟨some 89, _, _, _, _, _⟩) rfl (fun K hK => ?_) AllReadyH.nil
      refine step_go (by rfl) 11 _ _ (by rfl) (fun _ _ => by kernel_rfl) _ (by rfl) (awake5_any _ (G1.out _ k7)) ?_
      rintro e x7 ⟨rfl, q7⟩
      refine ⟨_, rfl, ?_⟩
      have k8 := k7.trans (q7.mono k7.size)
      refine hK.out _ _ (k8) (fun hHeld => ?_)
      clear hK K
      try simp only [Act.put, List.setIfInBounds_toArray, List.set_cons_zero, List.set_cons_succ]
      refine wpAnyH_take (i := 39) (oi := ⟨some 90, _, _, _, _, _⟩) (v := ?qv39ec) rfl (by kernel_rfl) (by kernel_rfl) (by kernel_rfl) (fun _ _ _ h => h) (Or.inl ⟨by rfl, ?qy39ec⟩) hHeld ?qr39ec
      case qy39ec => (intro w' hSw; go_simp; try with_reducible rfl)
      try simp only [Act.put, List.setIfInBounds_toArray, List.set_cons_zero, List.set_cons_succ]
      refine wpAnyH_take (i := 40) (oi := ⟨some 6, _, _, _, _, _⟩) (v := ?qv40ec) rfl (by kernel_rfl) (by kernel_rfl) (by kernel_rfl) (fun _ _ _ h => h) (Or.inl ⟨by rfl, ?qy40ec⟩) hHeld ?qr40ec
      case qy40ec => (intro w' hSw; go_simp; try with_reducible rfl)
      try simp only [Act.put, List.setIfInBounds_toArray, List.set_cons_zero, List.set_cons_succ]
      refine wpAnyH_done (by kernel_rfl) ?_ _
      refine NoPanic.normal ?_
      go_wp2_with fail
      go_ret
      exact ⟨rfl, BX0.trans (k8.mono BX0.size)⟩

set_option maxRecDepth 100000 in
theorem ringEdges_calls {H : Type} {enc : TypeId × Value → H} {W : World} {base : Nat} {v0 v1 v2 : Value} {d0 d1 d2 : DataW H} {p0 p1 p2 : List MemPlace} (hg : ErrT W)
    (o0 : Value.okWide Tryd.prog W .any base 22 v0) (h0 : DataW.Trod enc Tryd.prog W 0 (fun _ => true) true 22 v0 d0 p0)
    (o1 : Value.okWide Tryd.prog W .any base 3 v1) (h1 : DataW.Trod enc Tryd.prog W 0 (fun _ => true) true 3 v1 d1 p1)
    (o2 : Value.okWide Tryd.prog W .any base 24 v2) (h2 : DataW.Trod enc Tryd.prog W 0 (fun _ => true) true 24 v2 d2 p2) :
    Calls Tryd.prog 9 #[v0, v1, v2] W fun e w' => e = .returned (.bool true) ∧ Below W.heap.size W w' := by
  obtain ⟨l, hl, _⟩ := view_pts o0 h0
  obtain ⟨k, rfl, rfl, rfl, hk⟩ := open_int Tryd.underlying3 o1 h1
  obtain ⟨a, b, rfl, _, _⟩ := view_pt o2 h2
  by_cases h : l.length ≤ 80 ∧ ringEr l = .none
  · exact edges_in v0 l k a b W hl hg h.1 h.2
  · exact edges_out v0 l k a b W hl hg h
end Go.Proofs.YtpmngdgifdkohaaDoor
