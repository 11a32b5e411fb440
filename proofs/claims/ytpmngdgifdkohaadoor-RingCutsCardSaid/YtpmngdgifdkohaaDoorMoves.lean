/- RingMoves answers true, whatever it is given. -/
import Derived.Test.YtpmngdgifdkohaaDoorMoveMath
import Derived.Test.YtpmngdgifdkohaaDoorLimits
import Derived.Test.YtpmngdgifdkohaaDoorViewPts
import Derived.StillTailTactics
namespace Go.Proofs.YtpmngdgifdkohaaDoor
open Go.RowKit Go.ChangeShapes Go.WideShapes

theorem small_any (v : Value) (l : List (Int × Int)) (w : World) (hv : Pts w v l) :
    Calls Tryd.prog 10 #[v] w fun e w' => e = .returned (.bool (decide ((l.length : Int) ≤ 80))) ∧ w = w' := by
  obtain ⟨ao, c, rfl, h1, h2, h0, h3'⟩ := hv.open
  unfold maxLen at h2
  clear h0 h3'
  go_enter Tryd.func10, Tryd.ntmps10
  go_wp2
  go_ret
  exact ⟨rfl, rfl⟩
theorem ringEr_isB (l : List Pt) : (ringEr l).isB (ringRes l).1 strRing (ringRes l).2 = true := by
  rw [ringEr_res]
  unfold Er.ofRes
  split
  · rename_i h
    rw [h]; simp [Er.isB, Er.code]
  · have := ringRes_code l
    simp [Er.isB, Er.code, Er.root]
    omega

set_option maxRecDepth 100000 in
theorem moves_out (v : Value) (l : List (Int × Int)) (px py x y : Int) (w : World) (hv : Pts w v l) (hg : ErrT w) (h : ¬ (l.length ≤ 80 ∧ -2147483648 ≤ x ∧ x ≤ 2147483648 ∧ -2147483648 ≤ y ∧ y ≤ 2147483648 ∧ inP px py)) :
    Calls Tryd.prog 6 #[v, .agg #[.int .i64 px, .int .i64 py], .int .i64 x, .int .i64 y] w fun e w' => e = .returned (.bool true) ∧ Below w.heap.size w w' := by
  have B0 : Below w.heap.size w (w.alloc (.cells #[.int .i64 px, .int .i64 py] 24)) := (Below.refl _ _).alloc (Nat.le_refl _) _
  have S := Lib.hid (fun w' (h : Below w.heap.size w w') => small_any v l w' (hv.below h))
  have P := Lib.hid (fun w => Point_any px py w)
  have G := Lib.hid (fun w' (h : Below w.heap.size w w') => awake5_any w' (hg.below h hg.lt))
  have Y := Lib.hid (pair_alloc w px py 24 w.heap.size rfl)
  have T : decide ((l.length : Int) ≤ 80) = false ∨ (decide ((l.length : Int) ≤ 80) = true ∧ (decide (x < -2147483648) = true ∨ (decide (x < -2147483648) = false ∧ (decide (2147483648 < x) = true ∨ (decide (2147483648 < x) = false ∧ (decide (y < -2147483648) = true ∨ (decide (y < -2147483648) = false ∧ (decide (2147483648 < y) = true ∨ (decide (2147483648 < y) = false ∧ decide (inP px py) = false))))))))) := by
    simp only [decide_eq_true_eq, decide_eq_false_iff_not]
    by_cases c1 : l.length ≤ 80 <;> by_cases c2 : x < -2147483648 <;> by_cases c3 : 2147483648 < x <;> by_cases c4 : y < -2147483648 <;> by_cases c5 : 2147483648 < y <;> (try omega)
    exact .inr ⟨by omega, .inr ⟨c2, .inr ⟨c3, .inr ⟨c4, .inr ⟨c5, fun k => h ⟨c1, by omega, by omega, by omega, by omega, k⟩⟩⟩⟩⟩⟩
  clear h hv hg
  rcases T with t0 | ⟨t0, t1 | ⟨t1, t2 | ⟨t2, t3 | ⟨t3, t4 | ⟨t4, t5⟩⟩⟩⟩⟩
  iterate 5
    · rw [t0] at S
      go_enter Tryd.func6, Tryd.ntmps6
      go_wp2_with fail
      refine (S.out _ B0).mono ?_
      rintro e w1 ⟨rfl, rfl⟩
      go_wp2_with fail
      refine (G.out _ B0).mono ?_
      rintro e w2 ⟨rfl, b2⟩
      go_wp2_with fail
      go_ret
      exact ⟨rfl, B0.trans (b2.mono B0.size)⟩
  · rw [t0] at S
    rw [t5] at P
    go_enter Tryd.func6, Tryd.ntmps6
    go_wp2_with fail
    refine (S.out _ B0).mono ?_
    rintro e w1 ⟨rfl, rfl⟩
    obtain ⟨y0, y1⟩ := Y.out
    go_wp2_with fail
    refine (P.out _).mono ?_
    rintro e w2 ⟨rfl, b2⟩
    have B2 := B0.trans (b2.mono B0.size)
    go_wp2_with fail
    refine (G.out _ B2).mono ?_
    rintro e w3 ⟨rfl, b3⟩
    go_wp2_with fail
    go_ret
    exact ⟨rfl, B2.trans (b3.mono B2.size)⟩

set_option maxRecDepth 100000 in
set_option maxHeartbeats 4000000 in
theorem moves_in (v : Value) (l : List (Int × Int)) (px py x y : Int) (w : World) (hv : Pts w v l) (hg : ErrT w) (h80 : l.length ≤ 80) (x1 : -2147483648 ≤ x) (x2 : x ≤ 2147483648) (y1 : -2147483648 ≤ y) (y2 : y ≤ 2147483648) (hp : inP px py) :
    Calls Tryd.prog 6 #[v, .agg #[.int .i64 px, .int .i64 py], .int .i64 x, .int .i64 y] w fun e w' => e = .returned (.bool true) ∧ Below w.heap.size w w' := by
  have B0 : Below w.heap.size w (w.alloc (.cells #[.int .i64 px, .int .i64 py] 24)) := (Below.refl _ _).alloc (Nat.le_refl _) _
  have S := Lib.hid (fun w' (h : Below w.heap.size w w') => small_any v l w' (hv.below h))
  have P := Lib.hid (fun w => Point_any px py w)
  have G := Lib.hid (fun w' (h : Below w.heap.size w w') => awake5_any w' (hg.below h hg.lt))
  have GT := Lib.hid (fun w' (h : Below w.heap.size w w') => hg.below h hg.lt)
  have Y := Lib.hid (pair_alloc w px py 24 w.heap.size rfl)
  have t0 : decide ((l.length : Int) ≤ 80) = true := decide_eq_true (by omega)
  have t1 : decide (x < -2147483648) = false := decide_eq_false (by omega)
  have t2 : decide (2147483648 < x) = false := decide_eq_false (by omega)
  have t3 : decide (y < -2147483648) = false := decide_eq_false (by omega)
  have t4 : decide (2147483648 < y) = false := decide_eq_false (by omega)
  rw [t0] at S
  rw [decide_eq_true hp] at P
  have HV := Lib.hid hv
  obtain ⟨ao, c, rfl, h1, h2, h0, h3'⟩ := hv.open
  have H3 := Lib.hid h3'
  unfold maxLen at h2
  clear h0 h3' hv hg
  go_enter Tryd.func6, Tryd.ntmps6
  go_wp2_with fail
  refine (S.out _ B0).mono ?_
  rintro e w1 ⟨rfl, rfl⟩
  obtain ⟨q0, q1⟩ := Y.out
  go_wp2_with fail
  refine (P.out _).mono ?_
  rintro e w2 ⟨rfl, b2⟩
  have B2 := B0.trans (b2.mono B0.size)
  have Y2 := Lib.hid (Y.out.below b2)
  clear q0 q1
  go_wp2_with fail
  go_loopw [9, 10] (fun m q wr => ∃ k : Nat, k ≤ l.length ∧ q = .int .i64 k ∧ OwnP wr w2.heap.size m ((l.take k).map (mv x y)) ∧ allP (l.take k) = true ∧ allP ((l.take k).map (mv x y)) = true ∧ Below w2.heap.size w2 wr) (fun _ q _ => l.length - (intOf q).toNat)
  case atStart => exact ⟨0, Nat.zero_le _, rfl, World.ownsRow_nil _ _ _ _, rfl, rfl, Below.refl _ _⟩
  case round =>
    obtain ⟨k, hk, rfl, ho, ha, ham, hb⟩ := hrel
    have BB := B2.trans (hb.mono B2.size)
    by_cases hlt : k < l.length
    · have t5 : decide ((k : Int) < (l.length : Int)) = true := by simp; omega
      obtain ⟨g, off, rfl, hgl, hx0, hy0⟩ := H3.out k hlt
      have XS := Lib.hid (show ∀ w', Below w.heap.size w w' → w'.cell? ⟨g, off + k * 2, none⟩ = some (.int .i64 l[k].1) ∧ w'.cell? ⟨g, off + k * 2 + 1, none⟩ = some (.int .i64 l[k].2) from fun w' h => ⟨(h.cell (p := ⟨g, off + k * 2, none⟩) hgl).trans hx0, (h.cell (p := ⟨g, off + k * 2 + 1, none⟩) hgl).trans hy0⟩)
      obtain ⟨xc, yc⟩ := XS.out _ BB
      have i0 : (0 : Int) ≤ (k : Int) := by omega
      have i1 : (k : Int) < (l.length : Int) := by omega
      have HT := Lib.hid (show l.take (k + 1) = l.take k ++ [l[k]] from List.take_succ_eq_append_getElem hlt)
      have HA := Lib.hid ha
      have HM := Lib.hid ham
      clear hx0 hy0 ha ham
      generalize l[k] = pk at *
      obtain ⟨ax, ay⟩ := pk
      simp only at xc yc
      have P1 := Lib.hid (fun w => Point_any ax ay w)
      by_cases hin : inP ax ay
      · rw [decide_eq_true hin] at P1
        go_wp2_with fail
        refine (P1.out _).mono ?_
        rintro e w3 ⟨rfl, b3⟩
        have B3 := hb.trans (b3.mono hb.size)
        have BB3 := B2.trans (B3.mono B2.size)
        obtain ⟨xc3, yc3⟩ := XS.out _ BB3
        clear xc yc
        obtain ⟨⟨r1, r2⟩, r3, r4⟩ := hin
        have e1 : IntKind.i64.wrap (ax + x) = ax + x := by rw [IntWalk.i64_in _ (by omega)]
        have e2 : IntKind.i64.wrap (ay + y) = ay + y := by rw [IntWalk.i64_in _ (by omega)]
        go_wp2_with fail
        have hg3 : g < w3.heap.size := Nat.lt_of_lt_of_le hgl BB3.size
        have hg4 : ¬ g = w3.heap.size := by omega
        have P2 := Lib.hid (fun w => Point_any (ax + x) (ay + y) w)
        have Y4 := Lib.hid (show Pair (w3.alloc (.cells #[.int .i64 (ax + x), .int .i64 (ay + y)] 24)).drew w3.heap.size (ax + x) (ay + y) from ⟨(pair_alloc w3 (ax + x) (ay + y) 24 w3.heap.size rfl).c0, (pair_alloc w3 (ax + x) (ay + y) 24 w3.heap.size rfl).c1⟩)
        have B4 : Below w2.heap.size w2 (w3.alloc (.cells #[.int .i64 (ax + x), .int .i64 (ay + y)] 24)).drew := (B3.alloc B3.size _).drew
        go_region
        go_wp2_with fail
        by_cases hin2 : inP (ax + x) (ay + y)
        · rw [decide_eq_true hin2] at P2
          refine (P2.out _).mono ?_
          rintro e w4 ⟨rfl, b4⟩
          have B5 := B4.trans (b4.mono B4.size)
          obtain ⟨z0, z1⟩ := Y4.out.below b4
          have HP := Lib.hid (show Pts (w4.alloc (.cells #[.int .i64 (ax + x), .int .i64 (ay + y)] 24)) (.slice (some ⟨w4.heap.size, 0, none⟩) 1 1) [(ax + x, ay + y)] from pts1 w4 _ _ rfl _ _)
          have ho4 := ho.below ((b3.alloc b3.size (.cells #[.int .i64 (ax + x), .int .i64 (ay + y)] 24)).drew.trans (b4.mono (by have := b3.size; simp; omega)))
          have HO := Lib.hid (World.ownsRow.alloc ho4 (.cells #[.int .i64 (ax + x), .int .i64 (ay + y)] 24))
          have hb6 := B5.alloc B5.size (.cells #[.int .i64 (ax + x), .int .i64 (ay + y)] 24)
          have hlen : ((l.take k).map (mv x y)).length + [(ax + x, ay + y)].length ≤ 1000000 := by simp; omega
          have HTA := Lib.hid (show allP (l.take (k + 1)) = true by
            rw [HT.out]; unfold allP; rw [List.all_append]
            rw [show (l.take k).all okP = true from HA.out]
            simp [okP]; exact ⟨⟨r1, r2⟩, r3, r4⟩)
          have HTM := Lib.hid (show allP ((l.take (k + 1)).map (mv x y)) = true by
            rw [HT.out, List.map_append]; unfold allP; rw [List.all_append]
            rw [show ((l.take k).map (mv x y)).all okP = true from HM.out]
            simp [okP, mv]; exact hin2)
          have HTE := Lib.hid (show (l.take (k + 1)).map (mv x y) = (l.take k).map (mv x y) ++ [(ax + x, ay + y)] by rw [HT.out, List.map_append]; rfl)
          have hk1 : k + 1 ≤ l.length := by omega
          clear ho ho4
          go_wp2_with (at_builtin; refine wpList_append_pt rfl _ _ rfl w2.heap.size _ _ rfl HO.out _ [(ax + x, ay + y)] rfl HP.out hlen hb6.size ?_)
          intro v5 w5 ho5 hb5
          have HB := Lib.hid (hb6.trans hb5)
          clear hlen
          go_wp2_with fail
          go_roundw
          case rel => exact ⟨k + 1, hk1, by go_num, by rw [HTE.out, List.map_take]; exact ho5, HTA.out, HTM.out, HB.out⟩
          case measure => simp [intOf]; omega
        · rw [decide_eq_false hin2] at P2
          refine (P2.out _).mono ?_
          rintro e w4 ⟨rfl, b4⟩
          have B5 := B4.trans (b4.mono B4.size)
          have BB5 := B2.trans (B5.mono B2.size)
          go_wp2_with fail
          refine (G.out _ BB5).mono ?_
          rintro e w5 ⟨rfl, b5⟩
          go_wp2_with fail
          go_ret
          exact ⟨rfl, BB5.trans (b5.mono BB5.size)⟩
      · rw [decide_eq_false hin] at P1
        go_wp2_with fail
        refine (P1.out _).mono ?_
        rintro e w3 ⟨rfl, b3⟩
        have B3 := hb.trans (b3.mono hb.size)
        have BB3 := B2.trans (B3.mono B2.size)
        clear xc yc hin
        go_wp2_with fail
        refine (G.out _ BB3).mono ?_
        rintro e w4 ⟨rfl, b4⟩
        go_wp2_with fail
        go_ret
        exact ⟨rfl, BB3.trans (b4.mono BB3.size)⟩
    · obtain rfl : k = l.length := by omega
      have t5 : decide ((l.length : Int) < (l.length : Int)) = false := by simp
      rw [List.take_length] at ho ha ham
      obtain ⟨⟨p1, p2⟩, p3, p4⟩ := hp
      have e1 : IntKind.i64.wrap (px + x) = px + x := by rw [IntWalk.i64_in _ (by omega)]
      have e2 : IntKind.i64.wrap (py + y) = py + y := by rw [IntWalk.i64_in _ (by omega)]
      have Yq := Lib.hid (pair_alloc wr (px + x) (py + y) 24 wr.heap.size rfl)
      obtain ⟨q0, q1⟩ := Y2.out.below hb
      have Bq : Below wr.heap.size wr (wr.alloc (.cells #[.int .i64 (px + x), .int .i64 (py + y)] 24)) := (Below.refl _ _).alloc (Nat.le_refl _) _
      have CR := Lib.hid (CheckR_any _ l _ (HV.out.below (BB.trans (Bq.mono BB.size))))
      have M0 := Lib.hid (show ∀ w', Below wr.heap.size wr w' → Pts w' _ (l.map (mv x y)) from fun w' h => ho.pts.below h)
      have V0 := Lib.hid (show ∀ w', Below wr.heap.size wr w' → Pts w' _ l from fun w' h => HV.out.below (BB.trans (h.mono BB.size)))
      have HEr := Lib.hid (show ringEr (l.map (mv x y)) = ringEr l from ringEr_mv ha ham)
      have HIB := Lib.hid (ringEr_isB l)
      have HL := Lib.hid (show leftE (l.map (mv x y)) = leftE l from left_mv ha ham)
      have HW := Lib.hid (show twiceE (l.map (mv x y)) = twiceE l from twice_mv ha ham)
      have HH := Lib.hid (show okP (px, py) = true → okP (px + x, py + y) = true → hasE (l.map (mv x y)) (px + x, py + y) = hasE l (px, py) from fun h1 h2 => has_mv ha ham (p := (px, py)) h1 h2)
      have hok : okP (px, py) = true := decide_eq_true ⟨⟨p1, p2⟩, p3, p4⟩
      have GG := Lib.hid (show ∀ w', Below wr.heap.size wr w' → ErrT w' from fun w' h => GT.out _ (BB.trans (h.mono BB.size)))
      have PQ := Lib.hid (fun w => Point_any (px + x) (py + y) w)
      have hbs := B0.size
      have hw1 : w.heap.size < (w.alloc (.cells #[.int .i64 px, .int .i64 py] 24)).heap.size := by simp
      have XQ := Lib.hid (show ∀ w', Below wr.heap.size wr w' → w'.cell? ⟨w.heap.size, 0, none⟩ = some (.int .i64 px) ∧ w'.cell? ⟨w.heap.size, 1, none⟩ = some (.int .i64 py) from fun w' h => by
        obtain ⟨a, b⟩ := Y2.out.below (hb.trans (h.mono hb.size))
        exact ⟨a, b⟩)
      clear ha ham ho
      go_wp2_with fail
      refine CR.out.mono ?_
      rintro e w3 ⟨rfl, b3⟩
      have B3 := Bq.trans (b3.mono Bq.size)
      have YQ := Lib.hid (Yq.out.below b3)
      have XS := Lib.hid (show ∀ w', Below w3.heap.size w3 w' → w'.cell? ⟨wr.heap.size, 0, none⟩ = some (.int .i64 (px + x)) ∧ w'.cell? ⟨wr.heap.size, 1, none⟩ = some (.int .i64 (py + y)) ∧ w'.cell? ⟨w.heap.size, 0, none⟩ = some (.int .i64 px) ∧ w'.cell? ⟨w.heap.size, 1, none⟩ = some (.int .i64 py) from fun w' h => by
        obtain ⟨a, b⟩ := YQ.out.below h
        obtain ⟨c, d⟩ := XQ.out _ (B3.trans (h.mono B3.size))
        exact ⟨a, b, c, d⟩)
      have M3 := Lib.hid (show ∀ w', Below w3.heap.size w3 w' → Pts w' _ (l.map (mv x y)) from fun w' h => M0.out _ (B3.trans (h.mono B3.size)))
      have V3 := Lib.hid (show ∀ w', Below w3.heap.size w3 w' → Pts w' _ l from fun w' h => V0.out _ (B3.trans (h.mono B3.size)))
      have G3 := Lib.hid (show ∀ w', Below w3.heap.size w3 w' → ErrT w' from fun w' h => GG.out _ (B3.trans (h.mono B3.size)))
      have C1 := Lib.hid (show ∀ w', Below w3.heap.size w3 w' → _ from fun w' h => Check_any _ _ _ (M3.out w' h))
      have L1 := Lib.hid (show ∀ w', Below w3.heap.size w3 w' → _ from fun w' h => Left_any _ _ _ (M3.out w' h))
      have L2 := Lib.hid (show ∀ w', Below w3.heap.size w3 w' → _ from fun w' h => Left_any _ _ _ (V3.out w' h))
      have T1 := Lib.hid (show ∀ w', Below w3.heap.size w3 w' → _ from fun w' h => Twice_any _ _ _ (M3.out w' h))
      have T2 := Lib.hid (show ∀ w', Below w3.heap.size w3 w' → _ from fun w' h => Twice_any _ _ _ (V3.out w' h))
      have H1 := Lib.hid (show ∀ w', Below w3.heap.size w3 w' → _ from fun w' h => Has_any _ _ (px + x) (py + y) _ (M3.out w' h))
      have H2 := Lib.hid (show ∀ w', Below w3.heap.size w3 w' → _ from fun w' h => Has_any _ _ px py _ (V3.out w' h))
      rw [HEr.out] at C1
      rw [HL.out] at L1
      rw [HW.out] at T1
      have I1 := Lib.hid (show ∀ u w', (ringEr l).Is w' u → ErrT w' → Calls Tryd.prog 23 #[u, .int .i64 (ringRes l).1, .string strRing, .int .i64 (ringRes l).2] w' fun e w'' => e = .returned (.bool true) ∧ Below w'.heap.size w' w'' from fun u w' h1 h2 => by rw [← HIB.out]; exact IsA_any _ _ _ _ _ _ h1 h2)
      have BW := BB.trans (B3.mono BB.size)
      clear HL HW HEr HIB M3 V3 M0 V0 CR XQ Yq YQ q0 q1 BB
      generalize leftE l = sL at *
      generalize twiceE l = sT at *
      generalize ringEr l = E at *
      generalize (ringRes l).1 = r1 at *
      generalize (ringRes l).2 = r2 at *
      have t6 : (sL == sL) = true := by simp
      have t7 : (sT == sT) = true := by simp
      by_cases hq : inP (px + x) (py + y)
      · have HH' := HH.out hok (decide_eq_true hq)
        rw [HH'] at H1
        clear HH HH'
        generalize hasE l (px, py) = sH at *
        have t8 : (sH == sH) = true := by simp
        rw [decide_eq_true hq] at PQ
        go_wp2_with fail
        refine wp_region_noPanic ?_
        refine wp_region_held_drew (S := fun w' => Below w3.heap.size w3 w') (by kernel_rfl) (Below.refl _ _).drew (fun hHeld => ?_)
        generalize w3.drew = D at hHeld ⊢
        have c1 : Below w3.heap.size w3 D := hHeld
        refine wpAnyH_take (i := 0) (oi := ⟨some 90, _, _, _, _, _⟩) (v := ?qv0mv) rfl (by kernel_rfl) (by kernel_rfl) (by kernel_rfl) (fun _ _ _ h => h) (Or.inl ⟨by rfl, ?qy0mv⟩) hHeld ?qr0mv
        case qy0mv => (intro w' hSw; go_simp; try with_reducible rfl)
        try simp only [Act.put, List.setIfInBounds_toArray, List.set_cons_zero, List.set_cons_succ]
        refine wpAnyH_take (i := 2) (oi := ⟨some 92, _, _, _, _, _⟩) (v := ?qv2mv) rfl (by kernel_rfl) (by kernel_rfl) (by kernel_rfl) (fun _ _ _ h => h) (Or.inl ⟨by rfl, ?qy2mv⟩) hHeld ?qr2mv
        case qy2mv => (intro w' hSw; go_simp; try with_reducible rfl)
        try simp only [Act.put, List.setIfInBounds_toArray, List.set_cons_zero, List.set_cons_succ]
        refine wpAnyH_take (i := 3) (oi := ⟨some 93, _, _, _, _, _⟩) (v := ?qv3mv) rfl (by kernel_rfl) (by kernel_rfl) (by kernel_rfl) (fun _ _ _ h => h) (Or.inl ⟨by rfl, ?qy3mv⟩) hHeld ?qr3mv
        case qy3mv => (intro w' hSw; go_simp; try with_reducible rfl)
        try simp only [Act.put, List.setIfInBounds_toArray, List.set_cons_zero, List.set_cons_succ]
        refine wpAnyH_ready (rs := [1]) (by kernel_rfl) (by simp) ?_
        refine AllReadyH.cons (o := ⟨some 91, _, _, _, _, _⟩) rfl (fun K hK => ?_) AllReadyH.nil
        refine step_go (by rfl) 14 _ _ (by rfl) (fun _ _ => by kernel_rfl) _ (by rfl) (C1.out _ c1) ?_
        rintro e w6 ⟨u, rfl, hu, b6⟩
        refine ⟨_, rfl, ?_⟩
        have c2 := c1.trans (b6.mono c1.size)
        refine hK.out _ _ (c2) (fun hHeld => ?_)
        clear hK K
        try simp only [Act.put, List.setIfInBounds_toArray, List.set_cons_zero, List.set_cons_succ]
        refine wpAnyH_ready (rs := [4]) (by kernel_rfl) (by simp) ?_
        refine AllReadyH.cons (o := ⟨some 94, _, _, _, _, _⟩) rfl (fun K hK => ?_) AllReadyH.nil
        refine step_go (by rfl) 23 _ _ (by rfl) (fun _ _ => by kernel_rfl) _ (by rfl) (I1.out _ _ hu (G3.out _ c2)) ?_
        rintro e w7 ⟨rfl, b7⟩
        refine ⟨_, rfl, ?_⟩
        have c3 := c2.trans (b7.mono c2.size)
        refine hK.out _ _ (c3) (fun hHeld => ?_)
        clear hK K
        try simp only [Act.put, List.setIfInBounds_toArray, List.set_cons_zero, List.set_cons_succ]
        refine wpAnyH_take (i := 5) (oi := ⟨some 95, _, _, _, _, _⟩) (v := ?qv5mv) rfl (by kernel_rfl) (by kernel_rfl) (by kernel_rfl) (fun _ _ _ h => h) (Or.inl ⟨by rfl, ?qy5mv⟩) hHeld ?qr5mv
        case qy5mv => (intro w' hSw; go_simp; try with_reducible rfl)
        try simp only [Act.put, List.setIfInBounds_toArray, List.set_cons_zero, List.set_cons_succ]
        refine wpAnyH_take (i := 6) (oi := ⟨some 96, _, _, _, _, _⟩) (v := ?qv6mv) rfl (by kernel_rfl) (by kernel_rfl) (by kernel_rfl) (fun _ _ _ h => h) (Or.inl ⟨by rfl, ?qy6mv⟩) hHeld ?qr6mv
        case qy6mv => (intro w' hSw; go_simp; try with_reducible rfl)
        try simp only [Act.put, List.setIfInBounds_toArray, List.set_cons_zero, List.set_cons_succ]
        refine wpAnyH_take (i := 8) (oi := ⟨some 98, _, _, _, _, _⟩) (v := ?qv8mv) rfl (by kernel_rfl) (by kernel_rfl) (by kernel_rfl) (fun _ _ _ h => h) (Or.inl ⟨by rfl, ?qy8mv⟩) hHeld ?qr8mv
        case qy8mv => (intro w' hSw; go_simp; try with_reducible rfl)
        try simp only [Act.put, List.setIfInBounds_toArray, List.set_cons_zero, List.set_cons_succ]
        refine wpAnyH_ready (rs := [7]) (by kernel_rfl) (by simp) ?_
        refine AllReadyH.cons (o := ⟨some 97, _, _, _, _, _⟩) rfl (fun K hK => ?_) AllReadyH.nil
        refine step_go (by rfl) 16 _ _ (by rfl) (fun _ _ => by kernel_rfl) _ (by rfl) (L1.out _ c3) ?_
        rintro e w8 ⟨rfl, b8⟩
        refine ⟨_, rfl, ?_⟩
        have c4 := c3.trans (b8.mono c3.size)
        refine hK.out _ _ (c4) (fun hHeld => ?_)
        clear hK K
        try simp only [Act.put, List.setIfInBounds_toArray, List.set_cons_zero, List.set_cons_succ]
        refine wpAnyH_ready (rs := [9]) (by kernel_rfl) (by simp) ?_
        refine AllReadyH.cons (o := ⟨some 99, _, _, _, _, _⟩) rfl (fun K hK => ?_) AllReadyH.nil
        refine step_go (by rfl) 16 _ _ (by rfl) (fun _ _ => by kernel_rfl) _ (by rfl) (L2.out _ c4) ?_
        rintro e w9 ⟨rfl, b9⟩
        refine ⟨_, rfl, ?_⟩
        have c5 := c4.trans (b9.mono c4.size)
        refine hK.out _ _ (c5) (fun hHeld => ?_)
        clear hK K
        try simp only [Act.put, List.setIfInBounds_toArray, List.set_cons_zero, List.set_cons_succ]
        refine wpAnyH_take (i := 10) (oi := ⟨some 100, _, _, _, _, _⟩) (v := ?qv10mv) rfl (by kernel_rfl) (by kernel_rfl) (by kernel_rfl) (fun _ _ _ h => h) (Or.inl ⟨by rfl, ?qy10mv⟩) hHeld ?qr10mv
        case qy10mv => (intro w' hSw; go_simp; try with_reducible rfl)
        try simp only [Act.put, List.setIfInBounds_toArray, List.set_cons_zero, List.set_cons_succ]
        refine wpAnyH_take (i := 11) (oi := ⟨some 101, _, _, _, _, _⟩) (v := ?qv11mv) rfl (by kernel_rfl) (by kernel_rfl) (by kernel_rfl) (fun _ _ _ h => h) (Or.inl ⟨by rfl, ?qy11mv⟩) hHeld ?qr11mv
        case qy11mv => (intro w' hSw; go_simp; try with_reducible rfl)
        try simp only [Act.put, List.setIfInBounds_toArray, List.set_cons_zero, List.set_cons_succ]
        refine wpAnyH_take (i := 12) (oi := ⟨some 102, _, _, _, _, _⟩) (v := ?qv12mv) rfl (by kernel_rfl) (by kernel_rfl) (by kernel_rfl) (fun _ _ _ h => h) (Or.inl ⟨by rfl, ?qy12mv⟩) hHeld ?qr12mv
        case qy12mv => (intro w' hSw; go_simp; try with_reducible rfl)
        try simp only [Act.put, List.setIfInBounds_toArray, List.set_cons_zero, List.set_cons_succ]
        refine wpAnyH_take (i := 13) (oi := ⟨some 103, _, _, _, _, _⟩) (v := ?qv13mv) rfl (by kernel_rfl) (by kernel_rfl) (by kernel_rfl) (fun _ _ _ h => h) (Or.inl ⟨by rfl, ?qy13mv⟩) hHeld ?qr13mv
        case qy13mv => (intro w' hSw; go_simp; try with_reducible rfl)
        try simp only [Act.put, List.setIfInBounds_toArray, List.set_cons_zero, List.set_cons_succ]
        refine wpAnyH_take (i := 15) (oi := ⟨some 105, _, _, _, _, _⟩) (v := ?qv15mv) rfl (by kernel_rfl) (by kernel_rfl) (by kernel_rfl) (fun _ _ _ h => h) (Or.inl ⟨by rfl, ?qy15mv⟩) hHeld ?qr15mv
        case qy15mv => (intro w' hSw; go_simp; try with_reducible rfl)
        try simp only [Act.put, List.setIfInBounds_toArray, List.set_cons_zero, List.set_cons_succ]
        refine wpAnyH_ready (rs := [14]) (by kernel_rfl) (by simp) ?_
        refine AllReadyH.cons (o := ⟨some 104, _, _, _, _, _⟩) rfl (fun K hK => ?_) AllReadyH.nil
        refine step_go (by rfl) 17 _ _ (by rfl) (fun _ _ => by kernel_rfl) _ (by rfl) (T1.out _ c5) ?_
        rintro e wa ⟨rfl, ba⟩
        refine ⟨_, rfl, ?_⟩
        have c6 := c5.trans (ba.mono c5.size)
        refine hK.out _ _ (c6) (fun hHeld => ?_)
        clear hK K
        try simp only [Act.put, List.setIfInBounds_toArray, List.set_cons_zero, List.set_cons_succ]
        refine wpAnyH_ready (rs := [16]) (by kernel_rfl) (by simp) ?_
        refine AllReadyH.cons (o := ⟨some 106, _, _, _, _, _⟩) rfl (fun K hK => ?_) AllReadyH.nil
        refine step_go (by rfl) 17 _ _ (by rfl) (fun _ _ => by kernel_rfl) _ (by rfl) (T2.out _ c6) ?_
        rintro e wb ⟨rfl, bb⟩
        refine ⟨_, rfl, ?_⟩
        have c7 := c6.trans (bb.mono c6.size)
        refine hK.out _ _ (c7) (fun hHeld => ?_)
        clear hK K
        try simp only [Act.put, List.setIfInBounds_toArray, List.set_cons_zero, List.set_cons_succ]
        refine wpAnyH_take (i := 17) (oi := ⟨some 107, _, _, _, _, _⟩) (v := ?qv17mv) rfl (by kernel_rfl) (by kernel_rfl) (by kernel_rfl) (fun _ _ _ h => h) (Or.inl ⟨by rfl, ?qy17mv⟩) hHeld ?qr17mv
        case qy17mv => (intro w' hSw; go_simp; try with_reducible rfl)
        try simp only [Act.put, List.setIfInBounds_toArray, List.set_cons_zero, List.set_cons_succ]
        refine wpAnyH_take (i := 18) (oi := ⟨some 108, _, _, _, _, _⟩) (v := ?qv18mv) rfl (by kernel_rfl) (by kernel_rfl) (by kernel_rfl) (fun _ _ _ h => h) (Or.inl ⟨by rfl, ?qy18mv⟩) hHeld ?qr18mv
        case qy18mv => (intro w' hSw; go_simp; try with_reducible rfl)
        try simp only [Act.put, List.setIfInBounds_toArray, List.set_cons_zero, List.set_cons_succ]
        refine wpAnyH_take (i := 19) (oi := ⟨some 109, _, _, _, _, _⟩) (v := ?qv19mv) rfl (by kernel_rfl) (by kernel_rfl) (by kernel_rfl) (fun _ _ _ h => h) (Or.inl ⟨by rfl, ?qy19mv⟩) hHeld ?qr19mv
        case qy19mv => (intro w' hSw; go_simp; try with_reducible rfl)
        try simp only [Act.put, List.setIfInBounds_toArray, List.set_cons_zero, List.set_cons_succ]
        refine wpAnyH_take (i := 20) (oi := ⟨some 110, _, _, _, _, _⟩) (v := ?qv20mv) rfl (by kernel_rfl) (by kernel_rfl) (by kernel_rfl) (fun _ _ _ h => h) (Or.inl ⟨by rfl, ?qy20mv⟩) hHeld ?qr20mv
        case qy20mv => (intro w' hSw; obtain ⟨z0, z1, z2, z3⟩ := XS.out w' hSw; go_simp; try with_reducible rfl)
        try simp only [Act.put, List.setIfInBounds_toArray, List.set_cons_zero, List.set_cons_succ]
        refine wpAnyH_ready (rs := [21]) (by kernel_rfl) (by simp) ?_
        refine AllReadyH.cons (o := ⟨some 111, _, _, _, _, _⟩) rfl (fun K hK => ?_) AllReadyH.nil
        refine step_go (by rfl) 19 _ _ (by rfl) (fun _ _ => by kernel_rfl) _ (by rfl) (PQ.out _) ?_
        rintro e wc ⟨rfl, bc⟩
        refine ⟨_, rfl, ?_⟩
        have c8 := c7.trans (bc.mono c7.size)
        refine hK.out _ _ (c8) (fun hHeld => ?_)
        clear hK K
        try simp only [Act.put, List.setIfInBounds_toArray, List.set_cons_zero, List.set_cons_succ]
        refine wpAnyH_take (i := 22) (oi := ⟨some 112, _, _, _, _, _⟩) (v := ?qv22mv) rfl (by kernel_rfl) (by kernel_rfl) (by kernel_rfl) (fun _ _ _ h => h) (Or.inl ⟨by rfl, ?qy22mv⟩) hHeld ?qr22mv
        case qy22mv => (intro w' hSw; go_simp; try with_reducible rfl)
        try simp only [Act.put, List.setIfInBounds_toArray, List.set_cons_zero, List.set_cons_succ]
        refine wpAnyH_take (i := 23) (oi := ⟨some 113, _, _, _, _, _⟩) (v := ?qv23mv) rfl (by kernel_rfl) (by kernel_rfl) (by kernel_rfl) (fun _ _ _ h => h) (Or.inl ⟨by rfl, ?qy23mv⟩) hHeld ?qr23mv
        case qy23mv => (intro w' hSw; go_simp; try with_reducible rfl)
        try simp only [Act.put, List.setIfInBounds_toArray, List.set_cons_zero, List.set_cons_succ]
        refine wpAnyH_take (i := 24) (oi := ⟨some 114, _, _, _, _, _⟩) (v := ?qv24mv) rfl (by kernel_rfl) (by kernel_rfl) (by kernel_rfl) (fun _ _ _ h => h) (Or.inl ⟨by rfl, ?qy24mv⟩) hHeld ?qr24mv
        case qy24mv => (intro w' hSw; go_simp; try with_reducible rfl)
        try simp only [Act.put, List.setIfInBounds_toArray, List.set_cons_zero, List.set_cons_succ]
        refine wpAnyH_take (i := 25) (oi := ⟨some 115, _, _, _, _, _⟩) (v := ?qv25mv) rfl (by kernel_rfl) (by kernel_rfl) (by kernel_rfl) (fun _ _ _ h => h) (Or.inl ⟨by rfl, ?qy25mv⟩) hHeld ?qr25mv
        case qy25mv => (intro w' hSw; obtain ⟨z0, z1, z2, z3⟩ := XS.out w' hSw; go_simp; try with_reducible rfl)
        try simp only [Act.put, List.setIfInBounds_toArray, List.set_cons_zero, List.set_cons_succ]
        refine wpAnyH_take (i := 27) (oi := ⟨some 117, _, _, _, _, _⟩) (v := ?qv27mv) rfl (by kernel_rfl) (by kernel_rfl) (by kernel_rfl) (fun _ _ _ h => h) (Or.inl ⟨by rfl, ?qy27mv⟩) hHeld ?qr27mv
        case qy27mv => (intro w' hSw; go_simp; try with_reducible rfl)
        try simp only [Act.put, List.setIfInBounds_toArray, List.set_cons_zero, List.set_cons_succ]
        refine wpAnyH_take (i := 28) (oi := ⟨some 118, _, _, _, _, _⟩) (v := ?qv28mv) rfl (by kernel_rfl) (by kernel_rfl) (by kernel_rfl) (fun _ _ _ h => h) (Or.inl ⟨by rfl, ?qy28mv⟩) hHeld ?qr28mv
        case qy28mv => (intro w' hSw; obtain ⟨z0, z1, z2, z3⟩ := XS.out w' hSw; go_simp; try with_reducible rfl)
        try simp only [Act.put, List.setIfInBounds_toArray, List.set_cons_zero, List.set_cons_succ]
        refine wpAnyH_ready (rs := [26]) (by kernel_rfl) (by simp) ?_
        refine AllReadyH.cons (o := ⟨some 116, _, _, _, _, _⟩) rfl (fun K hK => ?_) AllReadyH.nil
        refine step_go (by rfl) 15 _ _ (by rfl) (fun _ _ => by kernel_rfl) _ (by rfl) (H1.out _ c8) ?_
        rintro e wd ⟨rfl, bd⟩
        refine ⟨_, rfl, ?_⟩
        have c9 := c8.trans (bd.mono c8.size)
        refine hK.out _ _ (c9) (fun hHeld => ?_)
        clear hK K
        try simp only [Act.put, List.setIfInBounds_toArray, List.set_cons_zero, List.set_cons_succ]
        refine wpAnyH_ready (rs := [29]) (by kernel_rfl) (by simp) ?_
        refine AllReadyH.cons (o := ⟨some 119, _, _, _, _, _⟩) rfl (fun K hK => ?_) AllReadyH.nil
        refine step_go (by rfl) 15 _ _ (by rfl) (fun _ _ => by kernel_rfl) _ (by rfl) (H2.out _ c9) ?_
        rintro e we ⟨rfl, be⟩
        refine ⟨_, rfl, ?_⟩
        have ca := c9.trans (be.mono c9.size)
        refine hK.out _ _ (ca) (fun hHeld => ?_)
        clear hK K
        try simp only [Act.put, List.setIfInBounds_toArray, List.set_cons_zero, List.set_cons_succ]
        refine wpAnyH_take (i := 30) (oi := ⟨some 120, _, _, _, _, _⟩) (v := ?qv30mv) rfl (by kernel_rfl) (by kernel_rfl) (by kernel_rfl) (fun _ _ _ h => h) (Or.inl ⟨by rfl, ?qy30mv⟩) hHeld ?qr30mv
        case qy30mv => (intro w' hSw; go_simp; try with_reducible rfl)
        try simp only [Act.put, List.setIfInBounds_toArray, List.set_cons_zero, List.set_cons_succ]
        refine wpAnyH_take (i := 31) (oi := ⟨some 121, _, _, _, _, _⟩) (v := ?qv31mv) rfl (by kernel_rfl) (by kernel_rfl) (by kernel_rfl) (fun _ _ _ h => h) (Or.inl ⟨by rfl, ?qy31mv⟩) hHeld ?qr31mv
        case qy31mv => (intro w' hSw; go_simp; try with_reducible rfl)
        try simp only [Act.put, List.setIfInBounds_toArray, List.set_cons_zero, List.set_cons_succ]
        refine wpAnyH_take (i := 32) (oi := ⟨some 122, _, _, _, _, _⟩) (v := ?qv32mv) rfl (by kernel_rfl) (by kernel_rfl) (by kernel_rfl) (fun _ _ _ h => h) (Or.inl ⟨by rfl, ?qy32mv⟩) hHeld ?qr32mv
        case qy32mv => (intro w' hSw; go_simp; try with_reducible rfl)
        try simp only [Act.put, List.setIfInBounds_toArray, List.set_cons_zero, List.set_cons_succ]
        refine wpAnyH_take (i := 33) (oi := ⟨some 123, _, _, _, _, _⟩) (v := ?qv33mv) rfl (by kernel_rfl) (by kernel_rfl) (by kernel_rfl) (fun _ _ _ h => h) (Or.inl ⟨by rfl, ?qy33mv⟩) hHeld ?qr33mv
        case qy33mv => (intro w' hSw; go_simp; try with_reducible rfl)
        try simp only [Act.put, List.setIfInBounds_toArray, List.set_cons_zero, List.set_cons_succ]
        refine wpAnyH_ready (rs := [34]) (by kernel_rfl) (by simp) ?_
        refine AllReadyH.cons (o := ⟨some 124, _, _, _, _, _⟩) rfl (fun K hK => ?_) AllReadyH.nil
        refine step_go (by rfl) 11 _ _ (by rfl) (fun _ _ => by kernel_rfl) _ (by rfl) (awake5_any _ (G3.out _ ca)) ?_
        rintro e wf ⟨rfl, bf⟩
        refine ⟨_, rfl, ?_⟩
        have cb := ca.trans (bf.mono ca.size)
        refine hK.out _ _ (cb) (fun hHeld => ?_)
        clear hK K
        try simp only [Act.put, List.setIfInBounds_toArray, List.set_cons_zero, List.set_cons_succ]
        refine wpAnyH_take (i := 35) (oi := ⟨some 125, _, _, _, _, _⟩) (v := ?qv35mv) rfl (by kernel_rfl) (by kernel_rfl) (by kernel_rfl) (fun _ _ _ h => h) (Or.inl ⟨by rfl, ?qy35mv⟩) hHeld ?qr35mv
        case qy35mv => (intro w' hSw; go_simp; try with_reducible rfl)
        try simp only [Act.put, List.setIfInBounds_toArray, List.set_cons_zero, List.set_cons_succ]
        refine wpAnyH_take (i := 36) (oi := ⟨some 8, _, _, _, _, _⟩) (v := ?qv36mv) rfl (by kernel_rfl) (by kernel_rfl) (by kernel_rfl) (fun _ _ _ h => h) (Or.inl ⟨by rfl, ?qy36mv⟩) hHeld ?qr36mv
        case qy36mv => (intro w' hSw; go_simp; try with_reducible rfl)
        try simp only [Act.put, List.setIfInBounds_toArray, List.set_cons_zero, List.set_cons_succ]
        refine wpAnyH_done (by kernel_rfl) ?_ _
        refine NoPanic.normal ?_
        go_wp2_with fail
        go_ret
        exact ⟨rfl, BW.trans (cb.mono BW.size)⟩
      · rw [decide_eq_false hq] at PQ
        go_wp2_with fail
        refine wp_region_noPanic ?_
        refine wp_region_held_drew (S := fun w' => Below w3.heap.size w3 w') (by kernel_rfl) (Below.refl _ _).drew (fun hHeld => ?_)
        generalize w3.drew = D at hHeld ⊢
        have c1 : Below w3.heap.size w3 D := hHeld
        refine wpAnyH_take (i := 0) (oi := ⟨some 90, _, _, _, _, _⟩) (v := ?qv0mw) rfl (by kernel_rfl) (by kernel_rfl) (by kernel_rfl) (fun _ _ _ h => h) (Or.inl ⟨by rfl, ?qy0mw⟩) hHeld ?qr0mw
        case qy0mw => (intro w' hSw; go_simp; try with_reducible rfl)
        try simp only [Act.put, List.setIfInBounds_toArray, List.set_cons_zero, List.set_cons_succ]
        refine wpAnyH_take (i := 2) (oi := ⟨some 92, _, _, _, _, _⟩) (v := ?qv2mw) rfl (by kernel_rfl) (by kernel_rfl) (by kernel_rfl) (fun _ _ _ h => h) (Or.inl ⟨by rfl, ?qy2mw⟩) hHeld ?qr2mw
        case qy2mw => (intro w' hSw; go_simp; try with_reducible rfl)
        try simp only [Act.put, List.setIfInBounds_toArray, List.set_cons_zero, List.set_cons_succ]
        refine wpAnyH_take (i := 3) (oi := ⟨some 93, _, _, _, _, _⟩) (v := ?qv3mw) rfl (by kernel_rfl) (by kernel_rfl) (by kernel_rfl) (fun _ _ _ h => h) (Or.inl ⟨by rfl, ?qy3mw⟩) hHeld ?qr3mw
        case qy3mw => (intro w' hSw; go_simp; try with_reducible rfl)
        try simp only [Act.put, List.setIfInBounds_toArray, List.set_cons_zero, List.set_cons_succ]
        refine wpAnyH_ready (rs := [1]) (by kernel_rfl) (by simp) ?_
        refine AllReadyH.cons (o := ⟨some 91, _, _, _, _, _⟩) rfl (fun K hK => ?_) AllReadyH.nil
        refine step_go (by rfl) 14 _ _ (by rfl) (fun _ _ => by kernel_rfl) _ (by rfl) (C1.out _ c1) ?_
        rintro e w6 ⟨u, rfl, hu, b6⟩
        refine ⟨_, rfl, ?_⟩
        have c2 := c1.trans (b6.mono c1.size)
        refine hK.out _ _ (c2) (fun hHeld => ?_)
        clear hK K
        try simp only [Act.put, List.setIfInBounds_toArray, List.set_cons_zero, List.set_cons_succ]
        refine wpAnyH_ready (rs := [4]) (by kernel_rfl) (by simp) ?_
        refine AllReadyH.cons (o := ⟨some 94, _, _, _, _, _⟩) rfl (fun K hK => ?_) AllReadyH.nil
        refine step_go (by rfl) 23 _ _ (by rfl) (fun _ _ => by kernel_rfl) _ (by rfl) (I1.out _ _ hu (G3.out _ c2)) ?_
        rintro e w7 ⟨rfl, b7⟩
        refine ⟨_, rfl, ?_⟩
        have c3 := c2.trans (b7.mono c2.size)
        refine hK.out _ _ (c3) (fun hHeld => ?_)
        clear hK K
        try simp only [Act.put, List.setIfInBounds_toArray, List.set_cons_zero, List.set_cons_succ]
        refine wpAnyH_take (i := 5) (oi := ⟨some 95, _, _, _, _, _⟩) (v := ?qv5mw) rfl (by kernel_rfl) (by kernel_rfl) (by kernel_rfl) (fun _ _ _ h => h) (Or.inl ⟨by rfl, ?qy5mw⟩) hHeld ?qr5mw
        case qy5mw => (intro w' hSw; go_simp; try with_reducible rfl)
        try simp only [Act.put, List.setIfInBounds_toArray, List.set_cons_zero, List.set_cons_succ]
        refine wpAnyH_take (i := 6) (oi := ⟨some 96, _, _, _, _, _⟩) (v := ?qv6mw) rfl (by kernel_rfl) (by kernel_rfl) (by kernel_rfl) (fun _ _ _ h => h) (Or.inl ⟨by rfl, ?qy6mw⟩) hHeld ?qr6mw
        case qy6mw => (intro w' hSw; go_simp; try with_reducible rfl)
        try simp only [Act.put, List.setIfInBounds_toArray, List.set_cons_zero, List.set_cons_succ]
        refine wpAnyH_take (i := 8) (oi := ⟨some 98, _, _, _, _, _⟩) (v := ?qv8mw) rfl (by kernel_rfl) (by kernel_rfl) (by kernel_rfl) (fun _ _ _ h => h) (Or.inl ⟨by rfl, ?qy8mw⟩) hHeld ?qr8mw
        case qy8mw => (intro w' hSw; go_simp; try with_reducible rfl)
        try simp only [Act.put, List.setIfInBounds_toArray, List.set_cons_zero, List.set_cons_succ]
        refine wpAnyH_ready (rs := [7]) (by kernel_rfl) (by simp) ?_
        refine AllReadyH.cons (o := ⟨some 97, _, _, _, _, _⟩) rfl (fun K hK => ?_) AllReadyH.nil
        refine step_go (by rfl) 16 _ _ (by rfl) (fun _ _ => by kernel_rfl) _ (by rfl) (L1.out _ c3) ?_
        rintro e w8 ⟨rfl, b8⟩
        refine ⟨_, rfl, ?_⟩
        have c4 := c3.trans (b8.mono c3.size)
        refine hK.out _ _ (c4) (fun hHeld => ?_)
        clear hK K
        try simp only [Act.put, List.setIfInBounds_toArray, List.set_cons_zero, List.set_cons_succ]
        refine wpAnyH_ready (rs := [9]) (by kernel_rfl) (by simp) ?_
        refine AllReadyH.cons (o := ⟨some 99, _, _, _, _, _⟩) rfl (fun K hK => ?_) AllReadyH.nil
        refine step_go (by rfl) 16 _ _ (by rfl) (fun _ _ => by kernel_rfl) _ (by rfl) (L2.out _ c4) ?_
        rintro e w9 ⟨rfl, b9⟩
        refine ⟨_, rfl, ?_⟩
        have c5 := c4.trans (b9.mono c4.size)
        refine hK.out _ _ (c5) (fun hHeld => ?_)
        clear hK K
        try simp only [Act.put, List.setIfInBounds_toArray, List.set_cons_zero, List.set_cons_succ]
        refine wpAnyH_take (i := 10) (oi := ⟨some 100, _, _, _, _, _⟩) (v := ?qv10mw) rfl (by kernel_rfl) (by kernel_rfl) (by kernel_rfl) (fun _ _ _ h => h) (Or.inl ⟨by rfl, ?qy10mw⟩) hHeld ?qr10mw
        case qy10mw => (intro w' hSw; go_simp; try with_reducible rfl)
        try simp only [Act.put, List.setIfInBounds_toArray, List.set_cons_zero, List.set_cons_succ]
        refine wpAnyH_take (i := 11) (oi := ⟨some 101, _, _, _, _, _⟩) (v := ?qv11mw) rfl (by kernel_rfl) (by kernel_rfl) (by kernel_rfl) (fun _ _ _ h => h) (Or.inl ⟨by rfl, ?qy11mw⟩) hHeld ?qr11mw
        case qy11mw => (intro w' hSw; go_simp; try with_reducible rfl)
        try simp only [Act.put, List.setIfInBounds_toArray, List.set_cons_zero, List.set_cons_succ]
        refine wpAnyH_take (i := 12) (oi := ⟨some 102, _, _, _, _, _⟩) (v := ?qv12mw) rfl (by kernel_rfl) (by kernel_rfl) (by kernel_rfl) (fun _ _ _ h => h) (Or.inl ⟨by rfl, ?qy12mw⟩) hHeld ?qr12mw
        case qy12mw => (intro w' hSw; go_simp; try with_reducible rfl)
        try simp only [Act.put, List.setIfInBounds_toArray, List.set_cons_zero, List.set_cons_succ]
        refine wpAnyH_take (i := 13) (oi := ⟨some 103, _, _, _, _, _⟩) (v := ?qv13mw) rfl (by kernel_rfl) (by kernel_rfl) (by kernel_rfl) (fun _ _ _ h => h) (Or.inl ⟨by rfl, ?qy13mw⟩) hHeld ?qr13mw
        case qy13mw => (intro w' hSw; go_simp; try with_reducible rfl)
        try simp only [Act.put, List.setIfInBounds_toArray, List.set_cons_zero, List.set_cons_succ]
        refine wpAnyH_take (i := 15) (oi := ⟨some 105, _, _, _, _, _⟩) (v := ?qv15mw) rfl (by kernel_rfl) (by kernel_rfl) (by kernel_rfl) (fun _ _ _ h => h) (Or.inl ⟨by rfl, ?qy15mw⟩) hHeld ?qr15mw
        case qy15mw => (intro w' hSw; go_simp; try with_reducible rfl)
        try simp only [Act.put, List.setIfInBounds_toArray, List.set_cons_zero, List.set_cons_succ]
        refine wpAnyH_ready (rs := [14]) (by kernel_rfl) (by simp) ?_
        refine AllReadyH.cons (o := ⟨some 104, _, _, _, _, _⟩) rfl (fun K hK => ?_) AllReadyH.nil
        refine step_go (by rfl) 17 _ _ (by rfl) (fun _ _ => by kernel_rfl) _ (by rfl) (T1.out _ c5) ?_
        rintro e wa ⟨rfl, ba⟩
        refine ⟨_, rfl, ?_⟩
        have c6 := c5.trans (ba.mono c5.size)
        refine hK.out _ _ (c6) (fun hHeld => ?_)
        clear hK K
        try simp only [Act.put, List.setIfInBounds_toArray, List.set_cons_zero, List.set_cons_succ]
        refine wpAnyH_ready (rs := [16]) (by kernel_rfl) (by simp) ?_
        refine AllReadyH.cons (o := ⟨some 106, _, _, _, _, _⟩) rfl (fun K hK => ?_) AllReadyH.nil
        refine step_go (by rfl) 17 _ _ (by rfl) (fun _ _ => by kernel_rfl) _ (by rfl) (T2.out _ c6) ?_
        rintro e wb ⟨rfl, bb⟩
        refine ⟨_, rfl, ?_⟩
        have c7 := c6.trans (bb.mono c6.size)
        refine hK.out _ _ (c7) (fun hHeld => ?_)
        clear hK K
        try simp only [Act.put, List.setIfInBounds_toArray, List.set_cons_zero, List.set_cons_succ]
        refine wpAnyH_take (i := 17) (oi := ⟨some 107, _, _, _, _, _⟩) (v := ?qv17mw) rfl (by kernel_rfl) (by kernel_rfl) (by kernel_rfl) (fun _ _ _ h => h) (Or.inl ⟨by rfl, ?qy17mw⟩) hHeld ?qr17mw
        case qy17mw => (intro w' hSw; go_simp; try with_reducible rfl)
        try simp only [Act.put, List.setIfInBounds_toArray, List.set_cons_zero, List.set_cons_succ]
        refine wpAnyH_take (i := 18) (oi := ⟨some 108, _, _, _, _, _⟩) (v := ?qv18mw) rfl (by kernel_rfl) (by kernel_rfl) (by kernel_rfl) (fun _ _ _ h => h) (Or.inl ⟨by rfl, ?qy18mw⟩) hHeld ?qr18mw
        case qy18mw => (intro w' hSw; go_simp; try with_reducible rfl)
        try simp only [Act.put, List.setIfInBounds_toArray, List.set_cons_zero, List.set_cons_succ]
        refine wpAnyH_take (i := 19) (oi := ⟨some 109, _, _, _, _, _⟩) (v := ?qv19mw) rfl (by kernel_rfl) (by kernel_rfl) (by kernel_rfl) (fun _ _ _ h => h) (Or.inl ⟨by rfl, ?qy19mw⟩) hHeld ?qr19mw
        case qy19mw => (intro w' hSw; go_simp; try with_reducible rfl)
        try simp only [Act.put, List.setIfInBounds_toArray, List.set_cons_zero, List.set_cons_succ]
        refine wpAnyH_take (i := 20) (oi := ⟨some 110, _, _, _, _, _⟩) (v := ?qv20mw) rfl (by kernel_rfl) (by kernel_rfl) (by kernel_rfl) (fun _ _ _ h => h) (Or.inl ⟨by rfl, ?qy20mw⟩) hHeld ?qr20mw
        case qy20mw => (intro w' hSw; obtain ⟨z0, z1, z2, z3⟩ := XS.out w' hSw; go_simp; try with_reducible rfl)
        try simp only [Act.put, List.setIfInBounds_toArray, List.set_cons_zero, List.set_cons_succ]
        refine wpAnyH_ready (rs := [21]) (by kernel_rfl) (by simp) ?_
        refine AllReadyH.cons (o := ⟨some 111, _, _, _, _, _⟩) rfl (fun K hK => ?_) AllReadyH.nil
        refine step_go (by rfl) 19 _ _ (by rfl) (fun _ _ => by kernel_rfl) _ (by rfl) (PQ.out _) ?_
        rintro e wc ⟨rfl, bc⟩
        refine ⟨_, rfl, ?_⟩
        have c8 := c7.trans (bc.mono c7.size)
        refine hK.out _ _ (c8) (fun hHeld => ?_)
        clear hK K
        try simp only [Act.put, List.setIfInBounds_toArray, List.set_cons_zero, List.set_cons_succ]
        refine wpAnyH_take (i := 22) (oi := ⟨some 112, _, _, _, _, _⟩) (v := ?qv22mw) rfl (by kernel_rfl) (by kernel_rfl) (by kernel_rfl) (fun _ _ _ h => h) (Or.inl ⟨by rfl, ?qy22mw⟩) hHeld ?qr22mw
        case qy22mw => (intro w' hSw; go_simp; try with_reducible rfl)
        try simp only [Act.put, List.setIfInBounds_toArray, List.set_cons_zero, List.set_cons_succ]
        refine wpAnyH_take (i := 23) (oi := ⟨some 113, _, _, _, _, _⟩) (v := ?qv23mw) rfl (by kernel_rfl) (by kernel_rfl) (by kernel_rfl) (fun _ _ _ h => h) (Or.inl ⟨by rfl, ?qy23mw⟩) hHeld ?qr23mw
        case qy23mw => (intro w' hSw; go_simp; try with_reducible rfl)
        try simp only [Act.put, List.setIfInBounds_toArray, List.set_cons_zero, List.set_cons_succ]
        refine wpAnyH_take (i := 24) (oi := ⟨some 114, _, _, _, _, _⟩) (v := undef) rfl (by kernel_rfl) (by kernel_rfl) (by kernel_rfl) (fun _ _ _ h => h) (Or.inr ⟨by rfl, rfl⟩) hHeld ?_
        try simp only [Act.put, List.setIfInBounds_toArray, List.set_cons_zero, List.set_cons_succ]
        refine wpAnyH_take (i := 25) (oi := ⟨some 115, _, _, _, _, _⟩) (v := undef) rfl (by kernel_rfl) (by kernel_rfl) (by kernel_rfl) (fun _ _ _ h => h) (Or.inr ⟨by rfl, rfl⟩) hHeld ?_
        try simp only [Act.put, List.setIfInBounds_toArray, List.set_cons_zero, List.set_cons_succ]
        refine wpAnyH_take (i := 26) (oi := ⟨some 116, _, _, _, _, _⟩) (v := undef) rfl (by kernel_rfl) (by kernel_rfl) (by kernel_rfl) (fun _ _ _ h => h) (Or.inr ⟨by rfl, rfl⟩) hHeld ?_
        try simp only [Act.put, List.setIfInBounds_toArray, List.set_cons_zero, List.set_cons_succ]
        refine wpAnyH_take (i := 27) (oi := ⟨some 117, _, _, _, _, _⟩) (v := undef) rfl (by kernel_rfl) (by kernel_rfl) (by kernel_rfl) (fun _ _ _ h => h) (Or.inr ⟨by rfl, rfl⟩) hHeld ?_
        try simp only [Act.put, List.setIfInBounds_toArray, List.set_cons_zero, List.set_cons_succ]
        refine wpAnyH_take (i := 28) (oi := ⟨some 118, _, _, _, _, _⟩) (v := undef) rfl (by kernel_rfl) (by kernel_rfl) (by kernel_rfl) (fun _ _ _ h => h) (Or.inr ⟨by rfl, rfl⟩) hHeld ?_
        try simp only [Act.put, List.setIfInBounds_toArray, List.set_cons_zero, List.set_cons_succ]
        refine wpAnyH_take (i := 29) (oi := ⟨some 119, _, _, _, _, _⟩) (v := undef) rfl (by kernel_rfl) (by kernel_rfl) (by kernel_rfl) (fun _ _ _ h => h) (Or.inr ⟨by rfl, rfl⟩) hHeld ?_
        try simp only [Act.put, List.setIfInBounds_toArray, List.set_cons_zero, List.set_cons_succ]
        refine wpAnyH_take (i := 30) (oi := ⟨some 120, _, _, _, _, _⟩) (v := undef) rfl (by kernel_rfl) (by kernel_rfl) (by kernel_rfl) (fun _ _ _ h => h) (Or.inr ⟨by rfl, rfl⟩) hHeld ?_
        try simp only [Act.put, List.setIfInBounds_toArray, List.set_cons_zero, List.set_cons_succ]
        refine wpAnyH_take (i := 31) (oi := ⟨some 121, _, _, _, _, _⟩) (v := ?qv31mw) rfl (by kernel_rfl) (by kernel_rfl) (by kernel_rfl) (fun _ _ _ h => h) (Or.inl ⟨by rfl, ?qy31mw⟩) hHeld ?qr31mw
        case qy31mw => (intro w' hSw; go_simp; try with_reducible rfl)
        try simp only [Act.put, List.setIfInBounds_toArray, List.set_cons_zero, List.set_cons_succ]
        refine wpAnyH_take (i := 32) (oi := ⟨some 122, _, _, _, _, _⟩) (v := ?qv32mw) rfl (by kernel_rfl) (by kernel_rfl) (by kernel_rfl) (fun _ _ _ h => h) (Or.inl ⟨by rfl, ?qy32mw⟩) hHeld ?qr32mw
        case qy32mw => (intro w' hSw; go_simp; try with_reducible rfl)
        try simp only [Act.put, List.setIfInBounds_toArray, List.set_cons_zero, List.set_cons_succ]
        refine wpAnyH_take (i := 33) (oi := ⟨some 123, _, _, _, _, _⟩) (v := ?qv33mw) rfl (by kernel_rfl) (by kernel_rfl) (by kernel_rfl) (fun _ _ _ h => h) (Or.inl ⟨by rfl, ?qy33mw⟩) hHeld ?qr33mw
        case qy33mw => (intro w' hSw; go_simp; try with_reducible rfl)
        try simp only [Act.put, List.setIfInBounds_toArray, List.set_cons_zero, List.set_cons_succ]
        refine wpAnyH_ready (rs := [34]) (by kernel_rfl) (by simp) ?_
        refine AllReadyH.cons (o := ⟨some 124, _, _, _, _, _⟩) rfl (fun K hK => ?_) AllReadyH.nil
        refine step_go (by rfl) 11 _ _ (by rfl) (fun _ _ => by kernel_rfl) _ (by rfl) (awake5_any _ (G3.out _ c8)) ?_
        rintro e wf ⟨rfl, bf⟩
        refine ⟨_, rfl, ?_⟩
        have cb := c8.trans (bf.mono c8.size)
        refine hK.out _ _ (cb) (fun hHeld => ?_)
        clear hK K
        try simp only [Act.put, List.setIfInBounds_toArray, List.set_cons_zero, List.set_cons_succ]
        refine wpAnyH_take (i := 35) (oi := ⟨some 125, _, _, _, _, _⟩) (v := ?qv35mw) rfl (by kernel_rfl) (by kernel_rfl) (by kernel_rfl) (fun _ _ _ h => h) (Or.inl ⟨by rfl, ?qy35mw⟩) hHeld ?qr35mw
        case qy35mw => (intro w' hSw; go_simp; try with_reducible rfl)
        try simp only [Act.put, List.setIfInBounds_toArray, List.set_cons_zero, List.set_cons_succ]
        refine wpAnyH_take (i := 36) (oi := ⟨some 8, _, _, _, _, _⟩) (v := ?qv36mw) rfl (by kernel_rfl) (by kernel_rfl) (by kernel_rfl) (fun _ _ _ h => h) (Or.inl ⟨by rfl, ?qy36mw⟩) hHeld ?qr36mw
        case qy36mw => (intro w' hSw; go_simp; try with_reducible rfl)
        try simp only [Act.put, List.setIfInBounds_toArray, List.set_cons_zero, List.set_cons_succ]
        refine wpAnyH_done (by kernel_rfl) ?_ _
        refine NoPanic.normal ?_
        go_wp2_with fail
        go_ret
        exact ⟨rfl, BW.trans (cb.mono BW.size)⟩

set_option maxRecDepth 100000 in
theorem ringMoves_calls {H : Type} {enc : TypeId × Value → H} {W : World} {base : Nat} {v0 v1 v2 v3 : Value} {d0 d1 d2 d3 : DataW H} {p0 p1 p2 p3 : List MemPlace} (hg : ErrT W)
    (o0 : Value.okWide Tryd.prog W .any base 22 v0) (h0 : DataW.Trod enc Tryd.prog W 0 (fun _ => true) true 22 v0 d0 p0)
    (o1 : Value.okWide Tryd.prog W .any base 24 v1) (h1 : DataW.Trod enc Tryd.prog W 0 (fun _ => true) true 24 v1 d1 p1)
    (o2 : Value.okWide Tryd.prog W .any base 3 v2) (h2 : DataW.Trod enc Tryd.prog W 0 (fun _ => true) true 3 v2 d2 p2)
    (o3 : Value.okWide Tryd.prog W .any base 3 v3) (h3 : DataW.Trod enc Tryd.prog W 0 (fun _ => true) true 3 v3 d3 p3) :
    Calls Tryd.prog 6 #[v0, v1, v2, v3] W fun e w' => e = .returned (.bool true) ∧ Below W.heap.size W w' := by
  obtain ⟨l, hl, _⟩ := view_pts o0 h0
  obtain ⟨a, b, rfl, _, _⟩ := view_pt o1 h1
  obtain ⟨x, rfl, rfl, rfl, hx⟩ := open_int Tryd.underlying3 o2 h2
  obtain ⟨y, rfl, rfl, rfl, hy⟩ := open_int Tryd.underlying3 o3 h3
  by_cases h : l.length ≤ 80 ∧ -2147483648 ≤ x ∧ x ≤ 2147483648 ∧ -2147483648 ≤ y ∧ y ≤ 2147483648 ∧ inP a b
  · exact moves_in v0 l a b x y W hl hg h.1 h.2.1 h.2.2.1 h.2.2.2.1 h.2.2.2.2.1 h.2.2.2.2.2
  · exact moves_out v0 l a b x y W hl hg h
end Go.Proofs.YtpmngdgifdkohaaDoor
