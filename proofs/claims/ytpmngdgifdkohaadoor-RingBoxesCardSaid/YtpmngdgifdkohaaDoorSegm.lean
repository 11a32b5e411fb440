/- plane.CheckBox, boxes, Has; segm.may, span. -/
import Derived.Test.YtpmngdgifdkohaaDoorPlaneAny
namespace Go.Proofs.YtpmngdgifdkohaaDoor
open Go.RowKit

theorem ckBox_ok (a b c d : Int) (w : World) (h1 : inP a b) (h2 : inP c d) (h3 : a ≤ c) (h4 : b ≤ d) : Calls Tryd.prog 66 #[.agg #[.int .i64 a, .int .i64 b, .int .i64 c, .int .i64 d]] w (ErRet w .none) := by
  have M := Lib.hid (fun g w h => may_any (.slice (some ⟨g, 0, none⟩) 2 2) [(a, b), (c, d)] w h)
  have e0 : allP [(a, b), (c, d)] = true := by simp [allP, okP, h1, h2]
  rw [e0] at M
  clear e0
  have B0 : Below w.heap.size w ((w.alloc (.cells #[.int .i64 a, .int .i64 b, .int .i64 c, .int .i64 d] 39)).alloc (.cells #[.int .i64 a, .int .i64 b, .int .i64 c, .int .i64 d] 24)) := ((Below.refl _ _).alloc (Nat.le_refl _) _).alloc (by simp) _
  have Q0 := Lib.hid ((quad_alloc w a b c d 39 w.heap.size rfl).alloc (.cells #[.int .i64 a, .int .i64 b, .int .i64 c, .int .i64 d] 24))
  have t1 : decide (c < a) = false := by simp; omega
  have t2 : decide (d < b) = false := by simp; omega
  clear h1 h2
  go_enter Tryd.func66, Tryd.ntmps66
  go_wp2_with fail
  refine (M.out _ _ (pts2 _ _ _ (by simp) _ _ _ _)).mono ?_
  rintro e w1 ⟨rfl, b1⟩
  obtain ⟨y0, y1, y2, y3⟩ := Q0.out.below b1
  go_wp2_with fail
  go_ret
  exact ⟨_, rfl, rfl, B0.trans (b1.mono B0.size)⟩

theorem boxes1 (g : Nat) (a b c d : Int) (w : World) (q : Quad w g a b c d) (h1 : inP a b) (h2 : inP c d) (h3 : a ≤ c) (h4 : b ≤ d) :
    Calls Tryd.prog 80 #[.slice (some ⟨g, 0, none⟩) 1 1] w fun e w' => e = .returned (.bool true) ∧ Below w.heap.size w w' := by
  have C := Lib.hid (fun w => ckBox_ok a b c d w h1 h2 h3 h4)
  have hb := World.block_lt_of_cell? w ⟨g, 0, none⟩ q.c0
  obtain ⟨y0, y1, y2, y3⟩ := q
  clear h1 h2
  go_enter Tryd.func80, Tryd.ntmps80
  go_wp2_with fail
  refine wp_loop_rounds 2 ?_
  rw [rounds_succ]
  go_wp2_with fail
  refine (C.out _).mono ?_
  rintro e w1 ⟨u, rfl, rfl, b1⟩
  go_wp2_with fail
  rw [rounds_succ]
  go_wp2_with fail
  go_ret
  exact ⟨rfl, ((Below.refl _ _).alloc (Nat.le_refl _) _).trans (b1.mono (by simp))⟩

theorem Has_ok (a b c d x y : Int) (w : World) (h1 : inP a b) (h2 : inP c d) (h3 : a ≤ c) (h4 : b ≤ d) (hp : inP x y) :
    Calls Tryd.prog 72 #[.agg #[.int .i64 a, .int .i64 b, .int .i64 c, .int .i64 d], .agg #[.int .i64 x, .int .i64 y]] w fun e w' => e = .returned (.bool (decide (a ≤ x ∧ x ≤ c ∧ b ≤ y ∧ y ≤ d))) ∧ Below w.heap.size w w' := by
  have BX := Lib.hid (fun g w q => boxes1 g a b c d w q h1 h2 h3 h4)
  have M := Lib.hid (fun g w h => may_any (.slice (some ⟨g, 0, none⟩) 1 1) [(x, y)] w h)
  have e0 : allP [(x, y)] = true := by simp [allP, okP, hp]
  rw [e0] at M
  clear e0 h1 h2 hp
  have B0 : Below w.heap.size w (((w.alloc (.cells #[.int .i64 a, .int .i64 b, .int .i64 c, .int .i64 d] 39)).alloc (.cells #[.int .i64 x, .int .i64 y] 24)).alloc (.cells #[.int .i64 a, .int .i64 b, .int .i64 c, .int .i64 d] 39)) := (((Below.refl _ _).alloc (Nat.le_refl _) _).alloc (by simp) _).alloc (by simp; omega) _
  have Q0 := Lib.hid (((quad_alloc w a b c d 39 w.heap.size rfl).alloc (.cells #[.int .i64 x, .int .i64 y] 24)).alloc (.cells #[.int .i64 a, .int .i64 b, .int .i64 c, .int .i64 d] 39))
  have P0 := Lib.hid ((pair_alloc (w.alloc (.cells #[.int .i64 a, .int .i64 b, .int .i64 c, .int .i64 d] 39)) x y 24 (w.heap.size + 1) (by simp)).alloc (.cells #[.int .i64 a, .int .i64 b, .int .i64 c, .int .i64 d] 39))
  have HH : ∀ q, decide (a ≤ x ∧ x ≤ c ∧ b ≤ y ∧ y ≤ d) = q → Calls Tryd.prog 72 #[.agg #[.int .i64 a, .int .i64 b, .int .i64 c, .int .i64 d], .agg #[.int .i64 x, .int .i64 y]] w fun e w' => e = .returned (.bool q) ∧ Below w.heap.size w w' := by
    intro q hq
    by_cases c1 : a ≤ x
    · have t1 := decide_eq_true c1
      by_cases c2 : x ≤ c
      · have t2 := decide_eq_true c2
        by_cases c3 : b ≤ y
        · have t3 := decide_eq_true c3
          by_cases c4 : y ≤ d
          · have t4 := decide_eq_true c4
            obtain rfl : q = true := by rw [← hq]; simp [*]
            clear hq
            go_enter Tryd.func72, Tryd.ntmps72
            go_wp2_with fail
            refine (BX.out _ _ (quad_alloc _ _ _ _ _ _ _ (by simp))).mono ?_
            rintro e w1 ⟨rfl, b1⟩
            obtain ⟨z0, z1⟩ := P0.out.below b1
            have hz := World.block_lt_of_cell? w1 ⟨w.heap.size + 1, 0, none⟩ z0
            go_wp2_with fail
            refine (M.out _ _ (pts1 _ _ _ (by simp) _ _)).mono ?_
            rintro e w2 ⟨rfl, b2⟩
            have b1a := b1.alloc b1.size (.cells #[.int .i64 x, .int .i64 y] 24)
            have b12 := b1a.trans (b2.mono b1a.size)
            clear z0 z1
            obtain ⟨z0, z1⟩ := P0.out.below b12
            obtain ⟨y0, y1, y2, y3⟩ := Q0.out.below b12
            go_wp2_with fail
            go_ret
            exact ⟨rfl, B0.trans (b12.mono B0.size)⟩
          · have t4 := decide_eq_false c4
            obtain rfl : q = false := by rw [← hq]; simp [*]
            clear hq
            go_enter Tryd.func72, Tryd.ntmps72
            go_wp2_with fail
            refine (BX.out _ _ (quad_alloc _ _ _ _ _ _ _ (by simp))).mono ?_
            rintro e w1 ⟨rfl, b1⟩
            obtain ⟨z0, z1⟩ := P0.out.below b1
            have hz := World.block_lt_of_cell? w1 ⟨w.heap.size + 1, 0, none⟩ z0
            go_wp2_with fail
            refine (M.out _ _ (pts1 _ _ _ (by simp) _ _)).mono ?_
            rintro e w2 ⟨rfl, b2⟩
            have b1a := b1.alloc b1.size (.cells #[.int .i64 x, .int .i64 y] 24)
            have b12 := b1a.trans (b2.mono b1a.size)
            clear z0 z1
            obtain ⟨z0, z1⟩ := P0.out.below b12
            obtain ⟨y0, y1, y2, y3⟩ := Q0.out.below b12
            go_wp2_with fail
            go_ret
            exact ⟨rfl, B0.trans (b12.mono B0.size)⟩
        · have t3 := decide_eq_false c3
          obtain rfl : q = false := by rw [← hq]; simp [*]
          clear hq
          go_enter Tryd.func72, Tryd.ntmps72
          go_wp2_with fail
          refine (BX.out _ _ (quad_alloc _ _ _ _ _ _ _ (by simp))).mono ?_
          rintro e w1 ⟨rfl, b1⟩
          obtain ⟨z0, z1⟩ := P0.out.below b1
          have hz := World.block_lt_of_cell? w1 ⟨w.heap.size + 1, 0, none⟩ z0
          go_wp2_with fail
          refine (M.out _ _ (pts1 _ _ _ (by simp) _ _)).mono ?_
          rintro e w2 ⟨rfl, b2⟩
          have b1a := b1.alloc b1.size (.cells #[.int .i64 x, .int .i64 y] 24)
          have b12 := b1a.trans (b2.mono b1a.size)
          clear z0 z1
          obtain ⟨z0, z1⟩ := P0.out.below b12
          obtain ⟨y0, y1, y2, y3⟩ := Q0.out.below b12
          go_wp2_with fail
          go_ret
          exact ⟨rfl, B0.trans (b12.mono B0.size)⟩
      · have t2 := decide_eq_false c2
        obtain rfl : q = false := by rw [← hq]; simp [*]
        clear hq
        go_enter Tryd.func72, Tryd.ntmps72
        go_wp2_with fail
        refine (BX.out _ _ (quad_alloc _ _ _ _ _ _ _ (by simp))).mono ?_
        rintro e w1 ⟨rfl, b1⟩
        obtain ⟨z0, z1⟩ := P0.out.below b1
        have hz := World.block_lt_of_cell? w1 ⟨w.heap.size + 1, 0, none⟩ z0
        go_wp2_with fail
        refine (M.out _ _ (pts1 _ _ _ (by simp) _ _)).mono ?_
        rintro e w2 ⟨rfl, b2⟩
        have b1a := b1.alloc b1.size (.cells #[.int .i64 x, .int .i64 y] 24)
        have b12 := b1a.trans (b2.mono b1a.size)
        clear z0 z1
        obtain ⟨z0, z1⟩ := P0.out.below b12
        obtain ⟨y0, y1, y2, y3⟩ := Q0.out.below b12
        go_wp2_with fail
        go_ret
        exact ⟨rfl, B0.trans (b12.mono B0.size)⟩
    · have t1 := decide_eq_false c1
      obtain rfl : q = false := by rw [← hq]; simp [*]
      clear hq
      go_enter Tryd.func72, Tryd.ntmps72
      go_wp2_with fail
      refine (BX.out _ _ (quad_alloc _ _ _ _ _ _ _ (by simp))).mono ?_
      rintro e w1 ⟨rfl, b1⟩
      obtain ⟨z0, z1⟩ := P0.out.below b1
      have hz := World.block_lt_of_cell? w1 ⟨w.heap.size + 1, 0, none⟩ z0
      go_wp2_with fail
      refine (M.out _ _ (pts1 _ _ _ (by simp) _ _)).mono ?_
      rintro e w2 ⟨rfl, b2⟩
      have b1a := b1.alloc b1.size (.cells #[.int .i64 x, .int .i64 y] 24)
      have b12 := b1a.trans (b2.mono b1a.size)
      clear z0 z1
      obtain ⟨z0, z1⟩ := P0.out.below b12
      obtain ⟨y0, y1, y2, y3⟩ := Q0.out.below b12
      go_wp2_with fail
      go_ret
      exact ⟨rfl, B0.trans (b12.mono B0.size)⟩
  exact HH _ rfl

theorem span_any (ax ay bx bz : Int) (w : World) : Calls Tryd.prog 73 #[.agg #[.int .i64 ax, .int .i64 ay], .agg #[.int .i64 bx, .int .i64 bz]] w fun e w' => e = .returned (.agg #[.int .i64 (min ax bx), .int .i64 (min ay bz), .int .i64 (max ax bx), .int .i64 (max ay bz)]) ∧ Below w.heap.size w w' := by
  go_enter Tryd.func73, Tryd.ntmps73
  go_wp2_with fail
  all_goals
    refine bodyPost_ret (v := .agg #[.int .i64 (min ax bx), .int .i64 (min ay bz), .int .i64 (max ax bx), .int .i64 (max ay bz)]) ?_ rfl ⟨rfl, (((Below.refl _ _).alloc (Nat.le_refl _) _).alloc (by simp) _).alloc (by simp; omega) _⟩
    simp [results, Tryd.results73, go_sem]
    try omega

theorem segmMay_any (v : Value) (l : List (Int × Int)) (w : World) (hv : Pts w v l) :
    Calls Tryd.prog 71 #[v] w fun e w' => e = .returned (.bool (allP l)) ∧ Below w.heap.size w w' := by
  obtain ⟨ao, c, rfl, h1, h2, h0, h3⟩ := hv.open
  unfold maxLen at h2
  have H3 := Lib.hid h3
  clear h0 h3 hv
  go_enter Tryd.func71, Tryd.ntmps71
  go_wp2_with fail
  go_loopw [7] (fun i wr => ∃ k : Nat, k ≤ l.length ∧ i = .int .i64 k ∧ Hid (allP (l.take k) = true) ∧ Below w.heap.size w wr) (fun i _ => l.length - (intOf i).toNat)
  case atStart => exact ⟨0, Nat.zero_le _, rfl, Lib.hid rfl, Below.refl _ _⟩
  case round =>
    obtain ⟨k, hk, rfl, ha, hb⟩ := hrel
    have hs := hb.size
    by_cases hlt : k < l.length
    · obtain ⟨g, off, rfl, hg, hx, hy⟩ := H3.out k hlt
      have hx' := (hb.cell (p := ⟨g, off + k * 2, none⟩) hg).trans hx
      have hy' := (hb.cell (p := ⟨g, off + k * 2 + 1, none⟩) hg).trans hy
      have HS := Lib.hid (allP_snoc l k hlt)
      have HF := Lib.hid (allP_false l k hlt)
      clear hx hy
      generalize l[k] = p at *
      obtain ⟨x, y⟩ := p
      simp only at hx' hy'
      have i0 : (0 : Int) ≤ (k : Int) := by omega
      have i1 : (k : Int) < (l.length : Int) := by omega
      have hb1 := hb.alloc hs (.cells #[.int .i64 x, .int .i64 y] 24)
      have C := Lib.hid (fun w => ckPoint_any x y w)
      cases hq : okP (x, y) with
      | true =>
        rw [hq] at C
        have HA := Lib.hid (show allP (l.take (k + 1)) = true by rw [HS.out, ha.out, hq]; rfl)
        clear hq ha
        go_wp2_with fail
        refine (C.out _).mono ?_
        rintro e w1 ⟨u, rfl, rfl, b1⟩
        have hb2 := hb1.trans (b1.mono hb1.size)
        go_wp2_with fail
        go_roundw
        case rel => exact ⟨k + 1, by omega, by go_num, HA, hb2⟩
        case measure => simp [intOf]; omega
      | false =>
        rw [hq] at C
        have HN := Lib.hid (HF.out hq)
        clear hq ha
        go_wp2_with fail
        refine (C.out _).mono ?_
        rintro e w1 ⟨u, rfl, rfl, b1⟩
        have hb2 := hb1.trans (b1.mono hb1.size)
        go_wp2_with fail
        go_ret
        exact ⟨by rw [HN.out]; rfl, hb2⟩
    · have HN := Lib.hid (show allP l = true by have := ha.out; rwa [List.take_of_length_le (by omega)] at this)
      have t1 : decide ((k : Int) < (l.length : Int)) = false := by simp; omega
      clear ha
      go_wp2_with fail
      go_ret
      exact ⟨by rw [HN.out]; rfl, hb⟩
end Go.Proofs.YtpmngdgifdkohaaDoor
