/- pergolaref3.Check, Bounds, pergolaref14.ItemKey: of any object. -/
import Derived.Test.YtoggbmfjjenbaaaGreatDoorTw33
set_option linter.unusedSimpArgs false
set_option linter.unusedVariables false
namespace Go.Proofs.YtoggbmfjjenbaaaGreatDoor
open Go.RowKit

set_option maxRecDepth 100000 in
theorem refChk_any (kind : Int) (v : Value) (l : List Pt) (w : World) (hv : Pts w v l) :
    Calls Tryz.prog 47 #[.agg #[.int .i64 kind, v]] w fun e w' => e = .returned (.int .i64 (objCode kind l)) ∧ Below w.heap.size w w' := by
  have hv0 := hv
  obtain ⟨ao, c, rfl, h1, h2, h0, h3⟩ := hv.open
  have B0 : Below w.heap.size w (w.alloc (.cells #[.int .i64 kind, .slice ao l.length c] 39)) := (Below.refl _ _).alloc (Nat.le_refl _) _
  unfold maxLen at h2
  by_cases h4 : kind = 4
  · subst h4
    rw [objCode_4]
    have CR := Lib.hid (CheckR_any _ l _ (hv0.below B0))
    generalize ringRes l = rr at *
    obtain ⟨r1, r2⟩ := rr
    clear hv hv0 h3
    go_enter Tryz.func47, Tryz.ntmps47
    go_wp2_with fail
    refine CR.out.mono ?_
    rintro e w1 ⟨rfl, b1⟩
    have B1 := B0.trans (b1.mono B0.size)
    go_wp2_with fail
    go_ret
    exact ⟨rfl, B1⟩
  · by_cases h3' : kind = 3
    · subst h3'
      rw [objCode_3]
      by_cases hl : l.length = 2
      · rw [if_neg (by omega)]
        obtain ⟨⟨x, y⟩, ⟨x2, y2⟩, rfl⟩ : ∃ a b, l = [a, b] := by
          match l, hl with
          | [a, b], _ => exact ⟨a, b, rfl⟩
        obtain ⟨b, off, rfl, hb, hc0, hc1⟩ := h3 0 (by simp)
        obtain ⟨b', off', e', hb', hd0, hd1⟩ := h3 1 (by simp)
        simp only [Option.some.injEq, Addr.mk.injEq, and_true] at e'
        obtain ⟨rfl, rfl⟩ := e'
        simp only [Nat.zero_mul, Nat.add_zero, List.getElem_cons_zero, List.getElem_cons_succ, Nat.one_mul] at hc0 hc1 hd0 hd1
        have CB := Lib.hid (fun w => CheckBoxR_any x y x2 y2 w)
        simp only [List.length_cons, List.length_nil, Nat.zero_add, Nat.reduceAdd] at h1 B0 ⊢
        rw [show pt [(x, y), (x2, y2)] 0 = (x, y) from rfl, show pt [(x, y), (x2, y2)] 1 = (x2, y2) from rfl]
        generalize boxCode x y x2 y2 = K at *
        have hc0' := (B0.cell (p := ⟨b, off, none⟩) hb).trans hc0
        have hc1' := (B0.cell (p := ⟨b, off + 1, none⟩) hb).trans hc1
        have hd0' := (B0.cell (p := ⟨b, off + 2, none⟩) hb).trans hd0
        have hd1' := (B0.cell (p := ⟨b, off + 2 + 1, none⟩) hb).trans hd1
        have HC := Lib.hid (And.intro hc0 (And.intro hc1 (And.intro hd0 hd1)))
        clear hv hv0 h3 h0 hl hc0 hc1 hd0 hd1 h4
        go_enter Tryz.func47, Tryz.ntmps47
        go_upto_region 15 with fail
        refine wp_region_noPanic ?_
        refine wp_region_held_drew (S := fun w' => Below w.heap.size w w') (by kernel_rfl) B0.drew (fun hHeld => ?_)
        generalize (w.alloc (.cells #[.int .i64 3, .slice (some ⟨b, off, none⟩) 2 c] 39)).drew = D at hHeld ⊢
        have kb : Below w.heap.size w D := hHeld
        refine wpAnyH_take (i := 0) (oi := ⟨some 40, _, _, _, _, _⟩) (v := ?qv0rc) rfl (by kernel_rfl) (by kernel_rfl) (by kernel_rfl) (fun _ _ _ h => h) (Or.inl ⟨by rfl, ?qy0rc⟩) hHeld ?qr0rc
        case qy0rc => (intro w' hSw; go_simp; try with_reducible rfl)
        try simp only [Act.put, List.setIfInBounds_toArray, List.set_cons_zero, List.set_cons_succ]
        refine wpAnyH_take (i := 1) (oi := ⟨some 41, _, _, _, _, _⟩) (v := ?qv1rc) rfl (by kernel_rfl) (by kernel_rfl) (by kernel_rfl) (fun _ _ _ h => h) (Or.inl ⟨by rfl, ?qy1rc⟩) hHeld ?qr1rc
        case qy1rc => (intro w' hSw; go_simp; try with_reducible rfl)
        try simp only [Act.put, List.setIfInBounds_toArray, List.set_cons_zero, List.set_cons_succ]
        refine wpAnyH_take (i := 2) (oi := ⟨some 42, _, _, _, _, _⟩) (v := ?qv2rc) rfl (by kernel_rfl) (by kernel_rfl) (by kernel_rfl) (fun _ _ _ h => h) (Or.inl ⟨by rfl, ?qy2rc⟩) hHeld ?qr2rc
        case qy2rc => (intro w' hSw; have q0 := (hSw.cell (p := ⟨b, off, none⟩) hb).trans HC.out.1; have q1 := (hSw.cell (p := ⟨b, off + 1, none⟩) hb).trans HC.out.2.1; have q2 := (hSw.cell (p := ⟨b, off + 2, none⟩) hb).trans HC.out.2.2.1; have q3 := (hSw.cell (p := ⟨b, off + 2 + 1, none⟩) hb).trans HC.out.2.2.2; go_simp; try with_reducible rfl)
        try simp only [Act.put, List.setIfInBounds_toArray, List.set_cons_zero, List.set_cons_succ]
        refine wpAnyH_take (i := 3) (oi := ⟨some 43, _, _, _, _, _⟩) (v := ?qv3rc) rfl (by kernel_rfl) (by kernel_rfl) (by kernel_rfl) (fun _ _ _ h => h) (Or.inl ⟨by rfl, ?qy3rc⟩) hHeld ?qr3rc
        case qy3rc => (intro w' hSw; go_simp; try with_reducible rfl)
        try simp only [Act.put, List.setIfInBounds_toArray, List.set_cons_zero, List.set_cons_succ]
        refine wpAnyH_take (i := 4) (oi := ⟨some 44, _, _, _, _, _⟩) (v := ?qv4rc) rfl (by kernel_rfl) (by kernel_rfl) (by kernel_rfl) (fun _ _ _ h => h) (Or.inl ⟨by rfl, ?qy4rc⟩) hHeld ?qr4rc
        case qy4rc => (intro w' hSw; go_simp; try with_reducible rfl)
        try simp only [Act.put, List.setIfInBounds_toArray, List.set_cons_zero, List.set_cons_succ]
        refine wpAnyH_take (i := 5) (oi := ⟨some 45, _, _, _, _, _⟩) (v := ?qv5rc) rfl (by kernel_rfl) (by kernel_rfl) (by kernel_rfl) (fun _ _ _ h => h) (Or.inl ⟨by rfl, ?qy5rc⟩) hHeld ?qr5rc
        case qy5rc => (intro w' hSw; have q0 := (hSw.cell (p := ⟨b, off, none⟩) hb).trans HC.out.1; have q1 := (hSw.cell (p := ⟨b, off + 1, none⟩) hb).trans HC.out.2.1; have q2 := (hSw.cell (p := ⟨b, off + 2, none⟩) hb).trans HC.out.2.2.1; have q3 := (hSw.cell (p := ⟨b, off + 2 + 1, none⟩) hb).trans HC.out.2.2.2; go_simp; try with_reducible rfl)
        try simp only [Act.put, List.setIfInBounds_toArray, List.set_cons_zero, List.set_cons_succ]
        refine wpAnyH_take (i := 6) (oi := ⟨some 46, _, _, _, _, _⟩) (v := ?qv6rc) rfl (by kernel_rfl) (by kernel_rfl) (by kernel_rfl) (fun _ _ _ h => h) (Or.inl ⟨by rfl, ?qy6rc⟩) hHeld ?qr6rc
        case qy6rc => (intro w' hSw; go_simp; try with_reducible rfl)
        try simp only [Act.put, List.setIfInBounds_toArray, List.set_cons_zero, List.set_cons_succ]
        refine wpAnyH_ready (rs := [7]) (by kernel_rfl) (by simp) ?_
        refine AllReadyH.cons (o := ⟨some 47, _, _, _, _, _⟩) rfl (fun K hK => ?_) AllReadyH.nil
        refine step_go (by rfl) 49 _ _ (by rfl) (fun _ _ => by kernel_rfl) _ (by rfl) (CB.out _) ?_
        rintro e w4 ⟨rfl, b4⟩
        refine ⟨_, rfl, ?_⟩
        refine hK.out _ _ (kb.trans (b4.mono kb.size)) (fun hHeld => ?_)
        clear hK K
        try simp only [Act.put, List.setIfInBounds_toArray, List.set_cons_zero, List.set_cons_succ]
        refine wpAnyH_take (i := 8) (oi := ⟨some 2, _, _, _, _, _⟩) (v := ?qv8rc) rfl (by kernel_rfl) (by kernel_rfl) (by kernel_rfl) (fun _ _ _ h => h) (Or.inl ⟨by rfl, ?qy8rc⟩) hHeld ?qr8rc
        case qy8rc => (intro w' hSw; go_simp; try with_reducible rfl)
        try simp only [Act.put, List.setIfInBounds_toArray, List.set_cons_zero, List.set_cons_succ]
        refine wpAnyH_done (by kernel_rfl) ?_ _
        refine NoPanic.normal ?_
        have B5 : Below w.heap.size w w4 := hHeld
        clear hHeld kb b4
        go_wp2_with fail
        go_ret
        exact ⟨rfl, B5⟩
      · rw [if_pos hl]
        have t1 : ((l.length : Int) != 2) = true := by simp; omega
        clear hv hv0 h3 h0 hl h4
        go_enter Tryz.func47, Tryz.ntmps47
        go_wp2_with fail
        go_ret
        exact ⟨rfl, B0⟩
    · by_cases h12 : kind = 1 ∨ kind = 2
      · by_cases hl : l.length = 1
        · obtain ⟨⟨x, y⟩, rfl⟩ : ∃ a, l = [a] := by
            match l, hl with
            | [a], _ => exact ⟨a, rfl⟩
          obtain ⟨b, off, rfl, hb, hc0, hc1⟩ := h3 0 (by simp)
          simp only [Nat.zero_mul, Nat.add_zero, List.getElem_cons_zero] at hc0 hc1
          simp only [List.length_cons, List.length_nil, Nat.zero_add] at h1 B0 ⊢
          have e0 := (B0.cell (p := ⟨b, off, none⟩) hb).trans hc0
          have e1 := (B0.cell (p := ⟨b, off + 1, none⟩) hb).trans hc1
          have HC := Lib.hid (And.intro hc0 hc1)
          have PT := Lib.hid (fun w => Point_any x y w)
          have hok : okP (pt [(x, y)] 0) = decide (inP x y) := rfl
          cases hin : decide (inP x y) with
          | false =>
            have hcode : objCode kind [(x, y)] = 2 := by
              unfold objCode
              rw [if_pos h12, if_neg (by simp), if_pos (hok.trans hin)]
            rw [hcode]
            rw [hin] at PT
            clear hv hv0 h3 h0 hl h4 hc0 hc1 hok hin hcode h3'
            rcases h12 with rfl | rfl
            all_goals
              go_enter Tryz.func47, Tryz.ntmps47
              go_wp2_with fail
              refine (PT.out _).mono ?_
              rintro e w1 ⟨rfl, b1⟩
              have B1 := B0.trans (b1.mono B0.size)
              go_wp2_with fail
              go_ret
              exact ⟨rfl, B1⟩
          | true =>
            rw [hin] at PT
            by_cases hk2 : kind = 2
            · subst hk2
              have hcode : objCode 2 [(x, y)] = if y < x then 1 else 0 := by
                rw [objCode_2, if_neg (by simp), if_neg (by rw [hok, hin]; simp)]
                rfl
              rw [hcode]
              obtain ⟨q, hq⟩ : ∃ q, q = decide (y < x) := ⟨_, rfl⟩
              have hq' := hq.symm
              have e2 : (if y < x then (1 : Int) else 0) = if q = true then 1 else 0 := by rw [hq]; by_cases h : y < x <;> simp [h]
              rw [e2]
              clear hv hv0 h3 h0 hl h4 hc0 hc1 hok hin hcode h3' h12 hq e2
              cases q
              all_goals
                go_enter Tryz.func47, Tryz.ntmps47
                go_wp2_with fail
                refine (PT.out _).mono ?_
                rintro e w1 ⟨rfl, b1⟩
                have hlt := B0.size
                have B1 := B0.trans (b1.mono B0.size)
                have hA : w.heap.size < (w.alloc (.cells #[.int .i64 2, .slice (some ⟨b, off, none⟩) 1 c] 39)).heap.size := by simp
                have k0 := (b1.cell (p := ⟨w.heap.size, 0, none⟩) hA).trans (show (w.alloc (.cells #[.int .i64 2, .slice (some ⟨b, off, none⟩) 1 c] 39)).cell? ⟨w.heap.size, 0, none⟩ = some (.int .i64 2) by simp)
                have f0 := (B1.cell (p := ⟨b, off, none⟩) hb).trans HC.out.1
                have f1 := (B1.cell (p := ⟨b, off + 1, none⟩) hb).trans HC.out.2
                have HB := Lib.hid (fun n => bel_drewN' B1 n)
                go_wp2_with fail
                go_quiet (fail)
                go_wp2_with fail
                go_ret
                exact ⟨rfl, HB.out _⟩
            · obtain rfl : kind = 1 := by omega
              have hcode : objCode 1 [(x, y)] = 0 := by
                rw [objCode_1, if_neg (by simp), if_neg (by rw [hok, hin]; simp)]
              rw [hcode]
              clear hv hv0 h3 h0 hl h4 hc0 hc1 hok hin hcode h3' h12 hk2
              go_enter Tryz.func47, Tryz.ntmps47
              go_wp2_with fail
              refine (PT.out _).mono ?_
              rintro e w1 ⟨rfl, b1⟩
              have B1 := B0.trans (b1.mono B0.size)
              have hA : w.heap.size < (w.alloc (.cells #[.int .i64 1, .slice (some ⟨b, off, none⟩) 1 c] 39)).heap.size := by simp
              have k0 := (b1.cell (p := ⟨w.heap.size, 0, none⟩) hA).trans (show (w.alloc (.cells #[.int .i64 1, .slice (some ⟨b, off, none⟩) 1 c] 39)).cell? ⟨w.heap.size, 0, none⟩ = some (.int .i64 1) by simp)
              have HB := Lib.hid (fun n => bel_drewN' B1 n)
              go_wp2_with fail
              go_quiet (fail)
              go_wp2_with fail
              go_ret
              exact ⟨rfl, HB.out _⟩
        · have hcode : objCode kind l = 3 := by
            unfold objCode
            rw [if_pos h12, if_pos hl]
          rw [hcode]
          have t1 : ((l.length : Int) != 1) = true := by simp; omega
          clear hv hv0 h3 h0 hl h4 hcode h3'
          rcases h12 with rfl | rfl
          all_goals
            go_enter Tryz.func47, Tryz.ntmps47
            go_wp2_with fail
            go_ret
            exact ⟨rfl, B0⟩
      · rw [objCode_else kind l ⟨by omega, by omega, h3', h4⟩]
        have k1 : (kind == 1) = false := by simp; omega
        have k2 : (kind == 2) = false := by simp; omega
        have k3 : (kind == 3) = false := by simpa using h3'
        have k4 : (kind == 4) = false := by simpa using h4
        clear hv hv0 h3 h0 h4 h3' h12
        go_enter Tryz.func47, Tryz.ntmps47
        go_wp2_with fail
        go_ret
        exact ⟨rfl, B0⟩
theorem objCode_len {kind : Int} {l : List Pt} (h : objCode kind l = 0) : (kind = 1 ∨ kind = 2 → l.length = 1) ∧ (kind = 3 → l.length = 2) ∧ 0 < l.length := by
  rcases objCode_kind h with rfl | rfl | rfl | rfl
  · rw [objCode_1] at h
    split at h
    · cases h
    · exact ⟨fun _ => by omega, fun e => by omega, by omega⟩
  · rw [objCode_2] at h
    split at h
    · cases h
    · exact ⟨fun _ => by omega, fun e => by omega, by omega⟩
  · rw [objCode_3] at h
    split at h
    · cases h
    · exact ⟨fun e => by omega, fun e => by omega, by omega⟩
  · refine ⟨fun e => by omega, fun e => by omega, ?_⟩
    rcases Nat.eq_zero_or_pos l.length with q | q
    · obtain rfl := List.length_eq_zero_iff.1 q
      exact absurd h (by decide)
    · exact q

set_option maxRecDepth 100000 in
theorem refBnd_ok (kind : Int) (v : Value) (l : List Pt) (w : World) (hv : Pts w v l) (h : objCode kind l = 0) :
    Calls Tryz.prog 25 #[.agg #[.int .i64 kind, v]] w fun e w' => e = .returned (.tuple #[bxAgg (oBox kind l), .int .i64 0]) ∧ Below w.heap.size w w' := by
  have hv0 := hv
  obtain ⟨ao, c, rfl, h1, h2, _, h3⟩ := hv.open
  have BA : Below w.heap.size w (w.alloc (.cells #[.int .i64 kind, .slice ao l.length c] 39)) := (Below.refl _ _).alloc (Nat.le_refl _) _
  have B0 : Below w.heap.size w ((w.alloc (.cells #[.int .i64 kind, .slice ao l.length c] 39)).alloc (.cells #[.int .i64 0, .int .i64 0, .int .i64 0, .int .i64 0] 69)) := BA.alloc BA.size _
  have R0 := quadS_alloc (w.alloc (.cells #[.int .i64 kind, .slice ao l.length c] 39)) 0 0 0 0 69
  rw [show (w.alloc (.cells #[.int .i64 kind, .slice ao l.length c] 39)).heap.size = w.heap.size + 1 by simp] at R0
  have HR0 := Lib.hid R0
  have C := refChk_any kind _ l _ (hv0.below B0)
  rw [h] at C
  have HC := Lib.hid C
  have D0 := Lib.hid (show ((w.alloc (.cells #[.int .i64 kind, .slice ao l.length c] 39)).alloc (.cells #[.int .i64 0, .int .i64 0, .int .i64 0, .int .i64 0] 69)).cell? ⟨w.heap.size, 0, none⟩ = some (.int .i64 kind) by simp)
  have D1 := Lib.hid (show ((w.alloc (.cells #[.int .i64 kind, .slice ao l.length c] 39)).alloc (.cells #[.int .i64 0, .int .i64 0, .int .i64 0, .int .i64 0] 69)).cell? ⟨w.heap.size, 1, none⟩ = some (.slice ao l.length c) by simp)
  have hA2 := Lib.hid (show w.heap.size < ((w.alloc (.cells #[.int .i64 kind, .slice ao l.length c] 39)).alloc (.cells #[.int .i64 0, .int .i64 0, .int .i64 0, .int .i64 0] 69)).heap.size by simp; omega)
  unfold maxLen at h2
  obtain ⟨l1, l2, l3⟩ := objCode_len h
  obtain ⟨b, off, rfl, hb, p0, p1⟩ := h3 0 l3
  simp only [Nat.zero_mul, Nat.add_zero] at p0 p1
  have X := Lib.hid (fun w' (hb : Below w.heap.size w w') => RingBox_any _ l w' (hv0.below hb))
  rcases objCode_kind h with rfl | rfl | rfl | rfl
  · obtain ⟨⟨x, y⟩, rfl⟩ : ∃ a, l = [a] := by
      match l, l1 (.inl rfl) with
      | [a], _ => exact ⟨a, rfl⟩
    have ho : oBox 1 [(x, y)] = (x, y, x, y) := rfl
    rw [ho]
    simp only [List.getElem_cons_zero, List.length_cons, List.length_nil, Nat.zero_add] at *
    clear hv hv0 R0 BA h C h3 l1 l2 l3 X ho
    unfold bxAgg at *
    go_enter Tryz.func25, Tryz.ntmps25
    go_wp2_with fail
    refine HC.out.mono ?_
    rintro e w1 ⟨rfl, b1⟩
    have B1 := B0.trans (b1.mono B0.size)
    have e0 := (b1.cell (p := ⟨w.heap.size, 0, none⟩) hA2.out).trans D0.out
    have e1 := (b1.cell (p := ⟨w.heap.size, 1, none⟩) hA2.out).trans D1.out
    have q0 := (B1.cell (p := ⟨b, off, none⟩) hb).trans p0
    have q1 := (B1.cell (p := ⟨b, off + 1, none⟩) hb).trans p1
    have r1 := HR0.out.below b1
    have hl1 := r1.lt
    have hA1 : w.heap.size < w1.heap.size := by omega
    have hgp : w.heap.size + 1 ≠ w1.heap.size := by omega
    have bP : Below w1.heap.size w1 (w1.alloc (.cells #[.int .i64 x, .int .i64 y] 67)) := (Below.refl _ _).alloc (Nat.le_refl _) _
    have B2 := B1.trans (bP.mono B1.size)
    have r2 := r1.below bP
    have r2w := r2
    have s0 := (bP.cell (p := ⟨w.heap.size, 0, none⟩) hA1).trans e0
    have HRR := Lib.hid (r2.put x y x y)
    have HB := Lib.hid ((((B2.setCell (p := ⟨w.heap.size + 1, 0, none⟩) (Nat.le_succ _) (.int .i64 x)).setCell (p := ⟨w.heap.size + 1, 1, none⟩) (Nat.le_succ _) (.int .i64 y)).setCell (p := ⟨w.heap.size + 1, 2, none⟩) (Nat.le_succ _) (.int .i64 x)).setCell (p := ⟨w.heap.size + 1, 3, none⟩) (Nat.le_succ _) (.int .i64 y))
    obtain ⟨⟨z0, z1, z2, z3⟩, k0, k1, k2, k3⟩ := r2
    simp only at z0 z1 z2 z3
    have u0 := pair_alloc w1 x y 67 w1.heap.size rfl
    obtain ⟨u0, u1⟩ := u0
    have hlt2 := r2w.lt
    clear HC r1
    go_upto_region 13 with fail
    generalize w1.alloc (.cells #[.int .i64 x, .int .i64 y] 67) = w2 at *
    go_wp2_with fail
    obtain ⟨⟨o0, o1, o2, o3⟩, _, _, _, _⟩ := HRR.out
    exact bodyPost_ret (v := .tuple #[.agg #[.int .i64 x, .int .i64 y, .int .i64 x, .int .i64 y], .int .i64 0]) (by simp [results, Tryz.results25, go_sem, o0, o1, o2, o3]) rfl ⟨rfl, HB.out⟩
  · obtain ⟨⟨x, y⟩, rfl⟩ : ∃ a, l = [a] := by
      match l, l1 (.inr rfl) with
      | [a], _ => exact ⟨a, rfl⟩
    have ho : oBox 2 [(x, y)] = (x, 0, y, 0) := rfl
    rw [ho]
    simp only [List.getElem_cons_zero, List.length_cons, List.length_nil, Nat.zero_add] at *
    clear hv hv0 R0 BA h C h3 l1 l2 l3 X ho
    unfold bxAgg at *
    go_enter Tryz.func25, Tryz.ntmps25
    go_wp2_with fail
    refine HC.out.mono ?_
    rintro e w1 ⟨rfl, b1⟩
    have B1 := B0.trans (b1.mono B0.size)
    have e0 := (b1.cell (p := ⟨w.heap.size, 0, none⟩) hA2.out).trans D0.out
    have e1 := (b1.cell (p := ⟨w.heap.size, 1, none⟩) hA2.out).trans D1.out
    have q0 := (B1.cell (p := ⟨b, off, none⟩) hb).trans p0
    have q1 := (B1.cell (p := ⟨b, off + 1, none⟩) hb).trans p1
    have r1 := HR0.out.below b1
    have hl1 := r1.lt
    have hA1 : w.heap.size < w1.heap.size := by omega
    have hgp : w.heap.size + 1 ≠ w1.heap.size := by omega
    have bP : Below w1.heap.size w1 (w1.alloc (.cells #[.int .i64 x, .int .i64 y] 67)) := (Below.refl _ _).alloc (Nat.le_refl _) _
    have B2 := B1.trans (bP.mono B1.size)
    have r2 := r1.below bP
    have r2w := r2
    have s0 := (bP.cell (p := ⟨w.heap.size, 0, none⟩) hA1).trans e0
    have HRR := Lib.hid (r2.put x 0 y 0)
    have HB := Lib.hid ((((B2.setCell (p := ⟨w.heap.size + 1, 0, none⟩) (Nat.le_succ _) (.int .i64 x)).setCell (p := ⟨w.heap.size + 1, 1, none⟩) (Nat.le_succ _) (.int .i64 0)).setCell (p := ⟨w.heap.size + 1, 2, none⟩) (Nat.le_succ _) (.int .i64 y)).setCell (p := ⟨w.heap.size + 1, 3, none⟩) (Nat.le_succ _) (.int .i64 0))
    obtain ⟨⟨z0, z1, z2, z3⟩, k0, k1, k2, k3⟩ := r2
    simp only at z0 z1 z2 z3
    have u0 := pair_alloc w1 x y 67 w1.heap.size rfl
    obtain ⟨u0, u1⟩ := u0
    have hlt2 := r2w.lt
    clear HC r1
    go_upto_region 7 with fail
    generalize w1.alloc (.cells #[.int .i64 x, .int .i64 y] 67) = w2 at *
    go_wp2_with fail
    obtain ⟨⟨o0, o1, o2, o3⟩, _, _, _, _⟩ := HRR.out
    exact bodyPost_ret (v := .tuple #[.agg #[.int .i64 x, .int .i64 0, .int .i64 y, .int .i64 0], .int .i64 0]) (by simp [results, Tryz.results25, go_sem, o0, o1, o2, o3]) rfl ⟨rfl, HB.out⟩
  · obtain ⟨⟨x, y⟩, ⟨x2, y2⟩, rfl⟩ : ∃ a b, l = [a, b] := by
      match l, l2 rfl with
      | [a, b], _ => exact ⟨a, b, rfl⟩
    have ho : oBox 3 [(x, y), (x2, y2)] = (x, y, x2, y2) := rfl
    rw [ho]
    obtain ⟨b', off', e', hb', hd0, hd1⟩ := h3 1 (by simp)
    simp only [Option.some.injEq, Addr.mk.injEq, and_true] at e'
    obtain ⟨rfl, rfl⟩ := e'
    simp only [List.getElem_cons_zero, List.getElem_cons_succ, Nat.one_mul, List.length_cons, List.length_nil, Nat.zero_add, Nat.reduceAdd] at *
    clear hv hv0 R0 BA h C h3 l1 l2 l3 X ho
    unfold bxAgg at *
    go_enter Tryz.func25, Tryz.ntmps25
    go_wp2_with fail
    refine HC.out.mono ?_
    rintro e w1 ⟨rfl, b1⟩
    have B1 := B0.trans (b1.mono B0.size)
    have e0 := (b1.cell (p := ⟨w.heap.size, 0, none⟩) hA2.out).trans D0.out
    have e1 := (b1.cell (p := ⟨w.heap.size, 1, none⟩) hA2.out).trans D1.out
    have q0 := (B1.cell (p := ⟨b, off, none⟩) hb).trans p0
    have q1 := (B1.cell (p := ⟨b, off + 1, none⟩) hb).trans p1
    have r1 := HR0.out.below b1
    have hl1 := r1.lt
    have hA1 : w.heap.size < w1.heap.size := by omega
    have hgp : w.heap.size + 1 ≠ w1.heap.size := by omega
    have bP : Below w1.heap.size w1 (w1.alloc (.cells #[.int .i64 x, .int .i64 y] 67)) := (Below.refl _ _).alloc (Nat.le_refl _) _
    have B2 := B1.trans (bP.mono B1.size)
    have r2 := r1.below bP
    have r2w := r2
    have s0 := (bP.cell (p := ⟨w.heap.size, 0, none⟩) hA1).trans e0
    have s1 := (bP.cell (p := ⟨w.heap.size, 1, none⟩) hA1).trans e1
    have q2 := (B2.cell (p := ⟨b, off + 2, none⟩) hb).trans hd0
    have q3 := (B2.cell (p := ⟨b, off + 2 + 1, none⟩) hb).trans hd1
    have HRR := Lib.hid (r2.put x y x2 y2).drew
    have HB := Lib.hid ((((B2.setCell (p := ⟨w.heap.size + 1, 0, none⟩) (Nat.le_succ _) (.int .i64 x)).setCell (p := ⟨w.heap.size + 1, 1, none⟩) (Nat.le_succ _) (.int .i64 y)).setCell (p := ⟨w.heap.size + 1, 2, none⟩) (Nat.le_succ _) (.int .i64 x2)).setCell (p := ⟨w.heap.size + 1, 3, none⟩) (Nat.le_succ _) (.int .i64 y2)).drew
    obtain ⟨⟨z0, z1, z2, z3⟩, k0, k1, k2, k3⟩ := r2
    simp only at z0 z1 z2 z3
    have u0 := pair_alloc w1 x y 67 w1.heap.size rfl
    obtain ⟨u0, u1⟩ := u0
    have hlt2 := r2w.lt
    clear HC r1
    go_upto_region 9 with fail
    generalize w1.alloc (.cells #[.int .i64 x, .int .i64 y] 67) = w2 at *
    go_wp2_with fail
    go_region
    go_wp2_with fail
    obtain ⟨⟨o0, o1, o2, o3⟩, _, _, _, _⟩ := HRR.out
    exact bodyPost_ret (v := .tuple #[.agg #[.int .i64 x, .int .i64 y, .int .i64 x2, .int .i64 y2], .int .i64 0]) (by simp [results, Tryz.results25, go_sem, o0, o1, o2, o3]) rfl ⟨rfl, HB.out⟩
  · have ho : oBox 4 l = bbE l := by unfold oBox; rw [if_neg (by decide), if_neg (by decide), if_neg (by decide)]
    rw [ho]
    generalize bbE l = bb at *
    obtain ⟨m1, m2, m3, m4⟩ := bb
    generalize ringRes l = rr at *
    obtain ⟨rr1, rr2⟩ := rr
    generalize l[0] = xy at *
    obtain ⟨x, y⟩ := xy
    simp only at p0 p1
    have hl0 : (0 : Int) < (l.length : Int) := by omega
    clear hv hv0 R0 BA h C h3 l1 l2 ho
    unfold bxAgg at *
    go_enter Tryz.func25, Tryz.ntmps25
    go_wp2_with fail
    refine HC.out.mono ?_
    rintro e w1 ⟨rfl, b1⟩
    have B1 := B0.trans (b1.mono B0.size)
    have e0 := (b1.cell (p := ⟨w.heap.size, 0, none⟩) hA2.out).trans D0.out
    have e1 := (b1.cell (p := ⟨w.heap.size, 1, none⟩) hA2.out).trans D1.out
    have q0 := (B1.cell (p := ⟨b, off, none⟩) hb).trans p0
    have q1 := (B1.cell (p := ⟨b, off + 1, none⟩) hb).trans p1
    have r1 := HR0.out.below b1
    have hl1 := r1.lt
    have hA1 : w.heap.size < w1.heap.size := by omega
    have bP : Below w1.heap.size w1 (w1.alloc (.cells #[.int .i64 x, .int .i64 y] 67)) := (Below.refl _ _).alloc (Nat.le_refl _) _
    have B2 := B1.trans (bP.mono B1.size)
    have r2 := r1.below bP
    have r2w := r2
    have s0 := (bP.cell (p := ⟨w.heap.size, 0, none⟩) hA1).trans e0
    have s1 := (bP.cell (p := ⟨w.heap.size, 1, none⟩) hA1).trans e1
    have XX := Lib.hid (X.out _ B2)
    have HR2 := Lib.hid r2
    clear HC r1 X r2
    go_wp2_with fail
    refine XX.out.mono ?_
    rintro e w3 ⟨rfl, b3⟩
    have B3 := B2.trans (b3.mono B2.size)
    have r3 := HR2.out.below b3
    have hl3 := r3.lt
    have bQ : Below w3.heap.size w3 (w3.alloc (.cells #[.int .i64 m1, .int .i64 m2, .int .i64 m3, .int .i64 m4] 69)) := (Below.refl _ _).alloc (Nat.le_refl _) _
    have B4 := B3.trans (bQ.mono B3.size)
    have r4 := r3.below bQ
    have r4w := r4
    have HRR := Lib.hid (r4.put m1 m2 m3 m4)
    have HB := Lib.hid ((((B4.setCell (p := ⟨w.heap.size + 1, 0, none⟩) (Nat.le_succ _) (.int .i64 m1)).setCell (p := ⟨w.heap.size + 1, 1, none⟩) (Nat.le_succ _) (.int .i64 m2)).setCell (p := ⟨w.heap.size + 1, 2, none⟩) (Nat.le_succ _) (.int .i64 m3)).setCell (p := ⟨w.heap.size + 1, 3, none⟩) (Nat.le_succ _) (.int .i64 m4))
    obtain ⟨⟨z0, z1, z2, z3⟩, k0, k1, k2, k3⟩ := r4
    simp only at z0 z1 z2 z3
    have hlt4 := r4w.lt
    obtain ⟨⟨y0, y1, y2, y3⟩, _, _, _, _⟩ := quadS_alloc w3 m1 m2 m3 m4 69
    simp only at y0 y1 y2 y3
    clear XX HR2 r3
    go_upto_region 12 with fail
    generalize w3.alloc (.cells #[.int .i64 m1, .int .i64 m2, .int .i64 m3, .int .i64 m4] 69) = w4 at *
    go_wp2_with fail
    obtain ⟨⟨o0, o1, o2, o3⟩, _, _, _, _⟩ := HRR.out
    exact bodyPost_ret (v := .tuple #[.agg #[.int .i64 m1, .int .i64 m2, .int .i64 m3, .int .i64 m4], .int .i64 0]) (by simp [results, Tryz.results25, go_sem, o0, o1, o2, o3]) rfl ⟨rfl, HB.out⟩

set_option maxRecDepth 100000 in
theorem refBnd_no (kind : Int) (v : Value) (l : List Pt) (w : World) (hv : Pts w v l) (h : objCode kind l ≠ 0) :
    Calls Tryz.prog 25 #[.agg #[.int .i64 kind, v]] w fun e w' => e = .returned (.tuple #[bxAgg (0, 0, 0, 0), .int .i64 (objCode kind l)]) ∧ Below w.heap.size w w' := by
  have hv0 := hv
  obtain ⟨ao, c, rfl, h1, h2, _, _⟩ := hv.open
  have BA : Below w.heap.size w (w.alloc (.cells #[.int .i64 kind, .slice ao l.length c] 39)) := (Below.refl _ _).alloc (Nat.le_refl _) _
  have B0 : Below w.heap.size w ((w.alloc (.cells #[.int .i64 kind, .slice ao l.length c] 39)).alloc (.cells #[.int .i64 0, .int .i64 0, .int .i64 0, .int .i64 0] 69)) := BA.alloc BA.size _
  have R0 := quadS_alloc (w.alloc (.cells #[.int .i64 kind, .slice ao l.length c] 39)) 0 0 0 0 69
  rw [show (w.alloc (.cells #[.int .i64 kind, .slice ao l.length c] 39)).heap.size = w.heap.size + 1 by simp] at R0
  have HR0 := Lib.hid R0
  have C := Lib.hid (refChk_any kind _ l _ (hv0.below B0))
  generalize objCode kind l = K at *
  have t1 : (K != 0) = true := by simpa using h
  unfold maxLen at h2
  clear hv hv0 R0 BA h
  unfold bxAgg
  go_enter Tryz.func25, Tryz.ntmps25
  go_wp2_with fail
  refine C.out.mono ?_
  rintro e w1 ⟨rfl, b1⟩
  have B1 := B0.trans (b1.mono B0.size)
  have r1 := HR0.out.below b1
  have hl1 := r1.lt
  have HRR := Lib.hid (r1.put 0 0 0 0)
  have HB := Lib.hid ((((B1.setCell (p := ⟨w.heap.size + 1, 0, none⟩) (Nat.le_succ _) (.int .i64 0)).setCell (p := ⟨w.heap.size + 1, 1, none⟩) (Nat.le_succ _) (.int .i64 0)).setCell (p := ⟨w.heap.size + 1, 2, none⟩) (Nat.le_succ _) (.int .i64 0)).setCell (p := ⟨w.heap.size + 1, 3, none⟩) (Nat.le_succ _) (.int .i64 0))
  obtain ⟨⟨z0, z1, z2, z3⟩, k0, k1, k2, k3⟩ := r1
  simp only at z0 z1 z2 z3
  clear HR0
  go_wp2_with fail
  obtain ⟨⟨o0, o1, o2, o3⟩, _, _, _, _⟩ := HRR.out
  exact bodyPost_ret (v := .tuple #[.agg #[.int .i64 0, .int .i64 0, .int .i64 0, .int .i64 0], .int .i64 K]) (by simp [results, Tryz.results25, go_sem, o0, o1, o2, o3]) rfl ⟨rfl, HB.out⟩

set_option maxRecDepth 100000 in
theorem ItemKey_no (kind : Int) (v : Value) (l : List Pt) (w : World) (hv : Pts w v l) (h : objCode kind l ≠ 0) :
    Calls Tryz.prog 12 #[.agg #[.int .i64 kind, v]] w fun e w' => e = .returned (.tuple #[.int .u64 0, .int .i64 (objCode kind l)]) ∧ Below w.heap.size w w' := by
  have hv0 := hv
  obtain ⟨ao, c, rfl, h1, h2, _, _⟩ := hv.open
  have B0 : Below w.heap.size w (w.alloc (.cells #[.int .i64 kind, .slice ao l.length c] 39)) := (Below.refl _ _).alloc (Nat.le_refl _) _
  have C := Lib.hid (refBnd_no kind _ l _ (hv0.below B0) h)
  generalize objCode kind l = K at *
  have t1 : (K != 0) = true := by simpa using h
  unfold maxLen at h2
  clear hv hv0 h
  unfold bxAgg at C
  go_enter Tryz.func12, Tryz.ntmps12
  go_wp2_with fail
  refine C.out.mono ?_
  rintro e w1 ⟨rfl, b1⟩
  have B1 := B0.trans (b1.mono B0.size)
  have B2 := B1.alloc B1.size (.cells #[.int .i64 0, .int .i64 0, .int .i64 0, .int .i64 0] 69)
  go_wp2_with fail
  go_ret2
  exact ⟨rfl, B2⟩

set_option maxRecDepth 100000 in
theorem ItemKey_ok (kind : Int) (v : Value) (l : List Pt) (w : World) (hv : Pts w v l) (h : objCode kind l = 0) :
    Calls Tryz.prog 12 #[.agg #[.int .i64 kind, v]] w fun e w' => e = .returned (.tuple #[.int .u64 (objKey kind l : Nat), .int .i64 0]) ∧ Below w.heap.size w w' := by
  have hv0 := hv
  obtain ⟨ao, c, rfl, h1, h2, _, _⟩ := hv.open
  have B0 : Below w.heap.size w (w.alloc (.cells #[.int .i64 kind, .slice ao l.length c] 39)) := (Below.refl _ _).alloc (Nat.le_refl _) _
  have C := Lib.hid (refBnd_ok kind _ l _ (hv0.below B0) h)
  have hc := oBox_code h
  have hm := mid_in hc
  unfold objKey
  generalize oBox kind l = bb at *
  obtain ⟨m1, m2, m3, m4⟩ := bb
  simp only at hc hm
  have CE := Lib.hid (fun w => Cv.CentreR_ok m1 m2 m3 m4 w hc)
  have ZZ := Lib.hid (fun w => Cv.ZR_pt _ _ w hm)
  simp only
  generalize (m1 + m3) / 2 = x at *
  generalize (m2 + m4) / 2 = y at *
  generalize Cv.zOf x y = Z at *
  unfold maxLen at h2
  clear hv hv0 h hc hm
  unfold bxAgg at C
  unfold Cv.PtCode at CE
  unfold Cv.NumCode at ZZ
  go_enter Tryz.func12, Tryz.ntmps12
  go_wp2_with fail
  refine C.out.mono ?_
  rintro e w1 ⟨rfl, b1⟩
  have B1 := B0.trans (b1.mono B0.size)
  have B2 := B1.alloc B1.size (.cells #[.int .i64 m1, .int .i64 m2, .int .i64 m3, .int .i64 m4] 69)
  go_wp2_with fail
  refine (CE.out _).mono ?_
  rintro e w3 ⟨rfl, b3⟩
  have B3 := B2.trans (b3.mono B2.size)
  have B4 := B3.alloc B3.size (.cells #[.int .i64 x, .int .i64 y] 67)
  go_wp2_with fail
  refine (ZZ.out _).mono ?_
  rintro e w5 ⟨rfl, b5⟩
  have B5 := B4.trans (b5.mono B4.size)
  go_wp2_with fail
  go_ret2
  exact ⟨rfl, B5⟩
end Go.Proofs.YtoggbmfjjenbaaaGreatDoor
