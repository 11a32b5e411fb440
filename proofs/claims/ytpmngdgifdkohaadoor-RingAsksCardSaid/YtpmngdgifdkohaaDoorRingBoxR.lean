/- pergolaref3.RingBox. -/
import Derived.Test.YtpmngdgifdkohaaDoorUnionR
namespace Go.Proofs.YtpmngdgifdkohaaDoor
open Go.RowKit

set_option maxRecDepth 100000 in
set_option maxHeartbeats 2000000 in
theorem RingBox_any (v : Value) (l : List (Int × Int)) (w : World) (hv : Pts w v l) :
    Calls Tryd.prog 28 #[v] w fun e w' => e = .returned (.tuple #[bxAgg (bbE l), .int .i64 (ringRes l).1, .int .i64 (ringRes l).2]) ∧ Below w.heap.size w w' := by
  have B0 : Below w.heap.size w (w.alloc (.cells #[.int .i64 0, .int .i64 0, .int .i64 0, .int .i64 0] 39)) := (Below.refl _ _).alloc (Nat.le_refl _) _
  have R0 := Lib.hid (show QuadS (w.alloc (.cells #[.int .i64 0, .int .i64 0, .int .i64 0, .int .i64 0] 39)) w.heap.size (0, 0, 0, 0) from quadS_alloc w 0 0 0 0 39)
  have C := Lib.hid (CheckR_any v l _ (hv.below B0))
  by_cases h : ringEr l = .none
  · obtain ⟨hl, h3, h64⟩ := ringEr_ok h
    have HR := Lib.hid (show bbE l = bbTo l l.length by unfold bbE; rw [ringOk_yes h]; rfl)
    have HE := Lib.hid (ringRes_good h)
    rw [ringRes_good h] at C
    have UN := Lib.hid (fun v' w' (h : PBx w' v' l) => UnionR_ok v' l w' h hl (by omega) h64)
    obtain ⟨ao, c, rfl, hc1, hc2, _, h3'⟩ := hv.open
    have H3 := Lib.hid (show ∀ i (h : i < l.length), ∃ b off, ao = some ⟨b, off, none⟩ ∧ b < w.heap.size ∧ w.cell? ⟨b, off + i * 2, none⟩ = some (.int .i64 l[i].1) ∧ w.cell? ⟨b, off + i * 2 + 1, none⟩ = some (.int .i64 l[i].2) from h3')
    unfold maxLen at hc2
    clear h h3' hv hl
    go_enter Tryd.func28, Tryd.ntmps28
    go_wp2_with fail
    refine C.out.mono ?_
    rintro e w1 ⟨rfl, b1⟩
    have B1 := B0.trans (b1.mono B0.size)
    have hr1 := Lib.hid (R0.out.below b1)
    have hw1 : w.heap.size < w1.heap.size := hr1.out.lt
    go_wp2_with fail
    go_loopw [7, 8] (fun a i wr => ∃ k : Nat, k ≤ l.length ∧ i = .int .i64 k ∧ OwnX wr w1.heap.size a (l.take k) ∧ Below w1.heap.size w1 wr) (fun _ i _ => l.length - (intOf i).toNat)
    case atStart => exact ⟨0, Nat.zero_le _, rfl, World.ownsRow_nil _ _ _ _, Below.refl _ _⟩
    case round =>
      obtain ⟨k, hk, rfl, ho, hb⟩ := hrel
      have BB := B1.trans (hb.mono B1.size)
      by_cases hlt : k < l.length
      · have t1 : decide ((k : Int) < (l.length : Int)) = true := by simp; omega
        obtain ⟨g, off, rfl, hg, a0, a1⟩ := H3.out k hlt
        have XS := Lib.hid (show ∀ w', Below w1.heap.size w1 w' → w'.cell? ⟨g, off + k * 2, none⟩ = some (.int .i64 l[k].1) ∧ w'.cell? ⟨g, off + k * 2 + 1, none⟩ = some (.int .i64 l[k].2) from fun w' h => by
          have h' := B1.trans (h.mono B1.size)
          exact ⟨(h'.cell (p := ⟨g, off + k * 2, none⟩) hg).trans a0, (h'.cell (p := ⟨g, off + k * 2 + 1, none⟩) hg).trans a1⟩)
        have HT := Lib.hid (show l.take (k + 1) = l.take k ++ [l[k]] from List.take_succ_eq_append_getElem hlt)
        clear a0 a1
        generalize l[k] = pk at *
        obtain ⟨ax, ay⟩ := pk
        simp only at XS
        have j0 : (0 : Int) ≤ (k : Int) := by omega
        have j1 : (k : Int) < (l.length : Int) := by omega
        have hlen : (l.take k).length + [(ax, ay)].length ≤ 1000000 := by simp; omega
        have hk1 : k + 1 ≤ l.length := by omega
        have ho' : OwnX wr.drew w1.heap.size _ (l.take k) := ho
        clear ho
        go_wp2_with fail
        refine wp_region_noPanic ?_
        refine wp_region_held_drew (S := fun w' => Below w1.heap.size w1 w') (by kernel_rfl) hb.drew (fun hHeld => ?_)
        generalize wr.drew = D at hHeld ho' ⊢
        have k1 : Below w1.heap.size w1 D := hHeld
        refine wpAnyH_take (i := 0) (oi := ⟨some 27, _, _, _, _, _⟩) (v := ?qv0rb) rfl (by kernel_rfl) (by kernel_rfl) (by kernel_rfl) (fun _ _ _ h => h) (Or.inl ⟨by rfl, ?qy0rb⟩) hHeld ?qr0rb
        case qy0rb => (intro w' hSw; go_simp; try with_reducible rfl)
        try simp only [Act.put, List.setIfInBounds_toArray, List.set_cons_zero, List.set_cons_succ]
        refine wpAnyH_take (i := 1) (oi := ⟨some 28, _, _, _, _, _⟩) (v := ?qv1rb) rfl (by kernel_rfl) (by kernel_rfl) (by kernel_rfl) (fun _ _ _ h => h) (Or.inl ⟨by rfl, ?qy1rb⟩) hHeld ?qr1rb
        case qy1rb => (intro w' hSw; go_simp; try with_reducible rfl)
        try simp only [Act.put, List.setIfInBounds_toArray, List.set_cons_zero, List.set_cons_succ]
        refine wpAnyH_take (i := 2) (oi := ⟨some 29, _, _, _, _, _⟩) (v := ?qv2rb) rfl (by kernel_rfl) (by kernel_rfl) (by kernel_rfl) (fun _ _ _ h => h) (Or.inl ⟨by rfl, ?qy2rb⟩) hHeld ?qr2rb
        case qy2rb => (intro w' hSw; go_simp; try with_reducible rfl)
        try simp only [Act.put, List.setIfInBounds_toArray, List.set_cons_zero, List.set_cons_succ]
        refine wpAnyH_take (i := 3) (oi := ⟨some 30, _, _, _, _, _⟩) (v := ?qv3rb) rfl (by kernel_rfl) (by kernel_rfl) (by kernel_rfl) (fun _ _ _ h => h) (Or.inl ⟨by rfl, ?qy3rb⟩) hHeld ?qr3rb
        case qy3rb => (intro w' hSw; go_simp; try with_reducible rfl)
        try simp only [Act.put, List.setIfInBounds_toArray, List.set_cons_zero, List.set_cons_succ]
        refine wpAnyH_take (i := 4) (oi := ⟨some 31, _, _, _, _, _⟩) (v := ?qv4rb) rfl (by kernel_rfl) (by kernel_rfl) (by kernel_rfl) (fun _ _ _ h => h) (Or.inl ⟨by rfl, ?qy4rb⟩) hHeld ?qr4rb
        case qy4rb => (intro w' hSw; obtain ⟨z0, z1⟩ := XS.out w' hSw; go_simp; try with_reducible rfl)
        try simp only [Act.put, List.setIfInBounds_toArray, List.set_cons_zero, List.set_cons_succ]
        refine wpAnyH_take (i := 5) (oi := ⟨some 32, _, _, _, _, _⟩) (v := ?qv5rb) rfl (by kernel_rfl) (by kernel_rfl) (by kernel_rfl) (fun _ _ _ h => h) (Or.inl ⟨by rfl, ?qy5rb⟩) hHeld ?qr5rb
        case qy5rb => (intro w' hSw; go_simp; try with_reducible rfl)
        try simp only [Act.put, List.setIfInBounds_toArray, List.set_cons_zero, List.set_cons_succ]
        refine wpAnyH_take (i := 6) (oi := ⟨some 33, _, _, _, _, _⟩) (v := ?qv6rb) rfl (by kernel_rfl) (by kernel_rfl) (by kernel_rfl) (fun _ _ _ h => h) (Or.inl ⟨by rfl, ?qy6rb⟩) hHeld ?qr6rb
        case qy6rb => (intro w' hSw; go_simp; try with_reducible rfl)
        try simp only [Act.put, List.setIfInBounds_toArray, List.set_cons_zero, List.set_cons_succ]
        refine wpAnyH_take (i := 7) (oi := ⟨some 34, _, _, _, _, _⟩) (v := ?qv7rb) rfl (by kernel_rfl) (by kernel_rfl) (by kernel_rfl) (fun _ _ _ h => h) (Or.inl ⟨by rfl, ?qy7rb⟩) hHeld ?qr7rb
        case qy7rb => (intro w' hSw; go_simp; try with_reducible rfl)
        try simp only [Act.put, List.setIfInBounds_toArray, List.set_cons_zero, List.set_cons_succ]
        refine wpAnyH_take (i := 8) (oi := ⟨some 35, _, _, _, _, _⟩) (v := ?qv8rb) rfl (by kernel_rfl) (by kernel_rfl) (by kernel_rfl) (fun _ _ _ h => h) (Or.inl ⟨by rfl, ?qy8rb⟩) hHeld ?qr8rb
        case qy8rb => (intro w' hSw; obtain ⟨z0, z1⟩ := XS.out w' hSw; go_simp; try with_reducible rfl)
        try simp only [Act.put, List.setIfInBounds_toArray, List.set_cons_zero, List.set_cons_succ]
        refine wpAnyH_take (i := 9) (oi := ⟨some 36, _, _, _, _, _⟩) (v := ?qv9rb) rfl (by kernel_rfl) (by kernel_rfl) (by kernel_rfl) (fun _ _ _ h => h) (Or.inl ⟨by rfl, ?qy9rb⟩) hHeld ?qr9rb
        case qy9rb => (intro w' hSw; go_simp; try with_reducible rfl)
        try simp only [Act.put, List.setIfInBounds_toArray, List.set_cons_zero, List.set_cons_succ]
        refine wpAnyH_ready (rs := [10]) (by kernel_rfl) (by simp) ?_
        refine AllReadyH.cons (o := ⟨some 37, _, _, _, _, _⟩) rfl (fun K hK => ?_) AllReadyH.nil
        go_simp
        have k2 := k1.alloc k1.size (.cells #[.int .i64 ax, .int .i64 ay, .int .i64 ax, .int .i64 ay] 39)
        have HO := Lib.hid (World.ownsRow.alloc ho' (.cells #[.int .i64 ax, .int .i64 ay, .int .i64 ax, .int .i64 ay] 39))
        have HP := Lib.hid (pbx1 D D.heap.size rfl ax ay)
        refine hK.out _ _ k2 (fun hHeld => ?_)
        clear hK K
        try simp only [Act.put, List.setIfInBounds_toArray, List.set_cons_zero, List.set_cons_succ]
        refine wpAnyH_ready (rs := [11]) (by kernel_rfl) (by simp) ?_
        refine AllReadyH.cons (o := ⟨some 38, _, _, _, _, _⟩) rfl (fun K hK => ?_) AllReadyH.nil
        refine step_append_bx (by rfl) _ _ (by rfl) w1.heap.size _ _ (by rfl) HO.out _ [(ax, ay)] (by rfl) HP.out hlen k2.size ?_
        intro v5 w5 ho5 hb5
        have k3 := k2.trans hb5
        refine hK.out _ _ k3 (fun hHeld => ?_)
        clear hK K
        try simp only [Act.put, List.setIfInBounds_toArray, List.set_cons_zero, List.set_cons_succ]
        refine wpAnyH_take (i := 12) (oi := ⟨some 7, _, _, _, _, _⟩) (v := ?qv12rb) rfl (by kernel_rfl) (by kernel_rfl) (by kernel_rfl) (fun _ _ _ h => h) (Or.inl ⟨by rfl, ?qy12rb⟩) hHeld ?qr12rb
        case qy12rb => (intro w' hSw; go_simp; try with_reducible rfl)
        try simp only [Act.put, List.setIfInBounds_toArray, List.set_cons_zero, List.set_cons_succ]
        refine wpAnyH_done (by kernel_rfl) ?_ _
        refine NoPanic.normal ?_
        have HO5 := Lib.hid ho5
        clear hlen ho5
        go_wp2_with fail
        go_roundw
        case rel => exact ⟨k + 1, hk1, by go_num, by rw [HT.out]; exact HO5.out, k3⟩
        case measure => simp [intOf]; omega
      · have t1 : decide ((k : Int) < (l.length : Int)) = false := by simp; omega
        obtain rfl : k = l.length := by omega
        rw [List.take_length] at ho
        have U1 := Lib.hid (UN.out _ _ ho.bx)
        have RW := Lib.hid (hr1.out.below hb)
        clear ho
        go_wp2_with fail
        refine U1.out.mono ?_
        rintro e w3 ⟨rfl, b3⟩
        have hr := RW.out.below b3
        generalize hbb : bbTo l l.length = bb at *
        obtain ⟨m1, m2, m3, m4⟩ := bb
        have HBB := Lib.hid hbb
        clear hbb
        have hBB := BB.trans (b3.mono BB.size)
        have HRR := Lib.hid ((hr.put m1 m2 m3 m4).below ((Below.refl _ _).alloc (Nat.le_refl _) (.cells #[.int .i64 m1, .int .i64 m2, .int .i64 m3, .int .i64 m4] 39)))
        have hlw := hr.lt
        obtain ⟨⟨d0, d1, d2, d3⟩, f0, f1, f2, f3⟩ := hr
        simp only at d0 d1 d2 d3
        have hBs := (((hBB.setCell (p := ⟨w.heap.size, 0, none⟩) (Nat.le_refl _) (.int .i64 m1)).setCell (p := ⟨w.heap.size, 1, none⟩) (Nat.le_refl _) (.int .i64 m2)).setCell (p := ⟨w.heap.size, 2, none⟩) (Nat.le_refl _) (.int .i64 m3)).setCell (p := ⟨w.heap.size, 3, none⟩) (Nat.le_refl _) (.int .i64 m4)
        have HB := Lib.hid (hBs.alloc hBs.size (.cells #[.int .i64 m1, .int .i64 m2, .int .i64 m3, .int .i64 m4] 39))
        clear hBs
        clear hBB BB hb b3
        go_wp2_with fail
        obtain ⟨⟨r0, r1, r2, r3⟩, _, _, _, _⟩ := HRR.out
        exact bodyPost_ret (v := .tuple #[.agg #[.int .i64 m1, .int .i64 m2, .int .i64 m3, .int .i64 m4], .int .i64 0, .int .i64 0]) (by simp [results, Tryd.results28, go_sem, r0, r1, r2, r3]) rfl ⟨by rw [HR.out, HE.out]; rfl, HB.out⟩
  · have HR := Lib.hid (show bbE l = (0, 0, 0, 0) by unfold bbE; rw [ringOk_no h]; rfl)
    have hn : ¬ (ringRes l).1 = 0 := fun k => h (ringRes_zero.1 k)
    have t0 : ((ringRes l).1 != 0) = true := by simpa using hn
    clear h hv
    generalize ringRes l = rr at *
    obtain ⟨q1, q2⟩ := rr
    simp only at t0 hn
    go_enter Tryd.func28, Tryd.ntmps28
    go_wp2_with fail
    refine C.out.mono ?_
    rintro e w1 ⟨rfl, b1⟩
    have B1 := B0.trans (b1.mono B0.size)
    have hr := R0.out.below b1
    have HRR := Lib.hid (hr.put 0 0 0 0)
    have hlw := hr.lt
    have HB := Lib.hid ((((B1.setCell (p := ⟨w.heap.size, 0, none⟩) (Nat.le_refl _) (.int .i64 0)).setCell (p := ⟨w.heap.size, 1, none⟩) (Nat.le_refl _) (.int .i64 0)).setCell (p := ⟨w.heap.size, 2, none⟩) (Nat.le_refl _) (.int .i64 0)).setCell (p := ⟨w.heap.size, 3, none⟩) (Nat.le_refl _) (.int .i64 0))
    obtain ⟨⟨d0, d1, d2, d3⟩, f0, f1, f2, f3⟩ := hr
    simp only at d0 d1 d2 d3
    go_wp2_with fail
    obtain ⟨⟨r0, r1, r2, r3⟩, _, _, _, _⟩ := HRR.out
    exact bodyPost_ret (v := .tuple #[.agg #[.int .i64 0, .int .i64 0, .int .i64 0, .int .i64 0], .int .i64 q1, .int .i64 q2]) (by simp [results, Tryd.results28, go_sem, r0, r1, r2, r3]) rfl ⟨by rw [HR.out]; rfl, HB.out⟩
end Go.Proofs.YtpmngdgifdkohaaDoor
