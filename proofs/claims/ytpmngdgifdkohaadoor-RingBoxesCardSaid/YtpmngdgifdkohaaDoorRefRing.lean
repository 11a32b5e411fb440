/- pergolaref3.edge, area, has, Twice, Left, Has, Edge; pergolaref1.Abs. -/
import Derived.Test.YtpmngdgifdkohaaDoorSimple
import Derived.Test.YtpmngdgifdkohaaDoorRefCheck
namespace Go.Proofs.YtpmngdgifdkohaaDoor
open Go.RowKit

set_option maxRecDepth 100000 in
set_option maxHeartbeats 1000000 in
theorem edgeR_any (v : Value) (l : List (Int × Int)) (px py : Int) (w : World) (hv : Pts w v l) :
    Calls Tryd.prog 52 #[v, .agg #[.int .i64 px, .int .i64 py]] w fun e w' => e = .returned (.bool (edgeB l (px, py))) ∧ Below w.heap.size w w' := by
  have hv0 := hv
  obtain ⟨ao, c, rfl, h1, h2, h0, h3'⟩ := hv.open
  unfold maxLen at h2
  have B0 : Below w.heap.size w (w.alloc (.cells #[.int .i64 px, .int .i64 py] 24)) := (Below.refl _ _).alloc (Nat.le_refl _) _
  have P0 := Lib.hid (pair_alloc w px py 24 w.heap.size rfl)
  have B0s : w.heap.size < (w.alloc (.cells #[.int .i64 px, .int .i64 py] 24)).heap.size := by simp
  have H0 := Lib.hid (show ∀ i (h : i < l.length), ∃ b off, ao = some ⟨b, off, none⟩ ∧ b < w.heap.size ∧ w.cell? ⟨b, off + i * 2, none⟩ = some (.int .i64 (pt l i).1) ∧ w.cell? ⟨b, off + i * 2 + 1, none⟩ = some (.int .i64 (pt l i).2) from fun i h => by rw [pt_get l i h]; exact h3' i h)
  clear h0 h3' hv hv0
  generalize hW : w.alloc (.cells #[.int .i64 px, .int .i64 py] 24) = W at B0 P0 B0s
  go_enter Tryd.func52, Tryd.ntmps52
  go_wp2_with fail
  go_loopw [5] (fun i wr => ∃ k : Nat, k ≤ l.length ∧ i = .int .i64 k ∧ Hid (∀ j, j < k → edgeAt l (px, py) j = false) ∧ Below W.heap.size W wr) (fun i _ => l.length - (intOf i).toNat)
  case atStart => exact ⟨0, Nat.zero_le _, rfl, Lib.hid (fun j hj => absurd hj (Nat.not_lt_zero _)), Below.refl _ _⟩
  case round =>
    obtain ⟨k, hk, rfl, he, hb⟩ := hrel
    clear hW
    by_cases hlt : k < l.length
    · have t1 : decide ((k : Int) < (l.length : Int)) = true := by simp; omega
      have hm : (k + 1) % l.length < l.length := Nat.mod_lt _ (by omega)
      obtain ⟨g, off, rfl, hg, hx, hy⟩ := H0.out k hlt
      obtain ⟨_, _, ee, _, hx2, hy2⟩ := H0.out _ hm
      cases ee
      have hb0 := B0.trans (hb.mono B0.size)
      have M1 : IntKind.i64.wrap ((k : Int) + 1) = (k : Int) + 1 := by rw [IntWalk.i64_in _ (by omega)]
      have M2 : ((k : Int) + 1).tmod (l.length : Int) = (((k + 1) % l.length : Nat) : Int) := by rw [Int.tmod_eq_emod_of_nonneg (by omega), Int.natCast_emod]; rfl
      have M3 : ((k : Int) + 1) % (l.length : Int) = (((k + 1) % l.length : Nat) : Int) := by rw [Int.natCast_emod]; rfl
      have hz : ((l.length : Int) == 0) = false := beq_eq_false_iff_ne.2 (by omega)
      have hz1 : ¬ (l.length : Int) = 0 := by omega
      have hz0 : l.length ≠ 0 := by omega
      have HE := Lib.hid (show edgeAt l (px, py) k = onB (pt l k) (pt l ((k + 1) % l.length)) (px, py) from rfl)
      generalize hj : (k + 1) % l.length = j at *
      clear hj
      have XS := Lib.hid (show ∀ w', Below wr.heap.size wr w' → w'.cell? ⟨g, off + k * 2, none⟩ = some (.int .i64 (pt l k).1) ∧ w'.cell? ⟨g, off + k * 2 + 1, none⟩ = some (.int .i64 (pt l k).2) ∧ w'.cell? ⟨g, off + j * 2, none⟩ = some (.int .i64 (pt l j).1) ∧ w'.cell? ⟨g, off + j * 2 + 1, none⟩ = some (.int .i64 (pt l j).2) ∧ w'.cell? ⟨w.heap.size, 0, none⟩ = some (.int .i64 px) ∧ w'.cell? ⟨w.heap.size, 1, none⟩ = some (.int .i64 py) from fun w' h => by
        have h' := hb0.trans (h.mono hb0.size)
        have h'' := hb.trans (h.mono hb.size)
        exact ⟨(h'.cell (p := ⟨g, off + k * 2, none⟩) hg).trans hx, (h'.cell (p := ⟨g, off + k * 2 + 1, none⟩) hg).trans hy, (h'.cell (p := ⟨g, off + j * 2, none⟩) hg).trans hx2, (h'.cell (p := ⟨g, off + j * 2 + 1, none⟩) hg).trans hy2, (P0.out.below h'').c0, (P0.out.below h'').c1⟩)
      clear hx hy hx2 hy2
      generalize pt l k = pb at *
      generalize pt l j = pc at *
      obtain ⟨bx, bz⟩ := pb
      obtain ⟨cx, cy⟩ := pc
      simp only at XS
      have CR := Lib.hid (fun w => OnR_any bx bz cx cy px py w)
      have i0 : (0 : Int) ≤ (k : Int) := by omega
      have i1 : (k : Int) < (l.length : Int) := by omega
      have i2 : (0 : Int) ≤ (j : Int) := by omega
      have i3 : (j : Int) < (l.length : Int) := by omega
      cases hq : onB (bx, bz) (cx, cy) (px, py) with
      | true =>
        rw [hq] at CR HE
        have HF := Lib.hid (show edgeB l (px, py) = true from anyB_true hlt HE.out)
        clear hq HE he
        go_wp2_with fail
        refine wp_region_noPanic ?_
        refine wp_region_held_drew (S := fun w' => Below wr.heap.size wr w') (by kernel_rfl) (Below.refl _ _).drew (fun hHeld => ?_)
        generalize wr.drew = D at hHeld ⊢
        have B1 : Below wr.heap.size wr D := hHeld
        refine wpAnyH_take (i := 0) (oi := ⟨some 12, _, _, _, _, _⟩) (v := ?qv0ea) rfl (by kernel_rfl) (by kernel_rfl) (by kernel_rfl) (fun _ _ _ h => h) (Or.inl ⟨by rfl, ?qy0ea⟩) hHeld ?qr0ea
        case qy0ea => (intro w' hSw; go_simp; try with_reducible rfl)
        try simp only [Act.put, List.setIfInBounds_toArray, List.set_cons_zero, List.set_cons_succ]
        refine wpAnyH_take (i := 1) (oi := ⟨some 13, _, _, _, _, _⟩) (v := ?qv1ea) rfl (by kernel_rfl) (by kernel_rfl) (by kernel_rfl) (fun _ _ _ h => h) (Or.inl ⟨by rfl, ?qy1ea⟩) hHeld ?qr1ea
        case qy1ea => (intro w' hSw; go_simp; try with_reducible rfl)
        try simp only [Act.put, List.setIfInBounds_toArray, List.set_cons_zero, List.set_cons_succ]
        refine wpAnyH_take (i := 2) (oi := ⟨some 14, _, _, _, _, _⟩) (v := ?qv2ea) rfl (by kernel_rfl) (by kernel_rfl) (by kernel_rfl) (fun _ _ _ h => h) (Or.inl ⟨by rfl, ?qy2ea⟩) hHeld ?qr2ea
        case qy2ea => (intro w' hSw; go_simp; try with_reducible rfl)
        try simp only [Act.put, List.setIfInBounds_toArray, List.set_cons_zero, List.set_cons_succ]
        refine wpAnyH_take (i := 3) (oi := ⟨some 15, _, _, _, _, _⟩) (v := ?qv3ea) rfl (by kernel_rfl) (by kernel_rfl) (by kernel_rfl) (fun _ _ _ h => h) (Or.inl ⟨by rfl, ?qy3ea⟩) hHeld ?qr3ea
        case qy3ea => (intro w' hSw; obtain ⟨z0, z1, z2, z3, z4, z5⟩ := XS.out w' hSw; go_simp; try with_reducible rfl)
        try simp only [Act.put, List.setIfInBounds_toArray, List.set_cons_zero, List.set_cons_succ]
        refine wpAnyH_take (i := 4) (oi := ⟨some 16, _, _, _, _, _⟩) (v := ?qv4ea) rfl (by kernel_rfl) (by kernel_rfl) (by kernel_rfl) (fun _ _ _ h => h) (Or.inl ⟨by rfl, ?qy4ea⟩) hHeld ?qr4ea
        case qy4ea => (intro w' hSw; go_simp; try with_reducible rfl)
        try simp only [Act.put, List.setIfInBounds_toArray, List.set_cons_zero, List.set_cons_succ]
        refine wpAnyH_take (i := 5) (oi := ⟨some 17, _, _, _, _, _⟩) (v := ?qv5ea) rfl (by kernel_rfl) (by kernel_rfl) (by kernel_rfl) (fun _ _ _ h => h) (Or.inl ⟨by rfl, ?qy5ea⟩) hHeld ?qr5ea
        case qy5ea => (intro w' hSw; go_simp; try with_reducible rfl)
        try simp only [Act.put, List.setIfInBounds_toArray, List.set_cons_zero, List.set_cons_succ]
        refine wpAnyH_take (i := 6) (oi := ⟨some 18, _, _, _, _, _⟩) (v := ?qv6ea) rfl (by kernel_rfl) (by kernel_rfl) (by kernel_rfl) (fun _ _ _ h => h) (Or.inl ⟨by rfl, ?qy6ea⟩) hHeld ?qr6ea
        case qy6ea => (intro w' hSw; go_simp; try with_reducible rfl)
        try simp only [Act.put, List.setIfInBounds_toArray, List.set_cons_zero, List.set_cons_succ]
        refine wpAnyH_take (i := 7) (oi := ⟨some 19, _, _, _, _, _⟩) (v := ?qv7ea) rfl (by kernel_rfl) (by kernel_rfl) (by kernel_rfl) (fun _ _ _ h => h) (Or.inl ⟨by rfl, ?qy7ea⟩) hHeld ?qr7ea
        case qy7ea => (intro w' hSw; go_simp; try with_reducible rfl)
        try simp only [Act.put, List.setIfInBounds_toArray, List.set_cons_zero, List.set_cons_succ]
        refine wpAnyH_take (i := 8) (oi := ⟨some 20, _, _, _, _, _⟩) (v := ?qv8ea) rfl (by kernel_rfl) (by kernel_rfl) (by kernel_rfl) (fun _ _ _ h => h) (Or.inl ⟨by rfl, ?qy8ea⟩) hHeld ?qr8ea
        case qy8ea => (intro w' hSw; go_simp; try with_reducible rfl)
        try simp only [Act.put, List.setIfInBounds_toArray, List.set_cons_zero, List.set_cons_succ]
        refine wpAnyH_take (i := 9) (oi := ⟨some 21, _, _, _, _, _⟩) (v := ?qv9ea) rfl (by kernel_rfl) (by kernel_rfl) (by kernel_rfl) (fun _ _ _ h => h) (Or.inl ⟨by rfl, ?qy9ea⟩) hHeld ?qr9ea
        case qy9ea => (intro w' hSw; go_simp; try with_reducible rfl)
        try simp only [Act.put, List.setIfInBounds_toArray, List.set_cons_zero, List.set_cons_succ]
        refine wpAnyH_take (i := 10) (oi := ⟨some 22, _, _, _, _, _⟩) (v := ?qv10ea) rfl (by kernel_rfl) (by kernel_rfl) (by kernel_rfl) (fun _ _ _ h => h) (Or.inl ⟨by rfl, ?qy10ea⟩) hHeld ?qr10ea
        case qy10ea => (intro w' hSw; go_simp; try with_reducible rfl)
        try simp only [Act.put, List.setIfInBounds_toArray, List.set_cons_zero, List.set_cons_succ]
        refine wpAnyH_take (i := 11) (oi := ⟨some 23, _, _, _, _, _⟩) (v := ?qv11ea) rfl (by kernel_rfl) (by kernel_rfl) (by kernel_rfl) (fun _ _ _ h => h) (Or.inl ⟨by rfl, ?qy11ea⟩) hHeld ?qr11ea
        case qy11ea => (intro w' hSw; obtain ⟨z0, z1, z2, z3, z4, z5⟩ := XS.out w' hSw; go_simp; try with_reducible rfl)
        try simp only [Act.put, List.setIfInBounds_toArray, List.set_cons_zero, List.set_cons_succ]
        refine wpAnyH_take (i := 12) (oi := ⟨some 24, _, _, _, _, _⟩) (v := ?qv12ea) rfl (by kernel_rfl) (by kernel_rfl) (by kernel_rfl) (fun _ _ _ h => h) (Or.inl ⟨by rfl, ?qy12ea⟩) hHeld ?qr12ea
        case qy12ea => (intro w' hSw; obtain ⟨z0, z1, z2, z3, z4, z5⟩ := XS.out w' hSw; go_simp; try with_reducible rfl)
        try simp only [Act.put, List.setIfInBounds_toArray, List.set_cons_zero, List.set_cons_succ]
        refine wpAnyH_ready (rs := [13]) (by kernel_rfl) (by simp) ?_
        refine AllReadyH.cons (o := ⟨some 25, _, _, _, _, _⟩) rfl (fun K hK => ?_) AllReadyH.nil
        refine step_go (by rfl) 22 _ _ (by rfl) (fun _ _ => by kernel_rfl) _ (by rfl) (CR.out _) ?_
        rintro e w7 ⟨rfl, b7⟩
        refine ⟨_, rfl, ?_⟩
        have B3 := B1.trans (b7.mono B1.size)
        refine hK.out _ _ (B3) (fun hHeld => ?_)
        clear hK K
        try simp only [Act.put, List.setIfInBounds_toArray, List.set_cons_zero, List.set_cons_succ]
        refine wpAnyH_done (by kernel_rfl) ?_ _
        refine NoPanic.normal ?_
        have hb2 := hb0.trans (B3.mono hb0.size)
        go_wp2_with fail
        go_ret
        exact ⟨by rw [HF.out]; rfl, hb2⟩
      | false =>
        rw [hq] at CR HE
        have HF := Lib.hid (show ∀ j, j < k + 1 → edgeAt l (px, py) j = false from fun j h' => by
          rcases Nat.lt_succ_iff_lt_or_eq.1 h' with h' | h'
          · exact he.out j h'
          · rw [h', HE.out])
        clear hq HE he
        go_wp2_with fail
        refine wp_region_noPanic ?_
        refine wp_region_held_drew (S := fun w' => Below wr.heap.size wr w') (by kernel_rfl) (Below.refl _ _).drew (fun hHeld => ?_)
        generalize wr.drew = D at hHeld ⊢
        have B1 : Below wr.heap.size wr D := hHeld
        refine wpAnyH_take (i := 0) (oi := ⟨some 12, _, _, _, _, _⟩) (v := ?qv0eb) rfl (by kernel_rfl) (by kernel_rfl) (by kernel_rfl) (fun _ _ _ h => h) (Or.inl ⟨by rfl, ?qy0eb⟩) hHeld ?qr0eb
        case qy0eb => (intro w' hSw; go_simp; try with_reducible rfl)
        try simp only [Act.put, List.setIfInBounds_toArray, List.set_cons_zero, List.set_cons_succ]
        refine wpAnyH_take (i := 1) (oi := ⟨some 13, _, _, _, _, _⟩) (v := ?qv1eb) rfl (by kernel_rfl) (by kernel_rfl) (by kernel_rfl) (fun _ _ _ h => h) (Or.inl ⟨by rfl, ?qy1eb⟩) hHeld ?qr1eb
        case qy1eb => (intro w' hSw; go_simp; try with_reducible rfl)
        try simp only [Act.put, List.setIfInBounds_toArray, List.set_cons_zero, List.set_cons_succ]
        refine wpAnyH_take (i := 2) (oi := ⟨some 14, _, _, _, _, _⟩) (v := ?qv2eb) rfl (by kernel_rfl) (by kernel_rfl) (by kernel_rfl) (fun _ _ _ h => h) (Or.inl ⟨by rfl, ?qy2eb⟩) hHeld ?qr2eb
        case qy2eb => (intro w' hSw; go_simp; try with_reducible rfl)
        try simp only [Act.put, List.setIfInBounds_toArray, List.set_cons_zero, List.set_cons_succ]
        refine wpAnyH_take (i := 3) (oi := ⟨some 15, _, _, _, _, _⟩) (v := ?qv3eb) rfl (by kernel_rfl) (by kernel_rfl) (by kernel_rfl) (fun _ _ _ h => h) (Or.inl ⟨by rfl, ?qy3eb⟩) hHeld ?qr3eb
        case qy3eb => (intro w' hSw; obtain ⟨z0, z1, z2, z3, z4, z5⟩ := XS.out w' hSw; go_simp; try with_reducible rfl)
        try simp only [Act.put, List.setIfInBounds_toArray, List.set_cons_zero, List.set_cons_succ]
        refine wpAnyH_take (i := 4) (oi := ⟨some 16, _, _, _, _, _⟩) (v := ?qv4eb) rfl (by kernel_rfl) (by kernel_rfl) (by kernel_rfl) (fun _ _ _ h => h) (Or.inl ⟨by rfl, ?qy4eb⟩) hHeld ?qr4eb
        case qy4eb => (intro w' hSw; go_simp; try with_reducible rfl)
        try simp only [Act.put, List.setIfInBounds_toArray, List.set_cons_zero, List.set_cons_succ]
        refine wpAnyH_take (i := 5) (oi := ⟨some 17, _, _, _, _, _⟩) (v := ?qv5eb) rfl (by kernel_rfl) (by kernel_rfl) (by kernel_rfl) (fun _ _ _ h => h) (Or.inl ⟨by rfl, ?qy5eb⟩) hHeld ?qr5eb
        case qy5eb => (intro w' hSw; go_simp; try with_reducible rfl)
        try simp only [Act.put, List.setIfInBounds_toArray, List.set_cons_zero, List.set_cons_succ]
        refine wpAnyH_take (i := 6) (oi := ⟨some 18, _, _, _, _, _⟩) (v := ?qv6eb) rfl (by kernel_rfl) (by kernel_rfl) (by kernel_rfl) (fun _ _ _ h => h) (Or.inl ⟨by rfl, ?qy6eb⟩) hHeld ?qr6eb
        case qy6eb => (intro w' hSw; go_simp; try with_reducible rfl)
        try simp only [Act.put, List.setIfInBounds_toArray, List.set_cons_zero, List.set_cons_succ]
        refine wpAnyH_take (i := 7) (oi := ⟨some 19, _, _, _, _, _⟩) (v := ?qv7eb) rfl (by kernel_rfl) (by kernel_rfl) (by kernel_rfl) (fun _ _ _ h => h) (Or.inl ⟨by rfl, ?qy7eb⟩) hHeld ?qr7eb
        case qy7eb => (intro w' hSw; go_simp; try with_reducible rfl)
        try simp only [Act.put, List.setIfInBounds_toArray, List.set_cons_zero, List.set_cons_succ]
        refine wpAnyH_take (i := 8) (oi := ⟨some 20, _, _, _, _, _⟩) (v := ?qv8eb) rfl (by kernel_rfl) (by kernel_rfl) (by kernel_rfl) (fun _ _ _ h => h) (Or.inl ⟨by rfl, ?qy8eb⟩) hHeld ?qr8eb
        case qy8eb => (intro w' hSw; go_simp; try with_reducible rfl)
        try simp only [Act.put, List.setIfInBounds_toArray, List.set_cons_zero, List.set_cons_succ]
        refine wpAnyH_take (i := 9) (oi := ⟨some 21, _, _, _, _, _⟩) (v := ?qv9eb) rfl (by kernel_rfl) (by kernel_rfl) (by kernel_rfl) (fun _ _ _ h => h) (Or.inl ⟨by rfl, ?qy9eb⟩) hHeld ?qr9eb
        case qy9eb => (intro w' hSw; go_simp; try with_reducible rfl)
        try simp only [Act.put, List.setIfInBounds_toArray, List.set_cons_zero, List.set_cons_succ]
        refine wpAnyH_take (i := 10) (oi := ⟨some 22, _, _, _, _, _⟩) (v := ?qv10eb) rfl (by kernel_rfl) (by kernel_rfl) (by kernel_rfl) (fun _ _ _ h => h) (Or.inl ⟨by rfl, ?qy10eb⟩) hHeld ?qr10eb
        case qy10eb => (intro w' hSw; go_simp; try with_reducible rfl)
        try simp only [Act.put, List.setIfInBounds_toArray, List.set_cons_zero, List.set_cons_succ]
        refine wpAnyH_take (i := 11) (oi := ⟨some 23, _, _, _, _, _⟩) (v := ?qv11eb) rfl (by kernel_rfl) (by kernel_rfl) (by kernel_rfl) (fun _ _ _ h => h) (Or.inl ⟨by rfl, ?qy11eb⟩) hHeld ?qr11eb
        case qy11eb => (intro w' hSw; obtain ⟨z0, z1, z2, z3, z4, z5⟩ := XS.out w' hSw; go_simp; try with_reducible rfl)
        try simp only [Act.put, List.setIfInBounds_toArray, List.set_cons_zero, List.set_cons_succ]
        refine wpAnyH_take (i := 12) (oi := ⟨some 24, _, _, _, _, _⟩) (v := ?qv12eb) rfl (by kernel_rfl) (by kernel_rfl) (by kernel_rfl) (fun _ _ _ h => h) (Or.inl ⟨by rfl, ?qy12eb⟩) hHeld ?qr12eb
        case qy12eb => (intro w' hSw; obtain ⟨z0, z1, z2, z3, z4, z5⟩ := XS.out w' hSw; go_simp; try with_reducible rfl)
        try simp only [Act.put, List.setIfInBounds_toArray, List.set_cons_zero, List.set_cons_succ]
        refine wpAnyH_ready (rs := [13]) (by kernel_rfl) (by simp) ?_
        refine AllReadyH.cons (o := ⟨some 25, _, _, _, _, _⟩) rfl (fun K hK => ?_) AllReadyH.nil
        refine step_go (by rfl) 22 _ _ (by rfl) (fun _ _ => by kernel_rfl) _ (by rfl) (CR.out _) ?_
        rintro e w7 ⟨rfl, b7⟩
        refine ⟨_, rfl, ?_⟩
        have B3 := B1.trans (b7.mono B1.size)
        refine hK.out _ _ (B3) (fun hHeld => ?_)
        clear hK K
        try simp only [Act.put, List.setIfInBounds_toArray, List.set_cons_zero, List.set_cons_succ]
        refine wpAnyH_done (by kernel_rfl) ?_ _
        refine NoPanic.normal ?_
        have hb2 := hb.trans (B3.mono hb.size)
        go_wp2_with fail
        go_roundw
        case rel => exact ⟨k + 1, by omega, by go_num, HF, hb2⟩
        case measure => simp [intOf]; omega
    · have t1 : decide ((k : Int) < (l.length : Int)) = false := by simp; omega
      have HF := Lib.hid (show edgeB l (px, py) = false from anyB_false fun i hi => he.out i (by omega))
      have hb0 := B0.trans (hb.mono B0.size)
      clear he
      go_wp2_with fail
      go_ret
      exact ⟨by rw [HF.out]; rfl, hb0⟩

theorem wrap64_i64 (x : Int) : wrap64 x = IntKind.i64.wrap x := by
  simp only [wrap64, IntKind.wrap, IntKind.bits, IntKind.signed]
  simp
  split <;> omega
/-- a term of the document's area -/
def termC (l : List Pt) (g : Nat) : Int := pxI l g * pyI l (nxI l g) - pyI l g * pxI l (nxI l g)
theorem mul_inP {a b : Int} (ha : inC a) (hb : inC b) : -1152921502459363329 ≤ a * b ∧ a * b ≤ 1152921502459363329 := by
  obtain ⟨a1, a2⟩ := ha
  obtain ⟨b1, b2⟩ := hb
  have := mul_bd a b 1073741823 a1 a2 b1 b2
  omega

set_option maxRecDepth 100000 in
set_option maxHeartbeats 1000000 in
theorem areaR_ok (v : Value) (l : List (Int × Int)) (w : World) (hv : Pts w v l) (hl : allP l = true) (h3 : 3 ≤ l.length) (h64 : l.length ≤ 64) :
    Calls Tryd.prog 50 #[v] w fun e w' => e = .returned (.int .i64 (areaV l)) ∧ Below w.heap.size w w' := by
  rw [areaV_C (by omega)]
  have hv0 := hv
  obtain ⟨ao, c, rfl, h1, h2, h0, h3'⟩ := hv.open
  obtain ⟨g, off, rfl, hg0, hq1, hq2⟩ := h3' 0 (by omega)
  have PC := Lib.hid (show ∀ k (hk : k < l.length), _ from fun k hk => pt_cell hv0 hk)
  have OK := Lib.hid (show ∀ k (hk : k < l.length), inP (pt l k).1 (pt l k).2 from fun k hk => okP_inP (pt_ok hl hk))
  unfold maxLen at h2
  clear h0 h3' hq1 hq2 hv hv0 hl hg0
  go_enter Tryd.func50, Tryd.ntmps50
  go_wp2_with fail
  go_loopw [3, 4] (fun s i wr => ∃ k : Nat, k ≤ l.length ∧ i = .int .i64 k ∧ s = .int .i64 (IntKind.i64.wrap (Jord.sumN (termC l) k)) ∧ Below w.heap.size w wr) (fun _ i _ => l.length - (intOf i).toNat)
  case atStart => exact ⟨0, Nat.zero_le _, rfl, rfl, Below.refl _ _⟩
  case round =>
    obtain ⟨k, hk, rfl, rfl, hb⟩ := hrel
    by_cases hlt : k < l.length
    · have t1 : decide ((k : Int) < (l.length : Int)) = true := by simp; omega
      have hm : (k + 1) % l.length < l.length := Nat.mod_lt _ (by omega)
      obtain ⟨hg, hx1, hy1⟩ := PC.out k hlt
      obtain ⟨_, hx2, hy2⟩ := PC.out _ hm
      have oa := OK.out k hlt
      have ob := OK.out _ hm
      have M3 : ((k : Int) + 1) % (l.length : Int) = (((k + 1) % l.length : Nat) : Int) := by rw [Int.natCast_emod]; rfl
      have hz : ((l.length : Int) == 0) = false := beq_eq_false_iff_ne.2 (by omega)
      have HA := Lib.hid (show Jord.sumN (termC l) (k + 1) = Jord.sumN (termC l) k + ((pt l k).1 * (pt l ((k + 1) % l.length)).2 - (pt l k).2 * (pt l ((k + 1) % l.length)).1) from rfl)
      generalize hj : (k + 1) % l.length = j at *
      clear hj
      have xa := (hb.cell (p := ⟨g, off + k * 2, none⟩) hg).trans hx1
      have ya := (hb.cell (p := ⟨g, off + k * 2 + 1, none⟩) hg).trans hy1
      have xb := (hb.cell (p := ⟨g, off + j * 2, none⟩) hg).trans hx2
      have yb := (hb.cell (p := ⟨g, off + j * 2 + 1, none⟩) hg).trans hy2
      have hgr : g < wr.heap.size := Nat.lt_of_lt_of_le hg hb.size
      clear hx1 hy1 hx2 hy2
      generalize pt l k = pa at *
      generalize pt l j = pb at *
      obtain ⟨ax, ay⟩ := pa
      obtain ⟨bx, bz⟩ := pb
      simp only at oa ob xa ya xb yb HA
      have m1 := mul_inP oa.1 ob.2
      have m2 := mul_inP ob.1 oa.2
      have e1 : wrap64 (ax * bz) = ax * bz := by rw [wrap64_i64, IntWalk.i64_in _ (by omega)]
      have e2 : wrap64 (bx * ay) = bx * ay := by rw [wrap64_i64, IntWalk.i64_in _ (by omega)]
      have e3 : wrap64 (ax * bz - bx * ay) = ax * bz - bx * ay := by rw [wrap64_i64, IntWalk.i64_in _ (by omega)]
      have HW := Lib.hid (show wrap64 (IntKind.i64.wrap (Jord.sumN (termC l) k) + wrap64 (wrap64 (ax * bz) - wrap64 (bx * ay))) = IntKind.i64.wrap (Jord.sumN (termC l) (k + 1)) by rw [e1, e2, e3, wrap64_i64, HA.out, wrap_i64_add, Int.mul_comm bx ay])
      generalize hzz : IntKind.i64.wrap (Jord.sumN (termC l) (k + 1)) = z at *
      have HZ := Lib.hid hzz
      generalize IntKind.i64.wrap (Jord.sumN (termC l) k) = y at *
      clear e1 e2 e3
      have i0 : (0 : Int) ≤ (k : Int) := by omega
      have i1 : (k : Int) < (l.length : Int) := by omega
      have i2 : (0 : Int) ≤ (j : Int) := by omega
      have i3 : (j : Int) < (l.length : Int) := by omega
      clear oa ob HA hzz m1 m2
      have hb2 := (hb.alloc hb.size (.cells #[.int .i64 ax, .int .i64 ay] 24))
      have hb3 := hb2.alloc hb2.size (.cells #[.int .i64 bx, .int .i64 bz] 24)
      go_wp2_with fail
      go_roundw
      case rel => exact ⟨k + 1, by omega, by go_num, by rw [HZ.out, HW.out], hb3⟩
      case measure => simp [intOf]; omega
    · have t1 : decide ((k : Int) < (l.length : Int)) = false := by simp; omega
      obtain rfl : k = l.length := by omega
      have HZ := Lib.hid (show IntKind.i64.wrap (areaC l) = IntKind.i64.wrap (Jord.sumN (termC l) l.length) from rfl)
      generalize IntKind.i64.wrap (Jord.sumN (termC l) l.length) = z at *
      go_wp2_with fail
      go_ret
      exact ⟨by rw [HZ.out]; rfl, hb⟩

/-! ### has -/
theorem swapB {a b p : Pt} (h : b.2 < a.2) (l : List Pt) (k : Nat) (ha : pt l k = a) (hb : pt l ((k + 1) % l.length) = b) : crossAt l p k = (decide (b.2 ≤ p.2) && (decide (p.2 < a.2) && decide (0 < crs b a p))) := by
  unfold crossAt
  simp only [ha, hb]
  rw [if_pos h]
theorem noswapB {a b p : Pt} (h : ¬ b.2 < a.2) (l : List Pt) (k : Nat) (ha : pt l k = a) (hb : pt l ((k + 1) % l.length) = b) : crossAt l p k = (decide (a.2 ≤ p.2) && (decide (p.2 < b.2) && decide (0 < crs a b p))) := by
  unfold crossAt
  simp only [ha, hb]
  rw [if_neg h]

set_option maxRecDepth 100000 in
set_option maxHeartbeats 4000000 in
theorem hasR_ok (v : Value) (l : List (Int × Int)) (px py : Int) (w : World) (hv : Pts w v l) (hl : allP l = true) (hp : okP (px, py) = true) (h64 : l.length ≤ 64) :
    Calls Tryd.prog 51 #[v, .agg #[.int .i64 px, .int .i64 py]] w fun e w' => e = .returned (.bool (edgeB l (px, py) || crossTo l (px, py) l.length)) ∧ Below w.heap.size w w' := by
  have B0 : Below w.heap.size w (w.alloc (.cells #[.int .i64 px, .int .i64 py] 24)) := (Below.refl _ _).alloc (Nat.le_refl _) _
  have P0 := Lib.hid (pair_alloc w px py 24 w.heap.size rfl)
  have EG := Lib.hid (edgeR_any v l px py _ (hv.below B0))
  have op := okP_inP hp
  have hv0 := hv
  obtain ⟨ao, c, rfl, h1, h2, h0, h3'⟩ := hv.open
  have OK := Lib.hid (show ∀ k (hk : k < l.length), inP (pt l k).1 (pt l k).2 from fun k hk => okP_inP (pt_ok hl hk))
  have H0 := Lib.hid (show ∀ i (h : i < l.length), ∃ b off, ao = some ⟨b, off, none⟩ ∧ b < w.heap.size ∧ w.cell? ⟨b, off + i * 2, none⟩ = some (.int .i64 (pt l i).1) ∧ w.cell? ⟨b, off + i * 2 + 1, none⟩ = some (.int .i64 (pt l i).2) from fun i h => by rw [pt_get l i h]; exact h3' i h)
  unfold maxLen at h2
  clear h0 h3' hv hv0 hl hp
  obtain ⟨y0, y1⟩ := P0.out
  cases hq : edgeB l (px, py) with
  | true =>
    rw [hq] at EG
    clear hq
    go_enter Tryd.func51, Tryd.ntmps51
    go_wp2_with fail
    refine EG.out.mono ?_
    rintro e w3 ⟨rfl, b3⟩
    go_wp2_with fail
    go_ret
    exact ⟨rfl, B0.trans (b3.mono B0.size)⟩
  | false =>
    rw [hq] at EG
    have HF := Lib.hid (show (edgeB l (px, py) || crossTo l (px, py) l.length) = crossTo l (px, py) l.length by rw [hq]; rfl)
    clear hq
    go_enter Tryd.func51, Tryd.ntmps51
    go_wp2_with fail
    refine EG.out.mono ?_
    rintro e w3 ⟨rfl, b3⟩
    have B3 := B0.trans (b3.mono B0.size)
    have PX := Lib.hid (P0.out.below b3)
    have hw3 : w.heap.size < w3.heap.size := Nat.lt_of_lt_of_le (by simp) b3.size
    clear y0 y1
    go_wp2_with fail
    go_loopw [5, 6] (fun s i wr => ∃ k : Nat, k ≤ l.length ∧ i = .int .i64 k ∧ s = .bool (crossTo l (px, py) k) ∧ Below w3.heap.size w3 wr) (fun _ i _ => l.length - (intOf i).toNat)
    case atStart => exact ⟨0, Nat.zero_le _, rfl, rfl, Below.refl _ _⟩
    case round =>
      obtain ⟨k, hk, rfl, rfl, hb⟩ := hrel
      have hb0 := B3.trans (hb.mono B3.size)
      obtain ⟨y0, y1⟩ := PX.out.below hb
      by_cases hlt : k < l.length
      · have t1 : decide ((k : Int) < (l.length : Int)) = true := by simp; omega
        have hm : (k + 1) % l.length < l.length := Nat.mod_lt _ (by omega)
        obtain ⟨g, off, rfl, hg, hx1, hy1⟩ := H0.out k hlt
        obtain ⟨_, _, ee, _, hx2, hy2⟩ := H0.out _ hm
        cases ee
        have oa := OK.out k hlt
        have ob := OK.out _ hm
        have M3 : ((k : Int) + 1) % (l.length : Int) = (((k + 1) % l.length : Nat) : Int) := by rw [Int.natCast_emod]; rfl
        have hz : ((l.length : Int) == 0) = false := beq_eq_false_iff_ne.2 (by omega)
        have HT := Lib.hid (show crossTo l (px, py) (k + 1) = if crossAt l (px, py) k then !crossTo l (px, py) k else crossTo l (px, py) k from rfl)
        have HC := Lib.hid (show ∀ a b : Pt, pt l k = a → pt l ((k + 1) % l.length) = b → b.2 < a.2 → crossAt l (px, py) k = _ from fun a b h1 h2 h => swapB (p := (px, py)) h l k h1 h2)
        have HD := Lib.hid (show ∀ a b : Pt, pt l k = a → pt l ((k + 1) % l.length) = b → ¬ b.2 < a.2 → crossAt l (px, py) k = _ from fun a b h1 h2 h => noswapB (p := (px, py)) h l k h1 h2)
        generalize hpa : pt l k = pa at *
        generalize hpb : pt l ((k + 1) % l.length) = pb at *
        clear hpa hpb
        generalize hj : (k + 1) % l.length = j at *
        clear hj
        have xa := (hb0.cell (p := ⟨g, off + k * 2, none⟩) hg).trans hx1
        have ya := (hb0.cell (p := ⟨g, off + k * 2 + 1, none⟩) hg).trans hy1
        have xb := (hb0.cell (p := ⟨g, off + j * 2, none⟩) hg).trans hx2
        have yb := (hb0.cell (p := ⟨g, off + j * 2 + 1, none⟩) hg).trans hy2
        have hgr : g < wr.heap.size := Nat.lt_of_lt_of_le hg hb0.size
        have hwr : w.heap.size < wr.heap.size := Nat.lt_of_lt_of_le hw3 hb.size
        clear hx1 hy1 hx2 hy2
        obtain ⟨ax, ay⟩ := pa
        obtain ⟨bx, bz⟩ := pb
        simp only at oa ob xa ya xb yb
        have i0 : (0 : Int) ≤ (k : Int) := by omega
        have i1 : (k : Int) < (l.length : Int) := by omega
        have i2 : (0 : Int) ≤ (j : Int) := by omega
        have i3 : (j : Int) < (l.length : Int) := by omega
        have hb2 := (hb.alloc hb.size (.cells #[.int .i64 ax, .int .i64 ay] 24))
        have hb3 := hb2.alloc hb2.size (.cells #[.int .i64 bx, .int .i64 bz] 24)
        generalize crossTo l (px, py) k = inq at *
        have oc := op
        by_cases c1 : bz < ay
        · have HX := Lib.hid (HC.out _ _ rfl rfl c1)
          simp only at HX
          have t2 := decide_eq_true c1
          have CR := Lib.hid (fun w => CrossR_ok bx bz ax ay px py w ob oa oc)
          have HB := Lib.hid ((hb.alloc hb.size (.cells #[.int .i64 bx, .int .i64 bz] 24)).alloc (by have := hb.size; simp; omega) (.cells #[.int .i64 ax, .int .i64 ay] 24))
          generalize crs (bx, bz) (ax, ay) (px, py) = cr at *
          by_cases c2 : bz ≤ py
          · have t3 := decide_eq_true c2
            by_cases c3 : py < ay
            · have t4 := decide_eq_true c3
              rw [t3, t4] at HX
              clear c1 c2 c3 HC HD oa ob oc op hb2 hb3
              go_wp2_with fail
              refine (CR.out _).mono ?_
              rintro e w5 ⟨rfl, b5⟩
              have HB5 := Lib.hid (HB.out.trans (b5.mono HB.out.size))
              clear b5
              by_cases c4 : 0 < cr
              · have t5 := decide_eq_true c4
                rw [t5] at HX
                go_wp2_with fail
                go_roundw
                case rel => exact ⟨k + 1, by omega, by go_num, by rw [HT.out, HX.out]; rfl, HB5.out⟩
                case measure => simp [intOf]; omega
              · have t5 := decide_eq_false c4
                rw [t5] at HX
                go_wp2_with fail
                go_roundw
                case rel => exact ⟨k + 1, by omega, by go_num, by rw [HT.out, HX.out]; rfl, HB5.out⟩
                case measure => simp [intOf]; omega
            · have t4 := decide_eq_false c3
              rw [t3, t4] at HX
              clear c3
              clear c1 c2 HC HD oa ob oc op hb2 hb3
              go_wp2_with fail
              go_roundw
              case rel => exact ⟨k + 1, by omega, by go_num, by rw [HT.out, HX.out]; rfl, HB.out⟩
              case measure => simp [intOf]; omega
          · have t3 := decide_eq_false c2
            rw [t3] at HX
            clear c1 c2 HC HD oa ob oc op hb2 hb3
            go_wp2_with fail
            go_roundw
            case rel => exact ⟨k + 1, by omega, by go_num, by rw [HT.out, HX.out]; rfl, HB.out⟩
            case measure => simp [intOf]; omega
        · have HX := Lib.hid (HD.out _ _ rfl rfl c1)
          simp only at HX
          have t2 := decide_eq_false c1
          have CR := Lib.hid (fun w => CrossR_ok ax ay bx bz px py w oa ob oc)
          have HB := Lib.hid hb3
          generalize crs (ax, ay) (bx, bz) (px, py) = cr at *
          by_cases c2 : ay ≤ py
          · have t3 := decide_eq_true c2
            by_cases c3 : py < bz
            · have t4 := decide_eq_true c3
              rw [t3, t4] at HX
              clear c1 c2 c3 HC HD oa ob oc op hb2 hb3
              go_wp2_with fail
              refine (CR.out _).mono ?_
              rintro e w5 ⟨rfl, b5⟩
              have HB5 := Lib.hid (HB.out.trans (b5.mono HB.out.size))
              clear b5
              by_cases c4 : 0 < cr
              · have t5 := decide_eq_true c4
                rw [t5] at HX
                go_wp2_with fail
                go_roundw
                case rel => exact ⟨k + 1, by omega, by go_num, by rw [HT.out, HX.out]; rfl, HB5.out⟩
                case measure => simp [intOf]; omega
              · have t5 := decide_eq_false c4
                rw [t5] at HX
                go_wp2_with fail
                go_roundw
                case rel => exact ⟨k + 1, by omega, by go_num, by rw [HT.out, HX.out]; rfl, HB5.out⟩
                case measure => simp [intOf]; omega
            · have t4 := decide_eq_false c3
              rw [t3, t4] at HX
              clear c3
              clear c1 c2 HC HD oa ob oc op hb2 hb3
              go_wp2_with fail
              go_roundw
              case rel => exact ⟨k + 1, by omega, by go_num, by rw [HT.out, HX.out]; rfl, HB.out⟩
              case measure => simp [intOf]; omega
          · have t3 := decide_eq_false c2
            rw [t3] at HX
            clear c1 c2 HC HD oa ob oc op hb2 hb3
            go_wp2_with fail
            go_roundw
            case rel => exact ⟨k + 1, by omega, by go_num, by rw [HT.out, HX.out]; rfl, HB.out⟩
            case measure => simp [intOf]; omega
      · have t1 : decide ((k : Int) < (l.length : Int)) = false := by simp; omega
        obtain rfl : k = l.length := by omega
        generalize hs : crossTo l (px, py) l.length = s at *
        have HS := Lib.hid hs
        clear hs
        go_wp2_with fail
        go_ret
        exact ⟨by rw [HS.out]; rfl, hb0⟩
end Go.Proofs.YtpmngdgifdkohaaDoor
