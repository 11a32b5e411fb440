/- segm.On. (printed by wip/gen_on.py) -/
import Derived.Test.YthcfekabeidmiaaRRDoorREo2
set_option linter.unusedSimpArgs false
set_option linter.unusedVariables false

namespace Go.Proofs.YthcfekabeidmiaaRRDoorR
open Go.RowKit

/-- three points in blocks one behind the other -/
structure Tri (w : World) (g : Nat) (ax ay bx bz px py : Int) : Prop where
  a : Pair w g ax ay
  b : Pair w (g + 1) bx bz
  p : Pair w (g + 1 + 1) px py
theorem Tri.below {w w' : World} {g : Nat} {ax ay bx bz px py : Int} (h : Tri w g ax ay bx bz px py) (hb : Below w.heap.size w w') : Tri w' g ax ay bx bz px py := ⟨h.a.below hb, h.b.below hb, h.p.below hb⟩
theorem tri_alloc (w : World) (T : TypeId) (ax ay bx bz px py : Int) : Tri (((w.alloc (.cells #[.int .i64 ax, .int .i64 ay] T)).alloc (.cells #[.int .i64 bx, .int .i64 bz] T)).alloc (.cells #[.int .i64 px, .int .i64 py] T)) w.heap.size ax ay bx bz px py :=
  ⟨((pair_alloc w ax ay T w.heap.size rfl).alloc _).alloc _, (pair_alloc (w.alloc _) bx bz T (w.heap.size + 1) (by simp)).alloc _, pair_alloc ((w.alloc _).alloc _) px py T (w.heap.size + 1 + 1) (by simp)⟩
theorem Tri.cells {w : World} {g : Nat} {ax ay bx bz px py : Int} (h : Tri w g ax ay bx bz px py) :
    w.cell? ⟨g, 0, none⟩ = some (.int .i64 ax) ∧ w.cell? ⟨g, 1, none⟩ = some (.int .i64 ay) ∧ w.cell? ⟨g + 1, 0, none⟩ = some (.int .i64 bx) ∧ w.cell? ⟨g + 1, 1, none⟩ = some (.int .i64 bz) ∧ w.cell? ⟨g + 1 + 1, 0, none⟩ = some (.int .i64 px) ∧ w.cell? ⟨g + 1 + 1, 1, none⟩ = some (.int .i64 py) :=
  ⟨h.a.c0, h.a.c1, h.b.c0, h.b.c1, h.p.c0, h.p.c1⟩

set_option maxRecDepth 100000 in
theorem On_bad (ax ay bx bz px py : Int) (w : World) (h : allP [(ax, ay), (bx, bz), (px, py)] = false) :
    Calls Tryd.prog 57 #[.agg #[.int .i64 ax, .int .i64 ay], .agg #[.int .i64 bx, .int .i64 bz], .agg #[.int .i64 px, .int .i64 py]] w fun e w' => e = .returned (.bool false) ∧ Below w.heap.size w w' := by
  have M := Lib.hid (fun g w q => segmMay_any (.slice (some ⟨g, 0, none⟩) 3 3) [(ax, ay), (bx, bz), (px, py)] w q)
  rw [h] at M
  clear h
  have B0 : Below w.heap.size w (((w.alloc (.cells #[.int .i64 ax, .int .i64 ay] 43)).alloc (.cells #[.int .i64 bx, .int .i64 bz] 43)).alloc (.cells #[.int .i64 px, .int .i64 py] 43)) := (((Below.refl _ _).alloc (Nat.le_refl _) _).alloc (by simp) _).alloc (by simp; omega) _
  have T0 := tri_alloc w 43 ax ay bx bz px py
  generalize hW : ((w.alloc (.cells #[.int .i64 ax, .int .i64 ay] 43)).alloc (.cells #[.int .i64 bx, .int .i64 bz] 43)).alloc (.cells #[.int .i64 px, .int .i64 py] 43) = W at B0 T0
  have XS := Lib.hid (show ∀ w', Below W.heap.size W w' → _ from fun w' hb => (Tri.below T0 hb).cells)
  obtain ⟨y0, y1, y2, y3, y4, y5⟩ := T0.cells
  clear T0
  go_enter Tryd.func57, Tryd.ntmps57
  go_wp2_with fail
  clear y0 y1 y2 y3 y4 y5 hW
  refine wp_region_noPanic ?_
  refine wp_region_held_drew (S := fun w' => Below W.heap.size W w') (by kernel_rfl) (Below.refl _ _).drew (fun hHeld => ?_)
  generalize W.drew = D at hHeld ⊢
  have B1 : Below W.heap.size W D := hHeld
  refine wpAnyH_take (i := 0) (oi := ⟨some 7, _, _, _, _, _⟩) (v := ?qv0) rfl (by kernel_rfl) (by kernel_rfl) (by kernel_rfl) (fun _ _ _ h => h) (Or.inl ⟨by rfl, ?qy0⟩) hHeld ?qr0
  case qy0 => (intro w' hSw; obtain ⟨z0, z1, z2, z3, z4, z5⟩ := XS.out w' hSw; go_simp; try with_reducible rfl)
  try simp only [Act.put, List.setIfInBounds_toArray, List.set_cons_zero, List.set_cons_succ]
  refine wpAnyH_take (i := 1) (oi := ⟨some 8, _, _, _, _, _⟩) (v := ?qv1) rfl (by kernel_rfl) (by kernel_rfl) (by kernel_rfl) (fun _ _ _ h => h) (Or.inl ⟨by rfl, ?qy1⟩) hHeld ?qr1
  case qy1 => (intro w' hSw; obtain ⟨z0, z1, z2, z3, z4, z5⟩ := XS.out w' hSw; go_simp; try with_reducible rfl)
  try simp only [Act.put, List.setIfInBounds_toArray, List.set_cons_zero, List.set_cons_succ]
  refine wpAnyH_take (i := 2) (oi := ⟨some 9, _, _, _, _, _⟩) (v := ?qv2) rfl (by kernel_rfl) (by kernel_rfl) (by kernel_rfl) (fun _ _ _ h => h) (Or.inl ⟨by rfl, ?qy2⟩) hHeld ?qr2
  case qy2 => (intro w' hSw; obtain ⟨z0, z1, z2, z3, z4, z5⟩ := XS.out w' hSw; go_simp; try with_reducible rfl)
  try simp only [Act.put, List.setIfInBounds_toArray, List.set_cons_zero, List.set_cons_succ]
  refine wpAnyH_ready (rs := [3]) (by kernel_rfl) (by simp) ?_
  refine AllReadyH.cons (o := ⟨some 10, _, _, _, _, _⟩) rfl (fun K hK => ?_) AllReadyH.nil
  go_simp
  refine hK.out _ _ (B1.alloc B1.size _) (fun hHeld => ?_)
  clear hK K
  try simp only [Act.put, List.setIfInBounds_toArray, List.set_cons_zero, List.set_cons_succ]
  refine wpAnyH_ready (rs := [4]) (by kernel_rfl) (by simp) ?_
  refine AllReadyH.cons (o := ⟨some 11, _, _, _, _, _⟩) rfl (fun K hK => ?_) AllReadyH.nil
  refine step_go (by rfl) 63 _ _ (by rfl) (fun _ _ => by kernel_rfl) _ (by rfl) (M.out _ _ (pts3 _ _ _ rfl _ _ _ _ _ _)) ?_
  rintro e w1 ⟨rfl, b1⟩
  refine ⟨_, rfl, ?_⟩
  have B2 := (B1.alloc B1.size (.cells #[.int .i64 ax, .int .i64 ay, .int .i64 bx, .int .i64 bz, .int .i64 px, .int .i64 py] 43))
  have B2 := B2.trans (b1.mono B2.size)
  refine hK.out _ _ (B2) (fun hHeld => ?_)
  clear hK K
  try simp only [Act.put, List.setIfInBounds_toArray, List.set_cons_zero, List.set_cons_succ]
  refine wpAnyH_take (i := 5) (oi := ⟨some 12, _, _, _, _, _⟩) (v := ?qv5) rfl (by kernel_rfl) (by kernel_rfl) (by kernel_rfl) (fun _ _ _ h => h) (Or.inl ⟨by rfl, ?qy5⟩) hHeld ?qr5
  case qy5 => (intro w' hSw; go_simp; try with_reducible rfl)
  try simp only [Act.put, List.setIfInBounds_toArray, List.set_cons_zero, List.set_cons_succ]
  refine wpAnyH_take (i := 6) (oi := ⟨some 13, _, _, _, _, _⟩) (v := undef) rfl (by kernel_rfl) (by kernel_rfl) (by kernel_rfl) (fun _ _ _ h => h) (Or.inr ⟨by rfl, rfl⟩) hHeld ?_
  try simp only [Act.put, List.setIfInBounds_toArray, List.set_cons_zero, List.set_cons_succ]
  refine wpAnyH_take (i := 7) (oi := ⟨some 14, _, _, _, _, _⟩) (v := undef) rfl (by kernel_rfl) (by kernel_rfl) (by kernel_rfl) (fun _ _ _ h => h) (Or.inr ⟨by rfl, rfl⟩) hHeld ?_
  try simp only [Act.put, List.setIfInBounds_toArray, List.set_cons_zero, List.set_cons_succ]
  refine wpAnyH_take (i := 8) (oi := ⟨some 15, _, _, _, _, _⟩) (v := undef) rfl (by kernel_rfl) (by kernel_rfl) (by kernel_rfl) (fun _ _ _ h => h) (Or.inr ⟨by rfl, rfl⟩) hHeld ?_
  try simp only [Act.put, List.setIfInBounds_toArray, List.set_cons_zero, List.set_cons_succ]
  refine wpAnyH_take (i := 9) (oi := ⟨some 16, _, _, _, _, _⟩) (v := undef) rfl (by kernel_rfl) (by kernel_rfl) (by kernel_rfl) (fun _ _ _ h => h) (Or.inr ⟨by rfl, rfl⟩) hHeld ?_
  try simp only [Act.put, List.setIfInBounds_toArray, List.set_cons_zero, List.set_cons_succ]
  refine wpAnyH_take (i := 10) (oi := ⟨some 17, _, _, _, _, _⟩) (v := undef) rfl (by kernel_rfl) (by kernel_rfl) (by kernel_rfl) (fun _ _ _ h => h) (Or.inr ⟨by rfl, rfl⟩) hHeld ?_
  try simp only [Act.put, List.setIfInBounds_toArray, List.set_cons_zero, List.set_cons_succ]
  refine wpAnyH_take (i := 11) (oi := ⟨some 18, _, _, _, _, _⟩) (v := ?qv11) rfl (by kernel_rfl) (by kernel_rfl) (by kernel_rfl) (fun _ _ _ h => h) (Or.inl ⟨by rfl, ?qy11⟩) hHeld ?qr11
  case qy11 => (intro w' hSw; go_simp; try with_reducible rfl)
  try simp only [Act.put, List.setIfInBounds_toArray, List.set_cons_zero, List.set_cons_succ]
  refine wpAnyH_take (i := 12) (oi := ⟨some 19, _, _, _, _, _⟩) (v := ?qv12) rfl (by kernel_rfl) (by kernel_rfl) (by kernel_rfl) (fun _ _ _ h => h) (Or.inl ⟨by rfl, ?qy12⟩) hHeld ?qr12
  case qy12 => (intro w' hSw; go_simp; try with_reducible rfl)
  try simp only [Act.put, List.setIfInBounds_toArray, List.set_cons_zero, List.set_cons_succ]
  refine wpAnyH_take (i := 13) (oi := ⟨some 20, _, _, _, _, _⟩) (v := undef) rfl (by kernel_rfl) (by kernel_rfl) (by kernel_rfl) (fun _ _ _ h => h) (Or.inr ⟨by rfl, rfl⟩) hHeld ?_
  try simp only [Act.put, List.setIfInBounds_toArray, List.set_cons_zero, List.set_cons_succ]
  refine wpAnyH_take (i := 14) (oi := ⟨some 21, _, _, _, _, _⟩) (v := undef) rfl (by kernel_rfl) (by kernel_rfl) (by kernel_rfl) (fun _ _ _ h => h) (Or.inr ⟨by rfl, rfl⟩) hHeld ?_
  try simp only [Act.put, List.setIfInBounds_toArray, List.set_cons_zero, List.set_cons_succ]
  refine wpAnyH_take (i := 15) (oi := ⟨some 22, _, _, _, _, _⟩) (v := undef) rfl (by kernel_rfl) (by kernel_rfl) (by kernel_rfl) (fun _ _ _ h => h) (Or.inr ⟨by rfl, rfl⟩) hHeld ?_
  try simp only [Act.put, List.setIfInBounds_toArray, List.set_cons_zero, List.set_cons_succ]
  refine wpAnyH_take (i := 16) (oi := ⟨some 23, _, _, _, _, _⟩) (v := undef) rfl (by kernel_rfl) (by kernel_rfl) (by kernel_rfl) (fun _ _ _ h => h) (Or.inr ⟨by rfl, rfl⟩) hHeld ?_
  try simp only [Act.put, List.setIfInBounds_toArray, List.set_cons_zero, List.set_cons_succ]
  refine wpAnyH_take (i := 17) (oi := ⟨some 24, _, _, _, _, _⟩) (v := undef) rfl (by kernel_rfl) (by kernel_rfl) (by kernel_rfl) (fun _ _ _ h => h) (Or.inr ⟨by rfl, rfl⟩) hHeld ?_
  try simp only [Act.put, List.setIfInBounds_toArray, List.set_cons_zero, List.set_cons_succ]
  refine wpAnyH_take (i := 18) (oi := ⟨some 25, _, _, _, _, _⟩) (v := ?qv18) rfl (by kernel_rfl) (by kernel_rfl) (by kernel_rfl) (fun _ _ _ h => h) (Or.inl ⟨by rfl, ?qy18⟩) hHeld ?qr18
  case qy18 => (intro w' hSw; go_simp; try with_reducible rfl)
  try simp only [Act.put, List.setIfInBounds_toArray, List.set_cons_zero, List.set_cons_succ]
  refine wpAnyH_take (i := 19) (oi := ⟨some 6, _, _, _, _, _⟩) (v := ?qv19) rfl (by kernel_rfl) (by kernel_rfl) (by kernel_rfl) (fun _ _ _ h => h) (Or.inl ⟨by rfl, ?qy19⟩) hHeld ?qr19
  case qy19 => (intro w' hSw; go_simp; try with_reducible rfl)
  try simp only [Act.put, List.setIfInBounds_toArray, List.set_cons_zero, List.set_cons_succ]
  refine wpAnyH_done (by kernel_rfl) ?_ _
  refine NoPanic.normal ?_
  go_wp2_with fail
  go_ret
  exact ⟨rfl, B0.trans (B2.mono B0.size)⟩
set_option maxRecDepth 100000 in
theorem On_off (ax ay bx bz px py : Int) (w : World) (ha : inP ax ay) (hb : inP bx bz) (hp : inP px py) (h : crs (ax, ay) (bx, bz) (px, py) ≠ 0) :
    Calls Tryd.prog 57 #[.agg #[.int .i64 ax, .int .i64 ay], .agg #[.int .i64 bx, .int .i64 bz], .agg #[.int .i64 px, .int .i64 py]] w fun e w' => e = .returned (.bool false) ∧ Below w.heap.size w w' := by
  have M := Lib.hid (fun g w q => segmMay_any (.slice (some ⟨g, 0, none⟩) 3 3) [(ax, ay), (bx, bz), (px, py)] w q)
  rw [show allP [(ax, ay), (bx, bz), (px, py)] = true by simp [allP, okP, ha, hb, hp]] at M
  have O := Lib.hid (fun w => Orient_ok ax ay bx bz px py w ha hb hp)
  have t1 : (sgn (crs (ax, ay) (bx, bz) (px, py)) == 0) = false := by simpa [sgn_zero] using h
  generalize sgn (crs (ax, ay) (bx, bz) (px, py)) = s at *
  clear h ha hb hp
  have B0 : Below w.heap.size w (((w.alloc (.cells #[.int .i64 ax, .int .i64 ay] 43)).alloc (.cells #[.int .i64 bx, .int .i64 bz] 43)).alloc (.cells #[.int .i64 px, .int .i64 py] 43)) := (((Below.refl _ _).alloc (Nat.le_refl _) _).alloc (by simp) _).alloc (by simp; omega) _
  have T0 := tri_alloc w 43 ax ay bx bz px py
  generalize hW : ((w.alloc (.cells #[.int .i64 ax, .int .i64 ay] 43)).alloc (.cells #[.int .i64 bx, .int .i64 bz] 43)).alloc (.cells #[.int .i64 px, .int .i64 py] 43) = W at B0 T0
  have XS := Lib.hid (show ∀ w', Below W.heap.size W w' → _ from fun w' hb => (Tri.below T0 hb).cells)
  obtain ⟨y0, y1, y2, y3, y4, y5⟩ := T0.cells
  clear T0
  go_enter Tryd.func57, Tryd.ntmps57
  go_wp2_with fail
  clear y0 y1 y2 y3 y4 y5 hW
  refine wp_region_noPanic ?_
  refine wp_region_held_drew (S := fun w' => Below W.heap.size W w') (by kernel_rfl) (Below.refl _ _).drew (fun hHeld => ?_)
  generalize W.drew = D at hHeld ⊢
  have B1 : Below W.heap.size W D := hHeld
  refine wpAnyH_take (i := 0) (oi := ⟨some 7, _, _, _, _, _⟩) (v := ?qv0) rfl (by kernel_rfl) (by kernel_rfl) (by kernel_rfl) (fun _ _ _ h => h) (Or.inl ⟨by rfl, ?qy0⟩) hHeld ?qr0
  case qy0 => (intro w' hSw; obtain ⟨z0, z1, z2, z3, z4, z5⟩ := XS.out w' hSw; go_simp; try with_reducible rfl)
  try simp only [Act.put, List.setIfInBounds_toArray, List.set_cons_zero, List.set_cons_succ]
  refine wpAnyH_take (i := 1) (oi := ⟨some 8, _, _, _, _, _⟩) (v := ?qv1) rfl (by kernel_rfl) (by kernel_rfl) (by kernel_rfl) (fun _ _ _ h => h) (Or.inl ⟨by rfl, ?qy1⟩) hHeld ?qr1
  case qy1 => (intro w' hSw; obtain ⟨z0, z1, z2, z3, z4, z5⟩ := XS.out w' hSw; go_simp; try with_reducible rfl)
  try simp only [Act.put, List.setIfInBounds_toArray, List.set_cons_zero, List.set_cons_succ]
  refine wpAnyH_take (i := 2) (oi := ⟨some 9, _, _, _, _, _⟩) (v := ?qv2) rfl (by kernel_rfl) (by kernel_rfl) (by kernel_rfl) (fun _ _ _ h => h) (Or.inl ⟨by rfl, ?qy2⟩) hHeld ?qr2
  case qy2 => (intro w' hSw; obtain ⟨z0, z1, z2, z3, z4, z5⟩ := XS.out w' hSw; go_simp; try with_reducible rfl)
  try simp only [Act.put, List.setIfInBounds_toArray, List.set_cons_zero, List.set_cons_succ]
  refine wpAnyH_ready (rs := [3]) (by kernel_rfl) (by simp) ?_
  refine AllReadyH.cons (o := ⟨some 10, _, _, _, _, _⟩) rfl (fun K hK => ?_) AllReadyH.nil
  go_simp
  refine hK.out _ _ (B1.alloc B1.size _) (fun hHeld => ?_)
  clear hK K
  try simp only [Act.put, List.setIfInBounds_toArray, List.set_cons_zero, List.set_cons_succ]
  refine wpAnyH_ready (rs := [4]) (by kernel_rfl) (by simp) ?_
  refine AllReadyH.cons (o := ⟨some 11, _, _, _, _, _⟩) rfl (fun K hK => ?_) AllReadyH.nil
  refine step_go (by rfl) 63 _ _ (by rfl) (fun _ _ => by kernel_rfl) _ (by rfl) (M.out _ _ (pts3 _ _ _ rfl _ _ _ _ _ _)) ?_
  rintro e w1 ⟨rfl, b1⟩
  refine ⟨_, rfl, ?_⟩
  have B2 := (B1.alloc B1.size (.cells #[.int .i64 ax, .int .i64 ay, .int .i64 bx, .int .i64 bz, .int .i64 px, .int .i64 py] 43))
  have B2 := B2.trans (b1.mono B2.size)
  refine hK.out _ _ (B2) (fun hHeld => ?_)
  clear hK K
  try simp only [Act.put, List.setIfInBounds_toArray, List.set_cons_zero, List.set_cons_succ]
  refine wpAnyH_take (i := 5) (oi := ⟨some 12, _, _, _, _, _⟩) (v := ?qv5) rfl (by kernel_rfl) (by kernel_rfl) (by kernel_rfl) (fun _ _ _ h => h) (Or.inl ⟨by rfl, ?qy5⟩) hHeld ?qr5
  case qy5 => (intro w' hSw; go_simp; try with_reducible rfl)
  try simp only [Act.put, List.setIfInBounds_toArray, List.set_cons_zero, List.set_cons_succ]
  refine wpAnyH_take (i := 6) (oi := ⟨some 13, _, _, _, _, _⟩) (v := ?qv6) rfl (by kernel_rfl) (by kernel_rfl) (by kernel_rfl) (fun _ _ _ h => h) (Or.inl ⟨by rfl, ?qy6⟩) hHeld ?qr6
  case qy6 => (intro w' hSw; obtain ⟨z0, z1, z2, z3, z4, z5⟩ := XS.out w' hSw; go_simp; try with_reducible rfl)
  try simp only [Act.put, List.setIfInBounds_toArray, List.set_cons_zero, List.set_cons_succ]
  refine wpAnyH_take (i := 7) (oi := ⟨some 14, _, _, _, _, _⟩) (v := ?qv7) rfl (by kernel_rfl) (by kernel_rfl) (by kernel_rfl) (fun _ _ _ h => h) (Or.inl ⟨by rfl, ?qy7⟩) hHeld ?qr7
  case qy7 => (intro w' hSw; obtain ⟨z0, z1, z2, z3, z4, z5⟩ := XS.out w' hSw; go_simp; try with_reducible rfl)
  try simp only [Act.put, List.setIfInBounds_toArray, List.set_cons_zero, List.set_cons_succ]
  refine wpAnyH_take (i := 8) (oi := ⟨some 15, _, _, _, _, _⟩) (v := ?qv8) rfl (by kernel_rfl) (by kernel_rfl) (by kernel_rfl) (fun _ _ _ h => h) (Or.inl ⟨by rfl, ?qy8⟩) hHeld ?qr8
  case qy8 => (intro w' hSw; obtain ⟨z0, z1, z2, z3, z4, z5⟩ := XS.out w' hSw; go_simp; try with_reducible rfl)
  try simp only [Act.put, List.setIfInBounds_toArray, List.set_cons_zero, List.set_cons_succ]
  refine wpAnyH_ready (rs := [9]) (by kernel_rfl) (by simp) ?_
  refine AllReadyH.cons (o := ⟨some 16, _, _, _, _, _⟩) rfl (fun K hK => ?_) AllReadyH.nil
  refine step_go (by rfl) 64 _ _ (by rfl) (fun _ _ => by kernel_rfl) _ (by rfl) (O.out _) ?_
  rintro e w2 ⟨rfl, b2⟩
  refine ⟨_, rfl, ?_⟩
  have B3 := B2.trans (b2.mono B2.size)
  refine hK.out _ _ (B3) (fun hHeld => ?_)
  clear hK K
  try simp only [Act.put, List.setIfInBounds_toArray, List.set_cons_zero, List.set_cons_succ]
  refine wpAnyH_take (i := 10) (oi := ⟨some 17, _, _, _, _, _⟩) (v := ?qv10) rfl (by kernel_rfl) (by kernel_rfl) (by kernel_rfl) (fun _ _ _ h => h) (Or.inl ⟨by rfl, ?qy10⟩) hHeld ?qr10
  case qy10 => (intro w' hSw; go_simp; try with_reducible rfl)
  try simp only [Act.put, List.setIfInBounds_toArray, List.set_cons_zero, List.set_cons_succ]
  refine wpAnyH_take (i := 11) (oi := ⟨some 18, _, _, _, _, _⟩) (v := ?qv11) rfl (by kernel_rfl) (by kernel_rfl) (by kernel_rfl) (fun _ _ _ h => h) (Or.inl ⟨by rfl, ?qy11⟩) hHeld ?qr11
  case qy11 => (intro w' hSw; go_simp; try with_reducible rfl)
  try simp only [Act.put, List.setIfInBounds_toArray, List.set_cons_zero, List.set_cons_succ]
  refine wpAnyH_take (i := 12) (oi := ⟨some 19, _, _, _, _, _⟩) (v := ?qv12) rfl (by kernel_rfl) (by kernel_rfl) (by kernel_rfl) (fun _ _ _ h => h) (Or.inl ⟨by rfl, ?qy12⟩) hHeld ?qr12
  case qy12 => (intro w' hSw; go_simp; try with_reducible rfl)
  try simp only [Act.put, List.setIfInBounds_toArray, List.set_cons_zero, List.set_cons_succ]
  refine wpAnyH_take (i := 13) (oi := ⟨some 20, _, _, _, _, _⟩) (v := undef) rfl (by kernel_rfl) (by kernel_rfl) (by kernel_rfl) (fun _ _ _ h => h) (Or.inr ⟨by rfl, rfl⟩) hHeld ?_
  try simp only [Act.put, List.setIfInBounds_toArray, List.set_cons_zero, List.set_cons_succ]
  refine wpAnyH_take (i := 14) (oi := ⟨some 21, _, _, _, _, _⟩) (v := undef) rfl (by kernel_rfl) (by kernel_rfl) (by kernel_rfl) (fun _ _ _ h => h) (Or.inr ⟨by rfl, rfl⟩) hHeld ?_
  try simp only [Act.put, List.setIfInBounds_toArray, List.set_cons_zero, List.set_cons_succ]
  refine wpAnyH_take (i := 15) (oi := ⟨some 22, _, _, _, _, _⟩) (v := undef) rfl (by kernel_rfl) (by kernel_rfl) (by kernel_rfl) (fun _ _ _ h => h) (Or.inr ⟨by rfl, rfl⟩) hHeld ?_
  try simp only [Act.put, List.setIfInBounds_toArray, List.set_cons_zero, List.set_cons_succ]
  refine wpAnyH_take (i := 16) (oi := ⟨some 23, _, _, _, _, _⟩) (v := undef) rfl (by kernel_rfl) (by kernel_rfl) (by kernel_rfl) (fun _ _ _ h => h) (Or.inr ⟨by rfl, rfl⟩) hHeld ?_
  try simp only [Act.put, List.setIfInBounds_toArray, List.set_cons_zero, List.set_cons_succ]
  refine wpAnyH_take (i := 17) (oi := ⟨some 24, _, _, _, _, _⟩) (v := undef) rfl (by kernel_rfl) (by kernel_rfl) (by kernel_rfl) (fun _ _ _ h => h) (Or.inr ⟨by rfl, rfl⟩) hHeld ?_
  try simp only [Act.put, List.setIfInBounds_toArray, List.set_cons_zero, List.set_cons_succ]
  refine wpAnyH_take (i := 18) (oi := ⟨some 25, _, _, _, _, _⟩) (v := ?qv18) rfl (by kernel_rfl) (by kernel_rfl) (by kernel_rfl) (fun _ _ _ h => h) (Or.inl ⟨by rfl, ?qy18⟩) hHeld ?qr18
  case qy18 => (intro w' hSw; go_simp; try with_reducible rfl)
  try simp only [Act.put, List.setIfInBounds_toArray, List.set_cons_zero, List.set_cons_succ]
  refine wpAnyH_take (i := 19) (oi := ⟨some 6, _, _, _, _, _⟩) (v := ?qv19) rfl (by kernel_rfl) (by kernel_rfl) (by kernel_rfl) (fun _ _ _ h => h) (Or.inl ⟨by rfl, ?qy19⟩) hHeld ?qr19
  case qy19 => (intro w' hSw; go_simp; try with_reducible rfl)
  try simp only [Act.put, List.setIfInBounds_toArray, List.set_cons_zero, List.set_cons_succ]
  refine wpAnyH_done (by kernel_rfl) ?_ _
  refine NoPanic.normal ?_
  go_wp2_with fail
  go_ret
  exact ⟨rfl, B0.trans (B3.mono B0.size)⟩
set_option maxRecDepth 100000 in
theorem On_line (ax ay bx bz px py : Int) (w : World) (ha : inP ax ay) (hb : inP bx bz) (hp : inP px py) (h : crs (ax, ay) (bx, bz) (px, py) = 0) :
    Calls Tryd.prog 57 #[.agg #[.int .i64 ax, .int .i64 ay], .agg #[.int .i64 bx, .int .i64 bz], .agg #[.int .i64 px, .int .i64 py]] w fun e w' => e = .returned (.bool (boxB (ax, ay) (bx, bz) (px, py))) ∧ Below w.heap.size w w' := by
  have M := Lib.hid (fun g w q => segmMay_any (.slice (some ⟨g, 0, none⟩) 3 3) [(ax, ay), (bx, bz), (px, py)] w q)
  rw [show allP [(ax, ay), (bx, bz), (px, py)] = true by simp [allP, okP, ha, hb, hp]] at M
  have O := Lib.hid (fun w => Orient_ok ax ay bx bz px py w ha hb hp)
  have t1 : sgn (crs (ax, ay) (bx, bz) (px, py)) = 0 := by simpa [sgn_zero] using h
  rw [t1] at O
  have SP := Lib.hid (fun w => span_any ax ay bx bz w)
  have hlo : inP (min ax bx) (min ay bz) := by obtain ⟨⟨_, _⟩, _, _⟩ := ha; obtain ⟨⟨_, _⟩, _, _⟩ := hb; refine ⟨⟨?_, ?_⟩, ?_, ?_⟩ <;> omega
  have hhi : inP (max ax bx) (max ay bz) := by obtain ⟨⟨_, _⟩, _, _⟩ := ha; obtain ⟨⟨_, _⟩, _, _⟩ := hb; refine ⟨⟨?_, ?_⟩, ?_, ?_⟩ <;> omega
  have HA := Lib.hid (fun w => Has_ok (min ax bx) (min ay bz) (max ax bx) (max ay bz) px py w hlo hhi (by omega) (by omega) hp)
  have e1 : decide (min ax bx ≤ px ∧ px ≤ max ax bx ∧ min ay bz ≤ py ∧ py ≤ max ay bz) = boxB (ax, ay) (bx, bz) (px, py) := rfl
  rw [e1] at HA
  generalize boxB (ax, ay) (bx, bz) (px, py) = q at *
  generalize min ax bx = m1 at *
  generalize min ay bz = m2 at *
  generalize max ax bx = m3 at *
  generalize max ay bz = m4 at *
  clear h ha hb hp hlo hhi e1 t1
  have B0 : Below w.heap.size w (((w.alloc (.cells #[.int .i64 ax, .int .i64 ay] 43)).alloc (.cells #[.int .i64 bx, .int .i64 bz] 43)).alloc (.cells #[.int .i64 px, .int .i64 py] 43)) := (((Below.refl _ _).alloc (Nat.le_refl _) _).alloc (by simp) _).alloc (by simp; omega) _
  have T0 := tri_alloc w 43 ax ay bx bz px py
  generalize hW : ((w.alloc (.cells #[.int .i64 ax, .int .i64 ay] 43)).alloc (.cells #[.int .i64 bx, .int .i64 bz] 43)).alloc (.cells #[.int .i64 px, .int .i64 py] 43) = W at B0 T0
  have XS := Lib.hid (show ∀ w', Below W.heap.size W w' → _ from fun w' hb => (Tri.below T0 hb).cells)
  obtain ⟨y0, y1, y2, y3, y4, y5⟩ := T0.cells
  clear T0
  go_enter Tryd.func57, Tryd.ntmps57
  go_wp2_with fail
  clear y0 y1 y2 y3 y4 y5 hW
  refine wp_region_noPanic ?_
  refine wp_region_held_drew (S := fun w' => Below W.heap.size W w') (by kernel_rfl) (Below.refl _ _).drew (fun hHeld => ?_)
  generalize W.drew = D at hHeld ⊢
  have B1 : Below W.heap.size W D := hHeld
  refine wpAnyH_take (i := 0) (oi := ⟨some 7, _, _, _, _, _⟩) (v := ?qv0) rfl (by kernel_rfl) (by kernel_rfl) (by kernel_rfl) (fun _ _ _ h => h) (Or.inl ⟨by rfl, ?qy0⟩) hHeld ?qr0
  case qy0 => (intro w' hSw; obtain ⟨z0, z1, z2, z3, z4, z5⟩ := XS.out w' hSw; go_simp; try with_reducible rfl)
  try simp only [Act.put, List.setIfInBounds_toArray, List.set_cons_zero, List.set_cons_succ]
  refine wpAnyH_take (i := 1) (oi := ⟨some 8, _, _, _, _, _⟩) (v := ?qv1) rfl (by kernel_rfl) (by kernel_rfl) (by kernel_rfl) (fun _ _ _ h => h) (Or.inl ⟨by rfl, ?qy1⟩) hHeld ?qr1
  case qy1 => (intro w' hSw; obtain ⟨z0, z1, z2, z3, z4, z5⟩ := XS.out w' hSw; go_simp; try with_reducible rfl)
  try simp only [Act.put, List.setIfInBounds_toArray, List.set_cons_zero, List.set_cons_succ]
  refine wpAnyH_take (i := 2) (oi := ⟨some 9, _, _, _, _, _⟩) (v := ?qv2) rfl (by kernel_rfl) (by kernel_rfl) (by kernel_rfl) (fun _ _ _ h => h) (Or.inl ⟨by rfl, ?qy2⟩) hHeld ?qr2
  case qy2 => (intro w' hSw; obtain ⟨z0, z1, z2, z3, z4, z5⟩ := XS.out w' hSw; go_simp; try with_reducible rfl)
  try simp only [Act.put, List.setIfInBounds_toArray, List.set_cons_zero, List.set_cons_succ]
  refine wpAnyH_ready (rs := [3]) (by kernel_rfl) (by simp) ?_
  refine AllReadyH.cons (o := ⟨some 10, _, _, _, _, _⟩) rfl (fun K hK => ?_) AllReadyH.nil
  go_simp
  refine hK.out _ _ (B1.alloc B1.size _) (fun hHeld => ?_)
  clear hK K
  try simp only [Act.put, List.setIfInBounds_toArray, List.set_cons_zero, List.set_cons_succ]
  refine wpAnyH_ready (rs := [4]) (by kernel_rfl) (by simp) ?_
  refine AllReadyH.cons (o := ⟨some 11, _, _, _, _, _⟩) rfl (fun K hK => ?_) AllReadyH.nil
  refine step_go (by rfl) 63 _ _ (by rfl) (fun _ _ => by kernel_rfl) _ (by rfl) (M.out _ _ (pts3 _ _ _ rfl _ _ _ _ _ _)) ?_
  rintro e w1 ⟨rfl, b1⟩
  refine ⟨_, rfl, ?_⟩
  have B2 := (B1.alloc B1.size (.cells #[.int .i64 ax, .int .i64 ay, .int .i64 bx, .int .i64 bz, .int .i64 px, .int .i64 py] 43))
  have B2 := B2.trans (b1.mono B2.size)
  refine hK.out _ _ (B2) (fun hHeld => ?_)
  clear hK K
  try simp only [Act.put, List.setIfInBounds_toArray, List.set_cons_zero, List.set_cons_succ]
  refine wpAnyH_take (i := 5) (oi := ⟨some 12, _, _, _, _, _⟩) (v := ?qv5) rfl (by kernel_rfl) (by kernel_rfl) (by kernel_rfl) (fun _ _ _ h => h) (Or.inl ⟨by rfl, ?qy5⟩) hHeld ?qr5
  case qy5 => (intro w' hSw; go_simp; try with_reducible rfl)
  try simp only [Act.put, List.setIfInBounds_toArray, List.set_cons_zero, List.set_cons_succ]
  refine wpAnyH_take (i := 6) (oi := ⟨some 13, _, _, _, _, _⟩) (v := ?qv6) rfl (by kernel_rfl) (by kernel_rfl) (by kernel_rfl) (fun _ _ _ h => h) (Or.inl ⟨by rfl, ?qy6⟩) hHeld ?qr6
  case qy6 => (intro w' hSw; obtain ⟨z0, z1, z2, z3, z4, z5⟩ := XS.out w' hSw; go_simp; try with_reducible rfl)
  try simp only [Act.put, List.setIfInBounds_toArray, List.set_cons_zero, List.set_cons_succ]
  refine wpAnyH_take (i := 7) (oi := ⟨some 14, _, _, _, _, _⟩) (v := ?qv7) rfl (by kernel_rfl) (by kernel_rfl) (by kernel_rfl) (fun _ _ _ h => h) (Or.inl ⟨by rfl, ?qy7⟩) hHeld ?qr7
  case qy7 => (intro w' hSw; obtain ⟨z0, z1, z2, z3, z4, z5⟩ := XS.out w' hSw; go_simp; try with_reducible rfl)
  try simp only [Act.put, List.setIfInBounds_toArray, List.set_cons_zero, List.set_cons_succ]
  refine wpAnyH_take (i := 8) (oi := ⟨some 15, _, _, _, _, _⟩) (v := ?qv8) rfl (by kernel_rfl) (by kernel_rfl) (by kernel_rfl) (fun _ _ _ h => h) (Or.inl ⟨by rfl, ?qy8⟩) hHeld ?qr8
  case qy8 => (intro w' hSw; obtain ⟨z0, z1, z2, z3, z4, z5⟩ := XS.out w' hSw; go_simp; try with_reducible rfl)
  try simp only [Act.put, List.setIfInBounds_toArray, List.set_cons_zero, List.set_cons_succ]
  refine wpAnyH_ready (rs := [9]) (by kernel_rfl) (by simp) ?_
  refine AllReadyH.cons (o := ⟨some 16, _, _, _, _, _⟩) rfl (fun K hK => ?_) AllReadyH.nil
  refine step_go (by rfl) 64 _ _ (by rfl) (fun _ _ => by kernel_rfl) _ (by rfl) (O.out _) ?_
  rintro e w2 ⟨rfl, b2⟩
  refine ⟨_, rfl, ?_⟩
  have B3 := B2.trans (b2.mono B2.size)
  refine hK.out _ _ (B3) (fun hHeld => ?_)
  clear hK K
  try simp only [Act.put, List.setIfInBounds_toArray, List.set_cons_zero, List.set_cons_succ]
  refine wpAnyH_take (i := 10) (oi := ⟨some 17, _, _, _, _, _⟩) (v := ?qv10) rfl (by kernel_rfl) (by kernel_rfl) (by kernel_rfl) (fun _ _ _ h => h) (Or.inl ⟨by rfl, ?qy10⟩) hHeld ?qr10
  case qy10 => (intro w' hSw; go_simp; try with_reducible rfl)
  try simp only [Act.put, List.setIfInBounds_toArray, List.set_cons_zero, List.set_cons_succ]
  refine wpAnyH_take (i := 11) (oi := ⟨some 18, _, _, _, _, _⟩) (v := ?qv11) rfl (by kernel_rfl) (by kernel_rfl) (by kernel_rfl) (fun _ _ _ h => h) (Or.inl ⟨by rfl, ?qy11⟩) hHeld ?qr11
  case qy11 => (intro w' hSw; go_simp; try with_reducible rfl)
  try simp only [Act.put, List.setIfInBounds_toArray, List.set_cons_zero, List.set_cons_succ]
  refine wpAnyH_take (i := 12) (oi := ⟨some 19, _, _, _, _, _⟩) (v := ?qv12) rfl (by kernel_rfl) (by kernel_rfl) (by kernel_rfl) (fun _ _ _ h => h) (Or.inl ⟨by rfl, ?qy12⟩) hHeld ?qr12
  case qy12 => (intro w' hSw; go_simp; try with_reducible rfl)
  try simp only [Act.put, List.setIfInBounds_toArray, List.set_cons_zero, List.set_cons_succ]
  refine wpAnyH_take (i := 13) (oi := ⟨some 20, _, _, _, _, _⟩) (v := ?qv13) rfl (by kernel_rfl) (by kernel_rfl) (by kernel_rfl) (fun _ _ _ h => h) (Or.inl ⟨by rfl, ?qy13⟩) hHeld ?qr13
  case qy13 => (intro w' hSw; obtain ⟨z0, z1, z2, z3, z4, z5⟩ := XS.out w' hSw; go_simp; try with_reducible rfl)
  try simp only [Act.put, List.setIfInBounds_toArray, List.set_cons_zero, List.set_cons_succ]
  refine wpAnyH_take (i := 14) (oi := ⟨some 21, _, _, _, _, _⟩) (v := ?qv14) rfl (by kernel_rfl) (by kernel_rfl) (by kernel_rfl) (fun _ _ _ h => h) (Or.inl ⟨by rfl, ?qy14⟩) hHeld ?qr14
  case qy14 => (intro w' hSw; obtain ⟨z0, z1, z2, z3, z4, z5⟩ := XS.out w' hSw; go_simp; try with_reducible rfl)
  try simp only [Act.put, List.setIfInBounds_toArray, List.set_cons_zero, List.set_cons_succ]
  refine wpAnyH_take (i := 16) (oi := ⟨some 23, _, _, _, _, _⟩) (v := ?qv16) rfl (by kernel_rfl) (by kernel_rfl) (by kernel_rfl) (fun _ _ _ h => h) (Or.inl ⟨by rfl, ?qy16⟩) hHeld ?qr16
  case qy16 => (intro w' hSw; obtain ⟨z0, z1, z2, z3, z4, z5⟩ := XS.out w' hSw; go_simp; try with_reducible rfl)
  try simp only [Act.put, List.setIfInBounds_toArray, List.set_cons_zero, List.set_cons_succ]
  refine wpAnyH_ready (rs := [15]) (by kernel_rfl) (by simp) ?_
  refine AllReadyH.cons (o := ⟨some 22, _, _, _, _, _⟩) rfl (fun K hK => ?_) AllReadyH.nil
  refine step_go (by rfl) 66 _ _ (by rfl) (fun _ _ => by kernel_rfl) _ (by rfl) (SP.out _) ?_
  rintro e w3 ⟨rfl, b3⟩
  refine ⟨_, rfl, ?_⟩
  have B4 := B3.trans (b3.mono B3.size)
  refine hK.out _ _ (B4) (fun hHeld => ?_)
  clear hK K
  try simp only [Act.put, List.setIfInBounds_toArray, List.set_cons_zero, List.set_cons_succ]
  refine wpAnyH_ready (rs := [17]) (by kernel_rfl) (by simp) ?_
  refine AllReadyH.cons (o := ⟨some 24, _, _, _, _, _⟩) rfl (fun K hK => ?_) AllReadyH.nil
  refine step_go (by rfl) 65 _ _ (by rfl) (fun _ _ => by kernel_rfl) _ (by rfl) (HA.out _) ?_
  rintro e w4 ⟨rfl, b4⟩
  refine ⟨_, rfl, ?_⟩
  have B5 := B4.trans (b4.mono B4.size)
  refine hK.out _ _ (B5) (fun hHeld => ?_)
  clear hK K
  try simp only [Act.put, List.setIfInBounds_toArray, List.set_cons_zero, List.set_cons_succ]
  refine wpAnyH_take (i := 18) (oi := ⟨some 25, _, _, _, _, _⟩) (v := ?qv18) rfl (by kernel_rfl) (by kernel_rfl) (by kernel_rfl) (fun _ _ _ h => h) (Or.inl ⟨by rfl, ?qy18⟩) hHeld ?qr18
  case qy18 => (intro w' hSw; go_simp; try with_reducible rfl)
  try simp only [Act.put, List.setIfInBounds_toArray, List.set_cons_zero, List.set_cons_succ]
  refine wpAnyH_take (i := 19) (oi := ⟨some 6, _, _, _, _, _⟩) (v := ?qv19) rfl (by kernel_rfl) (by kernel_rfl) (by kernel_rfl) (fun _ _ _ h => h) (Or.inl ⟨by rfl, ?qy19⟩) hHeld ?qr19
  case qy19 => (intro w' hSw; go_simp; try with_reducible rfl)
  try simp only [Act.put, List.setIfInBounds_toArray, List.set_cons_zero, List.set_cons_succ]
  refine wpAnyH_done (by kernel_rfl) ?_ _
  refine NoPanic.normal ?_
  go_wp2_with fail
  go_ret
  exact ⟨rfl, B0.trans (B5.mono B0.size)⟩

theorem On_any (ax ay bx bz px py : Int) (w : World) :
    Calls Tryd.prog 57 #[.agg #[.int .i64 ax, .int .i64 ay], .agg #[.int .i64 bx, .int .i64 bz], .agg #[.int .i64 px, .int .i64 py]] w fun e w' => e = .returned (.bool (onB (ax, ay) (bx, bz) (px, py))) ∧ Below w.heap.size w w' := by
  cases hq : allP [(ax, ay), (bx, bz), (px, py)] with
  | false =>
    have e1 : onB (ax, ay) (bx, bz) (px, py) = false := by
      unfold onB
      simp only [allP, List.all_cons, List.all_nil, Bool.and_true] at hq
      rw [Bool.and_assoc (okP (ax, ay)), hq]
      rfl
    rw [e1]
    exact On_bad ax ay bx bz px py w hq
  | true =>
    simp only [allP, List.all_cons, List.all_nil, Bool.and_true, Bool.and_eq_true] at hq
    obtain ⟨ha, hb, hp⟩ := hq
    have ha' := okP_inP ha
    have hb' := okP_inP hb
    have hp' := okP_inP hp
    by_cases h : crs (ax, ay) (bx, bz) (px, py) = 0
    · have e1 : onB (ax, ay) (bx, bz) (px, py) = boxB (ax, ay) (bx, bz) (px, py) := by unfold onB; rw [ha, hb, hp, decide_eq_true h]; rfl
      rw [e1]
      exact On_line ax ay bx bz px py w ha' hb' hp' h
    · have e1 : onB (ax, ay) (bx, bz) (px, py) = false := by unfold onB; rw [decide_eq_false h]; simp
      rw [e1]
      exact On_off ax ay bx bz px py w ha' hb' hp' h
end Go.Proofs.YthcfekabeidmiaaRRDoorR
