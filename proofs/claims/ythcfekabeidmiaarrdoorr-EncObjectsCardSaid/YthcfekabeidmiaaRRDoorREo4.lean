/- segm.Proper, segm.Meet. (printed by wip/gen_meet.py) -/
import Derived.Test.YthcfekabeidmiaaRRDoorREo3
set_option linter.unusedSimpArgs false
set_option linter.unusedVariables false
namespace Go.Proofs.YthcfekabeidmiaaRRDoorR
open Go.RowKit

/-- four points in blocks one behind the other -/
structure Four (w : World) (g : Nat) (ax ay bx bz cx cy dx dy : Int) : Prop where
  t : Tri w g ax ay bx bz cx cy
  d : Pair w (g + 1 + 1 + 1) dx dy
theorem Four.below {w w' : World} {g : Nat} {ax ay bx bz cx cy dx dy : Int} (h : Four w g ax ay bx bz cx cy dx dy) (hb : Below w.heap.size w w') : Four w' g ax ay bx bz cx cy dx dy := ⟨h.t.below hb, h.d.below hb⟩
theorem four_alloc (w : World) (T : TypeId) (ax ay bx bz cx cy dx dy : Int) : Four ((((w.alloc (.cells #[.int .i64 ax, .int .i64 ay] T)).alloc (.cells #[.int .i64 bx, .int .i64 bz] T)).alloc (.cells #[.int .i64 cx, .int .i64 cy] T)).alloc (.cells #[.int .i64 dx, .int .i64 dy] T)) w.heap.size ax ay bx bz cx cy dx dy :=
  ⟨(tri_alloc w T ax ay bx bz cx cy).below ((Below.refl _ _).alloc (Nat.le_refl _) _), pair_alloc (((w.alloc _).alloc _).alloc _) dx dy T (w.heap.size + 1 + 1 + 1) (by simp)⟩
theorem Four.cells {w : World} {g : Nat} {ax ay bx bz cx cy dx dy : Int} (h : Four w g ax ay bx bz cx cy dx dy) :
    w.cell? ⟨g, 0, none⟩ = some (.int .i64 ax) ∧ w.cell? ⟨g, 1, none⟩ = some (.int .i64 ay) ∧ w.cell? ⟨g + 1, 0, none⟩ = some (.int .i64 bx) ∧ w.cell? ⟨g + 1, 1, none⟩ = some (.int .i64 bz) ∧ w.cell? ⟨g + 1 + 1, 0, none⟩ = some (.int .i64 cx) ∧ w.cell? ⟨g + 1 + 1, 1, none⟩ = some (.int .i64 cy) ∧ w.cell? ⟨g + 1 + 1 + 1, 0, none⟩ = some (.int .i64 dx) ∧ w.cell? ⟨g + 1 + 1 + 1, 1, none⟩ = some (.int .i64 dy) :=
  ⟨h.t.a.c0, h.t.a.c1, h.t.b.c0, h.t.b.c1, h.t.p.c0, h.t.p.c1, h.d.c0, h.d.c1⟩
theorem sgn_mul_bd (x y : Int) : -1 ≤ sgn x * sgn y ∧ sgn x * sgn y ≤ 1 := by
  have h := mul_bd (sgn x) (sgn y) 1 (sgn_bd x).1 (sgn_bd x).2 (sgn_bd y).1 (sgn_bd y).2
  omega

set_option maxRecDepth 100000 in
set_option maxHeartbeats 1000000 in
theorem Proper_no (ax ay bx bz cx cy dx dy : Int) (w : World) (ha : inP ax ay) (hb : inP bx bz) (hc : inP cx cy) (hd : inP dx dy) (h : ¬ sgn (crs (ax, ay) (bx, bz) (cx, cy)) * sgn (crs (ax, ay) (bx, bz) (dx, dy)) < 0) :
    Calls Tryd.prog 67 #[.agg #[.int .i64 ax, .int .i64 ay], .agg #[.int .i64 bx, .int .i64 bz], .agg #[.int .i64 cx, .int .i64 cy], .agg #[.int .i64 dx, .int .i64 dy]] w fun e w' => e = .returned (.bool (false)) ∧ Below w.heap.size w w' := by
  have M := Lib.hid (fun g w q => segmMay_any (.slice (some ⟨g, 0, none⟩) 4 4) [(ax, ay), (bx, bz), (cx, cy), (dx, dy)] w q)
  rw [show allP [(ax, ay), (bx, bz), (cx, cy), (dx, dy)] = true by simp [allP, okP, ha, hb, hc, hd]] at M
  have O1 := Lib.hid (fun w => Orient_ok ax ay bx bz cx cy w ha hb hc)
  have O2 := Lib.hid (fun w => Orient_ok ax ay bx bz dx dy w ha hb hd)
  have hm := sgn_mul_bd (crs (ax, ay) (bx, bz) (cx, cy)) (crs (ax, ay) (bx, bz) (dx, dy))
  generalize sgn (crs (ax, ay) (bx, bz) (cx, cy)) = s1 at *
  generalize sgn (crs (ax, ay) (bx, bz) (dx, dy)) = s2 at *
  have t1 : decide (s1 * s2 < 0) = false := by simpa using h
  have e1 : IntKind.i64.wrap (s1 * s2) = s1 * s2 := IntWalk.i64_in _ (by omega)
  clear h ha hb hc hd hm
  have B0 : Below w.heap.size w ((((w.alloc (.cells #[.int .i64 ax, .int .i64 ay] 43)).alloc (.cells #[.int .i64 bx, .int .i64 bz] 43)).alloc (.cells #[.int .i64 cx, .int .i64 cy] 43)).alloc (.cells #[.int .i64 dx, .int .i64 dy] 43)) := ((((Below.refl _ _).alloc (Nat.le_refl _) _).alloc (by simp) _).alloc (by simp; omega) _).alloc (by simp; omega) _
  have T0 := four_alloc w 43 ax ay bx bz cx cy dx dy
  generalize hW : (((w.alloc (.cells #[.int .i64 ax, .int .i64 ay] 43)).alloc (.cells #[.int .i64 bx, .int .i64 bz] 43)).alloc (.cells #[.int .i64 cx, .int .i64 cy] 43)).alloc (.cells #[.int .i64 dx, .int .i64 dy] 43) = W at B0 T0
  have XS := Lib.hid (show ∀ w', Below W.heap.size W w' → _ from fun w' hb => (Four.below T0 hb).cells)
  obtain ⟨y0, y1, y2, y3, y4, y5, y6, y7⟩ := T0.cells
  clear T0
  go_enter Tryd.func67, Tryd.ntmps67
  go_wp2_with fail
  clear y0 y1 y2 y3 y4 y5 y6 y7 hW
  refine wp_region_noPanic ?_
  refine wp_region_held_drew (S := fun w' => Below W.heap.size W w') (by kernel_rfl) (Below.refl _ _).drew (fun hHeld => ?_)
  generalize W.drew = D at hHeld ⊢
  have B1 : Below W.heap.size W D := hHeld
  refine wpAnyH_take (i := 0) (oi := ⟨some 9, _, _, _, _, _⟩) (v := ?qv0) rfl (by kernel_rfl) (by kernel_rfl) (by kernel_rfl) (fun _ _ _ h => h) (Or.inl ⟨by rfl, ?qy0⟩) hHeld ?qr0
  case qy0 => (intro w' hSw; obtain ⟨z0, z1, z2, z3, z4, z5, z6, z7⟩ := XS.out w' hSw; go_simp; try with_reducible rfl)
  try simp only [Act.put, List.setIfInBounds_toArray, List.set_cons_zero, List.set_cons_succ]
  refine wpAnyH_take (i := 1) (oi := ⟨some 10, _, _, _, _, _⟩) (v := ?qv1) rfl (by kernel_rfl) (by kernel_rfl) (by kernel_rfl) (fun _ _ _ h => h) (Or.inl ⟨by rfl, ?qy1⟩) hHeld ?qr1
  case qy1 => (intro w' hSw; obtain ⟨z0, z1, z2, z3, z4, z5, z6, z7⟩ := XS.out w' hSw; go_simp; try with_reducible rfl)
  try simp only [Act.put, List.setIfInBounds_toArray, List.set_cons_zero, List.set_cons_succ]
  refine wpAnyH_take (i := 2) (oi := ⟨some 11, _, _, _, _, _⟩) (v := ?qv2) rfl (by kernel_rfl) (by kernel_rfl) (by kernel_rfl) (fun _ _ _ h => h) (Or.inl ⟨by rfl, ?qy2⟩) hHeld ?qr2
  case qy2 => (intro w' hSw; obtain ⟨z0, z1, z2, z3, z4, z5, z6, z7⟩ := XS.out w' hSw; go_simp; try with_reducible rfl)
  try simp only [Act.put, List.setIfInBounds_toArray, List.set_cons_zero, List.set_cons_succ]
  refine wpAnyH_take (i := 3) (oi := ⟨some 12, _, _, _, _, _⟩) (v := ?qv3) rfl (by kernel_rfl) (by kernel_rfl) (by kernel_rfl) (fun _ _ _ h => h) (Or.inl ⟨by rfl, ?qy3⟩) hHeld ?qr3
  case qy3 => (intro w' hSw; obtain ⟨z0, z1, z2, z3, z4, z5, z6, z7⟩ := XS.out w' hSw; go_simp; try with_reducible rfl)
  try simp only [Act.put, List.setIfInBounds_toArray, List.set_cons_zero, List.set_cons_succ]
  refine wpAnyH_ready (rs := [4]) (by kernel_rfl) (by simp) ?_
  refine AllReadyH.cons (o := ⟨some 13, _, _, _, _, _⟩) rfl (fun K hK => ?_) AllReadyH.nil
  go_simp
  refine hK.out _ _ (B1.alloc B1.size _) (fun hHeld => ?_)
  clear hK K
  try simp only [Act.put, List.setIfInBounds_toArray, List.set_cons_zero, List.set_cons_succ]
  refine wpAnyH_ready (rs := [5]) (by kernel_rfl) (by simp) ?_
  refine AllReadyH.cons (o := ⟨some 14, _, _, _, _, _⟩) rfl (fun K hK => ?_) AllReadyH.nil
  refine step_go (by rfl) 63 _ _ (by rfl) (fun _ _ => by kernel_rfl) _ (by rfl) (M.out _ _ (pts4 _ _ _ rfl _ _ _ _ _ _ _ _)) ?_
  rintro e w1 ⟨rfl, b1⟩
  refine ⟨_, rfl, ?_⟩
  have B2 := (B1.alloc B1.size (.cells #[.int .i64 ax, .int .i64 ay, .int .i64 bx, .int .i64 bz, .int .i64 cx, .int .i64 cy, .int .i64 dx, .int .i64 dy] 43))
  have B2 := B2.trans (b1.mono B2.size)
  refine hK.out _ _ (B2) (fun hHeld => ?_)
  clear hK K
  try simp only [Act.put, List.setIfInBounds_toArray, List.set_cons_zero, List.set_cons_succ]
  refine wpAnyH_take (i := 6) (oi := ⟨some 15, _, _, _, _, _⟩) (v := ?qv6) rfl (by kernel_rfl) (by kernel_rfl) (by kernel_rfl) (fun _ _ _ h => h) (Or.inl ⟨by rfl, ?qy6⟩) hHeld ?qr6
  case qy6 => (intro w' hSw; go_simp; try with_reducible rfl)
  try simp only [Act.put, List.setIfInBounds_toArray, List.set_cons_zero, List.set_cons_succ]
  refine wpAnyH_take (i := 7) (oi := ⟨some 16, _, _, _, _, _⟩) (v := ?qv7) rfl (by kernel_rfl) (by kernel_rfl) (by kernel_rfl) (fun _ _ _ h => h) (Or.inl ⟨by rfl, ?qy7⟩) hHeld ?qr7
  case qy7 => (intro w' hSw; obtain ⟨z0, z1, z2, z3, z4, z5, z6, z7⟩ := XS.out w' hSw; go_simp; try with_reducible rfl)
  try simp only [Act.put, List.setIfInBounds_toArray, List.set_cons_zero, List.set_cons_succ]
  refine wpAnyH_take (i := 8) (oi := ⟨some 17, _, _, _, _, _⟩) (v := ?qv8) rfl (by kernel_rfl) (by kernel_rfl) (by kernel_rfl) (fun _ _ _ h => h) (Or.inl ⟨by rfl, ?qy8⟩) hHeld ?qr8
  case qy8 => (intro w' hSw; obtain ⟨z0, z1, z2, z3, z4, z5, z6, z7⟩ := XS.out w' hSw; go_simp; try with_reducible rfl)
  try simp only [Act.put, List.setIfInBounds_toArray, List.set_cons_zero, List.set_cons_succ]
  refine wpAnyH_take (i := 9) (oi := ⟨some 18, _, _, _, _, _⟩) (v := ?qv9) rfl (by kernel_rfl) (by kernel_rfl) (by kernel_rfl) (fun _ _ _ h => h) (Or.inl ⟨by rfl, ?qy9⟩) hHeld ?qr9
  case qy9 => (intro w' hSw; obtain ⟨z0, z1, z2, z3, z4, z5, z6, z7⟩ := XS.out w' hSw; go_simp; try with_reducible rfl)
  try simp only [Act.put, List.setIfInBounds_toArray, List.set_cons_zero, List.set_cons_succ]
  refine wpAnyH_take (i := 11) (oi := ⟨some 20, _, _, _, _, _⟩) (v := ?qv11) rfl (by kernel_rfl) (by kernel_rfl) (by kernel_rfl) (fun _ _ _ h => h) (Or.inl ⟨by rfl, ?qy11⟩) hHeld ?qr11
  case qy11 => (intro w' hSw; obtain ⟨z0, z1, z2, z3, z4, z5, z6, z7⟩ := XS.out w' hSw; go_simp; try with_reducible rfl)
  try simp only [Act.put, List.setIfInBounds_toArray, List.set_cons_zero, List.set_cons_succ]
  refine wpAnyH_take (i := 12) (oi := ⟨some 21, _, _, _, _, _⟩) (v := ?qv12) rfl (by kernel_rfl) (by kernel_rfl) (by kernel_rfl) (fun _ _ _ h => h) (Or.inl ⟨by rfl, ?qy12⟩) hHeld ?qr12
  case qy12 => (intro w' hSw; obtain ⟨z0, z1, z2, z3, z4, z5, z6, z7⟩ := XS.out w' hSw; go_simp; try with_reducible rfl)
  try simp only [Act.put, List.setIfInBounds_toArray, List.set_cons_zero, List.set_cons_succ]
  refine wpAnyH_take (i := 13) (oi := ⟨some 22, _, _, _, _, _⟩) (v := ?qv13) rfl (by kernel_rfl) (by kernel_rfl) (by kernel_rfl) (fun _ _ _ h => h) (Or.inl ⟨by rfl, ?qy13⟩) hHeld ?qr13
  case qy13 => (intro w' hSw; obtain ⟨z0, z1, z2, z3, z4, z5, z6, z7⟩ := XS.out w' hSw; go_simp; try with_reducible rfl)
  try simp only [Act.put, List.setIfInBounds_toArray, List.set_cons_zero, List.set_cons_succ]
  refine wpAnyH_ready (rs := [10]) (by kernel_rfl) (by simp) ?_
  refine AllReadyH.cons (o := ⟨some 19, _, _, _, _, _⟩) rfl (fun K hK => ?_) AllReadyH.nil
  refine step_go (by rfl) 64 _ _ (by rfl) (fun _ _ => by kernel_rfl) _ (by rfl) (O1.out _) ?_
  rintro e w2 ⟨rfl, b2⟩
  refine ⟨_, rfl, ?_⟩
  have B3 := B2.trans (b2.mono B2.size)
  refine hK.out _ _ (B3) (fun hHeld => ?_)
  clear hK K
  try simp only [Act.put, List.setIfInBounds_toArray, List.set_cons_zero, List.set_cons_succ]
  refine wpAnyH_ready (rs := [14]) (by kernel_rfl) (by simp) ?_
  refine AllReadyH.cons (o := ⟨some 23, _, _, _, _, _⟩) rfl (fun K hK => ?_) AllReadyH.nil
  refine step_go (by rfl) 64 _ _ (by rfl) (fun _ _ => by kernel_rfl) _ (by rfl) (O2.out _) ?_
  rintro e w3 ⟨rfl, b3⟩
  refine ⟨_, rfl, ?_⟩
  have B4 := B3.trans (b3.mono B3.size)
  refine hK.out _ _ (B4) (fun hHeld => ?_)
  clear hK K
  try simp only [Act.put, List.setIfInBounds_toArray, List.set_cons_zero, List.set_cons_succ]
  refine wpAnyH_take (i := 15) (oi := ⟨some 24, _, _, _, _, _⟩) (v := ?qv15) rfl (by kernel_rfl) (by kernel_rfl) (by kernel_rfl) (fun _ _ _ h => h) (Or.inl ⟨by rfl, ?qy15⟩) hHeld ?qr15
  case qy15 => (intro w' hSw; go_simp; try with_reducible rfl)
  try simp only [Act.put, List.setIfInBounds_toArray, List.set_cons_zero, List.set_cons_succ]
  refine wpAnyH_take (i := 16) (oi := ⟨some 25, _, _, _, _, _⟩) (v := ?qv16) rfl (by kernel_rfl) (by kernel_rfl) (by kernel_rfl) (fun _ _ _ h => h) (Or.inl ⟨by rfl, ?qy16⟩) hHeld ?qr16
  case qy16 => (intro w' hSw; go_simp; try with_reducible rfl)
  try simp only [Act.put, List.setIfInBounds_toArray, List.set_cons_zero, List.set_cons_succ]
  refine wpAnyH_take (i := 17) (oi := ⟨some 26, _, _, _, _, _⟩) (v := ?qv17) rfl (by kernel_rfl) (by kernel_rfl) (by kernel_rfl) (fun _ _ _ h => h) (Or.inl ⟨by rfl, ?qy17⟩) hHeld ?qr17
  case qy17 => (intro w' hSw; go_simp; try with_reducible rfl)
  try simp only [Act.put, List.setIfInBounds_toArray, List.set_cons_zero, List.set_cons_succ]
  refine wpAnyH_take (i := 18) (oi := ⟨some 27, _, _, _, _, _⟩) (v := ?qv18) rfl (by kernel_rfl) (by kernel_rfl) (by kernel_rfl) (fun _ _ _ h => h) (Or.inl ⟨by rfl, ?qy18⟩) hHeld ?qr18
  case qy18 => (intro w' hSw; go_simp; try with_reducible rfl)
  try simp only [Act.put, List.setIfInBounds_toArray, List.set_cons_zero, List.set_cons_succ]
  refine wpAnyH_take (i := 19) (oi := ⟨some 28, _, _, _, _, _⟩) (v := undef) rfl (by kernel_rfl) (by kernel_rfl) (by kernel_rfl) (fun _ _ _ h => h) (Or.inr ⟨by rfl, rfl⟩) hHeld ?_
  try simp only [Act.put, List.setIfInBounds_toArray, List.set_cons_zero, List.set_cons_succ]
  refine wpAnyH_take (i := 20) (oi := ⟨some 29, _, _, _, _, _⟩) (v := undef) rfl (by kernel_rfl) (by kernel_rfl) (by kernel_rfl) (fun _ _ _ h => h) (Or.inr ⟨by rfl, rfl⟩) hHeld ?_
  try simp only [Act.put, List.setIfInBounds_toArray, List.set_cons_zero, List.set_cons_succ]
  refine wpAnyH_take (i := 21) (oi := ⟨some 30, _, _, _, _, _⟩) (v := undef) rfl (by kernel_rfl) (by kernel_rfl) (by kernel_rfl) (fun _ _ _ h => h) (Or.inr ⟨by rfl, rfl⟩) hHeld ?_
  try simp only [Act.put, List.setIfInBounds_toArray, List.set_cons_zero, List.set_cons_succ]
  refine wpAnyH_take (i := 22) (oi := ⟨some 31, _, _, _, _, _⟩) (v := undef) rfl (by kernel_rfl) (by kernel_rfl) (by kernel_rfl) (fun _ _ _ h => h) (Or.inr ⟨by rfl, rfl⟩) hHeld ?_
  try simp only [Act.put, List.setIfInBounds_toArray, List.set_cons_zero, List.set_cons_succ]
  refine wpAnyH_take (i := 23) (oi := ⟨some 32, _, _, _, _, _⟩) (v := undef) rfl (by kernel_rfl) (by kernel_rfl) (by kernel_rfl) (fun _ _ _ h => h) (Or.inr ⟨by rfl, rfl⟩) hHeld ?_
  try simp only [Act.put, List.setIfInBounds_toArray, List.set_cons_zero, List.set_cons_succ]
  refine wpAnyH_take (i := 24) (oi := ⟨some 33, _, _, _, _, _⟩) (v := undef) rfl (by kernel_rfl) (by kernel_rfl) (by kernel_rfl) (fun _ _ _ h => h) (Or.inr ⟨by rfl, rfl⟩) hHeld ?_
  try simp only [Act.put, List.setIfInBounds_toArray, List.set_cons_zero, List.set_cons_succ]
  refine wpAnyH_take (i := 25) (oi := ⟨some 34, _, _, _, _, _⟩) (v := undef) rfl (by kernel_rfl) (by kernel_rfl) (by kernel_rfl) (fun _ _ _ h => h) (Or.inr ⟨by rfl, rfl⟩) hHeld ?_
  try simp only [Act.put, List.setIfInBounds_toArray, List.set_cons_zero, List.set_cons_succ]
  refine wpAnyH_take (i := 26) (oi := ⟨some 35, _, _, _, _, _⟩) (v := undef) rfl (by kernel_rfl) (by kernel_rfl) (by kernel_rfl) (fun _ _ _ h => h) (Or.inr ⟨by rfl, rfl⟩) hHeld ?_
  try simp only [Act.put, List.setIfInBounds_toArray, List.set_cons_zero, List.set_cons_succ]
  refine wpAnyH_take (i := 27) (oi := ⟨some 36, _, _, _, _, _⟩) (v := undef) rfl (by kernel_rfl) (by kernel_rfl) (by kernel_rfl) (fun _ _ _ h => h) (Or.inr ⟨by rfl, rfl⟩) hHeld ?_
  try simp only [Act.put, List.setIfInBounds_toArray, List.set_cons_zero, List.set_cons_succ]
  refine wpAnyH_take (i := 28) (oi := ⟨some 37, _, _, _, _, _⟩) (v := undef) rfl (by kernel_rfl) (by kernel_rfl) (by kernel_rfl) (fun _ _ _ h => h) (Or.inr ⟨by rfl, rfl⟩) hHeld ?_
  try simp only [Act.put, List.setIfInBounds_toArray, List.set_cons_zero, List.set_cons_succ]
  refine wpAnyH_take (i := 29) (oi := ⟨some 38, _, _, _, _, _⟩) (v := ?qv29) rfl (by kernel_rfl) (by kernel_rfl) (by kernel_rfl) (fun _ _ _ h => h) (Or.inl ⟨by rfl, ?qy29⟩) hHeld ?qr29
  case qy29 => (intro w' hSw; go_simp; try with_reducible rfl)
  try simp only [Act.put, List.setIfInBounds_toArray, List.set_cons_zero, List.set_cons_succ]
  refine wpAnyH_take (i := 30) (oi := ⟨some 8, _, _, _, _, _⟩) (v := ?qv30) rfl (by kernel_rfl) (by kernel_rfl) (by kernel_rfl) (fun _ _ _ h => h) (Or.inl ⟨by rfl, ?qy30⟩) hHeld ?qr30
  case qy30 => (intro w' hSw; go_simp; try with_reducible rfl)
  try simp only [Act.put, List.setIfInBounds_toArray, List.set_cons_zero, List.set_cons_succ]
  refine wpAnyH_done (by kernel_rfl) ?_ _
  refine NoPanic.normal ?_
  go_wp2_with fail
  go_ret
  exact ⟨rfl, B0.trans (B4.mono B0.size)⟩
set_option maxRecDepth 100000 in
set_option maxHeartbeats 1000000 in
theorem Proper_yes (ax ay bx bz cx cy dx dy : Int) (w : World) (ha : inP ax ay) (hb : inP bx bz) (hc : inP cx cy) (hd : inP dx dy) (h : sgn (crs (ax, ay) (bx, bz) (cx, cy)) * sgn (crs (ax, ay) (bx, bz) (dx, dy)) < 0) :
    Calls Tryd.prog 67 #[.agg #[.int .i64 ax, .int .i64 ay], .agg #[.int .i64 bx, .int .i64 bz], .agg #[.int .i64 cx, .int .i64 cy], .agg #[.int .i64 dx, .int .i64 dy]] w fun e w' => e = .returned (.bool (decide (sgn (crs (cx, cy) (dx, dy) (ax, ay)) * sgn (crs (cx, cy) (dx, dy) (bx, bz)) < 0))) ∧ Below w.heap.size w w' := by
  have M := Lib.hid (fun g w q => segmMay_any (.slice (some ⟨g, 0, none⟩) 4 4) [(ax, ay), (bx, bz), (cx, cy), (dx, dy)] w q)
  rw [show allP [(ax, ay), (bx, bz), (cx, cy), (dx, dy)] = true by simp [allP, okP, ha, hb, hc, hd]] at M
  have O1 := Lib.hid (fun w => Orient_ok ax ay bx bz cx cy w ha hb hc)
  have O2 := Lib.hid (fun w => Orient_ok ax ay bx bz dx dy w ha hb hd)
  have O3 := Lib.hid (fun w => Orient_ok cx cy dx dy ax ay w hc hd ha)
  have O4 := Lib.hid (fun w => Orient_ok cx cy dx dy bx bz w hc hd hb)
  have hm := sgn_mul_bd (crs (ax, ay) (bx, bz) (cx, cy)) (crs (ax, ay) (bx, bz) (dx, dy))
  have hm2 := sgn_mul_bd (crs (cx, cy) (dx, dy) (ax, ay)) (crs (cx, cy) (dx, dy) (bx, bz))
  generalize sgn (crs (cx, cy) (dx, dy) (ax, ay)) = s3 at *
  generalize sgn (crs (cx, cy) (dx, dy) (bx, bz)) = s4 at *
  generalize sgn (crs (ax, ay) (bx, bz) (cx, cy)) = s1 at *
  generalize sgn (crs (ax, ay) (bx, bz) (dx, dy)) = s2 at *
  have t1 : decide (s1 * s2 < 0) = true := by simpa using h
  have e1 : IntKind.i64.wrap (s1 * s2) = s1 * s2 := IntWalk.i64_in _ (by omega)
  have e2 : IntKind.i64.wrap (s3 * s4) = s3 * s4 := IntWalk.i64_in _ (by omega)
  generalize hp2 : decide (s3 * s4 < 0) = q at *
  clear hm2
  clear h ha hb hc hd hm
  have B0 : Below w.heap.size w ((((w.alloc (.cells #[.int .i64 ax, .int .i64 ay] 43)).alloc (.cells #[.int .i64 bx, .int .i64 bz] 43)).alloc (.cells #[.int .i64 cx, .int .i64 cy] 43)).alloc (.cells #[.int .i64 dx, .int .i64 dy] 43)) := ((((Below.refl _ _).alloc (Nat.le_refl _) _).alloc (by simp) _).alloc (by simp; omega) _).alloc (by simp; omega) _
  have T0 := four_alloc w 43 ax ay bx bz cx cy dx dy
  generalize hW : (((w.alloc (.cells #[.int .i64 ax, .int .i64 ay] 43)).alloc (.cells #[.int .i64 bx, .int .i64 bz] 43)).alloc (.cells #[.int .i64 cx, .int .i64 cy] 43)).alloc (.cells #[.int .i64 dx, .int .i64 dy] 43) = W at B0 T0
  have XS := Lib.hid (show ∀ w', Below W.heap.size W w' → _ from fun w' hb => (Four.below T0 hb).cells)
  obtain ⟨y0, y1, y2, y3, y4, y5, y6, y7⟩ := T0.cells
  clear T0
  go_enter Tryd.func67, Tryd.ntmps67
  go_wp2_with fail
  clear y0 y1 y2 y3 y4 y5 y6 y7 hW
  refine wp_region_noPanic ?_
  refine wp_region_held_drew (S := fun w' => Below W.heap.size W w') (by kernel_rfl) (Below.refl _ _).drew (fun hHeld => ?_)
  generalize W.drew = D at hHeld ⊢
  have B1 : Below W.heap.size W D := hHeld
  refine wpAnyH_take (i := 0) (oi := ⟨some 9, _, _, _, _, _⟩) (v := ?qv0) rfl (by kernel_rfl) (by kernel_rfl) (by kernel_rfl) (fun _ _ _ h => h) (Or.inl ⟨by rfl, ?qy0⟩) hHeld ?qr0
  case qy0 => (intro w' hSw; obtain ⟨z0, z1, z2, z3, z4, z5, z6, z7⟩ := XS.out w' hSw; go_simp; try with_reducible rfl)
  try simp only [Act.put, List.setIfInBounds_toArray, List.set_cons_zero, List.set_cons_succ]
  refine wpAnyH_take (i := 1) (oi := ⟨some 10, _, _, _, _, _⟩) (v := ?qv1) rfl (by kernel_rfl) (by kernel_rfl) (by kernel_rfl) (fun _ _ _ h => h) (Or.inl ⟨by rfl, ?qy1⟩) hHeld ?qr1
  case qy1 => (intro w' hSw; obtain ⟨z0, z1, z2, z3, z4, z5, z6, z7⟩ := XS.out w' hSw; go_simp; try with_reducible rfl)
  try simp only [Act.put, List.setIfInBounds_toArray, List.set_cons_zero, List.set_cons_succ]
  refine wpAnyH_take (i := 2) (oi := ⟨some 11, _, _, _, _, _⟩) (v := ?qv2) rfl (by kernel_rfl) (by kernel_rfl) (by kernel_rfl) (fun _ _ _ h => h) (Or.inl ⟨by rfl, ?qy2⟩) hHeld ?qr2
  case qy2 => (intro w' hSw; obtain ⟨z0, z1, z2, z3, z4, z5, z6, z7⟩ := XS.out w' hSw; go_simp; try with_reducible rfl)
  try simp only [Act.put, List.setIfInBounds_toArray, List.set_cons_zero, List.set_cons_succ]
  refine wpAnyH_take (i := 3) (oi := ⟨some 12, _, _, _, _, _⟩) (v := ?qv3) rfl (by kernel_rfl) (by kernel_rfl) (by kernel_rfl) (fun _ _ _ h => h) (Or.inl ⟨by rfl, ?qy3⟩) hHeld ?qr3
  case qy3 => (intro w' hSw; obtain ⟨z0, z1, z2, z3, z4, z5, z6, z7⟩ := XS.out w' hSw; go_simp; try with_reducible rfl)
  try simp only [Act.put, List.setIfInBounds_toArray, List.set_cons_zero, List.set_cons_succ]
  refine wpAnyH_ready (rs := [4]) (by kernel_rfl) (by simp) ?_
  refine AllReadyH.cons (o := ⟨some 13, _, _, _, _, _⟩) rfl (fun K hK => ?_) AllReadyH.nil
  go_simp
  refine hK.out _ _ (B1.alloc B1.size _) (fun hHeld => ?_)
  clear hK K
  try simp only [Act.put, List.setIfInBounds_toArray, List.set_cons_zero, List.set_cons_succ]
  refine wpAnyH_ready (rs := [5]) (by kernel_rfl) (by simp) ?_
  refine AllReadyH.cons (o := ⟨some 14, _, _, _, _, _⟩) rfl (fun K hK => ?_) AllReadyH.nil
  refine step_go (by rfl) 63 _ _ (by rfl) (fun _ _ => by kernel_rfl) _ (by rfl) (M.out _ _ (pts4 _ _ _ rfl _ _ _ _ _ _ _ _)) ?_
  rintro e w1 ⟨rfl, b1⟩
  refine ⟨_, rfl, ?_⟩
  have B2 := (B1.alloc B1.size (.cells #[.int .i64 ax, .int .i64 ay, .int .i64 bx, .int .i64 bz, .int .i64 cx, .int .i64 cy, .int .i64 dx, .int .i64 dy] 43))
  have B2 := B2.trans (b1.mono B2.size)
  refine hK.out _ _ (B2) (fun hHeld => ?_)
  clear hK K
  try simp only [Act.put, List.setIfInBounds_toArray, List.set_cons_zero, List.set_cons_succ]
  refine wpAnyH_take (i := 6) (oi := ⟨some 15, _, _, _, _, _⟩) (v := ?qv6) rfl (by kernel_rfl) (by kernel_rfl) (by kernel_rfl) (fun _ _ _ h => h) (Or.inl ⟨by rfl, ?qy6⟩) hHeld ?qr6
  case qy6 => (intro w' hSw; go_simp; try with_reducible rfl)
  try simp only [Act.put, List.setIfInBounds_toArray, List.set_cons_zero, List.set_cons_succ]
  refine wpAnyH_take (i := 7) (oi := ⟨some 16, _, _, _, _, _⟩) (v := ?qv7) rfl (by kernel_rfl) (by kernel_rfl) (by kernel_rfl) (fun _ _ _ h => h) (Or.inl ⟨by rfl, ?qy7⟩) hHeld ?qr7
  case qy7 => (intro w' hSw; obtain ⟨z0, z1, z2, z3, z4, z5, z6, z7⟩ := XS.out w' hSw; go_simp; try with_reducible rfl)
  try simp only [Act.put, List.setIfInBounds_toArray, List.set_cons_zero, List.set_cons_succ]
  refine wpAnyH_take (i := 8) (oi := ⟨some 17, _, _, _, _, _⟩) (v := ?qv8) rfl (by kernel_rfl) (by kernel_rfl) (by kernel_rfl) (fun _ _ _ h => h) (Or.inl ⟨by rfl, ?qy8⟩) hHeld ?qr8
  case qy8 => (intro w' hSw; obtain ⟨z0, z1, z2, z3, z4, z5, z6, z7⟩ := XS.out w' hSw; go_simp; try with_reducible rfl)
  try simp only [Act.put, List.setIfInBounds_toArray, List.set_cons_zero, List.set_cons_succ]
  refine wpAnyH_take (i := 9) (oi := ⟨some 18, _, _, _, _, _⟩) (v := ?qv9) rfl (by kernel_rfl) (by kernel_rfl) (by kernel_rfl) (fun _ _ _ h => h) (Or.inl ⟨by rfl, ?qy9⟩) hHeld ?qr9
  case qy9 => (intro w' hSw; obtain ⟨z0, z1, z2, z3, z4, z5, z6, z7⟩ := XS.out w' hSw; go_simp; try with_reducible rfl)
  try simp only [Act.put, List.setIfInBounds_toArray, List.set_cons_zero, List.set_cons_succ]
  refine wpAnyH_take (i := 11) (oi := ⟨some 20, _, _, _, _, _⟩) (v := ?qv11) rfl (by kernel_rfl) (by kernel_rfl) (by kernel_rfl) (fun _ _ _ h => h) (Or.inl ⟨by rfl, ?qy11⟩) hHeld ?qr11
  case qy11 => (intro w' hSw; obtain ⟨z0, z1, z2, z3, z4, z5, z6, z7⟩ := XS.out w' hSw; go_simp; try with_reducible rfl)
  try simp only [Act.put, List.setIfInBounds_toArray, List.set_cons_zero, List.set_cons_succ]
  refine wpAnyH_take (i := 12) (oi := ⟨some 21, _, _, _, _, _⟩) (v := ?qv12) rfl (by kernel_rfl) (by kernel_rfl) (by kernel_rfl) (fun _ _ _ h => h) (Or.inl ⟨by rfl, ?qy12⟩) hHeld ?qr12
  case qy12 => (intro w' hSw; obtain ⟨z0, z1, z2, z3, z4, z5, z6, z7⟩ := XS.out w' hSw; go_simp; try with_reducible rfl)
  try simp only [Act.put, List.setIfInBounds_toArray, List.set_cons_zero, List.set_cons_succ]
  refine wpAnyH_take (i := 13) (oi := ⟨some 22, _, _, _, _, _⟩) (v := ?qv13) rfl (by kernel_rfl) (by kernel_rfl) (by kernel_rfl) (fun _ _ _ h => h) (Or.inl ⟨by rfl, ?qy13⟩) hHeld ?qr13
  case qy13 => (intro w' hSw; obtain ⟨z0, z1, z2, z3, z4, z5, z6, z7⟩ := XS.out w' hSw; go_simp; try with_reducible rfl)
  try simp only [Act.put, List.setIfInBounds_toArray, List.set_cons_zero, List.set_cons_succ]
  refine wpAnyH_ready (rs := [10]) (by kernel_rfl) (by simp) ?_
  refine AllReadyH.cons (o := ⟨some 19, _, _, _, _, _⟩) rfl (fun K hK => ?_) AllReadyH.nil
  refine step_go (by rfl) 64 _ _ (by rfl) (fun _ _ => by kernel_rfl) _ (by rfl) (O1.out _) ?_
  rintro e w2 ⟨rfl, b2⟩
  refine ⟨_, rfl, ?_⟩
  have B3 := B2.trans (b2.mono B2.size)
  refine hK.out _ _ (B3) (fun hHeld => ?_)
  clear hK K
  try simp only [Act.put, List.setIfInBounds_toArray, List.set_cons_zero, List.set_cons_succ]
  refine wpAnyH_ready (rs := [14]) (by kernel_rfl) (by simp) ?_
  refine AllReadyH.cons (o := ⟨some 23, _, _, _, _, _⟩) rfl (fun K hK => ?_) AllReadyH.nil
  refine step_go (by rfl) 64 _ _ (by rfl) (fun _ _ => by kernel_rfl) _ (by rfl) (O2.out _) ?_
  rintro e w3 ⟨rfl, b3⟩
  refine ⟨_, rfl, ?_⟩
  have B4 := B3.trans (b3.mono B3.size)
  refine hK.out _ _ (B4) (fun hHeld => ?_)
  clear hK K
  try simp only [Act.put, List.setIfInBounds_toArray, List.set_cons_zero, List.set_cons_succ]
  refine wpAnyH_take (i := 15) (oi := ⟨some 24, _, _, _, _, _⟩) (v := ?qv15) rfl (by kernel_rfl) (by kernel_rfl) (by kernel_rfl) (fun _ _ _ h => h) (Or.inl ⟨by rfl, ?qy15⟩) hHeld ?qr15
  case qy15 => (intro w' hSw; go_simp; try with_reducible rfl)
  try simp only [Act.put, List.setIfInBounds_toArray, List.set_cons_zero, List.set_cons_succ]
  refine wpAnyH_take (i := 16) (oi := ⟨some 25, _, _, _, _, _⟩) (v := ?qv16) rfl (by kernel_rfl) (by kernel_rfl) (by kernel_rfl) (fun _ _ _ h => h) (Or.inl ⟨by rfl, ?qy16⟩) hHeld ?qr16
  case qy16 => (intro w' hSw; go_simp; try with_reducible rfl)
  try simp only [Act.put, List.setIfInBounds_toArray, List.set_cons_zero, List.set_cons_succ]
  refine wpAnyH_take (i := 17) (oi := ⟨some 26, _, _, _, _, _⟩) (v := ?qv17) rfl (by kernel_rfl) (by kernel_rfl) (by kernel_rfl) (fun _ _ _ h => h) (Or.inl ⟨by rfl, ?qy17⟩) hHeld ?qr17
  case qy17 => (intro w' hSw; go_simp; try with_reducible rfl)
  try simp only [Act.put, List.setIfInBounds_toArray, List.set_cons_zero, List.set_cons_succ]
  refine wpAnyH_take (i := 18) (oi := ⟨some 27, _, _, _, _, _⟩) (v := ?qv18) rfl (by kernel_rfl) (by kernel_rfl) (by kernel_rfl) (fun _ _ _ h => h) (Or.inl ⟨by rfl, ?qy18⟩) hHeld ?qr18
  case qy18 => (intro w' hSw; go_simp; try with_reducible rfl)
  try simp only [Act.put, List.setIfInBounds_toArray, List.set_cons_zero, List.set_cons_succ]
  refine wpAnyH_take (i := 19) (oi := ⟨some 28, _, _, _, _, _⟩) (v := ?qv19) rfl (by kernel_rfl) (by kernel_rfl) (by kernel_rfl) (fun _ _ _ h => h) (Or.inl ⟨by rfl, ?qy19⟩) hHeld ?qr19
  case qy19 => (intro w' hSw; obtain ⟨z0, z1, z2, z3, z4, z5, z6, z7⟩ := XS.out w' hSw; go_simp; try with_reducible rfl)
  try simp only [Act.put, List.setIfInBounds_toArray, List.set_cons_zero, List.set_cons_succ]
  refine wpAnyH_take (i := 20) (oi := ⟨some 29, _, _, _, _, _⟩) (v := ?qv20) rfl (by kernel_rfl) (by kernel_rfl) (by kernel_rfl) (fun _ _ _ h => h) (Or.inl ⟨by rfl, ?qy20⟩) hHeld ?qr20
  case qy20 => (intro w' hSw; obtain ⟨z0, z1, z2, z3, z4, z5, z6, z7⟩ := XS.out w' hSw; go_simp; try with_reducible rfl)
  try simp only [Act.put, List.setIfInBounds_toArray, List.set_cons_zero, List.set_cons_succ]
  refine wpAnyH_take (i := 21) (oi := ⟨some 30, _, _, _, _, _⟩) (v := ?qv21) rfl (by kernel_rfl) (by kernel_rfl) (by kernel_rfl) (fun _ _ _ h => h) (Or.inl ⟨by rfl, ?qy21⟩) hHeld ?qr21
  case qy21 => (intro w' hSw; obtain ⟨z0, z1, z2, z3, z4, z5, z6, z7⟩ := XS.out w' hSw; go_simp; try with_reducible rfl)
  try simp only [Act.put, List.setIfInBounds_toArray, List.set_cons_zero, List.set_cons_succ]
  refine wpAnyH_take (i := 23) (oi := ⟨some 32, _, _, _, _, _⟩) (v := ?qv23) rfl (by kernel_rfl) (by kernel_rfl) (by kernel_rfl) (fun _ _ _ h => h) (Or.inl ⟨by rfl, ?qy23⟩) hHeld ?qr23
  case qy23 => (intro w' hSw; obtain ⟨z0, z1, z2, z3, z4, z5, z6, z7⟩ := XS.out w' hSw; go_simp; try with_reducible rfl)
  try simp only [Act.put, List.setIfInBounds_toArray, List.set_cons_zero, List.set_cons_succ]
  refine wpAnyH_take (i := 24) (oi := ⟨some 33, _, _, _, _, _⟩) (v := ?qv24) rfl (by kernel_rfl) (by kernel_rfl) (by kernel_rfl) (fun _ _ _ h => h) (Or.inl ⟨by rfl, ?qy24⟩) hHeld ?qr24
  case qy24 => (intro w' hSw; obtain ⟨z0, z1, z2, z3, z4, z5, z6, z7⟩ := XS.out w' hSw; go_simp; try with_reducible rfl)
  try simp only [Act.put, List.setIfInBounds_toArray, List.set_cons_zero, List.set_cons_succ]
  refine wpAnyH_take (i := 25) (oi := ⟨some 34, _, _, _, _, _⟩) (v := ?qv25) rfl (by kernel_rfl) (by kernel_rfl) (by kernel_rfl) (fun _ _ _ h => h) (Or.inl ⟨by rfl, ?qy25⟩) hHeld ?qr25
  case qy25 => (intro w' hSw; obtain ⟨z0, z1, z2, z3, z4, z5, z6, z7⟩ := XS.out w' hSw; go_simp; try with_reducible rfl)
  try simp only [Act.put, List.setIfInBounds_toArray, List.set_cons_zero, List.set_cons_succ]
  refine wpAnyH_ready (rs := [22]) (by kernel_rfl) (by simp) ?_
  refine AllReadyH.cons (o := ⟨some 31, _, _, _, _, _⟩) rfl (fun K hK => ?_) AllReadyH.nil
  refine step_go (by rfl) 64 _ _ (by rfl) (fun _ _ => by kernel_rfl) _ (by rfl) (O3.out _) ?_
  rintro e w4 ⟨rfl, b4⟩
  refine ⟨_, rfl, ?_⟩
  have B5 := B4.trans (b4.mono B4.size)
  refine hK.out _ _ (B5) (fun hHeld => ?_)
  clear hK K
  try simp only [Act.put, List.setIfInBounds_toArray, List.set_cons_zero, List.set_cons_succ]
  refine wpAnyH_ready (rs := [26]) (by kernel_rfl) (by simp) ?_
  refine AllReadyH.cons (o := ⟨some 35, _, _, _, _, _⟩) rfl (fun K hK => ?_) AllReadyH.nil
  refine step_go (by rfl) 64 _ _ (by rfl) (fun _ _ => by kernel_rfl) _ (by rfl) (O4.out _) ?_
  rintro e w5 ⟨rfl, b5⟩
  refine ⟨_, rfl, ?_⟩
  have B6 := B5.trans (b5.mono B5.size)
  refine hK.out _ _ (B6) (fun hHeld => ?_)
  clear hK K
  try simp only [Act.put, List.setIfInBounds_toArray, List.set_cons_zero, List.set_cons_succ]
  refine wpAnyH_take (i := 27) (oi := ⟨some 36, _, _, _, _, _⟩) (v := ?qv27) rfl (by kernel_rfl) (by kernel_rfl) (by kernel_rfl) (fun _ _ _ h => h) (Or.inl ⟨by rfl, ?qy27⟩) hHeld ?qr27
  case qy27 => (intro w' hSw; go_simp; try with_reducible rfl)
  try simp only [Act.put, List.setIfInBounds_toArray, List.set_cons_zero, List.set_cons_succ]
  refine wpAnyH_take (i := 28) (oi := ⟨some 37, _, _, _, _, _⟩) (v := ?qv28) rfl (by kernel_rfl) (by kernel_rfl) (by kernel_rfl) (fun _ _ _ h => h) (Or.inl ⟨by rfl, ?qy28⟩) hHeld ?qr28
  case qy28 => (intro w' hSw; go_simp; try with_reducible rfl)
  try simp only [Act.put, List.setIfInBounds_toArray, List.set_cons_zero, List.set_cons_succ]
  refine wpAnyH_take (i := 29) (oi := ⟨some 38, _, _, _, _, _⟩) (v := ?qv29) rfl (by kernel_rfl) (by kernel_rfl) (by kernel_rfl) (fun _ _ _ h => h) (Or.inl ⟨by rfl, ?qy29⟩) hHeld ?qr29
  case qy29 => (intro w' hSw; go_simp; try with_reducible rfl)
  try simp only [Act.put, List.setIfInBounds_toArray, List.set_cons_zero, List.set_cons_succ]
  refine wpAnyH_take (i := 30) (oi := ⟨some 8, _, _, _, _, _⟩) (v := ?qv30) rfl (by kernel_rfl) (by kernel_rfl) (by kernel_rfl) (fun _ _ _ h => h) (Or.inl ⟨by rfl, ?qy30⟩) hHeld ?qr30
  case qy30 => (intro w' hSw; go_simp; try with_reducible rfl)
  try simp only [Act.put, List.setIfInBounds_toArray, List.set_cons_zero, List.set_cons_succ]
  refine wpAnyH_done (by kernel_rfl) ?_ _
  refine NoPanic.normal ?_
  go_wp2_with fail
  go_ret
  exact ⟨rfl, B0.trans (B6.mono B0.size)⟩

theorem Proper_ok (ax ay bx bz cx cy dx dy : Int) (w : World) (ha : inP ax ay) (hb : inP bx bz) (hc : inP cx cy) (hd : inP dx dy) :
    Calls Tryd.prog 67 #[.agg #[.int .i64 ax, .int .i64 ay], .agg #[.int .i64 bx, .int .i64 bz], .agg #[.int .i64 cx, .int .i64 cy], .agg #[.int .i64 dx, .int .i64 dy]] w fun e w' => e = .returned (.bool (properB (ax, ay) (bx, bz) (cx, cy) (dx, dy))) ∧ Below w.heap.size w w' := by
  by_cases h : sgn (crs (ax, ay) (bx, bz) (cx, cy)) * sgn (crs (ax, ay) (bx, bz) (dx, dy)) < 0
  · have e1 : properB (ax, ay) (bx, bz) (cx, cy) (dx, dy) = decide (sgn (crs (cx, cy) (dx, dy) (ax, ay)) * sgn (crs (cx, cy) (dx, dy) (bx, bz)) < 0) := by unfold properB; rw [decide_eq_true h]; rfl
    rw [e1]
    exact Proper_yes ax ay bx bz cx cy dx dy w ha hb hc hd h
  · have e1 : properB (ax, ay) (bx, bz) (cx, cy) (dx, dy) = false := by unfold properB; rw [decide_eq_false h]; rfl
    rw [e1]
    exact Proper_no ax ay bx bz cx cy dx dy w ha hb hc hd h

set_option maxRecDepth 100000 in
theorem Meet_0 (ax ay bx bz cx cy dx dy : Int) (w : World) (ha : inP ax ay) (hb : inP bx bz) (hc : inP cx cy) (hd : inP dx dy) (q0 : properB (ax, ay) (bx, bz) (cx, cy) (dx, dy) = true) :
    Calls Tryd.prog 58 #[.agg #[.int .i64 ax, .int .i64 ay], .agg #[.int .i64 bx, .int .i64 bz], .agg #[.int .i64 cx, .int .i64 cy], .agg #[.int .i64 dx, .int .i64 dy]] w fun e w' => e = .returned (.bool true) ∧ Below w.heap.size w w' := by
  have M := Lib.hid (fun g w q => segmMay_any (.slice (some ⟨g, 0, none⟩) 4 4) [(ax, ay), (bx, bz), (cx, cy), (dx, dy)] w q)
  rw [show allP [(ax, ay), (bx, bz), (cx, cy), (dx, dy)] = true by simp [allP, okP, ha, hb, hc, hd]] at M
  have C0 := Lib.hid (fun w => Proper_ok ax ay bx bz cx cy dx dy w ha hb hc hd)
  rw [q0] at C0
  clear ha hb hc hd q0
  have B0 : Below w.heap.size w ((((w.alloc (.cells #[.int .i64 ax, .int .i64 ay] 43)).alloc (.cells #[.int .i64 bx, .int .i64 bz] 43)).alloc (.cells #[.int .i64 cx, .int .i64 cy] 43)).alloc (.cells #[.int .i64 dx, .int .i64 dy] 43)) := ((((Below.refl _ _).alloc (Nat.le_refl _) _).alloc (by simp) _).alloc (by simp; omega) _).alloc (by simp; omega) _
  have T0 := four_alloc w 43 ax ay bx bz cx cy dx dy
  generalize hW : (((w.alloc (.cells #[.int .i64 ax, .int .i64 ay] 43)).alloc (.cells #[.int .i64 bx, .int .i64 bz] 43)).alloc (.cells #[.int .i64 cx, .int .i64 cy] 43)).alloc (.cells #[.int .i64 dx, .int .i64 dy] 43) = W at B0 T0
  have XS := Lib.hid (show ∀ w', Below W.heap.size W w' → _ from fun w' hb => (Four.below T0 hb).cells)
  obtain ⟨y0, y1, y2, y3, y4, y5, y6, y7⟩ := T0.cells
  clear T0
  have hz : w.heap.size + 1 + 1 + 1 < W.heap.size := World.block_lt_of_cell? W ⟨w.heap.size + 1 + 1 + 1, 0, none⟩ y6
  go_enter Tryd.func58, Tryd.ntmps58
  go_wp2_with fail
  refine (M.out _ _ (pts4 _ _ _ rfl _ _ _ _ _ _ _ _)).mono ?_
  rintro e w1 ⟨rfl, b1⟩
  have B1 := ((Below.refl W.heap.size W).alloc (Nat.le_refl _) (.cells #[.int .i64 ax, .int .i64 ay, .int .i64 bx, .int .i64 bz, .int .i64 cx, .int .i64 cy, .int .i64 dx, .int .i64 dy] 43)).trans (b1.mono (by simp))
  clear y0 y1 y2 y3 y4 y5 y6 y7
  obtain ⟨y0, y1, y2, y3, y4, y5, y6, y7⟩ := XS.out _ B1
  go_wp2_with fail
  refine (C0.out _).mono ?_
  rintro e w2 ⟨rfl, b2⟩
  have B2 := B1.trans (b2.mono B1.size)
  clear y0 y1 y2 y3 y4 y5 y6 y7
  go_wp2_with fail
  go_ret
  exact ⟨rfl, B0.trans (B2.mono B0.size)⟩
set_option maxRecDepth 100000 in
theorem Meet_1 (ax ay bx bz cx cy dx dy : Int) (w : World) (ha : inP ax ay) (hb : inP bx bz) (hc : inP cx cy) (hd : inP dx dy) (q0 : properB (ax, ay) (bx, bz) (cx, cy) (dx, dy) = false) (q1 : onB (ax, ay) (bx, bz) (cx, cy) = true) :
    Calls Tryd.prog 58 #[.agg #[.int .i64 ax, .int .i64 ay], .agg #[.int .i64 bx, .int .i64 bz], .agg #[.int .i64 cx, .int .i64 cy], .agg #[.int .i64 dx, .int .i64 dy]] w fun e w' => e = .returned (.bool true) ∧ Below w.heap.size w w' := by
  have M := Lib.hid (fun g w q => segmMay_any (.slice (some ⟨g, 0, none⟩) 4 4) [(ax, ay), (bx, bz), (cx, cy), (dx, dy)] w q)
  rw [show allP [(ax, ay), (bx, bz), (cx, cy), (dx, dy)] = true by simp [allP, okP, ha, hb, hc, hd]] at M
  have C0 := Lib.hid (fun w => Proper_ok ax ay bx bz cx cy dx dy w ha hb hc hd)
  rw [q0] at C0
  have C1 := Lib.hid (fun w => On_any ax ay bx bz cx cy w)
  rw [q1] at C1
  clear ha hb hc hd q0 q1
  have B0 : Below w.heap.size w ((((w.alloc (.cells #[.int .i64 ax, .int .i64 ay] 43)).alloc (.cells #[.int .i64 bx, .int .i64 bz] 43)).alloc (.cells #[.int .i64 cx, .int .i64 cy] 43)).alloc (.cells #[.int .i64 dx, .int .i64 dy] 43)) := ((((Below.refl _ _).alloc (Nat.le_refl _) _).alloc (by simp) _).alloc (by simp; omega) _).alloc (by simp; omega) _
  have T0 := four_alloc w 43 ax ay bx bz cx cy dx dy
  generalize hW : (((w.alloc (.cells #[.int .i64 ax, .int .i64 ay] 43)).alloc (.cells #[.int .i64 bx, .int .i64 bz] 43)).alloc (.cells #[.int .i64 cx, .int .i64 cy] 43)).alloc (.cells #[.int .i64 dx, .int .i64 dy] 43) = W at B0 T0
  have XS := Lib.hid (show ∀ w', Below W.heap.size W w' → _ from fun w' hb => (Four.below T0 hb).cells)
  obtain ⟨y0, y1, y2, y3, y4, y5, y6, y7⟩ := T0.cells
  clear T0
  have hz : w.heap.size + 1 + 1 + 1 < W.heap.size := World.block_lt_of_cell? W ⟨w.heap.size + 1 + 1 + 1, 0, none⟩ y6
  go_enter Tryd.func58, Tryd.ntmps58
  go_wp2_with fail
  refine (M.out _ _ (pts4 _ _ _ rfl _ _ _ _ _ _ _ _)).mono ?_
  rintro e w1 ⟨rfl, b1⟩
  have B1 := ((Below.refl W.heap.size W).alloc (Nat.le_refl _) (.cells #[.int .i64 ax, .int .i64 ay, .int .i64 bx, .int .i64 bz, .int .i64 cx, .int .i64 cy, .int .i64 dx, .int .i64 dy] 43)).trans (b1.mono (by simp))
  clear y0 y1 y2 y3 y4 y5 y6 y7
  obtain ⟨y0, y1, y2, y3, y4, y5, y6, y7⟩ := XS.out _ B1
  go_wp2_with fail
  refine (C0.out _).mono ?_
  rintro e w2 ⟨rfl, b2⟩
  have B2 := B1.trans (b2.mono B1.size)
  clear y0 y1 y2 y3 y4 y5 y6 y7
  obtain ⟨y0, y1, y2, y3, y4, y5, y6, y7⟩ := XS.out _ B2
  go_wp2_with fail
  refine (C1.out _).mono ?_
  rintro e w3 ⟨rfl, b3⟩
  have B3 := B2.trans (b3.mono B2.size)
  clear y0 y1 y2 y3 y4 y5 y6 y7
  go_wp2_with fail
  go_ret
  exact ⟨rfl, B0.trans (B3.mono B0.size)⟩
set_option maxRecDepth 100000 in
theorem Meet_2 (ax ay bx bz cx cy dx dy : Int) (w : World) (ha : inP ax ay) (hb : inP bx bz) (hc : inP cx cy) (hd : inP dx dy) (q0 : properB (ax, ay) (bx, bz) (cx, cy) (dx, dy) = false) (q1 : onB (ax, ay) (bx, bz) (cx, cy) = false) (q2 : onB (ax, ay) (bx, bz) (dx, dy) = true) :
    Calls Tryd.prog 58 #[.agg #[.int .i64 ax, .int .i64 ay], .agg #[.int .i64 bx, .int .i64 bz], .agg #[.int .i64 cx, .int .i64 cy], .agg #[.int .i64 dx, .int .i64 dy]] w fun e w' => e = .returned (.bool true) ∧ Below w.heap.size w w' := by
  have M := Lib.hid (fun g w q => segmMay_any (.slice (some ⟨g, 0, none⟩) 4 4) [(ax, ay), (bx, bz), (cx, cy), (dx, dy)] w q)
  rw [show allP [(ax, ay), (bx, bz), (cx, cy), (dx, dy)] = true by simp [allP, okP, ha, hb, hc, hd]] at M
  have C0 := Lib.hid (fun w => Proper_ok ax ay bx bz cx cy dx dy w ha hb hc hd)
  rw [q0] at C0
  have C1 := Lib.hid (fun w => On_any ax ay bx bz cx cy w)
  rw [q1] at C1
  have C2 := Lib.hid (fun w => On_any ax ay bx bz dx dy w)
  rw [q2] at C2
  clear ha hb hc hd q0 q1 q2
  have B0 : Below w.heap.size w ((((w.alloc (.cells #[.int .i64 ax, .int .i64 ay] 43)).alloc (.cells #[.int .i64 bx, .int .i64 bz] 43)).alloc (.cells #[.int .i64 cx, .int .i64 cy] 43)).alloc (.cells #[.int .i64 dx, .int .i64 dy] 43)) := ((((Below.refl _ _).alloc (Nat.le_refl _) _).alloc (by simp) _).alloc (by simp; omega) _).alloc (by simp; omega) _
  have T0 := four_alloc w 43 ax ay bx bz cx cy dx dy
  generalize hW : (((w.alloc (.cells #[.int .i64 ax, .int .i64 ay] 43)).alloc (.cells #[.int .i64 bx, .int .i64 bz] 43)).alloc (.cells #[.int .i64 cx, .int .i64 cy] 43)).alloc (.cells #[.int .i64 dx, .int .i64 dy] 43) = W at B0 T0
  have XS := Lib.hid (show ∀ w', Below W.heap.size W w' → _ from fun w' hb => (Four.below T0 hb).cells)
  obtain ⟨y0, y1, y2, y3, y4, y5, y6, y7⟩ := T0.cells
  clear T0
  have hz : w.heap.size + 1 + 1 + 1 < W.heap.size := World.block_lt_of_cell? W ⟨w.heap.size + 1 + 1 + 1, 0, none⟩ y6
  go_enter Tryd.func58, Tryd.ntmps58
  go_wp2_with fail
  refine (M.out _ _ (pts4 _ _ _ rfl _ _ _ _ _ _ _ _)).mono ?_
  rintro e w1 ⟨rfl, b1⟩
  have B1 := ((Below.refl W.heap.size W).alloc (Nat.le_refl _) (.cells #[.int .i64 ax, .int .i64 ay, .int .i64 bx, .int .i64 bz, .int .i64 cx, .int .i64 cy, .int .i64 dx, .int .i64 dy] 43)).trans (b1.mono (by simp))
  clear y0 y1 y2 y3 y4 y5 y6 y7
  obtain ⟨y0, y1, y2, y3, y4, y5, y6, y7⟩ := XS.out _ B1
  go_wp2_with fail
  refine (C0.out _).mono ?_
  rintro e w2 ⟨rfl, b2⟩
  have B2 := B1.trans (b2.mono B1.size)
  clear y0 y1 y2 y3 y4 y5 y6 y7
  obtain ⟨y0, y1, y2, y3, y4, y5, y6, y7⟩ := XS.out _ B2
  go_wp2_with fail
  refine (C1.out _).mono ?_
  rintro e w3 ⟨rfl, b3⟩
  have B3 := B2.trans (b3.mono B2.size)
  clear y0 y1 y2 y3 y4 y5 y6 y7
  obtain ⟨y0, y1, y2, y3, y4, y5, y6, y7⟩ := XS.out _ B3
  go_wp2_with fail
  refine (C2.out _).mono ?_
  rintro e w4 ⟨rfl, b4⟩
  have B4 := B3.trans (b4.mono B3.size)
  clear y0 y1 y2 y3 y4 y5 y6 y7
  go_wp2_with fail
  go_ret
  exact ⟨rfl, B0.trans (B4.mono B0.size)⟩
set_option maxRecDepth 100000 in
theorem Meet_3 (ax ay bx bz cx cy dx dy : Int) (w : World) (ha : inP ax ay) (hb : inP bx bz) (hc : inP cx cy) (hd : inP dx dy) (q0 : properB (ax, ay) (bx, bz) (cx, cy) (dx, dy) = false) (q1 : onB (ax, ay) (bx, bz) (cx, cy) = false) (q2 : onB (ax, ay) (bx, bz) (dx, dy) = false) (q3 : onB (cx, cy) (dx, dy) (ax, ay) = true) :
    Calls Tryd.prog 58 #[.agg #[.int .i64 ax, .int .i64 ay], .agg #[.int .i64 bx, .int .i64 bz], .agg #[.int .i64 cx, .int .i64 cy], .agg #[.int .i64 dx, .int .i64 dy]] w fun e w' => e = .returned (.bool true) ∧ Below w.heap.size w w' := by
  have M := Lib.hid (fun g w q => segmMay_any (.slice (some ⟨g, 0, none⟩) 4 4) [(ax, ay), (bx, bz), (cx, cy), (dx, dy)] w q)
  rw [show allP [(ax, ay), (bx, bz), (cx, cy), (dx, dy)] = true by simp [allP, okP, ha, hb, hc, hd]] at M
  have C0 := Lib.hid (fun w => Proper_ok ax ay bx bz cx cy dx dy w ha hb hc hd)
  rw [q0] at C0
  have C1 := Lib.hid (fun w => On_any ax ay bx bz cx cy w)
  rw [q1] at C1
  have C2 := Lib.hid (fun w => On_any ax ay bx bz dx dy w)
  rw [q2] at C2
  have C3 := Lib.hid (fun w => On_any cx cy dx dy ax ay w)
  rw [q3] at C3
  clear ha hb hc hd q0 q1 q2 q3
  have B0 : Below w.heap.size w ((((w.alloc (.cells #[.int .i64 ax, .int .i64 ay] 43)).alloc (.cells #[.int .i64 bx, .int .i64 bz] 43)).alloc (.cells #[.int .i64 cx, .int .i64 cy] 43)).alloc (.cells #[.int .i64 dx, .int .i64 dy] 43)) := ((((Below.refl _ _).alloc (Nat.le_refl _) _).alloc (by simp) _).alloc (by simp; omega) _).alloc (by simp; omega) _
  have T0 := four_alloc w 43 ax ay bx bz cx cy dx dy
  generalize hW : (((w.alloc (.cells #[.int .i64 ax, .int .i64 ay] 43)).alloc (.cells #[.int .i64 bx, .int .i64 bz] 43)).alloc (.cells #[.int .i64 cx, .int .i64 cy] 43)).alloc (.cells #[.int .i64 dx, .int .i64 dy] 43) = W at B0 T0
  have XS := Lib.hid (show ∀ w', Below W.heap.size W w' → _ from fun w' hb => (Four.below T0 hb).cells)
  obtain ⟨y0, y1, y2, y3, y4, y5, y6, y7⟩ := T0.cells
  clear T0
  have hz : w.heap.size + 1 + 1 + 1 < W.heap.size := World.block_lt_of_cell? W ⟨w.heap.size + 1 + 1 + 1, 0, none⟩ y6
  go_enter Tryd.func58, Tryd.ntmps58
  go_wp2_with fail
  refine (M.out _ _ (pts4 _ _ _ rfl _ _ _ _ _ _ _ _)).mono ?_
  rintro e w1 ⟨rfl, b1⟩
  have B1 := ((Below.refl W.heap.size W).alloc (Nat.le_refl _) (.cells #[.int .i64 ax, .int .i64 ay, .int .i64 bx, .int .i64 bz, .int .i64 cx, .int .i64 cy, .int .i64 dx, .int .i64 dy] 43)).trans (b1.mono (by simp))
  clear y0 y1 y2 y3 y4 y5 y6 y7
  obtain ⟨y0, y1, y2, y3, y4, y5, y6, y7⟩ := XS.out _ B1
  go_wp2_with fail
  refine (C0.out _).mono ?_
  rintro e w2 ⟨rfl, b2⟩
  have B2 := B1.trans (b2.mono B1.size)
  clear y0 y1 y2 y3 y4 y5 y6 y7
  obtain ⟨y0, y1, y2, y3, y4, y5, y6, y7⟩ := XS.out _ B2
  go_wp2_with fail
  refine (C1.out _).mono ?_
  rintro e w3 ⟨rfl, b3⟩
  have B3 := B2.trans (b3.mono B2.size)
  clear y0 y1 y2 y3 y4 y5 y6 y7
  obtain ⟨y0, y1, y2, y3, y4, y5, y6, y7⟩ := XS.out _ B3
  go_wp2_with fail
  refine (C2.out _).mono ?_
  rintro e w4 ⟨rfl, b4⟩
  have B4 := B3.trans (b4.mono B3.size)
  clear y0 y1 y2 y3 y4 y5 y6 y7
  obtain ⟨y0, y1, y2, y3, y4, y5, y6, y7⟩ := XS.out _ B4
  go_wp2_with fail
  refine (C3.out _).mono ?_
  rintro e w5 ⟨rfl, b5⟩
  have B5 := B4.trans (b5.mono B4.size)
  clear y0 y1 y2 y3 y4 y5 y6 y7
  go_wp2_with fail
  go_ret
  exact ⟨rfl, B0.trans (B5.mono B0.size)⟩
set_option maxRecDepth 100000 in
theorem Meet_4 (ax ay bx bz cx cy dx dy : Int) (w : World) (ha : inP ax ay) (hb : inP bx bz) (hc : inP cx cy) (hd : inP dx dy) (q0 : properB (ax, ay) (bx, bz) (cx, cy) (dx, dy) = false) (q1 : onB (ax, ay) (bx, bz) (cx, cy) = false) (q2 : onB (ax, ay) (bx, bz) (dx, dy) = false) (q3 : onB (cx, cy) (dx, dy) (ax, ay) = false) (q4 : onB (cx, cy) (dx, dy) (bx, bz) = true) :
    Calls Tryd.prog 58 #[.agg #[.int .i64 ax, .int .i64 ay], .agg #[.int .i64 bx, .int .i64 bz], .agg #[.int .i64 cx, .int .i64 cy], .agg #[.int .i64 dx, .int .i64 dy]] w fun e w' => e = .returned (.bool true) ∧ Below w.heap.size w w' := by
  have M := Lib.hid (fun g w q => segmMay_any (.slice (some ⟨g, 0, none⟩) 4 4) [(ax, ay), (bx, bz), (cx, cy), (dx, dy)] w q)
  rw [show allP [(ax, ay), (bx, bz), (cx, cy), (dx, dy)] = true by simp [allP, okP, ha, hb, hc, hd]] at M
  have C0 := Lib.hid (fun w => Proper_ok ax ay bx bz cx cy dx dy w ha hb hc hd)
  rw [q0] at C0
  have C1 := Lib.hid (fun w => On_any ax ay bx bz cx cy w)
  rw [q1] at C1
  have C2 := Lib.hid (fun w => On_any ax ay bx bz dx dy w)
  rw [q2] at C2
  have C3 := Lib.hid (fun w => On_any cx cy dx dy ax ay w)
  rw [q3] at C3
  have C4 := Lib.hid (fun w => On_any cx cy dx dy bx bz w)
  rw [q4] at C4
  clear ha hb hc hd q0 q1 q2 q3 q4
  have B0 : Below w.heap.size w ((((w.alloc (.cells #[.int .i64 ax, .int .i64 ay] 43)).alloc (.cells #[.int .i64 bx, .int .i64 bz] 43)).alloc (.cells #[.int .i64 cx, .int .i64 cy] 43)).alloc (.cells #[.int .i64 dx, .int .i64 dy] 43)) := ((((Below.refl _ _).alloc (Nat.le_refl _) _).alloc (by simp) _).alloc (by simp; omega) _).alloc (by simp; omega) _
  have T0 := four_alloc w 43 ax ay bx bz cx cy dx dy
  generalize hW : (((w.alloc (.cells #[.int .i64 ax, .int .i64 ay] 43)).alloc (.cells #[.int .i64 bx, .int .i64 bz] 43)).alloc (.cells #[.int .i64 cx, .int .i64 cy] 43)).alloc (.cells #[.int .i64 dx, .int .i64 dy] 43) = W at B0 T0
  have XS := Lib.hid (show ∀ w', Below W.heap.size W w' → _ from fun w' hb => (Four.below T0 hb).cells)
  obtain ⟨y0, y1, y2, y3, y4, y5, y6, y7⟩ := T0.cells
  clear T0
  have hz : w.heap.size + 1 + 1 + 1 < W.heap.size := World.block_lt_of_cell? W ⟨w.heap.size + 1 + 1 + 1, 0, none⟩ y6
  go_enter Tryd.func58, Tryd.ntmps58
  go_wp2_with fail
  refine (M.out _ _ (pts4 _ _ _ rfl _ _ _ _ _ _ _ _)).mono ?_
  rintro e w1 ⟨rfl, b1⟩
  have B1 := ((Below.refl W.heap.size W).alloc (Nat.le_refl _) (.cells #[.int .i64 ax, .int .i64 ay, .int .i64 bx, .int .i64 bz, .int .i64 cx, .int .i64 cy, .int .i64 dx, .int .i64 dy] 43)).trans (b1.mono (by simp))
  clear y0 y1 y2 y3 y4 y5 y6 y7
  obtain ⟨y0, y1, y2, y3, y4, y5, y6, y7⟩ := XS.out _ B1
  go_wp2_with fail
  refine (C0.out _).mono ?_
  rintro e w2 ⟨rfl, b2⟩
  have B2 := B1.trans (b2.mono B1.size)
  clear y0 y1 y2 y3 y4 y5 y6 y7
  obtain ⟨y0, y1, y2, y3, y4, y5, y6, y7⟩ := XS.out _ B2
  go_wp2_with fail
  refine (C1.out _).mono ?_
  rintro e w3 ⟨rfl, b3⟩
  have B3 := B2.trans (b3.mono B2.size)
  clear y0 y1 y2 y3 y4 y5 y6 y7
  obtain ⟨y0, y1, y2, y3, y4, y5, y6, y7⟩ := XS.out _ B3
  go_wp2_with fail
  refine (C2.out _).mono ?_
  rintro e w4 ⟨rfl, b4⟩
  have B4 := B3.trans (b4.mono B3.size)
  clear y0 y1 y2 y3 y4 y5 y6 y7
  obtain ⟨y0, y1, y2, y3, y4, y5, y6, y7⟩ := XS.out _ B4
  go_wp2_with fail
  refine (C3.out _).mono ?_
  rintro e w5 ⟨rfl, b5⟩
  have B5 := B4.trans (b5.mono B4.size)
  clear y0 y1 y2 y3 y4 y5 y6 y7
  obtain ⟨y0, y1, y2, y3, y4, y5, y6, y7⟩ := XS.out _ B5
  go_wp2_with fail
  refine (C4.out _).mono ?_
  rintro e w6 ⟨rfl, b6⟩
  have B6 := B5.trans (b6.mono B5.size)
  clear y0 y1 y2 y3 y4 y5 y6 y7
  go_wp2_with fail
  go_ret
  exact ⟨rfl, B0.trans (B6.mono B0.size)⟩
set_option maxRecDepth 100000 in
theorem Meet_5 (ax ay bx bz cx cy dx dy : Int) (w : World) (ha : inP ax ay) (hb : inP bx bz) (hc : inP cx cy) (hd : inP dx dy) (q0 : properB (ax, ay) (bx, bz) (cx, cy) (dx, dy) = false) (q1 : onB (ax, ay) (bx, bz) (cx, cy) = false) (q2 : onB (ax, ay) (bx, bz) (dx, dy) = false) (q3 : onB (cx, cy) (dx, dy) (ax, ay) = false) (q4 : onB (cx, cy) (dx, dy) (bx, bz) = false) :
    Calls Tryd.prog 58 #[.agg #[.int .i64 ax, .int .i64 ay], .agg #[.int .i64 bx, .int .i64 bz], .agg #[.int .i64 cx, .int .i64 cy], .agg #[.int .i64 dx, .int .i64 dy]] w fun e w' => e = .returned (.bool false) ∧ Below w.heap.size w w' := by
  have M := Lib.hid (fun g w q => segmMay_any (.slice (some ⟨g, 0, none⟩) 4 4) [(ax, ay), (bx, bz), (cx, cy), (dx, dy)] w q)
  rw [show allP [(ax, ay), (bx, bz), (cx, cy), (dx, dy)] = true by simp [allP, okP, ha, hb, hc, hd]] at M
  have C0 := Lib.hid (fun w => Proper_ok ax ay bx bz cx cy dx dy w ha hb hc hd)
  rw [q0] at C0
  have C1 := Lib.hid (fun w => On_any ax ay bx bz cx cy w)
  rw [q1] at C1
  have C2 := Lib.hid (fun w => On_any ax ay bx bz dx dy w)
  rw [q2] at C2
  have C3 := Lib.hid (fun w => On_any cx cy dx dy ax ay w)
  rw [q3] at C3
  have C4 := Lib.hid (fun w => On_any cx cy dx dy bx bz w)
  rw [q4] at C4
  clear ha hb hc hd q0 q1 q2 q3 q4
  have B0 : Below w.heap.size w ((((w.alloc (.cells #[.int .i64 ax, .int .i64 ay] 43)).alloc (.cells #[.int .i64 bx, .int .i64 bz] 43)).alloc (.cells #[.int .i64 cx, .int .i64 cy] 43)).alloc (.cells #[.int .i64 dx, .int .i64 dy] 43)) := ((((Below.refl _ _).alloc (Nat.le_refl _) _).alloc (by simp) _).alloc (by simp; omega) _).alloc (by simp; omega) _
  have T0 := four_alloc w 43 ax ay bx bz cx cy dx dy
  generalize hW : (((w.alloc (.cells #[.int .i64 ax, .int .i64 ay] 43)).alloc (.cells #[.int .i64 bx, .int .i64 bz] 43)).alloc (.cells #[.int .i64 cx, .int .i64 cy] 43)).alloc (.cells #[.int .i64 dx, .int .i64 dy] 43) = W at B0 T0
  have XS := Lib.hid (show ∀ w', Below W.heap.size W w' → _ from fun w' hb => (Four.below T0 hb).cells)
  obtain ⟨y0, y1, y2, y3, y4, y5, y6, y7⟩ := T0.cells
  clear T0
  have hz : w.heap.size + 1 + 1 + 1 < W.heap.size := World.block_lt_of_cell? W ⟨w.heap.size + 1 + 1 + 1, 0, none⟩ y6
  go_enter Tryd.func58, Tryd.ntmps58
  go_wp2_with fail
  refine (M.out _ _ (pts4 _ _ _ rfl _ _ _ _ _ _ _ _)).mono ?_
  rintro e w1 ⟨rfl, b1⟩
  have B1 := ((Below.refl W.heap.size W).alloc (Nat.le_refl _) (.cells #[.int .i64 ax, .int .i64 ay, .int .i64 bx, .int .i64 bz, .int .i64 cx, .int .i64 cy, .int .i64 dx, .int .i64 dy] 43)).trans (b1.mono (by simp))
  clear y0 y1 y2 y3 y4 y5 y6 y7
  obtain ⟨y0, y1, y2, y3, y4, y5, y6, y7⟩ := XS.out _ B1
  go_wp2_with fail
  refine (C0.out _).mono ?_
  rintro e w2 ⟨rfl, b2⟩
  have B2 := B1.trans (b2.mono B1.size)
  clear y0 y1 y2 y3 y4 y5 y6 y7
  obtain ⟨y0, y1, y2, y3, y4, y5, y6, y7⟩ := XS.out _ B2
  go_wp2_with fail
  refine (C1.out _).mono ?_
  rintro e w3 ⟨rfl, b3⟩
  have B3 := B2.trans (b3.mono B2.size)
  clear y0 y1 y2 y3 y4 y5 y6 y7
  obtain ⟨y0, y1, y2, y3, y4, y5, y6, y7⟩ := XS.out _ B3
  go_wp2_with fail
  refine (C2.out _).mono ?_
  rintro e w4 ⟨rfl, b4⟩
  have B4 := B3.trans (b4.mono B3.size)
  clear y0 y1 y2 y3 y4 y5 y6 y7
  obtain ⟨y0, y1, y2, y3, y4, y5, y6, y7⟩ := XS.out _ B4
  go_wp2_with fail
  refine (C3.out _).mono ?_
  rintro e w5 ⟨rfl, b5⟩
  have B5 := B4.trans (b5.mono B4.size)
  clear y0 y1 y2 y3 y4 y5 y6 y7
  obtain ⟨y0, y1, y2, y3, y4, y5, y6, y7⟩ := XS.out _ B5
  go_wp2_with fail
  refine (C4.out _).mono ?_
  rintro e w6 ⟨rfl, b6⟩
  have B6 := B5.trans (b6.mono B5.size)
  clear y0 y1 y2 y3 y4 y5 y6 y7
  go_wp2_with fail
  go_ret
  exact ⟨rfl, B0.trans (B6.mono B0.size)⟩

theorem Meet_ok (ax ay bx bz cx cy dx dy : Int) (w : World) (ha : inP ax ay) (hb : inP bx bz) (hc : inP cx cy) (hd : inP dx dy) :
    Calls Tryd.prog 58 #[.agg #[.int .i64 ax, .int .i64 ay], .agg #[.int .i64 bx, .int .i64 bz], .agg #[.int .i64 cx, .int .i64 cy], .agg #[.int .i64 dx, .int .i64 dy]] w fun e w' => e = .returned (.bool (meetB (ax, ay) (bx, bz) (cx, cy) (dx, dy))) ∧ Below w.heap.size w w' := by
  unfold meetB
  cases q0 : properB (ax, ay) (bx, bz) (cx, cy) (dx, dy) with
  | true => simpa using Meet_0 ax ay bx bz cx cy dx dy w ha hb hc hd q0
  | false =>
    cases q1 : onB (ax, ay) (bx, bz) (cx, cy) with
    | true => simpa using Meet_1 ax ay bx bz cx cy dx dy w ha hb hc hd q0 q1
    | false =>
      cases q2 : onB (ax, ay) (bx, bz) (dx, dy) with
      | true => simpa using Meet_2 ax ay bx bz cx cy dx dy w ha hb hc hd q0 q1 q2
      | false =>
        cases q3 : onB (cx, cy) (dx, dy) (ax, ay) with
        | true => simpa using Meet_3 ax ay bx bz cx cy dx dy w ha hb hc hd q0 q1 q2 q3
        | false =>
          cases q4 : onB (cx, cy) (dx, dy) (bx, bz) with
          | true => simpa using Meet_4 ax ay bx bz cx cy dx dy w ha hb hc hd q0 q1 q2 q3 q4
          | false =>
            simpa using Meet_5 ax ay bx bz cx cy dx dy w ha hb hc hd q0 q1 q2 q3 q4
end Go.Proofs.YthcfekabeidmiaaRRDoorR
