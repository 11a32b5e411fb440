/- ring.spoil. (printed by wip/gen_spoil.py) -/
import Derived.Test.YtpmngdgifdkohaaDoorNextP
import Derived.Test.YtpmngdgifdkohaaDoorVars
namespace Go.Proofs.YtpmngdgifdkohaaDoor
open Go.RowKit

theorem pt_cell {w : World} {g off c : Nat} {l : List (Int × Int)} (hv : Pts w (.slice (some ⟨g, off, none⟩) l.length c) l) {i : Nat} (hi : i < l.length) :
    g < w.heap.size ∧ w.cell? ⟨g, off + i * 2, none⟩ = some (.int .i64 (pt l i).1) ∧ w.cell? ⟨g, off + i * 2 + 1, none⟩ = some (.int .i64 (pt l i).2) := by
  obtain ⟨ao, cp, he, h1, h2, h0, h3⟩ := hv.open
  obtain ⟨b, o, e, hb, hx, hy⟩ := h3 i hi
  simp only [Value.slice.injEq] at he
  rw [← he.1] at e
  cases e
  rw [pt_get l i hi]
  exact ⟨hb, hx, hy⟩

set_option maxRecDepth 100000 in
set_option maxHeartbeats 4000000 in
theorem spoil_any (g off c : Nat) (l : List (Int × Int)) (i k : Nat) (w : World) (hv : Pts w (.slice (some ⟨g, off, none⟩) l.length c) l) (hl : allP l = true) (h3 : 3 ≤ l.length) (h64 : l.length ≤ 64) (hi : i < l.length) (hk : k < l.length) :
    Calls Tryd.prog 38 #[.slice (some ⟨g, off, none⟩) l.length c, .int .i64 (i : Int), .int .i64 (k : Int)] w fun e w' => e = .returned (.bool (spoilB l i k)) ∧ Below w.heap.size w w' := by
  obtain ⟨hg, hx, hy⟩ := pt_cell hv hi
  obtain ⟨_, hx2, hy2⟩ := pt_cell hv hk
  have N1 := Lib.hid (fun w' hb => next_any _ l i w' (hv.below hb) hi)
  have N2 := Lib.hid (fun w' hb => next_any _ l k w' (hv.below hb) hk)
  have hm1 : (i + 1) % l.length < l.length := Nat.mod_lt _ (by omega)
  have hm2 : (k + 1) % l.length < l.length := Nat.mod_lt _ (by omega)
  have oa := okP_inP (pt_ok hl hi)
  have oc := okP_inP (pt_ok hl hk)
  have ob := okP_inP (pt_ok hl hm1)
  have od := okP_inP (pt_ok hl hm2)
  have HQ := Lib.hid (show spoilB l i k = (if pt l i = pt l k then true else if (i + 1) % l.length = k then onB (pt l i) (pt l ((i + 1) % l.length)) (pt l ((k + 1) % l.length)) || onB (pt l k) (pt l ((k + 1) % l.length)) (pt l i)
    else if (k + 1) % l.length = i then onB (pt l k) (pt l ((k + 1) % l.length)) (pt l ((i + 1) % l.length)) || onB (pt l i) (pt l ((i + 1) % l.length)) (pt l k) else meetB (pt l i) (pt l ((i + 1) % l.length)) (pt l k) (pt l ((k + 1) % l.length))) from rfl)
  have m1 : ((i : Int) + 1) % (l.length : Int) = (((i + 1) % l.length : Nat) : Int) := by rw [Int.natCast_emod]; rfl
  have m2 : ((k : Int) + 1) % (l.length : Int) = (((k + 1) % l.length : Nat) : Int) := by rw [Int.natCast_emod]; rfl
  have XS := Lib.hid (show ∀ w', Below w.heap.size w w' → w'.cell? ⟨g, off + i * 2, none⟩ = some (.int .i64 (pt l i).1) ∧ w'.cell? ⟨g, off + i * 2 + 1, none⟩ = some (.int .i64 (pt l i).2) ∧ w'.cell? ⟨g, off + k * 2, none⟩ = some (.int .i64 (pt l k).1) ∧ w'.cell? ⟨g, off + k * 2 + 1, none⟩ = some (.int .i64 (pt l k).2) from
    fun w' h => ⟨(h.cell (p := ⟨g, off + i * 2, none⟩) hg).trans hx, (h.cell (p := ⟨g, off + i * 2 + 1, none⟩) hg).trans hy, (h.cell (p := ⟨g, off + k * 2, none⟩) hg).trans hx2, (h.cell (p := ⟨g, off + k * 2 + 1, none⟩) hg).trans hy2⟩)
  clear hx hy hx2 hy2 hm1 hm2 hv hl
  generalize pt l i = pa at *
  generalize pt l k = pc at *
  generalize pt l ((i + 1) % l.length) = pb at *
  generalize pt l ((k + 1) % l.length) = pd at *
  generalize (i + 1) % l.length = j1 at *
  generalize (k + 1) % l.length = j2 at *
  obtain ⟨ax, ay⟩ := pa
  obtain ⟨bx, bz⟩ := pb
  obtain ⟨cx, cy⟩ := pc
  obtain ⟨dx, dy⟩ := pd
  simp only at oa ob oc od XS N1 N2
  have i0 : (0 : Int) ≤ (i : Int) := by omega
  have i1 : (i : Int) < (l.length : Int) := by omega
  have k0 : (0 : Int) ≤ (k : Int) := by omega
  have k1 : (k : Int) < (l.length : Int) := by omega
  go_enter Tryd.func38, Tryd.ntmps38
  go_wp2_with fail
  refine wp_region_noPanic ?_
  refine wp_region_held_drew (S := fun w' => Below w.heap.size w w') (by kernel_rfl) (Below.refl _ _).drew (fun hHeld => ?_)
  generalize w.drew = D at hHeld ⊢
  have B1 : Below w.heap.size w D := hHeld
  refine wpAnyH_take (i := 0) (oi := ⟨some 11, _, _, _, _, _⟩) (v := ?qv0) rfl (by kernel_rfl) (by kernel_rfl) (by kernel_rfl) (fun _ _ _ h => h) (Or.inl ⟨by rfl, ?qy0⟩) hHeld ?qr0
  case qy0 => (intro w' hSw; go_simp; try with_reducible rfl)
  try simp only [Act.put, List.setIfInBounds_toArray, List.set_cons_zero, List.set_cons_succ]
  refine wpAnyH_take (i := 1) (oi := ⟨some 12, _, _, _, _, _⟩) (v := ?qv1) rfl (by kernel_rfl) (by kernel_rfl) (by kernel_rfl) (fun _ _ _ h => h) (Or.inl ⟨by rfl, ?qy1⟩) hHeld ?qr1
  case qy1 => (intro w' hSw; go_simp; try with_reducible rfl)
  try simp only [Act.put, List.setIfInBounds_toArray, List.set_cons_zero, List.set_cons_succ]
  refine wpAnyH_take (i := 2) (oi := ⟨some 13, _, _, _, _, _⟩) (v := ?qv2) rfl (by kernel_rfl) (by kernel_rfl) (by kernel_rfl) (fun _ _ _ h => h) (Or.inl ⟨by rfl, ?qy2⟩) hHeld ?qr2
  case qy2 => (intro w' hSw; go_simp; try with_reducible rfl)
  try simp only [Act.put, List.setIfInBounds_toArray, List.set_cons_zero, List.set_cons_succ]
  refine wpAnyH_take (i := 3) (oi := ⟨some 14, _, _, _, _, _⟩) (v := ?qv3) rfl (by kernel_rfl) (by kernel_rfl) (by kernel_rfl) (fun _ _ _ h => h) (Or.inl ⟨by rfl, ?qy3⟩) hHeld ?qr3
  case qy3 => (intro w' hSw; obtain ⟨z0, z1, z2, z3⟩ := XS.out w' hSw; go_simp; try with_reducible rfl)
  try simp only [Act.put, List.setIfInBounds_toArray, List.set_cons_zero, List.set_cons_succ]
  refine wpAnyH_take (i := 4) (oi := ⟨some 15, _, _, _, _, _⟩) (v := ?qv4) rfl (by kernel_rfl) (by kernel_rfl) (by kernel_rfl) (fun _ _ _ h => h) (Or.inl ⟨by rfl, ?qy4⟩) hHeld ?qr4
  case qy4 => (intro w' hSw; go_simp; try with_reducible rfl)
  try simp only [Act.put, List.setIfInBounds_toArray, List.set_cons_zero, List.set_cons_succ]
  refine wpAnyH_take (i := 5) (oi := ⟨some 16, _, _, _, _, _⟩) (v := ?qv5) rfl (by kernel_rfl) (by kernel_rfl) (by kernel_rfl) (fun _ _ _ h => h) (Or.inl ⟨by rfl, ?qy5⟩) hHeld ?qr5
  case qy5 => (intro w' hSw; go_simp; try with_reducible rfl)
  try simp only [Act.put, List.setIfInBounds_toArray, List.set_cons_zero, List.set_cons_succ]
  refine wpAnyH_take (i := 7) (oi := ⟨some 18, _, _, _, _, _⟩) (v := ?qv7) rfl (by kernel_rfl) (by kernel_rfl) (by kernel_rfl) (fun _ _ _ h => h) (Or.inl ⟨by rfl, ?qy7⟩) hHeld ?qr7
  case qy7 => (intro w' hSw; go_simp; try with_reducible rfl)
  try simp only [Act.put, List.setIfInBounds_toArray, List.set_cons_zero, List.set_cons_succ]
  refine wpAnyH_take (i := 8) (oi := ⟨some 19, _, _, _, _, _⟩) (v := ?qv8) rfl (by kernel_rfl) (by kernel_rfl) (by kernel_rfl) (fun _ _ _ h => h) (Or.inl ⟨by rfl, ?qy8⟩) hHeld ?qr8
  case qy8 => (intro w' hSw; go_simp; try with_reducible rfl)
  try simp only [Act.put, List.setIfInBounds_toArray, List.set_cons_zero, List.set_cons_succ]
  refine wpAnyH_take (i := 9) (oi := ⟨some 20, _, _, _, _, _⟩) (v := ?qv9) rfl (by kernel_rfl) (by kernel_rfl) (by kernel_rfl) (fun _ _ _ h => h) (Or.inl ⟨by rfl, ?qy9⟩) hHeld ?qr9
  case qy9 => (intro w' hSw; go_simp; try with_reducible rfl)
  try simp only [Act.put, List.setIfInBounds_toArray, List.set_cons_zero, List.set_cons_succ]
  refine wpAnyH_take (i := 10) (oi := ⟨some 21, _, _, _, _, _⟩) (v := ?qv10) rfl (by kernel_rfl) (by kernel_rfl) (by kernel_rfl) (fun _ _ _ h => h) (Or.inl ⟨by rfl, ?qy10⟩) hHeld ?qr10
  case qy10 => (intro w' hSw; obtain ⟨z0, z1, z2, z3⟩ := XS.out w' hSw; go_simp; try with_reducible rfl)
  try simp only [Act.put, List.setIfInBounds_toArray, List.set_cons_zero, List.set_cons_succ]
  refine wpAnyH_take (i := 11) (oi := ⟨some 22, _, _, _, _, _⟩) (v := ?qv11) rfl (by kernel_rfl) (by kernel_rfl) (by kernel_rfl) (fun _ _ _ h => h) (Or.inl ⟨by rfl, ?qy11⟩) hHeld ?qr11
  case qy11 => (intro w' hSw; go_simp; try with_reducible rfl)
  try simp only [Act.put, List.setIfInBounds_toArray, List.set_cons_zero, List.set_cons_succ]
  refine wpAnyH_take (i := 12) (oi := ⟨some 23, _, _, _, _, _⟩) (v := ?qv12) rfl (by kernel_rfl) (by kernel_rfl) (by kernel_rfl) (fun _ _ _ h => h) (Or.inl ⟨by rfl, ?qy12⟩) hHeld ?qr12
  case qy12 => (intro w' hSw; go_simp; try with_reducible rfl)
  try simp only [Act.put, List.setIfInBounds_toArray, List.set_cons_zero, List.set_cons_succ]
  refine wpAnyH_vars (ops := _) w (.agg #[.int .i64 bx, .int .i64 bz]) (.agg #[.int .i64 dx, .int .i64 dy]) (fun u1 u2 u3 u4 u5 u6 => ⟨#[.slice (some ⟨g, off, none⟩) l.length c, .int .i64 (i : Int), .int .i64 (k : Int), undef, undef, undef, .bool false, u3, u4, u5, u6, .slice (some ⟨g, off, none⟩) l.length c, .int .i64 (i : Int), .pointer (some ⟨g, off + i * 2, none⟩), .agg #[.int .i64 ax, .int .i64 ay], .slice (some ⟨g, off, none⟩) l.length c, .int .i64 (i : Int), u1, .slice (some ⟨g, off, none⟩) l.length c, .int .i64 (k : Int), .pointer (some ⟨g, off + k * 2, none⟩), .agg #[.int .i64 cx, .int .i64 cy], .slice (some ⟨g, off, none⟩) l.length c, .int .i64 (k : Int), u2, undef, undef, undef, undef, undef, undef, undef, undef, undef, undef, undef, undef, undef, undef, undef, undef, undef, undef, undef, undef, undef, undef, undef, undef, undef, undef, undef, undef, undef, undef, undef, undef, undef, undef, undef, undef, undef, undef, undef, undef, undef, undef, undef, undef, undef], []⟩) (fun b1 b2 b3 b4 b5 b6 => #[true, true, true, true, true, true, b1, true, true, true, true, true, true, b2, b3, b4, b5, b6, false, false, false, false]) 6 13 14 15 16 17 4
    ?zready (fun _ _ _ _ _ _ => rfl) (fun _ _ _ _ _ _ => rfl) (fun _ _ _ _ _ _ => rfl) (fun _ _ _ _ _ _ => rfl) (fun _ _ _ _ _ _ => rfl) (fun _ _ _ _ _ _ => rfl) ?zc1 ?zc2 ?za3 ?za4 ?za5 ?za6 ?zfin 6 false false false false false false undef undef undef undef undef undef 0 0 0 0 D rfl ?zv
  case zready =>
    intro b1 b2 b3 b4 b5 b6 h h12
    cases b1 <;> cases b2 <;> cases b3 <;> cases b4 <;> cases b5 <;> cases b6 <;> first | (exact absurd h (by decide)) | (exact absurd (h12 rfl) (by decide)) | kernel_rfl
  case zv => exact { bel := B1, e1 := fun q => (by cases q), e2 := fun q => (by cases q), h12 := fun q => (by cases q), c3 := fun q => (by cases q), c4 := fun q => (by cases q), c5 := fun q => (by cases q), c6 := fun q => (by cases q), d34 := fun q => (by cases q), d35 := fun q => (by cases q), d36 := fun q => (by cases q), d45 := fun q => (by cases q), d46 := fun q => (by cases q), d56 := fun q => (by cases q) }
  case zc1 =>
    intro u1 u2 u3 u4 u5 u6 w2 K hb h
    refine wpOp_step (o := ⟨some 17, _, _, _, _, _⟩) rfl fun K' hK => ?_
    refine step_go (by rfl) 40 _ _ (by rfl) (fun _ _ => by kernel_rfl) _ (by rfl) (N1.out _ hb) ?_
    rintro e w3 ⟨rfl, b3⟩
    exact ⟨_, rfl, hK _ _ (h _ b3)⟩
  case zc2 =>
    intro u1 u2 u3 u4 u5 u6 w2 K hb h
    refine wpOp_step (o := ⟨some 24, _, _, _, _, _⟩) rfl fun K' hK => ?_
    refine step_go (by rfl) 40 _ _ (by rfl) (fun _ _ => by kernel_rfl) _ (by rfl) (N2.out _ hb) ?_
    rintro e w3 ⟨rfl, b3⟩
    exact ⟨_, rfl, hK _ _ (h _ b3)⟩
  case za3 =>
    intro u1 u2 u3 u4 u5 u6 w2 K h
    refine wpOp_step (o := ⟨some 7, _, _, _, _, _⟩) rfl fun K' hK => ?_
    go_simp
    exact hK _ _ h
  case za4 =>
    intro u1 u2 u3 u4 u5 u6 w2 K h
    refine wpOp_step (o := ⟨some 8, _, _, _, _, _⟩) rfl fun K' hK => ?_
    go_simp
    exact hK _ _ h
  case za5 =>
    intro u1 u2 u3 u4 u5 u6 w2 K h
    refine wpOp_step (o := ⟨some 9, _, _, _, _, _⟩) rfl fun K' hK => ?_
    go_simp
    exact hK _ _ h
  case za6 =>
    intro u1 u2 u3 u4 u5 u6 w2 K h
    refine wpOp_step (o := ⟨some 10, _, _, _, _, _⟩) rfl fun K' hK => ?_
    go_simp
    exact hK _ _ h
  case zfin =>
    intro u1 u2 u3 u4 u5 u6 g3 g4 g5 g6 w5 hv
    obtain rfl := hv.e1 rfl
    obtain rfl := hv.e2 rfl
    obtain ⟨rfl, l3, n3⟩ := hv.c3 rfl
    obtain ⟨rfl, l4, n4⟩ := hv.c4 rfl
    obtain ⟨rfl, l5, n5⟩ := hv.c5 rfl
    obtain ⟨rfl, l6, n6⟩ := hv.c6 rfl
    have d34 := hv.d34 rfl rfl
    have d35 := hv.d35 rfl rfl
    have d36 := hv.d36 rfl rfl
    have d45 := hv.d45 rfl rfl
    have d46 := hv.d46 rfl rfl
    have d56 := hv.d56 rfl rfl
    have T1 := n3.there
    have T2 := n4.there
    have T3 := n5.there
    have T4 := n6.there
    have E0 := hv.bel
    clear hv n3 n4 n5 n6
    have E1 := below_setCells l3 [.int .i64 ax, .int .i64 ay] 0 _ E0
    refine wpAnyH_ready (rs := [18]) (by kernel_rfl) (by simp) ?_
    refine AllReadyH.cons (o := ⟨none, _, _, _, _, _⟩) rfl (fun K hK => ?_) AllReadyH.nil
    refine step_store (by rfl) _ _ _ (by rfl) g3 ax ay (by rfl) (by rfl) T1 (by kernel_rfl) ?_
    refine hK.out _ _ E1 (fun hHeld => ?_)
    clear hK K hHeld
    try simp only [Act.put, List.setIfInBounds_toArray, List.set_cons_zero, List.set_cons_succ]
    have Y1 := pair_setCells _ g3 ax ay T1
    replace T2 := World.there_setCells T2 g3 0 [.int .i64 ax, .int .i64 ay]
    replace T3 := World.there_setCells T3 g3 0 [.int .i64 ax, .int .i64 ay]
    replace T4 := World.there_setCells T4 g3 0 [.int .i64 ax, .int .i64 ay]
    generalize w5.setCells g3 0 [.int .i64 ax, .int .i64 ay] = x1 at E1 Y1 T2 T3 T4 ⊢
    clear E0 T1
    have E2 := below_setCells l4 [.int .i64 bx, .int .i64 bz] 0 _ E1
    refine wpAnyH_ready (rs := [19]) (by kernel_rfl) (by simp) ?_
    refine AllReadyH.cons (o := ⟨none, _, _, _, _, _⟩) rfl (fun K hK => ?_) AllReadyH.nil
    refine step_store (by rfl) _ _ _ (by rfl) g4 bx bz (by rfl) (by rfl) T2 (by kernel_rfl) ?_
    refine hK.out _ _ E2 (fun hHeld => ?_)
    clear hK K hHeld
    try simp only [Act.put, List.setIfInBounds_toArray, List.set_cons_zero, List.set_cons_succ]
    replace Y1 := Y1.apart d34 [.int .i64 bx, .int .i64 bz]
    have Y2 := pair_setCells _ g4 bx bz T2
    replace T3 := World.there_setCells T3 g4 0 [.int .i64 bx, .int .i64 bz]
    replace T4 := World.there_setCells T4 g4 0 [.int .i64 bx, .int .i64 bz]
    generalize x1.setCells g4 0 [.int .i64 bx, .int .i64 bz] = x2 at E2 Y1 Y2 T3 T4 ⊢
    clear E1 T2
    have E3 := below_setCells l5 [.int .i64 cx, .int .i64 cy] 0 _ E2
    refine wpAnyH_ready (rs := [20]) (by kernel_rfl) (by simp) ?_
    refine AllReadyH.cons (o := ⟨none, _, _, _, _, _⟩) rfl (fun K hK => ?_) AllReadyH.nil
    refine step_store (by rfl) _ _ _ (by rfl) g5 cx cy (by rfl) (by rfl) T3 (by kernel_rfl) ?_
    refine hK.out _ _ E3 (fun hHeld => ?_)
    clear hK K hHeld
    try simp only [Act.put, List.setIfInBounds_toArray, List.set_cons_zero, List.set_cons_succ]
    replace Y1 := Y1.apart d35 [.int .i64 cx, .int .i64 cy]
    replace Y2 := Y2.apart d45 [.int .i64 cx, .int .i64 cy]
    have Y3 := pair_setCells _ g5 cx cy T3
    replace T4 := World.there_setCells T4 g5 0 [.int .i64 cx, .int .i64 cy]
    generalize x2.setCells g5 0 [.int .i64 cx, .int .i64 cy] = x3 at E3 Y1 Y2 Y3 T4 ⊢
    clear E2 T3
    have E4 := below_setCells l6 [.int .i64 dx, .int .i64 dy] 0 _ E3
    refine wpAnyH_ready (rs := [21]) (by kernel_rfl) (by simp) ?_
    refine AllReadyH.cons (o := ⟨none, _, _, _, _, _⟩) rfl (fun K hK => ?_) AllReadyH.nil
    refine step_store (by rfl) _ _ _ (by rfl) g6 dx dy (by rfl) (by rfl) T4 (by kernel_rfl) ?_
    refine hK.out _ _ E4 (fun hHeld => ?_)
    clear hK K hHeld
    try simp only [Act.put, List.setIfInBounds_toArray, List.set_cons_zero, List.set_cons_succ]
    replace Y1 := Y1.apart d36 [.int .i64 dx, .int .i64 dy]
    replace Y2 := Y2.apart d46 [.int .i64 dx, .int .i64 dy]
    replace Y3 := Y3.apart d56 [.int .i64 dx, .int .i64 dy]
    have Y4 := pair_setCells _ g6 dx dy T4
    generalize x3.setCells g6 0 [.int .i64 dx, .int .i64 dy] = x4 at E4 Y1 Y2 Y3 Y4 ⊢
    clear E3 T4
    have YS := Lib.hid (show ∀ w', Below x4.heap.size x4 w' → Pair w' g3 ax ay ∧ Pair w' g4 bx bz ∧ Pair w' g5 cx cy ∧ Pair w' g6 dx dy from fun w' h => ⟨Y1.below h, Y2.below h, Y3.below h, Y4.below h⟩)
    obtain ⟨y0, y1⟩ := Y1
    obtain ⟨y2, y3⟩ := Y2
    obtain ⟨y4, y5⟩ := Y3
    obtain ⟨y6, y7⟩ := Y4
    clear l3 l4 l5 l6 d34 d35 d36 d45 d46 d56
    refine wpAnyH_done (by kernel_rfl) ?_ _
    refine NoPanic.normal ?_
    have R0 := Lib.hid (show (ax, ay) = (cx, cy) → spoilB l i k = true from fun h => by rw [HQ.out, if_pos h])
    have R1 := Lib.hid (show (ax, ay) ≠ (cx, cy) → j1 = k → spoilB l i k = (onB (ax, ay) (bx, bz) (dx, dy) || onB (cx, cy) (dx, dy) (ax, ay)) from fun h h2 => by rw [HQ.out, if_neg h, if_pos h2])
    have R2 := Lib.hid (show (ax, ay) ≠ (cx, cy) → j1 ≠ k → j2 = i → spoilB l i k = (onB (cx, cy) (dx, dy) (bx, bz) || onB (ax, ay) (bx, bz) (cx, cy)) from fun h h2 h3 => by rw [HQ.out, if_neg h, if_neg h2, if_pos h3])
    have R3 := Lib.hid (show (ax, ay) ≠ (cx, cy) → j1 ≠ k → j2 ≠ i → spoilB l i k = meetB (ax, ay) (bx, bz) (cx, cy) (dx, dy) from fun h h2 h3 => by rw [HQ.out, if_neg h, if_neg h2, if_neg h3])
    clear HQ XS N1 N2
    by_cases e0 : (ax, ay) = (cx, cy)
    · have HR := Lib.hid (R0.out e0)
      obtain ⟨rfl, rfl⟩ := Prod.mk.inj e0
      clear e0 R0 R1 R2 R3
      go_wp2_with fail
      go_ret
      exact ⟨by rw [HR.out]; rfl, E4⟩
    · replace R1 := Lib.hid (R1.out e0)
      replace R2 := Lib.hid (R2.out e0)
      replace R3 := Lib.hid (R3.out e0)
      have tac : ((ax == cx) && (ay == cy)) = false := by
        cases q0 : ((ax == cx) && (ay == cy)) with
        | false => rfl
        | true =>
          simp only [Bool.and_eq_true, beq_iff_eq] at q0
          exact absurd (by rw [q0.1, q0.2]) e0
      obtain ⟨q0, q1, hq01, hqa, hqb⟩ : ∃ q0 q1 : Bool, (q0 && q1) = false ∧ (ax == cx) = q0 ∧ (ay == cy) = q1 := ⟨_, _, tac, rfl, rfl⟩
      clear tac e0 R0
      by_cases hj : j1 = k
      · have HR := Lib.hid (R1.out hj)
        have t2 : ((j1 : Int) == (k : Int)) = true := by rw [hj]; simp
        clear hj R1 R2 R3
        have C1 := Lib.hid (fun w => On_any ax ay bx bz dx dy w)
        cases hq1 : onB (ax, ay) (bx, bz) (dx, dy) with
        | true =>
          rw [hq1] at C1 HR
          clear hq1
          cases q0 <;> cases q1 <;> first | (exact absurd hq01 (by decide)) | skip
          all_goals
            go_wp2_with fail
            refine (C1.out _).mono ?_
            rintro e w6 ⟨rfl, b6⟩
            go_wp2_with fail
            go_ret
            exact ⟨by rw [HR.out]; rfl, E4.trans (b6.mono E4.size)⟩
        | false =>
          rw [hq1] at C1 HR
          clear hq1
          have C2 := Lib.hid (fun w => On_any cx cy dx dy ax ay w)
          generalize onB (cx, cy) (dx, dy) (ax, ay) = q2 at *
          cases q0 <;> cases q1 <;> first | (exact absurd hq01 (by decide)) | skip
          all_goals
            go_wp2_with fail
            refine (C1.out _).mono ?_
            rintro e w6 ⟨rfl, b6⟩
            clear y0 y1 y2 y3 y4 y5 y6 y7
            obtain ⟨⟨y0, y1⟩, ⟨y2, y3⟩, ⟨y4, y5⟩, y6, y7⟩ := YS.out _ b6
            have B6 := E4.trans (b6.mono E4.size)
            go_wp2_with fail
            refine (C2.out _).mono ?_
            rintro e w7 ⟨rfl, b7⟩
            go_wp2_with fail
            go_ret
            exact ⟨by rw [HR.out]; rfl, B6.trans (b7.mono B6.size)⟩
      · replace R2 := Lib.hid (R2.out hj)
        replace R3 := Lib.hid (R3.out hj)
        have t2 : ((j1 : Int) == (k : Int)) = false := beq_eq_false_iff_ne.2 (by omega)
        clear hj R1
        by_cases hj2 : j2 = i
        · have HR := Lib.hid (R2.out hj2)
          have t3 : ((j2 : Int) == (i : Int)) = true := by rw [hj2]; simp
          clear hj2 R2 R3
          have C1 := Lib.hid (fun w => On_any cx cy dx dy bx bz w)
          cases hq1 : onB (cx, cy) (dx, dy) (bx, bz) with
          | true =>
            rw [hq1] at C1 HR
            clear hq1
            cases q0 <;> cases q1 <;> first | (exact absurd hq01 (by decide)) | skip
            all_goals
              go_wp2_with fail
              refine (C1.out _).mono ?_
              rintro e w6 ⟨rfl, b6⟩
              go_wp2_with fail
              go_ret
              exact ⟨by rw [HR.out]; rfl, E4.trans (b6.mono E4.size)⟩
          | false =>
            rw [hq1] at C1 HR
            clear hq1
            have C2 := Lib.hid (fun w => On_any ax ay bx bz cx cy w)
            generalize onB (ax, ay) (bx, bz) (cx, cy) = q2 at *
            cases q0 <;> cases q1 <;> first | (exact absurd hq01 (by decide)) | skip
            all_goals
              go_wp2_with fail
              refine (C1.out _).mono ?_
              rintro e w6 ⟨rfl, b6⟩
              clear y0 y1 y2 y3 y4 y5 y6 y7
              obtain ⟨⟨y0, y1⟩, ⟨y2, y3⟩, ⟨y4, y5⟩, y6, y7⟩ := YS.out _ b6
              have B6 := E4.trans (b6.mono E4.size)
              go_wp2_with fail
              refine (C2.out _).mono ?_
              rintro e w7 ⟨rfl, b7⟩
              go_wp2_with fail
              go_ret
              exact ⟨by rw [HR.out]; rfl, B6.trans (b7.mono B6.size)⟩
        · have HR := Lib.hid (R3.out hj2)
          have t3 : ((j2 : Int) == (i : Int)) = false := beq_eq_false_iff_ne.2 (by omega)
          clear hj2 R2 R3
          have C1 := Lib.hid (fun w => Meet_ok ax ay bx bz cx cy dx dy w oa ob oc od)
          generalize meetB (ax, ay) (bx, bz) (cx, cy) (dx, dy) = q2 at *
          cases q0 <;> cases q1 <;> first | (exact absurd hq01 (by decide)) | skip
          all_goals
            go_wp2_with fail
            refine (C1.out _).mono ?_
            rintro e w6 ⟨rfl, b6⟩
            go_wp2_with fail
            go_ret
            exact ⟨by rw [HR.out]; rfl, E4.trans (b6.mono E4.size)⟩
end Go.Proofs.YtpmngdgifdkohaaDoor
