/- ring.spoil. (printed by wip/gen_spoil.py) pergolaref3.clash. (printed by wip/gen_clash.py) -/
import Derived.Test.YthcfekabeidmiaaRRDoorREo7
set_option linter.unusedSimpArgs false
set_option linter.unusedVariables false
namespace Go.Proofs.YthcfekabeidmiaaRRDoorR
/-! Spoil -/
section
open Go.RowKit

theorem pt_cell {w : World} {g off c : Nat} {l : List (Int × Int)} (hv : Pts w (.slice (some ⟨g, off, none⟩) l.length c) l) {i : Nat} (hi : i < l.length) :
    g < w.heap.size ∧ w.cell? ⟨g, off + i * 2, none⟩ = some (.int .i64 (pt l i).1) ∧ w.cell? ⟨g, off + i * 2 + 1, none⟩ = some (.int .i64 (pt l i).2) := by
  obtain ⟨ao, cp, he, h1, h2, h0, h3⟩ := hv.open
  obtain ⟨b, o, e, hb, hx, hy⟩ := h3 i hi
  simp only [Value.slice.injEq] at he
  rw [← he.1] at e
  cases e
  rw [pt_get l i hi]
  exact ⟨hb, hx, hy⟩

set_option maxRecDepth 100000 in
set_option maxHeartbeats 4000000 in
theorem spoil_any (g off c : Nat) (l : List (Int × Int)) (i k : Nat) (w : World) (hv : Pts w (.slice (some ⟨g, off, none⟩) l.length c) l) (hl : allP l = true) (h3 : 3 ≤ l.length) (h64 : l.length ≤ 64) (hi : i < l.length) (hk : k < l.length) :
    Calls Tryd.prog 52 #[.slice (some ⟨g, off, none⟩) l.length c, .int .i64 (i : Int), .int .i64 (k : Int)] w fun e w' => e = .returned (.bool (spoilB l i k)) ∧ Below w.heap.size w w' := by
  obtain ⟨hg, hx, hy⟩ := pt_cell hv hi
  obtain ⟨_, hx2, hy2⟩ := pt_cell hv hk
  have N1 := Lib.hid (fun w' hb => next_any _ l i w' (hv.below hb) hi)
  have N2 := Lib.hid (fun w' hb => next_any _ l k w' (hv.below hb) hk)
  have hm1 : (i + 1) % l.length < l.length := Nat.mod_lt _ (by omega)
  have hm2 : (k + 1) % l.length < l.length := Nat.mod_lt _ (by omega)
  have oa := okP_inP (pt_ok hl hi)
  have oc := okP_inP (pt_ok hl hk)
  have ob := okP_inP (pt_ok hl hm1)
  have od := okP_inP (pt_ok hl hm2)
  have HQ := Lib.hid (show spoilB l i k = (if pt l i = pt l k then true else if (i + 1) % l.length = k then onB (pt l i) (pt l ((i + 1) % l.length)) (pt l ((k + 1) % l.length)) || onB (pt l k) (pt l ((k + 1) % l.length)) (pt l i)
    else if (k + 1) % l.length = i then onB (pt l k) (pt l ((k + 1) % l.length)) (pt l ((i + 1) % l.length)) || onB (pt l i) (pt l ((i + 1) % l.length)) (pt l k) else meetB (pt l i) (pt l ((i + 1) % l.length)) (pt l k) (pt l ((k + 1) % l.length))) from rfl)
  have m1 : ((i : Int) + 1) % (l.length : Int) = (((i + 1) % l.length : Nat) : Int) := by rw [Int.natCast_emod]; rfl
  have m2 : ((k : Int) + 1) % (l.length : Int) = (((k + 1) % l.length : Nat) : Int) := by rw [Int.natCast_emod]; rfl
  have XS := Lib.hid (show ∀ w', Below w.heap.size w w' → w'.cell? ⟨g, off + i * 2, none⟩ = some (.int .i64 (pt l i).1) ∧ w'.cell? ⟨g, off + i * 2 + 1, none⟩ = some (.int .i64 (pt l i).2) ∧ w'.cell? ⟨g, off + k * 2, none⟩ = some (.int .i64 (pt l k).1) ∧ w'.cell? ⟨g, off + k * 2 + 1, none⟩ = some (.int .i64 (pt l k).2) from
    fun w' h => ⟨(h.cell (p := ⟨g, off + i * 2, none⟩) hg).trans hx, (h.cell (p := ⟨g, off + i * 2 + 1, none⟩) hg).trans hy, (h.cell (p := ⟨g, off + k * 2, none⟩) hg).trans hx2, (h.cell (p := ⟨g, off + k * 2 + 1, none⟩) hg).trans hy2⟩)
  clear hx hy hx2 hy2 hm1 hm2 hv hl
  generalize pt l i = pa at *
  generalize pt l k = pc at *
  generalize pt l ((i + 1) % l.length) = pb at *
  generalize pt l ((k + 1) % l.length) = pd at *
  generalize (i + 1) % l.length = j1 at *
  generalize (k + 1) % l.length = j2 at *
  obtain ⟨ax, ay⟩ := pa
  obtain ⟨bx, bz⟩ := pb
  obtain ⟨cx, cy⟩ := pc
  obtain ⟨dx, dy⟩ := pd
  simp only at oa ob oc od XS N1 N2
  have i0 : (0 : Int) ≤ (i : Int) := by omega
  have i1 : (i : Int) < (l.length : Int) := by omega
  have k0 : (0 : Int) ≤ (k : Int) := by omega
  have k1 : (k : Int) < (l.length : Int) := by omega
  go_enter Tryd.func52, Tryd.ntmps52
  go_wp2_with fail
  refine wp_region_noPanic ?_
  refine wp_region_held_drew (S := fun w' => Below w.heap.size w w') (by kernel_rfl) (Below.refl _ _).drew (fun hHeld => ?_)
  generalize w.drew = D at hHeld ⊢
  have B1 : Below w.heap.size w D := hHeld
  refine wpAnyH_take (i := 0) (oi := ⟨some 11, _, _, _, _, _⟩) (v := ?qv0) rfl (by kernel_rfl) (by kernel_rfl) (by kernel_rfl) (fun _ _ _ h => h) (Or.inl ⟨by rfl, ?qy0⟩) hHeld ?qr0
  case qy0 => (intro w' hSw; go_simp; try with_reducible rfl)
  try simp only [Act.put, List.setIfInBounds_toArray, List.set_cons_zero, List.set_cons_succ]
  refine wpAnyH_take (i := 1) (oi := ⟨some 12, _, _, _, _, _⟩) (v := ?qv1) rfl (by kernel_rfl) (by kernel_rfl) (by kernel_rfl) (fun _ _ _ h => h) (Or.inl ⟨by rfl, ?qy1⟩) hHeld ?qr1
  case qy1 => (intro w' hSw; go_simp; try with_reducible rfl)
  try simp only [Act.put, List.setIfInBounds_toArray, List.set_cons_zero, List.set_cons_succ]
  refine wpAnyH_take (i := 2) (oi := ⟨some 13, _, _, _, _, _⟩) (v := ?qv2) rfl (by kernel_rfl) (by kernel_rfl) (by kernel_rfl) (fun _ _ _ h => h) (Or.inl ⟨by rfl, ?qy2⟩) hHeld ?qr2
  case qy2 => (intro w' hSw; go_simp; try with_reducible rfl)
  try simp only [Act.put, List.setIfInBounds_toArray, List.set_cons_zero, List.set_cons_succ]
  refine wpAnyH_take (i := 3) (oi := ⟨some 14, _, _, _, _, _⟩) (v := ?qv3) rfl (by kernel_rfl) (by kernel_rfl) (by kernel_rfl) (fun _ _ _ h => h) (Or.inl ⟨by rfl, ?qy3⟩) hHeld ?qr3
  case qy3 => (intro w' hSw; obtain ⟨z0, z1, z2, z3⟩ := XS.out w' hSw; go_simp; try with_reducible rfl)
  try simp only [Act.put, List.setIfInBounds_toArray, List.set_cons_zero, List.set_cons_succ]
  refine wpAnyH_take (i := 4) (oi := ⟨some 15, _, _, _, _, _⟩) (v := ?qv4) rfl (by kernel_rfl) (by kernel_rfl) (by kernel_rfl) (fun _ _ _ h => h) (Or.inl ⟨by rfl, ?qy4⟩) hHeld ?qr4
  case qy4 => (intro w' hSw; go_simp; try with_reducible rfl)
  try simp only [Act.put, List.setIfInBounds_toArray, List.set_cons_zero, List.set_cons_succ]
  refine wpAnyH_take (i := 5) (oi := ⟨some 16, _, _, _, _, _⟩) (v := ?qv5) rfl (by kernel_rfl) (by kernel_rfl) (by kernel_rfl) (fun _ _ _ h => h) (Or.inl ⟨by rfl, ?qy5⟩) hHeld ?qr5
  case qy5 => (intro w' hSw; go_simp; try with_reducible rfl)
  try simp only [Act.put, List.setIfInBounds_toArray, List.set_cons_zero, List.set_cons_succ]
  refine wpAnyH_take (i := 7) (oi := ⟨some 18, _, _, _, _, _⟩) (v := ?qv7) rfl (by kernel_rfl) (by kernel_rfl) (by kernel_rfl) (fun _ _ _ h => h) (Or.inl ⟨by rfl, ?qy7⟩) hHeld ?qr7
  case qy7 => (intro w' hSw; go_simp; try with_reducible rfl)
  try simp only [Act.put, List.setIfInBounds_toArray, List.set_cons_zero, List.set_cons_succ]
  refine wpAnyH_take (i := 8) (oi := ⟨some 19, _, _, _, _, _⟩) (v := ?qv8) rfl (by kernel_rfl) (by kernel_rfl) (by kernel_rfl) (fun _ _ _ h => h) (Or.inl ⟨by rfl, ?qy8⟩) hHeld ?qr8
  case qy8 => (intro w' hSw; go_simp; try with_reducible rfl)
  try simp only [Act.put, List.setIfInBounds_toArray, List.set_cons_zero, List.set_cons_succ]
  refine wpAnyH_take (i := 9) (oi := ⟨some 20, _, _, _, _, _⟩) (v := ?qv9) rfl (by kernel_rfl) (by kernel_rfl) (by kernel_rfl) (fun _ _ _ h => h) (Or.inl ⟨by rfl, ?qy9⟩) hHeld ?qr9
  case qy9 => (intro w' hSw; go_simp; try with_reducible rfl)
  try simp only [Act.put, List.setIfInBounds_toArray, List.set_cons_zero, List.set_cons_succ]
  refine wpAnyH_take (i := 10) (oi := ⟨some 21, _, _, _, _, _⟩) (v := ?qv10) rfl (by kernel_rfl) (by kernel_rfl) (by kernel_rfl) (fun _ _ _ h => h) (Or.inl ⟨by rfl, ?qy10⟩) hHeld ?qr10
  case qy10 => (intro w' hSw; obtain ⟨z0, z1, z2, z3⟩ := XS.out w' hSw; go_simp; try with_reducible rfl)
  try simp only [Act.put, List.setIfInBounds_toArray, List.set_cons_zero, List.set_cons_succ]
  refine wpAnyH_take (i := 11) (oi := ⟨some 22, _, _, _, _, _⟩) (v := ?qv11) rfl (by kernel_rfl) (by kernel_rfl) (by kernel_rfl) (fun _ _ _ h => h) (Or.inl ⟨by rfl, ?qy11⟩) hHeld ?qr11
  case qy11 => (intro w' hSw; go_simp; try with_reducible rfl)
  try simp only [Act.put, List.setIfInBounds_toArray, List.set_cons_zero, List.set_cons_succ]
  refine wpAnyH_take (i := 12) (oi := ⟨some 23, _, _, _, _, _⟩) (v := ?qv12) rfl (by kernel_rfl) (by kernel_rfl) (by kernel_rfl) (fun _ _ _ h => h) (Or.inl ⟨by rfl, ?qy12⟩) hHeld ?qr12
  case qy12 => (intro w' hSw; go_simp; try with_reducible rfl)
  try simp only [Act.put, List.setIfInBounds_toArray, List.set_cons_zero, List.set_cons_succ]
  refine wpAnyH_vars (ops := _) w (.agg #[.int .i64 bx, .int .i64 bz]) (.agg #[.int .i64 dx, .int .i64 dy]) (fun u1 u2 u3 u4 u5 u6 => ⟨#[.slice (some ⟨g, off, none⟩) l.length c, .int .i64 (i : Int), .int .i64 (k : Int), undef, undef, undef, .bool false, u3, u4, u5, u6, .slice (some ⟨g, off, none⟩) l.length c, .int .i64 (i : Int), .pointer (some ⟨g, off + i * 2, none⟩), .agg #[.int .i64 ax, .int .i64 ay], .slice (some ⟨g, off, none⟩) l.length c, .int .i64 (i : Int), u1, .slice (some ⟨g, off, none⟩) l.length c, .int .i64 (k : Int), .pointer (some ⟨g, off + k * 2, none⟩), .agg #[.int .i64 cx, .int .i64 cy], .slice (some ⟨g, off, none⟩) l.length c, .int .i64 (k : Int), u2, undef, undef, undef, undef, undef, undef, undef, undef, undef, undef, undef, undef, undef, undef, undef, undef, undef, undef, undef, undef, undef, undef, undef, undef, undef, undef, undef, undef, undef, undef, undef, undef, undef, undef, undef, undef, undef, undef, undef, undef, undef, undef, undef, undef, undef], []⟩) (fun b1 b2 b3 b4 b5 b6 => #[true, true, true, true, true, true, b1, true, true, true, true, true, true, b2, b3, b4, b5, b6, false, false, false, false]) 6 13 14 15 16 17 4
    ?zready (fun _ _ _ _ _ _ => rfl) (fun _ _ _ _ _ _ => rfl) (fun _ _ _ _ _ _ => rfl) (fun _ _ _ _ _ _ => rfl) (fun _ _ _ _ _ _ => rfl) (fun _ _ _ _ _ _ => rfl) ?zc1 ?zc2 ?za3 ?za4 ?za5 ?za6 ?zfin 6 false false false false false false undef undef undef undef undef undef 0 0 0 0 D rfl ?zv
  case zready =>
    intro b1 b2 b3 b4 b5 b6 h h12
    cases b1 <;> cases b2 <;> cases b3 <;> cases b4 <;> cases b5 <;> cases b6 <;> first | (exact absurd h (by decide)) | (exact absurd (h12 rfl) (by decide)) | kernel_rfl
  case zv => exact { bel := B1, e1 := fun q => (by cases q), e2 := fun q => (by cases q), h12 := fun q => (by cases q), c3 := fun q => (by cases q), c4 := fun q => (by cases q), c5 := fun q => (by cases q), c6 := fun q => (by cases q), d34 := fun q => (by cases q), d35 := fun q => (by cases q), d36 := fun q => (by cases q), d45 := fun q => (by cases q), d46 := fun q => (by cases q), d56 := fun q => (by cases q) }
  case zc1 =>
    intro u1 u2 u3 u4 u5 u6 w2 K hb h
    refine wpOp_step (o := ⟨some 17, _, _, _, _, _⟩) rfl fun K' hK => ?_
    refine step_go (by rfl) 56 _ _ (by rfl) (fun _ _ => by kernel_rfl) _ (by rfl) (N1.out _ hb) ?_
    rintro e w3 ⟨rfl, b3⟩
    exact ⟨_, rfl, hK _ _ (h _ b3)⟩
  case zc2 =>
    intro u1 u2 u3 u4 u5 u6 w2 K hb h
    refine wpOp_step (o := ⟨some 24, _, _, _, _, _⟩) rfl fun K' hK => ?_
    refine step_go (by rfl) 56 _ _ (by rfl) (fun _ _ => by kernel_rfl) _ (by rfl) (N2.out _ hb) ?_
    rintro e w3 ⟨rfl, b3⟩
    exact ⟨_, rfl, hK _ _ (h _ b3)⟩
  case za3 =>
    intro u1 u2 u3 u4 u5 u6 w2 K h
    refine wpOp_step (o := ⟨some 7, _, _, _, _, _⟩) rfl fun K' hK => ?_
    go_simp
    exact hK _ _ h
  case za4 =>
    intro u1 u2 u3 u4 u5 u6 w2 K h
    refine wpOp_step (o := ⟨some 8, _, _, _, _, _⟩) rfl fun K' hK => ?_
    go_simp
    exact hK _ _ h
  case za5 =>
    intro u1 u2 u3 u4 u5 u6 w2 K h
    refine wpOp_step (o := ⟨some 9, _, _, _, _, _⟩) rfl fun K' hK => ?_
    go_simp
    exact hK _ _ h
  case za6 =>
    intro u1 u2 u3 u4 u5 u6 w2 K h
    refine wpOp_step (o := ⟨some 10, _, _, _, _, _⟩) rfl fun K' hK => ?_
    go_simp
    exact hK _ _ h
  case zfin =>
    intro u1 u2 u3 u4 u5 u6 g3 g4 g5 g6 w5 hv
    obtain rfl := hv.e1 rfl
    obtain rfl := hv.e2 rfl
    obtain ⟨rfl, l3, n3⟩ := hv.c3 rfl
    obtain ⟨rfl, l4, n4⟩ := hv.c4 rfl
    obtain ⟨rfl, l5, n5⟩ := hv.c5 rfl
    obtain ⟨rfl, l6, n6⟩ := hv.c6 rfl
    have d34 := hv.d34 rfl rfl
    have d35 := hv.d35 rfl rfl
    have d36 := hv.d36 rfl rfl
    have d45 := hv.d45 rfl rfl
    have d46 := hv.d46 rfl rfl
    have d56 := hv.d56 rfl rfl
    have T1 := n3.there
    have T2 := n4.there
    have T3 := n5.there
    have T4 := n6.there
    have E0 := hv.bel
    clear hv n3 n4 n5 n6
    have E1 := below_setCells l3 [.int .i64 ax, .int .i64 ay] 0 _ E0
    refine wpAnyH_ready (rs := [18]) (by kernel_rfl) (by simp) ?_
    refine AllReadyH.cons (o := ⟨none, _, _, _, _, _⟩) rfl (fun K hK => ?_) AllReadyH.nil
    refine step_store (by rfl) _ _ _ (by rfl) g3 ax ay (by rfl) (by rfl) T1 (by kernel_rfl) ?_
    refine hK.out _ _ E1 (fun hHeld => ?_)
    clear hK K hHeld
    try simp only [Act.put, List.setIfInBounds_toArray, List.set_cons_zero, List.set_cons_succ]
    have Y1 := pair_setCells _ g3 ax ay T1
    replace T2 := World.there_setCells T2 g3 0 [.int .i64 ax, .int .i64 ay]
    replace T3 := World.there_setCells T3 g3 0 [.int .i64 ax, .int .i64 ay]
    replace T4 := World.there_setCells T4 g3 0 [.int .i64 ax, .int .i64 ay]
    generalize w5.setCells g3 0 [.int .i64 ax, .int .i64 ay] = x1 at E1 Y1 T2 T3 T4 ⊢
    clear E0 T1
    have E2 := below_setCells l4 [.int .i64 bx, .int .i64 bz] 0 _ E1
    refine wpAnyH_ready (rs := [19]) (by kernel_rfl) (by simp) ?_
    refine AllReadyH.cons (o := ⟨none, _, _, _, _, _⟩) rfl (fun K hK => ?_) AllReadyH.nil
    refine step_store (by rfl) _ _ _ (by rfl) g4 bx bz (by rfl) (by rfl) T2 (by kernel_rfl) ?_
    refine hK.out _ _ E2 (fun hHeld => ?_)
    clear hK K hHeld
    try simp only [Act.put, List.setIfInBounds_toArray, List.set_cons_zero, List.set_cons_succ]
    replace Y1 := Y1.apart d34 [.int .i64 bx, .int .i64 bz]
    have Y2 := pair_setCells _ g4 bx bz T2
    replace T3 := World.there_setCells T3 g4 0 [.int .i64 bx, .int .i64 bz]
    replace T4 := World.there_setCells T4 g4 0 [.int .i64 bx, .int .i64 bz]
    generalize x1.setCells g4 0 [.int .i64 bx, .int .i64 bz] = x2 at E2 Y1 Y2 T3 T4 ⊢
    clear E1 T2
    have E3 := below_setCells l5 [.int .i64 cx, .int .i64 cy] 0 _ E2
    refine wpAnyH_ready (rs := [20]) (by kernel_rfl) (by simp) ?_
    refine AllReadyH.cons (o := ⟨none, _, _, _, _, _⟩) rfl (fun K hK => ?_) AllReadyH.nil
    refine step_store (by rfl) _ _ _ (by rfl) g5 cx cy (by rfl) (by rfl) T3 (by kernel_rfl) ?_
    refine hK.out _ _ E3 (fun hHeld => ?_)
    clear hK K hHeld
    try simp only [Act.put, List.setIfInBounds_toArray, List.set_cons_zero, List.set_cons_succ]
    replace Y1 := Y1.apart d35 [.int .i64 cx, .int .i64 cy]
    replace Y2 := Y2.apart d45 [.int .i64 cx, .int .i64 cy]
    have Y3 := pair_setCells _ g5 cx cy T3
    replace T4 := World.there_setCells T4 g5 0 [.int .i64 cx, .int .i64 cy]
    generalize x2.setCells g5 0 [.int .i64 cx, .int .i64 cy] = x3 at E3 Y1 Y2 Y3 T4 ⊢
    clear E2 T3
    have E4 := below_setCells l6 [.int .i64 dx, .int .i64 dy] 0 _ E3
    refine wpAnyH_ready (rs := [21]) (by kernel_rfl) (by simp) ?_
    refine AllReadyH.cons (o := ⟨none, _, _, _, _, _⟩) rfl (fun K hK => ?_) AllReadyH.nil
    refine step_store (by rfl) _ _ _ (by rfl) g6 dx dy (by rfl) (by rfl) T4 (by kernel_rfl) ?_
    refine hK.out _ _ E4 (fun hHeld => ?_)
    clear hK K hHeld
    try simp only [Act.put, List.setIfInBounds_toArray, List.set_cons_zero, List.set_cons_succ]
    replace Y1 := Y1.apart d36 [.int .i64 dx, .int .i64 dy]
    replace Y2 := Y2.apart d46 [.int .i64 dx, .int .i64 dy]
    replace Y3 := Y3.apart d56 [.int .i64 dx, .int .i64 dy]
    have Y4 := pair_setCells _ g6 dx dy T4
    generalize x3.setCells g6 0 [.int .i64 dx, .int .i64 dy] = x4 at E4 Y1 Y2 Y3 Y4 ⊢
    clear E3 T4
    have YS := Lib.hid (show ∀ w', Below x4.heap.size x4 w' → Pair w' g3 ax ay ∧ Pair w' g4 bx bz ∧ Pair w' g5 cx cy ∧ Pair w' g6 dx dy from fun w' h => ⟨Y1.below h, Y2.below h, Y3.below h, Y4.below h⟩)
    obtain ⟨y0, y1⟩ := Y1
    obtain ⟨y2, y3⟩ := Y2
    obtain ⟨y4, y5⟩ := Y3
    obtain ⟨y6, y7⟩ := Y4
    clear l3 l4 l5 l6 d34 d35 d36 d45 d46 d56
    refine wpAnyH_done (by kernel_rfl) ?_ _
    refine NoPanic.normal ?_
    have R0 := Lib.hid (show (ax, ay) = (cx, cy) → spoilB l i k = true from fun h => by rw [HQ.out, if_pos h])
    have R1 := Lib.hid (show (ax, ay) ≠ (cx, cy) → j1 = k → spoilB l i k = (onB (ax, ay) (bx, bz) (dx, dy) || onB (cx, cy) (dx, dy) (ax, ay)) from fun h h2 => by rw [HQ.out, if_neg h, if_pos h2])
    have R2 := Lib.hid (show (ax, ay) ≠ (cx, cy) → j1 ≠ k → j2 = i → spoilB l i k = (onB (cx, cy) (dx, dy) (bx, bz) || onB (ax, ay) (bx, bz) (cx, cy)) from fun h h2 h3 => by rw [HQ.out, if_neg h, if_neg h2, if_pos h3])
    have R3 := Lib.hid (show (ax, ay) ≠ (cx, cy) → j1 ≠ k → j2 ≠ i → spoilB l i k = meetB (ax, ay) (bx, bz) (cx, cy) (dx, dy) from fun h h2 h3 => by rw [HQ.out, if_neg h, if_neg h2, if_neg h3])
    clear HQ XS N1 N2
    by_cases e0 : (ax, ay) = (cx, cy)
    · have HR := Lib.hid (R0.out e0)
      obtain ⟨rfl, rfl⟩ := Prod.mk.inj e0
      clear e0 R0 R1 R2 R3
      go_wp2_with fail
      go_ret
      exact ⟨by rw [HR.out]; rfl, E4⟩
    · replace R1 := Lib.hid (R1.out e0)
      replace R2 := Lib.hid (R2.out e0)
      replace R3 := Lib.hid (R3.out e0)
      have tac : ((ax == cx) && (ay == cy)) = false := by
        cases q0 : ((ax == cx) && (ay == cy)) with
        | false => rfl
        | true =>
          simp only [Bool.and_eq_true, beq_iff_eq] at q0
          exact absurd (by rw [q0.1, q0.2]) e0
      obtain ⟨q0, q1, hq01, hqa, hqb⟩ : ∃ q0 q1 : Bool, (q0 && q1) = false ∧ (ax == cx) = q0 ∧ (ay == cy) = q1 := ⟨_, _, tac, rfl, rfl⟩
      clear tac e0 R0
      by_cases hj : j1 = k
      · have HR := Lib.hid (R1.out hj)
        have t2 : ((j1 : Int) == (k : Int)) = true := by rw [hj]; simp
        clear hj R1 R2 R3
        have C1 := Lib.hid (fun w => On_any ax ay bx bz dx dy w)
        cases hq1 : onB (ax, ay) (bx, bz) (dx, dy) with
        | true =>
          rw [hq1] at C1 HR
          clear hq1
          cases q0 <;> cases q1 <;> first | (exact absurd hq01 (by decide)) | skip
          all_goals
            go_wp2_with fail
            refine (C1.out _).mono ?_
            rintro e w6 ⟨rfl, b6⟩
            go_wp2_with fail
            go_ret
            exact ⟨by rw [HR.out]; rfl, E4.trans (b6.mono E4.size)⟩
        | false =>
          rw [hq1] at C1 HR
          clear hq1
          have C2 := Lib.hid (fun w => On_any cx cy dx dy ax ay w)
          generalize onB (cx, cy) (dx, dy) (ax, ay) = q2 at *
          cases q0 <;> cases q1 <;> first | (exact absurd hq01 (by decide)) | skip
          all_goals
            go_wp2_with fail
            refine (C1.out _).mono ?_
            rintro e w6 ⟨rfl, b6⟩
            clear y0 y1 y2 y3 y4 y5 y6 y7
            obtain ⟨⟨y0, y1⟩, ⟨y2, y3⟩, ⟨y4, y5⟩, y6, y7⟩ := YS.out _ b6
            have B6 := E4.trans (b6.mono E4.size)
            go_wp2_with fail
            refine (C2.out _).mono ?_
            rintro e w7 ⟨rfl, b7⟩
            go_wp2_with fail
            go_ret
            exact ⟨by rw [HR.out]; rfl, B6.trans (b7.mono B6.size)⟩
      · replace R2 := Lib.hid (R2.out hj)
        replace R3 := Lib.hid (R3.out hj)
        have t2 : ((j1 : Int) == (k : Int)) = false := beq_eq_false_iff_ne.2 (by omega)
        clear hj R1
        by_cases hj2 : j2 = i
        · have HR := Lib.hid (R2.out hj2)
          have t3 : ((j2 : Int) == (i : Int)) = true := by rw [hj2]; simp
          clear hj2 R2 R3
          have C1 := Lib.hid (fun w => On_any cx cy dx dy bx bz w)
          cases hq1 : onB (cx, cy) (dx, dy) (bx, bz) with
          | true =>
            rw [hq1] at C1 HR
            clear hq1
            cases q0 <;> cases q1 <;> first | (exact absurd hq01 (by decide)) | skip
            all_goals
              go_wp2_with fail
              refine (C1.out _).mono ?_
              rintro e w6 ⟨rfl, b6⟩
              go_wp2_with fail
              go_ret
              exact ⟨by rw [HR.out]; rfl, E4.trans (b6.mono E4.size)⟩
          | false =>
            rw [hq1] at C1 HR
            clear hq1
            have C2 := Lib.hid (fun w => On_any ax ay bx bz cx cy w)
            generalize onB (ax, ay) (bx, bz) (cx, cy) = q2 at *
            cases q0 <;> cases q1 <;> first | (exact absurd hq01 (by decide)) | skip
            all_goals
              go_wp2_with fail
              refine (C1.out _).mono ?_
              rintro e w6 ⟨rfl, b6⟩
              clear y0 y1 y2 y3 y4 y5 y6 y7
              obtain ⟨⟨y0, y1⟩, ⟨y2, y3⟩, ⟨y4, y5⟩, y6, y7⟩ := YS.out _ b6
              have B6 := E4.trans (b6.mono E4.size)
              go_wp2_with fail
              refine (C2.out _).mono ?_
              rintro e w7 ⟨rfl, b7⟩
              go_wp2_with fail
              go_ret
              exact ⟨by rw [HR.out]; rfl, B6.trans (b7.mono B6.size)⟩
        · have HR := Lib.hid (R3.out hj2)
          have t3 : ((j2 : Int) == (i : Int)) = false := beq_eq_false_iff_ne.2 (by omega)
          clear hj2 R2 R3
          have C1 := Lib.hid (fun w => Meet_ok ax ay bx bz cx cy dx dy w oa ob oc od)
          generalize meetB (ax, ay) (bx, bz) (cx, cy) (dx, dy) = q2 at *
          cases q0 <;> cases q1 <;> first | (exact absurd hq01 (by decide)) | skip
          all_goals
            go_wp2_with fail
            refine (C1.out _).mono ?_
            rintro e w6 ⟨rfl, b6⟩
            go_wp2_with fail
            go_ret
            exact ⟨by rw [HR.out]; rfl, E4.trans (b6.mono E4.size)⟩
end

/-! Clash -/
section
open Go.RowKit

/-- the document's test of two edges, i ahead of j -/
def clashB (l : List Pt) (i j : Nat) : Bool :=
  let a := pt l i; let b := pt l (i + 1); let c := pt l j; let d := pt l ((j + 1) % l.length)
  if j = i + 1 then overB a b d
  else if i = 0 ∧ j = l.length - 1 then overB b a c
  else meetB a b c d

set_option maxRecDepth 100000 in
set_option maxHeartbeats 4000000 in
theorem clash_any (g off c : Nat) (l : List (Int × Int)) (i j : Nat) (w : World) (hv : Pts w (.slice (some ⟨g, off, none⟩) l.length c) l) (hl : allP l = true) (h64 : l.length ≤ 64) (hij : i < j) (hj : j < l.length) :
    Calls Tryd.prog 44 #[.slice (some ⟨g, off, none⟩) l.length c, .int .i64 (i : Int), .int .i64 (j : Int)] w fun e w' => e = .returned (.bool (clashB l i j)) ∧ Below w.heap.size w w' := by
  have hi : i < l.length := by omega
  have hi1 : i + 1 < l.length := by omega
  have hm2 : (j + 1) % l.length < l.length := Nat.mod_lt _ (by omega)
  obtain ⟨hg, hx, hy⟩ := pt_cell hv hi
  obtain ⟨_, hx2, hy2⟩ := pt_cell hv hi1
  obtain ⟨_, hx3, hy3⟩ := pt_cell hv hj
  obtain ⟨_, hx4, hy4⟩ := pt_cell hv hm2
  have oa := okP_inP (pt_ok hl hi)
  have ob := okP_inP (pt_ok hl hi1)
  have oc := okP_inP (pt_ok hl hj)
  have od := okP_inP (pt_ok hl hm2)
  have HQ := Lib.hid (show clashB l i j = (if j = i + 1 then overB (pt l i) (pt l (i + 1)) (pt l ((j + 1) % l.length)) else if i = 0 ∧ j = l.length - 1 then overB (pt l (i + 1)) (pt l i) (pt l j) else meetB (pt l i) (pt l (i + 1)) (pt l j) (pt l ((j + 1) % l.length))) from rfl)
  have M2 := Lib.hid (show ((j : Int) + 1).tmod (l.length : Int) = (((j + 1) % l.length : Nat) : Int) by rw [Int.tmod_eq_emod_of_nonneg (by omega), Int.natCast_emod]; rfl)
  have XS := Lib.hid (show ∀ w', Below w.heap.size w w' → (w'.cell? ⟨g, off + i * 2, none⟩ = some (.int .i64 (pt l i).1) ∧ w'.cell? ⟨g, off + i * 2 + 1, none⟩ = some (.int .i64 (pt l i).2) ∧ w'.cell? ⟨g, off + (i + 1) * 2, none⟩ = some (.int .i64 (pt l (i + 1)).1) ∧ w'.cell? ⟨g, off + (i + 1) * 2 + 1, none⟩ = some (.int .i64 (pt l (i + 1)).2)) ∧
      (w'.cell? ⟨g, off + j * 2, none⟩ = some (.int .i64 (pt l j).1) ∧ w'.cell? ⟨g, off + j * 2 + 1, none⟩ = some (.int .i64 (pt l j).2) ∧ w'.cell? ⟨g, off + (j + 1) % l.length * 2, none⟩ = some (.int .i64 (pt l ((j + 1) % l.length)).1) ∧ w'.cell? ⟨g, off + (j + 1) % l.length * 2 + 1, none⟩ = some (.int .i64 (pt l ((j + 1) % l.length)).2)) from
    fun w' h => ⟨⟨(h.cell (p := ⟨g, off + i * 2, none⟩) hg).trans hx, (h.cell (p := ⟨g, off + i * 2 + 1, none⟩) hg).trans hy, (h.cell (p := ⟨g, off + (i + 1) * 2, none⟩) hg).trans hx2, (h.cell (p := ⟨g, off + (i + 1) * 2 + 1, none⟩) hg).trans hy2⟩,
      (h.cell (p := ⟨g, off + j * 2, none⟩) hg).trans hx3, (h.cell (p := ⟨g, off + j * 2 + 1, none⟩) hg).trans hy3, (h.cell (p := ⟨g, off + (j + 1) % l.length * 2, none⟩) hg).trans hx4, (h.cell (p := ⟨g, off + (j + 1) % l.length * 2 + 1, none⟩) hg).trans hy4⟩)
  clear hx hy hx2 hy2 hx3 hy3 hx4 hy4 hv hl
  generalize pt l i = pa at *
  generalize pt l (i + 1) = pb at *
  generalize pt l j = pc at *
  generalize pt l ((j + 1) % l.length) = pd at *
  generalize (j + 1) % l.length = j2 at *
  obtain ⟨ax, ay⟩ := pa
  obtain ⟨bx, bz⟩ := pb
  obtain ⟨cx, cy⟩ := pc
  obtain ⟨dx, dy⟩ := pd
  simp only at oa ob oc od XS
  have i0 : (0 : Int) ≤ (i : Int) := by omega
  have i1 : (i : Int) < (l.length : Int) := by omega
  have i2 : (0 : Int) ≤ (i : Int) + 1 := by omega
  have i3 : (i : Int) + 1 < (l.length : Int) := by omega
  have k0 : (0 : Int) ≤ (j : Int) := by omega
  have k1 : (j : Int) < (l.length : Int) := by omega
  have k2 : (0 : Int) ≤ (j2 : Int) := by omega
  have k3 : (j2 : Int) < (l.length : Int) := by omega
  have hz : ((l.length : Int) == 0) = false := beq_eq_false_iff_ne.2 (by omega)
  have hnl : ¬ l = [] := by intro h; rw [h] at hj; exact absurd hj (Nat.not_lt_zero _)
  have HE := Lib.hid (show (IntKind.i64.wrap ((i : Int) + 1) = (i : Int) + 1 ∧ ((i : Int) + 1).toNat = i + 1) ∧ (IntKind.i64.wrap ((j : Int) + 1) = (j : Int) + 1 ∧ IntKind.i64.wrap (j2 : Int) = (j2 : Int)) from ⟨⟨IntWalk.i64_in _ (by omega), by omega⟩, IntWalk.i64_in _ (by omega), IntWalk.i64_in _ (by omega)⟩)
  go_enter Tryd.func44, Tryd.ntmps44
  go_wp2_with fail
  refine wp_region_noPanic ?_
  refine wp_region_held_drew (S := fun w' => Below w.heap.size w w') (by kernel_rfl) (Below.refl _ _).drew (fun hHeld => ?_)
  generalize w.drew = D at hHeld ⊢
  have B1 : Below w.heap.size w D := hHeld
  obtain ⟨⟨e1, e2⟩, e3, e4⟩ := HE.out
  have e5 := M2.out
  refine wpAnyH_take (i := 0) (oi := ⟨some 14, _, _, _, _, _⟩) (v := ?qv0r2) rfl (by kernel_rfl) (by kernel_rfl) (by kernel_rfl) (fun _ _ _ h => h) (Or.inl ⟨by rfl, ?qy0r2⟩) hHeld ?qr0r2
  case qy0r2 => (intro w' hSw; go_simp; try with_reducible rfl)
  try simp only [Act.put, List.setIfInBounds_toArray, List.set_cons_zero, List.set_cons_succ]
  refine wpAnyH_take (i := 1) (oi := ⟨some 15, _, _, _, _, _⟩) (v := ?qv1r2) rfl (by kernel_rfl) (by kernel_rfl) (by kernel_rfl) (fun _ _ _ h => h) (Or.inl ⟨by rfl, ?qy1r2⟩) hHeld ?qr1r2
  case qy1r2 => (intro w' hSw; go_simp; try with_reducible rfl)
  try simp only [Act.put, List.setIfInBounds_toArray, List.set_cons_zero, List.set_cons_succ]
  refine wpAnyH_take (i := 2) (oi := ⟨some 16, _, _, _, _, _⟩) (v := ?qv2r2) rfl (by kernel_rfl) (by kernel_rfl) (by kernel_rfl) (fun _ _ _ h => h) (Or.inl ⟨by rfl, ?qy2r2⟩) hHeld ?qr2r2
  case qy2r2 => (intro w' hSw; go_simp; try with_reducible rfl)
  try simp only [Act.put, List.setIfInBounds_toArray, List.set_cons_zero, List.set_cons_succ]
  refine wpAnyH_take (i := 3) (oi := ⟨some 17, _, _, _, _, _⟩) (v := ?qv3r2) rfl (by kernel_rfl) (by kernel_rfl) (by kernel_rfl) (fun _ _ _ h => h) (Or.inl ⟨by rfl, ?qy3r2⟩) hHeld ?qr3r2
  case qy3r2 => (intro w' hSw; obtain ⟨⟨z0, z1, z2, z3⟩, _⟩ := XS.out w' hSw; go_simp; try with_reducible rfl)
  try simp only [Act.put, List.setIfInBounds_toArray, List.set_cons_zero, List.set_cons_succ]
  refine wpAnyH_take (i := 4) (oi := ⟨some 18, _, _, _, _, _⟩) (v := ?qv4r2) rfl (by kernel_rfl) (by kernel_rfl) (by kernel_rfl) (fun _ _ _ h => h) (Or.inl ⟨by rfl, ?qy4r2⟩) hHeld ?qr4r2
  case qy4r2 => (intro w' hSw; go_simp; try with_reducible rfl)
  try simp only [Act.put, List.setIfInBounds_toArray, List.set_cons_zero, List.set_cons_succ]
  refine wpAnyH_take (i := 5) (oi := ⟨some 19, _, _, _, _, _⟩) (v := ?qv5r2) rfl (by kernel_rfl) (by kernel_rfl) (by kernel_rfl) (fun _ _ _ h => h) (Or.inl ⟨by rfl, ?qy5r2⟩) hHeld ?qr5r2
  case qy5r2 => (intro w' hSw; go_simp; try with_reducible rfl)
  try simp only [Act.put, List.setIfInBounds_toArray, List.set_cons_zero, List.set_cons_succ]
  refine wpAnyH_take (i := 6) (oi := ⟨some 20, _, _, _, _, _⟩) (v := ?qv6r2) rfl (by kernel_rfl) (by kernel_rfl) (by kernel_rfl) (fun _ _ _ h => h) (Or.inl ⟨by rfl, ?qy6r2⟩) hHeld ?qr6r2
  case qy6r2 => (intro w' hSw; go_simp; try with_reducible rfl)
  try simp only [Act.put, List.setIfInBounds_toArray, List.set_cons_zero, List.set_cons_succ]
  refine wpAnyH_take (i := 7) (oi := ⟨some 21, _, _, _, _, _⟩) (v := ?qv7r2) rfl (by kernel_rfl) (by kernel_rfl) (by kernel_rfl) (fun _ _ _ h => h) (Or.inl ⟨by rfl, ?qy7r2⟩) hHeld ?qr7r2
  case qy7r2 => (intro w' hSw; go_simp; try with_reducible rfl)
  try simp only [Act.put, List.setIfInBounds_toArray, List.set_cons_zero, List.set_cons_succ]
  refine wpAnyH_take (i := 8) (oi := ⟨some 22, _, _, _, _, _⟩) (v := ?qv8r2) rfl (by kernel_rfl) (by kernel_rfl) (by kernel_rfl) (fun _ _ _ h => h) (Or.inl ⟨by rfl, ?qy8r2⟩) hHeld ?qr8r2
  case qy8r2 => (intro w' hSw; obtain ⟨⟨z0, z1, z2, z3⟩, _⟩ := XS.out w' hSw; go_simp; try with_reducible rfl)
  try simp only [Act.put, List.setIfInBounds_toArray, List.set_cons_zero, List.set_cons_succ]
  refine wpAnyH_two (ops := _) w (fun u1 u2 => ⟨#[.slice (some ⟨g, off, none⟩) l.length c, .int .i64 (i : Int), .int .i64 (j : Int), undef, undef, undef, .bool false, .int .i64 (l.length : Int), u1, u2, undef, undef, .slice (some ⟨g, off, none⟩) l.length c, .int .i64 (l.length : Int), .slice (some ⟨g, off, none⟩) l.length c, .int .i64 (i : Int), .pointer (some ⟨g, off + i * 2, none⟩), .agg #[.int .i64 ax, .int .i64 ay], .slice (some ⟨g, off, none⟩) l.length c, .int .i64 (i : Int), .int .i64 ((i : Int) + 1), .pointer (some ⟨g, off + (i + 1) * 2, none⟩), .agg #[.int .i64 bx, .int .i64 bz], undef, undef, undef, undef, undef, undef, undef, undef, undef, undef, undef, undef, undef, undef, undef, undef, undef, undef, undef, undef, undef, undef, undef, undef, undef, undef, undef, undef, undef, undef, undef, undef, undef, undef, undef, undef, undef, undef], []⟩) (fun b1 b2 => #[true, true, true, true, true, true, true, true, true, b1, b2, false, false]) 9 10 2 (by kernel_rfl) (by kernel_rfl) (by kernel_rfl) (fun _ => rfl) (fun _ => rfl) ?ya2 ?yb2 ?yf2 undef undef D B1
  case ya2 =>
    intro u1 u2 w2 K h
    refine wpOp_step (o := ⟨some 8, _, _, _, _, _⟩) rfl fun K' hK => ?_
    go_simp
    exact hK _ _ h
  case yb2 =>
    intro u1 u2 w2 K h
    refine wpOp_step (o := ⟨some 9, _, _, _, _, _⟩) rfl fun K' hK => ?_
    go_simp
    exact hK _ _ h
  case yf2 =>
    intro g3 g4 w5 E20 l21 l22 d2 n1 n2
    clear e1 e2 e3 e4 e5
    have T21 := n1.there
    have T22 := n2.there
    clear n1 n2
    have E21 := below_setCells l21 [.int .i64 ax, .int .i64 ay] 0 _ E20
    refine wpAnyH_ready (rs := [11]) (by kernel_rfl) (by simp) ?_
    refine AllReadyH.cons (o := ⟨none, _, _, _, _, _⟩) rfl (fun K hK => ?_) AllReadyH.nil
    refine step_store (by rfl) _ _ _ (by rfl) g3 ax ay (by rfl) (by rfl) T21 (by kernel_rfl) ?_
    refine hK.out _ _ E21 (fun hHeld => ?_)
    clear hK K hHeld
    try simp only [Act.put, List.setIfInBounds_toArray, List.set_cons_zero, List.set_cons_succ]
    have Y21 := pair_setCells _ g3 ax ay T21
    replace T22 := World.there_setCells T22 g3 0 [.int .i64 ax, .int .i64 ay]
    generalize w5.setCells g3 0 [.int .i64 ax, .int .i64 ay] = x1 at E21 Y21 T22 ⊢
    clear E20 T21
    have E22 := below_setCells l22 [.int .i64 bx, .int .i64 bz] 0 _ E21
    refine wpAnyH_ready (rs := [12]) (by kernel_rfl) (by simp) ?_
    refine AllReadyH.cons (o := ⟨none, _, _, _, _, _⟩) rfl (fun K hK => ?_) AllReadyH.nil
    refine step_store (by rfl) _ _ _ (by rfl) g4 bx bz (by rfl) (by rfl) T22 (by kernel_rfl) ?_
    refine hK.out _ _ E22 (fun hHeld => ?_)
    clear hK K hHeld
    try simp only [Act.put, List.setIfInBounds_toArray, List.set_cons_zero, List.set_cons_succ]
    replace Y21 := Y21.apart d2 [.int .i64 bx, .int .i64 bz]
    have Y22 := pair_setCells _ g4 bx bz T22
    generalize x1.setCells g4 0 [.int .i64 bx, .int .i64 bz] = x2 at E22 Y21 Y22 ⊢
    clear E21 T22
    refine wpAnyH_done (by kernel_rfl) ?_ _
    refine NoPanic.normal ?_
    clear l21 l22 d2
    have XT := Lib.hid (show ∀ w', Below x2.heap.size x2 w' → Pair w' g3 ax ay ∧ Pair w' g4 bx bz from fun w' h => ⟨Y21.below h, Y22.below h⟩)
    have XJ := Lib.hid (show ∀ w', Below x2.heap.size x2 w' → _ from fun w' h => (XS.out w' (E22.trans (h.mono E22.size))).2)
    clear Y21 Y22 XS B1
    go_wp2_with fail
    refine wp_region_noPanic ?_
    refine wp_region_held_drew (S := fun w' => Below x2.heap.size x2 w') (by kernel_rfl) (Below.refl _ _).drew (fun hHeld => ?_)
    generalize x2.drew = D2 at hHeld ⊢
    have B2 : Below x2.heap.size x2 D2 := hHeld
    obtain ⟨⟨e1, e2⟩, e3, e4⟩ := HE.out
    have e5 := M2.out
    refine wpAnyH_take (i := 0) (oi := ⟨some 23, _, _, _, _, _⟩) (v := ?qv0r3) rfl (by kernel_rfl) (by kernel_rfl) (by kernel_rfl) (fun _ _ _ h => h) (Or.inl ⟨by rfl, ?qy0r3⟩) hHeld ?qr0r3
    case qy0r3 => (intro w' hSw; go_simp; try with_reducible rfl)
    try simp only [Act.put, List.setIfInBounds_toArray, List.set_cons_zero, List.set_cons_succ]
    refine wpAnyH_take (i := 1) (oi := ⟨some 24, _, _, _, _, _⟩) (v := ?qv1r3) rfl (by kernel_rfl) (by kernel_rfl) (by kernel_rfl) (fun _ _ _ h => h) (Or.inl ⟨by rfl, ?qy1r3⟩) hHeld ?qr1r3
    case qy1r3 => (intro w' hSw; go_simp; try with_reducible rfl)
    try simp only [Act.put, List.setIfInBounds_toArray, List.set_cons_zero, List.set_cons_succ]
    refine wpAnyH_take (i := 2) (oi := ⟨some 25, _, _, _, _, _⟩) (v := ?qv2r3) rfl (by kernel_rfl) (by kernel_rfl) (by kernel_rfl) (fun _ _ _ h => h) (Or.inl ⟨by rfl, ?qy2r3⟩) hHeld ?qr2r3
    case qy2r3 => (intro w' hSw; go_simp; try with_reducible rfl)
    try simp only [Act.put, List.setIfInBounds_toArray, List.set_cons_zero, List.set_cons_succ]
    refine wpAnyH_take (i := 3) (oi := ⟨some 26, _, _, _, _, _⟩) (v := ?qv3r3) rfl (by kernel_rfl) (by kernel_rfl) (by kernel_rfl) (fun _ _ _ h => h) (Or.inl ⟨by rfl, ?qy3r3⟩) hHeld ?qr3r3
    case qy3r3 => (intro w' hSw; obtain ⟨z0, z1, z2, z3⟩ := XJ.out w' hSw; go_simp; try with_reducible rfl)
    try simp only [Act.put, List.setIfInBounds_toArray, List.set_cons_zero, List.set_cons_succ]
    refine wpAnyH_take (i := 4) (oi := ⟨some 27, _, _, _, _, _⟩) (v := ?qv4r3) rfl (by kernel_rfl) (by kernel_rfl) (by kernel_rfl) (fun _ _ _ h => h) (Or.inl ⟨by rfl, ?qy4r3⟩) hHeld ?qr4r3
    case qy4r3 => (intro w' hSw; go_simp; try with_reducible rfl)
    try simp only [Act.put, List.setIfInBounds_toArray, List.set_cons_zero, List.set_cons_succ]
    refine wpAnyH_take (i := 5) (oi := ⟨some 28, _, _, _, _, _⟩) (v := ?qv5r3) rfl (by kernel_rfl) (by kernel_rfl) (by kernel_rfl) (fun _ _ _ h => h) (Or.inl ⟨by rfl, ?qy5r3⟩) hHeld ?qr5r3
    case qy5r3 => (intro w' hSw; go_simp; try with_reducible rfl)
    try simp only [Act.put, List.setIfInBounds_toArray, List.set_cons_zero, List.set_cons_succ]
    refine wpAnyH_take (i := 6) (oi := ⟨some 29, _, _, _, _, _⟩) (v := ?qv6r3) rfl (by kernel_rfl) (by kernel_rfl) (by kernel_rfl) (fun _ _ _ h => h) (Or.inl ⟨by rfl, ?qy6r3⟩) hHeld ?qr6r3
    case qy6r3 => (intro w' hSw; go_simp; try with_reducible rfl)
    try simp only [Act.put, List.setIfInBounds_toArray, List.set_cons_zero, List.set_cons_succ]
    refine wpAnyH_take (i := 7) (oi := ⟨some 30, _, _, _, _, _⟩) (v := ?qv7r3) rfl (by kernel_rfl) (by kernel_rfl) (by kernel_rfl) (fun _ _ _ h => h) (Or.inl ⟨by rfl, ?qy7r3⟩) hHeld ?qr7r3
    case qy7r3 => (intro w' hSw; go_simp; try with_reducible rfl)
    try simp only [Act.put, List.setIfInBounds_toArray, List.set_cons_zero, List.set_cons_succ]
    refine wpAnyH_take (i := 8) (oi := ⟨some 31, _, _, _, _, _⟩) (v := ?qv8r3) rfl (by kernel_rfl) (by kernel_rfl) (by kernel_rfl) (fun _ _ _ h => h) (Or.inl ⟨by rfl, ?qy8r3⟩) hHeld ?qr8r3
    case qy8r3 => (intro w' hSw; go_simp; try with_reducible rfl)
    try simp only [Act.put, List.setIfInBounds_toArray, List.set_cons_zero, List.set_cons_succ]
    refine wpAnyH_take (i := 9) (oi := ⟨some 32, _, _, _, _, _⟩) (v := ?qv9r3) rfl (by kernel_rfl) (by kernel_rfl) (by kernel_rfl) (fun _ _ _ h => h) (Or.inl ⟨by rfl, ?qy9r3⟩) hHeld ?qr9r3
    case qy9r3 => (intro w' hSw; go_simp; try with_reducible rfl)
    try simp only [Act.put, List.setIfInBounds_toArray, List.set_cons_zero, List.set_cons_succ]
    refine wpAnyH_take (i := 10) (oi := ⟨some 33, _, _, _, _, _⟩) (v := ?qv10r3) rfl (by kernel_rfl) (by kernel_rfl) (by kernel_rfl) (fun _ _ _ h => h) (Or.inl ⟨by rfl, ?qy10r3⟩) hHeld ?qr10r3
    case qy10r3 => (intro w' hSw; obtain ⟨z0, z1, z2, z3⟩ := XJ.out w' hSw; go_simp; try with_reducible rfl)
    try simp only [Act.put, List.setIfInBounds_toArray, List.set_cons_zero, List.set_cons_succ]
    refine wpAnyH_two (ops := _) x2 (fun u1 u2 => ⟨#[.slice (some ⟨g, off, none⟩) l.length c, .int .i64 (i : Int), .int .i64 (j : Int), undef, undef, undef, .bool false, .int .i64 (l.length : Int), .pointer (some ⟨g3, 0, none⟩), .pointer (some ⟨g4, 0, none⟩), u1, u2, .slice (some ⟨g, off, none⟩) l.length c, .int .i64 (l.length : Int), .slice (some ⟨g, off, none⟩) l.length c, .int .i64 (i : Int), .pointer (some ⟨g, off + i * 2, none⟩), .agg #[.int .i64 ax, .int .i64 ay], .slice (some ⟨g, off, none⟩) l.length c, .int .i64 (i : Int), .int .i64 ((i : Int) + 1), .pointer (some ⟨g, off + (i + 1) * 2, none⟩), .agg #[.int .i64 bx, .int .i64 bz], .slice (some ⟨g, off, none⟩) l.length c, .int .i64 (j : Int), .pointer (some ⟨g, off + j * 2, none⟩), .agg #[.int .i64 cx, .int .i64 cy], .slice (some ⟨g, off, none⟩) l.length c, .int .i64 (j : Int), .int .i64 ((j : Int) + 1), .int .i64 (l.length : Int), .int .i64 (j2 : Int), .pointer (some ⟨g, off + j2 * 2, none⟩), .agg #[.int .i64 dx, .int .i64 dy], undef, undef, undef, undef, undef, undef, undef, undef, undef, undef, undef, undef, undef, undef, undef, undef, undef, undef, undef, undef, undef, undef, undef, undef, undef, undef, undef], []⟩) (fun b1 b2 => #[true, true, true, true, true, true, true, true, true, true, true, b1, b2, false, false]) 11 12 2 (by kernel_rfl) (by kernel_rfl) (by kernel_rfl) (fun _ => rfl) (fun _ => rfl) ?ya3 ?yb3 ?yf3 undef undef D2 B2
    case ya3 =>
      intro u1 u2 w2 K h
      refine wpOp_step (o := ⟨some 10, _, _, _, _, _⟩) rfl fun K' hK => ?_
      go_simp
      exact hK _ _ h
    case yb3 =>
      intro u1 u2 w2 K h
      refine wpOp_step (o := ⟨some 11, _, _, _, _, _⟩) rfl fun K' hK => ?_
      go_simp
      exact hK _ _ h
    case yf3 =>
      intro g5 g6 w7 E30 l31 l32 d3 n1 n2
      clear e1 e2 e3 e4 e5
      have T31 := n1.there
      have T32 := n2.there
      clear n1 n2
      have E31 := below_setCells l31 [.int .i64 cx, .int .i64 cy] 0 _ E30
      refine wpAnyH_ready (rs := [13]) (by kernel_rfl) (by simp) ?_
      refine AllReadyH.cons (o := ⟨none, _, _, _, _, _⟩) rfl (fun K hK => ?_) AllReadyH.nil
      refine step_store (by rfl) _ _ _ (by rfl) g5 cx cy (by rfl) (by rfl) T31 (by kernel_rfl) ?_
      refine hK.out _ _ E31 (fun hHeld => ?_)
      clear hK K hHeld
      try simp only [Act.put, List.setIfInBounds_toArray, List.set_cons_zero, List.set_cons_succ]
      have Y31 := pair_setCells _ g5 cx cy T31
      replace T32 := World.there_setCells T32 g5 0 [.int .i64 cx, .int .i64 cy]
      generalize w7.setCells g5 0 [.int .i64 cx, .int .i64 cy] = x3 at E31 Y31 T32 ⊢
      clear E30 T31
      have E32 := below_setCells l32 [.int .i64 dx, .int .i64 dy] 0 _ E31
      refine wpAnyH_ready (rs := [14]) (by kernel_rfl) (by simp) ?_
      refine AllReadyH.cons (o := ⟨none, _, _, _, _, _⟩) rfl (fun K hK => ?_) AllReadyH.nil
      refine step_store (by rfl) _ _ _ (by rfl) g6 dx dy (by rfl) (by rfl) T32 (by kernel_rfl) ?_
      refine hK.out _ _ E32 (fun hHeld => ?_)
      clear hK K hHeld
      try simp only [Act.put, List.setIfInBounds_toArray, List.set_cons_zero, List.set_cons_succ]
      replace Y31 := Y31.apart d3 [.int .i64 dx, .int .i64 dy]
      have Y32 := pair_setCells _ g6 dx dy T32
      generalize x3.setCells g6 0 [.int .i64 dx, .int .i64 dy] = x4 at E32 Y31 Y32 ⊢
      clear E31 T32
      refine wpAnyH_done (by kernel_rfl) ?_ _
      refine NoPanic.normal ?_
      have E4 := E22.trans (E32.mono E22.size)
      obtain ⟨⟨y0, y1⟩, y2, y3⟩ := XT.out _ E32
      obtain ⟨y4, y5⟩ := Y31
      obtain ⟨y6, y7⟩ := Y32
      clear l31 l32 d3 XT XJ B2 E22
      have hw0 : (0 : Int) ≤ (l.length : Int) - 1 := by omega
      by_cases hj1 : j = i + 1
      · have t1 : ((j : Int) == (i : Int) + 1) = true := by rw [hj1]; simp
        have HR := Lib.hid (show clashB l i j = overB (ax, ay) (bx, bz) (dx, dy) by rw [HQ.out, if_pos hj1])
        have C := Lib.hid (fun w => over_ok ax ay bx bz dx dy w oa ob od)
        generalize overB (ax, ay) (bx, bz) (dx, dy) = q at *
        clear hj1 HQ HE M2
        go_wp2_with fail
        refine (C.out _).mono ?_
        rintro e w8 ⟨rfl, b8⟩
        go_wp2_with fail
        go_ret
        exact ⟨by rw [HR.out]; rfl, E4.trans (b8.mono E4.size)⟩
      · have t1 : ((j : Int) == (i : Int) + 1) = false := beq_eq_false_iff_ne.2 (by omega)
        by_cases h0 : i = 0
        · have t2 : ((i : Int) == 0) = true := by rw [h0]; simp
          by_cases hn : j = l.length - 1
          · have t3 : ((j : Int) == (l.length : Int) - 1) = true := by simp; omega
            have HR := Lib.hid (show clashB l i j = overB (bx, bz) (ax, ay) (cx, cy) by rw [HQ.out, if_neg hj1, if_pos ⟨h0, hn⟩])
            have C := Lib.hid (fun w => over_ok bx bz ax ay cx cy w ob oa oc)
            generalize overB (bx, bz) (ax, ay) (cx, cy) = q at *
            clear hj1 HQ HE M2 h0 hn
            go_wp2_with fail
            refine (C.out _).mono ?_
            rintro e w8 ⟨rfl, b8⟩
            go_wp2_with fail
            go_ret
            exact ⟨by rw [HR.out]; rfl, E4.trans (b8.mono E4.size)⟩
          · have t3 : ((j : Int) == (l.length : Int) - 1) = false := beq_eq_false_iff_ne.2 (by omega)
            have HR := Lib.hid (show clashB l i j = meetB (ax, ay) (bx, bz) (cx, cy) (dx, dy) by rw [HQ.out, if_neg hj1, if_neg (fun h => hn h.2)])
            have C := Lib.hid (fun w => MeetR_ok ax ay bx bz cx cy dx dy w oa ob oc od)
            generalize meetB (ax, ay) (bx, bz) (cx, cy) (dx, dy) = q at *
            clear hj1 HQ HE M2 h0 hn
            go_wp2_with fail
            refine (C.out _).mono ?_
            rintro e w8 ⟨rfl, b8⟩
            go_wp2_with fail
            go_ret
            exact ⟨by rw [HR.out]; rfl, E4.trans (b8.mono E4.size)⟩
        · have t2 : ((i : Int) == 0) = false := beq_eq_false_iff_ne.2 (by omega)
          have HR := Lib.hid (show clashB l i j = meetB (ax, ay) (bx, bz) (cx, cy) (dx, dy) by rw [HQ.out, if_neg hj1, if_neg (fun h => h0 h.1)])
          have C := Lib.hid (fun w => MeetR_ok ax ay bx bz cx cy dx dy w oa ob oc od)
          generalize meetB (ax, ay) (bx, bz) (cx, cy) (dx, dy) = q at *
          clear hj1 HQ HE M2 h0
          go_wp2_with fail
          refine (C.out _).mono ?_
          rintro e w8 ⟨rfl, b8⟩
          go_wp2_with fail
          go_ret
          exact ⟨by rw [HR.out]; rfl, E4.trans (b8.mono E4.size)⟩
end

end Go.Proofs.YthcfekabeidmiaaRRDoorR
