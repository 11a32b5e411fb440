/- ring.area, Left, edge, Edge. (printed by wip/gen_area.py) -/
import Derived.Test.YtpmngdgifdkohaaDoorRingEq
namespace Go.Proofs.YtpmngdgifdkohaaDoor
open Go.RowKit

/-- twice a ring's area with its sign, of the first k triangles -/
def areaTo (l : List Pt) : Nat → Int
  | 0 => 0
  | k + 1 => areaTo l k + crs (pt l 0) (pt l k) (pt l ((k + 1) % l.length))
/-- as the program reckons it -/
def areaV (l : List Pt) : Int := IntKind.i64.wrap (areaTo l l.length)
theorem wrap_i64_add (x y : Int) : IntKind.i64.wrap (IntKind.i64.wrap x + y) = IntKind.i64.wrap (x + y) := by
  simp only [IntKind.wrap, IntKind.bits, IntKind.signed]
  simp
  split <;> split <;> (try split) <;> omega

set_option maxRecDepth 100000 in
set_option maxHeartbeats 1000000 in
theorem area_ok (v : Value) (l : List (Int × Int)) (w : World) (hv : Pts w v l) (hl : allP l = true) (h3 : 3 ≤ l.length) (h64 : l.length ≤ 64) :
    Calls Tryd.prog 42 #[v] w fun e w' => e = .returned (.int .i64 (areaV l)) ∧ Below w.heap.size w w' := by
  have hv0 := hv
  obtain ⟨ao, c, rfl, h1, h2, h0, h3'⟩ := hv.open
  obtain ⟨g, off, rfl, hg0, hq1, hq2⟩ := h3' 0 (by omega)
  have PC := Lib.hid (show ∀ k (hk : k < l.length), _ from fun k hk => pt_cell hv0 hk)
  have OK := Lib.hid (show ∀ k (hk : k < l.length), inP (pt l k).1 (pt l k).2 from fun k hk => okP_inP (pt_ok hl hk))
  have NX := Lib.hid (show ∀ k (hk : k < l.length) w' (hb : Below w.heap.size w w'), _ from fun k hk w' hb => next_any _ l k w' (hv0.below hb) hk)
  unfold maxLen at h2
  clear h0 h3' hq1 hq2 hv hv0 hl hg0
  go_enter Tryd.func42, Tryd.ntmps42
  go_wp2_with fail
  go_loopw [2, 6] (fun s i wr => ∃ k : Nat, k ≤ l.length ∧ i = .int .i64 k ∧ s = .int .i64 (IntKind.i64.wrap (areaTo l k)) ∧ Below w.heap.size w wr) (fun _ i _ => l.length - (intOf i).toNat)
  case atStart => exact ⟨0, Nat.zero_le _, rfl, rfl, Below.refl _ _⟩
  case round =>
    obtain ⟨k, hk, rfl, rfl, hb⟩ := hrel
    by_cases hlt : k < l.length
    · have t1 : decide ((k : Int) < (l.length : Int)) = true := by simp; omega
      have hm : (k + 1) % l.length < l.length := Nat.mod_lt _ (by omega)
      obtain ⟨hg, hx1, hy1⟩ := PC.out 0 (by omega)
      obtain ⟨_, hx2, hy2⟩ := PC.out k hlt
      have oa := OK.out 0 (by omega)
      have ob := OK.out k hlt
      have oc := OK.out _ hm
      have XS := Lib.hid (show ∀ w', Below wr.heap.size wr w' → w'.cell? ⟨g, off, none⟩ = some (.int .i64 (pt l 0).1) ∧ w'.cell? ⟨g, off + 1, none⟩ = some (.int .i64 (pt l 0).2) ∧ w'.cell? ⟨g, off + k * 2, none⟩ = some (.int .i64 (pt l k).1) ∧ w'.cell? ⟨g, off + k * 2 + 1, none⟩ = some (.int .i64 (pt l k).2) from fun w' h => by
        have h' := hb.trans (h.mono hb.size)
        rw [Nat.zero_mul, Nat.add_zero] at hx1 hy1
        exact ⟨(h'.cell (p := ⟨g, off, none⟩) hg).trans hx1, (h'.cell (p := ⟨g, off + 1, none⟩) hg).trans hy1, (h'.cell (p := ⟨g, off + k * 2, none⟩) hg).trans hx2, (h'.cell (p := ⟨g, off + k * 2 + 1, none⟩) hg).trans hy2⟩)
      have N1 := Lib.hid (show ∀ w', Below wr.heap.size wr w' → _ from fun w' h => NX.out k hlt w' (hb.trans (h.mono hb.size)))
      have HA := Lib.hid (show areaTo l (k + 1) = areaTo l k + crs (pt l 0) (pt l k) (pt l ((k + 1) % l.length)) from rfl)
      clear hx1 hy1 hx2 hy2 hm
      generalize pt l 0 = pa at *
      generalize pt l k = pb at *
      generalize pt l ((k + 1) % l.length) = pc at *
      obtain ⟨ax, ay⟩ := pa
      obtain ⟨bx, bz⟩ := pb
      obtain ⟨cx, cy⟩ := pc
      simp only at oa ob oc XS N1
      have CR := Lib.hid (fun w => Cross_ok ax ay bx bz cx cy w oa ob oc)
      generalize crs (ax, ay) (bx, bz) (cx, cy) = s at *
      have HW := Lib.hid (show IntKind.i64.wrap (IntKind.i64.wrap (areaTo l k) + s) = IntKind.i64.wrap (areaTo l (k + 1)) by rw [HA.out, wrap_i64_add])
      generalize hz : IntKind.i64.wrap (areaTo l (k + 1)) = z at *
      have HZ := Lib.hid hz
      generalize IntKind.i64.wrap (areaTo l k) = y at *
      have i0 : (0 : Int) ≤ (k : Int) := by omega
      have i1 : (k : Int) < (l.length : Int) := by omega
      have i2 : (0 : Int) < (l.length : Int) := by omega
      have i3 : 0 < l.length := by omega
      clear oa ob oc HA hz
      go_wp2_with fail
      refine wp_region_noPanic ?_
      refine wp_region_held_drew (S := fun w' => Below wr.heap.size wr w') (by kernel_rfl) (Below.refl _ _).drew (fun hHeld => ?_)
      generalize wr.drew = D at hHeld ⊢
      have B1 : Below wr.heap.size wr D := hHeld
      refine wpAnyH_take (i := 0) (oi := ⟨some 9, _, _, _, _, _⟩) (v := ?qv0ar) rfl (by kernel_rfl) (by kernel_rfl) (by kernel_rfl) (fun _ _ _ h => h) (Or.inl ⟨by rfl, ?qy0ar⟩) hHeld ?qr0ar
      case qy0ar => (intro w' hSw; have e9 := HW.out; go_simp; try with_reducible rfl)
      try simp only [Act.put, List.setIfInBounds_toArray, List.set_cons_zero, List.set_cons_succ]
      refine wpAnyH_take (i := 1) (oi := ⟨some 10, _, _, _, _, _⟩) (v := ?qv1ar) rfl (by kernel_rfl) (by kernel_rfl) (by kernel_rfl) (fun _ _ _ h => h) (Or.inl ⟨by rfl, ?qy1ar⟩) hHeld ?qr1ar
      case qy1ar => (intro w' hSw; have e9 := HW.out; go_simp; try with_reducible rfl)
      try simp only [Act.put, List.setIfInBounds_toArray, List.set_cons_zero, List.set_cons_succ]
      refine wpAnyH_take (i := 2) (oi := ⟨some 11, _, _, _, _, _⟩) (v := ?qv2ar) rfl (by kernel_rfl) (by kernel_rfl) (by kernel_rfl) (fun _ _ _ h => h) (Or.inl ⟨by rfl, ?qy2ar⟩) hHeld ?qr2ar
      case qy2ar => (intro w' hSw; have e9 := HW.out; go_simp; try with_reducible rfl)
      try simp only [Act.put, List.setIfInBounds_toArray, List.set_cons_zero, List.set_cons_succ]
      refine wpAnyH_take (i := 3) (oi := ⟨some 12, _, _, _, _, _⟩) (v := ?qv3ar) rfl (by kernel_rfl) (by kernel_rfl) (by kernel_rfl) (fun _ _ _ h => h) (Or.inl ⟨by rfl, ?qy3ar⟩) hHeld ?qr3ar
      case qy3ar => (intro w' hSw; obtain ⟨z0, z1, z2, z3⟩ := XS.out w' hSw; have e9 := HW.out; go_simp; try with_reducible rfl)
      try simp only [Act.put, List.setIfInBounds_toArray, List.set_cons_zero, List.set_cons_succ]
      refine wpAnyH_take (i := 4) (oi := ⟨some 13, _, _, _, _, _⟩) (v := ?qv4ar) rfl (by kernel_rfl) (by kernel_rfl) (by kernel_rfl) (fun _ _ _ h => h) (Or.inl ⟨by rfl, ?qy4ar⟩) hHeld ?qr4ar
      case qy4ar => (intro w' hSw; have e9 := HW.out; go_simp; try with_reducible rfl)
      try simp only [Act.put, List.setIfInBounds_toArray, List.set_cons_zero, List.set_cons_succ]
      refine wpAnyH_take (i := 5) (oi := ⟨some 14, _, _, _, _, _⟩) (v := ?qv5ar) rfl (by kernel_rfl) (by kernel_rfl) (by kernel_rfl) (fun _ _ _ h => h) (Or.inl ⟨by rfl, ?qy5ar⟩) hHeld ?qr5ar
      case qy5ar => (intro w' hSw; have e9 := HW.out; go_simp; try with_reducible rfl)
      try simp only [Act.put, List.setIfInBounds_toArray, List.set_cons_zero, List.set_cons_succ]
      refine wpAnyH_take (i := 6) (oi := ⟨some 15, _, _, _, _, _⟩) (v := ?qv6ar) rfl (by kernel_rfl) (by kernel_rfl) (by kernel_rfl) (fun _ _ _ h => h) (Or.inl ⟨by rfl, ?qy6ar⟩) hHeld ?qr6ar
      case qy6ar => (intro w' hSw; have e9 := HW.out; go_simp; try with_reducible rfl)
      try simp only [Act.put, List.setIfInBounds_toArray, List.set_cons_zero, List.set_cons_succ]
      refine wpAnyH_take (i := 7) (oi := ⟨some 16, _, _, _, _, _⟩) (v := ?qv7ar) rfl (by kernel_rfl) (by kernel_rfl) (by kernel_rfl) (fun _ _ _ h => h) (Or.inl ⟨by rfl, ?qy7ar⟩) hHeld ?qr7ar
      case qy7ar => (intro w' hSw; obtain ⟨z0, z1, z2, z3⟩ := XS.out w' hSw; have e9 := HW.out; go_simp; try with_reducible rfl)
      try simp only [Act.put, List.setIfInBounds_toArray, List.set_cons_zero, List.set_cons_succ]
      refine wpAnyH_take (i := 8) (oi := ⟨some 17, _, _, _, _, _⟩) (v := ?qv8ar) rfl (by kernel_rfl) (by kernel_rfl) (by kernel_rfl) (fun _ _ _ h => h) (Or.inl ⟨by rfl, ?qy8ar⟩) hHeld ?qr8ar
      case qy8ar => (intro w' hSw; have e9 := HW.out; go_simp; try with_reducible rfl)
      try simp only [Act.put, List.setIfInBounds_toArray, List.set_cons_zero, List.set_cons_succ]
      refine wpAnyH_take (i := 9) (oi := ⟨some 18, _, _, _, _, _⟩) (v := ?qv9ar) rfl (by kernel_rfl) (by kernel_rfl) (by kernel_rfl) (fun _ _ _ h => h) (Or.inl ⟨by rfl, ?qy9ar⟩) hHeld ?qr9ar
      case qy9ar => (intro w' hSw; have e9 := HW.out; go_simp; try with_reducible rfl)
      try simp only [Act.put, List.setIfInBounds_toArray, List.set_cons_zero, List.set_cons_succ]
      refine wpAnyH_ready (rs := [10]) (by kernel_rfl) (by simp) ?_
      refine AllReadyH.cons (o := ⟨some 19, _, _, _, _, _⟩) rfl (fun K hK => ?_) AllReadyH.nil
      refine step_go (by rfl) 40 _ _ (by rfl) (fun _ _ => by kernel_rfl) _ (by rfl) (N1.out _ B1) ?_
      rintro e w6 ⟨rfl, b6⟩
      refine ⟨_, rfl, ?_⟩
      have B2 := B1.trans (b6.mono B1.size)
      refine hK.out _ _ (B2) (fun hHeld => ?_)
      clear hK K
      try simp only [Act.put, List.setIfInBounds_toArray, List.set_cons_zero, List.set_cons_succ]
      refine wpAnyH_ready (rs := [11]) (by kernel_rfl) (by simp) ?_
      refine AllReadyH.cons (o := ⟨some 20, _, _, _, _, _⟩) rfl (fun K hK => ?_) AllReadyH.nil
      refine step_go (by rfl) 59 _ _ (by rfl) (fun _ _ => by kernel_rfl) _ (by rfl) (CR.out _) ?_
      rintro e w7 ⟨rfl, b7⟩
      refine ⟨_, rfl, ?_⟩
      have B3 := B2.trans (b7.mono B2.size)
      refine hK.out _ _ (B3) (fun hHeld => ?_)
      clear hK K
      try simp only [Act.put, List.setIfInBounds_toArray, List.set_cons_zero, List.set_cons_succ]
      refine wpAnyH_take (i := 12) (oi := ⟨some 21, _, _, _, _, _⟩) (v := ?qv12ar) rfl (by kernel_rfl) (by kernel_rfl) (by kernel_rfl) (fun _ _ _ h => h) (Or.inl ⟨by rfl, ?qy12ar⟩) hHeld ?qr12ar
      case qy12ar => (intro w' hSw; have e9 := HW.out; go_simp; try with_reducible rfl)
      try simp only [Act.put, List.setIfInBounds_toArray, List.set_cons_zero, List.set_cons_succ]
      refine wpAnyH_take (i := 13) (oi := ⟨some 2, _, _, _, _, _⟩) (v := ?qv13ar) rfl (by kernel_rfl) (by kernel_rfl) (by kernel_rfl) (fun _ _ _ h => h) (Or.inl ⟨by rfl, ?qy13ar⟩) hHeld ?qr13ar
      case qy13ar => (intro w' hSw; have e9 := HW.out; go_simp; try with_reducible rfl)
      try simp only [Act.put, List.setIfInBounds_toArray, List.set_cons_zero, List.set_cons_succ]
      refine wpAnyH_done (by kernel_rfl) ?_ _
      refine NoPanic.normal ?_
      have hb2 := hb.trans (B3.mono hb.size)
      go_wp2_with fail
      go_roundw
      case rel => exact ⟨k + 1, by omega, by go_num, by rw [HZ.out], hb2⟩
      case measure => simp [intOf]; omega
    · obtain rfl : k = l.length := by omega
      have t1 : decide ((l.length : Int) < (l.length : Int)) = false := by simp
      go_wp2_with fail
      go_ret
      exact ⟨rfl, hb⟩
end Go.Proofs.YtpmngdgifdkohaaDoor
