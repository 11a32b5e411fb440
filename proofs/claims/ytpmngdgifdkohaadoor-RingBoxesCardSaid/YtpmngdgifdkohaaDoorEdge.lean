/- ring.edge, Edge, Left. (printed by wip/gen_edge.py) -/
import Derived.Test.YtpmngdgifdkohaaDoorArea
namespace Go.Proofs.YtpmngdgifdkohaaDoor
open Go.RowKit

/-- is p on the i-th edge? -/
def edgeAt (l : List Pt) (p : Pt) (i : Nat) : Bool := onB (pt l i) (pt l ((i + 1) % l.length)) p
def edgeB (l : List Pt) (p : Pt) : Bool := anyB (edgeAt l p) l.length
theorem ringEr_some {l : List Pt} (h : ringEr l ≠ .none) : ∃ i k, ringEr l = .fault strRing i (.num k) := by
  rw [ringEr_res] at h ⊢
  unfold Er.ofRes at h ⊢
  split at h
  · exact absurd rfl h
  · rename_i hn
    rw [if_neg hn]
    exact ⟨_, _, rfl⟩
/-- may the ring be? -/
def ringOk (l : List Pt) : Bool := match ringEr l with
  | .none => true
  | _ => false
theorem ringOk_yes {l : List Pt} (h : ringEr l = .none) : ringOk l = true := by unfold ringOk; rw [h]
theorem ringOk_no {l : List Pt} (h : ¬ ringEr l = .none) : ringOk l = false := by
  unfold ringOk
  cases hr : ringEr l with
  | none => exact absurd hr h
  | num k => rfl
  | fault a b c => rfl
theorem ringEr_ok {l : List Pt} (h : ringEr l = .none) : allP l = true ∧ 3 ≤ l.length ∧ l.length ≤ 64 := by
  unfold ringEr at h
  split at h
  · cases h
  · rename_i hn
    split at h
    · cases h
    · rename_i h1
      refine ⟨?_, by omega, by omega⟩
      unfold allP
      rw [List.all_eq_true]
      intro p hp
      obtain ⟨i, hi, rfl⟩ := List.getElem_of_mem hp
      unfold first at h1
      rw [List.find?_range_eq_none] at h1
      have := h1 i hi
      rw [pt_get l i hi] at this
      simpa using this

set_option maxRecDepth 100000 in
set_option maxHeartbeats 1000000 in
theorem edge_any (v : Value) (l : List (Int × Int)) (px py : Int) (w : World) (hv : Pts w v l) :
    Calls Tryd.prog 39 #[v, .agg #[.int .i64 px, .int .i64 py]] w fun e w' => e = .returned (.bool (edgeB l (px, py))) ∧ Below w.heap.size w w' := by
  have hv0 := hv
  obtain ⟨ao, c, rfl, h1, h2, h0, h3'⟩ := hv.open
  unfold maxLen at h2
  have B0 : Below w.heap.size w (w.alloc (.cells #[.int .i64 px, .int .i64 py] 24)) := (Below.refl _ _).alloc (Nat.le_refl _) _
  have P0 := Lib.hid (pair_alloc w px py 24 w.heap.size rfl)
  have VB := Lib.hid (show ∀ w', Below w.heap.size w w' → Pts w' _ l from fun w' hb => hv0.below hb)
  have B0s : w.heap.size < (w.alloc (.cells #[.int .i64 px, .int .i64 py] 24)).heap.size := by simp
  have H0 := Lib.hid (show ∀ i (h : i < l.length), ∃ b off, ao = some ⟨b, off, none⟩ ∧ b < w.heap.size ∧ w.cell? ⟨b, off + i * 2, none⟩ = some (.int .i64 (pt l i).1) ∧ w.cell? ⟨b, off + i * 2 + 1, none⟩ = some (.int .i64 (pt l i).2) from fun i h => by rw [pt_get l i h]; exact h3' i h)
  clear h0 h3' hv hv0
  generalize hW : w.alloc (.cells #[.int .i64 px, .int .i64 py] 24) = W at B0 P0 B0s
  go_enter Tryd.func39, Tryd.ntmps39
  go_wp2_with fail
  go_loopw [8] (fun i wr => ∃ k : Nat, k ≤ l.length ∧ i = .int .i64 k ∧ Hid (∀ j, j < k → edgeAt l (px, py) j = false) ∧ Below W.heap.size W wr) (fun i _ => l.length - (intOf i).toNat)
  case atStart => exact ⟨0, Nat.zero_le _, rfl, Lib.hid (fun j hj => absurd hj (Nat.not_lt_zero _)), Below.refl _ _⟩
  case round =>
    obtain ⟨k, hk, rfl, he, hb⟩ := hrel
    clear hW
    by_cases hlt : k < l.length
    · have t1 : decide ((k : Int) < (l.length : Int)) = true := by simp; omega
      obtain ⟨g, off, rfl, hg, hx, hy⟩ := H0.out k hlt
      have hb0 := B0.trans (hb.mono B0.size)
      have XS := Lib.hid (show ∀ w', Below wr.heap.size wr w' → w'.cell? ⟨g, off + k * 2, none⟩ = some (.int .i64 (pt l k).1) ∧ w'.cell? ⟨g, off + k * 2 + 1, none⟩ = some (.int .i64 (pt l k).2) ∧ w'.cell? ⟨w.heap.size, 0, none⟩ = some (.int .i64 px) ∧ w'.cell? ⟨w.heap.size, 1, none⟩ = some (.int .i64 py) from fun w' h => by
        have h' := hb0.trans (h.mono hb0.size)
        have h'' := hb.trans (h.mono hb.size)
        exact ⟨(h'.cell (p := ⟨g, off + k * 2, none⟩) hg).trans hx, (h'.cell (p := ⟨g, off + k * 2 + 1, none⟩) hg).trans hy, (P0.out.below h'').c0, (P0.out.below h'').c1⟩)
      have N1 := Lib.hid (show ∀ w', Below wr.heap.size wr w' → _ from fun w' h => next_any _ l k w' (VB.out _ (hb0.trans (h.mono hb0.size))) hlt)
      have HE := Lib.hid (show edgeAt l (px, py) k = onB (pt l k) (pt l ((k + 1) % l.length)) (px, py) from rfl)
      clear hx hy
      generalize pt l k = pb at *
      generalize pt l ((k + 1) % l.length) = pc at *
      obtain ⟨bx, bz⟩ := pb
      obtain ⟨cx, cy⟩ := pc
      simp only at XS N1
      have CR := Lib.hid (fun w => On_any bx bz cx cy px py w)
      have i0 : (0 : Int) ≤ (k : Int) := by omega
      have i1 : (k : Int) < (l.length : Int) := by omega
      cases hq : onB (bx, bz) (cx, cy) (px, py) with
      | true =>
        rw [hq] at CR HE
        have HF := Lib.hid (show edgeB l (px, py) = true from anyB_true hlt HE.out)
        clear hq HE he
        go_wp2_with fail
        refine wp_region_noPanic ?_
        refine wp_region_held_drew (S := fun w' => Below wr.heap.size wr w') (by kernel_rfl) (Below.refl _ _).drew (fun hHeld => ?_)
        generalize wr.drew = D at hHeld ⊢
        have B1 : Below wr.heap.size wr D := hHeld
        refine wpAnyH_take (i := 0) (oi := ⟨some 11, _, _, _, _, _⟩) (v := ?qv0ea) rfl (by kernel_rfl) (by kernel_rfl) (by kernel_rfl) (fun _ _ _ h => h) (Or.inl ⟨by rfl, ?qy0ea⟩) hHeld ?qr0ea
        case qy0ea => (intro w' hSw; go_simp; try with_reducible rfl)
        try simp only [Act.put, List.setIfInBounds_toArray, List.set_cons_zero, List.set_cons_succ]
        refine wpAnyH_take (i := 1) (oi := ⟨some 12, _, _, _, _, _⟩) (v := ?qv1ea) rfl (by kernel_rfl) (by kernel_rfl) (by kernel_rfl) (fun _ _ _ h => h) (Or.inl ⟨by rfl, ?qy1ea⟩) hHeld ?qr1ea
        case qy1ea => (intro w' hSw; go_simp; try with_reducible rfl)
        try simp only [Act.put, List.setIfInBounds_toArray, List.set_cons_zero, List.set_cons_succ]
        refine wpAnyH_take (i := 2) (oi := ⟨some 13, _, _, _, _, _⟩) (v := ?qv2ea) rfl (by kernel_rfl) (by kernel_rfl) (by kernel_rfl) (fun _ _ _ h => h) (Or.inl ⟨by rfl, ?qy2ea⟩) hHeld ?qr2ea
        case qy2ea => (intro w' hSw; go_simp; try with_reducible rfl)
        try simp only [Act.put, List.setIfInBounds_toArray, List.set_cons_zero, List.set_cons_succ]
        refine wpAnyH_take (i := 3) (oi := ⟨some 14, _, _, _, _, _⟩) (v := ?qv3ea) rfl (by kernel_rfl) (by kernel_rfl) (by kernel_rfl) (fun _ _ _ h => h) (Or.inl ⟨by rfl, ?qy3ea⟩) hHeld ?qr3ea
        case qy3ea => (intro w' hSw; obtain ⟨z0, z1, z2, z3⟩ := XS.out w' hSw; go_simp; try with_reducible rfl)
        try simp only [Act.put, List.setIfInBounds_toArray, List.set_cons_zero, List.set_cons_succ]
        refine wpAnyH_take (i := 4) (oi := ⟨some 15, _, _, _, _, _⟩) (v := ?qv4ea) rfl (by kernel_rfl) (by kernel_rfl) (by kernel_rfl) (fun _ _ _ h => h) (Or.inl ⟨by rfl, ?qy4ea⟩) hHeld ?qr4ea
        case qy4ea => (intro w' hSw; go_simp; try with_reducible rfl)
        try simp only [Act.put, List.setIfInBounds_toArray, List.set_cons_zero, List.set_cons_succ]
        refine wpAnyH_take (i := 5) (oi := ⟨some 16, _, _, _, _, _⟩) (v := ?qv5ea) rfl (by kernel_rfl) (by kernel_rfl) (by kernel_rfl) (fun _ _ _ h => h) (Or.inl ⟨by rfl, ?qy5ea⟩) hHeld ?qr5ea
        case qy5ea => (intro w' hSw; go_simp; try with_reducible rfl)
        try simp only [Act.put, List.setIfInBounds_toArray, List.set_cons_zero, List.set_cons_succ]
        refine wpAnyH_take (i := 7) (oi := ⟨some 18, _, _, _, _, _⟩) (v := ?qv7ea) rfl (by kernel_rfl) (by kernel_rfl) (by kernel_rfl) (fun _ _ _ h => h) (Or.inl ⟨by rfl, ?qy7ea⟩) hHeld ?qr7ea
        case qy7ea => (intro w' hSw; obtain ⟨z0, z1, z2, z3⟩ := XS.out w' hSw; go_simp; try with_reducible rfl)
        try simp only [Act.put, List.setIfInBounds_toArray, List.set_cons_zero, List.set_cons_succ]
        refine wpAnyH_ready (rs := [6]) (by kernel_rfl) (by simp) ?_
        refine AllReadyH.cons (o := ⟨some 17, _, _, _, _, _⟩) rfl (fun K hK => ?_) AllReadyH.nil
        refine step_go (by rfl) 40 _ _ (by rfl) (fun _ _ => by kernel_rfl) _ (by rfl) (N1.out _ B1) ?_
        rintro e w6 ⟨rfl, b6⟩
        refine ⟨_, rfl, ?_⟩
        have B2 := B1.trans (b6.mono B1.size)
        refine hK.out _ _ (B2) (fun hHeld => ?_)
        clear hK K
        try simp only [Act.put, List.setIfInBounds_toArray, List.set_cons_zero, List.set_cons_succ]
        refine wpAnyH_ready (rs := [8]) (by kernel_rfl) (by simp) ?_
        refine AllReadyH.cons (o := ⟨some 19, _, _, _, _, _⟩) rfl (fun K hK => ?_) AllReadyH.nil
        refine step_go (by rfl) 56 _ _ (by rfl) (fun _ _ => by kernel_rfl) _ (by rfl) (CR.out _) ?_
        rintro e w7 ⟨rfl, b7⟩
        refine ⟨_, rfl, ?_⟩
        have B3 := B2.trans (b7.mono B2.size)
        refine hK.out _ _ (B3) (fun hHeld => ?_)
        clear hK K
        try simp only [Act.put, List.setIfInBounds_toArray, List.set_cons_zero, List.set_cons_succ]
        refine wpAnyH_done (by kernel_rfl) ?_ _
        refine NoPanic.normal ?_
        have hb2 := hb0.trans (B3.mono hb0.size)
        go_wp2_with fail
        go_ret
        exact ⟨by rw [HF.out]; rfl, hb2⟩
      | false =>
        rw [hq] at CR HE
        have HF := Lib.hid (show ∀ j, j < k + 1 → edgeAt l (px, py) j = false from fun j h' => by
          rcases Nat.lt_succ_iff_lt_or_eq.1 h' with h' | h'
          · exact he.out j h'
          · rw [h', HE.out])
        clear hq HE he
        go_wp2_with fail
        refine wp_region_noPanic ?_
        refine wp_region_held_drew (S := fun w' => Below wr.heap.size wr w') (by kernel_rfl) (Below.refl _ _).drew (fun hHeld => ?_)
        generalize wr.drew = D at hHeld ⊢
        have B1 : Below wr.heap.size wr D := hHeld
        refine wpAnyH_take (i := 0) (oi := ⟨some 11, _, _, _, _, _⟩) (v := ?qv0eb) rfl (by kernel_rfl) (by kernel_rfl) (by kernel_rfl) (fun _ _ _ h => h) (Or.inl ⟨by rfl, ?qy0eb⟩) hHeld ?qr0eb
        case qy0eb => (intro w' hSw; go_simp; try with_reducible rfl)
        try simp only [Act.put, List.setIfInBounds_toArray, List.set_cons_zero, List.set_cons_succ]
        refine wpAnyH_take (i := 1) (oi := ⟨some 12, _, _, _, _, _⟩) (v := ?qv1eb) rfl (by kernel_rfl) (by kernel_rfl) (by kernel_rfl) (fun _ _ _ h => h) (Or.inl ⟨by rfl, ?qy1eb⟩) hHeld ?qr1eb
        case qy1eb => (intro w' hSw; go_simp; try with_reducible rfl)
        try simp only [Act.put, List.setIfInBounds_toArray, List.set_cons_zero, List.set_cons_succ]
        refine wpAnyH_take (i := 2) (oi := ⟨some 13, _, _, _, _, _⟩) (v := ?qv2eb) rfl (by kernel_rfl) (by kernel_rfl) (by kernel_rfl) (fun _ _ _ h => h) (Or.inl ⟨by rfl, ?qy2eb⟩) hHeld ?qr2eb
        case qy2eb => (intro w' hSw; go_simp; try with_reducible rfl)
        try simp only [Act.put, List.setIfInBounds_toArray, List.set_cons_zero, List.set_cons_succ]
        refine wpAnyH_take (i := 3) (oi := ⟨some 14, _, _, _, _, _⟩) (v := ?qv3eb) rfl (by kernel_rfl) (by kernel_rfl) (by kernel_rfl) (fun _ _ _ h => h) (Or.inl ⟨by rfl, ?qy3eb⟩) hHeld ?qr3eb
        case qy3eb => (intro w' hSw; obtain ⟨z0, z1, z2, z3⟩ := XS.out w' hSw; go_simp; try with_reducible rfl)
        try simp only [Act.put, List.setIfInBounds_toArray, List.set_cons_zero, List.set_cons_succ]
        refine wpAnyH_take (i := 4) (oi := ⟨some 15, _, _, _, _, _⟩) (v := ?qv4eb) rfl (by kernel_rfl) (by kernel_rfl) (by kernel_rfl) (fun _ _ _ h => h) (Or.inl ⟨by rfl, ?qy4eb⟩) hHeld ?qr4eb
        case qy4eb => (intro w' hSw; go_simp; try with_reducible rfl)
        try simp only [Act.put, List.setIfInBounds_toArray, List.set_cons_zero, List.set_cons_succ]
        refine wpAnyH_take (i := 5) (oi := ⟨some 16, _, _, _, _, _⟩) (v := ?qv5eb) rfl (by kernel_rfl) (by kernel_rfl) (by kernel_rfl) (fun _ _ _ h => h) (Or.inl ⟨by rfl, ?qy5eb⟩) hHeld ?qr5eb
        case qy5eb => (intro w' hSw; go_simp; try with_reducible rfl)
        try simp only [Act.put, List.setIfInBounds_toArray, List.set_cons_zero, List.set_cons_succ]
        refine wpAnyH_take (i := 7) (oi := ⟨some 18, _, _, _, _, _⟩) (v := ?qv7eb) rfl (by kernel_rfl) (by kernel_rfl) (by kernel_rfl) (fun _ _ _ h => h) (Or.inl ⟨by rfl, ?qy7eb⟩) hHeld ?qr7eb
        case qy7eb => (intro w' hSw; obtain ⟨z0, z1, z2, z3⟩ := XS.out w' hSw; go_simp; try with_reducible rfl)
        try simp only [Act.put, List.setIfInBounds_toArray, List.set_cons_zero, List.set_cons_succ]
        refine wpAnyH_ready (rs := [6]) (by kernel_rfl) (by simp) ?_
        refine AllReadyH.cons (o := ⟨some 17, _, _, _, _, _⟩) rfl (fun K hK => ?_) AllReadyH.nil
        refine step_go (by rfl) 40 _ _ (by rfl) (fun _ _ => by kernel_rfl) _ (by rfl) (N1.out _ B1) ?_
        rintro e w6 ⟨rfl, b6⟩
        refine ⟨_, rfl, ?_⟩
        have B2 := B1.trans (b6.mono B1.size)
        refine hK.out _ _ (B2) (fun hHeld => ?_)
        clear hK K
        try simp only [Act.put, List.setIfInBounds_toArray, List.set_cons_zero, List.set_cons_succ]
        refine wpAnyH_ready (rs := [8]) (by kernel_rfl) (by simp) ?_
        refine AllReadyH.cons (o := ⟨some 19, _, _, _, _, _⟩) rfl (fun K hK => ?_) AllReadyH.nil
        refine step_go (by rfl) 56 _ _ (by rfl) (fun _ _ => by kernel_rfl) _ (by rfl) (CR.out _) ?_
        rintro e w7 ⟨rfl, b7⟩
        refine ⟨_, rfl, ?_⟩
        have B3 := B2.trans (b7.mono B2.size)
        refine hK.out _ _ (B3) (fun hHeld => ?_)
        clear hK K
        try simp only [Act.put, List.setIfInBounds_toArray, List.set_cons_zero, List.set_cons_succ]
        refine wpAnyH_done (by kernel_rfl) ?_ _
        refine NoPanic.normal ?_
        have hb2 := hb.trans (B3.mono hb.size)
        go_wp2_with fail
        go_roundw
        case rel => exact ⟨k + 1, by omega, by go_num, HF, hb2⟩
        case measure => simp [intOf]; omega
    · have t1 : decide ((k : Int) < (l.length : Int)) = false := by simp; omega
      have HF := Lib.hid (show edgeB l (px, py) = false from anyB_false fun i hi => he.out i (by omega))
      have hb0 := B0.trans (hb.mono B0.size)
      clear he
      go_wp2_with fail
      go_ret
      exact ⟨by rw [HF.out]; rfl, hb0⟩

/-- is a point on a ring's edge? -/
def edgeE (l : List Pt) (p : Pt) : Bool := ringOk l && edgeB l p
def leftE (l : List Pt) : Bool := ringOk l && decide (0 < areaV l)

theorem Left_any (v : Value) (l : List (Int × Int)) (w : World) (hv : Pts w v l) :
    Calls Tryd.prog 16 #[v] w fun e w' => e = .returned (.bool (leftE l)) ∧ Below w.heap.size w w' := by
  have C := Lib.hid (Check_any v l w hv)
  by_cases h : ringEr l = .none
  · rw [h] at C
    obtain ⟨h1, h2, h3⟩ := ringEr_ok h
    have A := Lib.hid (show ∀ w', Below w.heap.size w w' → _ from fun w' hb => area_ok v l w' (hv.below hb) h1 h2 h3)
    have HR := Lib.hid (show leftE l = decide (0 < areaV l) by unfold leftE; rw [ringOk_yes h]; rfl)
    generalize areaV l = s at *
    clear h h1 h2 h3 hv
    go_enter Tryd.func16, Tryd.ntmps16
    go_wp2_with fail
    refine C.out.mono ?_
    rintro e w1 ⟨u, rfl, rfl, b1⟩
    go_wp2_with fail
    refine (A.out _ b1).mono ?_
    rintro e w2 ⟨rfl, b2⟩
    go_wp2_with fail
    go_ret
    exact ⟨by rw [HR.out]; rfl, b1.trans (b2.mono b1.size)⟩
  · obtain ⟨i, k, hr⟩ := ringEr_some h
    rw [hr] at C
    have HR := Lib.hid (show leftE l = false by unfold leftE; rw [ringOk_no h]; rfl)
    clear h hr hv
    go_enter Tryd.func16, Tryd.ntmps16
    go_wp2_with fail
    refine C.out.mono ?_
    rintro e w1 ⟨u, rfl, hu, b1⟩
    obtain ⟨bu, uu, rfl, _⟩ := hu
    go_wp2_with fail
    go_ret
    exact ⟨by rw [HR.out]; rfl, b1⟩

theorem Edge_any (v : Value) (l : List (Int × Int)) (px py : Int) (w : World) (hv : Pts w v l) :
    Calls Tryd.prog 32 #[v, .agg #[.int .i64 px, .int .i64 py]] w fun e w' => e = .returned (.bool (edgeE l (px, py))) ∧ Below w.heap.size w w' := by
  have B0 : Below w.heap.size w (w.alloc (.cells #[.int .i64 px, .int .i64 py] 24)) := (Below.refl _ _).alloc (Nat.le_refl _) _
  have P0 := Lib.hid (pair_alloc w px py 24 w.heap.size rfl)
  have C := Lib.hid (Check_any v l _ (hv.below B0))
  by_cases h : ringEr l = .none
  · rw [h] at C
    have A := Lib.hid (show ∀ w', Below w.heap.size w w' → _ from fun w' hb => edge_any v l px py w' (hv.below hb))
    have HR := Lib.hid (show edgeE l (px, py) = edgeB l (px, py) by unfold edgeE; rw [ringOk_yes h]; rfl)
    generalize edgeB l (px, py) = s at *
    clear h hv
    go_enter Tryd.func32, Tryd.ntmps32
    go_wp2_with fail
    refine C.out.mono ?_
    rintro e w1 ⟨u, rfl, rfl, b1⟩
    have B1 := B0.trans (b1.mono B0.size)
    obtain ⟨y0, y1⟩ := P0.out.below b1
    go_wp2_with fail
    refine (A.out _ B1).mono ?_
    rintro e w2 ⟨rfl, b2⟩
    go_wp2_with fail
    go_ret
    exact ⟨by rw [HR.out]; rfl, B1.trans (b2.mono B1.size)⟩
  · obtain ⟨i, k, hr⟩ := ringEr_some h
    rw [hr] at C
    have HR := Lib.hid (show edgeE l (px, py) = false by unfold edgeE; rw [ringOk_no h]; rfl)
    clear h hr hv
    go_enter Tryd.func32, Tryd.ntmps32
    go_wp2_with fail
    refine C.out.mono ?_
    rintro e w1 ⟨u, rfl, hu, b1⟩
    obtain ⟨bu, uu, rfl, _⟩ := hu
    go_wp2_with fail
    go_ret
    exact ⟨by rw [HR.out]; rfl, B0.trans (b1.mono B0.size)⟩
end Go.Proofs.YtpmngdgifdkohaaDoor
