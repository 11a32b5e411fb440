/- slices.symMergeCmpFunc at items with keys: one item behind a sorted row. -/
import Derived.Test.YtoggbmfjjenbaaaGreatDoorTw5
set_option linter.unusedSimpArgs false
set_option linter.unusedVariables false
namespace Go.Proofs.YtoggbmfjjenbaaaGreatDoor
open Go.RowKit

set_option maxRecDepth 100000 in
set_option maxHeartbeats 4000000 in
theorem sym_right (A L C : List Rk) (x : Rk) (w : World) (B g cap n a m b : Nat) (ha : A.length = a) (hm : a + L.length = m) (hb : m + 1 = b) (h2 : 2 ≤ L.length) (hn : n = (A ++ (L ++ [x]) ++ C).length) (h : RowO w B g cap (vals (A ++ (L ++ [x]) ++ C)))
    (hsx : IsSl x.1.2) (hsL : AllSl L) (hL : Srt L) (hrk : ∀ y ∈ L, y.2 < x.2) (hn2 : n ≤ 1000000) :
    Calls Tryz.prog 66 #[.slice (some ⟨g, 0, none⟩) n cap, .int .i64 a, .int .i64 m, .int .i64 b, cmpV] w (SymRet B g cap n A L [x] C w) := by
  have hlen : b + C.length = n := by rw [hn]; simp; omega
  have FIN := Lib.hid (show ∀ k w', k ≤ L.length → (∀ y, 0 < k → L[k - 1]? = some y → ltK x.1.1 y.1.1 = false) → (∀ y, L[k]? = some y → ltK x.1.1 y.1.1 = true) → RowO w' B g cap (vals (A ++ (L.take k ++ x :: L.drop k) ++ C)) → OnlG g w w' → ∃ M, M.Perm (L ++ [x]) ∧ Srt M ∧ RowO w' B g cap (vals (A ++ M ++ C)) ∧ OnlG g w w' from fun k w' a1 a2 a3 a4 a5 =>
    ⟨L.take k ++ x :: L.drop k, by
      have e := List.perm_middle (a := x) (l₁ := L.take k) (l₂ := L.drop k)
      rw [List.take_append_drop] at e
      exact e.trans (List.perm_append_singleton x L).symm, sym_back a1 hL hrk a2 a3, a4, a5⟩)
  have HW := Lib.hid h
  have HA := Lib.hid ha
  have HN := Lib.hid hn
  have HSL := Lib.hid hsL
  have q0 : ((m : Int) - (a : Int) == 1) = false := by simp; omega
  have q01 : (b : Int) - (m : Int) = 1 := by omega
  have hmL := Lib.hid hm
  have ham : a + 2 ≤ m := by omega
  clear ha hn h hsL hL hrk
  unfold cmpV SymRet
  go_enter Tryz.func66, Tryz.ntmps66
  clear hm
  go_wp2_with fail
  go_loopw [14, 15] (fun i j wr => ∃ (I J u v : Nat), I = a + u ∧ J = a + v ∧ u ≤ v ∧ v ≤ L.length ∧ i = .int .i64 I ∧ j = .int .i64 J ∧ (∀ y, 0 < u → L[u - 1]? = some y → ltK x.1.1 y.1.1 = false) ∧ (∀ y, L[v]? = some y → ltK x.1.1 y.1.1 = true) ∧ RowO wr B g cap (vals (A ++ (L ++ [x]) ++ C)) ∧ OnlG g w wr) (fun i j _ => (intOf j).toNat - (intOf i).toNat)
  case atStart => exact ⟨a, m, 0, L.length, rfl, hmL.out.symm, Nat.zero_le _, Nat.le_refl _, rfl, rfl, fun y h => (by omega), fun y hy => (by simp at hy), HW.out, OnlG.refl _ _⟩
  case round =>
    obtain ⟨I, J, u, v, hI, hJ, huv, hvl, rfl, rfl, h1, h2', hr, ho⟩ := hrel
    have hgl := hr.lt
    have hbb := Lib.hid hmL.out
    by_cases hlt : I < J
    · have t1 : decide ((I : Int) < (J : Int)) = true := by simp; omega
      have hbb' := hbb.out
      obtain ⟨H, hH⟩ : ∃ H, H = (I + J) / 2 := ⟨_, rfl⟩
      obtain ⟨k, hk⟩ : ∃ k, H = a + k := ⟨H - a, by omega⟩
      have q1 : ((I : Int) + (J : Int)) / 2 = (H : Int) := by omega
      have wH : IntKind.i64.wrap (H : Int) = (H : Int) := IntWalk.i64_in _ (by omega)
      have hkR : k < L.length := by omega
      have hy : L[k]? = some L[k] := List.getElem?_eq_getElem hkR
      have hsy := HSL.out _ (List.getElem_mem hkR)
      generalize L[k] = y at *
      have gx : (vals (A ++ (L ++ [x]) ++ C))[m]? = some x.1 := by
        have := vals_at (A := A) (L := L ++ [x]) (C := C) (k := L.length) (y := x) (by simp)
        rwa [HA.out, hbb'] at this
      have gy : (vals (A ++ (L ++ [x]) ++ C))[H]? = some y.1 := by
        have := vals_at (A := A) (L := L ++ [x]) (C := C) (k := k) (y := y) (by rw [List.getElem?_append_left hkR]; exact hy)
        rwa [HA.out, ← hk] at this
      obtain ⟨x0, x1, x2, x3⟩ := hr.cells gx
      obtain ⟨y0, y1, y2, y3⟩ := hr.cells gy
      have CM := Lib.hid (fun w => cmp_any x.1 y.1 w hsx hsy)
      have HR := Lib.hid hr
      have HO := Lib.hid ho
      have HY := Lib.hid hy
      have H1 := Lib.hid h1
      have H2 := Lib.hid h2'
      have i1 : (H : Int) < (n : Int) := by omega
      have i2 : (m : Int) < (n : Int) := by omega
      have hHI : I ≤ H ∧ H < J := by omega
      have HI := Lib.hid hI
      have HJ := Lib.hid hJ
      have HKK := Lib.hid hk
      clear hr ho gx gy h1 h2' hy hH hI hJ hk hbb'
      go_wp2_with fail
      cases hc : ltK x.1.1 y.1.1 with
      | false =>
        have hc' := hc
        rw [← cmpK_neg] at hc'
        refine wp_region_noPanic ?_
        refine wp_region_held_drew (S := fun w' => Below wr.heap.size wr w') (by kernel_rfl) (Below.refl _ _).drew (fun hHeld => ?_)
        generalize wr.drew = D at hHeld ⊢
        have kb : Below wr.heap.size wr D := hHeld
        refine wpAnyH_take (i := 0) (oi := ⟨some 92, _, _, _, _, _⟩) (v := ?qv0ra) rfl (by kernel_rfl) (by kernel_rfl) (by kernel_rfl) (fun _ _ _ h => h) (Or.inl ⟨by rfl, ?qy0ra⟩) hHeld ?qr0ra
        case qy0ra => (intro w' hSw; go_simp; try with_reducible rfl)
        try simp only [Act.put, List.setIfInBounds_toArray, List.set_cons_zero, List.set_cons_succ]
        refine wpAnyH_take (i := 1) (oi := ⟨some 93, _, _, _, _, _⟩) (v := ?qv1ra) rfl (by kernel_rfl) (by kernel_rfl) (by kernel_rfl) (fun _ _ _ h => h) (Or.inl ⟨by rfl, ?qy1ra⟩) hHeld ?qr1ra
        case qy1ra => (intro w' hSw; go_simp; try with_reducible rfl)
        try simp only [Act.put, List.setIfInBounds_toArray, List.set_cons_zero, List.set_cons_succ]
        refine wpAnyH_take (i := 2) (oi := ⟨some 94, _, _, _, _, _⟩) (v := ?qv2ra) rfl (by kernel_rfl) (by kernel_rfl) (by kernel_rfl) (fun _ _ _ h => h) (Or.inl ⟨by rfl, ?qy2ra⟩) hHeld ?qr2ra
        case qy2ra => (intro w' hSw; go_simp; try with_reducible rfl)
        try simp only [Act.put, List.setIfInBounds_toArray, List.set_cons_zero, List.set_cons_succ]
        refine wpAnyH_take (i := 3) (oi := ⟨some 95, _, _, _, _, _⟩) (v := ?qv3ra) rfl (by kernel_rfl) (by kernel_rfl) (by kernel_rfl) (fun _ _ _ h => h) (Or.inl ⟨by rfl, ?qy3ra⟩) hHeld ?qr3ra
        case qy3ra => (intro w' hSw; go_simp; try with_reducible rfl)
        try simp only [Act.put, List.setIfInBounds_toArray, List.set_cons_zero, List.set_cons_succ]
        refine wpAnyH_take (i := 4) (oi := ⟨some 96, _, _, _, _, _⟩) (v := ?qv4ra) rfl (by kernel_rfl) (by kernel_rfl) (by kernel_rfl) (fun _ _ _ h => h) (Or.inl ⟨by rfl, ?qy4ra⟩) hHeld ?qr4ra
        case qy4ra => (intro w' hSw; have px0 := (hSw.cell (p := ⟨g, m * 4, none⟩) hgl.2).trans x0; have px1 := (hSw.cell (p := ⟨g, m * 4 + 1, none⟩) hgl.2).trans x1; have px2 := (hSw.cell (p := ⟨g, m * 4 + 2, none⟩) hgl.2).trans x2; have px3 := (hSw.cell (p := ⟨g, m * 4 + 3, none⟩) hgl.2).trans x3; have py0 := (hSw.cell (p := ⟨g, H * 4, none⟩) hgl.2).trans y0; have py1 := (hSw.cell (p := ⟨g, H * 4 + 1, none⟩) hgl.2).trans y1; have py2 := (hSw.cell (p := ⟨g, H * 4 + 2, none⟩) hgl.2).trans y2; have py3 := (hSw.cell (p := ⟨g, H * 4 + 3, none⟩) hgl.2).trans y3; go_simp; try with_reducible rfl)
        try simp only [Act.put, List.setIfInBounds_toArray, List.set_cons_zero, List.set_cons_succ]
        refine wpAnyH_take (i := 5) (oi := ⟨some 97, _, _, _, _, _⟩) (v := ?qv5ra) rfl (by kernel_rfl) (by kernel_rfl) (by kernel_rfl) (fun _ _ _ h => h) (Or.inl ⟨by rfl, ?qy5ra⟩) hHeld ?qr5ra
        case qy5ra => (intro w' hSw; go_simp; try with_reducible rfl)
        try simp only [Act.put, List.setIfInBounds_toArray, List.set_cons_zero, List.set_cons_succ]
        refine wpAnyH_take (i := 6) (oi := ⟨some 98, _, _, _, _, _⟩) (v := ?qv6ra) rfl (by kernel_rfl) (by kernel_rfl) (by kernel_rfl) (fun _ _ _ h => h) (Or.inl ⟨by rfl, ?qy6ra⟩) hHeld ?qr6ra
        case qy6ra => (intro w' hSw; go_simp; try with_reducible rfl)
        try simp only [Act.put, List.setIfInBounds_toArray, List.set_cons_zero, List.set_cons_succ]
        refine wpAnyH_take (i := 7) (oi := ⟨some 99, _, _, _, _, _⟩) (v := ?qv7ra) rfl (by kernel_rfl) (by kernel_rfl) (by kernel_rfl) (fun _ _ _ h => h) (Or.inl ⟨by rfl, ?qy7ra⟩) hHeld ?qr7ra
        case qy7ra => (intro w' hSw; go_simp; try with_reducible rfl)
        try simp only [Act.put, List.setIfInBounds_toArray, List.set_cons_zero, List.set_cons_succ]
        refine wpAnyH_take (i := 8) (oi := ⟨some 100, _, _, _, _, _⟩) (v := ?qv8ra) rfl (by kernel_rfl) (by kernel_rfl) (by kernel_rfl) (fun _ _ _ h => h) (Or.inl ⟨by rfl, ?qy8ra⟩) hHeld ?qr8ra
        case qy8ra => (intro w' hSw; have px0 := (hSw.cell (p := ⟨g, m * 4, none⟩) hgl.2).trans x0; have px1 := (hSw.cell (p := ⟨g, m * 4 + 1, none⟩) hgl.2).trans x1; have px2 := (hSw.cell (p := ⟨g, m * 4 + 2, none⟩) hgl.2).trans x2; have px3 := (hSw.cell (p := ⟨g, m * 4 + 3, none⟩) hgl.2).trans x3; have py0 := (hSw.cell (p := ⟨g, H * 4, none⟩) hgl.2).trans y0; have py1 := (hSw.cell (p := ⟨g, H * 4 + 1, none⟩) hgl.2).trans y1; have py2 := (hSw.cell (p := ⟨g, H * 4 + 2, none⟩) hgl.2).trans y2; have py3 := (hSw.cell (p := ⟨g, H * 4 + 3, none⟩) hgl.2).trans y3; go_simp; try with_reducible rfl)
        try simp only [Act.put, List.setIfInBounds_toArray, List.set_cons_zero, List.set_cons_succ]
        refine wpAnyH_ready (rs := [9]) (by kernel_rfl) (by simp) ?_
        refine AllReadyH.cons (o := ⟨some 101, _, _, _, _, _⟩) rfl (fun K hK => ?_) AllReadyH.nil
        refine step_gov (by rfl) 32 _ _ _ (by rfl) (by rfl) (fun _ _ => by kernel_rfl) _ (by rfl) (CM.out _) ?_
        rintro e w4 ⟨rfl, b4⟩
        refine ⟨_, rfl, ?_⟩
        refine hK.out _ _ (kb.trans (b4.mono kb.size)) (fun hHeld => ?_)
        clear hK K
        try simp only [Act.put, List.setIfInBounds_toArray, List.set_cons_zero, List.set_cons_succ]
        refine wpAnyH_take (i := 10) (oi := ⟨some 102, _, _, _, _, _⟩) (v := ?qv10ra) rfl (by kernel_rfl) (by kernel_rfl) (by kernel_rfl) (fun _ _ _ h => h) (Or.inl ⟨by rfl, ?qy10ra⟩) hHeld ?qr10ra
        case qy10ra => (intro w' hSw; go_simp; try with_reducible rfl)
        try simp only [Act.put, List.setIfInBounds_toArray, List.set_cons_zero, List.set_cons_succ]
        refine wpAnyH_take (i := 11) (oi := ⟨some 103, _, _, _, _, _⟩) (v := ?qv11ra) rfl (by kernel_rfl) (by kernel_rfl) (by kernel_rfl) (fun _ _ _ h => h) (Or.inl ⟨by rfl, ?qy11ra⟩) hHeld ?qr11ra
        case qy11ra => (intro w' hSw; go_simp; try with_reducible rfl)
        try simp only [Act.put, List.setIfInBounds_toArray, List.set_cons_zero, List.set_cons_succ]
        refine wpAnyH_done (by kernel_rfl) ?_ _
        refine NoPanic.normal ?_
        have b5 : Below wr.heap.size wr w4 := hHeld
        have R4 := Lib.hid (HR.out.below b5)
        have O4 := Lib.hid (HO.out.trans (.of_below b5 (Nat.le_of_lt hgl.2)))
        have HC := Lib.hid hc
        clear hHeld kb b4 b5 hc
        go_wp2_with fail
        go_roundw
        case rel => exact ⟨H + 1, J, k + 1, v, by have := HKK.out; omega, HJ.out, by have := HKK.out; have := HI.out; have := HJ.out; omega, hvl, by go_num, rfl, fun z _ hz => (by rw [Nat.add_sub_cancel, HY.out] at hz; cases hz; exact HC.out), H2.out, R4.out, O4.out⟩
        case measure => simp [intOf]; omega
      | true =>
        have hc' := hc
        rw [← cmpK_neg] at hc'
        refine wp_region_noPanic ?_
        refine wp_region_held_drew (S := fun w' => Below wr.heap.size wr w') (by kernel_rfl) (Below.refl _ _).drew (fun hHeld => ?_)
        generalize wr.drew = D at hHeld ⊢
        have kb : Below wr.heap.size wr D := hHeld
        refine wpAnyH_take (i := 0) (oi := ⟨some 92, _, _, _, _, _⟩) (v := ?qv0rb) rfl (by kernel_rfl) (by kernel_rfl) (by kernel_rfl) (fun _ _ _ h => h) (Or.inl ⟨by rfl, ?qy0rb⟩) hHeld ?qr0rb
        case qy0rb => (intro w' hSw; go_simp; try with_reducible rfl)
        try simp only [Act.put, List.setIfInBounds_toArray, List.set_cons_zero, List.set_cons_succ]
        refine wpAnyH_take (i := 1) (oi := ⟨some 93, _, _, _, _, _⟩) (v := ?qv1rb) rfl (by kernel_rfl) (by kernel_rfl) (by kernel_rfl) (fun _ _ _ h => h) (Or.inl ⟨by rfl, ?qy1rb⟩) hHeld ?qr1rb
        case qy1rb => (intro w' hSw; go_simp; try with_reducible rfl)
        try simp only [Act.put, List.setIfInBounds_toArray, List.set_cons_zero, List.set_cons_succ]
        refine wpAnyH_take (i := 2) (oi := ⟨some 94, _, _, _, _, _⟩) (v := ?qv2rb) rfl (by kernel_rfl) (by kernel_rfl) (by kernel_rfl) (fun _ _ _ h => h) (Or.inl ⟨by rfl, ?qy2rb⟩) hHeld ?qr2rb
        case qy2rb => (intro w' hSw; go_simp; try with_reducible rfl)
        try simp only [Act.put, List.setIfInBounds_toArray, List.set_cons_zero, List.set_cons_succ]
        refine wpAnyH_take (i := 3) (oi := ⟨some 95, _, _, _, _, _⟩) (v := ?qv3rb) rfl (by kernel_rfl) (by kernel_rfl) (by kernel_rfl) (fun _ _ _ h => h) (Or.inl ⟨by rfl, ?qy3rb⟩) hHeld ?qr3rb
        case qy3rb => (intro w' hSw; go_simp; try with_reducible rfl)
        try simp only [Act.put, List.setIfInBounds_toArray, List.set_cons_zero, List.set_cons_succ]
        refine wpAnyH_take (i := 4) (oi := ⟨some 96, _, _, _, _, _⟩) (v := ?qv4rb) rfl (by kernel_rfl) (by kernel_rfl) (by kernel_rfl) (fun _ _ _ h => h) (Or.inl ⟨by rfl, ?qy4rb⟩) hHeld ?qr4rb
        case qy4rb => (intro w' hSw; have px0 := (hSw.cell (p := ⟨g, m * 4, none⟩) hgl.2).trans x0; have px1 := (hSw.cell (p := ⟨g, m * 4 + 1, none⟩) hgl.2).trans x1; have px2 := (hSw.cell (p := ⟨g, m * 4 + 2, none⟩) hgl.2).trans x2; have px3 := (hSw.cell (p := ⟨g, m * 4 + 3, none⟩) hgl.2).trans x3; have py0 := (hSw.cell (p := ⟨g, H * 4, none⟩) hgl.2).trans y0; have py1 := (hSw.cell (p := ⟨g, H * 4 + 1, none⟩) hgl.2).trans y1; have py2 := (hSw.cell (p := ⟨g, H * 4 + 2, none⟩) hgl.2).trans y2; have py3 := (hSw.cell (p := ⟨g, H * 4 + 3, none⟩) hgl.2).trans y3; go_simp; try with_reducible rfl)
        try simp only [Act.put, List.setIfInBounds_toArray, List.set_cons_zero, List.set_cons_succ]
        refine wpAnyH_take (i := 5) (oi := ⟨some 97, _, _, _, _, _⟩) (v := ?qv5rb) rfl (by kernel_rfl) (by kernel_rfl) (by kernel_rfl) (fun _ _ _ h => h) (Or.inl ⟨by rfl, ?qy5rb⟩) hHeld ?qr5rb
        case qy5rb => (intro w' hSw; go_simp; try with_reducible rfl)
        try simp only [Act.put, List.setIfInBounds_toArray, List.set_cons_zero, List.set_cons_succ]
        refine wpAnyH_take (i := 6) (oi := ⟨some 98, _, _, _, _, _⟩) (v := ?qv6rb) rfl (by kernel_rfl) (by kernel_rfl) (by kernel_rfl) (fun _ _ _ h => h) (Or.inl ⟨by rfl, ?qy6rb⟩) hHeld ?qr6rb
        case qy6rb => (intro w' hSw; go_simp; try with_reducible rfl)
        try simp only [Act.put, List.setIfInBounds_toArray, List.set_cons_zero, List.set_cons_succ]
        refine wpAnyH_take (i := 7) (oi := ⟨some 99, _, _, _, _, _⟩) (v := ?qv7rb) rfl (by kernel_rfl) (by kernel_rfl) (by kernel_rfl) (fun _ _ _ h => h) (Or.inl ⟨by rfl, ?qy7rb⟩) hHeld ?qr7rb
        case qy7rb => (intro w' hSw; go_simp; try with_reducible rfl)
        try simp only [Act.put, List.setIfInBounds_toArray, List.set_cons_zero, List.set_cons_succ]
        refine wpAnyH_take (i := 8) (oi := ⟨some 100, _, _, _, _, _⟩) (v := ?qv8rb) rfl (by kernel_rfl) (by kernel_rfl) (by kernel_rfl) (fun _ _ _ h => h) (Or.inl ⟨by rfl, ?qy8rb⟩) hHeld ?qr8rb
        case qy8rb => (intro w' hSw; have px0 := (hSw.cell (p := ⟨g, m * 4, none⟩) hgl.2).trans x0; have px1 := (hSw.cell (p := ⟨g, m * 4 + 1, none⟩) hgl.2).trans x1; have px2 := (hSw.cell (p := ⟨g, m * 4 + 2, none⟩) hgl.2).trans x2; have px3 := (hSw.cell (p := ⟨g, m * 4 + 3, none⟩) hgl.2).trans x3; have py0 := (hSw.cell (p := ⟨g, H * 4, none⟩) hgl.2).trans y0; have py1 := (hSw.cell (p := ⟨g, H * 4 + 1, none⟩) hgl.2).trans y1; have py2 := (hSw.cell (p := ⟨g, H * 4 + 2, none⟩) hgl.2).trans y2; have py3 := (hSw.cell (p := ⟨g, H * 4 + 3, none⟩) hgl.2).trans y3; go_simp; try with_reducible rfl)
        try simp only [Act.put, List.setIfInBounds_toArray, List.set_cons_zero, List.set_cons_succ]
        refine wpAnyH_ready (rs := [9]) (by kernel_rfl) (by simp) ?_
        refine AllReadyH.cons (o := ⟨some 101, _, _, _, _, _⟩) rfl (fun K hK => ?_) AllReadyH.nil
        refine step_gov (by rfl) 32 _ _ _ (by rfl) (by rfl) (fun _ _ => by kernel_rfl) _ (by rfl) (CM.out _) ?_
        rintro e w4 ⟨rfl, b4⟩
        refine ⟨_, rfl, ?_⟩
        refine hK.out _ _ (kb.trans (b4.mono kb.size)) (fun hHeld => ?_)
        clear hK K
        try simp only [Act.put, List.setIfInBounds_toArray, List.set_cons_zero, List.set_cons_succ]
        refine wpAnyH_take (i := 10) (oi := ⟨some 102, _, _, _, _, _⟩) (v := ?qv10rb) rfl (by kernel_rfl) (by kernel_rfl) (by kernel_rfl) (fun _ _ _ h => h) (Or.inl ⟨by rfl, ?qy10rb⟩) hHeld ?qr10rb
        case qy10rb => (intro w' hSw; go_simp; try with_reducible rfl)
        try simp only [Act.put, List.setIfInBounds_toArray, List.set_cons_zero, List.set_cons_succ]
        refine wpAnyH_take (i := 11) (oi := ⟨some 103, _, _, _, _, _⟩) (v := ?qv11rb) rfl (by kernel_rfl) (by kernel_rfl) (by kernel_rfl) (fun _ _ _ h => h) (Or.inl ⟨by rfl, ?qy11rb⟩) hHeld ?qr11rb
        case qy11rb => (intro w' hSw; go_simp; try with_reducible rfl)
        try simp only [Act.put, List.setIfInBounds_toArray, List.set_cons_zero, List.set_cons_succ]
        refine wpAnyH_done (by kernel_rfl) ?_ _
        refine NoPanic.normal ?_
        have b5 : Below wr.heap.size wr w4 := hHeld
        have R4 := Lib.hid (HR.out.below b5)
        have O4 := Lib.hid (HO.out.trans (.of_below b5 (Nat.le_of_lt hgl.2)))
        have HC := Lib.hid hc
        clear hHeld kb b4 b5 hc
        go_wp2_with fail
        go_roundw
        case rel => exact ⟨I, H, u, k, HI.out, HKK.out, by have := HKK.out; have := HI.out; omega, by omega, rfl, by go_num, H1.out, fun z hz => (by rw [HY.out] at hz; cases hz; exact HC.out), R4.out, O4.out⟩
        case measure => simp [intOf]; omega
    · have t1 : decide ((I : Int) < (J : Int)) = false := by simp; omega
      obtain rfl : u = v := by omega
      obtain rfl : I = J := by omega
      have F2 := Lib.hid (fun w' => FIN.out u w' hvl h1 h2')
      have HR := Lib.hid hr
      have HO := Lib.hid ho
      have HI := Lib.hid hI
      clear hr ho h1 h2' hI hJ FIN
      go_wp2_with fail
      go_loopw [17] (fun kk wr2 => ∃ (T1 t : Nat), T1 = a + t ∧ u ≤ t ∧ t ≤ L.length ∧ kk = .int .i64 T1 ∧ RowO wr2 B g cap (vals (A ++ (L.take t ++ x :: L.drop t) ++ C)) ∧ OnlG g w wr2) (fun kk _ => (intOf kk).toNat)
      case atStart => exact ⟨m, L.length, hmL.out.symm, hvl, Nat.le_refl _, rfl, by simpa using HR.out, HO.out⟩
      case round =>
        obtain ⟨T1, t, hT, hut, htl, rfl, hr, ho⟩ := hrel
        have hbb' := hbb.out
        have hI' := HI.out
        by_cases hlt : I < T1
        · obtain ⟨s, rfl⟩ : ∃ s, t = s + 1 := ⟨t - 1, by omega⟩
          obtain ⟨J0, rfl⟩ : ∃ J0, T1 = J0 + 1 := ⟨T1 - 1, by omega⟩
          have t1 : decide ((I : Int) < ((J0 + 1 : Nat) : Int)) = true := by simp; omega
          have t1' : decide ((I : Int) < (J0 : Int) + 1) = true := by simp; omega
          have hsL : s < L.length := by omega
          have hdt : L.drop s = L[s] :: L.drop (s + 1) := List.drop_eq_getElem_cons hsL
          have htt : L.take (s + 1) = L.take s ++ [L[s]] := List.take_succ_eq_append_getElem hsL
          have hsy := HSL.out _ (List.getElem_mem hsL)
          generalize L[s] = y at *
          have e1 : vals (A ++ (L.take (s + 1) ++ x :: L.drop (s + 1)) ++ C) = vals (A ++ L.take s) ++ y.1 :: x.1 :: vals (L.drop (s + 1) ++ C) := by rw [htt]; simp [vals]
          have e2 : vals (A ++ (L.take s ++ x :: L.drop s) ++ C) = vals (A ++ L.take s) ++ x.1 :: y.1 :: vals (L.drop (s + 1) ++ C) := by rw [hdt]; simp [vals]
          have l0 : (vals (A ++ L.take s)).length = J0 := by rw [vals, List.length_map, List.length_append, HA.out, List.length_take]; omega
          rw [e1] at hr
          have E2 := Lib.hid e2
          generalize vals (A ++ L.take s) = X at *
          generalize vals (L.drop (s + 1) ++ C) = Z at *
          have gy : (X ++ y.1 :: x.1 :: Z)[J0]? = some y.1 := by rw [← l0]; simp
          have gx : (X ++ y.1 :: x.1 :: Z)[J0 + 1]? = some x.1 := by
            have := get_far X [] Z y.1 x.1
            rw [l0] at this
            exact this
          have hset : ((X ++ y.1 :: x.1 :: Z).set (J0 + 1) y.1).set J0 x.1 = X ++ x.1 :: y.1 :: Z := by
            have := swap_adj X Z y.1 x.1
            rw [l0] at this
            exact this
          have hlv : (X ++ y.1 :: x.1 :: Z).length = n := by
            have := HN.out
            rw [← e1, this]
            simp
            omega
          have wJ : IntKind.i64.wrap (J0 : Int) = (J0 : Int) := IntWalk.i64_in _ (by omega)
          have wJ1 : IntKind.i64.wrap ((J0 : Int) + 1) = (J0 : Int) + 1 := IntWalk.i64_in _ (by omega)
          have i1 : (J0 : Int) < (n : Int) := by omega
          have i2 : (J0 : Int) + 1 < (n : Int) := by omega
          have i3 : (0 : Int) ≤ (J0 : Int) + 1 := by omega
          have i4 : (0 : Int) ≤ (J0 : Int) := by omega
          have j1 : J0 + 1 < n := by omega
          have carry : RowO wr.drew B g cap (X ++ y.1 :: x.1 :: Z) ∧ OnlG g w wr.drew := ⟨hr.drew, ho.drew⟩
          have HGX := Lib.hid gx
          have HGY := Lib.hid gy
          have HST := Lib.hid hset
          have HLV := Lib.hid hlv
          have HT := Lib.hid hT
          clear e1 e2 l0 hr ho gx gy hset hlv hdt htt hT hbb' hI'
          generalize X ++ y.1 :: x.1 :: Z = rr at *
          go_wp2_with fail
          refine wp_region_noPanic ?_
          refine wp_region_held_drew (S := fun _ => True) (by kernel_rfl) (trivial) (fun hHeld => ?_)
          generalize wr.drew = D at hHeld carry ⊢
          have kc := hHeld
          refine wpAnyH_take (i := 0) (oi := ⟨some 113, _, _, _, _, _⟩) (v := ?qv0sr) rfl (by kernel_rfl) (by kernel_rfl) (by kernel_rfl) (fun _ _ _ h => h) (Or.inl ⟨by rfl, ?qy0sr⟩) hHeld ?qr0sr
          case qy0sr => (intro w' hSw; go_simp; try with_reducible rfl)
          try simp only [Act.put, List.setIfInBounds_toArray, List.set_cons_zero, List.set_cons_succ]
          refine wpAnyH_take (i := 1) (oi := ⟨some 114, _, _, _, _, _⟩) (v := ?qv1sr) rfl (by kernel_rfl) (by kernel_rfl) (by kernel_rfl) (fun _ _ _ h => h) (Or.inl ⟨by rfl, ?qy1sr⟩) hHeld ?qr1sr
          case qy1sr => (intro w' hSw; go_simp; try with_reducible rfl)
          try simp only [Act.put, List.setIfInBounds_toArray, List.set_cons_zero, List.set_cons_succ]
          refine wpAnyH_take (i := 2) (oi := ⟨some 115, _, _, _, _, _⟩) (v := ?qv2sr) rfl (by kernel_rfl) (by kernel_rfl) (by kernel_rfl) (fun _ _ _ h => h) (Or.inl ⟨by rfl, ?qy2sr⟩) hHeld ?qr2sr
          case qy2sr => (intro w' hSw; go_simp; try with_reducible rfl)
          try simp only [Act.put, List.setIfInBounds_toArray, List.set_cons_zero, List.set_cons_succ]
          refine wpAnyH_take (i := 3) (oi := ⟨some 116, _, _, _, _, _⟩) (v := ?qv3sr) rfl (by kernel_rfl) (by kernel_rfl) (by kernel_rfl) (fun _ _ _ h => h) (Or.inl ⟨by rfl, ?qy3sr⟩) hHeld ?qr3sr
          case qy3sr => (intro w' hSw; go_simp; try with_reducible rfl)
          try simp only [Act.put, List.setIfInBounds_toArray, List.set_cons_zero, List.set_cons_succ]
          refine wpAnyH_take (i := 4) (oi := ⟨some 117, _, _, _, _, _⟩) (v := ?qv4sr) rfl (by kernel_rfl) (by kernel_rfl) (by kernel_rfl) (fun _ _ _ h => h) (Or.inl ⟨by rfl, ?qy4sr⟩) hHeld ?qr4sr
          case qy4sr => (intro w' hSw; go_simp; try with_reducible rfl)
          try simp only [Act.put, List.setIfInBounds_toArray, List.set_cons_zero, List.set_cons_succ]
          refine wpAnyH_take (i := 5) (oi := ⟨some 118, _, _, _, _, _⟩) (v := ?qv5sr) rfl (by kernel_rfl) (by kernel_rfl) (by kernel_rfl) (fun _ _ _ h => h) (Or.inl ⟨by rfl, ?qy5sr⟩) hHeld ?qr5sr
          case qy5sr => (intro w' hSw; go_simp; try with_reducible rfl)
          try simp only [Act.put, List.setIfInBounds_toArray, List.set_cons_zero, List.set_cons_succ]
          refine wpAnyH_take (i := 6) (oi := ⟨some 119, _, _, _, _, _⟩) (v := ?qv6sr) rfl (by kernel_rfl) (by kernel_rfl) (by kernel_rfl) (fun _ _ _ h => h) (Or.inl ⟨by rfl, ?qy6sr⟩) hHeld ?qr6sr
          case qy6sr => (intro w' hSw; go_simp; try with_reducible rfl)
          try simp only [Act.put, List.setIfInBounds_toArray, List.set_cons_zero, List.set_cons_succ]
          refine wpAnyH_take (i := 7) (oi := ⟨some 120, _, _, _, _, _⟩) (v := ?qv7sr) rfl (by kernel_rfl) (by kernel_rfl) (by kernel_rfl) (fun _ _ _ h => h) (Or.inl ⟨by rfl, ?qy7sr⟩) hHeld ?qr7sr
          case qy7sr => (intro w' hSw; go_simp; try with_reducible rfl)
          try simp only [Act.put, List.setIfInBounds_toArray, List.set_cons_zero, List.set_cons_succ]
          refine wpAnyH_take (i := 8) (oi := ⟨some 121, _, _, _, _, _⟩) (v := ?qv8sr) rfl (by kernel_rfl) (by kernel_rfl) (by kernel_rfl) (fun _ _ _ h => h) (Or.inl ⟨by rfl, ?qy8sr⟩) hHeld ?qr8sr
          case qy8sr => (intro w' hSw; go_simp; try with_reducible rfl)
          try simp only [Act.put, List.setIfInBounds_toArray, List.set_cons_zero, List.set_cons_succ]
          refine wpAnyH_take (i := 10) (oi := ⟨some 123, _, _, _, _, _⟩) (v := ?qv10sr) rfl (by kernel_rfl) (by kernel_rfl) (by kernel_rfl) (fun _ _ _ h => h) (Or.inl ⟨by rfl, ?qy10sr⟩) hHeld ?qr10sr
          case qy10sr => (intro w' hSw; go_simp; try with_reducible rfl)
          try simp only [Act.put, List.setIfInBounds_toArray, List.set_cons_zero, List.set_cons_succ]
          refine wpAnyH_take (i := 11) (oi := ⟨some 124, _, _, _, _, _⟩) (v := ?qv11sr) rfl (by kernel_rfl) (by kernel_rfl) (by kernel_rfl) (fun _ _ _ h => h) (Or.inl ⟨by rfl, ?qy11sr⟩) hHeld ?qr11sr
          case qy11sr => (intro w' hSw; go_simp; try with_reducible rfl)
          try simp only [Act.put, List.setIfInBounds_toArray, List.set_cons_zero, List.set_cons_succ]
          refine wpAnyH_take (i := 12) (oi := ⟨some 125, _, _, _, _, _⟩) (v := ?qv12sr) rfl (by kernel_rfl) (by kernel_rfl) (by kernel_rfl) (fun _ _ _ h => h) (Or.inl ⟨by rfl, ?qy12sr⟩) hHeld ?qr12sr
          case qy12sr => (intro w' hSw; go_simp; try with_reducible rfl)
          try simp only [Act.put, List.setIfInBounds_toArray, List.set_cons_zero, List.set_cons_succ]
          refine wpAnyH_load2 (i := 9) (j := 13) (oi := ⟨some 122, _, _, _, _, _⟩) (oj := ⟨some 126, _, _, _, _, _⟩) (vi := ?vi9sr) (vj := ?vj13sr) rfl rfl (by decide) (by kernel_rfl) (by kernel_rfl) (by kernel_rfl) (Or.inl ⟨by rfl, ?yasr⟩) (Or.inl ⟨by rfl, ?ybsr⟩) (Or.inl ⟨by rfl, ?ycsr⟩) (Or.inl ⟨by rfl, ?ydsr⟩) ?yesr hHeld ?yfsr
          case yasr => (intro w' hSw; subst hSw; obtain ⟨x0, x1, x2, x3⟩ := carry.1.cells HGX.out; obtain ⟨y0, y1, y2, y3⟩ := carry.1.cells HGY.out; go_simp; try with_reducible rfl)
          case ybsr => (intro w' hSw; subst hSw; obtain ⟨x0, x1, x2, x3⟩ := carry.1.cells HGX.out; obtain ⟨y0, y1, y2, y3⟩ := carry.1.cells HGY.out; go_simp; try with_reducible rfl)
          case ycsr => (intro w' hSw; subst hSw; obtain ⟨x0, x1, x2, x3⟩ := carry.1.cells HGX.out; obtain ⟨y0, y1, y2, y3⟩ := carry.1.cells HGY.out; go_simp; try with_reducible rfl)
          case ydsr => (intro w' hSw; subst hSw; obtain ⟨x0, x1, x2, x3⟩ := carry.1.cells HGX.out; obtain ⟨y0, y1, y2, y3⟩ := carry.1.cells HGY.out; go_simp; try with_reducible rfl)
          case yesr => rfl
          try simp only [Act.put, List.setIfInBounds_toArray, List.set_cons_zero, List.set_cons_succ]
          refine wpAnyH_take (i := 14) (oi := ⟨some 127, _, _, _, _, _⟩) (v := ?qv14sr) rfl (by kernel_rfl) (by kernel_rfl) (by kernel_rfl) (fun _ _ _ h => h) (Or.inl ⟨by rfl, ?qy14sr⟩) hHeld ?qr14sr
          case qy14sr => (intro w' hSw; go_simp; try with_reducible rfl)
          try simp only [Act.put, List.setIfInBounds_toArray, List.set_cons_zero, List.set_cons_succ]
          refine wpAnyH_ready (rs := [15]) (by kernel_rfl) (by simp) ?_
          refine AllReadyH.cons (o := ⟨none, _, _, _, _, _⟩) rfl (fun K hK => ?_) AllReadyH.nil
          refine step_store_kd (by rfl) _ _ (by rfl) B g cap (J0 + 1) _ y.1 (by rfl) (by rfl) hsy carry.1 (by rw [HLV.out]; exact j1) ?_
          intro w6 R6 O6
          refine hK.out _ _ trivial (fun hHeld => ?_)
          clear hK K
          try simp only [Act.put, List.setIfInBounds_toArray, List.set_cons_zero, List.set_cons_succ]
          refine wpAnyH_take (i := 16) (oi := ⟨some 128, _, _, _, _, _⟩) (v := ?qv16sr) rfl (by kernel_rfl) (by kernel_rfl) (by kernel_rfl) (fun _ _ _ h => h) (Or.inl ⟨by rfl, ?qy16sr⟩) hHeld ?qr16sr
          case qy16sr => (intro w' hSw; go_simp; try with_reducible rfl)
          try simp only [Act.put, List.setIfInBounds_toArray, List.set_cons_zero, List.set_cons_succ]
          refine wpAnyH_ready (rs := [17]) (by kernel_rfl) (by simp) ?_
          refine AllReadyH.cons (o := ⟨none, _, _, _, _, _⟩) rfl (fun K hK => ?_) AllReadyH.nil
          refine step_store_kd (by rfl) _ _ (by rfl) B g cap J0 _ x.1 (by rfl) (by rfl) hsx R6 (by rw [List.length_set, HLV.out]; exact Nat.lt_of_succ_lt j1) ?_
          intro w7 R7 O7
          refine hK.out _ _ trivial (fun hHeld => ?_)
          clear hK K
          try simp only [Act.put, List.setIfInBounds_toArray, List.set_cons_zero, List.set_cons_succ]
          refine wpAnyH_done (by kernel_rfl) ?_ _
          refine NoPanic.normal ?_
          have R8 := Lib.hid (show RowO w7 B g cap (vals (A ++ (L.take s ++ x :: L.drop s) ++ C)) by rw [E2.out, ← HST.out]; exact R7)
          have O8 := Lib.hid ((carry.2.trans O6).trans O7)
          clear carry R6 O6 R7 O7 hHeld kc
          go_wp2_with fail
          go_roundw
          case rel => exact ⟨J0, s, by have := HT.out; omega, by have := HT.out; have := HI.out; omega, by omega, by go_num, R8.out, O8.out⟩
          case measure => simp [intOf]
        · have t1 : decide ((I : Int) < (T1 : Int)) = false := by simp; omega
          obtain rfl : t = u := by omega
          have F3 := Lib.hid (F2.out wr hr ho)
          clear hr ho F2
          go_wp2_with fail
          exact bodyPost_ret (v := .tuple #[]) (by simp [results, Tryz.results66, go_sem]) rfl ⟨rfl, F3.out⟩
end Go.Proofs.YtoggbmfjjenbaaaGreatDoor
