/- slices.symMergeCmpFunc at items with keys: one item ahead of a sorted row, one behind it. -/
import Derived.Test.YtoggbmfjjenbaaaGreatDoorTw4
set_option linter.unusedSimpArgs false
set_option linter.unusedVariables false
namespace Go.Proofs.YtoggbmfjjenbaaaGreatDoor
open Go.RowKit

theorem vals_at {A L C : List Rk} {k : Nat} {y : Rk} (h : L[k]? = some y) : (vals (A ++ L ++ C))[A.length + k]? = some y.1 := by
  obtain ⟨hk, rfl⟩ := List.getElem?_eq_some_iff.1 h
  rw [vals, List.getElem?_map, List.append_assoc, List.getElem?_append_right (by omega), Nat.add_sub_cancel_left, List.getElem?_append_left hk, List.getElem?_eq_getElem hk]
  rfl

/-- What symMergeCmpFunc leaves. -/
def SymRet (B g cap n : Nat) (A L R C : List Rk) (w : World) (e : Ending) (w' : World) : Prop :=
  e = .returned (.tuple #[]) ∧ ∃ M, M.Perm (L ++ R) ∧ Srt M ∧ RowO w' B g cap (vals (A ++ M ++ C)) ∧ OnlG g w w'

set_option maxRecDepth 100000 in
set_option maxHeartbeats 4000000 in
theorem sym_left (A R C : List Rk) (x : Rk) (w : World) (B g cap n a m b : Nat) (ha : A.length = a) (hm : a + 1 = m) (hb : m + R.length = b) (hn : n = (A ++ (x :: R) ++ C).length) (h : RowO w B g cap (vals (A ++ (x :: R) ++ C)))
    (hsx : IsSl x.1.2) (hsR : AllSl R) (hR : Srt R) (hrk : ∀ y ∈ R, x.2 < y.2) (hn2 : n ≤ 1000000) :
    Calls Tryz.prog 66 #[.slice (some ⟨g, 0, none⟩) n cap, .int .i64 a, .int .i64 m, .int .i64 b, cmpV] w (SymRet B g cap n A [x] R C w) := by
  have hlen : b + C.length = n := by rw [hn]; simp; omega
  have FIN := Lib.hid (show ∀ k w', k ≤ R.length → (∀ y, 0 < k → R[k - 1]? = some y → ltK y.1.1 x.1.1 = true) → (∀ y, R[k]? = some y → ltK y.1.1 x.1.1 = false) → RowO w' B g cap (vals (A ++ (R.take k ++ x :: R.drop k) ++ C)) → OnlG g w w' → ∃ M, M.Perm ([x] ++ R) ∧ Srt M ∧ RowO w' B g cap (vals (A ++ M ++ C)) ∧ OnlG g w w' from fun k w' a1 a2 a3 a4 a5 =>
    ⟨R.take k ++ x :: R.drop k, by
      have e := List.perm_middle (a := x) (l₁ := R.take k) (l₂ := R.drop k)
      rw [List.take_append_drop] at e
      exact e, sym_one a1 hR hrk a2 a3, a4, a5⟩)
  have HW := Lib.hid h
  have HA := Lib.hid ha
  have HN := Lib.hid hn
  have HSR := Lib.hid hsR
  have q0 : (m : Int) - (a : Int) = 1 := by omega
  have hbR := Lib.hid hb
  clear ha hn h hsR hR hrk
  unfold cmpV SymRet
  go_enter Tryz.func66, Tryz.ntmps66
  go_wp2_with fail
  go_loopw [10, 11] (fun i j wr => ∃ (I J u v : Nat), I = m + u ∧ J = m + v ∧ u ≤ v ∧ v ≤ R.length ∧ i = .int .i64 I ∧ j = .int .i64 J ∧ (∀ y, 0 < u → R[u - 1]? = some y → ltK y.1.1 x.1.1 = true) ∧ (∀ y, R[v]? = some y → ltK y.1.1 x.1.1 = false) ∧ RowO wr B g cap (vals (A ++ (x :: R) ++ C)) ∧ OnlG g w wr) (fun i j _ => (intOf j).toNat - (intOf i).toNat)
  case atStart => exact ⟨m, b, 0, R.length, rfl, hbR.out.symm, Nat.zero_le _, Nat.le_refl _, rfl, rfl, fun y h => (by omega), fun y hy => (by simp at hy), HW.out, OnlG.refl _ _⟩
  case round =>
    obtain ⟨I, J, u, v, hI, hJ, huv, hvl, rfl, rfl, h1, h2, hr, ho⟩ := hrel
    have hgl := hr.lt
    have hbb := hbR.out
    by_cases hlt : I < J
    · have t1 : decide ((I : Int) < (J : Int)) = true := by simp; omega
      obtain ⟨H, hH⟩ : ∃ H, H = (I + J) / 2 := ⟨_, rfl⟩
      obtain ⟨k, hk⟩ : ∃ k, H = m + k := ⟨H - m, by omega⟩
      have q1 : ((I : Int) + (J : Int)) / 2 = (H : Int) := by omega
      have wH : IntKind.i64.wrap (H : Int) = (H : Int) := IntWalk.i64_in _ (by omega)
      have hkR : k < R.length := by omega
      have hy : R[k]? = some R[k] := List.getElem?_eq_getElem hkR
      have hsy := HSR.out _ (List.getElem_mem hkR)
      generalize R[k] = y at *
      have gx : (vals (A ++ (x :: R) ++ C))[a]? = some x.1 := by
        have := vals_at (A := A) (L := x :: R) (C := C) (k := 0) (y := x) rfl
        rwa [HA.out] at this
      have gy : (vals (A ++ (x :: R) ++ C))[H]? = some y.1 := by
        have := vals_at (A := A) (L := x :: R) (C := C) (k := k + 1) (y := y) (by simpa using hy)
        rwa [HA.out, show a + (k + 1) = H by omega] at this
      obtain ⟨x0, x1, x2, x3⟩ := hr.cells gx
      obtain ⟨y0, y1, y2, y3⟩ := hr.cells gy
      have CM := Lib.hid (fun w => cmp_any y.1 x.1 w hsy hsx)
      have HR := Lib.hid hr
      have HO := Lib.hid ho
      have HY := Lib.hid hy
      have H1 := Lib.hid h1
      have H2 := Lib.hid h2
      have i1 : (H : Int) < (n : Int) := by omega
      have i2 : (a : Int) < (n : Int) := by omega
      have hHI : I ≤ H ∧ H < J := by omega
      have HI := Lib.hid hI
      have HJ := Lib.hid hJ
      have HKK := Lib.hid hk
      clear hr ho gx gy h1 h2 hy hH hI hJ hk
      go_wp2_with fail
      cases hc : ltK y.1.1 x.1.1 with
      | true =>
        have hc' := hc
        rw [← cmpK_neg] at hc'
        refine wp_region_noPanic ?_
        refine wp_region_held_drew (S := fun w' => Below wr.heap.size wr w') (by kernel_rfl) (Below.refl _ _).drew (fun hHeld => ?_)
        generalize wr.drew = D at hHeld ⊢
        have kb : Below wr.heap.size wr D := hHeld
        refine wpAnyH_take (i := 0) (oi := ⟨some 40, _, _, _, _, _⟩) (v := ?qv0la) rfl (by kernel_rfl) (by kernel_rfl) (by kernel_rfl) (fun _ _ _ h => h) (Or.inl ⟨by rfl, ?qy0la⟩) hHeld ?qr0la
        case qy0la => (intro w' hSw; go_simp; try with_reducible rfl)
        try simp only [Act.put, List.setIfInBounds_toArray, List.set_cons_zero, List.set_cons_succ]
        refine wpAnyH_take (i := 1) (oi := ⟨some 41, _, _, _, _, _⟩) (v := ?qv1la) rfl (by kernel_rfl) (by kernel_rfl) (by kernel_rfl) (fun _ _ _ h => h) (Or.inl ⟨by rfl, ?qy1la⟩) hHeld ?qr1la
        case qy1la => (intro w' hSw; go_simp; try with_reducible rfl)
        try simp only [Act.put, List.setIfInBounds_toArray, List.set_cons_zero, List.set_cons_succ]
        refine wpAnyH_take (i := 2) (oi := ⟨some 42, _, _, _, _, _⟩) (v := ?qv2la) rfl (by kernel_rfl) (by kernel_rfl) (by kernel_rfl) (fun _ _ _ h => h) (Or.inl ⟨by rfl, ?qy2la⟩) hHeld ?qr2la
        case qy2la => (intro w' hSw; go_simp; try with_reducible rfl)
        try simp only [Act.put, List.setIfInBounds_toArray, List.set_cons_zero, List.set_cons_succ]
        refine wpAnyH_take (i := 3) (oi := ⟨some 43, _, _, _, _, _⟩) (v := ?qv3la) rfl (by kernel_rfl) (by kernel_rfl) (by kernel_rfl) (fun _ _ _ h => h) (Or.inl ⟨by rfl, ?qy3la⟩) hHeld ?qr3la
        case qy3la => (intro w' hSw; go_simp; try with_reducible rfl)
        try simp only [Act.put, List.setIfInBounds_toArray, List.set_cons_zero, List.set_cons_succ]
        refine wpAnyH_take (i := 4) (oi := ⟨some 44, _, _, _, _, _⟩) (v := ?qv4la) rfl (by kernel_rfl) (by kernel_rfl) (by kernel_rfl) (fun _ _ _ h => h) (Or.inl ⟨by rfl, ?qy4la⟩) hHeld ?qr4la
        case qy4la => (intro w' hSw; have py0 := (hSw.cell (p := ⟨g, H * 4, none⟩) hgl.2).trans y0; have py1 := (hSw.cell (p := ⟨g, H * 4 + 1, none⟩) hgl.2).trans y1; have py2 := (hSw.cell (p := ⟨g, H * 4 + 2, none⟩) hgl.2).trans y2; have py3 := (hSw.cell (p := ⟨g, H * 4 + 3, none⟩) hgl.2).trans y3; have px0 := (hSw.cell (p := ⟨g, a * 4, none⟩) hgl.2).trans x0; have px1 := (hSw.cell (p := ⟨g, a * 4 + 1, none⟩) hgl.2).trans x1; have px2 := (hSw.cell (p := ⟨g, a * 4 + 2, none⟩) hgl.2).trans x2; have px3 := (hSw.cell (p := ⟨g, a * 4 + 3, none⟩) hgl.2).trans x3; go_simp; try with_reducible rfl)
        try simp only [Act.put, List.setIfInBounds_toArray, List.set_cons_zero, List.set_cons_succ]
        refine wpAnyH_take (i := 5) (oi := ⟨some 45, _, _, _, _, _⟩) (v := ?qv5la) rfl (by kernel_rfl) (by kernel_rfl) (by kernel_rfl) (fun _ _ _ h => h) (Or.inl ⟨by rfl, ?qy5la⟩) hHeld ?qr5la
        case qy5la => (intro w' hSw; go_simp; try with_reducible rfl)
        try simp only [Act.put, List.setIfInBounds_toArray, List.set_cons_zero, List.set_cons_succ]
        refine wpAnyH_take (i := 6) (oi := ⟨some 46, _, _, _, _, _⟩) (v := ?qv6la) rfl (by kernel_rfl) (by kernel_rfl) (by kernel_rfl) (fun _ _ _ h => h) (Or.inl ⟨by rfl, ?qy6la⟩) hHeld ?qr6la
        case qy6la => (intro w' hSw; go_simp; try with_reducible rfl)
        try simp only [Act.put, List.setIfInBounds_toArray, List.set_cons_zero, List.set_cons_succ]
        refine wpAnyH_take (i := 7) (oi := ⟨some 47, _, _, _, _, _⟩) (v := ?qv7la) rfl (by kernel_rfl) (by kernel_rfl) (by kernel_rfl) (fun _ _ _ h => h) (Or.inl ⟨by rfl, ?qy7la⟩) hHeld ?qr7la
        case qy7la => (intro w' hSw; go_simp; try with_reducible rfl)
        try simp only [Act.put, List.setIfInBounds_toArray, List.set_cons_zero, List.set_cons_succ]
        refine wpAnyH_take (i := 8) (oi := ⟨some 48, _, _, _, _, _⟩) (v := ?qv8la) rfl (by kernel_rfl) (by kernel_rfl) (by kernel_rfl) (fun _ _ _ h => h) (Or.inl ⟨by rfl, ?qy8la⟩) hHeld ?qr8la
        case qy8la => (intro w' hSw; have py0 := (hSw.cell (p := ⟨g, H * 4, none⟩) hgl.2).trans y0; have py1 := (hSw.cell (p := ⟨g, H * 4 + 1, none⟩) hgl.2).trans y1; have py2 := (hSw.cell (p := ⟨g, H * 4 + 2, none⟩) hgl.2).trans y2; have py3 := (hSw.cell (p := ⟨g, H * 4 + 3, none⟩) hgl.2).trans y3; have px0 := (hSw.cell (p := ⟨g, a * 4, none⟩) hgl.2).trans x0; have px1 := (hSw.cell (p := ⟨g, a * 4 + 1, none⟩) hgl.2).trans x1; have px2 := (hSw.cell (p := ⟨g, a * 4 + 2, none⟩) hgl.2).trans x2; have px3 := (hSw.cell (p := ⟨g, a * 4 + 3, none⟩) hgl.2).trans x3; go_simp; try with_reducible rfl)
        try simp only [Act.put, List.setIfInBounds_toArray, List.set_cons_zero, List.set_cons_succ]
        refine wpAnyH_ready (rs := [9]) (by kernel_rfl) (by simp) ?_
        refine AllReadyH.cons (o := ⟨some 49, _, _, _, _, _⟩) rfl (fun K hK => ?_) AllReadyH.nil
        refine step_gov (by rfl) 32 _ _ _ (by rfl) (by rfl) (fun _ _ => by kernel_rfl) _ (by rfl) (CM.out _) ?_
        rintro e w4 ⟨rfl, b4⟩
        refine ⟨_, rfl, ?_⟩
        refine hK.out _ _ (kb.trans (b4.mono kb.size)) (fun hHeld => ?_)
        clear hK K
        try simp only [Act.put, List.setIfInBounds_toArray, List.set_cons_zero, List.set_cons_succ]
        refine wpAnyH_take (i := 10) (oi := ⟨some 50, _, _, _, _, _⟩) (v := ?qv10la) rfl (by kernel_rfl) (by kernel_rfl) (by kernel_rfl) (fun _ _ _ h => h) (Or.inl ⟨by rfl, ?qy10la⟩) hHeld ?qr10la
        case qy10la => (intro w' hSw; go_simp; try with_reducible rfl)
        try simp only [Act.put, List.setIfInBounds_toArray, List.set_cons_zero, List.set_cons_succ]
        refine wpAnyH_done (by kernel_rfl) ?_ _
        refine NoPanic.normal ?_
        have b5 : Below wr.heap.size wr w4 := hHeld
        have R4 := Lib.hid (HR.out.below b5)
        have O4 := Lib.hid (HO.out.trans (.of_below b5 (Nat.le_of_lt hgl.2)))
        have HC := Lib.hid hc
        clear hHeld kb b4 b5 hc
        go_wp2_with fail
        go_roundw
        case rel => exact ⟨H + 1, J, k + 1, v, by have := HKK.out; omega, HJ.out, by have := HKK.out; have := HI.out; have := HJ.out; omega, hvl, by go_num, rfl, fun z _ hz => (by rw [Nat.add_sub_cancel, HY.out] at hz; cases hz; exact HC.out), H2.out, R4.out, O4.out⟩
        case measure => simp [intOf]; omega
      | false =>
        have hc' := hc
        rw [← cmpK_neg] at hc'
        refine wp_region_noPanic ?_
        refine wp_region_held_drew (S := fun w' => Below wr.heap.size wr w') (by kernel_rfl) (Below.refl _ _).drew (fun hHeld => ?_)
        generalize wr.drew = D at hHeld ⊢
        have kb : Below wr.heap.size wr D := hHeld
        refine wpAnyH_take (i := 0) (oi := ⟨some 40, _, _, _, _, _⟩) (v := ?qv0lb) rfl (by kernel_rfl) (by kernel_rfl) (by kernel_rfl) (fun _ _ _ h => h) (Or.inl ⟨by rfl, ?qy0lb⟩) hHeld ?qr0lb
        case qy0lb => (intro w' hSw; go_simp; try with_reducible rfl)
        try simp only [Act.put, List.setIfInBounds_toArray, List.set_cons_zero, List.set_cons_succ]
        refine wpAnyH_take (i := 1) (oi := ⟨some 41, _, _, _, _, _⟩) (v := ?qv1lb) rfl (by kernel_rfl) (by kernel_rfl) (by kernel_rfl) (fun _ _ _ h => h) (Or.inl ⟨by rfl, ?qy1lb⟩) hHeld ?qr1lb
        case qy1lb => (intro w' hSw; go_simp; try with_reducible rfl)
        try simp only [Act.put, List.setIfInBounds_toArray, List.set_cons_zero, List.set_cons_succ]
        refine wpAnyH_take (i := 2) (oi := ⟨some 42, _, _, _, _, _⟩) (v := ?qv2lb) rfl (by kernel_rfl) (by kernel_rfl) (by kernel_rfl) (fun _ _ _ h => h) (Or.inl ⟨by rfl, ?qy2lb⟩) hHeld ?qr2lb
        case qy2lb => (intro w' hSw; go_simp; try with_reducible rfl)
        try simp only [Act.put, List.setIfInBounds_toArray, List.set_cons_zero, List.set_cons_succ]
        refine wpAnyH_take (i := 3) (oi := ⟨some 43, _, _, _, _, _⟩) (v := ?qv3lb) rfl (by kernel_rfl) (by kernel_rfl) (by kernel_rfl) (fun _ _ _ h => h) (Or.inl ⟨by rfl, ?qy3lb⟩) hHeld ?qr3lb
        case qy3lb => (intro w' hSw; go_simp; try with_reducible rfl)
        try simp only [Act.put, List.setIfInBounds_toArray, List.set_cons_zero, List.set_cons_succ]
        refine wpAnyH_take (i := 4) (oi := ⟨some 44, _, _, _, _, _⟩) (v := ?qv4lb) rfl (by kernel_rfl) (by kernel_rfl) (by kernel_rfl) (fun _ _ _ h => h) (Or.inl ⟨by rfl, ?qy4lb⟩) hHeld ?qr4lb
        case qy4lb => (intro w' hSw; have py0 := (hSw.cell (p := ⟨g, H * 4, none⟩) hgl.2).trans y0; have py1 := (hSw.cell (p := ⟨g, H * 4 + 1, none⟩) hgl.2).trans y1; have py2 := (hSw.cell (p := ⟨g, H * 4 + 2, none⟩) hgl.2).trans y2; have py3 := (hSw.cell (p := ⟨g, H * 4 + 3, none⟩) hgl.2).trans y3; have px0 := (hSw.cell (p := ⟨g, a * 4, none⟩) hgl.2).trans x0; have px1 := (hSw.cell (p := ⟨g, a * 4 + 1, none⟩) hgl.2).trans x1; have px2 := (hSw.cell (p := ⟨g, a * 4 + 2, none⟩) hgl.2).trans x2; have px3 := (hSw.cell (p := ⟨g, a * 4 + 3, none⟩) hgl.2).trans x3; go_simp; try with_reducible rfl)
        try simp only [Act.put, List.setIfInBounds_toArray, List.set_cons_zero, List.set_cons_succ]
        refine wpAnyH_take (i := 5) (oi := ⟨some 45, _, _, _, _, _⟩) (v := ?qv5lb) rfl (by kernel_rfl) (by kernel_rfl) (by kernel_rfl) (fun _ _ _ h => h) (Or.inl ⟨by rfl, ?qy5lb⟩) hHeld ?qr5lb
        case qy5lb => (intro w' hSw; go_simp; try with_reducible rfl)
        try simp only [Act.put, List.setIfInBounds_toArray, List.set_cons_zero, List.set_cons_succ]
        refine wpAnyH_take (i := 6) (oi := ⟨some 46, _, _, _, _, _⟩) (v := ?qv6lb) rfl (by kernel_rfl) (by kernel_rfl) (by kernel_rfl) (fun _ _ _ h => h) (Or.inl ⟨by rfl, ?qy6lb⟩) hHeld ?qr6lb
        case qy6lb => (intro w' hSw; go_simp; try with_reducible rfl)
        try simp only [Act.put, List.setIfInBounds_toArray, List.set_cons_zero, List.set_cons_succ]
        refine wpAnyH_take (i := 7) (oi := ⟨some 47, _, _, _, _, _⟩) (v := ?qv7lb) rfl (by kernel_rfl) (by kernel_rfl) (by kernel_rfl) (fun _ _ _ h => h) (Or.inl ⟨by rfl, ?qy7lb⟩) hHeld ?qr7lb
        case qy7lb => (intro w' hSw; go_simp; try with_reducible rfl)
        try simp only [Act.put, List.setIfInBounds_toArray, List.set_cons_zero, List.set_cons_succ]
        refine wpAnyH_take (i := 8) (oi := ⟨some 48, _, _, _, _, _⟩) (v := ?qv8lb) rfl (by kernel_rfl) (by kernel_rfl) (by kernel_rfl) (fun _ _ _ h => h) (Or.inl ⟨by rfl, ?qy8lb⟩) hHeld ?qr8lb
        case qy8lb => (intro w' hSw; have py0 := (hSw.cell (p := ⟨g, H * 4, none⟩) hgl.2).trans y0; have py1 := (hSw.cell (p := ⟨g, H * 4 + 1, none⟩) hgl.2).trans y1; have py2 := (hSw.cell (p := ⟨g, H * 4 + 2, none⟩) hgl.2).trans y2; have py3 := (hSw.cell (p := ⟨g, H * 4 + 3, none⟩) hgl.2).trans y3; have px0 := (hSw.cell (p := ⟨g, a * 4, none⟩) hgl.2).trans x0; have px1 := (hSw.cell (p := ⟨g, a * 4 + 1, none⟩) hgl.2).trans x1; have px2 := (hSw.cell (p := ⟨g, a * 4 + 2, none⟩) hgl.2).trans x2; have px3 := (hSw.cell (p := ⟨g, a * 4 + 3, none⟩) hgl.2).trans x3; go_simp; try with_reducible rfl)
        try simp only [Act.put, List.setIfInBounds_toArray, List.set_cons_zero, List.set_cons_succ]
        refine wpAnyH_ready (rs := [9]) (by kernel_rfl) (by simp) ?_
        refine AllReadyH.cons (o := ⟨some 49, _, _, _, _, _⟩) rfl (fun K hK => ?_) AllReadyH.nil
        refine step_gov (by rfl) 32 _ _ _ (by rfl) (by rfl) (fun _ _ => by kernel_rfl) _ (by rfl) (CM.out _) ?_
        rintro e w4 ⟨rfl, b4⟩
        refine ⟨_, rfl, ?_⟩
        refine hK.out _ _ (kb.trans (b4.mono kb.size)) (fun hHeld => ?_)
        clear hK K
        try simp only [Act.put, List.setIfInBounds_toArray, List.set_cons_zero, List.set_cons_succ]
        refine wpAnyH_take (i := 10) (oi := ⟨some 50, _, _, _, _, _⟩) (v := ?qv10lb) rfl (by kernel_rfl) (by kernel_rfl) (by kernel_rfl) (fun _ _ _ h => h) (Or.inl ⟨by rfl, ?qy10lb⟩) hHeld ?qr10lb
        case qy10lb => (intro w' hSw; go_simp; try with_reducible rfl)
        try simp only [Act.put, List.setIfInBounds_toArray, List.set_cons_zero, List.set_cons_succ]
        refine wpAnyH_done (by kernel_rfl) ?_ _
        refine NoPanic.normal ?_
        have b5 : Below wr.heap.size wr w4 := hHeld
        have R4 := Lib.hid (HR.out.below b5)
        have O4 := Lib.hid (HO.out.trans (.of_below b5 (Nat.le_of_lt hgl.2)))
        have HC := Lib.hid hc
        clear hHeld kb b4 b5 hc
        go_wp2_with fail
        go_roundw
        case rel => exact ⟨I, H, u, k, HI.out, HKK.out, by have := HKK.out; have := HI.out; omega, by omega, rfl, by go_num, H1.out, fun z hz => (by rw [HY.out] at hz; cases hz; exact HC.out), R4.out, O4.out⟩
        case measure => simp [intOf]; omega
    · have t1 : decide ((I : Int) < (J : Int)) = false := by simp; omega
      obtain rfl : u = v := by omega
      obtain rfl : I = J := by omega
      have F2 := Lib.hid (fun w' => FIN.out u w' hvl h1 h2)
      have HR := Lib.hid hr
      have HO := Lib.hid ho
      obtain ⟨E, hE⟩ : ∃ E, E = a + u := ⟨_, rfl⟩
      have q1 : (I : Int) - 1 = (E : Int) := by omega
      have wE : IntKind.i64.wrap (E : Int) = (E : Int) := IntWalk.i64_in _ (by omega)
      have HI := Lib.hid hI
      clear hr ho h1 h2 hI hJ FIN
      go_wp2_with fail
      go_loopw [13] (fun kk wr2 => ∃ (T1 t : Nat), T1 = a + t ∧ t ≤ u ∧ kk = .int .i64 T1 ∧ RowO wr2 B g cap (vals (A ++ (R.take t ++ x :: R.drop t) ++ C)) ∧ OnlG g w wr2) (fun kk _ => E - (intOf kk).toNat)
      case atStart => exact ⟨a, 0, rfl, Nat.zero_le _, rfl, by simpa using HR.out, HO.out⟩
      case round =>
        obtain ⟨T1, t, hK, htu, rfl, hr, ho⟩ := hrel
        by_cases hlt : T1 < E
        · have t1 : decide ((T1 : Int) < (E : Int)) = true := by simp; omega
          have htR : t < R.length := by omega
          have hdt : R.drop t = R[t] :: R.drop (t + 1) := List.drop_eq_getElem_cons htR
          have htt : R.take (t + 1) = R.take t ++ [R[t]] := List.take_succ_eq_append_getElem htR
          have hsy := HSR.out _ (List.getElem_mem htR)
          generalize R[t] = y at *
          have e1 : vals (A ++ (R.take t ++ x :: R.drop t) ++ C) = vals (A ++ R.take t) ++ x.1 :: y.1 :: vals (R.drop (t + 1) ++ C) := by rw [hdt]; simp [vals]
          have e2 : vals (A ++ (R.take (t + 1) ++ x :: R.drop (t + 1)) ++ C) = vals (A ++ R.take t) ++ y.1 :: x.1 :: vals (R.drop (t + 1) ++ C) := by rw [htt]; simp [vals]
          have l0 : (vals (A ++ R.take t)).length = T1 := by rw [vals, List.length_map, List.length_append, HA.out, List.length_take]; omega
          rw [e1] at hr
          have E2 := Lib.hid e2
          generalize vals (A ++ R.take t) = X at *
          generalize vals (R.drop (t + 1) ++ C) = Z at *
          have gx : (X ++ x.1 :: y.1 :: Z)[T1]? = some x.1 := by rw [← l0]; simp
          have gy : (X ++ x.1 :: y.1 :: Z)[T1 + 1]? = some y.1 := by
            have := get_far X [] Z x.1 y.1
            rw [l0] at this
            exact this
          have hset : ((X ++ x.1 :: y.1 :: Z).set T1 y.1).set (T1 + 1) x.1 = X ++ y.1 :: x.1 :: Z := by
            have := swap_far X [] Z x.1 y.1
            rw [l0] at this
            exact this
          have hlv : (X ++ x.1 :: y.1 :: Z).length = n := by
            have := HN.out
            rw [← e1, this]
            simp
            omega
          have q2 : (T1 : Int) + 1 = ((T1 + 1 : Nat) : Int) := by omega
          have w1 : IntKind.i64.wrap ((T1 : Int) + 1) = (T1 : Int) + 1 := IntWalk.i64_in _ (by omega)
          have i1 : (T1 : Int) < (n : Int) := by omega
          have i2 : (T1 : Int) + 1 < (n : Int) := by omega
          have i3 : (0 : Int) ≤ (T1 : Int) + 1 := by omega
          have i4 : (0 : Int) ≤ (T1 : Int) := by omega
          have j1 : T1 + 1 < n := by omega
          have carry : RowO wr.drew B g cap (X ++ x.1 :: y.1 :: Z) ∧ OnlG g w wr.drew := ⟨hr.drew, ho.drew⟩
          have HGX := Lib.hid gx
          have HGY := Lib.hid gy
          have HST := Lib.hid hset
          have HLV := Lib.hid hlv
          have HK := Lib.hid hK
          clear e1 e2 l0 hr ho gx gy hset hlv hdt htt hK q2
          generalize X ++ x.1 :: y.1 :: Z = rr at *
          go_wp2_with fail
          refine wp_region_noPanic ?_
          refine wp_region_held_drew (S := fun _ => True) (by kernel_rfl) (trivial) (fun hHeld => ?_)
          generalize wr.drew = D at hHeld carry ⊢
          have kc := hHeld
          refine wpAnyH_take (i := 0) (oi := ⟨some 61, _, _, _, _, _⟩) (v := ?qv0sl) rfl (by kernel_rfl) (by kernel_rfl) (by kernel_rfl) (fun _ _ _ h => h) (Or.inl ⟨by rfl, ?qy0sl⟩) hHeld ?qr0sl
          case qy0sl => (intro w' hSw; go_simp; try with_reducible rfl)
          try simp only [Act.put, List.setIfInBounds_toArray, List.set_cons_zero, List.set_cons_succ]
          refine wpAnyH_take (i := 1) (oi := ⟨some 62, _, _, _, _, _⟩) (v := ?qv1sl) rfl (by kernel_rfl) (by kernel_rfl) (by kernel_rfl) (fun _ _ _ h => h) (Or.inl ⟨by rfl, ?qy1sl⟩) hHeld ?qr1sl
          case qy1sl => (intro w' hSw; go_simp; try with_reducible rfl)
          try simp only [Act.put, List.setIfInBounds_toArray, List.set_cons_zero, List.set_cons_succ]
          refine wpAnyH_take (i := 2) (oi := ⟨some 63, _, _, _, _, _⟩) (v := ?qv2sl) rfl (by kernel_rfl) (by kernel_rfl) (by kernel_rfl) (fun _ _ _ h => h) (Or.inl ⟨by rfl, ?qy2sl⟩) hHeld ?qr2sl
          case qy2sl => (intro w' hSw; go_simp; try with_reducible rfl)
          try simp only [Act.put, List.setIfInBounds_toArray, List.set_cons_zero, List.set_cons_succ]
          refine wpAnyH_take (i := 3) (oi := ⟨some 64, _, _, _, _, _⟩) (v := ?qv3sl) rfl (by kernel_rfl) (by kernel_rfl) (by kernel_rfl) (fun _ _ _ h => h) (Or.inl ⟨by rfl, ?qy3sl⟩) hHeld ?qr3sl
          case qy3sl => (intro w' hSw; go_simp; try with_reducible rfl)
          try simp only [Act.put, List.setIfInBounds_toArray, List.set_cons_zero, List.set_cons_succ]
          refine wpAnyH_take (i := 4) (oi := ⟨some 65, _, _, _, _, _⟩) (v := ?qv4sl) rfl (by kernel_rfl) (by kernel_rfl) (by kernel_rfl) (fun _ _ _ h => h) (Or.inl ⟨by rfl, ?qy4sl⟩) hHeld ?qr4sl
          case qy4sl => (intro w' hSw; go_simp; try with_reducible rfl)
          try simp only [Act.put, List.setIfInBounds_toArray, List.set_cons_zero, List.set_cons_succ]
          refine wpAnyH_take (i := 5) (oi := ⟨some 66, _, _, _, _, _⟩) (v := ?qv5sl) rfl (by kernel_rfl) (by kernel_rfl) (by kernel_rfl) (fun _ _ _ h => h) (Or.inl ⟨by rfl, ?qy5sl⟩) hHeld ?qr5sl
          case qy5sl => (intro w' hSw; go_simp; try with_reducible rfl)
          try simp only [Act.put, List.setIfInBounds_toArray, List.set_cons_zero, List.set_cons_succ]
          refine wpAnyH_take (i := 6) (oi := ⟨some 67, _, _, _, _, _⟩) (v := ?qv6sl) rfl (by kernel_rfl) (by kernel_rfl) (by kernel_rfl) (fun _ _ _ h => h) (Or.inl ⟨by rfl, ?qy6sl⟩) hHeld ?qr6sl
          case qy6sl => (intro w' hSw; go_simp; try with_reducible rfl)
          try simp only [Act.put, List.setIfInBounds_toArray, List.set_cons_zero, List.set_cons_succ]
          refine wpAnyH_take (i := 7) (oi := ⟨some 68, _, _, _, _, _⟩) (v := ?qv7sl) rfl (by kernel_rfl) (by kernel_rfl) (by kernel_rfl) (fun _ _ _ h => h) (Or.inl ⟨by rfl, ?qy7sl⟩) hHeld ?qr7sl
          case qy7sl => (intro w' hSw; go_simp; try with_reducible rfl)
          try simp only [Act.put, List.setIfInBounds_toArray, List.set_cons_zero, List.set_cons_succ]
          refine wpAnyH_take (i := 8) (oi := ⟨some 69, _, _, _, _, _⟩) (v := ?qv8sl) rfl (by kernel_rfl) (by kernel_rfl) (by kernel_rfl) (fun _ _ _ h => h) (Or.inl ⟨by rfl, ?qy8sl⟩) hHeld ?qr8sl
          case qy8sl => (intro w' hSw; go_simp; try with_reducible rfl)
          try simp only [Act.put, List.setIfInBounds_toArray, List.set_cons_zero, List.set_cons_succ]
          refine wpAnyH_take (i := 10) (oi := ⟨some 71, _, _, _, _, _⟩) (v := ?qv10sl) rfl (by kernel_rfl) (by kernel_rfl) (by kernel_rfl) (fun _ _ _ h => h) (Or.inl ⟨by rfl, ?qy10sl⟩) hHeld ?qr10sl
          case qy10sl => (intro w' hSw; go_simp; try with_reducible rfl)
          try simp only [Act.put, List.setIfInBounds_toArray, List.set_cons_zero, List.set_cons_succ]
          refine wpAnyH_take (i := 11) (oi := ⟨some 72, _, _, _, _, _⟩) (v := ?qv11sl) rfl (by kernel_rfl) (by kernel_rfl) (by kernel_rfl) (fun _ _ _ h => h) (Or.inl ⟨by rfl, ?qy11sl⟩) hHeld ?qr11sl
          case qy11sl => (intro w' hSw; go_simp; try with_reducible rfl)
          try simp only [Act.put, List.setIfInBounds_toArray, List.set_cons_zero, List.set_cons_succ]
          refine wpAnyH_take (i := 12) (oi := ⟨some 73, _, _, _, _, _⟩) (v := ?qv12sl) rfl (by kernel_rfl) (by kernel_rfl) (by kernel_rfl) (fun _ _ _ h => h) (Or.inl ⟨by rfl, ?qy12sl⟩) hHeld ?qr12sl
          case qy12sl => (intro w' hSw; go_simp; try with_reducible rfl)
          try simp only [Act.put, List.setIfInBounds_toArray, List.set_cons_zero, List.set_cons_succ]
          refine wpAnyH_load2 (i := 9) (j := 13) (oi := ⟨some 70, _, _, _, _, _⟩) (oj := ⟨some 74, _, _, _, _, _⟩) (vi := ?vi9sl) (vj := ?vj13sl) rfl rfl (by decide) (by kernel_rfl) (by kernel_rfl) (by kernel_rfl) (Or.inl ⟨by rfl, ?yasl⟩) (Or.inl ⟨by rfl, ?ybsl⟩) (Or.inl ⟨by rfl, ?ycsl⟩) (Or.inl ⟨by rfl, ?ydsl⟩) ?yesl hHeld ?yfsl
          case yasl => (intro w' hSw; subst hSw; obtain ⟨x0, x1, x2, x3⟩ := carry.1.cells HGX.out; obtain ⟨y0, y1, y2, y3⟩ := carry.1.cells HGY.out; go_simp; try with_reducible rfl)
          case ybsl => (intro w' hSw; subst hSw; obtain ⟨x0, x1, x2, x3⟩ := carry.1.cells HGX.out; obtain ⟨y0, y1, y2, y3⟩ := carry.1.cells HGY.out; go_simp; try with_reducible rfl)
          case ycsl => (intro w' hSw; subst hSw; obtain ⟨x0, x1, x2, x3⟩ := carry.1.cells HGX.out; obtain ⟨y0, y1, y2, y3⟩ := carry.1.cells HGY.out; go_simp; try with_reducible rfl)
          case ydsl => (intro w' hSw; subst hSw; obtain ⟨x0, x1, x2, x3⟩ := carry.1.cells HGX.out; obtain ⟨y0, y1, y2, y3⟩ := carry.1.cells HGY.out; go_simp; try with_reducible rfl)
          case yesl => rfl
          try simp only [Act.put, List.setIfInBounds_toArray, List.set_cons_zero, List.set_cons_succ]
          refine wpAnyH_take (i := 14) (oi := ⟨some 75, _, _, _, _, _⟩) (v := ?qv14sl) rfl (by kernel_rfl) (by kernel_rfl) (by kernel_rfl) (fun _ _ _ h => h) (Or.inl ⟨by rfl, ?qy14sl⟩) hHeld ?qr14sl
          case qy14sl => (intro w' hSw; go_simp; try with_reducible rfl)
          try simp only [Act.put, List.setIfInBounds_toArray, List.set_cons_zero, List.set_cons_succ]
          refine wpAnyH_ready (rs := [15]) (by kernel_rfl) (by simp) ?_
          refine AllReadyH.cons (o := ⟨none, _, _, _, _, _⟩) rfl (fun K hK => ?_) AllReadyH.nil
          refine step_store_kd (by rfl) _ _ (by rfl) B g cap T1 _ y.1 (by rfl) (by rfl) hsy carry.1 (by rw [HLV.out]; exact Nat.lt_of_succ_lt j1) ?_
          intro w6 R6 O6
          refine hK.out _ _ trivial (fun hHeld => ?_)
          clear hK K
          try simp only [Act.put, List.setIfInBounds_toArray, List.set_cons_zero, List.set_cons_succ]
          refine wpAnyH_take (i := 16) (oi := ⟨some 76, _, _, _, _, _⟩) (v := ?qv16sl) rfl (by kernel_rfl) (by kernel_rfl) (by kernel_rfl) (fun _ _ _ h => h) (Or.inl ⟨by rfl, ?qy16sl⟩) hHeld ?qr16sl
          case qy16sl => (intro w' hSw; go_simp; try with_reducible rfl)
          try simp only [Act.put, List.setIfInBounds_toArray, List.set_cons_zero, List.set_cons_succ]
          refine wpAnyH_ready (rs := [17]) (by kernel_rfl) (by simp) ?_
          refine AllReadyH.cons (o := ⟨none, _, _, _, _, _⟩) rfl (fun K hK => ?_) AllReadyH.nil
          refine step_store_kd (by rfl) _ _ (by rfl) B g cap (T1 + 1) _ x.1 (by rfl) (by rfl) hsx R6 (by rw [List.length_set, HLV.out]; exact j1) ?_
          intro w7 R7 O7
          refine hK.out _ _ trivial (fun hHeld => ?_)
          clear hK K
          try simp only [Act.put, List.setIfInBounds_toArray, List.set_cons_zero, List.set_cons_succ]
          refine wpAnyH_done (by kernel_rfl) ?_ _
          refine NoPanic.normal ?_
          have R8 := Lib.hid (show RowO w7 B g cap (vals (A ++ (R.take (t + 1) ++ x :: R.drop (t + 1)) ++ C)) by rw [E2.out, ← HST.out]; exact R7)
          have O8 := Lib.hid ((carry.2.trans O6).trans O7)
          clear carry R6 O6 R7 O7 hHeld kc
          go_wp2_with fail
          go_roundw
          case rel => exact ⟨T1 + 1, t + 1, by have := HK.out; omega, by have := HK.out; omega, by go_num, R8.out, O8.out⟩
          case measure => simp [intOf]; omega
        · have t1 : decide ((T1 : Int) < (E : Int)) = false := by simp; omega
          obtain rfl : t = u := by omega
          have F3 := Lib.hid (F2.out wr hr ho)
          clear hr ho F2
          go_wp2_with fail
          exact bodyPost_ret (v := .tuple #[]) (by simp [results, Tryz.results66, go_sem]) rfl ⟨rfl, F3.out⟩
end Go.Proofs.YtoggbmfjjenbaaaGreatDoor
