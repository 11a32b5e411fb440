/- slices.symMergeCmpFunc at items with keys. -/
import Derived.Test.YtoggbmfjjenbaaaGreatDoorTw6
set_option linter.unusedSimpArgs false
set_option linter.unusedVariables false
namespace Go.Proofs.YtoggbmfjjenbaaaGreatDoor
open Go.RowKit

/-- symMergeCmpFunc sorts two sorted rows of less than so many -/
def SymIH (B g cap n d : Nat) : Prop := ∀ (A L R C : List Rk) (w : World) (a m b : Nat), b - a < d → A.length = a → a + L.length = m → m + R.length = b → 1 ≤ L.length → 1 ≤ R.length → n = (A ++ (L ++ R) ++ C).length → RowO w B g cap (vals (A ++ (L ++ R) ++ C)) →
  AllSl L → AllSl R → Srt L → Srt R → (∀ x ∈ L, ∀ y ∈ R, x.2 < y.2) → Calls Tryz.prog 66 #[.slice (some ⟨g, 0, none⟩) n cap, .int .i64 a, .int .i64 m, .int .i64 b, cmpV] w (SymRet B g cap n A L R C w)

theorem nil_or_pos {α : Type} (l : List α) : l = [] ∨ 1 ≤ l.length := by
  cases l with
  | nil => exact .inl rfl
  | cons x l => exact .inr (by simp)

set_option maxRecDepth 100000 in
set_option maxHeartbeats 16000000 in
theorem sym_gen (A L R C : List Rk) (w : World) (B g cap n a m b : Nat) (ha : A.length = a) (hm : a + L.length = m) (hb : m + R.length = b) (hL2 : 2 ≤ L.length) (hR2 : 2 ≤ R.length) (hn : n = (A ++ (L ++ R) ++ C).length) (h : RowO w B g cap (vals (A ++ (L ++ R) ++ C)))
    (hsL : AllSl L) (hsR : AllSl R) (hL : Srt L) (hR : Srt R) (hrk : ∀ x ∈ L, ∀ y ∈ R, x.2 < y.2) (hn2 : n ≤ 1000000) (IH : SymIH B g cap n (b - a)) :
    Calls Tryz.prog 66 #[.slice (some ⟨g, 0, none⟩) n cap, .int .i64 a, .int .i64 m, .int .i64 b, cmpV] w (SymRet B g cap n A L R C w) := by
  have hlen : b + C.length = n := by rw [hn]; simp; omega
  obtain ⟨mid, hmid⟩ : ∃ mid, mid = (a + b) / 2 := ⟨_, rfl⟩
  obtain ⟨nn, hnn⟩ : ∃ nn, nn = mid + m := ⟨_, rfl⟩
  obtain ⟨p, hp⟩ : ∃ p, p + 1 = nn := ⟨nn - 1, by omega⟩
  have q0 : ((m : Int) - (a : Int) == 1) = false := by simp; omega
  have q1 : ((b : Int) - (m : Int) == 1) = false := by simp; omega
  have q2 : ((a : Int) + (b : Int)) / 2 = (mid : Int) := by omega
  have q3 : (mid : Int) + (m : Int) = (nn : Int) := by omega
  have q4 : (nn : Int) - 1 = (p : Int) := by omega
  have wm : IntKind.i64.wrap (mid : Int) = (mid : Int) := IntWalk.i64_in _ (by omega)
  have wn : IntKind.i64.wrap (nn : Int) = (nn : Int) := IntWalk.i64_in _ (by omega)
  have wp : IntKind.i64.wrap (p : Int) = (p : Int) := IntWalk.i64_in _ (by omega)
  have hbd : nn ≤ 4000000 := by omega
  have HW := Lib.hid h
  have HA := Lib.hid ha
  have HM := Lib.hid hm
  have HBB := Lib.hid hb
  have HN := Lib.hid hn
  have HSL := Lib.hid hsL
  have HSR := Lib.hid hsR
  have HMID := Lib.hid hmid
  have HNN := Lib.hid hnn
  have HPP := Lib.hid hp
  have HLL := Lib.hid hL2
  have HRR2 := Lib.hid hR2
  have HIH := Lib.hid IH
  -- the end, from the place s where the rows are cut
  have FIN := Lib.hid (show ∀ u v M1 M2 w', u ≤ L.length → v ≤ R.length → (∀ x y, 0 < u → L[u - 1]? = some x → R[v]? = some y → ltK y.1.1 x.1.1 = false) → (∀ x y, 0 < v → R[v - 1]? = some x → L[u]? = some y → ltK x.1.1 y.1.1 = true) →
      M1.Perm (L.take u ++ R.take v) → M2.Perm (L.drop u ++ R.drop v) → Srt M1 → Srt M2 → RowO w' B g cap (vals (A ++ M1 ++ M2 ++ C)) → OnlG g w w' → ∃ M, M.Perm (L ++ R) ∧ Srt M ∧ RowO w' B g cap (vals (A ++ M ++ C)) ∧ OnlG g w w' from fun u v M1 M2 w' a1 a2 a3 a4 a5 a6 a7 a8 a9 a10 =>
    ⟨M1 ++ M2, by
      refine (a5.append a6).trans ?_
      have e : (L.take u ++ R.take v ++ (L.drop u ++ R.drop v)).Perm (L.take u ++ L.drop u ++ (R.take v ++ R.drop v)) := by
        rw [List.append_assoc, List.append_assoc]
        refine List.Perm.append_left _ ?_
        rw [← List.append_assoc, ← List.append_assoc]
        exact List.Perm.append_right _ List.perm_append_comm
      rw [List.take_append_drop, List.take_append_drop] at e
      exact e, srt_join a7 a8 (fun x hx y hy => sym_cut a1 a2 hL hR hrk a3 a4 x (a5.mem_iff.1 hx) y (a6.mem_iff.1 hy)), by rw [← List.append_assoc A]; exact a9, a10⟩)
  have HL := Lib.hid hL
  have HR0 := Lib.hid hR
  have HRK := Lib.hid hrk
  have hamb : a + 2 ≤ m ∧ m + 2 ≤ b := by omega
  have hm1 : a < mid ∧ mid < b := by omega
  clear ha hm hb hn h hsL hsR hL hR hrk hmid hnn hp IH hL2 hR2
  unfold cmpV SymRet
  go_enter Tryz.func66, Tryz.ntmps66
  by_cases hmm : mid < m
  · obtain ⟨lo, hlo⟩ : ∃ lo, lo + b = nn := ⟨nn - b, by have := HMID.out; have := HNN.out; omega⟩
    have tm : decide ((mid : Int) < (m : Int)) = true := by simp; omega
    have q5 : (nn : Int) - (b : Int) = (lo : Int) := by omega
    have wlo : IntKind.i64.wrap (lo : Int) = (lo : Int) := IntWalk.i64_in _ (by omega)
    have hlh : a ≤ lo ∧ lo ≤ mid ∧ mid ≤ m ∧ m + mid ≤ nn ∧ nn ≤ b + lo := by have := HMID.out; have := HNN.out; omega
    have HLO := Lib.hid (show (lo = a ∨ nn = b + lo) ∧ (mid = m ∨ nn = m + mid) by have := HNN.out; omega)
    clear hlo
    go_wp2_with fail
    go_loopw [20, 21] (fun i j wr => ∃ (S T : Nat), lo ≤ S ∧ S ≤ T ∧ T ≤ mid ∧ i = .int .i64 S ∧ j = .int .i64 T ∧ (∀ x y, lo < S → L[S - 1 - a]? = some x → R[nn - S - m]? = some y → ltK y.1.1 x.1.1 = false) ∧ (∀ x y, T < mid → R[nn - 1 - T - m]? = some x → L[T - a]? = some y → ltK x.1.1 y.1.1 = true) ∧ RowO wr B g cap (vals (A ++ (L ++ R) ++ C)) ∧ OnlG g w wr) (fun i j _ => (intOf j).toNat - (intOf i).toNat)
    case atStart => exact ⟨lo, mid, Nat.le_refl _, by omega, Nat.le_refl _, rfl, rfl, fun x y h => (by omega), fun x y h => (by omega), HW.out, OnlG.refl _ _⟩
    case round =>
      obtain ⟨S, T, hS, hST, hT, rfl, rfl, h1, h2, hr, ho⟩ := hrel
      have hgl := hr.lt
      by_cases hlt : S < T
      · have t1 : decide ((S : Int) < (T : Int)) = true := by simp; omega
        obtain ⟨H, hH⟩ : ∃ H, H = (S + T) / 2 := ⟨_, rfl⟩
        have hHI : S ≤ H ∧ H < T := by omega
        obtain ⟨P, hP⟩ : ∃ P, P + H = p := ⟨p - H, by have := HPP.out; have := HNN.out; omega⟩
        have hPb : m ≤ P ∧ P < b ∧ a ≤ H ∧ H < m := by have := HPP.out; have := HNN.out; omega
        have q6 : ((S : Int) + (T : Int)) / 2 = (H : Int) := by omega
        have q7 : (p : Int) - (H : Int) = (P : Int) := by omega
        have wH : IntKind.i64.wrap (H : Int) = (H : Int) := IntWalk.i64_in _ (by omega)
        have wP : IntKind.i64.wrap (P : Int) = (P : Int) := IntWalk.i64_in _ (by omega)
        have hkL : H - a < L.length := by have := HM.out; omega
        have hkR : P - m < R.length := by have := HBB.out; omega
        have hx : L[H - a]? = some L[H - a] := List.getElem?_eq_getElem hkL
        have hy : R[P - m]? = some R[P - m] := List.getElem?_eq_getElem hkR
        have hsx := HSL.out _ (List.getElem_mem hkL)
        have hsy := HSR.out _ (List.getElem_mem hkR)
        generalize L[H - a] = x at *
        generalize R[P - m] = y at *
        have gx : (vals (A ++ (L ++ R) ++ C))[H]? = some x.1 := by
          have := vals_at (A := A) (L := L ++ R) (C := C) (k := H - a) (y := x) (by rw [List.getElem?_append_left hkL]; exact hx)
          rwa [HA.out, show a + (H - a) = H by omega] at this
        have gy : (vals (A ++ (L ++ R) ++ C))[P]? = some y.1 := by
          have := vals_at (A := A) (L := L ++ R) (C := C) (k := P - a) (y := y) (by
            have := HM.out
            rw [List.getElem?_append_right (by omega), show P - a - L.length = P - m by omega]; exact hy)
          rwa [HA.out, show a + (P - a) = P by omega] at this
        obtain ⟨x0, x1, x2, x3⟩ := hr.cells gx
        obtain ⟨y0, y1, y2, y3⟩ := hr.cells gy
        have CM := Lib.hid (fun w => cmp_any y.1 x.1 w hsy hsx)
        have HR := Lib.hid hr
        have HO := Lib.hid ho
        have HX := Lib.hid hx
        have HY := Lib.hid hy
        have H1 := Lib.hid h1
        have H2 := Lib.hid h2
        have i1 : (H : Int) < (n : Int) := by omega
        have i2 : (P : Int) < (n : Int) := by omega
        have HPE := Lib.hid hP
        clear hr ho gx gy h1 h2 hx hy hH hP
        go_wp2_with fail
        cases hc : ltK y.1.1 x.1.1 with
        | false =>
          have hc' := hc
          rw [← cmpK_neg] at hc'
          refine wp_region_noPanic ?_
          refine wp_region_held_drew (S := fun w' => Below wr.heap.size wr w') (by kernel_rfl) (Below.refl _ _).drew (fun hHeld => ?_)
          generalize wr.drew = D at hHeld ⊢
          have kb : Below wr.heap.size wr D := hHeld
          refine wpAnyH_take (i := 0) (oi := ⟨some 158, _, _, _, _, _⟩) (v := ?qv0ga1) rfl (by kernel_rfl) (by kernel_rfl) (by kernel_rfl) (fun _ _ _ h => h) (Or.inl ⟨by rfl, ?qy0ga1⟩) hHeld ?qr0ga1
          case qy0ga1 => (intro w' hSw; go_simp; try with_reducible rfl)
          try simp only [Act.put, List.setIfInBounds_toArray, List.set_cons_zero, List.set_cons_succ]
          refine wpAnyH_take (i := 1) (oi := ⟨some 159, _, _, _, _, _⟩) (v := ?qv1ga1) rfl (by kernel_rfl) (by kernel_rfl) (by kernel_rfl) (fun _ _ _ h => h) (Or.inl ⟨by rfl, ?qy1ga1⟩) hHeld ?qr1ga1
          case qy1ga1 => (intro w' hSw; go_simp; try with_reducible rfl)
          try simp only [Act.put, List.setIfInBounds_toArray, List.set_cons_zero, List.set_cons_succ]
          refine wpAnyH_take (i := 2) (oi := ⟨some 160, _, _, _, _, _⟩) (v := ?qv2ga1) rfl (by kernel_rfl) (by kernel_rfl) (by kernel_rfl) (fun _ _ _ h => h) (Or.inl ⟨by rfl, ?qy2ga1⟩) hHeld ?qr2ga1
          case qy2ga1 => (intro w' hSw; go_simp; try with_reducible rfl)
          try simp only [Act.put, List.setIfInBounds_toArray, List.set_cons_zero, List.set_cons_succ]
          refine wpAnyH_take (i := 3) (oi := ⟨some 161, _, _, _, _, _⟩) (v := ?qv3ga1) rfl (by kernel_rfl) (by kernel_rfl) (by kernel_rfl) (fun _ _ _ h => h) (Or.inl ⟨by rfl, ?qy3ga1⟩) hHeld ?qr3ga1
          case qy3ga1 => (intro w' hSw; go_simp; try with_reducible rfl)
          try simp only [Act.put, List.setIfInBounds_toArray, List.set_cons_zero, List.set_cons_succ]
          refine wpAnyH_take (i := 4) (oi := ⟨some 162, _, _, _, _, _⟩) (v := ?qv4ga1) rfl (by kernel_rfl) (by kernel_rfl) (by kernel_rfl) (fun _ _ _ h => h) (Or.inl ⟨by rfl, ?qy4ga1⟩) hHeld ?qr4ga1
          case qy4ga1 => (intro w' hSw; go_simp; try with_reducible rfl)
          try simp only [Act.put, List.setIfInBounds_toArray, List.set_cons_zero, List.set_cons_succ]
          refine wpAnyH_take (i := 5) (oi := ⟨some 163, _, _, _, _, _⟩) (v := ?qv5ga1) rfl (by kernel_rfl) (by kernel_rfl) (by kernel_rfl) (fun _ _ _ h => h) (Or.inl ⟨by rfl, ?qy5ga1⟩) hHeld ?qr5ga1
          case qy5ga1 => (intro w' hSw; go_simp; try with_reducible rfl)
          try simp only [Act.put, List.setIfInBounds_toArray, List.set_cons_zero, List.set_cons_succ]
          refine wpAnyH_take (i := 6) (oi := ⟨some 164, _, _, _, _, _⟩) (v := ?qv6ga1) rfl (by kernel_rfl) (by kernel_rfl) (by kernel_rfl) (fun _ _ _ h => h) (Or.inl ⟨by rfl, ?qy6ga1⟩) hHeld ?qr6ga1
          case qy6ga1 => (intro w' hSw; have py0 := (hSw.cell (p := ⟨g, P * 4, none⟩) hgl.2).trans y0; have py1 := (hSw.cell (p := ⟨g, P * 4 + 1, none⟩) hgl.2).trans y1; have py2 := (hSw.cell (p := ⟨g, P * 4 + 2, none⟩) hgl.2).trans y2; have py3 := (hSw.cell (p := ⟨g, P * 4 + 3, none⟩) hgl.2).trans y3; have px0 := (hSw.cell (p := ⟨g, H * 4, none⟩) hgl.2).trans x0; have px1 := (hSw.cell (p := ⟨g, H * 4 + 1, none⟩) hgl.2).trans x1; have px2 := (hSw.cell (p := ⟨g, H * 4 + 2, none⟩) hgl.2).trans x2; have px3 := (hSw.cell (p := ⟨g, H * 4 + 3, none⟩) hgl.2).trans x3; go_simp; try with_reducible rfl)
          try simp only [Act.put, List.setIfInBounds_toArray, List.set_cons_zero, List.set_cons_succ]
          refine wpAnyH_take (i := 7) (oi := ⟨some 165, _, _, _, _, _⟩) (v := ?qv7ga1) rfl (by kernel_rfl) (by kernel_rfl) (by kernel_rfl) (fun _ _ _ h => h) (Or.inl ⟨by rfl, ?qy7ga1⟩) hHeld ?qr7ga1
          case qy7ga1 => (intro w' hSw; go_simp; try with_reducible rfl)
          try simp only [Act.put, List.setIfInBounds_toArray, List.set_cons_zero, List.set_cons_succ]
          refine wpAnyH_take (i := 8) (oi := ⟨some 166, _, _, _, _, _⟩) (v := ?qv8ga1) rfl (by kernel_rfl) (by kernel_rfl) (by kernel_rfl) (fun _ _ _ h => h) (Or.inl ⟨by rfl, ?qy8ga1⟩) hHeld ?qr8ga1
          case qy8ga1 => (intro w' hSw; go_simp; try with_reducible rfl)
          try simp only [Act.put, List.setIfInBounds_toArray, List.set_cons_zero, List.set_cons_succ]
          refine wpAnyH_take (i := 9) (oi := ⟨some 167, _, _, _, _, _⟩) (v := ?qv9ga1) rfl (by kernel_rfl) (by kernel_rfl) (by kernel_rfl) (fun _ _ _ h => h) (Or.inl ⟨by rfl, ?qy9ga1⟩) hHeld ?qr9ga1
          case qy9ga1 => (intro w' hSw; go_simp; try with_reducible rfl)
          try simp only [Act.put, List.setIfInBounds_toArray, List.set_cons_zero, List.set_cons_succ]
          refine wpAnyH_take (i := 10) (oi := ⟨some 168, _, _, _, _, _⟩) (v := ?qv10ga1) rfl (by kernel_rfl) (by kernel_rfl) (by kernel_rfl) (fun _ _ _ h => h) (Or.inl ⟨by rfl, ?qy10ga1⟩) hHeld ?qr10ga1
          case qy10ga1 => (intro w' hSw; have py0 := (hSw.cell (p := ⟨g, P * 4, none⟩) hgl.2).trans y0; have py1 := (hSw.cell (p := ⟨g, P * 4 + 1, none⟩) hgl.2).trans y1; have py2 := (hSw.cell (p := ⟨g, P * 4 + 2, none⟩) hgl.2).trans y2; have py3 := (hSw.cell (p := ⟨g, P * 4 + 3, none⟩) hgl.2).trans y3; have px0 := (hSw.cell (p := ⟨g, H * 4, none⟩) hgl.2).trans x0; have px1 := (hSw.cell (p := ⟨g, H * 4 + 1, none⟩) hgl.2).trans x1; have px2 := (hSw.cell (p := ⟨g, H * 4 + 2, none⟩) hgl.2).trans x2; have px3 := (hSw.cell (p := ⟨g, H * 4 + 3, none⟩) hgl.2).trans x3; go_simp; try with_reducible rfl)
          try simp only [Act.put, List.setIfInBounds_toArray, List.set_cons_zero, List.set_cons_succ]
          refine wpAnyH_ready (rs := [11]) (by kernel_rfl) (by simp) ?_
          refine AllReadyH.cons (o := ⟨some 169, _, _, _, _, _⟩) rfl (fun K hK => ?_) AllReadyH.nil
          refine step_gov (by rfl) 32 _ _ _ (by rfl) (by rfl) (fun _ _ => by kernel_rfl) _ (by rfl) (CM.out _) ?_
          rintro e w4 ⟨rfl, b4⟩
          refine ⟨_, rfl, ?_⟩
          refine hK.out _ _ (kb.trans (b4.mono kb.size)) (fun hHeld => ?_)
          clear hK K
          try simp only [Act.put, List.setIfInBounds_toArray, List.set_cons_zero, List.set_cons_succ]
          refine wpAnyH_take (i := 12) (oi := ⟨some 170, _, _, _, _, _⟩) (v := ?qv12ga1) rfl (by kernel_rfl) (by kernel_rfl) (by kernel_rfl) (fun _ _ _ h => h) (Or.inl ⟨by rfl, ?qy12ga1⟩) hHeld ?qr12ga1
          case qy12ga1 => (intro w' hSw; go_simp; try with_reducible rfl)
          try simp only [Act.put, List.setIfInBounds_toArray, List.set_cons_zero, List.set_cons_succ]
          refine wpAnyH_take (i := 13) (oi := ⟨some 171, _, _, _, _, _⟩) (v := ?qv13ga1) rfl (by kernel_rfl) (by kernel_rfl) (by kernel_rfl) (fun _ _ _ h => h) (Or.inl ⟨by rfl, ?qy13ga1⟩) hHeld ?qr13ga1
          case qy13ga1 => (intro w' hSw; go_simp; try with_reducible rfl)
          try simp only [Act.put, List.setIfInBounds_toArray, List.set_cons_zero, List.set_cons_succ]
          refine wpAnyH_done (by kernel_rfl) ?_ _
          refine NoPanic.normal ?_
          have b5 : Below wr.heap.size wr w4 := hHeld
          have R4 := Lib.hid (HR.out.below b5)
          have O4 := Lib.hid (HO.out.trans (.of_below b5 (Nat.le_of_lt hgl.2)))
          have HC := Lib.hid hc
          clear hHeld kb b4 b5 hc
          go_wp2_with fail
          go_roundw
          case rel => exact ⟨H + 1, T, by omega, by omega, hT, by go_num, rfl, fun x' y' _ hx' hy' => (by
            rw [Nat.add_sub_cancel, HX.out] at hx'
            rw [show nn - (H + 1) - m = P - m by have := HPP.out; have := HPE.out; omega, HY.out] at hy'
            cases hx'; cases hy'; exact HC.out), H2.out, R4.out, O4.out⟩
          case measure => simp [intOf]; omega
        | true =>
          have hc' := hc
          rw [← cmpK_neg] at hc'
          refine wp_region_noPanic ?_
          refine wp_region_held_drew (S := fun w' => Below wr.heap.size wr w') (by kernel_rfl) (Below.refl _ _).drew (fun hHeld => ?_)
          generalize wr.drew = D at hHeld ⊢
          have kb : Below wr.heap.size wr D := hHeld
          refine wpAnyH_take (i := 0) (oi := ⟨some 158, _, _, _, _, _⟩) (v := ?qv0ga2) rfl (by kernel_rfl) (by kernel_rfl) (by kernel_rfl) (fun _ _ _ h => h) (Or.inl ⟨by rfl, ?qy0ga2⟩) hHeld ?qr0ga2
          case qy0ga2 => (intro w' hSw; go_simp; try with_reducible rfl)
          try simp only [Act.put, List.setIfInBounds_toArray, List.set_cons_zero, List.set_cons_succ]
          refine wpAnyH_take (i := 1) (oi := ⟨some 159, _, _, _, _, _⟩) (v := ?qv1ga2) rfl (by kernel_rfl) (by kernel_rfl) (by kernel_rfl) (fun _ _ _ h => h) (Or.inl ⟨by rfl, ?qy1ga2⟩) hHeld ?qr1ga2
          case qy1ga2 => (intro w' hSw; go_simp; try with_reducible rfl)
          try simp only [Act.put, List.setIfInBounds_toArray, List.set_cons_zero, List.set_cons_succ]
          refine wpAnyH_take (i := 2) (oi := ⟨some 160, _, _, _, _, _⟩) (v := ?qv2ga2) rfl (by kernel_rfl) (by kernel_rfl) (by kernel_rfl) (fun _ _ _ h => h) (Or.inl ⟨by rfl, ?qy2ga2⟩) hHeld ?qr2ga2
          case qy2ga2 => (intro w' hSw; go_simp; try with_reducible rfl)
          try simp only [Act.put, List.setIfInBounds_toArray, List.set_cons_zero, List.set_cons_succ]
          refine wpAnyH_take (i := 3) (oi := ⟨some 161, _, _, _, _, _⟩) (v := ?qv3ga2) rfl (by kernel_rfl) (by kernel_rfl) (by kernel_rfl) (fun _ _ _ h => h) (Or.inl ⟨by rfl, ?qy3ga2⟩) hHeld ?qr3ga2
          case qy3ga2 => (intro w' hSw; go_simp; try with_reducible rfl)
          try simp only [Act.put, List.setIfInBounds_toArray, List.set_cons_zero, List.set_cons_succ]
          refine wpAnyH_take (i := 4) (oi := ⟨some 162, _, _, _, _, _⟩) (v := ?qv4ga2) rfl (by kernel_rfl) (by kernel_rfl) (by kernel_rfl) (fun _ _ _ h => h) (Or.inl ⟨by rfl, ?qy4ga2⟩) hHeld ?qr4ga2
          case qy4ga2 => (intro w' hSw; go_simp; try with_reducible rfl)
          try simp only [Act.put, List.setIfInBounds_toArray, List.set_cons_zero, List.set_cons_succ]
          refine wpAnyH_take (i := 5) (oi := ⟨some 163, _, _, _, _, _⟩) (v := ?qv5ga2) rfl (by kernel_rfl) (by kernel_rfl) (by kernel_rfl) (fun _ _ _ h => h) (Or.inl ⟨by rfl, ?qy5ga2⟩) hHeld ?qr5ga2
          case qy5ga2 => (intro w' hSw; go_simp; try with_reducible rfl)
          try simp only [Act.put, List.setIfInBounds_toArray, List.set_cons_zero, List.set_cons_succ]
          refine wpAnyH_take (i := 6) (oi := ⟨some 164, _, _, _, _, _⟩) (v := ?qv6ga2) rfl (by kernel_rfl) (by kernel_rfl) (by kernel_rfl) (fun _ _ _ h => h) (Or.inl ⟨by rfl, ?qy6ga2⟩) hHeld ?qr6ga2
          case qy6ga2 => (intro w' hSw; have py0 := (hSw.cell (p := ⟨g, P * 4, none⟩) hgl.2).trans y0; have py1 := (hSw.cell (p := ⟨g, P * 4 + 1, none⟩) hgl.2).trans y1; have py2 := (hSw.cell (p := ⟨g, P * 4 + 2, none⟩) hgl.2).trans y2; have py3 := (hSw.cell (p := ⟨g, P * 4 + 3, none⟩) hgl.2).trans y3; have px0 := (hSw.cell (p := ⟨g, H * 4, none⟩) hgl.2).trans x0; have px1 := (hSw.cell (p := ⟨g, H * 4 + 1, none⟩) hgl.2).trans x1; have px2 := (hSw.cell (p := ⟨g, H * 4 + 2, none⟩) hgl.2).trans x2; have px3 := (hSw.cell (p := ⟨g, H * 4 + 3, none⟩) hgl.2).trans x3; go_simp; try with_reducible rfl)
          try simp only [Act.put, List.setIfInBounds_toArray, List.set_cons_zero, List.set_cons_succ]
          refine wpAnyH_take (i := 7) (oi := ⟨some 165, _, _, _, _, _⟩) (v := ?qv7ga2) rfl (by kernel_rfl) (by kernel_rfl) (by kernel_rfl) (fun _ _ _ h => h) (Or.inl ⟨by rfl, ?qy7ga2⟩) hHeld ?qr7ga2
          case qy7ga2 => (intro w' hSw; go_simp; try with_reducible rfl)
          try simp only [Act.put, List.setIfInBounds_toArray, List.set_cons_zero, List.set_cons_succ]
          refine wpAnyH_take (i := 8) (oi := ⟨some 166, _, _, _, _, _⟩) (v := ?qv8ga2) rfl (by kernel_rfl) (by kernel_rfl) (by kernel_rfl) (fun _ _ _ h => h) (Or.inl ⟨by rfl, ?qy8ga2⟩) hHeld ?qr8ga2
          case qy8ga2 => (intro w' hSw; go_simp; try with_reducible rfl)
          try simp only [Act.put, List.setIfInBounds_toArray, List.set_cons_zero, List.set_cons_succ]
          refine wpAnyH_take (i := 9) (oi := ⟨some 167, _, _, _, _, _⟩) (v := ?qv9ga2) rfl (by kernel_rfl) (by kernel_rfl) (by kernel_rfl) (fun _ _ _ h => h) (Or.inl ⟨by rfl, ?qy9ga2⟩) hHeld ?qr9ga2
          case qy9ga2 => (intro w' hSw; go_simp; try with_reducible rfl)
          try simp only [Act.put, List.setIfInBounds_toArray, List.set_cons_zero, List.set_cons_succ]
          refine wpAnyH_take (i := 10) (oi := ⟨some 168, _, _, _, _, _⟩) (v := ?qv10ga2) rfl (by kernel_rfl) (by kernel_rfl) (by kernel_rfl) (fun _ _ _ h => h) (Or.inl ⟨by rfl, ?qy10ga2⟩) hHeld ?qr10ga2
          case qy10ga2 => (intro w' hSw; have py0 := (hSw.cell (p := ⟨g, P * 4, none⟩) hgl.2).trans y0; have py1 := (hSw.cell (p := ⟨g, P * 4 + 1, none⟩) hgl.2).trans y1; have py2 := (hSw.cell (p := ⟨g, P * 4 + 2, none⟩) hgl.2).trans y2; have py3 := (hSw.cell (p := ⟨g, P * 4 + 3, none⟩) hgl.2).trans y3; have px0 := (hSw.cell (p := ⟨g, H * 4, none⟩) hgl.2).trans x0; have px1 := (hSw.cell (p := ⟨g, H * 4 + 1, none⟩) hgl.2).trans x1; have px2 := (hSw.cell (p := ⟨g, H * 4 + 2, none⟩) hgl.2).trans x2; have px3 := (hSw.cell (p := ⟨g, H * 4 + 3, none⟩) hgl.2).trans x3; go_simp; try with_reducible rfl)
          try simp only [Act.put, List.setIfInBounds_toArray, List.set_cons_zero, List.set_cons_succ]
          refine wpAnyH_ready (rs := [11]) (by kernel_rfl) (by simp) ?_
          refine AllReadyH.cons (o := ⟨some 169, _, _, _, _, _⟩) rfl (fun K hK => ?_) AllReadyH.nil
          refine step_gov (by rfl) 32 _ _ _ (by rfl) (by rfl) (fun _ _ => by kernel_rfl) _ (by rfl) (CM.out _) ?_
          rintro e w4 ⟨rfl, b4⟩
          refine ⟨_, rfl, ?_⟩
          refine hK.out _ _ (kb.trans (b4.mono kb.size)) (fun hHeld => ?_)
          clear hK K
          try simp only [Act.put, List.setIfInBounds_toArray, List.set_cons_zero, List.set_cons_succ]
          refine wpAnyH_take (i := 12) (oi := ⟨some 170, _, _, _, _, _⟩) (v := ?qv12ga2) rfl (by kernel_rfl) (by kernel_rfl) (by kernel_rfl) (fun _ _ _ h => h) (Or.inl ⟨by rfl, ?qy12ga2⟩) hHeld ?qr12ga2
          case qy12ga2 => (intro w' hSw; go_simp; try with_reducible rfl)
          try simp only [Act.put, List.setIfInBounds_toArray, List.set_cons_zero, List.set_cons_succ]
          refine wpAnyH_take (i := 13) (oi := ⟨some 171, _, _, _, _, _⟩) (v := ?qv13ga2) rfl (by kernel_rfl) (by kernel_rfl) (by kernel_rfl) (fun _ _ _ h => h) (Or.inl ⟨by rfl, ?qy13ga2⟩) hHeld ?qr13ga2
          case qy13ga2 => (intro w' hSw; go_simp; try with_reducible rfl)
          try simp only [Act.put, List.setIfInBounds_toArray, List.set_cons_zero, List.set_cons_succ]
          refine wpAnyH_done (by kernel_rfl) ?_ _
          refine NoPanic.normal ?_
          have b5 : Below wr.heap.size wr w4 := hHeld
          have R4 := Lib.hid (HR.out.below b5)
          have O4 := Lib.hid (HO.out.trans (.of_below b5 (Nat.le_of_lt hgl.2)))
          have HC := Lib.hid hc
          clear hHeld kb b4 b5 hc
          go_wp2_with fail
          go_roundw
          case rel => exact ⟨S, H, hS, by omega, by omega, rfl, by go_num, H1.out, fun x' y' _ hx' hy' => (by
            rw [show nn - 1 - H - m = P - m by have := HPP.out; have := HPE.out; omega, HY.out] at hx'
            rw [HX.out] at hy'
            cases hx'; cases hy'; exact HC.out), R4.out, O4.out⟩
          case measure => simp [intOf]; omega
      · have t1 : decide ((S : Int) < (T : Int)) = false := by simp; omega
        obtain rfl : S = T := by omega
        obtain ⟨E, hE⟩ : ∃ E, E + S = nn := ⟨nn - S, by have := HNN.out; omega⟩
        obtain ⟨u, hu⟩ : ∃ u, a + u = S := ⟨S - a, by omega⟩
        obtain ⟨v, hv⟩ : ∃ v, m + v = E := ⟨E - m, by omega⟩
        have huL : u ≤ L.length := by have := HM.out; omega
        have hvR : v ≤ R.length := by have := HBB.out; omega
        have q8 : (nn : Int) - (S : Int) = (E : Int) := by omega
        have wE : IntKind.i64.wrap (E : Int) = (E : Int) := IntWalk.i64_in _ (by omega)
        have huv : a + u + v = mid := by have := HNN.out; omega
        have F2 := Lib.hid (fun M1 M2 w' => FIN.out u v M1 M2 w' huL hvR (fun x y h0 hx hy => by
            by_cases hs : lo < S
            · exact h1 x y hs (by rw [show S - 1 - a = u - 1 by omega]; exact hx) (by rw [show nn - S - m = v by omega]; exact hy)
            · exfalso
              have := HLO.out.1
              have := HBB.out
              have := (List.getElem?_eq_some_iff.1 hy).1
              omega) (fun x y h0 hx hy => by
            by_cases hs : S < mid
            · exact h2 x y hs (by rw [show nn - 1 - S - m = v - 1 by omega]; exact hx) (by rw [show S - a = u by omega]; exact hy)
            · exfalso
              have := HLO.out.2
              have := HM.out
              have := (List.getElem?_eq_some_iff.1 hy).1
              omega))
        have eL := List.take_append_drop u L
        have eR := List.take_append_drop v R
        have l1 : (L.take u).length = u := by rw [List.length_take]; omega
        have l2 : (L.drop u).length + u = L.length := by rw [List.length_drop]; omega
        have l3 : (R.take v).length = v := by rw [List.length_take]; omega
        have l4 : (R.drop v).length + v = R.length := by rw [List.length_drop]; omega
        have s1 : AllSl (L.take u) := fun x hx => HSL.out x (List.mem_of_mem_take hx)
        have s2 : AllSl (L.drop u) := fun x hx => HSL.out x (List.mem_of_mem_drop hx)
        have s3 : AllSl (R.take v) := fun x hx => HSR.out x (List.mem_of_mem_take hx)
        have s4 : AllSl (R.drop v) := fun x hx => HSR.out x (List.mem_of_mem_drop hx)
        have o1 := srt_take HL.out u
        have o2 := srt_drop HL.out u
        have o3 := srt_take HR0.out v
        have o4 := srt_drop HR0.out v
        have k1 : ∀ x ∈ L.take u, ∀ y ∈ R.take v, x.2 < y.2 := fun x hx y hy => HRK.out x (List.mem_of_mem_take hx) y (List.mem_of_mem_take hy)
        have k2 : ∀ x ∈ L.drop u, ∀ y ∈ R.drop v, x.2 < y.2 := fun x hx y hy => HRK.out x (List.mem_of_mem_drop hx) y (List.mem_of_mem_drop hy)
        have hr' : RowO wr B g cap (vals (A ++ L.take u ++ L.drop u ++ R.take v ++ (R.drop v ++ C))) := by
          have e : A ++ L.take u ++ L.drop u ++ R.take v ++ (R.drop v ++ C) = A ++ (L ++ R) ++ C := by
            conv => rhs; rw [← eL, ← eR]
            simp only [List.append_assoc]
          rw [e]; exact hr
        have hn' : n = A.length + u + (L.drop u).length + v + (R.drop v).length + C.length := by
          rw [HN.out]; simp; omega
        have HAS : A.length + u = S := by have := HA.out; omega
        have HAm : A.length = a := HA.out
        have lm : a + L.length = m := HM.out
        have lb : m + R.length = b := HBB.out
        generalize L.take u = L1 at *
        generalize L.drop u = L2 at *
        generalize R.take v = R1 at *
        generalize R.drop v = R2 at *
        have RT := Lib.hid (fun (c1 : S < m) (c2 : m < E) => rot_any (vals (A ++ L1)) (vals L2) (vals R1) (vals (R2 ++ C)) wr B g cap n S m E (by simp [vals]; omega) (by simp [vals]; omega) (by simp [vals]; omega) c1 c2 (by rw [hn']; simp [vals]; omega) (by simpa [vals] using hr') (fun x hx => by obtain ⟨z, hz, rfl⟩ := List.mem_map.1 hx; exact s2 z hz) (fun x hx => by obtain ⟨z, hz, rfl⟩ := List.mem_map.1 hx; exact s3 z hz) hn2)
        have S1 := Lib.hid (fun w' (c1 : a < S) (c2 : S < mid) (hr2 : RowO w' B g cap (vals (A ++ (L1 ++ R1) ++ (L2 ++ R2 ++ C)))) => HIH.out A L1 R1 (L2 ++ R2 ++ C) w' a S mid (by omega) HAm (by omega) (by omega) (by omega) (by omega) (by rw [hn']; simp; omega) hr2 s1 s3 o1 o3 k1)
        have S2 := Lib.hid (fun M1 w' (hM : M1.length = u + v) (c1 : mid < E) (c2 : E < b) (hr3 : RowO w' B g cap (vals (A ++ M1 ++ (L2 ++ R2) ++ C))) => HIH.out (A ++ M1) L2 R2 C w' mid E b (by omega) (by rw [List.length_append]; omega) (by omega) (by omega) (by omega) (by omega) (by rw [hn']; simp; omega) hr3 s2 s4 o2 o4 k2)
        have E0 : S = m ∨ E = m → RowO wr B g cap (vals (A ++ (L1 ++ R1) ++ (L2 ++ R2 ++ C))) := fun hc => by
          have e : vals (A ++ (L1 ++ R1) ++ (L2 ++ R2 ++ C)) = vals (A ++ L1 ++ L2 ++ R1 ++ (R2 ++ C)) := by
            rcases hc with hc | hc
            · have : L2 = [] := List.eq_nil_of_length_eq_zero (by omega)
              subst this; simp only [List.append_assoc, List.nil_append]
            · have : R1 = [] := List.eq_nil_of_length_eq_zero (by omega)
              subst this; simp only [List.append_assoc, List.nil_append]
          rw [e]; exact hr'
        have ER : ∀ w', RowO w' B g cap (vals (A ++ L1) ++ vals R1 ++ vals L2 ++ vals (R2 ++ C)) → RowO w' B g cap (vals (A ++ (L1 ++ R1) ++ (L2 ++ R2 ++ C))) := fun w' q => by
          have e : vals (A ++ (L1 ++ R1) ++ (L2 ++ R2 ++ C)) = vals (A ++ L1) ++ vals R1 ++ vals L2 ++ vals (R2 ++ C) := by simp [vals]
          rw [e]; exact q
        have N1 : ¬ (a < S ∧ S < mid) → Srt (L1 ++ R1) := fun hc => by
          rcases nil_or_pos L1 with h | h
          · rw [h]; exact o3
          · rcases nil_or_pos R1 with h' | h'
            · rw [h', List.append_nil]; exact o1
            · exact absurd ⟨by omega, by omega⟩ hc
        have N2 : ¬ (mid < E ∧ E < b) → Srt (L2 ++ R2) := fun hc => by
          rcases nil_or_pos L2 with h | h
          · rw [h]; exact o4
          · rcases nil_or_pos R2 with h' | h'
            · rw [h', List.append_nil]; exact o2
            · exact absurd ⟨by omega, by omega⟩ hc
        have HNM := Lib.hid N1
        have HNM2 := Lib.hid N2
        have HER := Lib.hid ER
        have HE0 := Lib.hid E0
        have HO := Lib.hid ho
        have HLN := Lib.hid (And.intro l1 l3)
        clear h1 h2 hr hr' ho s1 s2 s3 s4 o1 o2 o3 o4 k1 k2 hn' HAS HAm eL eR l1 l2 l3 l4 E0 ER N1 N2 hE hu hv huL hvR lm lb HLO huv FIN
        by_cases p1 : S < m
        · have d1 : decide ((S : Int) < (m : Int)) = true := by simp; omega
          have d5 : decide ((mid : Int) < (E : Int)) = true := by simp; omega
          by_cases p2 : m < E
          · have d2 : decide ((m : Int) < (E : Int)) = true := by simp; omega
            have d4 : decide ((S : Int) < (mid : Int)) = true := by simp; omega
            by_cases p3 : a < S
            · have d3 : decide ((a : Int) < (S : Int)) = true := by simp; omega
              by_cases p4 : E < b
              · have d6 : decide ((E : Int) < (b : Int)) = true := by simp; omega
                first
                | (exfalso; omega)
                | (have RT2 := Lib.hid (RT.out p1 p2)
                   go_wp2_with fail
                   refine RT2.out.mono ?_
                   rintro e wa ⟨rfl, ra, oa⟩
                   have D2 := Lib.hid (HER.out wa ra)
                   have OA := Lib.hid (HO.out.trans oa)
                   clear ra oa RT2 RT
                   have S1b := Lib.hid (S1.out _ p3 (by omega) D2.out)
                   go_wp2_with fail
                   refine S1b.out.mono ?_
                   rintro e wb ⟨rfl, M1, pm, sm, rb, ob⟩
                   have PM := Lib.hid pm
                   have SM := Lib.hid sm
                   have RB := Lib.hid (show RowO wb B g cap (vals (A ++ M1 ++ (L2 ++ R2) ++ C)) by simpa only [List.append_assoc] using rb)
                   have OB := Lib.hid (OA.out.trans ob)
                   clear pm sm rb ob S1b
                   have S2b := Lib.hid (S2.out M1 _ (by rw [PM.out.length_eq, List.length_append]; have := HLN.out; omega) (by omega) p4 RB.out)
                   go_wp2_with fail
                   refine S2b.out.mono ?_
                   rintro e wc ⟨rfl, M2, pm2, sm2, rc, oc⟩
                   have F3 := Lib.hid (F2.out M1 M2 wc PM.out pm2 SM.out sm2 rc (OB.out.trans oc))
                   clear pm2 sm2 rc oc S2b
                   go_wp2_with fail
                   go_end0
                   exact ⟨rfl, F3.out⟩)
              · have d6 : decide ((E : Int) < (b : Int)) = false := by simp; omega
                first
                | (exfalso; omega)
                | (have RT2 := Lib.hid (RT.out p1 p2)
                   go_wp2_with fail
                   refine RT2.out.mono ?_
                   rintro e wa ⟨rfl, ra, oa⟩
                   have D2 := Lib.hid (HER.out wa ra)
                   have OA := Lib.hid (HO.out.trans oa)
                   clear ra oa RT2 RT
                   have S1b := Lib.hid (S1.out _ p3 (by omega) D2.out)
                   go_wp2_with fail
                   refine S1b.out.mono ?_
                   rintro e wb ⟨rfl, M1, pm, sm, rb, ob⟩
                   have PM := Lib.hid pm
                   have SM := Lib.hid sm
                   have RB := Lib.hid (show RowO wb B g cap (vals (A ++ M1 ++ (L2 ++ R2) ++ C)) by simpa only [List.append_assoc] using rb)
                   have OB := Lib.hid (OA.out.trans ob)
                   clear pm sm rb ob S1b
                   have F3 := Lib.hid (F2.out M1 (L2 ++ R2) _ PM.out (List.Perm.refl _) SM.out (HNM2.out (by omega)) RB.out OB.out)
                   go_wp2_with fail
                   go_end0
                   exact ⟨rfl, F3.out⟩)
            · have d3 : decide ((a : Int) < (S : Int)) = false := by simp; omega
              by_cases p4 : E < b
              · have d6 : decide ((E : Int) < (b : Int)) = true := by simp; omega
                first
                | (exfalso; omega)
                | (have RT2 := Lib.hid (RT.out p1 p2)
                   go_wp2_with fail
                   refine RT2.out.mono ?_
                   rintro e wa ⟨rfl, ra, oa⟩
                   have D2 := Lib.hid (HER.out wa ra)
                   have OA := Lib.hid (HO.out.trans oa)
                   clear ra oa RT2 RT
                   have PM := Lib.hid (List.Perm.refl (L1 ++ R1))
                   have SM := Lib.hid (HNM.out (by omega))
                   have RB := Lib.hid (show RowO wa B g cap (vals (A ++ (L1 ++ R1) ++ (L2 ++ R2) ++ C)) by simpa only [List.append_assoc] using D2.out)
                   have OB := OA
                   have S2b := Lib.hid (S2.out (L1 ++ R1) _ (by rw [PM.out.length_eq, List.length_append]; have := HLN.out; omega) (by omega) p4 RB.out)
                   go_wp2_with fail
                   refine S2b.out.mono ?_
                   rintro e wc ⟨rfl, M2, pm2, sm2, rc, oc⟩
                   have F3 := Lib.hid (F2.out (L1 ++ R1) M2 wc PM.out pm2 SM.out sm2 rc (OB.out.trans oc))
                   clear pm2 sm2 rc oc S2b
                   go_wp2_with fail
                   go_end0
                   exact ⟨rfl, F3.out⟩)
              · have d6 : decide ((E : Int) < (b : Int)) = false := by simp; omega
                first
                | (exfalso; omega)
                | (have RT2 := Lib.hid (RT.out p1 p2)
                   go_wp2_with fail
                   refine RT2.out.mono ?_
                   rintro e wa ⟨rfl, ra, oa⟩
                   have D2 := Lib.hid (HER.out wa ra)
                   have OA := Lib.hid (HO.out.trans oa)
                   clear ra oa RT2 RT
                   have PM := Lib.hid (List.Perm.refl (L1 ++ R1))
                   have SM := Lib.hid (HNM.out (by omega))
                   have RB := Lib.hid (show RowO wa B g cap (vals (A ++ (L1 ++ R1) ++ (L2 ++ R2) ++ C)) by simpa only [List.append_assoc] using D2.out)
                   have OB := OA
                   have F3 := Lib.hid (F2.out (L1 ++ R1) (L2 ++ R2) _ PM.out (List.Perm.refl _) SM.out (HNM2.out (by omega)) RB.out OB.out)
                   go_wp2_with fail
                   go_end0
                   exact ⟨rfl, F3.out⟩)
          · have d2 : decide ((m : Int) < (E : Int)) = false := by simp; omega
            have d4 : decide ((S : Int) < (mid : Int)) = false := by simp; omega
            by_cases p3 : a < S
            · have d3 : decide ((a : Int) < (S : Int)) = true := by simp; omega
              by_cases p4 : E < b
              · have d6 : decide ((E : Int) < (b : Int)) = true := by simp; omega
                first
                | (exfalso; omega)
                | (have D2 := Lib.hid (HE0.out (by omega))
                   have OA := HO
                   clear RT
                   have PM := Lib.hid (List.Perm.refl (L1 ++ R1))
                   have SM := Lib.hid (HNM.out (by omega))
                   have RB := Lib.hid (show RowO wr B g cap (vals (A ++ (L1 ++ R1) ++ (L2 ++ R2) ++ C)) by simpa only [List.append_assoc] using D2.out)
                   have OB := OA
                   have S2b := Lib.hid (S2.out (L1 ++ R1) _ (by rw [PM.out.length_eq, List.length_append]; have := HLN.out; omega) (by omega) p4 RB.out)
                   go_wp2_with fail
                   refine S2b.out.mono ?_
                   rintro e wc ⟨rfl, M2, pm2, sm2, rc, oc⟩
                   have F3 := Lib.hid (F2.out (L1 ++ R1) M2 wc PM.out pm2 SM.out sm2 rc (OB.out.trans oc))
                   clear pm2 sm2 rc oc S2b
                   go_wp2_with fail
                   go_end0
                   exact ⟨rfl, F3.out⟩)
              · have d6 : decide ((E : Int) < (b : Int)) = false := by simp; omega
                first
                | (exfalso; omega)
                | (have D2 := Lib.hid (HE0.out (by omega))
                   have OA := HO
                   clear RT
                   have PM := Lib.hid (List.Perm.refl (L1 ++ R1))
                   have SM := Lib.hid (HNM.out (by omega))
                   have RB := Lib.hid (show RowO wr B g cap (vals (A ++ (L1 ++ R1) ++ (L2 ++ R2) ++ C)) by simpa only [List.append_assoc] using D2.out)
                   have OB := OA
                   have F3 := Lib.hid (F2.out (L1 ++ R1) (L2 ++ R2) _ PM.out (List.Perm.refl _) SM.out (HNM2.out (by omega)) RB.out OB.out)
                   go_wp2_with fail
                   go_end0
                   exact ⟨rfl, F3.out⟩)
            · have d3 : decide ((a : Int) < (S : Int)) = false := by simp; omega
              by_cases p4 : E < b
              · have d6 : decide ((E : Int) < (b : Int)) = true := by simp; omega
                first
                | (exfalso; omega)
                | (have D2 := Lib.hid (HE0.out (by omega))
                   have OA := HO
                   clear RT
                   have PM := Lib.hid (List.Perm.refl (L1 ++ R1))
                   have SM := Lib.hid (HNM.out (by omega))
                   have RB := Lib.hid (show RowO wr B g cap (vals (A ++ (L1 ++ R1) ++ (L2 ++ R2) ++ C)) by simpa only [List.append_assoc] using D2.out)
                   have OB := OA
                   have S2b := Lib.hid (S2.out (L1 ++ R1) _ (by rw [PM.out.length_eq, List.length_append]; have := HLN.out; omega) (by omega) p4 RB.out)
                   go_wp2_with fail
                   refine S2b.out.mono ?_
                   rintro e wc ⟨rfl, M2, pm2, sm2, rc, oc⟩
                   have F3 := Lib.hid (F2.out (L1 ++ R1) M2 wc PM.out pm2 SM.out sm2 rc (OB.out.trans oc))
                   clear pm2 sm2 rc oc S2b
                   go_wp2_with fail
                   go_end0
                   exact ⟨rfl, F3.out⟩)
              · have d6 : decide ((E : Int) < (b : Int)) = false := by simp; omega
                first
                | (exfalso; omega)
                | (have D2 := Lib.hid (HE0.out (by omega))
                   have OA := HO
                   clear RT
                   have PM := Lib.hid (List.Perm.refl (L1 ++ R1))
                   have SM := Lib.hid (HNM.out (by omega))
                   have RB := Lib.hid (show RowO wr B g cap (vals (A ++ (L1 ++ R1) ++ (L2 ++ R2) ++ C)) by simpa only [List.append_assoc] using D2.out)
                   have OB := OA
                   have F3 := Lib.hid (F2.out (L1 ++ R1) (L2 ++ R2) _ PM.out (List.Perm.refl _) SM.out (HNM2.out (by omega)) RB.out OB.out)
                   go_wp2_with fail
                   go_end0
                   exact ⟨rfl, F3.out⟩)
        · have d1 : decide ((S : Int) < (m : Int)) = false := by simp; omega
          have d5 : decide ((mid : Int) < (E : Int)) = false := by simp; omega
          by_cases p2 : m < E
          · have d2 : decide ((m : Int) < (E : Int)) = true := by simp; omega
            have d4 : decide ((S : Int) < (mid : Int)) = true := by simp; omega
            by_cases p3 : a < S
            · have d3 : decide ((a : Int) < (S : Int)) = true := by simp; omega
              first
              | (exfalso; omega)
              | (have D2 := Lib.hid (HE0.out (by omega))
                 have OA := HO
                 clear RT
                 have S1b := Lib.hid (S1.out _ p3 (by omega) D2.out)
                 go_wp2_with fail
                 refine S1b.out.mono ?_
                 rintro e wb ⟨rfl, M1, pm, sm, rb, ob⟩
                 have PM := Lib.hid pm
                 have SM := Lib.hid sm
                 have RB := Lib.hid (show RowO wb B g cap (vals (A ++ M1 ++ (L2 ++ R2) ++ C)) by simpa only [List.append_assoc] using rb)
                 have OB := Lib.hid (OA.out.trans ob)
                 clear pm sm rb ob S1b
                 have F3 := Lib.hid (F2.out M1 (L2 ++ R2) _ PM.out (List.Perm.refl _) SM.out (HNM2.out (by omega)) RB.out OB.out)
                 go_wp2_with fail
                 go_end0
                 exact ⟨rfl, F3.out⟩)
            · have d3 : decide ((a : Int) < (S : Int)) = false := by simp; omega
              first
              | (exfalso; omega)
              | (have D2 := Lib.hid (HE0.out (by omega))
                 have OA := HO
                 clear RT
                 have PM := Lib.hid (List.Perm.refl (L1 ++ R1))
                 have SM := Lib.hid (HNM.out (by omega))
                 have RB := Lib.hid (show RowO wr B g cap (vals (A ++ (L1 ++ R1) ++ (L2 ++ R2) ++ C)) by simpa only [List.append_assoc] using D2.out)
                 have OB := OA
                 have F3 := Lib.hid (F2.out (L1 ++ R1) (L2 ++ R2) _ PM.out (List.Perm.refl _) SM.out (HNM2.out (by omega)) RB.out OB.out)
                 go_wp2_with fail
                 go_end0
                 exact ⟨rfl, F3.out⟩)
          · have d2 : decide ((m : Int) < (E : Int)) = false := by simp; omega
            have d4 : decide ((S : Int) < (mid : Int)) = false := by simp; omega
            by_cases p3 : a < S
            · have d3 : decide ((a : Int) < (S : Int)) = true := by simp; omega
              first
              | (exfalso; omega)
              | (have D2 := Lib.hid (HE0.out (by omega))
                 have OA := HO
                 clear RT
                 have PM := Lib.hid (List.Perm.refl (L1 ++ R1))
                 have SM := Lib.hid (HNM.out (by omega))
                 have RB := Lib.hid (show RowO wr B g cap (vals (A ++ (L1 ++ R1) ++ (L2 ++ R2) ++ C)) by simpa only [List.append_assoc] using D2.out)
                 have OB := OA
                 have F3 := Lib.hid (F2.out (L1 ++ R1) (L2 ++ R2) _ PM.out (List.Perm.refl _) SM.out (HNM2.out (by omega)) RB.out OB.out)
                 go_wp2_with fail
                 go_end0
                 exact ⟨rfl, F3.out⟩)
            · have d3 : decide ((a : Int) < (S : Int)) = false := by simp; omega
              first
              | (exfalso; omega)
              | (have D2 := Lib.hid (HE0.out (by omega))
                 have OA := HO
                 clear RT
                 have PM := Lib.hid (List.Perm.refl (L1 ++ R1))
                 have SM := Lib.hid (HNM.out (by omega))
                 have RB := Lib.hid (show RowO wr B g cap (vals (A ++ (L1 ++ R1) ++ (L2 ++ R2) ++ C)) by simpa only [List.append_assoc] using D2.out)
                 have OB := OA
                 have F3 := Lib.hid (F2.out (L1 ++ R1) (L2 ++ R2) _ PM.out (List.Perm.refl _) SM.out (HNM2.out (by omega)) RB.out OB.out)
                 go_wp2_with fail
                 go_end0
                 exact ⟨rfl, F3.out⟩)
  · have tm : decide ((mid : Int) < (m : Int)) = false := by simp; omega
    have hlh : a ≤ m ∧ m ≤ mid ∧ m + m ≤ nn ∧ nn ≤ b + a := by have := HMID.out; have := HNN.out; omega
    have HLO := Lib.hid (show (a = a ∨ nn = b + a) ∧ (m = m ∨ nn = m + m) from ⟨.inl rfl, .inl rfl⟩)
    go_wp2_with fail
    go_loopw [20, 21] (fun i j wr => ∃ (S T : Nat), a ≤ S ∧ S ≤ T ∧ T ≤ m ∧ i = .int .i64 S ∧ j = .int .i64 T ∧ (∀ x y, a < S → L[S - 1 - a]? = some x → R[nn - S - m]? = some y → ltK y.1.1 x.1.1 = false) ∧ (∀ x y, T < m → R[nn - 1 - T - m]? = some x → L[T - a]? = some y → ltK x.1.1 y.1.1 = true) ∧ RowO wr B g cap (vals (A ++ (L ++ R) ++ C)) ∧ OnlG g w wr) (fun i j _ => (intOf j).toNat - (intOf i).toNat)
    case atStart => exact ⟨a, m, Nat.le_refl _, by omega, Nat.le_refl _, rfl, rfl, fun x y h => (by omega), fun x y h => (by omega), HW.out, OnlG.refl _ _⟩
    case round =>
      obtain ⟨S, T, hS, hST, hT, rfl, rfl, h1, h2, hr, ho⟩ := hrel
      have hgl := hr.lt
      by_cases hlt : S < T
      · have t1 : decide ((S : Int) < (T : Int)) = true := by simp; omega
        obtain ⟨H, hH⟩ : ∃ H, H = (S + T) / 2 := ⟨_, rfl⟩
        have hHI : S ≤ H ∧ H < T := by omega
        obtain ⟨P, hP⟩ : ∃ P, P + H = p := ⟨p - H, by have := HPP.out; have := HNN.out; omega⟩
        have hPb : m ≤ P ∧ P < b ∧ a ≤ H ∧ H < m := by have := HPP.out; have := HNN.out; omega
        have q6 : ((S : Int) + (T : Int)) / 2 = (H : Int) := by omega
        have q7 : (p : Int) - (H : Int) = (P : Int) := by omega
        have wH : IntKind.i64.wrap (H : Int) = (H : Int) := IntWalk.i64_in _ (by omega)
        have wP : IntKind.i64.wrap (P : Int) = (P : Int) := IntWalk.i64_in _ (by omega)
        have hkL : H - a < L.length := by have := HM.out; omega
        have hkR : P - m < R.length := by have := HBB.out; omega
        have hx : L[H - a]? = some L[H - a] := List.getElem?_eq_getElem hkL
        have hy : R[P - m]? = some R[P - m] := List.getElem?_eq_getElem hkR
        have hsx := HSL.out _ (List.getElem_mem hkL)
        have hsy := HSR.out _ (List.getElem_mem hkR)
        generalize L[H - a] = x at *
        generalize R[P - m] = y at *
        have gx : (vals (A ++ (L ++ R) ++ C))[H]? = some x.1 := by
          have := vals_at (A := A) (L := L ++ R) (C := C) (k := H - a) (y := x) (by rw [List.getElem?_append_left hkL]; exact hx)
          rwa [HA.out, show a + (H - a) = H by omega] at this
        have gy : (vals (A ++ (L ++ R) ++ C))[P]? = some y.1 := by
          have := vals_at (A := A) (L := L ++ R) (C := C) (k := P - a) (y := y) (by
            have := HM.out
            rw [List.getElem?_append_right (by omega), show P - a - L.length = P - m by omega]; exact hy)
          rwa [HA.out, show a + (P - a) = P by omega] at this
        obtain ⟨x0, x1, x2, x3⟩ := hr.cells gx
        obtain ⟨y0, y1, y2, y3⟩ := hr.cells gy
        have CM := Lib.hid (fun w => cmp_any y.1 x.1 w hsy hsx)
        have HR := Lib.hid hr
        have HO := Lib.hid ho
        have HX := Lib.hid hx
        have HY := Lib.hid hy
        have H1 := Lib.hid h1
        have H2 := Lib.hid h2
        have i1 : (H : Int) < (n : Int) := by omega
        have i2 : (P : Int) < (n : Int) := by omega
        have HPE := Lib.hid hP
        clear hr ho gx gy h1 h2 hx hy hH hP
        go_wp2_with fail
        cases hc : ltK y.1.1 x.1.1 with
        | false =>
          have hc' := hc
          rw [← cmpK_neg] at hc'
          refine wp_region_noPanic ?_
          refine wp_region_held_drew (S := fun w' => Below wr.heap.size wr w') (by kernel_rfl) (Below.refl _ _).drew (fun hHeld => ?_)
          generalize wr.drew = D at hHeld ⊢
          have kb : Below wr.heap.size wr D := hHeld
          refine wpAnyH_take (i := 0) (oi := ⟨some 158, _, _, _, _, _⟩) (v := ?qv0gb1) rfl (by kernel_rfl) (by kernel_rfl) (by kernel_rfl) (fun _ _ _ h => h) (Or.inl ⟨by rfl, ?qy0gb1⟩) hHeld ?qr0gb1
          case qy0gb1 => (intro w' hSw; go_simp; try with_reducible rfl)
          try simp only [Act.put, List.setIfInBounds_toArray, List.set_cons_zero, List.set_cons_succ]
          refine wpAnyH_take (i := 1) (oi := ⟨some 159, _, _, _, _, _⟩) (v := ?qv1gb1) rfl (by kernel_rfl) (by kernel_rfl) (by kernel_rfl) (fun _ _ _ h => h) (Or.inl ⟨by rfl, ?qy1gb1⟩) hHeld ?qr1gb1
          case qy1gb1 => (intro w' hSw; go_simp; try with_reducible rfl)
          try simp only [Act.put, List.setIfInBounds_toArray, List.set_cons_zero, List.set_cons_succ]
          refine wpAnyH_take (i := 2) (oi := ⟨some 160, _, _, _, _, _⟩) (v := ?qv2gb1) rfl (by kernel_rfl) (by kernel_rfl) (by kernel_rfl) (fun _ _ _ h => h) (Or.inl ⟨by rfl, ?qy2gb1⟩) hHeld ?qr2gb1
          case qy2gb1 => (intro w' hSw; go_simp; try with_reducible rfl)
          try simp only [Act.put, List.setIfInBounds_toArray, List.set_cons_zero, List.set_cons_succ]
          refine wpAnyH_take (i := 3) (oi := ⟨some 161, _, _, _, _, _⟩) (v := ?qv3gb1) rfl (by kernel_rfl) (by kernel_rfl) (by kernel_rfl) (fun _ _ _ h => h) (Or.inl ⟨by rfl, ?qy3gb1⟩) hHeld ?qr3gb1
          case qy3gb1 => (intro w' hSw; go_simp; try with_reducible rfl)
          try simp only [Act.put, List.setIfInBounds_toArray, List.set_cons_zero, List.set_cons_succ]
          refine wpAnyH_take (i := 4) (oi := ⟨some 162, _, _, _, _, _⟩) (v := ?qv4gb1) rfl (by kernel_rfl) (by kernel_rfl) (by kernel_rfl) (fun _ _ _ h => h) (Or.inl ⟨by rfl, ?qy4gb1⟩) hHeld ?qr4gb1
          case qy4gb1 => (intro w' hSw; go_simp; try with_reducible rfl)
          try simp only [Act.put, List.setIfInBounds_toArray, List.set_cons_zero, List.set_cons_succ]
          refine wpAnyH_take (i := 5) (oi := ⟨some 163, _, _, _, _, _⟩) (v := ?qv5gb1) rfl (by kernel_rfl) (by kernel_rfl) (by kernel_rfl) (fun _ _ _ h => h) (Or.inl ⟨by rfl, ?qy5gb1⟩) hHeld ?qr5gb1
          case qy5gb1 => (intro w' hSw; go_simp; try with_reducible rfl)
          try simp only [Act.put, List.setIfInBounds_toArray, List.set_cons_zero, List.set_cons_succ]
          refine wpAnyH_take (i := 6) (oi := ⟨some 164, _, _, _, _, _⟩) (v := ?qv6gb1) rfl (by kernel_rfl) (by kernel_rfl) (by kernel_rfl) (fun _ _ _ h => h) (Or.inl ⟨by rfl, ?qy6gb1⟩) hHeld ?qr6gb1
          case qy6gb1 => (intro w' hSw; have py0 := (hSw.cell (p := ⟨g, P * 4, none⟩) hgl.2).trans y0; have py1 := (hSw.cell (p := ⟨g, P * 4 + 1, none⟩) hgl.2).trans y1; have py2 := (hSw.cell (p := ⟨g, P * 4 + 2, none⟩) hgl.2).trans y2; have py3 := (hSw.cell (p := ⟨g, P * 4 + 3, none⟩) hgl.2).trans y3; have px0 := (hSw.cell (p := ⟨g, H * 4, none⟩) hgl.2).trans x0; have px1 := (hSw.cell (p := ⟨g, H * 4 + 1, none⟩) hgl.2).trans x1; have px2 := (hSw.cell (p := ⟨g, H * 4 + 2, none⟩) hgl.2).trans x2; have px3 := (hSw.cell (p := ⟨g, H * 4 + 3, none⟩) hgl.2).trans x3; go_simp; try with_reducible rfl)
          try simp only [Act.put, List.setIfInBounds_toArray, List.set_cons_zero, List.set_cons_succ]
          refine wpAnyH_take (i := 7) (oi := ⟨some 165, _, _, _, _, _⟩) (v := ?qv7gb1) rfl (by kernel_rfl) (by kernel_rfl) (by kernel_rfl) (fun _ _ _ h => h) (Or.inl ⟨by rfl, ?qy7gb1⟩) hHeld ?qr7gb1
          case qy7gb1 => (intro w' hSw; go_simp; try with_reducible rfl)
          try simp only [Act.put, List.setIfInBounds_toArray, List.set_cons_zero, List.set_cons_succ]
          refine wpAnyH_take (i := 8) (oi := ⟨some 166, _, _, _, _, _⟩) (v := ?qv8gb1) rfl (by kernel_rfl) (by kernel_rfl) (by kernel_rfl) (fun _ _ _ h => h) (Or.inl ⟨by rfl, ?qy8gb1⟩) hHeld ?qr8gb1
          case qy8gb1 => (intro w' hSw; go_simp; try with_reducible rfl)
          try simp only [Act.put, List.setIfInBounds_toArray, List.set_cons_zero, List.set_cons_succ]
          refine wpAnyH_take (i := 9) (oi := ⟨some 167, _, _, _, _, _⟩) (v := ?qv9gb1) rfl (by kernel_rfl) (by kernel_rfl) (by kernel_rfl) (fun _ _ _ h => h) (Or.inl ⟨by rfl, ?qy9gb1⟩) hHeld ?qr9gb1
          case qy9gb1 => (intro w' hSw; go_simp; try with_reducible rfl)
          try simp only [Act.put, List.setIfInBounds_toArray, List.set_cons_zero, List.set_cons_succ]
          refine wpAnyH_take (i := 10) (oi := ⟨some 168, _, _, _, _, _⟩) (v := ?qv10gb1) rfl (by kernel_rfl) (by kernel_rfl) (by kernel_rfl) (fun _ _ _ h => h) (Or.inl ⟨by rfl, ?qy10gb1⟩) hHeld ?qr10gb1
          case qy10gb1 => (intro w' hSw; have py0 := (hSw.cell (p := ⟨g, P * 4, none⟩) hgl.2).trans y0; have py1 := (hSw.cell (p := ⟨g, P * 4 + 1, none⟩) hgl.2).trans y1; have py2 := (hSw.cell (p := ⟨g, P * 4 + 2, none⟩) hgl.2).trans y2; have py3 := (hSw.cell (p := ⟨g, P * 4 + 3, none⟩) hgl.2).trans y3; have px0 := (hSw.cell (p := ⟨g, H * 4, none⟩) hgl.2).trans x0; have px1 := (hSw.cell (p := ⟨g, H * 4 + 1, none⟩) hgl.2).trans x1; have px2 := (hSw.cell (p := ⟨g, H * 4 + 2, none⟩) hgl.2).trans x2; have px3 := (hSw.cell (p := ⟨g, H * 4 + 3, none⟩) hgl.2).trans x3; go_simp; try with_reducible rfl)
          try simp only [Act.put, List.setIfInBounds_toArray, List.set_cons_zero, List.set_cons_succ]
          refine wpAnyH_ready (rs := [11]) (by kernel_rfl) (by simp) ?_
          refine AllReadyH.cons (o := ⟨some 169, _, _, _, _, _⟩) rfl (fun K hK => ?_) AllReadyH.nil
          refine step_gov (by rfl) 32 _ _ _ (by rfl) (by rfl) (fun _ _ => by kernel_rfl) _ (by rfl) (CM.out _) ?_
          rintro e w4 ⟨rfl, b4⟩
          refine ⟨_, rfl, ?_⟩
          refine hK.out _ _ (kb.trans (b4.mono kb.size)) (fun hHeld => ?_)
          clear hK K
          try simp only [Act.put, List.setIfInBounds_toArray, List.set_cons_zero, List.set_cons_succ]
          refine wpAnyH_take (i := 12) (oi := ⟨some 170, _, _, _, _, _⟩) (v := ?qv12gb1) rfl (by kernel_rfl) (by kernel_rfl) (by kernel_rfl) (fun _ _ _ h => h) (Or.inl ⟨by rfl, ?qy12gb1⟩) hHeld ?qr12gb1
          case qy12gb1 => (intro w' hSw; go_simp; try with_reducible rfl)
          try simp only [Act.put, List.setIfInBounds_toArray, List.set_cons_zero, List.set_cons_succ]
          refine wpAnyH_take (i := 13) (oi := ⟨some 171, _, _, _, _, _⟩) (v := ?qv13gb1) rfl (by kernel_rfl) (by kernel_rfl) (by kernel_rfl) (fun _ _ _ h => h) (Or.inl ⟨by rfl, ?qy13gb1⟩) hHeld ?qr13gb1
          case qy13gb1 => (intro w' hSw; go_simp; try with_reducible rfl)
          try simp only [Act.put, List.setIfInBounds_toArray, List.set_cons_zero, List.set_cons_succ]
          refine wpAnyH_done (by kernel_rfl) ?_ _
          refine NoPanic.normal ?_
          have b5 : Below wr.heap.size wr w4 := hHeld
          have R4 := Lib.hid (HR.out.below b5)
          have O4 := Lib.hid (HO.out.trans (.of_below b5 (Nat.le_of_lt hgl.2)))
          have HC := Lib.hid hc
          clear hHeld kb b4 b5 hc
          go_wp2_with fail
          go_roundw
          case rel => exact ⟨H + 1, T, by omega, by omega, hT, by go_num, rfl, fun x' y' _ hx' hy' => (by
            rw [Nat.add_sub_cancel, HX.out] at hx'
            rw [show nn - (H + 1) - m = P - m by have := HPP.out; have := HPE.out; omega, HY.out] at hy'
            cases hx'; cases hy'; exact HC.out), H2.out, R4.out, O4.out⟩
          case measure => simp [intOf]; omega
        | true =>
          have hc' := hc
          rw [← cmpK_neg] at hc'
          refine wp_region_noPanic ?_
          refine wp_region_held_drew (S := fun w' => Below wr.heap.size wr w') (by kernel_rfl) (Below.refl _ _).drew (fun hHeld => ?_)
          generalize wr.drew = D at hHeld ⊢
          have kb : Below wr.heap.size wr D := hHeld
          refine wpAnyH_take (i := 0) (oi := ⟨some 158, _, _, _, _, _⟩) (v := ?qv0gb2) rfl (by kernel_rfl) (by kernel_rfl) (by kernel_rfl) (fun _ _ _ h => h) (Or.inl ⟨by rfl, ?qy0gb2⟩) hHeld ?qr0gb2
          case qy0gb2 => (intro w' hSw; go_simp; try with_reducible rfl)
          try simp only [Act.put, List.setIfInBounds_toArray, List.set_cons_zero, List.set_cons_succ]
          refine wpAnyH_take (i := 1) (oi := ⟨some 159, _, _, _, _, _⟩) (v := ?qv1gb2) rfl (by kernel_rfl) (by kernel_rfl) (by kernel_rfl) (fun _ _ _ h => h) (Or.inl ⟨by rfl, ?qy1gb2⟩) hHeld ?qr1gb2
          case qy1gb2 => (intro w' hSw; go_simp; try with_reducible rfl)
          try simp only [Act.put, List.setIfInBounds_toArray, List.set_cons_zero, List.set_cons_succ]
          refine wpAnyH_take (i := 2) (oi := ⟨some 160, _, _, _, _, _⟩) (v := ?qv2gb2) rfl (by kernel_rfl) (by kernel_rfl) (by kernel_rfl) (fun _ _ _ h => h) (Or.inl ⟨by rfl, ?qy2gb2⟩) hHeld ?qr2gb2
          case qy2gb2 => (intro w' hSw; go_simp; try with_reducible rfl)
          try simp only [Act.put, List.setIfInBounds_toArray, List.set_cons_zero, List.set_cons_succ]
          refine wpAnyH_take (i := 3) (oi := ⟨some 161, _, _, _, _, _⟩) (v := ?qv3gb2) rfl (by kernel_rfl) (by kernel_rfl) (by kernel_rfl) (fun _ _ _ h => h) (Or.inl ⟨by rfl, ?qy3gb2⟩) hHeld ?qr3gb2
          case qy3gb2 => (intro w' hSw; go_simp; try with_reducible rfl)
          try simp only [Act.put, List.setIfInBounds_toArray, List.set_cons_zero, List.set_cons_succ]
          refine wpAnyH_take (i := 4) (oi := ⟨some 162, _, _, _, _, _⟩) (v := ?qv4gb2) rfl (by kernel_rfl) (by kernel_rfl) (by kernel_rfl) (fun _ _ _ h => h) (Or.inl ⟨by rfl, ?qy4gb2⟩) hHeld ?qr4gb2
          case qy4gb2 => (intro w' hSw; go_simp; try with_reducible rfl)
          try simp only [Act.put, List.setIfInBounds_toArray, List.set_cons_zero, List.set_cons_succ]
          refine wpAnyH_take (i := 5) (oi := ⟨some 163, _, _, _, _, _⟩) (v := ?qv5gb2) rfl (by kernel_rfl) (by kernel_rfl) (by kernel_rfl) (fun _ _ _ h => h) (Or.inl ⟨by rfl, ?qy5gb2⟩) hHeld ?qr5gb2
          case qy5gb2 => (intro w' hSw; go_simp; try with_reducible rfl)
          try simp only [Act.put, List.setIfInBounds_toArray, List.set_cons_zero, List.set_cons_succ]
          refine wpAnyH_take (i := 6) (oi := ⟨some 164, _, _, _, _, _⟩) (v := ?qv6gb2) rfl (by kernel_rfl) (by kernel_rfl) (by kernel_rfl) (fun _ _ _ h => h) (Or.inl ⟨by rfl, ?qy6gb2⟩) hHeld ?qr6gb2
          case qy6gb2 => (intro w' hSw; have py0 := (hSw.cell (p := ⟨g, P * 4, none⟩) hgl.2).trans y0; have py1 := (hSw.cell (p := ⟨g, P * 4 + 1, none⟩) hgl.2).trans y1; have py2 := (hSw.cell (p := ⟨g, P * 4 + 2, none⟩) hgl.2).trans y2; have py3 := (hSw.cell (p := ⟨g, P * 4 + 3, none⟩) hgl.2).trans y3; have px0 := (hSw.cell (p := ⟨g, H * 4, none⟩) hgl.2).trans x0; have px1 := (hSw.cell (p := ⟨g, H * 4 + 1, none⟩) hgl.2).trans x1; have px2 := (hSw.cell (p := ⟨g, H * 4 + 2, none⟩) hgl.2).trans x2; have px3 := (hSw.cell (p := ⟨g, H * 4 + 3, none⟩) hgl.2).trans x3; go_simp; try with_reducible rfl)
          try simp only [Act.put, List.setIfInBounds_toArray, List.set_cons_zero, List.set_cons_succ]
          refine wpAnyH_take (i := 7) (oi := ⟨some 165, _, _, _, _, _⟩) (v := ?qv7gb2) rfl (by kernel_rfl) (by kernel_rfl) (by kernel_rfl) (fun _ _ _ h => h) (Or.inl ⟨by rfl, ?qy7gb2⟩) hHeld ?qr7gb2
          case qy7gb2 => (intro w' hSw; go_simp; try with_reducible rfl)
          try simp only [Act.put, List.setIfInBounds_toArray, List.set_cons_zero, List.set_cons_succ]
          refine wpAnyH_take (i := 8) (oi := ⟨some 166, _, _, _, _, _⟩) (v := ?qv8gb2) rfl (by kernel_rfl) (by kernel_rfl) (by kernel_rfl) (fun _ _ _ h => h) (Or.inl ⟨by rfl, ?qy8gb2⟩) hHeld ?qr8gb2
          case qy8gb2 => (intro w' hSw; go_simp; try with_reducible rfl)
          try simp only [Act.put, List.setIfInBounds_toArray, List.set_cons_zero, List.set_cons_succ]
          refine wpAnyH_take (i := 9) (oi := ⟨some 167, _, _, _, _, _⟩) (v := ?qv9gb2) rfl (by kernel_rfl) (by kernel_rfl) (by kernel_rfl) (fun _ _ _ h => h) (Or.inl ⟨by rfl, ?qy9gb2⟩) hHeld ?qr9gb2
          case qy9gb2 => (intro w' hSw; go_simp; try with_reducible rfl)
          try simp only [Act.put, List.setIfInBounds_toArray, List.set_cons_zero, List.set_cons_succ]
          refine wpAnyH_take (i := 10) (oi := ⟨some 168, _, _, _, _, _⟩) (v := ?qv10gb2) rfl (by kernel_rfl) (by kernel_rfl) (by kernel_rfl) (fun _ _ _ h => h) (Or.inl ⟨by rfl, ?qy10gb2⟩) hHeld ?qr10gb2
          case qy10gb2 => (intro w' hSw; have py0 := (hSw.cell (p := ⟨g, P * 4, none⟩) hgl.2).trans y0; have py1 := (hSw.cell (p := ⟨g, P * 4 + 1, none⟩) hgl.2).trans y1; have py2 := (hSw.cell (p := ⟨g, P * 4 + 2, none⟩) hgl.2).trans y2; have py3 := (hSw.cell (p := ⟨g, P * 4 + 3, none⟩) hgl.2).trans y3; have px0 := (hSw.cell (p := ⟨g, H * 4, none⟩) hgl.2).trans x0; have px1 := (hSw.cell (p := ⟨g, H * 4 + 1, none⟩) hgl.2).trans x1; have px2 := (hSw.cell (p := ⟨g, H * 4 + 2, none⟩) hgl.2).trans x2; have px3 := (hSw.cell (p := ⟨g, H * 4 + 3, none⟩) hgl.2).trans x3; go_simp; try with_reducible rfl)
          try simp only [Act.put, List.setIfInBounds_toArray, List.set_cons_zero, List.set_cons_succ]
          refine wpAnyH_ready (rs := [11]) (by kernel_rfl) (by simp) ?_
          refine AllReadyH.cons (o := ⟨some 169, _, _, _, _, _⟩) rfl (fun K hK => ?_) AllReadyH.nil
          refine step_gov (by rfl) 32 _ _ _ (by rfl) (by rfl) (fun _ _ => by kernel_rfl) _ (by rfl) (CM.out _) ?_
          rintro e w4 ⟨rfl, b4⟩
          refine ⟨_, rfl, ?_⟩
          refine hK.out _ _ (kb.trans (b4.mono kb.size)) (fun hHeld => ?_)
          clear hK K
          try simp only [Act.put, List.setIfInBounds_toArray, List.set_cons_zero, List.set_cons_succ]
          refine wpAnyH_take (i := 12) (oi := ⟨some 170, _, _, _, _, _⟩) (v := ?qv12gb2) rfl (by kernel_rfl) (by kernel_rfl) (by kernel_rfl) (fun _ _ _ h => h) (Or.inl ⟨by rfl, ?qy12gb2⟩) hHeld ?qr12gb2
          case qy12gb2 => (intro w' hSw; go_simp; try with_reducible rfl)
          try simp only [Act.put, List.setIfInBounds_toArray, List.set_cons_zero, List.set_cons_succ]
          refine wpAnyH_take (i := 13) (oi := ⟨some 171, _, _, _, _, _⟩) (v := ?qv13gb2) rfl (by kernel_rfl) (by kernel_rfl) (by kernel_rfl) (fun _ _ _ h => h) (Or.inl ⟨by rfl, ?qy13gb2⟩) hHeld ?qr13gb2
          case qy13gb2 => (intro w' hSw; go_simp; try with_reducible rfl)
          try simp only [Act.put, List.setIfInBounds_toArray, List.set_cons_zero, List.set_cons_succ]
          refine wpAnyH_done (by kernel_rfl) ?_ _
          refine NoPanic.normal ?_
          have b5 : Below wr.heap.size wr w4 := hHeld
          have R4 := Lib.hid (HR.out.below b5)
          have O4 := Lib.hid (HO.out.trans (.of_below b5 (Nat.le_of_lt hgl.2)))
          have HC := Lib.hid hc
          clear hHeld kb b4 b5 hc
          go_wp2_with fail
          go_roundw
          case rel => exact ⟨S, H, hS, by omega, by omega, rfl, by go_num, H1.out, fun x' y' _ hx' hy' => (by
            rw [show nn - 1 - H - m = P - m by have := HPP.out; have := HPE.out; omega, HY.out] at hx'
            rw [HX.out] at hy'
            cases hx'; cases hy'; exact HC.out), R4.out, O4.out⟩
          case measure => simp [intOf]; omega
      · have t1 : decide ((S : Int) < (T : Int)) = false := by simp; omega
        obtain rfl : S = T := by omega
        obtain ⟨E, hE⟩ : ∃ E, E + S = nn := ⟨nn - S, by have := HNN.out; omega⟩
        obtain ⟨u, hu⟩ : ∃ u, a + u = S := ⟨S - a, by omega⟩
        obtain ⟨v, hv⟩ : ∃ v, m + v = E := ⟨E - m, by omega⟩
        have huL : u ≤ L.length := by have := HM.out; omega
        have hvR : v ≤ R.length := by have := HBB.out; omega
        have q8 : (nn : Int) - (S : Int) = (E : Int) := by omega
        have wE : IntKind.i64.wrap (E : Int) = (E : Int) := IntWalk.i64_in _ (by omega)
        have huv : a + u + v = mid := by have := HNN.out; omega
        have F2 := Lib.hid (fun M1 M2 w' => FIN.out u v M1 M2 w' huL hvR (fun x y h0 hx hy => by
            by_cases hs : a < S
            · exact h1 x y hs (by rw [show S - 1 - a = u - 1 by omega]; exact hx) (by rw [show nn - S - m = v by omega]; exact hy)
            · exfalso
              have := HLO.out.1
              have := HBB.out
              have := (List.getElem?_eq_some_iff.1 hy).1
              omega) (fun x y h0 hx hy => by
            by_cases hs : S < m
            · exact h2 x y hs (by rw [show nn - 1 - S - m = v - 1 by omega]; exact hx) (by rw [show S - a = u by omega]; exact hy)
            · exfalso
              have := HLO.out.2
              have := HM.out
              have := (List.getElem?_eq_some_iff.1 hy).1
              omega))
        have eL := List.take_append_drop u L
        have eR := List.take_append_drop v R
        have l1 : (L.take u).length = u := by rw [List.length_take]; omega
        have l2 : (L.drop u).length + u = L.length := by rw [List.length_drop]; omega
        have l3 : (R.take v).length = v := by rw [List.length_take]; omega
        have l4 : (R.drop v).length + v = R.length := by rw [List.length_drop]; omega
        have s1 : AllSl (L.take u) := fun x hx => HSL.out x (List.mem_of_mem_take hx)
        have s2 : AllSl (L.drop u) := fun x hx => HSL.out x (List.mem_of_mem_drop hx)
        have s3 : AllSl (R.take v) := fun x hx => HSR.out x (List.mem_of_mem_take hx)
        have s4 : AllSl (R.drop v) := fun x hx => HSR.out x (List.mem_of_mem_drop hx)
        have o1 := srt_take HL.out u
        have o2 := srt_drop HL.out u
        have o3 := srt_take HR0.out v
        have o4 := srt_drop HR0.out v
        have k1 : ∀ x ∈ L.take u, ∀ y ∈ R.take v, x.2 < y.2 := fun x hx y hy => HRK.out x (List.mem_of_mem_take hx) y (List.mem_of_mem_take hy)
        have k2 : ∀ x ∈ L.drop u, ∀ y ∈ R.drop v, x.2 < y.2 := fun x hx y hy => HRK.out x (List.mem_of_mem_drop hx) y (List.mem_of_mem_drop hy)
        have hr' : RowO wr B g cap (vals (A ++ L.take u ++ L.drop u ++ R.take v ++ (R.drop v ++ C))) := by
          have e : A ++ L.take u ++ L.drop u ++ R.take v ++ (R.drop v ++ C) = A ++ (L ++ R) ++ C := by
            conv => rhs; rw [← eL, ← eR]
            simp only [List.append_assoc]
          rw [e]; exact hr
        have hn' : n = A.length + u + (L.drop u).length + v + (R.drop v).length + C.length := by
          rw [HN.out]; simp; omega
        have HAS : A.length + u = S := by have := HA.out; omega
        have HAm : A.length = a := HA.out
        have lm : a + L.length = m := HM.out
        have lb : m + R.length = b := HBB.out
        generalize L.take u = L1 at *
        generalize L.drop u = L2 at *
        generalize R.take v = R1 at *
        generalize R.drop v = R2 at *
        have RT := Lib.hid (fun (c1 : S < m) (c2 : m < E) => rot_any (vals (A ++ L1)) (vals L2) (vals R1) (vals (R2 ++ C)) wr B g cap n S m E (by simp [vals]; omega) (by simp [vals]; omega) (by simp [vals]; omega) c1 c2 (by rw [hn']; simp [vals]; omega) (by simpa [vals] using hr') (fun x hx => by obtain ⟨z, hz, rfl⟩ := List.mem_map.1 hx; exact s2 z hz) (fun x hx => by obtain ⟨z, hz, rfl⟩ := List.mem_map.1 hx; exact s3 z hz) hn2)
        have S1 := Lib.hid (fun w' (c1 : a < S) (c2 : S < mid) (hr2 : RowO w' B g cap (vals (A ++ (L1 ++ R1) ++ (L2 ++ R2 ++ C)))) => HIH.out A L1 R1 (L2 ++ R2 ++ C) w' a S mid (by omega) HAm (by omega) (by omega) (by omega) (by omega) (by rw [hn']; simp; omega) hr2 s1 s3 o1 o3 k1)
        have S2 := Lib.hid (fun M1 w' (hM : M1.length = u + v) (c1 : mid < E) (c2 : E < b) (hr3 : RowO w' B g cap (vals (A ++ M1 ++ (L2 ++ R2) ++ C))) => HIH.out (A ++ M1) L2 R2 C w' mid E b (by omega) (by rw [List.length_append]; omega) (by omega) (by omega) (by omega) (by omega) (by rw [hn']; simp; omega) hr3 s2 s4 o2 o4 k2)
        have E0 : S = m ∨ E = m → RowO wr B g cap (vals (A ++ (L1 ++ R1) ++ (L2 ++ R2 ++ C))) := fun hc => by
          have e : vals (A ++ (L1 ++ R1) ++ (L2 ++ R2 ++ C)) = vals (A ++ L1 ++ L2 ++ R1 ++ (R2 ++ C)) := by
            rcases hc with hc | hc
            · have : L2 = [] := List.eq_nil_of_length_eq_zero (by omega)
              subst this; simp only [List.append_assoc, List.nil_append]
            · have : R1 = [] := List.eq_nil_of_length_eq_zero (by omega)
              subst this; simp only [List.append_assoc, List.nil_append]
          rw [e]; exact hr'
        have ER : ∀ w', RowO w' B g cap (vals (A ++ L1) ++ vals R1 ++ vals L2 ++ vals (R2 ++ C)) → RowO w' B g cap (vals (A ++ (L1 ++ R1) ++ (L2 ++ R2 ++ C))) := fun w' q => by
          have e : vals (A ++ (L1 ++ R1) ++ (L2 ++ R2 ++ C)) = vals (A ++ L1) ++ vals R1 ++ vals L2 ++ vals (R2 ++ C) := by simp [vals]
          rw [e]; exact q
        have N1 : ¬ (a < S ∧ S < mid) → Srt (L1 ++ R1) := fun hc => by
          rcases nil_or_pos L1 with h | h
          · rw [h]; exact o3
          · rcases nil_or_pos R1 with h' | h'
            · rw [h', List.append_nil]; exact o1
            · exact absurd ⟨by omega, by omega⟩ hc
        have N2 : ¬ (mid < E ∧ E < b) → Srt (L2 ++ R2) := fun hc => by
          rcases nil_or_pos L2 with h | h
          · rw [h]; exact o4
          · rcases nil_or_pos R2 with h' | h'
            · rw [h', List.append_nil]; exact o2
            · exact absurd ⟨by omega, by omega⟩ hc
        have HNM := Lib.hid N1
        have HNM2 := Lib.hid N2
        have HER := Lib.hid ER
        have HE0 := Lib.hid E0
        have HO := Lib.hid ho
        have HLN := Lib.hid (And.intro l1 l3)
        clear h1 h2 hr hr' ho s1 s2 s3 s4 o1 o2 o3 o4 k1 k2 hn' HAS HAm eL eR l1 l2 l3 l4 E0 ER N1 N2 hE hu hv huL hvR lm lb HLO huv FIN
        by_cases p1 : S < m
        · have d1 : decide ((S : Int) < (m : Int)) = true := by simp; omega
          have d5 : decide ((mid : Int) < (E : Int)) = true := by simp; omega
          by_cases p2 : m < E
          · have d2 : decide ((m : Int) < (E : Int)) = true := by simp; omega
            have d4 : decide ((S : Int) < (mid : Int)) = true := by simp; omega
            by_cases p3 : a < S
            · have d3 : decide ((a : Int) < (S : Int)) = true := by simp; omega
              by_cases p4 : E < b
              · have d6 : decide ((E : Int) < (b : Int)) = true := by simp; omega
                first
                | (exfalso; omega)
                | (have RT2 := Lib.hid (RT.out p1 p2)
                   go_wp2_with fail
                   refine RT2.out.mono ?_
                   rintro e wa ⟨rfl, ra, oa⟩
                   have D2 := Lib.hid (HER.out wa ra)
                   have OA := Lib.hid (HO.out.trans oa)
                   clear ra oa RT2 RT
                   have S1b := Lib.hid (S1.out _ p3 (by omega) D2.out)
                   go_wp2_with fail
                   refine S1b.out.mono ?_
                   rintro e wb ⟨rfl, M1, pm, sm, rb, ob⟩
                   have PM := Lib.hid pm
                   have SM := Lib.hid sm
                   have RB := Lib.hid (show RowO wb B g cap (vals (A ++ M1 ++ (L2 ++ R2) ++ C)) by simpa only [List.append_assoc] using rb)
                   have OB := Lib.hid (OA.out.trans ob)
                   clear pm sm rb ob S1b
                   have S2b := Lib.hid (S2.out M1 _ (by rw [PM.out.length_eq, List.length_append]; have := HLN.out; omega) (by omega) p4 RB.out)
                   go_wp2_with fail
                   refine S2b.out.mono ?_
                   rintro e wc ⟨rfl, M2, pm2, sm2, rc, oc⟩
                   have F3 := Lib.hid (F2.out M1 M2 wc PM.out pm2 SM.out sm2 rc (OB.out.trans oc))
                   clear pm2 sm2 rc oc S2b
                   go_wp2_with fail
                   go_end0
                   exact ⟨rfl, F3.out⟩)
              · have d6 : decide ((E : Int) < (b : Int)) = false := by simp; omega
                first
                | (exfalso; omega)
                | (have RT2 := Lib.hid (RT.out p1 p2)
                   go_wp2_with fail
                   refine RT2.out.mono ?_
                   rintro e wa ⟨rfl, ra, oa⟩
                   have D2 := Lib.hid (HER.out wa ra)
                   have OA := Lib.hid (HO.out.trans oa)
                   clear ra oa RT2 RT
                   have S1b := Lib.hid (S1.out _ p3 (by omega) D2.out)
                   go_wp2_with fail
                   refine S1b.out.mono ?_
                   rintro e wb ⟨rfl, M1, pm, sm, rb, ob⟩
                   have PM := Lib.hid pm
                   have SM := Lib.hid sm
                   have RB := Lib.hid (show RowO wb B g cap (vals (A ++ M1 ++ (L2 ++ R2) ++ C)) by simpa only [List.append_assoc] using rb)
                   have OB := Lib.hid (OA.out.trans ob)
                   clear pm sm rb ob S1b
                   have F3 := Lib.hid (F2.out M1 (L2 ++ R2) _ PM.out (List.Perm.refl _) SM.out (HNM2.out (by omega)) RB.out OB.out)
                   go_wp2_with fail
                   go_end0
                   exact ⟨rfl, F3.out⟩)
            · have d3 : decide ((a : Int) < (S : Int)) = false := by simp; omega
              by_cases p4 : E < b
              · have d6 : decide ((E : Int) < (b : Int)) = true := by simp; omega
                first
                | (exfalso; omega)
                | (have RT2 := Lib.hid (RT.out p1 p2)
                   go_wp2_with fail
                   refine RT2.out.mono ?_
                   rintro e wa ⟨rfl, ra, oa⟩
                   have D2 := Lib.hid (HER.out wa ra)
                   have OA := Lib.hid (HO.out.trans oa)
                   clear ra oa RT2 RT
                   have PM := Lib.hid (List.Perm.refl (L1 ++ R1))
                   have SM := Lib.hid (HNM.out (by omega))
                   have RB := Lib.hid (show RowO wa B g cap (vals (A ++ (L1 ++ R1) ++ (L2 ++ R2) ++ C)) by simpa only [List.append_assoc] using D2.out)
                   have OB := OA
                   have S2b := Lib.hid (S2.out (L1 ++ R1) _ (by rw [PM.out.length_eq, List.length_append]; have := HLN.out; omega) (by omega) p4 RB.out)
                   go_wp2_with fail
                   refine S2b.out.mono ?_
                   rintro e wc ⟨rfl, M2, pm2, sm2, rc, oc⟩
                   have F3 := Lib.hid (F2.out (L1 ++ R1) M2 wc PM.out pm2 SM.out sm2 rc (OB.out.trans oc))
                   clear pm2 sm2 rc oc S2b
                   go_wp2_with fail
                   go_end0
                   exact ⟨rfl, F3.out⟩)
              · have d6 : decide ((E : Int) < (b : Int)) = false := by simp; omega
                first
                | (exfalso; omega)
                | (have RT2 := Lib.hid (RT.out p1 p2)
                   go_wp2_with fail
                   refine RT2.out.mono ?_
                   rintro e wa ⟨rfl, ra, oa⟩
                   have D2 := Lib.hid (HER.out wa ra)
                   have OA := Lib.hid (HO.out.trans oa)
                   clear ra oa RT2 RT
                   have PM := Lib.hid (List.Perm.refl (L1 ++ R1))
                   have SM := Lib.hid (HNM.out (by omega))
                   have RB := Lib.hid (show RowO wa B g cap (vals (A ++ (L1 ++ R1) ++ (L2 ++ R2) ++ C)) by simpa only [List.append_assoc] using D2.out)
                   have OB := OA
                   have F3 := Lib.hid (F2.out (L1 ++ R1) (L2 ++ R2) _ PM.out (List.Perm.refl _) SM.out (HNM2.out (by omega)) RB.out OB.out)
                   go_wp2_with fail
                   go_end0
                   exact ⟨rfl, F3.out⟩)
          · have d2 : decide ((m : Int) < (E : Int)) = false := by simp; omega
            have d4 : decide ((S : Int) < (mid : Int)) = false := by simp; omega
            by_cases p3 : a < S
            · have d3 : decide ((a : Int) < (S : Int)) = true := by simp; omega
              by_cases p4 : E < b
              · have d6 : decide ((E : Int) < (b : Int)) = true := by simp; omega
                first
                | (exfalso; omega)
                | (have D2 := Lib.hid (HE0.out (by omega))
                   have OA := HO
                   clear RT
                   have PM := Lib.hid (List.Perm.refl (L1 ++ R1))
                   have SM := Lib.hid (HNM.out (by omega))
                   have RB := Lib.hid (show RowO wr B g cap (vals (A ++ (L1 ++ R1) ++ (L2 ++ R2) ++ C)) by simpa only [List.append_assoc] using D2.out)
                   have OB := OA
                   have S2b := Lib.hid (S2.out (L1 ++ R1) _ (by rw [PM.out.length_eq, List.length_append]; have := HLN.out; omega) (by omega) p4 RB.out)
                   go_wp2_with fail
                   refine S2b.out.mono ?_
                   rintro e wc ⟨rfl, M2, pm2, sm2, rc, oc⟩
                   have F3 := Lib.hid (F2.out (L1 ++ R1) M2 wc PM.out pm2 SM.out sm2 rc (OB.out.trans oc))
                   clear pm2 sm2 rc oc S2b
                   go_wp2_with fail
                   go_end0
                   exact ⟨rfl, F3.out⟩)
              · have d6 : decide ((E : Int) < (b : Int)) = false := by simp; omega
                first
                | (exfalso; omega)
                | (have D2 := Lib.hid (HE0.out (by omega))
                   have OA := HO
                   clear RT
                   have PM := Lib.hid (List.Perm.refl (L1 ++ R1))
                   have SM := Lib.hid (HNM.out (by omega))
                   have RB := Lib.hid (show RowO wr B g cap (vals (A ++ (L1 ++ R1) ++ (L2 ++ R2) ++ C)) by simpa only [List.append_assoc] using D2.out)
                   have OB := OA
                   have F3 := Lib.hid (F2.out (L1 ++ R1) (L2 ++ R2) _ PM.out (List.Perm.refl _) SM.out (HNM2.out (by omega)) RB.out OB.out)
                   go_wp2_with fail
                   go_end0
                   exact ⟨rfl, F3.out⟩)
            · have d3 : decide ((a : Int) < (S : Int)) = false := by simp; omega
              by_cases p4 : E < b
              · have d6 : decide ((E : Int) < (b : Int)) = true := by simp; omega
                first
                | (exfalso; omega)
                | (have D2 := Lib.hid (HE0.out (by omega))
                   have OA := HO
                   clear RT
                   have PM := Lib.hid (List.Perm.refl (L1 ++ R1))
                   have SM := Lib.hid (HNM.out (by omega))
                   have RB := Lib.hid (show RowO wr B g cap (vals (A ++ (L1 ++ R1) ++ (L2 ++ R2) ++ C)) by simpa only [List.append_assoc] using D2.out)
                   have OB := OA
                   have S2b := Lib.hid (S2.out (L1 ++ R1) _ (by rw [PM.out.length_eq, List.length_append]; have := HLN.out; omega) (by omega) p4 RB.out)
                   go_wp2_with fail
                   refine S2b.out.mono ?_
                   rintro e wc ⟨rfl, M2, pm2, sm2, rc, oc⟩
                   have F3 := Lib.hid (F2.out (L1 ++ R1) M2 wc PM.out pm2 SM.out sm2 rc (OB.out.trans oc))
                   clear pm2 sm2 rc oc S2b
                   go_wp2_with fail
                   go_end0
                   exact ⟨rfl, F3.out⟩)
              · have d6 : decide ((E : Int) < (b : Int)) = false := by simp; omega
                first
                | (exfalso; omega)
                | (have D2 := Lib.hid (HE0.out (by omega))
                   have OA := HO
                   clear RT
                   have PM := Lib.hid (List.Perm.refl (L1 ++ R1))
                   have SM := Lib.hid (HNM.out (by omega))
                   have RB := Lib.hid (show RowO wr B g cap (vals (A ++ (L1 ++ R1) ++ (L2 ++ R2) ++ C)) by simpa only [List.append_assoc] using D2.out)
                   have OB := OA
                   have F3 := Lib.hid (F2.out (L1 ++ R1) (L2 ++ R2) _ PM.out (List.Perm.refl _) SM.out (HNM2.out (by omega)) RB.out OB.out)
                   go_wp2_with fail
                   go_end0
                   exact ⟨rfl, F3.out⟩)
        · have d1 : decide ((S : Int) < (m : Int)) = false := by simp; omega
          have d5 : decide ((mid : Int) < (E : Int)) = false := by simp; omega
          by_cases p2 : m < E
          · have d2 : decide ((m : Int) < (E : Int)) = true := by simp; omega
            have d4 : decide ((S : Int) < (mid : Int)) = true := by simp; omega
            by_cases p3 : a < S
            · have d3 : decide ((a : Int) < (S : Int)) = true := by simp; omega
              first
              | (exfalso; omega)
              | (have D2 := Lib.hid (HE0.out (by omega))
                 have OA := HO
                 clear RT
                 have S1b := Lib.hid (S1.out _ p3 (by omega) D2.out)
                 go_wp2_with fail
                 refine S1b.out.mono ?_
                 rintro e wb ⟨rfl, M1, pm, sm, rb, ob⟩
                 have PM := Lib.hid pm
                 have SM := Lib.hid sm
                 have RB := Lib.hid (show RowO wb B g cap (vals (A ++ M1 ++ (L2 ++ R2) ++ C)) by simpa only [List.append_assoc] using rb)
                 have OB := Lib.hid (OA.out.trans ob)
                 clear pm sm rb ob S1b
                 have F3 := Lib.hid (F2.out M1 (L2 ++ R2) _ PM.out (List.Perm.refl _) SM.out (HNM2.out (by omega)) RB.out OB.out)
                 go_wp2_with fail
                 go_end0
                 exact ⟨rfl, F3.out⟩)
            · have d3 : decide ((a : Int) < (S : Int)) = false := by simp; omega
              first
              | (exfalso; omega)
              | (have D2 := Lib.hid (HE0.out (by omega))
                 have OA := HO
                 clear RT
                 have PM := Lib.hid (List.Perm.refl (L1 ++ R1))
                 have SM := Lib.hid (HNM.out (by omega))
                 have RB := Lib.hid (show RowO wr B g cap (vals (A ++ (L1 ++ R1) ++ (L2 ++ R2) ++ C)) by simpa only [List.append_assoc] using D2.out)
                 have OB := OA
                 have F3 := Lib.hid (F2.out (L1 ++ R1) (L2 ++ R2) _ PM.out (List.Perm.refl _) SM.out (HNM2.out (by omega)) RB.out OB.out)
                 go_wp2_with fail
                 go_end0
                 exact ⟨rfl, F3.out⟩)
          · have d2 : decide ((m : Int) < (E : Int)) = false := by simp; omega
            have d4 : decide ((S : Int) < (mid : Int)) = false := by simp; omega
            by_cases p3 : a < S
            · have d3 : decide ((a : Int) < (S : Int)) = true := by simp; omega
              first
              | (exfalso; omega)
              | (have D2 := Lib.hid (HE0.out (by omega))
                 have OA := HO
                 clear RT
                 have PM := Lib.hid (List.Perm.refl (L1 ++ R1))
                 have SM := Lib.hid (HNM.out (by omega))
                 have RB := Lib.hid (show RowO wr B g cap (vals (A ++ (L1 ++ R1) ++ (L2 ++ R2) ++ C)) by simpa only [List.append_assoc] using D2.out)
                 have OB := OA
                 have F3 := Lib.hid (F2.out (L1 ++ R1) (L2 ++ R2) _ PM.out (List.Perm.refl _) SM.out (HNM2.out (by omega)) RB.out OB.out)
                 go_wp2_with fail
                 go_end0
                 exact ⟨rfl, F3.out⟩)
            · have d3 : decide ((a : Int) < (S : Int)) = false := by simp; omega
              first
              | (exfalso; omega)
              | (have D2 := Lib.hid (HE0.out (by omega))
                 have OA := HO
                 clear RT
                 have PM := Lib.hid (List.Perm.refl (L1 ++ R1))
                 have SM := Lib.hid (HNM.out (by omega))
                 have RB := Lib.hid (show RowO wr B g cap (vals (A ++ (L1 ++ R1) ++ (L2 ++ R2) ++ C)) by simpa only [List.append_assoc] using D2.out)
                 have OB := OA
                 have F3 := Lib.hid (F2.out (L1 ++ R1) (L2 ++ R2) _ PM.out (List.Perm.refl _) SM.out (HNM2.out (by omega)) RB.out OB.out)
                 go_wp2_with fail
                 go_end0
                 exact ⟨rfl, F3.out⟩)

/-- symMergeCmpFunc of any two sorted rows -/
theorem sym_any (B g cap n : Nat) (hn2 : n ≤ 1000000) : ∀ d, SymIH B g cap n d
  | 0 => fun A L R C w a m b h => by omega
  | d + 1 => fun A L R C w a m b hd ha hm hb hL1 hR1 hn h hsL hsR hL hR hrk => by
    have IH := sym_any B g cap n hn2 d
    by_cases h1 : L.length = 1
    · obtain ⟨x, rfl⟩ := List.length_eq_one_iff.1 h1
      exact sym_left A R C x w B g cap n a m b ha (by simpa using hm) hb (by simpa using hn) (by simpa using h) (hsL x (by simp)) hsR hR (fun y hy => hrk x (by simp) y hy) hn2
    by_cases h2 : R.length = 1
    · obtain ⟨x, rfl⟩ := List.length_eq_one_iff.1 h2
      exact sym_right A L C x w B g cap n a m b ha hm (by simpa using hb) (by omega) hn h (hsR x (by simp)) hsL hL (fun y hy => hrk y hy x (by simp)) hn2
    exact sym_gen A L R C w B g cap n a m b ha hm hb (by omega) (by omega) hn h hsL hsR hL hR hrk hn2 (fun A' L' R' C' w' a' m' b' hd' => IH A' L' R' C' w' a' m' b' (by omega))
end Go.Proofs.YtoggbmfjjenbaaaGreatDoor
