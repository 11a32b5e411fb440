/- RingTurns answers true, whatever it is given. -/
import Derived.Test.YtpmngdgifdkohaaDoorTurnMath
import Derived.Test.YtpmngdgifdkohaaDoorMoves
namespace Go.Proofs.YtpmngdgifdkohaaDoor
open Go.RowKit Go.ChangeShapes Go.WideShapes

theorem ptsV_drop : ∀ (l : List (Int × Int)) (r : Nat), (ptsV l).drop (r * 2) = ptsV (l.drop r)
  | l, 0 => by simp
  | [], r + 1 => by simp [ptsV]
  | p :: l, r + 1 => by
    rw [show (r + 1) * 2 = r * 2 + 1 + 1 by omega]
    simp only [ptsV, List.drop_succ_cons]
    exact ptsV_drop l r
theorem ptsV_take : ∀ (l : List (Int × Int)) (r : Nat), (ptsV l).take (r * 2) = ptsV (l.take r)
  | l, 0 => by simp [ptsV]
  | [], r + 1 => by simp [ptsV]
  | p :: l, r + 1 => by
    rw [show (r + 1) * 2 = r * 2 + 1 + 1 by omega]
    simp only [ptsV, List.take_succ_cons]
    rw [ptsV_take l r]
theorem Pts.drop {w : World} {b off c r : Nat} {l : List (Int × Int)} (h : Pts w (.slice (some ⟨b, off, none⟩) l.length c) l) (hr : r ≤ l.length) : Pts w (.slice (some ⟨b, off + r * 2, none⟩) (l.length - r) (c - r)) (l.drop r) := by
  have := Rd.drop h (m := r) (k := r * 2) hr
  rw [ptsV_drop] at this
  unfold Pts
  rw [List.length_drop]
  exact this
theorem Pts.take {w : World} {ao : Option Addr} {c r : Nat} {l : List (Int × Int)} (h : Pts w (.slice ao l.length c) l) (hr : r ≤ l.length) : Pts w (.slice ao r c) (l.take r) := by
  have := Rd.take h (m := r) (k := r * 2) hr
  rw [ptsV_take] at this
  unfold Pts
  rw [List.length_take, Nat.min_eq_left hr]
  exact this
/-- append(v, p..) of points, as a step of a region that draws its order -/
theorem step_append_pt {w : World} {ops : Array Oper} {o : Oper} {a : Act} {K : Act → World → Prop} {Q : Exit → Act → World → Prop} {E : Prop} (hgd : o.guard = none) (s x : Operand)
    (ho : o.op = .call { callee := .builtin .append, args := #[s, x], argTypes := #[22, 22] })
    (base : Nat) (v : Value) (l : List (Int × Int)) (hs : a.eval s = v) (hown : OwnP w base v l) (y : Value) (m : List (Int × Int)) (hx : a.eval x = y) (hy : Pts w y m)
    (h63 : l.length + m.length ≤ 1000000) (hbase : base ≤ w.heap.size)
    (h : ∀ v' w', OwnP w' base v' (l ++ m) → Below base w w' → K (a.put o.dst v') w') :
    if Region.wanted o (yielded ops a.tmps) = true then Oper.wp Tryd.prog o a w K Q else E :=
  step_append_rd hgd s x 22 ho base 24 _ 2 16 Tryd.underlying22 info_pt rfl (by decide) v _ _ hs hown y _ _ hx hy (ptsV_length _) (ptsV_one _) (by unfold maxLen; omega) (by omega) hbase
    fun v' w' h1 h2 _ => h v' w' (by unfold OwnP; rw [ptsV_append, List.length_append]; exact h1) h2
theorem ownP_empty (w : World) (base : Nat) (h : base ≤ w.heap.size) : OwnP (w.alloc (.cells #[] 24)) base (.slice (some ⟨w.heap.size, 0, none⟩) 0 0) [] :=
  World.ownsRow_lit (base := base) (e := 24) (size := 2) w #[] 0 h (by simp [maxLen]) rfl

set_option maxRecDepth 100000 in
theorem turns_out (v : Value) (l : List (Int × Int)) (k px py : Int) (w : World) (hv : Pts w v l) (hg : ErrT w) (h : ¬ (1 ≤ l.length ∧ l.length ≤ 80)) :
    Calls Tryd.prog 3 #[v, .int .i64 k, .agg #[.int .i64 px, .int .i64 py]] w fun e w' => e = .returned (.bool true) ∧ Below w.heap.size w w' := by
  have B0 : Below w.heap.size w (w.alloc (.cells #[.int .i64 px, .int .i64 py] 24)) := (Below.refl _ _).alloc (Nat.le_refl _) _
  have S := Lib.hid (fun w' (h : Below w.heap.size w w') => small_any v l w' (hv.below h))
  have G := Lib.hid (fun w' (h : Below w.heap.size w w') => awake5_any w' (hg.below h hg.lt))
  obtain ⟨ao, c, rfl, h1, h2, h0, h3'⟩ := hv.open
  unfold maxLen at h2
  clear h0 h3' hv hg
  have T : decide ((l.length : Int) ≤ 80) = false ∨ (decide ((l.length : Int) ≤ 80) = true ∧ ((l.length : Int) == 0) = true) := by
    by_cases c : l.length ≤ 80
    · exact .inr ⟨decide_eq_true (by omega), beq_iff_eq.2 (by omega)⟩
    · exact .inl (decide_eq_false (by omega))
  clear h
  rcases T with t0 | ⟨t0, t1⟩
  all_goals
    rw [t0] at S
    go_enter Tryd.func3, Tryd.ntmps3
    go_wp2_with fail
    refine (S.out _ B0).mono ?_
    rintro e w1 ⟨rfl, rfl⟩
    go_wp2_with fail
    refine (G.out _ B0).mono ?_
    rintro e w2 ⟨rfl, b2⟩
    go_wp2_with fail
    go_ret
    exact ⟨rfl, B0.trans (b2.mono B0.size)⟩

set_option maxRecDepth 100000 in
set_option maxHeartbeats 4000000 in
theorem turns_in (v : Value) (l : List (Int × Int)) (k px py : Int) (w : World) (hv : Pts w v l) (hg : ErrT w) (n1 : 1 ≤ l.length) (n80 : l.length ≤ 80) :
    Calls Tryd.prog 3 #[v, .int .i64 k, .agg #[.int .i64 px, .int .i64 py]] w fun e w' => e = .returned (.bool true) ∧ Below w.heap.size w w' := by
  have B0 : Below w.heap.size w (w.alloc (.cells #[.int .i64 px, .int .i64 py] 24)) := (Below.refl _ _).alloc (Nat.le_refl _) _
  have S := Lib.hid (fun w' (h : Below w.heap.size w w') => small_any v l w' (hv.below h))
  have GT := Lib.hid (fun w' (h : Below w.heap.size w w') => hg.below h hg.lt)
  have Y := Lib.hid (pair_alloc w px py 24 w.heap.size rfl)
  have R1 := Lib.hid (fun w => Round_at k (l.length : Int) l.length w (by omega) (by omega) rfl)
  have t0 : decide ((l.length : Int) ≤ 80) = true := decide_eq_true (by omega)
  have t1 : ((l.length : Int) == 0) = false := beq_eq_false_iff_ne.2 (by omega)
  rw [t0] at S
  have HV := Lib.hid hv
  obtain ⟨ao, c, rfl, h1, h2, h0, h3'⟩ := hv.open
  obtain ⟨g, off, rfl, hg0, _, _⟩ := h3' 0 (by omega)
  have H3 := Lib.hid h3'
  unfold maxLen at h2
  clear h0 h3' hv hg
  go_enter Tryd.func3, Tryd.ntmps3
  go_wp2_with fail
  refine (S.out _ B0).mono ?_
  rintro e w1 ⟨rfl, rfl⟩
  go_wp2_with fail
  refine (R1.out _).mono ?_
  rintro e w2 ⟨r, rfl, hr, rfl⟩
  have hw1 : w.heap.size < (w.alloc (.cells #[.int .i64 px, .int .i64 py] 24)).heap.size := by simp
  generalize w.alloc (.cells #[.int .i64 px, .int .i64 py] 24) = w1 at *
  have i0 : (0 : Int) ≤ (r : Int) := by omega
  have i1 : (r : Int) ≤ (l.length : Int) := by omega
  have i2 : (r : Int) ≤ (c : Int) := by omega
  have i3 : (l.length : Int) ≤ (c : Int) := by omega
  have i4 : r ≤ l.length := by omega
  have i5 : r ≤ c := by omega
  have i6 : ¬ c = r := by omega
  have DR := Lib.hid (show ∀ w', Below w1.heap.size w1 w' → Pts w' _ (l.drop r) from fun w' h => (HV.out.below (B0.trans (h.mono B0.size))).drop i4)
  have TK := Lib.hid (show ∀ w', Below w1.heap.size w1 w' → Pts w' _ (l.take r) from fun w' h => (HV.out.below (B0.trans (h.mono B0.size))).take i4)
  go_wp2_with fail
  refine wp_region_noPanic ?_
  refine wp_region_held_drew (S := fun w' => Below w1.heap.size w1 w') (by kernel_rfl) (Below.refl _ _).drew (fun hHeld => ?_)
  generalize w1.drew = D at hHeld ⊢
  have c1 : Below w1.heap.size w1 D := hHeld
  refine wpAnyH_take (i := 1) (oi := ⟨some 25, _, _, _, _, _⟩) (v := ?qv1ta) rfl (by kernel_rfl) (by kernel_rfl) (by kernel_rfl) (fun _ _ _ h => h) (Or.inl ⟨by rfl, ?qy1ta⟩) hHeld ?qr1ta
  case qy1ta => (intro w' hSw; go_simp; try with_reducible rfl)
  try simp only [Act.put, List.setIfInBounds_toArray, List.set_cons_zero, List.set_cons_succ]
  refine wpAnyH_take (i := 2) (oi := ⟨some 26, _, _, _, _, _⟩) (v := ?qv2ta) rfl (by kernel_rfl) (by kernel_rfl) (by kernel_rfl) (fun _ _ _ h => h) (Or.inl ⟨by rfl, ?qy2ta⟩) hHeld ?qr2ta
  case qy2ta => (intro w' hSw; go_simp; try with_reducible rfl)
  try simp only [Act.put, List.setIfInBounds_toArray, List.set_cons_zero, List.set_cons_succ]
  refine wpAnyH_take (i := 3) (oi := ⟨some 27, _, _, _, _, _⟩) (v := ?qv3ta) rfl (by kernel_rfl) (by kernel_rfl) (by kernel_rfl) (fun _ _ _ h => h) (Or.inl ⟨by rfl, ?qy3ta⟩) hHeld ?qr3ta
  case qy3ta => (intro w' hSw; skip; go_simp; try with_reducible rfl)
  try simp only [Act.put, List.setIfInBounds_toArray, List.set_cons_zero, List.set_cons_succ]
  refine wpAnyH_take (i := 5) (oi := ⟨some 29, _, _, _, _, _⟩) (v := ?qv5ta) rfl (by kernel_rfl) (by kernel_rfl) (by kernel_rfl) (fun _ _ _ h => h) (Or.inl ⟨by rfl, ?qy5ta⟩) hHeld ?qr5ta
  case qy5ta => (intro w' hSw; go_simp; try with_reducible rfl)
  try simp only [Act.put, List.setIfInBounds_toArray, List.set_cons_zero, List.set_cons_succ]
  refine wpAnyH_take (i := 6) (oi := ⟨some 30, _, _, _, _, _⟩) (v := ?qv6ta) rfl (by kernel_rfl) (by kernel_rfl) (by kernel_rfl) (fun _ _ _ h => h) (Or.inl ⟨by rfl, ?qy6ta⟩) hHeld ?qr6ta
  case qy6ta => (intro w' hSw; go_simp; try with_reducible rfl)
  try simp only [Act.put, List.setIfInBounds_toArray, List.set_cons_zero, List.set_cons_succ]
  refine wpAnyH_take (i := 7) (oi := ⟨some 31, _, _, _, _, _⟩) (v := ?qv7ta) rfl (by kernel_rfl) (by kernel_rfl) (by kernel_rfl) (fun _ _ _ h => h) (Or.inl ⟨by rfl, ?qy7ta⟩) hHeld ?qr7ta
  case qy7ta => (intro w' hSw; skip; go_simp; try with_reducible rfl)
  try simp only [Act.put, List.setIfInBounds_toArray, List.set_cons_zero, List.set_cons_succ]
  refine wpAnyH_ready (rs := [0]) (by kernel_rfl) (by simp) ?_
  refine AllReadyH.cons (o := ⟨some 24, _, _, _, _, _⟩) rfl (fun K hK => ?_) AllReadyH.nil
  go_simp
  have c2 := c1.alloc c1.size (.cells #[] 24)
  have HO := Lib.hid (ownP_empty D w1.heap.size c1.size)
  refine hK.out _ _ c2 (fun hHeld => ?_)
  clear hK K
  try simp only [Act.put, List.setIfInBounds_toArray, List.set_cons_zero, List.set_cons_succ]
  refine wpAnyH_ready (rs := [4]) (by kernel_rfl) (by simp) ?_
  refine AllReadyH.cons (o := ⟨some 28, _, _, _, _, _⟩) rfl (fun K hK => ?_) AllReadyH.nil
  refine step_append_pt (by rfl) _ _ (by rfl) w1.heap.size _ [] (by rfl) HO.out _ (l.drop r) (by rfl) (DR.out _ c2) (by simp; omega) c2.size ?_
  intro v2 w2 ho2 b2
  have c3 := c2.trans b2
  refine hK.out _ _ c3 (fun hHeld => ?_)
  clear hK K
  try simp only [Act.put, List.setIfInBounds_toArray, List.set_cons_zero, List.set_cons_succ]
  refine wpAnyH_ready (rs := [8]) (by kernel_rfl) (by simp) ?_
  refine AllReadyH.cons (o := ⟨some 32, _, _, _, _, _⟩) rfl (fun K hK => ?_) AllReadyH.nil
  refine step_append_pt (by rfl) _ _ (by rfl) w1.heap.size _ _ (by rfl) ho2 _ (l.take r) (by rfl) (TK.out _ c3) (by simp; omega) c3.size ?_
  intro v3 w3 ho3 b3
  have c4 := c3.trans b3
  refine hK.out _ _ c4 (fun hHeld => ?_)
  clear hK K
  try simp only [Act.put, List.setIfInBounds_toArray, List.set_cons_zero, List.set_cons_succ]
  refine wpAnyH_take (i := 9) (oi := ⟨some 7, _, _, _, _, _⟩) (v := ?qv9ta) rfl (by kernel_rfl) (by kernel_rfl) (by kernel_rfl) (fun _ _ _ h => h) (Or.inl ⟨by rfl, ?qy9ta⟩) hHeld ?qr9ta
  case qy9ta => (intro w' hSw; go_simp; try with_reducible rfl)
  try simp only [Act.put, List.setIfInBounds_toArray, List.set_cons_zero, List.set_cons_succ]
  refine wpAnyH_done (by kernel_rfl) ?_ _
  refine NoPanic.normal ?_
  have HO3 := Lib.hid (show OwnP w3 w1.heap.size v3 (rot r l) from by rw [List.nil_append] at ho3; exact ho3)
  clear ho3 ho2 HO DR TK
  go_wp2_with fail
  go_loopw [8, 9] (fun b q wr => ∃ i : Nat, i ≤ l.length ∧ q = .int .i64 ((i : Int) - 1) ∧ OwnP wr w3.heap.size b (l.drop i).reverse ∧ Below w3.heap.size w3 wr) (fun _ q _ => (intOf q + 1).toNat)
  case atStart =>
    refine ⟨l.length, Nat.le_refl _, by go_num, ?_, Below.refl _ _⟩
    rw [List.drop_length]
    exact World.ownsRow_nil _ _ _ _
  case round =>
    obtain ⟨i, hi, rfl, ho, hb⟩ := hrel
    have C5 := c4.trans (hb.mono c4.size)
    have BB := B0.trans (C5.mono B0.size)
    cases i with
    | succ j =>
      have ej : (((j + 1 : Nat) : Int) - 1) = (j : Int) := by omega
      rw [ej]
      have t2 : decide ((0 : Int) ≤ (j : Int)) = true := decide_eq_true (by omega)
      obtain ⟨_, _, e, _, hx0, hy0⟩ := H3.out j (by omega)
      cases e
      have xc := (BB.cell (p := ⟨g, off + j * 2, none⟩) hg0).trans hx0
      have yc := (BB.cell (p := ⟨g, off + j * 2 + 1, none⟩) hg0).trans hy0
      have j0 : (0 : Int) ≤ (j : Int) := by omega
      have j1 : (j : Int) < (l.length : Int) := by omega
      have HT := Lib.hid (show (l.drop j).reverse = (l.drop (j + 1)).reverse ++ [l[j]] by
        rw [List.drop_eq_getElem_cons (show j < l.length by omega), List.reverse_cons])
      have hlj : (l.drop (j + 1)).reverse.length ≤ 80 := by simp; omega
      clear hx0 hy0
      generalize l[j] = pj at *
      obtain ⟨ax, ay⟩ := pj
      simp only at xc yc
      have HP := Lib.hid (show Pts (wr.alloc (.cells #[.int .i64 ax, .int .i64 ay] 24)) (.slice (some ⟨wr.heap.size, 0, none⟩) 1 1) [(ax, ay)] from pts1 wr _ _ rfl _ _)
      have HO := Lib.hid (World.ownsRow.alloc ho (.cells #[.int .i64 ax, .int .i64 ay] 24))
      have hb6 := hb.alloc hb.size (.cells #[.int .i64 ax, .int .i64 ay] 24)
      have hlen : (l.drop (j + 1)).reverse.length + [(ax, ay)].length ≤ 1000000 := by simp only [List.length_singleton]; omega
      clear ho hlj
      go_wp2_with (at_builtin; refine wpList_append_pt rfl _ _ rfl w3.heap.size _ _ rfl HO.out _ [(ax, ay)] rfl HP.out hlen hb6.size ?_)
      intro v5 w5 ho5 hb5
      have HB := Lib.hid (hb6.trans hb5)
      have HO5 := Lib.hid ho5
      clear hlen ho5
      go_wp2_with fail
      go_roundw
      case rel => exact ⟨j, by omega, by go_num, by rw [HT.out]; exact HO5.out, HB.out⟩
      case measure => simp [intOf]
    | zero =>
      have ej : (((0 : Nat) : Int) - 1) = -1 := by omega
      rw [ej]
      have t2 : decide ((0 : Int) ≤ (-1 : Int)) = false := by decide
      rw [List.drop_zero] at ho
      have V0 := Lib.hid (show ∀ w', Below wr.heap.size wr w' → Pts w' _ l from fun w' h => HV.out.below (BB.trans (h.mono BB.size)))
      have M0 := Lib.hid (show ∀ w', Below wr.heap.size wr w' → Pts w' _ (rot r l) from fun w' h => HO3.out.pts.below (hb.trans (h.mono hb.size)))
      have K0 := Lib.hid (show ∀ w', Below wr.heap.size wr w' → Pts w' _ l.reverse from fun w' h => ho.pts.below h)
      have C1 := Lib.hid (show ∀ w', Below wr.heap.size wr w' → _ from fun w' h => Check_any _ _ _ (V0.out w' h))
      have C2 := Lib.hid (show ∀ w', Below wr.heap.size wr w' → _ from fun w' h => Check_any _ _ _ (M0.out w' h))
      have C3 := Lib.hid (show ∀ w', Below wr.heap.size wr w' → _ from fun w' h => Check_any _ _ _ (K0.out w' h))
      have E1 := ringEr_code l
      have E2 := ringEr_code (rot r l)
      have E3 := ringEr_code l.reverse
      rw [rot_code hr] at E2
      rw [rev_code] at E3
      have E1' := Lib.hid E1
      have E2' := Lib.hid E2
      have E3' := Lib.hid E3
      have GG := Lib.hid (show ∀ w', Below wr.heap.size wr w' → ErrT w' from fun w' h => GT.out _ (BB.trans (h.mono BB.size)))
      have XS := Lib.hid (show ∀ w', Below wr.heap.size wr w' → w'.cell? ⟨w.heap.size, 0, none⟩ = some (.int .i64 px) ∧ w'.cell? ⟨w.heap.size, 1, none⟩ = some (.int .i64 py) from fun w' h => by
        obtain ⟨a, b⟩ := Y.out.below (C5.trans (h.mono C5.size))
        exact ⟨a, b⟩)
      clear E1 E2 E3 ho
      by_cases hz : ringC l = 0
      · have hn := ringC_none.1 hz
        have HS := Lib.hid (rot_has hr (px, py))
        have HB := Lib.hid (rev_has l (px, py))
        have TS := Lib.hid (rot_twice hr)
        have TB := Lib.hid (rev_twice hn)
        have LS := Lib.hid (rot_left hr)
        have LB := Lib.hid (rev_left hn)
        clear hn
        rw [hz] at E1' E2' E3'
        clear hz
        go_wp2_with fail
        refine (C1.out _ (Below.refl _ _)).mono ?_
        rintro e w4 ⟨u4, rfl, hu4, b4⟩
        go_wp2_with fail
        refine (Code_er _ _ _ hu4).mono ?_
        rintro e w5 ⟨rfl, rfl⟩
        rw [E1'.out]
        go_wp2_with fail
        refine (C2.out _ b4).mono ?_
        rintro e w5 ⟨u5, rfl, hu5, b5⟩
        have d5 := b4.trans (b5.mono b4.size)
        go_wp2_with fail
        refine (Code_er _ _ _ hu5).mono ?_
        rintro e w6 ⟨rfl, rfl⟩
        rw [E2'.out]
        go_wp2_with fail
        refine (C3.out _ d5).mono ?_
        rintro e w6 ⟨u6, rfl, hu6, b6⟩
        have d6 := d5.trans (b6.mono d5.size)
        go_wp2_with fail
        refine (Code_er _ _ _ hu6).mono ?_
        rintro e w7 ⟨rfl, rfl⟩
        rw [E3'.out]
        have BW := BB.trans (d6.mono BB.size)
        have H1 := Lib.hid (show ∀ w', Below w6.heap.size w6 w' → _ from fun w' h => Has_any _ _ px py _ (M0.out w' (d6.trans (h.mono d6.size))))
        have H2 := Lib.hid (show ∀ w', Below w6.heap.size w6 w' → _ from fun w' h => Has_any _ _ px py _ (V0.out w' (d6.trans (h.mono d6.size))))
        have H3' := Lib.hid (show ∀ w', Below w6.heap.size w6 w' → _ from fun w' h => Has_any _ _ px py _ (K0.out w' (d6.trans (h.mono d6.size))))
        have T1 := Lib.hid (show ∀ w', Below w6.heap.size w6 w' → _ from fun w' h => Twice_any _ _ _ (M0.out w' (d6.trans (h.mono d6.size))))
        have T2 := Lib.hid (show ∀ w', Below w6.heap.size w6 w' → _ from fun w' h => Twice_any _ _ _ (V0.out w' (d6.trans (h.mono d6.size))))
        have T3 := Lib.hid (show ∀ w', Below w6.heap.size w6 w' → _ from fun w' h => Twice_any _ _ _ (K0.out w' (d6.trans (h.mono d6.size))))
        have L1 := Lib.hid (show ∀ w', Below w6.heap.size w6 w' → _ from fun w' h => Left_any _ _ _ (M0.out w' (d6.trans (h.mono d6.size))))
        have L2 := Lib.hid (show ∀ w', Below w6.heap.size w6 w' → _ from fun w' h => Left_any _ _ _ (V0.out w' (d6.trans (h.mono d6.size))))
        have L3 := Lib.hid (show ∀ w', Below w6.heap.size w6 w' → _ from fun w' h => Left_any _ _ _ (K0.out w' (d6.trans (h.mono d6.size))))
        have G3 := Lib.hid (show ∀ w', Below w6.heap.size w6 w' → ErrT w' from fun w' h => GG.out w' (d6.trans (h.mono d6.size)))
        have XR := Lib.hid (show ∀ w', Below w6.heap.size w6 w' → _ from fun w' h => XS.out w' (d6.trans (h.mono d6.size)))
        rw [HS.out] at H1
        rw [HB.out] at H3'
        rw [TS.out] at T1
        rw [TB.out] at T3
        rw [LS.out] at L1
        rw [LB.out] at L3
        clear HS HB TS TB LS LB V0 M0 K0 C1 C2 C3 XS GG
        generalize hasE l (px, py) = sH at *
        generalize twiceE l = sT at *
        generalize leftE l = sL at *
        have t6 : (sL == sL) = true := by simp
        have t7 : (sT == sT) = true := by simp
        have t8 : (sH == sH) = true := by simp
        have t9 : (!(!sL) == sL) = true := by cases sL <;> rfl
        have ta : ((!sL) == sL) = false := by cases sL <;> rfl
        have tb : ((!sL) != sL) = true := by cases sL <;> rfl
        generalize (!sL) = sM at *
        go_wp2_with fail
        refine wp_region_noPanic ?_
        refine wp_region_held_drew (S := fun w' => Below w6.heap.size w6 w') (by kernel_rfl) (Below.refl _ _).drew (fun hHeld => ?_)
        generalize w6.drew = D at hHeld ⊢
        have k1 : Below w6.heap.size w6 D := hHeld
        refine wpAnyH_take (i := 0) (oi := ⟨some 76, _, _, _, _, _⟩) (v := ?qv0tb) rfl (by kernel_rfl) (by kernel_rfl) (by kernel_rfl) (fun _ _ _ h => h) (Or.inl ⟨by rfl, ?qy0tb⟩) hHeld ?qr0tb
        case qy0tb => (intro w' hSw; go_simp; try with_reducible rfl)
        try simp only [Act.put, List.setIfInBounds_toArray, List.set_cons_zero, List.set_cons_succ]
        refine wpAnyH_take (i := 1) (oi := ⟨some 77, _, _, _, _, _⟩) (v := ?qv1tb) rfl (by kernel_rfl) (by kernel_rfl) (by kernel_rfl) (fun _ _ _ h => h) (Or.inl ⟨by rfl, ?qy1tb⟩) hHeld ?qr1tb
        case qy1tb => (intro w' hSw; obtain ⟨z0, z1⟩ := XR.out w' hSw; go_simp; try with_reducible rfl)
        try simp only [Act.put, List.setIfInBounds_toArray, List.set_cons_zero, List.set_cons_succ]
        refine wpAnyH_take (i := 3) (oi := ⟨some 79, _, _, _, _, _⟩) (v := ?qv3tb) rfl (by kernel_rfl) (by kernel_rfl) (by kernel_rfl) (fun _ _ _ h => h) (Or.inl ⟨by rfl, ?qy3tb⟩) hHeld ?qr3tb
        case qy3tb => (intro w' hSw; go_simp; try with_reducible rfl)
        try simp only [Act.put, List.setIfInBounds_toArray, List.set_cons_zero, List.set_cons_succ]
        refine wpAnyH_take (i := 4) (oi := ⟨some 80, _, _, _, _, _⟩) (v := ?qv4tb) rfl (by kernel_rfl) (by kernel_rfl) (by kernel_rfl) (fun _ _ _ h => h) (Or.inl ⟨by rfl, ?qy4tb⟩) hHeld ?qr4tb
        case qy4tb => (intro w' hSw; obtain ⟨z0, z1⟩ := XR.out w' hSw; go_simp; try with_reducible rfl)
        try simp only [Act.put, List.setIfInBounds_toArray, List.set_cons_zero, List.set_cons_succ]
        refine wpAnyH_ready (rs := [2]) (by kernel_rfl) (by simp) ?_
        refine AllReadyH.cons (o := ⟨some 78, _, _, _, _, _⟩) rfl (fun K hK => ?_) AllReadyH.nil
        refine step_go (by rfl) 15 _ _ (by rfl) (fun _ _ => by kernel_rfl) _ (by rfl) (H1.out _ k1) ?_
        rintro e x1 ⟨rfl, a1⟩
        refine ⟨_, rfl, ?_⟩
        have k2 := k1.trans (a1.mono k1.size)
        refine hK.out _ _ (k2) (fun hHeld => ?_)
        clear hK K
        try simp only [Act.put, List.setIfInBounds_toArray, List.set_cons_zero, List.set_cons_succ]
        refine wpAnyH_ready (rs := [5]) (by kernel_rfl) (by simp) ?_
        refine AllReadyH.cons (o := ⟨some 81, _, _, _, _, _⟩) rfl (fun K hK => ?_) AllReadyH.nil
        refine step_go (by rfl) 15 _ _ (by rfl) (fun _ _ => by kernel_rfl) _ (by rfl) (H2.out _ k2) ?_
        rintro e x2 ⟨rfl, a2⟩
        refine ⟨_, rfl, ?_⟩
        have k3 := k2.trans (a2.mono k2.size)
        refine hK.out _ _ (k3) (fun hHeld => ?_)
        clear hK K
        try simp only [Act.put, List.setIfInBounds_toArray, List.set_cons_zero, List.set_cons_succ]
        refine wpAnyH_take (i := 6) (oi := ⟨some 82, _, _, _, _, _⟩) (v := ?qv6tb) rfl (by kernel_rfl) (by kernel_rfl) (by kernel_rfl) (fun _ _ _ h => h) (Or.inl ⟨by rfl, ?qy6tb⟩) hHeld ?qr6tb
        case qy6tb => (intro w' hSw; go_simp; try with_reducible rfl)
        try simp only [Act.put, List.setIfInBounds_toArray, List.set_cons_zero, List.set_cons_succ]
        refine wpAnyH_take (i := 7) (oi := ⟨some 83, _, _, _, _, _⟩) (v := ?qv7tb) rfl (by kernel_rfl) (by kernel_rfl) (by kernel_rfl) (fun _ _ _ h => h) (Or.inl ⟨by rfl, ?qy7tb⟩) hHeld ?qr7tb
        case qy7tb => (intro w' hSw; go_simp; try with_reducible rfl)
        try simp only [Act.put, List.setIfInBounds_toArray, List.set_cons_zero, List.set_cons_succ]
        refine wpAnyH_take (i := 8) (oi := ⟨some 84, _, _, _, _, _⟩) (v := ?qv8tb) rfl (by kernel_rfl) (by kernel_rfl) (by kernel_rfl) (fun _ _ _ h => h) (Or.inl ⟨by rfl, ?qy8tb⟩) hHeld ?qr8tb
        case qy8tb => (intro w' hSw; go_simp; try with_reducible rfl)
        try simp only [Act.put, List.setIfInBounds_toArray, List.set_cons_zero, List.set_cons_succ]
        refine wpAnyH_take (i := 9) (oi := ⟨some 85, _, _, _, _, _⟩) (v := ?qv9tb) rfl (by kernel_rfl) (by kernel_rfl) (by kernel_rfl) (fun _ _ _ h => h) (Or.inl ⟨by rfl, ?qy9tb⟩) hHeld ?qr9tb
        case qy9tb => (intro w' hSw; obtain ⟨z0, z1⟩ := XR.out w' hSw; go_simp; try with_reducible rfl)
        try simp only [Act.put, List.setIfInBounds_toArray, List.set_cons_zero, List.set_cons_succ]
        refine wpAnyH_take (i := 11) (oi := ⟨some 87, _, _, _, _, _⟩) (v := ?qv11tb) rfl (by kernel_rfl) (by kernel_rfl) (by kernel_rfl) (fun _ _ _ h => h) (Or.inl ⟨by rfl, ?qy11tb⟩) hHeld ?qr11tb
        case qy11tb => (intro w' hSw; go_simp; try with_reducible rfl)
        try simp only [Act.put, List.setIfInBounds_toArray, List.set_cons_zero, List.set_cons_succ]
        refine wpAnyH_take (i := 12) (oi := ⟨some 88, _, _, _, _, _⟩) (v := ?qv12tb) rfl (by kernel_rfl) (by kernel_rfl) (by kernel_rfl) (fun _ _ _ h => h) (Or.inl ⟨by rfl, ?qy12tb⟩) hHeld ?qr12tb
        case qy12tb => (intro w' hSw; obtain ⟨z0, z1⟩ := XR.out w' hSw; go_simp; try with_reducible rfl)
        try simp only [Act.put, List.setIfInBounds_toArray, List.set_cons_zero, List.set_cons_succ]
        refine wpAnyH_ready (rs := [10]) (by kernel_rfl) (by simp) ?_
        refine AllReadyH.cons (o := ⟨some 86, _, _, _, _, _⟩) rfl (fun K hK => ?_) AllReadyH.nil
        refine step_go (by rfl) 15 _ _ (by rfl) (fun _ _ => by kernel_rfl) _ (by rfl) (H3'.out _ k3) ?_
        rintro e x3 ⟨rfl, a3⟩
        refine ⟨_, rfl, ?_⟩
        have k4 := k3.trans (a3.mono k3.size)
        refine hK.out _ _ (k4) (fun hHeld => ?_)
        clear hK K
        try simp only [Act.put, List.setIfInBounds_toArray, List.set_cons_zero, List.set_cons_succ]
        refine wpAnyH_ready (rs := [13]) (by kernel_rfl) (by simp) ?_
        refine AllReadyH.cons (o := ⟨some 89, _, _, _, _, _⟩) rfl (fun K hK => ?_) AllReadyH.nil
        refine step_go (by rfl) 15 _ _ (by rfl) (fun _ _ => by kernel_rfl) _ (by rfl) (H2.out _ k4) ?_
        rintro e x4 ⟨rfl, a4⟩
        refine ⟨_, rfl, ?_⟩
        have k5 := k4.trans (a4.mono k4.size)
        refine hK.out _ _ (k5) (fun hHeld => ?_)
        clear hK K
        try simp only [Act.put, List.setIfInBounds_toArray, List.set_cons_zero, List.set_cons_succ]
        refine wpAnyH_take (i := 14) (oi := ⟨some 90, _, _, _, _, _⟩) (v := ?qv14tb) rfl (by kernel_rfl) (by kernel_rfl) (by kernel_rfl) (fun _ _ _ h => h) (Or.inl ⟨by rfl, ?qy14tb⟩) hHeld ?qr14tb
        case qy14tb => (intro w' hSw; go_simp; try with_reducible rfl)
        try simp only [Act.put, List.setIfInBounds_toArray, List.set_cons_zero, List.set_cons_succ]
        refine wpAnyH_take (i := 15) (oi := ⟨some 91, _, _, _, _, _⟩) (v := ?qv15tb) rfl (by kernel_rfl) (by kernel_rfl) (by kernel_rfl) (fun _ _ _ h => h) (Or.inl ⟨by rfl, ?qy15tb⟩) hHeld ?qr15tb
        case qy15tb => (intro w' hSw; go_simp; try with_reducible rfl)
        try simp only [Act.put, List.setIfInBounds_toArray, List.set_cons_zero, List.set_cons_succ]
        refine wpAnyH_take (i := 16) (oi := ⟨some 92, _, _, _, _, _⟩) (v := ?qv16tb) rfl (by kernel_rfl) (by kernel_rfl) (by kernel_rfl) (fun _ _ _ h => h) (Or.inl ⟨by rfl, ?qy16tb⟩) hHeld ?qr16tb
        case qy16tb => (intro w' hSw; go_simp; try with_reducible rfl)
        try simp only [Act.put, List.setIfInBounds_toArray, List.set_cons_zero, List.set_cons_succ]
        refine wpAnyH_take (i := 17) (oi := ⟨some 93, _, _, _, _, _⟩) (v := ?qv17tb) rfl (by kernel_rfl) (by kernel_rfl) (by kernel_rfl) (fun _ _ _ h => h) (Or.inl ⟨by rfl, ?qy17tb⟩) hHeld ?qr17tb
        case qy17tb => (intro w' hSw; go_simp; try with_reducible rfl)
        try simp only [Act.put, List.setIfInBounds_toArray, List.set_cons_zero, List.set_cons_succ]
        refine wpAnyH_take (i := 19) (oi := ⟨some 95, _, _, _, _, _⟩) (v := ?qv19tb) rfl (by kernel_rfl) (by kernel_rfl) (by kernel_rfl) (fun _ _ _ h => h) (Or.inl ⟨by rfl, ?qy19tb⟩) hHeld ?qr19tb
        case qy19tb => (intro w' hSw; go_simp; try with_reducible rfl)
        try simp only [Act.put, List.setIfInBounds_toArray, List.set_cons_zero, List.set_cons_succ]
        refine wpAnyH_ready (rs := [18]) (by kernel_rfl) (by simp) ?_
        refine AllReadyH.cons (o := ⟨some 94, _, _, _, _, _⟩) rfl (fun K hK => ?_) AllReadyH.nil
        refine step_go (by rfl) 17 _ _ (by rfl) (fun _ _ => by kernel_rfl) _ (by rfl) (T1.out _ k5) ?_
        rintro e x5 ⟨rfl, a5⟩
        refine ⟨_, rfl, ?_⟩
        have k6 := k5.trans (a5.mono k5.size)
        refine hK.out _ _ (k6) (fun hHeld => ?_)
        clear hK K
        try simp only [Act.put, List.setIfInBounds_toArray, List.set_cons_zero, List.set_cons_succ]
        refine wpAnyH_ready (rs := [20]) (by kernel_rfl) (by simp) ?_
        refine AllReadyH.cons (o := ⟨some 96, _, _, _, _, _⟩) rfl (fun K hK => ?_) AllReadyH.nil
        refine step_go (by rfl) 17 _ _ (by rfl) (fun _ _ => by kernel_rfl) _ (by rfl) (T2.out _ k6) ?_
        rintro e x6 ⟨rfl, a6⟩
        refine ⟨_, rfl, ?_⟩
        have k7 := k6.trans (a6.mono k6.size)
        refine hK.out _ _ (k7) (fun hHeld => ?_)
        clear hK K
        try simp only [Act.put, List.setIfInBounds_toArray, List.set_cons_zero, List.set_cons_succ]
        refine wpAnyH_take (i := 21) (oi := ⟨some 97, _, _, _, _, _⟩) (v := ?qv21tb) rfl (by kernel_rfl) (by kernel_rfl) (by kernel_rfl) (fun _ _ _ h => h) (Or.inl ⟨by rfl, ?qy21tb⟩) hHeld ?qr21tb
        case qy21tb => (intro w' hSw; go_simp; try with_reducible rfl)
        try simp only [Act.put, List.setIfInBounds_toArray, List.set_cons_zero, List.set_cons_succ]
        refine wpAnyH_take (i := 22) (oi := ⟨some 98, _, _, _, _, _⟩) (v := ?qv22tb) rfl (by kernel_rfl) (by kernel_rfl) (by kernel_rfl) (fun _ _ _ h => h) (Or.inl ⟨by rfl, ?qy22tb⟩) hHeld ?qr22tb
        case qy22tb => (intro w' hSw; go_simp; try with_reducible rfl)
        try simp only [Act.put, List.setIfInBounds_toArray, List.set_cons_zero, List.set_cons_succ]
        refine wpAnyH_take (i := 23) (oi := ⟨some 99, _, _, _, _, _⟩) (v := ?qv23tb) rfl (by kernel_rfl) (by kernel_rfl) (by kernel_rfl) (fun _ _ _ h => h) (Or.inl ⟨by rfl, ?qy23tb⟩) hHeld ?qr23tb
        case qy23tb => (intro w' hSw; go_simp; try with_reducible rfl)
        try simp only [Act.put, List.setIfInBounds_toArray, List.set_cons_zero, List.set_cons_succ]
        refine wpAnyH_take (i := 24) (oi := ⟨some 100, _, _, _, _, _⟩) (v := ?qv24tb) rfl (by kernel_rfl) (by kernel_rfl) (by kernel_rfl) (fun _ _ _ h => h) (Or.inl ⟨by rfl, ?qy24tb⟩) hHeld ?qr24tb
        case qy24tb => (intro w' hSw; go_simp; try with_reducible rfl)
        try simp only [Act.put, List.setIfInBounds_toArray, List.set_cons_zero, List.set_cons_succ]
        refine wpAnyH_take (i := 26) (oi := ⟨some 102, _, _, _, _, _⟩) (v := ?qv26tb) rfl (by kernel_rfl) (by kernel_rfl) (by kernel_rfl) (fun _ _ _ h => h) (Or.inl ⟨by rfl, ?qy26tb⟩) hHeld ?qr26tb
        case qy26tb => (intro w' hSw; go_simp; try with_reducible rfl)
        try simp only [Act.put, List.setIfInBounds_toArray, List.set_cons_zero, List.set_cons_succ]
        refine wpAnyH_ready (rs := [25]) (by kernel_rfl) (by simp) ?_
        refine AllReadyH.cons (o := ⟨some 101, _, _, _, _, _⟩) rfl (fun K hK => ?_) AllReadyH.nil
        refine step_go (by rfl) 17 _ _ (by rfl) (fun _ _ => by kernel_rfl) _ (by rfl) (T3.out _ k7) ?_
        rintro e x7 ⟨rfl, a7⟩
        refine ⟨_, rfl, ?_⟩
        have k8 := k7.trans (a7.mono k7.size)
        refine hK.out _ _ (k8) (fun hHeld => ?_)
        clear hK K
        try simp only [Act.put, List.setIfInBounds_toArray, List.set_cons_zero, List.set_cons_succ]
        refine wpAnyH_ready (rs := [27]) (by kernel_rfl) (by simp) ?_
        refine AllReadyH.cons (o := ⟨some 103, _, _, _, _, _⟩) rfl (fun K hK => ?_) AllReadyH.nil
        refine step_go (by rfl) 17 _ _ (by rfl) (fun _ _ => by kernel_rfl) _ (by rfl) (T2.out _ k8) ?_
        rintro e x8 ⟨rfl, a8⟩
        refine ⟨_, rfl, ?_⟩
        have k9 := k8.trans (a8.mono k8.size)
        refine hK.out _ _ (k9) (fun hHeld => ?_)
        clear hK K
        try simp only [Act.put, List.setIfInBounds_toArray, List.set_cons_zero, List.set_cons_succ]
        refine wpAnyH_take (i := 28) (oi := ⟨some 104, _, _, _, _, _⟩) (v := ?qv28tb) rfl (by kernel_rfl) (by kernel_rfl) (by kernel_rfl) (fun _ _ _ h => h) (Or.inl ⟨by rfl, ?qy28tb⟩) hHeld ?qr28tb
        case qy28tb => (intro w' hSw; go_simp; try with_reducible rfl)
        try simp only [Act.put, List.setIfInBounds_toArray, List.set_cons_zero, List.set_cons_succ]
        refine wpAnyH_take (i := 29) (oi := ⟨some 105, _, _, _, _, _⟩) (v := ?qv29tb) rfl (by kernel_rfl) (by kernel_rfl) (by kernel_rfl) (fun _ _ _ h => h) (Or.inl ⟨by rfl, ?qy29tb⟩) hHeld ?qr29tb
        case qy29tb => (intro w' hSw; go_simp; try with_reducible rfl)
        try simp only [Act.put, List.setIfInBounds_toArray, List.set_cons_zero, List.set_cons_succ]
        refine wpAnyH_take (i := 30) (oi := ⟨some 106, _, _, _, _, _⟩) (v := ?qv30tb) rfl (by kernel_rfl) (by kernel_rfl) (by kernel_rfl) (fun _ _ _ h => h) (Or.inl ⟨by rfl, ?qy30tb⟩) hHeld ?qr30tb
        case qy30tb => (intro w' hSw; go_simp; try with_reducible rfl)
        try simp only [Act.put, List.setIfInBounds_toArray, List.set_cons_zero, List.set_cons_succ]
        refine wpAnyH_take (i := 31) (oi := ⟨some 107, _, _, _, _, _⟩) (v := ?qv31tb) rfl (by kernel_rfl) (by kernel_rfl) (by kernel_rfl) (fun _ _ _ h => h) (Or.inl ⟨by rfl, ?qy31tb⟩) hHeld ?qr31tb
        case qy31tb => (intro w' hSw; go_simp; try with_reducible rfl)
        try simp only [Act.put, List.setIfInBounds_toArray, List.set_cons_zero, List.set_cons_succ]
        refine wpAnyH_take (i := 33) (oi := ⟨some 109, _, _, _, _, _⟩) (v := ?qv33tb) rfl (by kernel_rfl) (by kernel_rfl) (by kernel_rfl) (fun _ _ _ h => h) (Or.inl ⟨by rfl, ?qy33tb⟩) hHeld ?qr33tb
        case qy33tb => (intro w' hSw; go_simp; try with_reducible rfl)
        try simp only [Act.put, List.setIfInBounds_toArray, List.set_cons_zero, List.set_cons_succ]
        refine wpAnyH_ready (rs := [32]) (by kernel_rfl) (by simp) ?_
        refine AllReadyH.cons (o := ⟨some 108, _, _, _, _, _⟩) rfl (fun K hK => ?_) AllReadyH.nil
        refine step_go (by rfl) 16 _ _ (by rfl) (fun _ _ => by kernel_rfl) _ (by rfl) (L1.out _ k9) ?_
        rintro e x9 ⟨rfl, a9⟩
        refine ⟨_, rfl, ?_⟩
        have ka := k9.trans (a9.mono k9.size)
        refine hK.out _ _ (ka) (fun hHeld => ?_)
        clear hK K
        try simp only [Act.put, List.setIfInBounds_toArray, List.set_cons_zero, List.set_cons_succ]
        refine wpAnyH_ready (rs := [34]) (by kernel_rfl) (by simp) ?_
        refine AllReadyH.cons (o := ⟨some 110, _, _, _, _, _⟩) rfl (fun K hK => ?_) AllReadyH.nil
        refine step_go (by rfl) 16 _ _ (by rfl) (fun _ _ => by kernel_rfl) _ (by rfl) (L2.out _ ka) ?_
        rintro e xa ⟨rfl, aa⟩
        refine ⟨_, rfl, ?_⟩
        have kb := ka.trans (aa.mono ka.size)
        refine hK.out _ _ (kb) (fun hHeld => ?_)
        clear hK K
        try simp only [Act.put, List.setIfInBounds_toArray, List.set_cons_zero, List.set_cons_succ]
        refine wpAnyH_take (i := 35) (oi := ⟨some 111, _, _, _, _, _⟩) (v := ?qv35tb) rfl (by kernel_rfl) (by kernel_rfl) (by kernel_rfl) (fun _ _ _ h => h) (Or.inl ⟨by rfl, ?qy35tb⟩) hHeld ?qr35tb
        case qy35tb => (intro w' hSw; go_simp; try with_reducible rfl)
        try simp only [Act.put, List.setIfInBounds_toArray, List.set_cons_zero, List.set_cons_succ]
        refine wpAnyH_take (i := 36) (oi := ⟨some 112, _, _, _, _, _⟩) (v := ?qv36tb) rfl (by kernel_rfl) (by kernel_rfl) (by kernel_rfl) (fun _ _ _ h => h) (Or.inl ⟨by rfl, ?qy36tb⟩) hHeld ?qr36tb
        case qy36tb => (intro w' hSw; go_simp; try with_reducible rfl)
        try simp only [Act.put, List.setIfInBounds_toArray, List.set_cons_zero, List.set_cons_succ]
        refine wpAnyH_take (i := 37) (oi := ⟨some 113, _, _, _, _, _⟩) (v := ?qv37tb) rfl (by kernel_rfl) (by kernel_rfl) (by kernel_rfl) (fun _ _ _ h => h) (Or.inl ⟨by rfl, ?qy37tb⟩) hHeld ?qr37tb
        case qy37tb => (intro w' hSw; go_simp; try with_reducible rfl)
        try simp only [Act.put, List.setIfInBounds_toArray, List.set_cons_zero, List.set_cons_succ]
        refine wpAnyH_take (i := 38) (oi := ⟨some 114, _, _, _, _, _⟩) (v := ?qv38tb) rfl (by kernel_rfl) (by kernel_rfl) (by kernel_rfl) (fun _ _ _ h => h) (Or.inl ⟨by rfl, ?qy38tb⟩) hHeld ?qr38tb
        case qy38tb => (intro w' hSw; go_simp; try with_reducible rfl)
        try simp only [Act.put, List.setIfInBounds_toArray, List.set_cons_zero, List.set_cons_succ]
        refine wpAnyH_take (i := 40) (oi := ⟨some 116, _, _, _, _, _⟩) (v := ?qv40tb) rfl (by kernel_rfl) (by kernel_rfl) (by kernel_rfl) (fun _ _ _ h => h) (Or.inl ⟨by rfl, ?qy40tb⟩) hHeld ?qr40tb
        case qy40tb => (intro w' hSw; go_simp; try with_reducible rfl)
        try simp only [Act.put, List.setIfInBounds_toArray, List.set_cons_zero, List.set_cons_succ]
        refine wpAnyH_ready (rs := [39]) (by kernel_rfl) (by simp) ?_
        refine AllReadyH.cons (o := ⟨some 115, _, _, _, _, _⟩) rfl (fun K hK => ?_) AllReadyH.nil
        refine step_go (by rfl) 16 _ _ (by rfl) (fun _ _ => by kernel_rfl) _ (by rfl) (L3.out _ kb) ?_
        rintro e xb ⟨rfl, ab⟩
        refine ⟨_, rfl, ?_⟩
        have kc := kb.trans (ab.mono kb.size)
        refine hK.out _ _ (kc) (fun hHeld => ?_)
        clear hK K
        try simp only [Act.put, List.setIfInBounds_toArray, List.set_cons_zero, List.set_cons_succ]
        refine wpAnyH_ready (rs := [41]) (by kernel_rfl) (by simp) ?_
        refine AllReadyH.cons (o := ⟨some 117, _, _, _, _, _⟩) rfl (fun K hK => ?_) AllReadyH.nil
        refine step_go (by rfl) 16 _ _ (by rfl) (fun _ _ => by kernel_rfl) _ (by rfl) (L2.out _ kc) ?_
        rintro e xc ⟨rfl, ac⟩
        refine ⟨_, rfl, ?_⟩
        have kd := kc.trans (ac.mono kc.size)
        refine hK.out _ _ (kd) (fun hHeld => ?_)
        clear hK K
        try simp only [Act.put, List.setIfInBounds_toArray, List.set_cons_zero, List.set_cons_succ]
        refine wpAnyH_take (i := 42) (oi := ⟨some 118, _, _, _, _, _⟩) (v := ?qv42tb) rfl (by kernel_rfl) (by kernel_rfl) (by kernel_rfl) (fun _ _ _ h => h) (Or.inl ⟨by rfl, ?qy42tb⟩) hHeld ?qr42tb
        case qy42tb => (intro w' hSw; go_simp; try with_reducible rfl)
        try simp only [Act.put, List.setIfInBounds_toArray, List.set_cons_zero, List.set_cons_succ]
        refine wpAnyH_take (i := 43) (oi := ⟨some 119, _, _, _, _, _⟩) (v := ?qv43tb) rfl (by kernel_rfl) (by kernel_rfl) (by kernel_rfl) (fun _ _ _ h => h) (Or.inl ⟨by rfl, ?qy43tb⟩) hHeld ?qr43tb
        case qy43tb => (intro w' hSw; go_simp; try with_reducible rfl)
        try simp only [Act.put, List.setIfInBounds_toArray, List.set_cons_zero, List.set_cons_succ]
        refine wpAnyH_take (i := 44) (oi := ⟨some 120, _, _, _, _, _⟩) (v := ?qv44tb) rfl (by kernel_rfl) (by kernel_rfl) (by kernel_rfl) (fun _ _ _ h => h) (Or.inl ⟨by rfl, ?qy44tb⟩) hHeld ?qr44tb
        case qy44tb => (intro w' hSw; go_simp; try with_reducible rfl)
        try simp only [Act.put, List.setIfInBounds_toArray, List.set_cons_zero, List.set_cons_succ]
        refine wpAnyH_ready (rs := [45]) (by kernel_rfl) (by simp) ?_
        refine AllReadyH.cons (o := ⟨some 121, _, _, _, _, _⟩) rfl (fun K hK => ?_) AllReadyH.nil
        refine step_go (by rfl) 11 _ _ (by rfl) (fun _ _ => by kernel_rfl) _ (by rfl) (awake5_any _ (G3.out _ kd)) ?_
        rintro e xd ⟨rfl, ad⟩
        refine ⟨_, rfl, ?_⟩
        have ke := kd.trans (ad.mono kd.size)
        refine hK.out _ _ (ke) (fun hHeld => ?_)
        clear hK K
        try simp only [Act.put, List.setIfInBounds_toArray, List.set_cons_zero, List.set_cons_succ]
        refine wpAnyH_take (i := 46) (oi := ⟨some 122, _, _, _, _, _⟩) (v := ?qv46tb) rfl (by kernel_rfl) (by kernel_rfl) (by kernel_rfl) (fun _ _ _ h => h) (Or.inl ⟨by rfl, ?qy46tb⟩) hHeld ?qr46tb
        case qy46tb => (intro w' hSw; go_simp; try with_reducible rfl)
        try simp only [Act.put, List.setIfInBounds_toArray, List.set_cons_zero, List.set_cons_succ]
        refine wpAnyH_take (i := 47) (oi := ⟨some 6, _, _, _, _, _⟩) (v := ?qv47tb) rfl (by kernel_rfl) (by kernel_rfl) (by kernel_rfl) (fun _ _ _ h => h) (Or.inl ⟨by rfl, ?qy47tb⟩) hHeld ?qr47tb
        case qy47tb => (intro w' hSw; go_simp; try with_reducible rfl)
        try simp only [Act.put, List.setIfInBounds_toArray, List.set_cons_zero, List.set_cons_succ]
        refine wpAnyH_done (by kernel_rfl) ?_ _
        refine NoPanic.normal ?_
        go_wp2_with fail
        go_ret
        exact ⟨rfl, BW.trans (ke.mono BW.size)⟩
      · have hn : ¬ ringEr l = .none := fun k => hz (ringC_none.2 k)
        have HS := Lib.hid (show hasE l (px, py) = false by unfold hasE; rw [ringOk_no hn]; rfl)
        have LS := Lib.hid (show leftE l = false by unfold leftE; rw [ringOk_no hn]; rfl)
        have H2 := Lib.hid (show ∀ w', Below wr.heap.size wr w' → _ from fun w' h => Has_any _ _ px py _ (V0.out w' h))
        have L2 := Lib.hid (show ∀ w', Below wr.heap.size wr w' → _ from fun w' h => Left_any _ _ _ (V0.out w' h))
        rw [HS.out] at H2
        rw [LS.out] at L2
        clear hn
        generalize ringC l = cc at *
        have u1 : (cc != cc) = false := by simp
        have u2 : (cc != 0) = true := by simpa using hz
        clear hz
        go_wp2_with fail
        refine (C1.out _ (Below.refl _ _)).mono ?_
        rintro e w4 ⟨u4, rfl, hu4, b4⟩
        go_wp2_with fail
        refine (Code_er _ _ _ hu4).mono ?_
        rintro e w5 ⟨rfl, rfl⟩
        rw [E1'.out]
        go_wp2_with fail
        refine (C2.out _ b4).mono ?_
        rintro e w5 ⟨u5, rfl, hu5, b5⟩
        have d5 := b4.trans (b5.mono b4.size)
        go_wp2_with fail
        refine (Code_er _ _ _ hu5).mono ?_
        rintro e w6 ⟨rfl, rfl⟩
        rw [E2'.out]
        go_wp2_with fail
        refine (C3.out _ d5).mono ?_
        rintro e w6 ⟨u6, rfl, hu6, b6⟩
        have d6 := d5.trans (b6.mono d5.size)
        go_wp2_with fail
        refine (Code_er _ _ _ hu6).mono ?_
        rintro e w7 ⟨rfl, rfl⟩
        rw [E3'.out]
        obtain ⟨z0, z1⟩ := XS.out _ d6
        go_wp2_with fail
        refine (H2.out _ d6).mono ?_
        rintro e w7 ⟨rfl, b7⟩
        have d7 := d6.trans (b7.mono d6.size)
        go_wp2_with fail
        refine (L2.out _ d7).mono ?_
        rintro e w8 ⟨rfl, b8⟩
        have d8 := d7.trans (b8.mono d7.size)
        go_wp2_with fail
        refine (awake5_any _ (GG.out _ d8)).mono ?_
        rintro e w9 ⟨rfl, b9⟩
        have d9 := d8.trans (b9.mono d8.size)
        go_wp2_with fail
        go_ret
        exact ⟨rfl, BB.trans (d9.mono BB.size)⟩

set_option maxRecDepth 100000 in
theorem ringTurns_calls {H : Type} {enc : TypeId × Value → H} {W : World} {base : Nat} {v0 v1 v2 : Value} {d0 d1 d2 : DataW H} {p0 p1 p2 : List MemPlace} (hg : ErrT W)
    (o0 : Value.okWide Tryd.prog W .any base 22 v0) (h0 : DataW.Trod enc Tryd.prog W 0 (fun _ => true) true 22 v0 d0 p0)
    (o1 : Value.okWide Tryd.prog W .any base 3 v1) (h1 : DataW.Trod enc Tryd.prog W 0 (fun _ => true) true 3 v1 d1 p1)
    (o2 : Value.okWide Tryd.prog W .any base 24 v2) (h2 : DataW.Trod enc Tryd.prog W 0 (fun _ => true) true 24 v2 d2 p2) :
    Calls Tryd.prog 3 #[v0, v1, v2] W fun e w' => e = .returned (.bool true) ∧ Below W.heap.size W w' := by
  obtain ⟨l, hl, _⟩ := view_pts o0 h0
  obtain ⟨k, rfl, rfl, rfl, hk⟩ := open_int Tryd.underlying3 o1 h1
  obtain ⟨a, b, rfl, _, _⟩ := view_pt o2 h2
  by_cases h : 1 ≤ l.length ∧ l.length ≤ 80
  · exact turns_in v0 l k a b W hl hg h.1 h.2
  · exact turns_out v0 l k a b W hl hg h
end Go.Proofs.YtpmngdgifdkohaaDoor
