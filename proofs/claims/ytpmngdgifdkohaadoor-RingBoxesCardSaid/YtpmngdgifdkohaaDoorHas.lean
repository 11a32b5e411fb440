/- ring.Has. (printed by wip/gen_has.py) -/
import Derived.Test.YtpmngdgifdkohaaDoorEdge
import Derived.Test.YtpmngdgifdkohaaDoorVars3
namespace Go.Proofs.YtpmngdgifdkohaaDoor
open Go.RowKit

/-- does a ray from p cross the i-th edge? -/
def crossAt (l : List Pt) (p : Pt) (i : Nat) : Bool :=
  let a := pt l i; let b := pt l ((i + 1) % l.length)
  if b.2 < a.2 then decide (b.2 ≤ p.2) && (decide (p.2 < a.2) && decide (0 < crs b a p))
  else decide (a.2 ≤ p.2) && (decide (p.2 < b.2) && decide (0 < crs a b p))
/-- is the number of crossings of the first k edges odd? -/
def crossTo (l : List Pt) (p : Pt) : Nat → Bool
  | 0 => false
  | k + 1 => if crossAt l p k then !crossTo l p k else crossTo l p k
def hasE (l : List Pt) (p : Pt) : Bool := ringOk l && (okP p && (edgeB l p || crossTo l p l.length))

theorem Has_bad (v : Value) (l : List (Int × Int)) (px py : Int) (w : World) (hv : Pts w v l) (h : ¬ ringEr l = .none ∨ okP (px, py) = false) :
    Calls Tryd.prog 15 #[v, .agg #[.int .i64 px, .int .i64 py]] w fun e w' => e = .returned (.bool (hasE l (px, py))) ∧ Below w.heap.size w w' := by
  have B0 : Below w.heap.size w (w.alloc (.cells #[.int .i64 px, .int .i64 py] 24)) := (Below.refl _ _).alloc (Nat.le_refl _) _
  have P0 := Lib.hid (pair_alloc w px py 24 w.heap.size rfl)
  have C := Lib.hid (Check_any v l _ (hv.below B0))
  have PP := Lib.hid (fun w => ckPoint_any px py w)
  by_cases hr : ringEr l = .none
  · have hp : okP (px, py) = false := by
      rcases h with h | h
      · exact absurd hr h
      · exact h
    rw [hr] at C
    rw [hp] at PP
    have HR := Lib.hid (show hasE l (px, py) = false by unfold hasE; rw [hp]; simp)
    clear h hr hv hp
    go_enter Tryd.func15, Tryd.ntmps15
    go_wp2_with fail
    refine C.out.mono ?_
    rintro e w1 ⟨u, rfl, rfl, b1⟩
    have B1 := B0.trans (b1.mono B0.size)
    obtain ⟨y0, y1⟩ := P0.out.below b1
    go_wp2_with fail
    refine (PP.out _).mono ?_
    rintro e w2 ⟨u, rfl, rfl, b2⟩
    go_wp2_with fail
    go_ret
    exact ⟨by rw [HR.out]; rfl, B1.trans (b2.mono B1.size)⟩
  · obtain ⟨i, k, hr2⟩ := ringEr_some hr
    have HR := Lib.hid (show hasE l (px, py) = false by unfold hasE; rw [ringOk_no hr]; rfl)
    rw [hr2] at C
    clear h hr hr2 hv
    go_enter Tryd.func15, Tryd.ntmps15
    go_wp2_with fail
    refine C.out.mono ?_
    rintro e w1 ⟨u, rfl, hu, b1⟩
    obtain ⟨bu, uu, rfl, _⟩ := hu
    go_wp2_with fail
    go_ret
    exact ⟨by rw [HR.out]; rfl, B0.trans (b1.mono B0.size)⟩

set_option maxRecDepth 100000 in
set_option maxHeartbeats 4000000 in
theorem Has_good (v : Value) (l : List (Int × Int)) (px py : Int) (w : World) (hv : Pts w v l) (hr : ringEr l = .none) (hp : okP (px, py) = true) :
    Calls Tryd.prog 15 #[v, .agg #[.int .i64 px, .int .i64 py]] w fun e w' => e = .returned (.bool (hasE l (px, py))) ∧ Below w.heap.size w w' := by
  obtain ⟨hl, g3, g64⟩ := ringEr_ok hr
  have B0 : Below w.heap.size w (w.alloc (.cells #[.int .i64 px, .int .i64 py] 24)) := (Below.refl _ _).alloc (Nat.le_refl _) _
  have P0 := Lib.hid (pair_alloc w px py 24 w.heap.size rfl)
  have C := Lib.hid (Check_any v l _ (hv.below B0))
  have PP := Lib.hid (fun w => ckPoint_any px py w)
  rw [hr] at C
  rw [hp] at PP
  have HR := Lib.hid (show hasE l (px, py) = (edgeB l (px, py) || crossTo l (px, py) l.length) by unfold hasE; rw [ringOk_yes hr, hp]; rfl)
  have EG := Lib.hid (show ∀ w', Below w.heap.size w w' → _ from fun w' hb => edge_any v l px py w' (hv.below hb))
  have op := okP_inP hp
  have hv0 := hv
  obtain ⟨ao, c, rfl, h1, h2, h0, h3'⟩ := hv.open
  obtain ⟨g, off, rfl, hg0, hq1, hq2⟩ := h3' 0 (by omega)
  have PC := Lib.hid (show ∀ k (hk : k < l.length), _ from fun k hk => pt_cell hv0 hk)
  have OK := Lib.hid (show ∀ k (hk : k < l.length), inP (pt l k).1 (pt l k).2 from fun k hk => okP_inP (pt_ok hl hk))
  have NX := Lib.hid (show ∀ k (hk : k < l.length) w' (hb : Below w.heap.size w w'), _ from fun k hk w' hb => next_any _ l k w' (hv0.below hb) hk)
  unfold maxLen at h2
  clear h0 h3' hq1 hq2 hv hv0 hl hg0 hr hp
  cases hq : edgeB l (px, py) with
  | true =>
    rw [hq] at EG
    have HF := Lib.hid (show hasE l (px, py) = true by rw [HR.out, hq]; rfl)
    clear hq HR
    go_enter Tryd.func15, Tryd.ntmps15
    go_wp2_with fail
    refine C.out.mono ?_
    rintro e w1 ⟨u, rfl, rfl, b1⟩
    have B1 := B0.trans (b1.mono B0.size)
    obtain ⟨y0, y1⟩ := P0.out.below b1
    go_wp2_with fail
    refine (PP.out _).mono ?_
    rintro e w2 ⟨u, rfl, rfl, b2⟩
    have B2 := B1.trans (b2.mono B1.size)
    clear y0 y1
    obtain ⟨y0, y1⟩ := P0.out.below (b1.trans (b2.mono b1.size))
    go_wp2_with fail
    refine (EG.out _ B2).mono ?_
    rintro e w3 ⟨rfl, b3⟩
    go_wp2_with fail
    go_ret
    exact ⟨by rw [HF.out]; rfl, B2.trans (b3.mono B2.size)⟩
  | false =>
    rw [hq] at EG
    have HF := Lib.hid (show hasE l (px, py) = crossTo l (px, py) l.length by rw [HR.out, hq]; rfl)
    clear hq HR
    go_enter Tryd.func15, Tryd.ntmps15
    go_wp2_with fail
    refine C.out.mono ?_
    rintro e w1 ⟨u, rfl, rfl, b1⟩
    have B1 := B0.trans (b1.mono B0.size)
    obtain ⟨y0, y1⟩ := P0.out.below b1
    go_wp2_with fail
    refine (PP.out _).mono ?_
    rintro e w2 ⟨u, rfl, rfl, b2⟩
    have B2 := B1.trans (b2.mono B1.size)
    clear y0 y1
    have b12 := b1.trans (b2.mono b1.size)
    obtain ⟨y0, y1⟩ := P0.out.below b12
    go_wp2_with fail
    refine (EG.out _ B2).mono ?_
    rintro e w3 ⟨rfl, b3⟩
    have B3 := B2.trans (b3.mono B2.size)
    have PX := Lib.hid (P0.out.below (b12.trans (b3.mono b12.size)))
    clear y0 y1 b1 b2 b12 b3 B0 B1 B2 P0 EG C PP
    go_wp2_with fail
    go_loopw [5, 22] (fun s i wr => ∃ k : Nat, k ≤ l.length ∧ i = .int .i64 k ∧ s = .bool (crossTo l (px, py) k) ∧ Below w3.heap.size w3 wr) (fun _ i _ => l.length - (intOf i).toNat)
    case atStart => exact ⟨0, Nat.zero_le _, rfl, rfl, Below.refl _ _⟩
    case round =>
      obtain ⟨k, hk, rfl, rfl, hb⟩ := hrel
      have hb0 := B3.trans (hb.mono B3.size)
      by_cases hlt : k < l.length
      · have t1 : decide ((k : Int) < (l.length : Int)) = true := by simp; omega
        have hm : (k + 1) % l.length < l.length := Nat.mod_lt _ (by omega)
        obtain ⟨hg, hx, hy⟩ := PC.out k hlt
        have oa := OK.out k hlt
        have ob := OK.out _ hm
        have XS := Lib.hid (show ∀ w', Below wr.heap.size wr w' → w'.cell? ⟨g, off + k * 2, none⟩ = some (.int .i64 (pt l k).1) ∧ w'.cell? ⟨g, off + k * 2 + 1, none⟩ = some (.int .i64 (pt l k).2) from fun w' h => by
          have h' := hb0.trans (h.mono hb0.size)
          exact ⟨(h'.cell (p := ⟨g, off + k * 2, none⟩) hg).trans hx, (h'.cell (p := ⟨g, off + k * 2 + 1, none⟩) hg).trans hy⟩)
        have N1 := Lib.hid (show ∀ w', Below wr.heap.size wr w' → _ from fun w' h => NX.out k hlt w' (hb0.trans (h.mono hb0.size)))
        have HT := Lib.hid (show crossTo l (px, py) (k + 1) = if crossAt l (px, py) k then !crossTo l (px, py) k else crossTo l (px, py) k from rfl)
        have HC := Lib.hid (show crossAt l (px, py) k = if (pt l ((k + 1) % l.length)).2 < (pt l k).2 then decide ((pt l ((k + 1) % l.length)).2 ≤ py) && (decide (py < (pt l k).2) && decide (0 < crs (pt l ((k + 1) % l.length)) (pt l k) (px, py)))
          else decide ((pt l k).2 ≤ py) && (decide (py < (pt l ((k + 1) % l.length)).2) && decide (0 < crs (pt l k) (pt l ((k + 1) % l.length)) (px, py))) from rfl)
        clear hx hy hm
        generalize pt l k = pa at *
        generalize pt l ((k + 1) % l.length) = pb at *
        obtain ⟨ax, ay⟩ := pa
        obtain ⟨bx, bz⟩ := pb
        simp only at oa ob XS N1 HC
        generalize crossTo l (px, py) k = inq at *
        have i0 : (0 : Int) ≤ (k : Int) := by omega
        have i1 : (k : Int) < (l.length : Int) := by omega
        go_wp2_with fail
        refine wp_region_noPanic ?_
        refine wp_region_held_drew (S := fun w' => Below wr.heap.size wr w') (by kernel_rfl) (Below.refl _ _).drew (fun hHeld => ?_)
        generalize wr.drew = D at hHeld ⊢
        have B1 : Below wr.heap.size wr D := hHeld
        refine wpAnyH_take (i := 0) (oi := ⟨some 25, _, _, _, _, _⟩) (v := ?qv0h) rfl (by kernel_rfl) (by kernel_rfl) (by kernel_rfl) (fun _ _ _ h => h) (Or.inl ⟨by rfl, ?qy0h⟩) hHeld ?qr0h
        case qy0h => (intro w' hSw; go_simp; try with_reducible rfl)
        try simp only [Act.put, List.setIfInBounds_toArray, List.set_cons_zero, List.set_cons_succ]
        refine wpAnyH_take (i := 1) (oi := ⟨some 26, _, _, _, _, _⟩) (v := ?qv1h) rfl (by kernel_rfl) (by kernel_rfl) (by kernel_rfl) (fun _ _ _ h => h) (Or.inl ⟨by rfl, ?qy1h⟩) hHeld ?qr1h
        case qy1h => (intro w' hSw; go_simp; try with_reducible rfl)
        try simp only [Act.put, List.setIfInBounds_toArray, List.set_cons_zero, List.set_cons_succ]
        refine wpAnyH_take (i := 2) (oi := ⟨some 27, _, _, _, _, _⟩) (v := ?qv2h) rfl (by kernel_rfl) (by kernel_rfl) (by kernel_rfl) (fun _ _ _ h => h) (Or.inl ⟨by rfl, ?qy2h⟩) hHeld ?qr2h
        case qy2h => (intro w' hSw; go_simp; try with_reducible rfl)
        try simp only [Act.put, List.setIfInBounds_toArray, List.set_cons_zero, List.set_cons_succ]
        refine wpAnyH_take (i := 3) (oi := ⟨some 28, _, _, _, _, _⟩) (v := ?qv3h) rfl (by kernel_rfl) (by kernel_rfl) (by kernel_rfl) (fun _ _ _ h => h) (Or.inl ⟨by rfl, ?qy3h⟩) hHeld ?qr3h
        case qy3h => (intro w' hSw; obtain ⟨z0, z1⟩ := XS.out w' hSw; go_simp; try with_reducible rfl)
        try simp only [Act.put, List.setIfInBounds_toArray, List.set_cons_zero, List.set_cons_succ]
        refine wpAnyH_take (i := 4) (oi := ⟨some 29, _, _, _, _, _⟩) (v := ?qv4h) rfl (by kernel_rfl) (by kernel_rfl) (by kernel_rfl) (fun _ _ _ h => h) (Or.inl ⟨by rfl, ?qy4h⟩) hHeld ?qr4h
        case qy4h => (intro w' hSw; go_simp; try with_reducible rfl)
        try simp only [Act.put, List.setIfInBounds_toArray, List.set_cons_zero, List.set_cons_succ]
        refine wpAnyH_take (i := 5) (oi := ⟨some 30, _, _, _, _, _⟩) (v := ?qv5h) rfl (by kernel_rfl) (by kernel_rfl) (by kernel_rfl) (fun _ _ _ h => h) (Or.inl ⟨by rfl, ?qy5h⟩) hHeld ?qr5h
        case qy5h => (intro w' hSw; go_simp; try with_reducible rfl)
        try simp only [Act.put, List.setIfInBounds_toArray, List.set_cons_zero, List.set_cons_succ]
        refine wpAnyH_vars12 (ops := _) wr (.agg #[.int .i64 bx, .int .i64 bz]) (fun q1 q2 q3 => ⟨#[.slice (some ⟨g, off, none⟩) l.length c, .agg #[.int .i64 px, .int .i64 py], undef, .pointer (some ⟨w.heap.size, 0, none⟩), .bool false, .bool inq, .int .i64 (k : Int), q2, q3, .slice (some ⟨g, off, none⟩) l.length c, .nilIface, .bool false, .bool false, .agg #[.int .i64 px, .int .i64 py], .nilIface, .bool false, .bool false, .slice (some ⟨g, off, none⟩) l.length c, .agg #[.int .i64 px, .int .i64 py], .bool false, .slice (some ⟨g, off, none⟩) l.length c, .int .i64 (l.length : Int), .int .i64 (k : Int), .bool true, .int .i64 (k : Int), .slice (some ⟨g, off, none⟩) l.length c, .int .i64 (k : Int), .pointer (some ⟨g, off + k * 2, none⟩), .agg #[.int .i64 ax, .int .i64 ay], .slice (some ⟨g, off, none⟩) l.length c, .int .i64 (k : Int), q1, u32, u33, u34, u35, u36, u37, u38, u39, u40, u41, u42, u43, u44, u45, u46, u47, u48, u49, u50, u51, u52, u53, u54, u55, u56, u57, u58, u59, u60, undef], []⟩) (fun b1 b2 b3 => #[true, true, true, true, true, true, b1, b2, b3, false, false]) 6 7 8 2
          ?zready (fun _ _ _ => rfl) (fun _ _ _ => rfl) (fun _ _ _ => rfl) ?zc1 ?za2 ?za3 ?zfin 3 false false false u31 u7 u8 0 0 D rfl ?zv
        case zready =>
          intro b1 b2 b3 h
          cases b1 <;> cases b2 <;> cases b3 <;> first | (exact absurd h (by decide)) | kernel_rfl
        case zv => exact { bel := B1, e1 := fun q => (by cases q), c2 := fun q => (by cases q), c3 := fun q => (by cases q), d23 := fun q => (by cases q) }
        case zc1 =>
          intro q1 q2 q3 wx K hbx h
          refine wpOp_step (o := ⟨some 31, _, _, _, _, _⟩) rfl fun K' hK => ?_
          refine step_go (by rfl) 40 _ _ (by rfl) (fun _ _ => by kernel_rfl) _ (by rfl) (N1.out _ hbx) ?_
          rintro e wy ⟨rfl, by3⟩
          exact ⟨_, rfl, hK _ _ (h _ by3)⟩
        case za2 =>
          intro q1 q2 q3 wx K h
          refine wpOp_step (o := ⟨some 7, _, _, _, _, _⟩) rfl fun K' hK => ?_
          go_simp
          exact hK _ _ h
        case za3 =>
          intro q1 q2 q3 wx K h
          refine wpOp_step (o := ⟨some 8, _, _, _, _, _⟩) rfl fun K' hK => ?_
          go_simp
          exact hK _ _ h
        case zfin =>
          intro q1 q2 q3 ga gb w5 hv
          obtain rfl := hv.e1 rfl
          obtain ⟨rfl, l2, n2⟩ := hv.c2 rfl
          obtain ⟨rfl, l3, n3⟩ := hv.c3 rfl
          have d23 := hv.d23 rfl rfl
          have E0 := hv.bel
          have T1 := n2.there
          have T2 := n3.there
          clear hv n2 n3 XS N1 B1
          have E1 := below_setCells l2 [.int .i64 ax, .int .i64 ay] 0 _ E0
          refine wpAnyH_ready (rs := [9]) (by kernel_rfl) (by simp) ?_
          refine AllReadyH.cons (o := ⟨none, _, _, _, _, _⟩) rfl (fun K hK => ?_) AllReadyH.nil
          refine step_store (by rfl) _ _ _ (by rfl) ga ax ay (by rfl) (by rfl) T1 (by kernel_rfl) ?_
          refine hK.out _ _ E1 (fun hHeld => ?_)
          clear hK K hHeld
          try simp only [Act.put, List.setIfInBounds_toArray, List.set_cons_zero, List.set_cons_succ]
          have Y1 := pair_setCells _ ga ax ay T1
          replace T1 := World.there_setCells T1 ga 0 [.int .i64 ax, .int .i64 ay]
          replace T2 := World.there_setCells T2 ga 0 [.int .i64 ax, .int .i64 ay]
          generalize w5.setCells ga 0 [.int .i64 ax, .int .i64 ay] = x1 at E1 Y1 T1 T2 ⊢
          have E2 := below_setCells l3 [.int .i64 bx, .int .i64 bz] 0 _ E1
          refine wpAnyH_ready (rs := [10]) (by kernel_rfl) (by simp) ?_
          refine AllReadyH.cons (o := ⟨none, _, _, _, _, _⟩) rfl (fun K hK => ?_) AllReadyH.nil
          refine step_store (by rfl) _ _ _ (by rfl) gb bx bz (by rfl) (by rfl) T2 (by kernel_rfl) ?_
          refine hK.out _ _ E2 (fun hHeld => ?_)
          clear hK K hHeld
          try simp only [Act.put, List.setIfInBounds_toArray, List.set_cons_zero, List.set_cons_succ]
          replace Y1 := Y1.apart d23 [.int .i64 bx, .int .i64 bz]
          have Y2 := pair_setCells _ gb bx bz T2
          replace T1 := World.there_setCells T1 gb 0 [.int .i64 bx, .int .i64 bz]
          replace T2 := World.there_setCells T2 gb 0 [.int .i64 bx, .int .i64 bz]
          generalize x1.setCells gb 0 [.int .i64 bx, .int .i64 bz] = x2 at E2 Y1 Y2 T1 T2 ⊢
          clear E0 E1
          obtain ⟨y0, y1⟩ := Y1
          obtain ⟨y2, y3⟩ := Y2
          have f0 := (T1 0 (by omega)).2
          have f1 := (T1 1 (by omega)).2
          have f2 := (T2 0 (by omega)).2
          have f3 := (T2 1 (by omega)).2
          simp only [Nat.zero_add, Nat.add_zero] at f0 f1 f2 f3
          have hbx := hb.trans (E2.mono hb.size)
          have hxs := E2.size
          obtain ⟨y4, y5⟩ := PX.out.below hbx
          have hga : ga ≠ w.heap.size := by have := World.block_lt_of_cell? wr _ (PX.out.below hb).c0; simp only at this; omega
          have hgb : gb ≠ w.heap.size := by have := World.block_lt_of_cell? wr _ (PX.out.below hb).c0; simp only at this; omega
          clear T1 T2
          refine wpAnyH_done (by kernel_rfl) ?_ _
          refine NoPanic.normal ?_
          by_cases sw : bz < ay
          · have s1 := decide_eq_true sw
            have HC2 := Lib.hid (show crossAt l (px, py) k = (decide (bz ≤ py) && (decide (py < ay) && decide (0 < crs (bx, bz) (ax, ay) (px, py)))) by rw [HC.out, if_pos sw])
            have hga2 : w3.heap.size ≤ ga := Nat.le_trans hb.size l2
            have hgb2 : w3.heap.size ≤ gb := Nat.le_trans hb.size l3
            have hbs := (((hbx.setCell (p := ⟨ga, 0, none⟩) hga2 (.int .i64 bx)).setCell (p := ⟨ga, 1, none⟩) hga2 (.int .i64 bz)).setCell (p := ⟨gb, 0, none⟩) hgb2 (.int .i64 ax)).setCell (p := ⟨gb, 1, none⟩) hgb2 (.int .i64 ay)
            clear HC sw
            have OR := Lib.hid (fun w => Orient_ok bx bz ax ay px py w ob oa op)
            by_cases c1 : bz ≤ py
            · by_cases c2 : py < ay
              · by_cases c3 : 0 < crs (bx, bz) (ax, ay) (px, py)
                · have u1 := decide_eq_true c1
                  have u2 := decide_eq_true c2
                  have u3 : decide (0 < sgn (crs (bx, bz) (ax, ay) (px, py))) = true := decide_eq_true (sgn_pos.2 c3)
                  have HN := Lib.hid (show crossTo l (px, py) (k + 1) = !inq by rw [HT.out, HC2.out, decide_eq_true c1, decide_eq_true c2, decide_eq_true c3]; rfl)
                  generalize crs (bx, bz) (ax, ay) (px, py) = s at *
                  generalize sgn s = sg at *
                  clear c3 HT HC2
                  go_wp2_with fail
                  refine (OR.out _).mono ?_
                  rintro e w8 ⟨rfl, b8⟩
                  have hb8 := hbs.trans (b8.mono hbs.size)
                  go_wp2_with fail
                  go_roundw
                  case rel => exact ⟨k + 1, by omega, by go_num, by rw [HN.out], hb8⟩
                  case measure => simp [intOf]; omega
                · have u1 := decide_eq_true c1
                  have u2 := decide_eq_true c2
                  have u3 : decide (0 < sgn (crs (bx, bz) (ax, ay) (px, py))) = false := decide_eq_false (fun h => c3 (sgn_pos.1 h))
                  have HN := Lib.hid (show crossTo l (px, py) (k + 1) = inq by rw [HT.out, HC2.out, decide_eq_true c1, decide_eq_true c2, decide_eq_false c3]; rfl)
                  generalize crs (bx, bz) (ax, ay) (px, py) = s at *
                  generalize sgn s = sg at *
                  clear c3 HT HC2
                  go_wp2_with fail
                  refine (OR.out _).mono ?_
                  rintro e w8 ⟨rfl, b8⟩
                  have hb8 := hbs.trans (b8.mono hbs.size)
                  go_wp2_with fail
                  go_roundw
                  case rel => exact ⟨k + 1, by omega, by go_num, by rw [HN.out], hb8⟩
                  case measure => simp [intOf]; omega
              · have u1 := decide_eq_true c1
                have u2 := decide_eq_false c2
                have HN := Lib.hid (show crossTo l (px, py) (k + 1) = inq by rw [HT.out, HC2.out, decide_eq_false c2]; simp)
                clear c2 HT HC2
                go_wp2_with fail
                go_roundw
                case rel => exact ⟨k + 1, by omega, by go_num, by rw [HN.out], hbs⟩
                case measure => simp [intOf]; omega
            · have u1 := decide_eq_false c1
              have HN := Lib.hid (show crossTo l (px, py) (k + 1) = inq by rw [HT.out, HC2.out, decide_eq_false c1]; rfl)
              clear c1 HT HC2
              go_wp2_with fail
              go_roundw
              case rel => exact ⟨k + 1, by omega, by go_num, by rw [HN.out], hbs⟩
              case measure => simp [intOf]; omega
          · have s1 := decide_eq_false sw
            have HC2 := Lib.hid (show crossAt l (px, py) k = (decide (ay ≤ py) && (decide (py < bz) && decide (0 < crs (ax, ay) (bx, bz) (px, py)))) by rw [HC.out, if_neg sw])
            clear HC sw
            have OR := Lib.hid (fun w => Orient_ok ax ay bx bz px py w oa ob op)
            by_cases c1 : ay ≤ py
            · by_cases c2 : py < bz
              · by_cases c3 : 0 < crs (ax, ay) (bx, bz) (px, py)
                · have u1 := decide_eq_true c1
                  have u2 := decide_eq_true c2
                  have u3 : decide (0 < sgn (crs (ax, ay) (bx, bz) (px, py))) = true := decide_eq_true (sgn_pos.2 c3)
                  have HN := Lib.hid (show crossTo l (px, py) (k + 1) = !inq by rw [HT.out, HC2.out, decide_eq_true c1, decide_eq_true c2, decide_eq_true c3]; rfl)
                  generalize crs (ax, ay) (bx, bz) (px, py) = s at *
                  generalize sgn s = sg at *
                  clear c3 HT HC2
                  go_wp2_with fail
                  refine (OR.out _).mono ?_
                  rintro e w8 ⟨rfl, b8⟩
                  have hb8 := hbx.trans (b8.mono hbx.size)
                  go_wp2_with fail
                  go_roundw
                  case rel => exact ⟨k + 1, by omega, by go_num, by rw [HN.out], hb8⟩
                  case measure => simp [intOf]; omega
                · have u1 := decide_eq_true c1
                  have u2 := decide_eq_true c2
                  have u3 : decide (0 < sgn (crs (ax, ay) (bx, bz) (px, py))) = false := decide_eq_false (fun h => c3 (sgn_pos.1 h))
                  have HN := Lib.hid (show crossTo l (px, py) (k + 1) = inq by rw [HT.out, HC2.out, decide_eq_true c1, decide_eq_true c2, decide_eq_false c3]; rfl)
                  generalize crs (ax, ay) (bx, bz) (px, py) = s at *
                  generalize sgn s = sg at *
                  clear c3 HT HC2
                  go_wp2_with fail
                  refine (OR.out _).mono ?_
                  rintro e w8 ⟨rfl, b8⟩
                  have hb8 := hbx.trans (b8.mono hbx.size)
                  go_wp2_with fail
                  go_roundw
                  case rel => exact ⟨k + 1, by omega, by go_num, by rw [HN.out], hb8⟩
                  case measure => simp [intOf]; omega
              · have u1 := decide_eq_true c1
                have u2 := decide_eq_false c2
                have HN := Lib.hid (show crossTo l (px, py) (k + 1) = inq by rw [HT.out, HC2.out, decide_eq_false c2]; simp)
                clear c2 HT HC2
                go_wp2_with fail
                go_roundw
                case rel => exact ⟨k + 1, by omega, by go_num, by rw [HN.out], hbx⟩
                case measure => simp [intOf]; omega
            · have u1 := decide_eq_false c1
              have HN := Lib.hid (show crossTo l (px, py) (k + 1) = inq by rw [HT.out, HC2.out, decide_eq_false c1]; rfl)
              clear c1 HT HC2
              go_wp2_with fail
              go_roundw
              case rel => exact ⟨k + 1, by omega, by go_num, by rw [HN.out], hbx⟩
              case measure => simp [intOf]; omega
      · obtain rfl : k = l.length := by omega
        have t1 : decide ((l.length : Int) < (l.length : Int)) = false := by simp
        go_wp2_with fail
        go_ret
        exact ⟨by rw [HF.out]; rfl, hb0⟩
end Go.Proofs.YtpmngdgifdkohaaDoor
