/- pergolalaw20.SorterSizes. -/
import Derived.Test.YtoggbmfjjenbaaaTw33
set_option linter.unusedSimpArgs false
set_option linter.unusedVariables false
namespace Go.Proofs.Ytoggbmfjjenbaaa
open Go.RowKit

/-- how often an id comes among the first k -/
def cntL (l : List KdL) (d : Int) (k : Nat) : Nat := ((l.take k).map KdL.id).count d
theorem cntL_zero (l : List KdL) (d : Int) : cntL l d 0 = 0 := by simp [cntL]
theorem cntL_succ {l : List KdL} {d : Int} {k : Nat} {x : KdL} (h : l[k]? = some x) : cntL l d (k + 1) = if x.id = d then cntL l d k + 1 else cntL l d k := by
  obtain ⟨hk, rfl⟩ := List.getElem?_eq_some_iff.1 h
  unfold cntL
  rw [List.take_succ_eq_append_getElem hk, List.map_append, List.count_append]
  by_cases e : l[k].id = d
  · rw [if_pos e]; simp [e]
  · rw [if_neg e]
    simp only [List.map_cons, List.map_nil, List.count_singleton]
    rw [if_neg (by simpa using e)]; rfl
theorem cntL_le (l : List KdL) (d : Int) (k : Nat) : cntL l d k ≤ k := by
  unfold cntL
  refine Nat.le_trans List.count_le_length ?_
  simp
  omega
theorem cntL_perm {l l' : List KdL} (h : l.Perm l') (d : Int) {n : Nat} (h1 : l.length ≤ n) (h2 : l'.length ≤ n) : cntL l d n = cntL l' d n := by
  unfold cntL
  rw [List.take_of_length_le h1, List.take_of_length_le h2]
  exact (h.map _).count_eq d

set_option maxRecDepth 100000 in
set_option maxHeartbeats 8000000 in
theorem sizes_any (v : Value) (r : List KdV) (sa sb : Int) (w : World) (h : ItRd w v r) (hk : KeyIs r) :
    Calls Try.prog 3 #[v, .int .i64 sa, .int .i64 sb] w fun e w' => e = .returned (.bool true) ∧ Below w.heap.size w w' := by
  have AW := Lib.hid awake20_any
  have SM := Lib.hid (small_any v r w h)
  have HR := Lib.hid h
  have HK := Lib.hid hk
  obtain ⟨ao, c, rfl, hc1, hc2, -, -⟩ := h.open
  unfold maxLen at hc2
  clear h hk
  go_enter Try.func3, Try.ntmps3
  go_wp2_with fail
  refine SM.out.mono ?_
  rintro e w1 ⟨b, rfl, hsm, b1⟩
  have HSM := Lib.hid hsm
  clear hsm SM
  by_cases hall : b = true ∧ 1 ≤ sa ∧ sa ≤ 1000 ∧ 1 ≤ sb ∧ sb ≤ 1000
  case neg =>
    have q1 : b = true → ¬ sa < 1 → ¬ 1000 < sa → ¬ sb < 1 → ¬ 1000 < sb → False := fun x0 x1 x2 x3 x4 => hall ⟨x0, by omega, by omega, by omega, by omega⟩
    clear hall
    rcases hb0 : b with _ | _
    · go_wp2_with fail
      refine (AW.out _).mono ?_
      rintro e wz ⟨rfl, bz⟩
      go_wp2_with fail
      go_ret
      exact ⟨rfl, b1.trans (bz.mono b1.size)⟩
    · rcases h1 : decide (sa < 1) with _ | _
      · rcases h2 : decide (1000 < sa) with _ | _
        · rcases h3 : decide (sb < 1) with _ | _
          · rcases h4 : decide (1000 < sb) with _ | _
            · exact (q1 hb0 (of_decide_eq_false h1) (of_decide_eq_false h2) (of_decide_eq_false h3) (of_decide_eq_false h4)).elim
            · clear q1
              go_wp2_with fail
              refine (AW.out _).mono ?_
              rintro e wz ⟨rfl, bz⟩
              go_wp2_with fail
              go_ret
              exact ⟨rfl, b1.trans (bz.mono b1.size)⟩
          · clear q1
            go_wp2_with fail
            refine (AW.out _).mono ?_
            rintro e wz ⟨rfl, bz⟩
            go_wp2_with fail
            go_ret
            exact ⟨rfl, b1.trans (bz.mono b1.size)⟩
        · clear q1
          go_wp2_with fail
          refine (AW.out _).mono ?_
          rintro e wz ⟨rfl, bz⟩
          go_wp2_with fail
          go_ret
          exact ⟨rfl, b1.trans (bz.mono b1.size)⟩
      · clear q1
        go_wp2_with fail
        refine (AW.out _).mono ?_
        rintro e wz ⟨rfl, bz⟩
        go_wp2_with fail
        go_ret
        exact ⟨rfl, b1.trans (bz.mono b1.size)⟩
  case pos =>
    obtain ⟨rfl, ha1, ha2, hb1, hb2⟩ := hall
    have t1 : decide (sa < 1) = false := decide_eq_false (by omega)
    have t2 : decide (1000 < sa) = false := decide_eq_false (by omega)
    have t3 : decide (sb < 1) = false := decide_eq_false (by omega)
    have t4 : decide (1000 < sb) = false := decide_eq_false (by omega)
    obtain ⟨s, rfl⟩ : ∃ s : Nat, sa = (s : Int) := ⟨sa.toNat, by omega⟩
    obtain ⟨s', rfl⟩ : ∃ s' : Nat, sb = (s' : Int) := ⟨sb.toNat, by omega⟩
    have hs : 1 ≤ s ∧ s ≤ 1000 := by omega
    have hs' : 1 ≤ s' ∧ s' ≤ 1000 := by omega
    obtain ⟨hl, hpl⟩ := HSM.out rfl
    have ST := Lib.hid (Sort_any _ r s w1 (HR.out.below b1) HK.out (fun x hx => Nat.le_trans (hpl x hx) (by omega)) (by omega) hs.1 hs.2)
    have ST2 := Lib.hid (fun w2 (hw : Below w.heap.size w w2) => Sort_any _ r s' w2 (HR.out.below hw) HK.out (fun x hx => Nat.le_trans (hpl x hx) (by omega)) (by omega) hs'.1 hs'.2)
    clear hpl HSM ha1 ha2 hb1 hb2
    go_wp2_with fail
    refine ST.out.mono ?_
    rintro e w2 ⟨b2, hres⟩
    have B2 := b1.trans (b2.mono b1.size)
    rcases hres with ⟨vx, rx, rfl, hse, hox, hcx⟩ | ⟨u, rfl, hne, hu⟩
    · have HX := Lib.hid hox
      have HCX := Lib.hid hcx
      have HSE := Lib.hid hse
      have hpx : (rx.map Prod.fst).Perm (r.map Prod.fst) := by rw [hcx]; exact List.mergeSort_perm _ _
      have HPX := Lib.hid hpx
      have hlx : rx.length = r.length := by simpa using hpx.length_eq
      obtain ⟨ax, cx, rfl, g1, g2, -, -⟩ := hox.rd.open
      rw [hlx] at g1
      have HLX := Lib.hid hlx
      unfold maxLen at g2
      clear hox hcx hse hlx hpx ST
      go_wp2_with fail
      refine (ST2.out _ B2).mono ?_
      rintro e w3 ⟨b3, hres⟩
      have B3 := B2.trans (b3.mono B2.size)
      rcases hres with ⟨vy, ry, rfl, _, hoy, hcy⟩ | ⟨u, rfl, hne, _⟩
      · have X3 := HX.out.below b3
        have SI := Lib.hid (SameItems_eq _ _ rx ry w3 X3.rd hoy.rd (by rw [hcy, HCX.out]))
        have HX3 := Lib.hid X3
        obtain ⟨ay, cy, rfl, -, -, -, -⟩ := hoy.rd.open
        obtain ⟨n, hn⟩ : ∃ n, n = r.length := ⟨_, rfl⟩
        rw [← hn] at HLX
        rw [HLX.out] at SI ⊢
        rw [← hn] at hc1 hl g1 ⊢
        have HN := Lib.hid hn
        clear X3 hoy hcy ST2 hn
        go_wp2_with fail
        refine SI.out.mono ?_
        rintro e w4 ⟨rfl, b4⟩
        have B4 := B3.trans (b4.mono B3.size)
        have X4 := Lib.hid (HX3.out.below b4)
        have hsz4 := B4.size
        obtain ⟨_, _, e0, -, -, -, eachX⟩ := X4.out.rd.open
        simp only [Value.slice.injEq, true_and] at e0
        obtain ⟨rfl, -, rfl⟩ := e0
        have EX := Lib.hid eachX
        have PX := Lib.hid X4.out.rd.2
        obtain ⟨_, _, e1, -, -, -, eachL⟩ := HR.out.open
        simp only [Value.slice.injEq, true_and] at e1
        obtain ⟨rfl, -, rfl⟩ := e1
        have EL := Lib.hid eachL
        clear eachX eachL SI HX3
        go_wp2_with fail
        go_loopw [11] (fun iv wr => ∃ k : Nat, 1 ≤ k ∧ (k ≤ n ∨ k = 1) ∧ iv = .int .i64 k ∧ Below w4.heap.size w4 wr) (fun iv _ => n + 1 - (intOf iv).toNat)
        case atStart => exact ⟨1, by omega, .inr rfl, rfl, Below.refl _ _⟩
        case round =>
          obtain ⟨k, hk1, hkn, rfl, hb⟩ := hrel
          have BB := B4.trans (hb.mono hsz4)
          by_cases hlt : k < n
          · have t5 : decide ((k : Int) < (n : Int)) = true := decide_eq_true (by omega)
            obtain ⟨j, rfl⟩ : ∃ j, k = j + 1 := ⟨k - 1, by omega⟩
            obtain ⟨x, hx⟩ : ∃ x, rx[j]? = some x := ⟨_, List.getElem?_eq_getElem (by have := HLX.out; omega)⟩
            obtain ⟨y, hy⟩ : ∃ y, rx[j + 1]? = some y := ⟨_, List.getElem?_eq_getElem (by have := HLX.out; omega)⟩
            have hxy : ltK y.1 x.1 = false := by
              have hs := sorted_mergeSort (r.map Prod.fst)
              rw [← HCX.out, List.pairwise_iff_getElem] at hs
              obtain ⟨h1, h2⟩ := List.getElem?_eq_some_iff.1 hx
              obtain ⟨h3, h4⟩ := List.getElem?_eq_some_iff.1 hy
              have := hs j (j + 1) (by simpa using h1) (by simpa using h3) (by omega)
              rw [List.getElem_map, List.getElem_map, h2, h4] at this
              simpa [leK] using this
            have okx : objCode x.1.kind x.1.pts = 0 := sortEr_none HSE.out x.1 (HPX.out.mem_iff.1 (List.mem_map_of_mem (List.mem_of_getElem? hx)))
            have oky : objCode y.1.kind y.1.pts = 0 := sortEr_none HSE.out y.1 (HPX.out.mem_iff.1 (List.mem_map_of_mem (List.mem_of_getElem? hy)))
            have HKX := Lib.hid (all_perm HPX.out (P := fun y => y.key = objKey y.kind y.pts) HK.out)
            have kx := HKX.out x (List.mem_of_getElem? hx)
            have ky := HKX.out y (List.mem_of_getElem? hy)
            obtain ⟨bx, ox, eo, hbx, x0, x1, x2⟩ := EX.out j x hx
            subst eo
            obtain ⟨b', o', eo, hby, y0, y1, y2⟩ := EX.out (j + 1) y hy
            simp only [Option.some.injEq, Addr.mk.injEq, and_true] at eo
            obtain ⟨rfl, rfl⟩ := eo
            have px := PX.out x (List.mem_of_getElem? hx)
            have py := PX.out y (List.mem_of_getElem? hy)
            obtain ⟨⟨xk, xi, xd, xp⟩, xv⟩ := x
            obtain ⟨⟨yk, yi, yd, yp⟩, yv⟩ := y
            simp only at hxy okx oky kx ky x0 x1 x2 y0 y1 y2 px py
            obtain ⟨xa, xn, xc, rfl⟩ := px.isSl
            obtain ⟨ya, yn, yc, rfl⟩ := py.isSl
            have KX := Lib.hid (fun w' (hw : Below w4.heap.size w4 w') => Key_ok xd _ xp w' (px.below hw) okx)
            have KY := Lib.hid (fun w' (hw : Below w4.heap.size w4 w') => Key_ok yd _ yp w' (py.below hw) oky)
            rw [← kx] at KX
            rw [← ky] at KY
            have LS := Lib.hid (fun w' => Less_any (⟨yk, yi, yd, yp⟩, .slice ya yn yc) (⟨xk, xi, xd, xp⟩, .slice xa xn xc) w' ⟨_, _, _, rfl⟩ ⟨_, _, _, rfl⟩)
            simp only [hxy, kdA] at LS
            obtain ⟨m, hm⟩ : ∃ m, m = j + 1 := ⟨_, rfl⟩
            obtain rfl : j = m - 1 := by omega
            have hm1 : 1 ≤ m := by omega
            rw [show m - 1 + 1 = m from by omega] at *
            have CX := Lib.hid (And.intro x0 (And.intro x1 x2))
            have CY := Lib.hid (And.intro y0 (And.intro y1 y2))
            have r1 := (hb.cell (p := ⟨bx, ox + (m - 1) * 3 + 1, none⟩) hbx).trans x1
            have r2 : wr.cell? ⟨bx, ox + (m - 1) * 3 + 1 + 1, none⟩ = some (.slice xa xn xc) := (hb.cell (p := ⟨bx, ox + (m - 1) * 3 + 2, none⟩) hbx).trans x2
            have i0 : (0 : Int) ≤ (m : Int) - 1 := by omega
            have i1 : (m : Int) - 1 < (n : Int) := by omega
            have wI : IntKind.i64.wrap ((m : Int) - 1) = ((m - 1 : Nat) : Int) := by rw [IntWalk.i64_in _ (by omega)]; omega
            have i5 : (0 : Int) ≤ ((m - 1 : Nat) : Int) := by omega
            have i6 : ((m - 1 : Nat) : Int) < (n : Int) := by omega
            have i3 : (0 : Int) ≤ (m : Int) := by omega
            have i4 : (m : Int) < (n : Int) := by omega
            have HXY := Lib.hid (And.intro hxy (And.intro okx oky))
            clear hxy okx oky kx ky x0 x1 x2 y0 y1 y2 px py hx hy HKX
            clear hm
            go_wp2_with fail
            refine (KX.out _ hb).mono ?_
            rintro e w5 ⟨rfl, b5⟩
            have b45 := hb.trans (b5.mono hb.size)
            have r3 := (b45.cell (p := ⟨bx, ox + m * 3 + 1, none⟩) hby).trans CY.out.2.1
            have r4 : w5.cell? ⟨bx, ox + m * 3 + 1 + 1, none⟩ = some (.slice ya yn yc) := (b45.cell (p := ⟨bx, ox + m * 3 + 2, none⟩) hby).trans CY.out.2.2
            go_wp2_with fail
            refine (KY.out _ b45).mono ?_
            rintro e w6 ⟨rfl, b6⟩
            have b46 := b45.trans (b6.mono b45.size)
            go_wp2_with fail
            refine wp_region_noPanic ?_
            refine wp_region_held_drew (S := fun w' => Below w4.heap.size w4 w') (by kernel_rfl) b46.drew (fun hHeld => ?_)
            generalize w6.drew = D at hHeld ⊢
            have kb : Below w4.heap.size w4 D := hHeld
            refine wpAnyH_take (i := 0) (oi := ⟨some 112, _, _, _, _, _⟩) (v := ?qv0sz) rfl (by kernel_rfl) (by kernel_rfl) (by kernel_rfl) (fun _ _ _ h => h) (Or.inl ⟨by rfl, ?qy0sz⟩) hHeld ?qr0sz
            case qy0sz => (intro w' hSw; go_simp; try with_reducible rfl)
            try simp only [Act.put, List.setIfInBounds_toArray, List.set_cons_zero, List.set_cons_succ]
            refine wpAnyH_take (i := 1) (oi := ⟨some 113, _, _, _, _, _⟩) (v := ?qv1sz) rfl (by kernel_rfl) (by kernel_rfl) (by kernel_rfl) (fun _ _ _ h => h) (Or.inl ⟨by rfl, ?qy1sz⟩) hHeld ?qr1sz
            case qy1sz => (intro w' hSw; go_simp; try with_reducible rfl)
            try simp only [Act.put, List.setIfInBounds_toArray, List.set_cons_zero, List.set_cons_succ]
            refine wpAnyH_take (i := 2) (oi := ⟨some 114, _, _, _, _, _⟩) (v := ?qv2sz) rfl (by kernel_rfl) (by kernel_rfl) (by kernel_rfl) (fun _ _ _ h => h) (Or.inl ⟨by rfl, ?qy2sz⟩) hHeld ?qr2sz
            case qy2sz => (intro w' hSw; go_simp; try with_reducible rfl)
            try simp only [Act.put, List.setIfInBounds_toArray, List.set_cons_zero, List.set_cons_succ]
            refine wpAnyH_take (i := 3) (oi := ⟨some 115, _, _, _, _, _⟩) (v := ?qv3sz) rfl (by kernel_rfl) (by kernel_rfl) (by kernel_rfl) (fun _ _ _ h => h) (Or.inl ⟨by rfl, ?qy3sz⟩) hHeld ?qr3sz
            case qy3sz => (intro w' hSw; go_simp; try with_reducible rfl)
            try simp only [Act.put, List.setIfInBounds_toArray, List.set_cons_zero, List.set_cons_succ]
            refine wpAnyH_take (i := 4) (oi := ⟨some 116, _, _, _, _, _⟩) (v := ?qv4sz) rfl (by kernel_rfl) (by kernel_rfl) (by kernel_rfl) (fun _ _ _ h => h) (Or.inl ⟨by rfl, ?qy4sz⟩) hHeld ?qr4sz
            case qy4sz => (intro w' hSw; have q0 := (hSw.cell (p := ⟨bx, ox + (m - 1) * 3, none⟩) hbx).trans CX.out.1; have q1 := (hSw.cell (p := ⟨bx, ox + (m - 1) * 3 + 1, none⟩) hbx).trans CX.out.2.1; have q2 := (hSw.cell (p := ⟨bx, ox + (m - 1) * 3 + 2, none⟩) hbx).trans CX.out.2.2; have p0 := (hSw.cell (p := ⟨bx, ox + m * 3, none⟩) hby).trans CY.out.1; have p1 := (hSw.cell (p := ⟨bx, ox + m * 3 + 1, none⟩) hby).trans CY.out.2.1; have p2 := (hSw.cell (p := ⟨bx, ox + m * 3 + 2, none⟩) hby).trans CY.out.2.2; go_simp; try with_reducible rfl)
            try simp only [Act.put, List.setIfInBounds_toArray, List.set_cons_zero, List.set_cons_succ]
            refine wpAnyH_take (i := 5) (oi := ⟨some 117, _, _, _, _, _⟩) (v := ?qv5sz) rfl (by kernel_rfl) (by kernel_rfl) (by kernel_rfl) (fun _ _ _ h => h) (Or.inl ⟨by rfl, ?qy5sz⟩) hHeld ?qr5sz
            case qy5sz => (intro w' hSw; go_simp; try with_reducible rfl)
            try simp only [Act.put, List.setIfInBounds_toArray, List.set_cons_zero, List.set_cons_succ]
            refine wpAnyH_take (i := 6) (oi := ⟨some 118, _, _, _, _, _⟩) (v := ?qv6sz) rfl (by kernel_rfl) (by kernel_rfl) (by kernel_rfl) (fun _ _ _ h => h) (Or.inl ⟨by rfl, ?qy6sz⟩) hHeld ?qr6sz
            case qy6sz => (intro w' hSw; go_simp; try with_reducible rfl)
            try simp only [Act.put, List.setIfInBounds_toArray, List.set_cons_zero, List.set_cons_succ]
            refine wpAnyH_take (i := 7) (oi := ⟨some 119, _, _, _, _, _⟩) (v := ?qv7sz) rfl (by kernel_rfl) (by kernel_rfl) (by kernel_rfl) (fun _ _ _ h => h) (Or.inl ⟨by rfl, ?qy7sz⟩) hHeld ?qr7sz
            case qy7sz => (intro w' hSw; go_simp; try with_reducible rfl)
            try simp only [Act.put, List.setIfInBounds_toArray, List.set_cons_zero, List.set_cons_succ]
            refine wpAnyH_take (i := 8) (oi := ⟨some 120, _, _, _, _, _⟩) (v := ?qv8sz) rfl (by kernel_rfl) (by kernel_rfl) (by kernel_rfl) (fun _ _ _ h => h) (Or.inl ⟨by rfl, ?qy8sz⟩) hHeld ?qr8sz
            case qy8sz => (intro w' hSw; go_simp; try with_reducible rfl)
            try simp only [Act.put, List.setIfInBounds_toArray, List.set_cons_zero, List.set_cons_succ]
            refine wpAnyH_take (i := 9) (oi := ⟨some 121, _, _, _, _, _⟩) (v := ?qv9sz) rfl (by kernel_rfl) (by kernel_rfl) (by kernel_rfl) (fun _ _ _ h => h) (Or.inl ⟨by rfl, ?qy9sz⟩) hHeld ?qr9sz
            case qy9sz => (intro w' hSw; go_simp; try with_reducible rfl)
            try simp only [Act.put, List.setIfInBounds_toArray, List.set_cons_zero, List.set_cons_succ]
            refine wpAnyH_take (i := 10) (oi := ⟨some 122, _, _, _, _, _⟩) (v := ?qv10sz) rfl (by kernel_rfl) (by kernel_rfl) (by kernel_rfl) (fun _ _ _ h => h) (Or.inl ⟨by rfl, ?qy10sz⟩) hHeld ?qr10sz
            case qy10sz => (intro w' hSw; go_simp; try with_reducible rfl)
            try simp only [Act.put, List.setIfInBounds_toArray, List.set_cons_zero, List.set_cons_succ]
            refine wpAnyH_take (i := 11) (oi := ⟨some 123, _, _, _, _, _⟩) (v := ?qv11sz) rfl (by kernel_rfl) (by kernel_rfl) (by kernel_rfl) (fun _ _ _ h => h) (Or.inl ⟨by rfl, ?qy11sz⟩) hHeld ?qr11sz
            case qy11sz => (intro w' hSw; have q0 := (hSw.cell (p := ⟨bx, ox + (m - 1) * 3, none⟩) hbx).trans CX.out.1; have q1 := (hSw.cell (p := ⟨bx, ox + (m - 1) * 3 + 1, none⟩) hbx).trans CX.out.2.1; have q2 := (hSw.cell (p := ⟨bx, ox + (m - 1) * 3 + 2, none⟩) hbx).trans CX.out.2.2; have p0 := (hSw.cell (p := ⟨bx, ox + m * 3, none⟩) hby).trans CY.out.1; have p1 := (hSw.cell (p := ⟨bx, ox + m * 3 + 1, none⟩) hby).trans CY.out.2.1; have p2 := (hSw.cell (p := ⟨bx, ox + m * 3 + 2, none⟩) hby).trans CY.out.2.2; go_simp; try with_reducible rfl)
            try simp only [Act.put, List.setIfInBounds_toArray, List.set_cons_zero, List.set_cons_succ]
            refine wpAnyH_take (i := 12) (oi := ⟨some 124, _, _, _, _, _⟩) (v := ?qv12sz) rfl (by kernel_rfl) (by kernel_rfl) (by kernel_rfl) (fun _ _ _ h => h) (Or.inl ⟨by rfl, ?qy12sz⟩) hHeld ?qr12sz
            case qy12sz => (intro w' hSw; go_simp; try with_reducible rfl)
            try simp only [Act.put, List.setIfInBounds_toArray, List.set_cons_zero, List.set_cons_succ]
            refine wpAnyH_ready (rs := [13]) (by kernel_rfl) (by simp) ?_
            refine AllReadyH.cons (o := ⟨some 125, _, _, _, _, _⟩) rfl (fun K hK => ?_) AllReadyH.nil
            refine step_go (by rfl) 11 _ _ (by rfl) (fun _ _ => by kernel_rfl) _ (by rfl) (LS.out _) ?_
            rintro e w7 ⟨rfl, b7⟩
            refine ⟨_, rfl, ?_⟩
            refine hK.out _ _ (kb.trans (b7.mono kb.size)) (fun hHeld => ?_)
            clear hK K
            try simp only [Act.put, List.setIfInBounds_toArray, List.set_cons_zero, List.set_cons_succ]
            refine wpAnyH_done (by kernel_rfl) ?_ _
            refine NoPanic.normal ?_
            have B7 : Below w4.heap.size w4 w7 := hHeld
            clear hHeld kb b7
            go_wp2_with fail
            go_roundw
            case rel => exact ⟨m + 1, by omega, .inl (by omega), by go_num, B7⟩
            case measure => simp [intOf]; omega
          · have t5 : decide ((k : Int) < (n : Int)) = false := decide_eq_false (by omega)
            go_wp2_with fail
            go_loopw [16] (fun iv wr => ∃ i : Nat, i ≤ n ∧ iv = .int .i64 i ∧ Below w4.heap.size w4 wr) (fun iv _ => n - (intOf iv).toNat)
            case atStart => exact ⟨0, Nat.zero_le _, rfl, hb⟩
            case round =>
              obtain ⟨i, hi, rfl, hb2⟩ := hrel
              have BB2 := B4.trans (hb2.mono hsz4)
              by_cases hin : i < n
              · have t6 : decide ((i : Int) < (n : Int)) = true := decide_eq_true (by omega)
                obtain ⟨z, hz⟩ : ∃ z, r[i]? = some z := ⟨_, List.getElem?_eq_getElem (by have := HN.out; omega)⟩
                obtain ⟨bl, ol, rfl, hbl, z0, -, -⟩ := EL.out i z hz
                have Z0 := Lib.hid z0
                generalize z.1.id = zi at *
                have i0 : (0 : Int) ≤ (i : Int) := by omega
                have i1 : (i : Int) < (n : Int) := by omega
                clear z0 hz
                go_wp2_with fail
                go_loopw [17, 18, 19] (fun nv mv kv wq => ∃ k c1 c2 : Nat, k ≤ n ∧ c1 ≤ k ∧ c2 ≤ k ∧ nv = .int .i64 c1 ∧ mv = .int .i64 c2 ∧ kv = .int .i64 k ∧ Hid (c1 = cntL (r.map Prod.fst) zi k) ∧ Hid (c2 = cntL (rx.map Prod.fst) zi k) ∧ Below w4.heap.size w4 wq) (fun _ _ kv _ => n - (intOf kv).toNat)
                case atStart => exact ⟨0, 0, 0, Nat.zero_le _, Nat.zero_le _, Nat.zero_le _, rfl, rfl, rfl, (cntL_zero _ _).symm, (cntL_zero _ _).symm, hb2⟩
                case round =>
                  obtain ⟨k, c1, c2, hk, hc1k, hc2k, rfl, rfl, rfl, hq1, hq2, hbq⟩ := hrel
                  have BQ := B4.trans (hbq.mono hsz4)
                  have hbd := Lib.hid (fun nq => (show Below w4.heap.size w4 (wr.drewN nq) from ⟨hbq.os, hbq.tape, hbq.output, hbq.size, hbq.block⟩))
                  have d0 := (BQ.cell (p := ⟨bl, ol + i * 3, none⟩) hbl).trans Z0.out
                  by_cases hkn2 : k < n
                  · have t7 : decide ((k : Int) < (n : Int)) = true := decide_eq_true (by omega)
                    obtain ⟨x, hx⟩ : ∃ x, r[k]? = some x := ⟨_, List.getElem?_eq_getElem (by have := HN.out; omega)⟩
                    obtain ⟨y, hy⟩ : ∃ y, rx[k]? = some y := ⟨_, List.getElem?_eq_getElem (by have := HLX.out; omega)⟩
                    have NX := Lib.hid (cntL_succ (d := zi) (l := r.map Prod.fst) (k := k) (x := x.1) (by rw [List.getElem?_map, hx]; rfl))
                    have NY := Lib.hid (cntL_succ (d := zi) (l := rx.map Prod.fst) (k := k) (x := y.1) (by rw [List.getElem?_map, hy]; rfl))
                    obtain ⟨b', o', eo, _, x0, -, -⟩ := EL.out k x hx
                    simp only [Option.some.injEq, Addr.mk.injEq, and_true] at eo
                    obtain ⟨rfl, rfl⟩ := eo
                    obtain ⟨b2', o2', rfl, hby, y0, -, -⟩ := EX.out k y hy
                    have d1 := (BQ.cell (p := ⟨bl, ol + k * 3, none⟩) hbl).trans x0
                    have d2 := (hbq.cell (p := ⟨b2', o2' + k * 3, none⟩) hby).trans y0
                    generalize x.1.id = xi at *
                    generalize y.1.id = yi at *
                    have j0 : (0 : Int) ≤ (k : Int) := by omega
                    have j1 : (k : Int) < (n : Int) := by omega
                    have Q1 := Lib.hid hq1
                    have Q2 := Lib.hid hq2
                    clear x0 y0 hx hy hq1 hq2
                    by_cases h1 : xi = zi
                    · have s1 : (xi == zi) = true := by simpa using h1
                      have E1 := Lib.hid (NX.out.trans (if_pos h1))
                      clear h1 NX
                      by_cases h2 : yi = zi
                      · have s2 : (yi == zi) = true := by simpa using h2
                        have E2 := Lib.hid (NY.out.trans (if_pos h2))
                        clear h2 NY
                        go_wp2_with fail
                        go_quiet (fail)
                        go_wp2_with fail
                        go_quiet (fail)
                        go_wp2_with fail
                        go_roundw
                        case rel => exact ⟨k + 1, c1 + 1, c2 + 1, hkn2, by omega, by omega, by go_num, by go_num, by go_num, (by rw [E1.out, ← Q1.out.out]; exact Lib.hid rfl), (by rw [E2.out, ← Q2.out.out]; exact Lib.hid rfl), by first | exact hbd.out _ | exact Below.drewN (hbd.out _) _⟩
                        case measure => simp [intOf]; omega
                      · have s2 : (yi == zi) = false := by simpa using h2
                        have E2 := Lib.hid (NY.out.trans (if_neg h2))
                        clear h2 NY
                        go_wp2_with fail
                        go_quiet (fail)
                        go_wp2_with fail
                        go_quiet (fail)
                        go_wp2_with fail
                        go_roundw
                        case rel => exact ⟨k + 1, c1 + 1, c2, hkn2, by omega, by omega, by go_num, by go_num, by go_num, (by rw [E1.out, ← Q1.out.out]; exact Lib.hid rfl), (by rw [E2.out, ← Q2.out.out]; exact Lib.hid rfl), by first | exact hbd.out _ | exact Below.drewN (hbd.out _) _⟩
                        case measure => simp [intOf]; omega
                    · have s1 : (xi == zi) = false := by simpa using h1
                      have E1 := Lib.hid (NX.out.trans (if_neg h1))
                      clear h1 NX
                      by_cases h2 : yi = zi
                      · have s2 : (yi == zi) = true := by simpa using h2
                        have E2 := Lib.hid (NY.out.trans (if_pos h2))
                        clear h2 NY
                        go_wp2_with fail
                        go_quiet (fail)
                        go_wp2_with fail
                        go_quiet (fail)
                        go_wp2_with fail
                        go_roundw
                        case rel => exact ⟨k + 1, c1, c2 + 1, hkn2, by omega, by omega, by go_num, by go_num, by go_num, (by rw [E1.out, ← Q1.out.out]; exact Lib.hid rfl), (by rw [E2.out, ← Q2.out.out]; exact Lib.hid rfl), by first | exact hbd.out _ | exact Below.drewN (hbd.out _) _⟩
                        case measure => simp [intOf]; omega
                      · have s2 : (yi == zi) = false := by simpa using h2
                        have E2 := Lib.hid (NY.out.trans (if_neg h2))
                        clear h2 NY
                        go_wp2_with fail
                        go_quiet (fail)
                        go_wp2_with fail
                        go_quiet (fail)
                        go_wp2_with fail
                        go_roundw
                        case rel => exact ⟨k + 1, c1, c2, hkn2, by omega, by omega, by go_num, by go_num, by go_num, (by rw [E1.out, ← Q1.out.out]; exact Lib.hid rfl), (by rw [E2.out, ← Q2.out.out]; exact Lib.hid rfl), by first | exact hbd.out _ | exact Below.drewN (hbd.out _) _⟩
                        case measure => simp [intOf]; omega
                  · obtain rfl : k = n := by omega
                    have t7 : decide ((k : Int) < (k : Int)) = false := by simp
                    obtain rfl : c1 = c2 := by
                      rw [hq1.out, hq2.out]
                      exact cntL_perm HPX.out.symm zi (by rw [List.length_map, ← HN.out]; exact Nat.le_refl _) (by rw [List.length_map, HLX.out]; exact Nat.le_refl _)
                    have s1 : ((c1 : Int) != (c1 : Int)) = false := by simp
                    clear hq1 hq2
                    go_wp2_with fail
                    go_roundw
                    case rel => exact ⟨i + 1, hin, by go_num, hbq⟩
                    case measure => simp [intOf]; omega
              · obtain rfl : i = n := by omega
                have t6 : decide ((i : Int) < (i : Int)) = false := by simp
                go_wp2_with fail
                refine (AW.out _).mono ?_
                rintro e wz ⟨rfl, bz⟩
                go_wp2_with fail
                go_ret
                exact ⟨rfl, BB2.trans (bz.mono BB2.size)⟩
      · exact absurd HSE.out hne
    · have HNE := Lib.hid hne
      obtain ⟨T, y, rfl⟩ := hu.iface hne
      clear hu hne
      go_wp2_with fail
      refine (ST2.out _ B2).mono ?_
      rintro e w3 ⟨b3, hres⟩
      have B3 := B2.trans (b3.mono B2.size)
      rcases hres with ⟨vy, ry, rfl, h0, hoy, hcy⟩ | ⟨u, rfl, hne, hu⟩
      · exact absurd h0 HNE.out
      · obtain ⟨T', y', rfl⟩ := hu.iface hne
        clear hu hne
        go_wp2_with fail
        refine wp_region_noPanic ?_
        refine wp_region_held_drew (S := fun w' => Below w.heap.size w w') (by kernel_rfl) B3.drew (fun hHeld => ?_)
        generalize w3.drew = D at hHeld ⊢
        have kb : Below w.heap.size w D := hHeld
        refine wpAnyH_take (i := 0) (oi := ⟨some 58, _, _, _, _, _⟩) (v := ?qv0sy) rfl (by kernel_rfl) (by kernel_rfl) (by kernel_rfl) (fun _ _ _ h => h) (Or.inl ⟨by rfl, ?qy0sy⟩) hHeld ?qr0sy
        case qy0sy => (intro w' hSw; go_simp; try with_reducible rfl)
        try simp only [Act.put, List.setIfInBounds_toArray, List.set_cons_zero, List.set_cons_succ]
        refine wpAnyH_take (i := 1) (oi := ⟨some 59, _, _, _, _, _⟩) (v := ?qv1sy) rfl (by kernel_rfl) (by kernel_rfl) (by kernel_rfl) (fun _ _ _ h => h) (Or.inl ⟨by rfl, ?qy1sy⟩) hHeld ?qr1sy
        case qy1sy => (intro w' hSw; go_simp; try with_reducible rfl)
        try simp only [Act.put, List.setIfInBounds_toArray, List.set_cons_zero, List.set_cons_succ]
        refine wpAnyH_take (i := 2) (oi := ⟨some 60, _, _, _, _, _⟩) (v := ?qv2sy) rfl (by kernel_rfl) (by kernel_rfl) (by kernel_rfl) (fun _ _ _ h => h) (Or.inl ⟨by rfl, ?qy2sy⟩) hHeld ?qr2sy
        case qy2sy => (intro w' hSw; go_simp; try with_reducible rfl)
        try simp only [Act.put, List.setIfInBounds_toArray, List.set_cons_zero, List.set_cons_succ]
        refine wpAnyH_take (i := 3) (oi := ⟨some 61, _, _, _, _, _⟩) (v := ?qv3sy) rfl (by kernel_rfl) (by kernel_rfl) (by kernel_rfl) (fun _ _ _ h => h) (Or.inl ⟨by rfl, ?qy3sy⟩) hHeld ?qr3sy
        case qy3sy => (intro w' hSw; go_simp; try with_reducible rfl)
        try simp only [Act.put, List.setIfInBounds_toArray, List.set_cons_zero, List.set_cons_succ]
        refine wpAnyH_take (i := 4) (oi := ⟨some 62, _, _, _, _, _⟩) (v := ?qv4sy) rfl (by kernel_rfl) (by kernel_rfl) (by kernel_rfl) (fun _ _ _ h => h) (Or.inl ⟨by rfl, ?qy4sy⟩) hHeld ?qr4sy
        case qy4sy => (intro w' hSw; go_simp; try with_reducible rfl)
        try simp only [Act.put, List.setIfInBounds_toArray, List.set_cons_zero, List.set_cons_succ]
        refine wpAnyH_take (i := 5) (oi := ⟨some 63, _, _, _, _, _⟩) (v := ?qv5sy) rfl (by kernel_rfl) (by kernel_rfl) (by kernel_rfl) (fun _ _ _ h => h) (Or.inl ⟨by rfl, ?qy5sy⟩) hHeld ?qr5sy
        case qy5sy => (intro w' hSw; go_simp; try with_reducible rfl)
        try simp only [Act.put, List.setIfInBounds_toArray, List.set_cons_zero, List.set_cons_succ]
        refine wpAnyH_take (i := 6) (oi := ⟨some 64, _, _, _, _, _⟩) (v := ?qv6sy) rfl (by kernel_rfl) (by kernel_rfl) (by kernel_rfl) (fun _ _ _ h => h) (Or.inl ⟨by rfl, ?qy6sy⟩) hHeld ?qr6sy
        case qy6sy => (intro w' hSw; go_simp; try with_reducible rfl)
        try simp only [Act.put, List.setIfInBounds_toArray, List.set_cons_zero, List.set_cons_succ]
        refine wpAnyH_take (i := 7) (oi := ⟨some 65, _, _, _, _, _⟩) (v := ?qv7sy) rfl (by kernel_rfl) (by kernel_rfl) (by kernel_rfl) (fun _ _ _ h => h) (Or.inl ⟨by rfl, ?qy7sy⟩) hHeld ?qr7sy
        case qy7sy => (intro w' hSw; go_simp; try with_reducible rfl)
        try simp only [Act.put, List.setIfInBounds_toArray, List.set_cons_zero, List.set_cons_succ]
        refine wpAnyH_take (i := 8) (oi := ⟨some 66, _, _, _, _, _⟩) (v := ?qv8sy) rfl (by kernel_rfl) (by kernel_rfl) (by kernel_rfl) (fun _ _ _ h => h) (Or.inl ⟨by rfl, ?qy8sy⟩) hHeld ?qr8sy
        case qy8sy => (intro w' hSw; go_simp; try with_reducible rfl)
        try simp only [Act.put, List.setIfInBounds_toArray, List.set_cons_zero, List.set_cons_succ]
        refine wpAnyH_take (i := 9) (oi := ⟨some 67, _, _, _, _, _⟩) (v := ?qv9sy) rfl (by kernel_rfl) (by kernel_rfl) (by kernel_rfl) (fun _ _ _ h => h) (Or.inl ⟨by rfl, ?qy9sy⟩) hHeld ?qr9sy
        case qy9sy => (intro w' hSw; go_simp; try with_reducible rfl)
        try simp only [Act.put, List.setIfInBounds_toArray, List.set_cons_zero, List.set_cons_succ]
        refine wpAnyH_take (i := 10) (oi := ⟨some 68, _, _, _, _, _⟩) (v := ?qv10sy) rfl (by kernel_rfl) (by kernel_rfl) (by kernel_rfl) (fun _ _ _ h => h) (Or.inl ⟨by rfl, ?qy10sy⟩) hHeld ?qr10sy
        case qy10sy => (intro w' hSw; go_simp; try with_reducible rfl)
        try simp only [Act.put, List.setIfInBounds_toArray, List.set_cons_zero, List.set_cons_succ]
        refine wpAnyH_take (i := 11) (oi := ⟨some 69, _, _, _, _, _⟩) (v := ?qv11sy) rfl (by kernel_rfl) (by kernel_rfl) (by kernel_rfl) (fun _ _ _ h => h) (Or.inl ⟨by rfl, ?qy11sy⟩) hHeld ?qr11sy
        case qy11sy => (intro w' hSw; go_simp; try with_reducible rfl)
        try simp only [Act.put, List.setIfInBounds_toArray, List.set_cons_zero, List.set_cons_succ]
        refine wpAnyH_take (i := 12) (oi := ⟨some 70, _, _, _, _, _⟩) (v := ?qv12sy) rfl (by kernel_rfl) (by kernel_rfl) (by kernel_rfl) (fun _ _ _ h => h) (Or.inl ⟨by rfl, ?qy12sy⟩) hHeld ?qr12sy
        case qy12sy => (intro w' hSw; go_simp; try with_reducible rfl)
        try simp only [Act.put, List.setIfInBounds_toArray, List.set_cons_zero, List.set_cons_succ]
        refine wpAnyH_take (i := 13) (oi := ⟨some 71, _, _, _, _, _⟩) (v := ?qv13sy) rfl (by kernel_rfl) (by kernel_rfl) (by kernel_rfl) (fun _ _ _ h => h) (Or.inl ⟨by rfl, ?qy13sy⟩) hHeld ?qr13sy
        case qy13sy => (intro w' hSw; go_simp; try with_reducible rfl)
        try simp only [Act.put, List.setIfInBounds_toArray, List.set_cons_zero, List.set_cons_succ]
        refine wpAnyH_take (i := 14) (oi := ⟨some 72, _, _, _, _, _⟩) (v := ?qv14sy) rfl (by kernel_rfl) (by kernel_rfl) (by kernel_rfl) (fun _ _ _ h => h) (Or.inl ⟨by rfl, ?qy14sy⟩) hHeld ?qr14sy
        case qy14sy => (intro w' hSw; go_simp; try with_reducible rfl)
        try simp only [Act.put, List.setIfInBounds_toArray, List.set_cons_zero, List.set_cons_succ]
        refine wpAnyH_take (i := 15) (oi := ⟨some 73, _, _, _, _, _⟩) (v := ?qv15sy) rfl (by kernel_rfl) (by kernel_rfl) (by kernel_rfl) (fun _ _ _ h => h) (Or.inl ⟨by rfl, ?qy15sy⟩) hHeld ?qr15sy
        case qy15sy => (intro w' hSw; go_simp; try with_reducible rfl)
        try simp only [Act.put, List.setIfInBounds_toArray, List.set_cons_zero, List.set_cons_succ]
        refine wpAnyH_ready (rs := [16]) (by kernel_rfl) (by simp) ?_
        refine AllReadyH.cons (o := ⟨some 74, _, _, _, _, _⟩) rfl (fun K hK => ?_) AllReadyH.nil
        refine step_go (by rfl) 7 _ _ (by rfl) (fun _ _ => by kernel_rfl) _ (by rfl) (AW.out _) ?_
        rintro e wz ⟨rfl, bz⟩
        refine ⟨_, rfl, ?_⟩
        refine hK.out _ _ (kb.trans (bz.mono kb.size)) (fun hHeld => ?_)
        clear hK K
        try simp only [Act.put, List.setIfInBounds_toArray, List.set_cons_zero, List.set_cons_succ]
        refine wpAnyH_take (i := 17) (oi := ⟨some 75, _, _, _, _, _⟩) (v := ?qv17sy) rfl (by kernel_rfl) (by kernel_rfl) (by kernel_rfl) (fun _ _ _ h => h) (Or.inl ⟨by rfl, ?qy17sy⟩) hHeld ?qr17sy
        case qy17sy => (intro w' hSw; go_simp; try with_reducible rfl)
        try simp only [Act.put, List.setIfInBounds_toArray, List.set_cons_zero, List.set_cons_succ]
        refine wpAnyH_take (i := 18) (oi := ⟨some 6, _, _, _, _, _⟩) (v := ?qv18sy) rfl (by kernel_rfl) (by kernel_rfl) (by kernel_rfl) (fun _ _ _ h => h) (Or.inl ⟨by rfl, ?qy18sy⟩) hHeld ?qr18sy
        case qy18sy => (intro w' hSw; go_simp; try with_reducible rfl)
        try simp only [Act.put, List.setIfInBounds_toArray, List.set_cons_zero, List.set_cons_succ]
        refine wpAnyH_done (by kernel_rfl) ?_ _
        refine NoPanic.normal ?_
        have B5 : Below w.heap.size w wz := hHeld
        clear hHeld kb bz
        go_wp2_with fail
        go_ret
        exact ⟨rfl, B5⟩
open Go.ChangeShapes Go.WideShapes Go.ChangeAt in
set_option maxRecDepth 100000 in
theorem sorterSizes_calls {H : Type} {enc : TypeId × Value → H} {W : World} {base : Nat} {v0 v1 v2 : Value} {d0 d1 d2 : DataW H} {p0 p1 p2 : List MemPlace}
    (o0 : Value.okWide Try.prog W .any base 22 v0) (h0 : DataW.Trod enc Try.prog W 0 (fun _ => true) true 22 v0 d0 p0)
    (o1 : Value.okWide Try.prog W .any base 3 v1) (h1 : DataW.Trod enc Try.prog W 0 (fun _ => true) true 3 v1 d1 p1)
    (o2 : Value.okWide Try.prog W .any base 3 v2) (h2 : DataW.Trod enc Try.prog W 0 (fun _ => true) true 3 v2 d2 p2) :
    Calls Try.prog 3 #[v0, v1, v2] W fun e w' => e = .returned (.bool true) ∧ Below W.heap.size W w' := by
  obtain ⟨r, hr, hk, _⟩ := view_items o0 h0
  obtain ⟨n, rfl, rfl, rfl, hw⟩ := open_int Try.underlying3 o1 h1
  obtain ⟨m, rfl, rfl, rfl, hw'⟩ := open_int Try.underlying3 o2 h2
  exact sizes_any v0 r n m W hr hk
end Go.Proofs.Ytoggbmfjjenbaaa
