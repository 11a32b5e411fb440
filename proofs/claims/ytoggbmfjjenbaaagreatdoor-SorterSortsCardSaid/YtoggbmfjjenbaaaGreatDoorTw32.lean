/- pergolaref14.SameItems at alike ones; pergolalaw20.awake. From the reading of a []api.Point to points. From the reading of a []api.Item to items. -/
import Derived.Test.YtoggbmfjjenbaaaGreatDoorTw31
import Derived.Test.YtoggbmfjjenbaaaGreatDoorTw2
import Derived.Test.YtoggbmfjjenbaaaGreatDoorTw27
import Derived.Test.YtoggbmfjjenbaaaGreatDoorTw1
import Derived.Test.YtoggbmfjjenbaaaGreatDoorTw30
set_option linter.unusedSimpArgs false
set_option linter.unusedVariables false
namespace Go.Proofs.YtoggbmfjjenbaaaGreatDoor
/-! SAwake -/
section
open Go.RowKit

set_option maxRecDepth 100000 in
theorem SameItems_eq (v v' : Value) (r r' : List KdV) (w : World) (h : ItRd w v r) (h' : ItRd w v' r') (he : r.map Prod.fst = r'.map Prod.fst) :
    Calls Tryz.prog 8 #[v, v'] w fun e w' => e = .returned (.bool true) ∧ Below w.heap.size w w' := by
  have hp := h.2
  have hp' := h'.2
  obtain ⟨ao, c, rfl, h1, h2, -, h3⟩ := h.open
  obtain ⟨ao', c', rfl, g1, g2, -, g3⟩ := h'.open
  have hle : r'.length = r.length := by simpa using (congrArg List.length he).symm
  unfold maxLen at h2 g2
  rw [hle] at g1 ⊢
  obtain ⟨n, hn⟩ : ∃ n, n = r.length := ⟨_, rfl⟩
  have E1 := Lib.hid (show ∀ i, i < n → ∃ (id kind : Int) (l : List Pt) (a a' : Option Addr) (m k k' : Nat) (b off b' off' : Nat), ao = some ⟨b, off, none⟩ ∧ ao' = some ⟨b', off', none⟩ ∧ b < w.heap.size ∧ b' < w.heap.size ∧
      w.cell? ⟨b, off + i * 3, none⟩ = some (.int .i64 id) ∧ w.cell? ⟨b, off + i * 3 + 1, none⟩ = some (.int .i64 kind) ∧ w.cell? ⟨b, off + i * 3 + 2, none⟩ = some (.slice a m k) ∧
      w.cell? ⟨b', off' + i * 3, none⟩ = some (.int .i64 id) ∧ w.cell? ⟨b', off' + i * 3 + 1, none⟩ = some (.int .i64 kind) ∧ w.cell? ⟨b', off' + i * 3 + 2, none⟩ = some (.slice a' m k') ∧ Pts w (.slice a m k) l ∧ Pts w (.slice a' m k') l from fun i hi => by
    obtain ⟨x, hx⟩ : ∃ x, r[i]? = some x := ⟨_, List.getElem?_eq_getElem (by omega)⟩
    obtain ⟨y, hy⟩ : ∃ y, r'[i]? = some y := ⟨_, List.getElem?_eq_getElem (by omega)⟩
    have hxy : x.1 = y.1 := by
      have a := congrArg (fun l => l[i]?) he
      simp only [List.getElem?_map, hx, hy, Option.map_some, Option.some.injEq] at a
      exact a
    obtain ⟨b, off, e, hb, c0, c1, c2⟩ := h3 i x hx
    obtain ⟨b', off', e', hb', d0, d1, d2⟩ := g3 i y hy
    have px := hp x (List.mem_of_getElem? hx)
    have py := hp' y (List.mem_of_getElem? hy)
    rw [← hxy] at d0 d1 py
    obtain ⟨a, k, ex, -, -, -, -⟩ := px.open
    obtain ⟨a', k', ey, -, -, -, -⟩ := py.open
    rw [ex] at c2 px
    rw [ey] at d2 py
    exact ⟨_, _, _, a, a', _, k, k', b, off, b', off', e, e', hb, hb', c0, c1, c2, d0, d1, d2, px, py⟩)
  rw [← hn] at h1 g1 ⊢
  clear h h' hp hp' h3 g3 he hle hn
  go_enter Tryz.func8, Tryz.ntmps8
  go_wp2_with fail
  go_loopw [5] (fun i wr => ∃ k : Nat, k ≤ n ∧ i = .int .i64 k ∧ Below w.heap.size w wr) (fun i _ => n - (intOf i).toNat)
  case atStart => exact ⟨0, Nat.zero_le _, rfl, Below.refl _ _⟩
  case round =>
    obtain ⟨k, hk, rfl, hb⟩ := hrel
    by_cases hlt : k < n
    · have t1 : decide ((k : Int) < (n : Int)) = true := decide_eq_true (by omega)
      have i0 : (0 : Int) ≤ (k : Int) := by omega
      have i1 : (k : Int) < (n : Int) := by omega
      obtain ⟨id, kind, l, a, a', m, k1, k2, b, off, b', off', rfl, rfl, hb0, hb1, c0, c1, c2, d0, d1, d2, px, py⟩ := E1.out k hlt
      have t2 : (id != id) = false := by simp
      have SM := Lib.hid (fun w' (hw : Below w.heap.size w w') => SameR_eq _ _ kind l w' (px.below hw) (py.below hw))
      clear px py
      go_wp2_with fail
      refine wp_region_noPanic ?_
      refine wp_region_held_drew (S := fun w' => Below w.heap.size w w') (by kernel_rfl) hb.drew (fun hHeld => ?_)
      generalize wr.drew = D at hHeld ⊢
      have kb : Below w.heap.size w D := hHeld
      refine wpAnyH_take (i := 0) (oi := ⟨some 17, _, _, _, _, _⟩) (v := ?qv0si) rfl (by kernel_rfl) (by kernel_rfl) (by kernel_rfl) (fun _ _ _ h => h) (Or.inl ⟨by rfl, ?qy0si⟩) hHeld ?qr0si
      case qy0si => (intro w' hSw; go_simp; try with_reducible rfl)
      try simp only [Act.put, List.setIfInBounds_toArray, List.set_cons_zero, List.set_cons_succ]
      refine wpAnyH_take (i := 1) (oi := ⟨some 18, _, _, _, _, _⟩) (v := ?qv1si) rfl (by kernel_rfl) (by kernel_rfl) (by kernel_rfl) (fun _ _ _ h => h) (Or.inl ⟨by rfl, ?qy1si⟩) hHeld ?qr1si
      case qy1si => (intro w' hSw; go_simp; try with_reducible rfl)
      try simp only [Act.put, List.setIfInBounds_toArray, List.set_cons_zero, List.set_cons_succ]
      refine wpAnyH_take (i := 2) (oi := ⟨some 19, _, _, _, _, _⟩) (v := ?qv2si) rfl (by kernel_rfl) (by kernel_rfl) (by kernel_rfl) (fun _ _ _ h => h) (Or.inl ⟨by rfl, ?qy2si⟩) hHeld ?qr2si
      case qy2si => (intro w' hSw; go_simp; try with_reducible rfl)
      try simp only [Act.put, List.setIfInBounds_toArray, List.set_cons_zero, List.set_cons_succ]
      refine wpAnyH_take (i := 3) (oi := ⟨some 20, _, _, _, _, _⟩) (v := ?qv3si) rfl (by kernel_rfl) (by kernel_rfl) (by kernel_rfl) (fun _ _ _ h => h) (Or.inl ⟨by rfl, ?qy3si⟩) hHeld ?qr3si
      case qy3si => (intro w' hSw; go_simp; try with_reducible rfl)
      try simp only [Act.put, List.setIfInBounds_toArray, List.set_cons_zero, List.set_cons_succ]
      refine wpAnyH_take (i := 4) (oi := ⟨some 21, _, _, _, _, _⟩) (v := ?qv4si) rfl (by kernel_rfl) (by kernel_rfl) (by kernel_rfl) (fun _ _ _ h => h) (Or.inl ⟨by rfl, ?qy4si⟩) hHeld ?qr4si
      case qy4si => (intro w' hSw; have q0 := (hSw.cell (p := ⟨b, off + k * 3, none⟩) hb0).trans c0; have q1 := (hSw.cell (p := ⟨b, off + k * 3 + 1, none⟩) hb0).trans c1; have q2 := (hSw.cell (p := ⟨b, off + k * 3 + 2, none⟩) hb0).trans c2; have p0 := (hSw.cell (p := ⟨b', off' + k * 3, none⟩) hb1).trans d0; have p1 := (hSw.cell (p := ⟨b', off' + k * 3 + 1, none⟩) hb1).trans d1; have p2 := (hSw.cell (p := ⟨b', off' + k * 3 + 2, none⟩) hb1).trans d2; go_simp; try with_reducible rfl)
      try simp only [Act.put, List.setIfInBounds_toArray, List.set_cons_zero, List.set_cons_succ]
      refine wpAnyH_take (i := 5) (oi := ⟨some 22, _, _, _, _, _⟩) (v := ?qv5si) rfl (by kernel_rfl) (by kernel_rfl) (by kernel_rfl) (fun _ _ _ h => h) (Or.inl ⟨by rfl, ?qy5si⟩) hHeld ?qr5si
      case qy5si => (intro w' hSw; go_simp; try with_reducible rfl)
      try simp only [Act.put, List.setIfInBounds_toArray, List.set_cons_zero, List.set_cons_succ]
      refine wpAnyH_take (i := 6) (oi := ⟨some 23, _, _, _, _, _⟩) (v := ?qv6si) rfl (by kernel_rfl) (by kernel_rfl) (by kernel_rfl) (fun _ _ _ h => h) (Or.inl ⟨by rfl, ?qy6si⟩) hHeld ?qr6si
      case qy6si => (intro w' hSw; go_simp; try with_reducible rfl)
      try simp only [Act.put, List.setIfInBounds_toArray, List.set_cons_zero, List.set_cons_succ]
      refine wpAnyH_take (i := 7) (oi := ⟨some 24, _, _, _, _, _⟩) (v := ?qv7si) rfl (by kernel_rfl) (by kernel_rfl) (by kernel_rfl) (fun _ _ _ h => h) (Or.inl ⟨by rfl, ?qy7si⟩) hHeld ?qr7si
      case qy7si => (intro w' hSw; go_simp; try with_reducible rfl)
      try simp only [Act.put, List.setIfInBounds_toArray, List.set_cons_zero, List.set_cons_succ]
      refine wpAnyH_take (i := 8) (oi := ⟨some 25, _, _, _, _, _⟩) (v := ?qv8si) rfl (by kernel_rfl) (by kernel_rfl) (by kernel_rfl) (fun _ _ _ h => h) (Or.inl ⟨by rfl, ?qy8si⟩) hHeld ?qr8si
      case qy8si => (intro w' hSw; go_simp; try with_reducible rfl)
      try simp only [Act.put, List.setIfInBounds_toArray, List.set_cons_zero, List.set_cons_succ]
      refine wpAnyH_take (i := 9) (oi := ⟨some 26, _, _, _, _, _⟩) (v := ?qv9si) rfl (by kernel_rfl) (by kernel_rfl) (by kernel_rfl) (fun _ _ _ h => h) (Or.inl ⟨by rfl, ?qy9si⟩) hHeld ?qr9si
      case qy9si => (intro w' hSw; have q0 := (hSw.cell (p := ⟨b, off + k * 3, none⟩) hb0).trans c0; have q1 := (hSw.cell (p := ⟨b, off + k * 3 + 1, none⟩) hb0).trans c1; have q2 := (hSw.cell (p := ⟨b, off + k * 3 + 2, none⟩) hb0).trans c2; have p0 := (hSw.cell (p := ⟨b', off' + k * 3, none⟩) hb1).trans d0; have p1 := (hSw.cell (p := ⟨b', off' + k * 3 + 1, none⟩) hb1).trans d1; have p2 := (hSw.cell (p := ⟨b', off' + k * 3 + 2, none⟩) hb1).trans d2; go_simp; try with_reducible rfl)
      try simp only [Act.put, List.setIfInBounds_toArray, List.set_cons_zero, List.set_cons_succ]
      refine wpAnyH_take (i := 10) (oi := ⟨some 27, _, _, _, _, _⟩) (v := ?qv10si) rfl (by kernel_rfl) (by kernel_rfl) (by kernel_rfl) (fun _ _ _ h => h) (Or.inl ⟨by rfl, ?qy10si⟩) hHeld ?qr10si
      case qy10si => (intro w' hSw; go_simp; try with_reducible rfl)
      try simp only [Act.put, List.setIfInBounds_toArray, List.set_cons_zero, List.set_cons_succ]
      refine wpAnyH_take (i := 11) (oi := ⟨some 28, _, _, _, _, _⟩) (v := ?qv11si) rfl (by kernel_rfl) (by kernel_rfl) (by kernel_rfl) (fun _ _ _ h => h) (Or.inl ⟨by rfl, ?qy11si⟩) hHeld ?qr11si
      case qy11si => (intro w' hSw; go_simp; try with_reducible rfl)
      try simp only [Act.put, List.setIfInBounds_toArray, List.set_cons_zero, List.set_cons_succ]
      refine wpAnyH_take (i := 12) (oi := ⟨some 29, _, _, _, _, _⟩) (v := ?qv12si) rfl (by kernel_rfl) (by kernel_rfl) (by kernel_rfl) (fun _ _ _ h => h) (Or.inl ⟨by rfl, ?qy12si⟩) hHeld ?qr12si
      case qy12si => (intro w' hSw; go_simp; try with_reducible rfl)
      try simp only [Act.put, List.setIfInBounds_toArray, List.set_cons_zero, List.set_cons_succ]
      refine wpAnyH_take (i := 13) (oi := ⟨some 30, _, _, _, _, _⟩) (v := ?qv13si) rfl (by kernel_rfl) (by kernel_rfl) (by kernel_rfl) (fun _ _ _ h => h) (Or.inl ⟨by rfl, ?qy13si⟩) hHeld ?qr13si
      case qy13si => (intro w' hSw; go_simp; try with_reducible rfl)
      try simp only [Act.put, List.setIfInBounds_toArray, List.set_cons_zero, List.set_cons_succ]
      refine wpAnyH_take (i := 14) (oi := ⟨some 31, _, _, _, _, _⟩) (v := ?qv14si) rfl (by kernel_rfl) (by kernel_rfl) (by kernel_rfl) (fun _ _ _ h => h) (Or.inl ⟨by rfl, ?qy14si⟩) hHeld ?qr14si
      case qy14si => (intro w' hSw; go_simp; try with_reducible rfl)
      try simp only [Act.put, List.setIfInBounds_toArray, List.set_cons_zero, List.set_cons_succ]
      refine wpAnyH_take (i := 15) (oi := ⟨some 32, _, _, _, _, _⟩) (v := ?qv15si) rfl (by kernel_rfl) (by kernel_rfl) (by kernel_rfl) (fun _ _ _ h => h) (Or.inl ⟨by rfl, ?qy15si⟩) hHeld ?qr15si
      case qy15si => (intro w' hSw; go_simp; try with_reducible rfl)
      try simp only [Act.put, List.setIfInBounds_toArray, List.set_cons_zero, List.set_cons_succ]
      refine wpAnyH_take (i := 16) (oi := ⟨some 33, _, _, _, _, _⟩) (v := ?qv16si) rfl (by kernel_rfl) (by kernel_rfl) (by kernel_rfl) (fun _ _ _ h => h) (Or.inl ⟨by rfl, ?qy16si⟩) hHeld ?qr16si
      case qy16si => (intro w' hSw; have q0 := (hSw.cell (p := ⟨b, off + k * 3, none⟩) hb0).trans c0; have q1 := (hSw.cell (p := ⟨b, off + k * 3 + 1, none⟩) hb0).trans c1; have q2 := (hSw.cell (p := ⟨b, off + k * 3 + 2, none⟩) hb0).trans c2; have p0 := (hSw.cell (p := ⟨b', off' + k * 3, none⟩) hb1).trans d0; have p1 := (hSw.cell (p := ⟨b', off' + k * 3 + 1, none⟩) hb1).trans d1; have p2 := (hSw.cell (p := ⟨b', off' + k * 3 + 2, none⟩) hb1).trans d2; go_simp; try with_reducible rfl)
      try simp only [Act.put, List.setIfInBounds_toArray, List.set_cons_zero, List.set_cons_succ]
      refine wpAnyH_take (i := 17) (oi := ⟨some 34, _, _, _, _, _⟩) (v := ?qv17si) rfl (by kernel_rfl) (by kernel_rfl) (by kernel_rfl) (fun _ _ _ h => h) (Or.inl ⟨by rfl, ?qy17si⟩) hHeld ?qr17si
      case qy17si => (intro w' hSw; go_simp; try with_reducible rfl)
      try simp only [Act.put, List.setIfInBounds_toArray, List.set_cons_zero, List.set_cons_succ]
      refine wpAnyH_take (i := 18) (oi := ⟨some 35, _, _, _, _, _⟩) (v := ?qv18si) rfl (by kernel_rfl) (by kernel_rfl) (by kernel_rfl) (fun _ _ _ h => h) (Or.inl ⟨by rfl, ?qy18si⟩) hHeld ?qr18si
      case qy18si => (intro w' hSw; go_simp; try with_reducible rfl)
      try simp only [Act.put, List.setIfInBounds_toArray, List.set_cons_zero, List.set_cons_succ]
      refine wpAnyH_take (i := 19) (oi := ⟨some 36, _, _, _, _, _⟩) (v := ?qv19si) rfl (by kernel_rfl) (by kernel_rfl) (by kernel_rfl) (fun _ _ _ h => h) (Or.inl ⟨by rfl, ?qy19si⟩) hHeld ?qr19si
      case qy19si => (intro w' hSw; go_simp; try with_reducible rfl)
      try simp only [Act.put, List.setIfInBounds_toArray, List.set_cons_zero, List.set_cons_succ]
      refine wpAnyH_take (i := 20) (oi := ⟨some 37, _, _, _, _, _⟩) (v := ?qv20si) rfl (by kernel_rfl) (by kernel_rfl) (by kernel_rfl) (fun _ _ _ h => h) (Or.inl ⟨by rfl, ?qy20si⟩) hHeld ?qr20si
      case qy20si => (intro w' hSw; go_simp; try with_reducible rfl)
      try simp only [Act.put, List.setIfInBounds_toArray, List.set_cons_zero, List.set_cons_succ]
      refine wpAnyH_take (i := 21) (oi := ⟨some 38, _, _, _, _, _⟩) (v := ?qv21si) rfl (by kernel_rfl) (by kernel_rfl) (by kernel_rfl) (fun _ _ _ h => h) (Or.inl ⟨by rfl, ?qy21si⟩) hHeld ?qr21si
      case qy21si => (intro w' hSw; have q0 := (hSw.cell (p := ⟨b, off + k * 3, none⟩) hb0).trans c0; have q1 := (hSw.cell (p := ⟨b, off + k * 3 + 1, none⟩) hb0).trans c1; have q2 := (hSw.cell (p := ⟨b, off + k * 3 + 2, none⟩) hb0).trans c2; have p0 := (hSw.cell (p := ⟨b', off' + k * 3, none⟩) hb1).trans d0; have p1 := (hSw.cell (p := ⟨b', off' + k * 3 + 1, none⟩) hb1).trans d1; have p2 := (hSw.cell (p := ⟨b', off' + k * 3 + 2, none⟩) hb1).trans d2; go_simp; try with_reducible rfl)
      try simp only [Act.put, List.setIfInBounds_toArray, List.set_cons_zero, List.set_cons_succ]
      refine wpAnyH_ready (rs := [22]) (by kernel_rfl) (by simp) ?_
      refine AllReadyH.cons (o := ⟨some 39, _, _, _, _, _⟩) rfl (fun K hK => ?_) AllReadyH.nil
      refine step_go (by rfl) 19 _ _ (by rfl) (fun _ _ => by kernel_rfl) _ (by rfl) (SM.out _ kb) ?_
      rintro e w4 ⟨rfl, b4⟩
      refine ⟨_, rfl, ?_⟩
      refine hK.out _ _ (kb.trans (b4.mono kb.size)) (fun hHeld => ?_)
      clear hK K
      try simp only [Act.put, List.setIfInBounds_toArray, List.set_cons_zero, List.set_cons_succ]
      refine wpAnyH_take (i := 23) (oi := ⟨some 40, _, _, _, _, _⟩) (v := ?qv23si) rfl (by kernel_rfl) (by kernel_rfl) (by kernel_rfl) (fun _ _ _ h => h) (Or.inl ⟨by rfl, ?qy23si⟩) hHeld ?qr23si
      case qy23si => (intro w' hSw; go_simp; try with_reducible rfl)
      try simp only [Act.put, List.setIfInBounds_toArray, List.set_cons_zero, List.set_cons_succ]
      refine wpAnyH_take (i := 24) (oi := ⟨some 41, _, _, _, _, _⟩) (v := ?qv24si) rfl (by kernel_rfl) (by kernel_rfl) (by kernel_rfl) (fun _ _ _ h => h) (Or.inl ⟨by rfl, ?qy24si⟩) hHeld ?qr24si
      case qy24si => (intro w' hSw; go_simp; try with_reducible rfl)
      try simp only [Act.put, List.setIfInBounds_toArray, List.set_cons_zero, List.set_cons_succ]
      refine wpAnyH_done (by kernel_rfl) ?_ _
      refine NoPanic.normal ?_
      have B5 : Below w.heap.size w w4 := hHeld
      clear hHeld kb b4
      go_wp2_with fail
      go_roundw
      case rel => exact ⟨k + 1, hlt, by go_num, B5⟩
      case measure => simp [intOf]; omega
    · obtain rfl : k = n := by omega
      have t1 : decide ((k : Int) < (k : Int)) = false := by simp
      go_wp2_with fail
      go_ret
      exact ⟨rfl, hb⟩

/-- a shape of kind 0: a point -/
theorem Shape_zero (x y : Int) (w : World) (hx : ∀ w, Calls Tryz.prog 29 #[.int .i64 x, .int .i64 1000] w fun e w' => e = .returned (.int .i64 x) ∧ w = w') (hy : ∀ w, Calls Tryz.prog 29 #[.int .i64 y, .int .i64 1000] w fun e w' => e = .returned (.int .i64 y) ∧ w = w') :
    Calls Tryz.prog 14 #[.int .i64 0, .int .i64 x, .int .i64 y, .int .i64 1] w fun e w' => ∃ u, e = .returned (.agg #[.int .i64 1, u]) ∧ OwnPt w' w.heap.size u [(x, y)] ∧ Below w.heap.size w w' := by
  have R1 := Lib.hid (show ∀ w, Calls Tryz.prog 29 #[.int .i64 1, .int .i64 50] w fun e w' => e = .returned (.int .i64 1) ∧ w = w' from fun w => Round_any 1 50 w (by omega) (by omega))
  have R0 := Lib.hid (show ∀ w, Calls Tryz.prog 29 #[.int .i64 0, .int .i64 4] w fun e w' => e = .returned (.int .i64 0) ∧ w = w' from fun w => Round_any 0 4 w (by omega) (by omega))
  have HX := Lib.hid hx
  have HY := Lib.hid hy
  have o1 := World.ownsRow_lit (base := w.heap.size + 1) (e := 67) (size := 2) (w.alloc (.cells #[.int .i64 1, .slice (some ⟨w.heap.size + 1, 0, none⟩) 1 1] 39)) #[.int .i64 x, .int .i64 y] 1 (by simp) (by simp [maxLen]) rfl
  rw [show (w.alloc (.cells #[.int .i64 1, .slice (some ⟨w.heap.size + 1, 0, none⟩) 1 1] 39)).heap.size = w.heap.size + 1 by simp] at o1
  have HO := Lib.hid (own_base o1 (show w.heap.size ≤ w.heap.size + 1 by omega))
  have HB := Lib.hid (((Below.refl w.heap.size w).alloc (Nat.le_refl _) (.cells #[.int .i64 1, .slice (some ⟨w.heap.size + 1, 0, none⟩) 1 1] 39)).alloc (by simp) (.cells #[.int .i64 x, .int .i64 y] 67))
  clear hx hy o1
  go_enter Tryz.func14, Tryz.ntmps14
  go_wp2_with fail
  refine (HX.out _).mono ?_
  rintro e w1 ⟨rfl, rfl⟩
  go_wp2_with fail
  refine (HY.out _).mono ?_
  rintro e w1 ⟨rfl, rfl⟩
  go_wp2_with fail
  refine (R1.out _).mono ?_
  rintro e w1 ⟨rfl, rfl⟩
  go_wp2_with fail
  refine (R0.out _).mono ?_
  rintro e w1 ⟨rfl, rfl⟩
  go_wp2_with fail
  exact bodyPost_ret (v := .agg #[.int .i64 1, .slice (some ⟨w.heap.size + 1, 0, none⟩) 1 1]) (by simp [results, Tryz.results14, go_sem]) rfl ⟨_, rfl, HO.out, HB.out⟩

theorem two_first {a b : KdL} (h : leK a b = false) {l : List KdL} (hl : l = [a, b].mergeSort leK) : l = [b, a] := by
  have hp : l.Perm [a, b] := by rw [hl]; exact List.mergeSort_perm _ _
  have hs : l.Pairwise (fun x y => leK x y = true) := by
    rw [hl]
    exact List.pairwise_mergeSort (le := leK) (fun x y z h1 h2 => by unfold leK ltK at *; simp at *; omega) (fun x y => by unfold leK ltK; simp; omega) _
  have hlen := hp.length_eq
  match l, hlen with
  | [x, y], _ =>
    have h1 := (List.pairwise_cons.1 hs).1 y (by simp)
    have hx : x ∈ [a, b] := hp.mem_iff.1 (by simp)
    rcases List.mem_cons.1 hx with rfl | hx
    · have : [y].Perm [b] := (List.perm_cons _).1 hp
      have := List.perm_singleton.1 this
      simp only [List.cons.injEq, and_true] at this
      subst this
      rw [h] at h1
      cases h1
    · obtain rfl := List.mem_singleton.1 hx
      have h2 : [x, y].Perm [x, a] := hp.trans (List.Perm.swap _ _ _)
      have := List.perm_singleton.1 ((List.perm_cons _).1 h2)
      simp only [List.cons.injEq, and_true] at this
      rw [this]

set_option maxRecDepth 100000 in
theorem awake20_any (w : World) : Calls Tryz.prog 5 #[] w fun e w' => e = .returned (.bool true) ∧ Below w.heap.size w w' := by
  have R9 : ∀ w, Calls Tryz.prog 29 #[.int .i64 9, .int .i64 1000] w fun e w' => e = .returned (.int .i64 9) ∧ w = w' := fun w => Round_any 9 1000 w (by omega) (by omega)
  have R1 : ∀ w, Calls Tryz.prog 29 #[.int .i64 1, .int .i64 1000] w fun e w' => e = .returned (.int .i64 1) ∧ w = w' := fun w => Round_any 1 1000 w (by omega) (by omega)
  have S9 := Lib.hid (fun w => Shape_zero 9 9 w R9 R9)
  have S1 := Lib.hid (fun w => Shape_zero 1 1 w R1 R1)
  have hk0 : decide (objKey 1 [(1, 1)] < objKey 1 [(9, 9)]) = true := by kernel_rfl
  have hk := of_decide_eq_true hk0
  have hle : leK ⟨objKey 1 [(9, 9)], 1, 1, [(9, 9)]⟩ ⟨objKey 1 [(1, 1)], 2, 1, [(1, 1)]⟩ = false := by
    unfold leK ltK
    simp
    omega
  have HLE := Lib.hid hle
  have c9 : objCode 1 [(9, 9)] = 0 := by kernel_rfl
  have c1 : objCode 1 [(1, 1)] = 0 := by kernel_rfl
  have HC := Lib.hid (And.intro c9 c1)
  clear R9 R1 hk hk0 hle c9 c1
  go_enter Tryz.func5, Tryz.ntmps5
  go_wp2_with fail
  refine (S9.out _).mono ?_
  rintro e w1 ⟨u1, rfl, o1, b1⟩
  obtain ⟨a1, n1, k1, rfl⟩ := o1.isSl
  go_wp2_with fail
  refine (S1.out _).mono ?_
  rintro e w2 ⟨u2, rfl, o2, b2⟩
  obtain ⟨a2, n2, k2, rfl⟩ := o2.isSl
  have B2 := b1.trans (b2.mono b1.size)
  have P1 := o1.pts.below b2
  have P2 := o2.pts
  have bA : Below w2.heap.size w2 (w2.alloc (.cells #[.int .i64 1, .int .i64 1, .slice a1 n1 k1, .int .i64 2, .int .i64 1, .slice a2 n2 k2] 41)) := (Below.refl _ _).alloc (Nat.le_refl _) _
  have RD : ItRd (w2.alloc (.cells #[.int .i64 1, .int .i64 1, .slice a1 n1 k1, .int .i64 2, .int .i64 1, .slice a2 n2 k2] 41)) (.slice (some ⟨w2.heap.size, 0, none⟩) 2 2) [(⟨objKey 1 [(9, 9)], 1, 1, [(9, 9)]⟩, .slice a1 n1 k1), (⟨objKey 1 [(1, 1)], 2, 1, [(1, 1)]⟩, .slice a2 n2 k2)] :=
    ⟨rd_alloc w2 #[.int .i64 1, .int .i64 1, .slice a1 n1 k1, .int .i64 2, .int .i64 1, .slice a2 n2 k2] 41 (0, 0) 2 (by simp [maxLen]), fun x hx => by
      simp only [List.mem_cons, List.not_mem_nil, or_false] at hx
      rcases hx with rfl | rfl
      · exact P1.below bA
      · exact P2.below bA⟩
  have ST := Lib.hid (show Calls Tryz.prog 6 #[.slice (some ⟨w2.heap.size, 0, none⟩) 2 2, .int .i64 1] (w2.alloc (.cells #[.int .i64 1, .int .i64 1, .slice a1 n1 k1, .int .i64 2, .int .i64 1, .slice a2 n2 k2] 41)) _ from
    Sort_any _ _ 1 _ RD (fun x hx => by
      simp only [List.mem_cons, List.not_mem_nil, or_false] at hx
      rcases hx with rfl | rfl <;> rfl) (fun x hx => by
      simp only [List.mem_cons, List.not_mem_nil, or_false] at hx
      rcases hx with rfl | rfl <;> simp) (by simp) (by omega) (by omega))
  have BA := B2.trans (bA.mono B2.size)
  clear S9 S1 o1 o2 b1 b2 P1 P2 bA RD
  go_wp2_with fail
  refine ST.out.mono ?_
  rintro e w3 ⟨b3, hres⟩
  have B3 := BA.trans (b3.mono BA.size)
  have hn : sortEr [⟨objKey 1 [(9, 9)], 1, 1, [(9, 9)]⟩, ⟨objKey 1 [(1, 1)], 2, 1, [(1, 1)]⟩] = .none := sortEr_ok (fun x hx => by
      simp only [List.mem_cons, List.not_mem_nil, or_false] at hx
      rcases hx with rfl | rfl
      · exact HC.out.1
      · exact HC.out.2)
  rcases hres with ⟨v', r', rfl, _, ho, hr⟩ | ⟨u, rfl, hne, _⟩
  · have h2 := two_first HLE.out hr
    have hlen : r'.length = 2 := by simpa using congrArg List.length h2
    obtain ⟨ao, c, rfl, g1, g2, -, each⟩ := ho.rd.open
    obtain ⟨x, hx⟩ : ∃ x, r'[0]? = some x := ⟨_, List.getElem?_eq_getElem (by omega)⟩
    have hxi : x.1.id = 2 := by
      have := congrArg (fun l => l[0]?) h2
      simp only [List.getElem?_map, hx, Option.map_some] at this
      simp at this
      rw [this]
    obtain ⟨b, off, rfl, hbl, c0, -, -⟩ := each 0 x hx
    rw [hxi] at c0
    simp only [Nat.zero_mul, Nat.add_zero] at c0
    rw [hlen] at g1 ⊢
    unfold maxLen at g2
    clear each hx hxi h2 hr hlen ho ST hn
    go_wp2_with fail
    go_ret
    exact ⟨rfl, B3⟩
  · exact absurd hn hne
end

/-! ViewPts -/
section
open Go.ChangeShapes Go.WideShapes Go.ChangeAt Go.RowKit

theorem i64B_of_wf {a : Int} (h : (Lit.int .i64 a).wf = true) : i64B a := by
  have := bounds_i64 h
  unfold i64B
  omega
section
variable {H : Type} {enc : TypeId × Value → H} {W : World} {base : Nat} {v : Value} {d : DataW H} {p : List MemPlace}

set_option maxRecDepth 100000 in
/-- one cell of a []api.Point, out of its reading -/
theorem cell_points {fuel : Nat} {cs : List Value} {x : DataW H × List MemPlace} (hf : DataW.trod enc Tryz.prog W 0 (fun _ => true) true fuel 37 cs = some x) : ∃ u l, cs = [u] ∧ Pts W u l ∧ PtsB l := by
  rcases DataW.trod_slice Tryz.underlying37 hf with ⟨hcs, _⟩ | ⟨x, len, cap, elems, rest, n, _, hcs, _, _, hl, hm, hlen, hel, _, _⟩
  · exact ⟨_, [], hcs, Pts.nil W, fun q hq => by cases hq⟩
  · have each : ∀ i, i < len → ∃ q : Int × Int, W.cell? ((x.add (i * 2)).add 0) = some (.int .i64 q.1) ∧ W.cell? ((x.add (i * 2)).add 1) = some (.int .i64 q.2) ∧ i64B q.1 ∧ i64B q.2 := by
      intro i hi
      have hi' : i < elems.length := by omega
      have h1 := hel i hi
      rw [List.getElem?_eq_getElem hi', pt_size] at h1
      obtain ⟨cs, h2, h3⟩ := Option.bind_eq_some_iff.1 h1
      obtain ⟨a, b, rfl, wa, wb⟩ := cells_pt h3
      obtain ⟨_, g3, g4⟩ := World.cells?_some h2
      exact ⟨(a, b), g4 0 (by omega), g4 1 (by omega), i64B_of_wf wa, i64B_of_wf wb⟩
    let qs : List (Int × Int) := List.ofFn (n := len) fun i => (each i.1 i.2).choose
    have hq : qs.length = len := by simp [qs]
    have hqi : ∀ i (h : i < qs.length), W.cell? ((x.add (i * 2)).add 0) = some (.int .i64 qs[i].1) ∧ W.cell? ((x.add (i * 2)).add 1) = some (.int .i64 qs[i].2) ∧ i64B qs[i].1 ∧ i64B qs[i].2 := by
      intro i h
      have hh := (each i (by omega)).choose_spec
      simpa [qs] using hh
    clear_value qs
    refine ⟨_, qs, hcs, ?_, fun q hm => ?_⟩
    · refine ⟨_, _, by rw [hq], by omega, hm, (fun h => by cases h), fun i hi => ?_⟩
      rw [ptsV_length] at hi
      obtain ⟨c0, c1, _⟩ := hqi (i / 2) (by omega)
      obtain ⟨b, off, spot⟩ := x
      have hspot : spot = none := by simpa [Addr.add] using World.cell?_spot (hqi 0 (by omega)).1
      subst hspot
      rw [Addr.add_lit, Addr.add_lit] at c0 c1
      refine ⟨b, off, rfl, World.block_lt_of_cell? W _ c0, ?_⟩
      rcases Nat.mod_two_eq_zero_or_one i with e | e
      · have e2 : i = i / 2 * 2 := by omega
        have := ptsV_get0 qs (i / 2) (by omega) (by rw [ptsV_length]; omega)
        rw [show off + i = off + i / 2 * 2 + 0 by omega, c0]
        simp only [← e2] at this
        rw [this]
      · have e2 : i = i / 2 * 2 + 1 := by omega
        have := ptsV_get1 qs (i / 2) (by omega) (by rw [ptsV_length]; omega)
        rw [show off + i = off + i / 2 * 2 + 1 by omega, c1]
        simp only [← e2] at this
        rw [this]
    · obtain ⟨i, hi, rfl⟩ := List.getElem_of_mem hm
      exact (hqi i hi).2.2

set_option maxRecDepth 100000 in
theorem view_pts (o : Value.okWide Tryz.prog W .any base 37 v) (h : DataW.Trod enc Tryz.prog W 0 (fun _ => true) true 37 v d p) : ∃ l, Pts W v l ∧ PtsB l := by
  obtain ⟨a0, len, cap, rfl⟩ := okWide_slice Tryz.underlying37 o
  obtain ⟨fuel, hf⟩ := h
  obtain ⟨u, l, hcs, h1, h2⟩ := cell_points hf
  simp only [Value.cells, List.cons.injEq, and_true] at hcs
  subst hcs
  exact ⟨l, h1, h2⟩
end
end

/-! SView -/
section
open Go.ChangeShapes Go.WideShapes Go.ChangeAt Go.RowKit

theorem obj_size : Tryz.prog.cellsOf 39 = 2 := by kernel_rfl
theorem item_size : Tryz.prog.cellsOf 41 = 3 := by kernel_rfl
theorem ptsl_size : Tryz.prog.cellsOf 37 = 1 := by kernel_rfl
theorem intS_size : Tryz.prog.cellsOf 3 = 1 := by kernel_rfl
section
variable {H : Type} {enc : TypeId × Value → H} {W : World} {base : Nat} {v : Value} {d : DataW H} {p : List MemPlace}

set_option maxRecDepth 100000 in
theorem cells_obj {fuel : Nat} {cs : List Value} {x : DataW H × List MemPlace} (h : DataW.trod enc Tryz.prog W 0 (fun _ => true) true fuel 39 cs = some x) :
    ∃ (k : Int) (u : Value) (l : List Pt), cs = [.int .i64 k, u] ∧ Pts W u l ∧ PtsB l ∧ i64B k := by
  obtain ⟨xs, n, rfl, hx, hl, hlen, hfs⟩ := DataW.trod_struct Tryz.underlying39 h
  rw [obj_size] at hl
  match cs, hl with
  | [c0, c1], _ =>
    have hl2 : xs.length = 2 := hlen
    have h0 : DataW.trod enc Tryz.prog W 0 (fun _ => true) true n 3 (([c0, c1].drop 0).take (Tryz.prog.cellsOf 3)) = xs[0]? := hfs 0 _ rfl
    have h1 : DataW.trod enc Tryz.prog W 0 (fun _ => true) true n 37 (([c0, c1].drop 1).take (Tryz.prog.cellsOf 37)) = xs[1]? := hfs 1 _ rfl
    rw [intS_size] at h0
    rw [ptsl_size] at h1
    rw [List.getElem?_eq_getElem (by omega)] at h0 h1
    simp only [List.drop_zero, List.take_succ_cons, List.take_zero, List.drop_succ_cons] at h0 h1
    obtain ⟨k, e0, _, w0⟩ := DataW.trod_int Tryz.underlying3 h0
    obtain ⟨u, l, e1, hu, hb⟩ := cell_points h1
    simp only [List.cons.injEq, and_true] at e0 e1
    subst e0 e1
    exact ⟨k, _, l, rfl, hu, hb, i64B_of_wf w0⟩

set_option maxRecDepth 100000 in
theorem cells_item {fuel : Nat} {cs : List Value} {x : DataW H × List MemPlace} (h : DataW.trod enc Tryz.prog W 0 (fun _ => true) true fuel 41 cs = some x) :
    ∃ (i k : Int) (u : Value) (l : List Pt), cs = [.int .i64 i, .int .i64 k, u] ∧ Pts W u l ∧ PtsB l ∧ i64B i ∧ i64B k := by
  obtain ⟨xs, n, rfl, hx, hl, hlen, hfs⟩ := DataW.trod_struct Tryz.underlying41 h
  rw [item_size] at hl
  match cs, hl with
  | [c0, c1, c2], _ =>
    have hl2 : xs.length = 2 := hlen
    have h0 : DataW.trod enc Tryz.prog W 0 (fun _ => true) true n 3 (([c0, c1, c2].drop 0).take (Tryz.prog.cellsOf 3)) = xs[0]? := hfs 0 _ rfl
    have h1 : DataW.trod enc Tryz.prog W 0 (fun _ => true) true n 39 (([c0, c1, c2].drop 1).take (Tryz.prog.cellsOf 39)) = xs[1]? := hfs 1 _ rfl
    rw [intS_size] at h0
    rw [obj_size] at h1
    rw [List.getElem?_eq_getElem (by omega)] at h0 h1
    simp only [List.drop_zero, List.take_succ_cons, List.take_zero, List.drop_succ_cons] at h0 h1
    obtain ⟨i, e0, _, w0⟩ := DataW.trod_int Tryz.underlying3 h0
    obtain ⟨k, u, l, e1, hu, hb, hk⟩ := cells_obj h1
    simp only [List.cons.injEq, and_true] at e0 e1
    obtain ⟨rfl, rfl⟩ := e1
    subst e0
    exact ⟨i, _, _, l, rfl, hu, hb, i64B_of_wf w0, hk⟩

set_option maxRecDepth 100000 in
theorem view_items (o : Value.okWide Tryz.prog W .any base 22 v) (h : DataW.Trod enc Tryz.prog W 0 (fun _ => true) true 22 v d p) : ∃ r, ItRd W v r ∧ KeyIs r ∧ ∀ x ∈ r, i64B x.1.id := by
  obtain ⟨a0, len, cap, rfl⟩ := okWide_slice Tryz.underlying22 o
  obtain ⟨fuel, hf⟩ := h
  rcases DataW.trod_slice Tryz.underlying22 hf with ⟨hcs, _⟩ | ⟨x, l, c, elems, rest, n, _, hcs, _, _, hl, hm, hlen, hel, _, _⟩
  · simp only [Value.cells, List.cons.injEq, and_true] at hcs
    rw [hcs]
    exact ⟨[], ItRd.nil W, fun x hx => (by cases hx), fun x hx => by cases hx⟩
  · simp only [Value.cells, List.cons.injEq, and_true, Value.slice.injEq] at hcs
    obtain ⟨rfl, rfl, rfl⟩ := hcs
    have each : ∀ i, i < len → ∃ q : KdV, (W.cell? ((x.add (i * 3)).add 0) = some (.int .i64 q.1.id) ∧ W.cell? ((x.add (i * 3)).add 1) = some (.int .i64 q.1.kind) ∧ W.cell? ((x.add (i * 3)).add 2) = some q.2) ∧ Pts W q.2 q.1.pts ∧ q.1.key = objKey q.1.kind q.1.pts ∧ i64B q.1.id := by
      intro i hi
      have hi' : i < elems.length := by omega
      have h1 := hel i hi
      rw [List.getElem?_eq_getElem hi', item_size] at h1
      obtain ⟨cs, h2, h3⟩ := Option.bind_eq_some_iff.1 h1
      obtain ⟨a, k, u, l, rfl, hu, _, wa, _⟩ := cells_item h3
      obtain ⟨_, g3, g4⟩ := World.cells?_some h2
      exact ⟨(⟨objKey k l, a, k, l⟩, u), ⟨g4 0 (by omega), g4 1 (by omega), g4 2 (by omega)⟩, hu, rfl, wa⟩
    let qs : List KdV := List.ofFn (n := len) fun i => (each i.1 i.2).choose
    have hq : qs.length = len := by simp [qs]
    have hqi : ∀ i (h : i < qs.length), (W.cell? ((x.add (i * 3)).add 0) = some (.int .i64 qs[i].1.id) ∧ W.cell? ((x.add (i * 3)).add 1) = some (.int .i64 qs[i].1.kind) ∧ W.cell? ((x.add (i * 3)).add 2) = some qs[i].2) ∧ Pts W qs[i].2 qs[i].1.pts ∧ qs[i].1.key = objKey qs[i].1.kind qs[i].1.pts ∧ i64B qs[i].1.id := by
      intro i h
      have hh := (each i (by omega)).choose_spec
      simpa [qs] using hh
    clear_value qs
    refine ⟨qs, ⟨⟨_, _, by rw [hq], by omega, hm, (fun h => by cases h), fun i hi => ?_⟩, fun y hy => ?_⟩, fun y hy => ?_, fun y hy => ?_⟩
    · rw [itR_length] at hi
      obtain ⟨⟨c0, c1, c2⟩, _⟩ := hqi (i / 3) (by omega)
      obtain ⟨b, off, spot⟩ := x
      have hspot : spot = none := by simpa [Addr.add] using World.cell?_spot (hqi 0 (by omega)).1.1
      subst hspot
      rw [Addr.add_lit, Addr.add_lit] at c0 c1 c2
      refine ⟨b, off, rfl, World.block_lt_of_cell? W _ c0, ?_⟩
      rw [← List.getElem?_eq_getElem]
      have hj : i % 3 < 3 := Nat.mod_lt _ (by omega)
      have e : i = i / 3 * 3 + i % 3 := by omega
      have g := itR_get qs (i / 3) (by omega) (i % 3) hj
      rw [← e] at g
      rw [g]
      rcases (show i % 3 = 0 ∨ i % 3 = 1 ∨ i % 3 = 2 by omega) with q | q | q
      · rw [q, show off + i = off + i / 3 * 3 + 0 by omega, c0]; rfl
      · rw [q, show off + i = off + i / 3 * 3 + 1 by omega, c1]; rfl
      · rw [q, show off + i = off + i / 3 * 3 + 2 by omega, c2]; rfl
    · obtain ⟨i, hi, rfl⟩ := List.getElem_of_mem hy
      exact (hqi i hi).2.1
    · obtain ⟨i, hi, rfl⟩ := List.getElem_of_mem hy
      exact (hqi i hi).2.2.1
    · obtain ⟨i, hi, rfl⟩ := List.getElem_of_mem hy
      exact (hqi i hi).2.2.2
end
end

end Go.Proofs.YtoggbmfjjenbaaaGreatDoor
