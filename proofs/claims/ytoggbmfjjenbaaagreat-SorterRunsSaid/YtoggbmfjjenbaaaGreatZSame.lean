/- pergolalaw20.same at alike lists. -/
import Derived.Test.YtoggbmfjjenbaaaGreatZMerge
set_option linter.unusedSimpArgs false
set_option linter.unusedVariables false
namespace Go.Proofs.YtoggbmfjjenbaaaGreat
open Go.RowKit

/-- Two slice literals that come up together, in whatever order. -/
theorem wpAnyH_lit2 {P : Program} {ops : Array Oper} {Q : Exit → Act → World → Prop} {md : Region.Mode} {W : World} {i j : Nat} {oi oj : Oper} {c1 c2 : Obj} {fuel : Nat} {listed : Array Bool} {a : Act} {w : World}
    (hi : ops[i]? = some oi) (hj : ops[j]? = some oj) (hne : i ≠ j) (hr : Region.ready md ops listed = [i, j]) (hr1 : Region.ready md ops (listed.setIfInBounds i true) = [j]) (hr2 : Region.ready md ops (listed.setIfInBounds j true) = [i])
    (y1 : ∀ (K : Act → World → Prop) (w : World), Hid (K (a.put oi.dst (.slice (some ⟨w.heap.size, 0, none⟩) 1 1)) (w.alloc c1)) → if Region.wanted oi (yielded ops a.tmps) = true then oi.wp P a w K Q else K (a.put oi.dst undef) w)
    (y1' : ∀ (u : Value) (K : Act → World → Prop) (w : World), Hid (K ((a.put oj.dst u).put oi.dst (.slice (some ⟨w.heap.size, 0, none⟩) 1 1)) (w.alloc c1)) → if Region.wanted oi (yielded ops (a.put oj.dst u).tmps) = true then oi.wp P (a.put oj.dst u) w K Q else K ((a.put oj.dst u).put oi.dst undef) w)
    (y2 : ∀ (K : Act → World → Prop) (w : World), Hid (K (a.put oj.dst (.slice (some ⟨w.heap.size, 0, none⟩) 1 1)) (w.alloc c2)) → if Region.wanted oj (yielded ops a.tmps) = true then oj.wp P a w K Q else K (a.put oj.dst undef) w)
    (y2' : ∀ (u : Value) (K : Act → World → Prop) (w : World), Hid (K ((a.put oi.dst u).put oj.dst (.slice (some ⟨w.heap.size, 0, none⟩) 1 1)) (w.alloc c2)) → if Region.wanted oj (yielded ops (a.put oi.dst u).tmps) = true then oj.wp P (a.put oi.dst u) w K Q else K ((a.put oi.dst u).put oj.dst undef) w)
    (hc : ∀ u v, (a.put oj.dst v).put oi.dst u = (a.put oi.dst u).put oj.dst v) (hb : Below W.heap.size W w)
    (h : ∀ g1 g2 w', Below W.heap.size W w' → w'.heap[g1]? = some c1 → w'.heap[g2]? = some c2 → wpAnyH P md ops Q (fun w' => Below W.heap.size W w') fuel ((listed.setIfInBounds i true).setIfInBounds j true) ((a.put oi.dst (.slice (some ⟨g1, 0, none⟩) 1 1)).put oj.dst (.slice (some ⟨g2, 0, none⟩) 1 1)) w') :
    wpAnyH P md ops Q (fun w' => Below W.heap.size W w') (fuel + 1 + 1) listed a w := by
  have al : ∀ (w : World) (c : Obj), (w.alloc c).heap[w.heap.size]? = some c := fun w c => by
    show (w.heap.push _)[w.heap.size]? = _
    simp
  have al2 : ∀ (w : World) (c d : Obj), ((w.alloc c).alloc d).heap[w.heap.size]? = some c := fun w c d => by
    show ((w.heap.push c).push d)[w.heap.size]? = _
    rw [Array.getElem?_push, if_neg (by simp), Array.getElem?_push, if_pos rfl]
  have hb1 := fun c => hb.alloc hb.size c
  have hb2 := fun c d => (hb1 c).alloc (hb1 c).size d
  refine wpAnyH_all hr (by simp) (fun k hk => ?_)
  rcases List.mem_cons.1 hk with rfl | hk
  · refine wpOp_step hi fun K hK => y1 K w (Lib.hid (hK _ _ ⟨hb1 c1, ?_⟩))
    refine wpAnyH_all hr1 (by simp) (fun k hk => ?_)
    obtain rfl := List.mem_singleton.1 hk
    refine wpOp_step hj fun K hK => y2' _ K _ (Lib.hid (hK _ _ ⟨hb2 c1 c2, ?_⟩))
    exact h _ _ _ (hb2 c1 c2) (al2 _ _ _) (al _ _)
  · obtain rfl := List.mem_singleton.1 hk
    refine wpOp_step hj fun K hK => y2 K w (Lib.hid (hK _ _ ⟨hb1 c2, ?_⟩))
    refine wpAnyH_all hr2 (by simp) (fun k hk => ?_)
    obtain rfl := List.mem_singleton.1 hk
    refine wpOp_step hi fun K hK => y1' _ K _ (Lib.hid (hK _ _ ⟨hb2 c2 c1, ?_⟩))
    rw [Array.setIfInBounds_comm _ _ hne.symm, hc]
    exact h _ _ _ (hb2 c2 c1) (al _ _) (al2 _ _ _)
/-- a block of cells reads as a slice -/
theorem rd_at {w : World} {g n : Nat} {cs : Array Value} {e : TypeId} {m : Nat × Nat} (h : w.heap[g]? = some (.cells cs e m)) (hn : n ≤ maxLen) : Rd w (.slice (some ⟨g, 0, none⟩) n n) n cs.toList := by
  have hlt : g < w.heap.size := (Array.getElem?_eq_some_iff.1 h).1
  refine ⟨_, _, rfl, Nat.le_refl _, hn, (fun h => by cases h), fun i hi => ⟨_, _, rfl, hlt, ?_⟩⟩
  have hi' : i < cs.size := by simpa using hi
  rw [Nat.zero_add]
  simp [World.cell?, h, hi']

set_option maxRecDepth 100000 in
set_option maxHeartbeats 4000000 in
theorem same_eq (v v' : Value) (r r' : List KdV) (w : World) (h : RunRd w v r) (h' : RunRd w v' r') (he : r.map Prod.fst = r'.map Prod.fst) :
    Calls Tryz.prog 10 #[v, v'] w fun e w' => e = .returned (.bool true) ∧ Below w.heap.size w w' := by
  have hp := h.2
  have hp' := h'.2
  obtain ⟨ao, c, rfl, h1, h2, -, h3⟩ := h.open
  obtain ⟨ao', c', rfl, g1, g2, -, g3⟩ := h'.open
  have hle : r'.length = r.length := by simpa using (congrArg List.length he).symm
  unfold maxLen at h2 g2
  rw [hle] at g1 ⊢
  obtain ⟨n, hn⟩ : ∃ n, n = r.length := ⟨_, rfl⟩
  have E1 := Lib.hid (show ∀ i, i < n → ∃ (x y : KdV) (b off b' off' : Nat), x.1 = y.1 ∧ ao = some ⟨b, off, none⟩ ∧ ao' = some ⟨b', off', none⟩ ∧ b < w.heap.size ∧ b' < w.heap.size ∧
      w.cell? ⟨b, off + i * 4, none⟩ = some (.int .u64 x.1.key) ∧ w.cell? ⟨b, off + i * 4 + 1, none⟩ = some (.int .i64 x.1.id) ∧ w.cell? ⟨b, off + i * 4 + 2, none⟩ = some (.int .i64 x.1.kind) ∧ w.cell? ⟨b, off + i * 4 + 3, none⟩ = some x.2 ∧
      w.cell? ⟨b', off' + i * 4, none⟩ = some (.int .u64 y.1.key) ∧ w.cell? ⟨b', off' + i * 4 + 1, none⟩ = some (.int .i64 y.1.id) ∧ w.cell? ⟨b', off' + i * 4 + 2, none⟩ = some (.int .i64 y.1.kind) ∧ w.cell? ⟨b', off' + i * 4 + 3, none⟩ = some y.2 ∧ Pts w x.2 x.1.pts ∧ Pts w y.2 y.1.pts from fun i hi => by
    obtain ⟨x, hx⟩ : ∃ x, r[i]? = some x := ⟨_, List.getElem?_eq_getElem (by omega)⟩
    obtain ⟨y, hy⟩ : ∃ y, r'[i]? = some y := ⟨_, List.getElem?_eq_getElem (by omega)⟩
    have hxy : x.1 = y.1 := by
      have a := congrArg (fun l => l[i]?) he
      simp only [List.getElem?_map, hx, hy, Option.map_some, Option.some.injEq] at a
      exact a
    obtain ⟨b, off, e, hb, c0, c1, c2, c3⟩ := h3 i x hx
    obtain ⟨b', off', e', hb', d0, d1, d2, d3⟩ := g3 i y hy
    exact ⟨x, y, b, off, b', off', hxy, e, e', hb, hb', c0, c1, c2, c3, d0, d1, d2, d3, hp x (List.mem_of_getElem? hx), hp' y (List.mem_of_getElem? hy)⟩)
  rw [← hn] at h1 g1 ⊢
  have t0 : ((n : Int) != (n : Int)) = false := by simp
  clear h h' hp hp' h3 g3 he hle hn
  go_enter Tryz.func10, Tryz.ntmps10
  go_wp2_with fail
  go_loopw [5] (fun i wr => ∃ k : Nat, k ≤ n ∧ i = .int .i64 k ∧ Below w.heap.size w wr) (fun i _ => n - (intOf i).toNat)
  case atStart => exact ⟨0, Nat.zero_le _, rfl, Below.refl _ _⟩
  case round =>
    obtain ⟨k, hk, rfl, hb⟩ := hrel
    by_cases hlt : k < n
    · have t1 : decide ((k : Int) < (n : Int)) = true := decide_eq_true (by omega)
      have i0 : (0 : Int) ≤ (k : Int) := by omega
      have i1 : (k : Int) < (n : Int) := by omega
      obtain ⟨x, y, b, off, b', off', hxy, rfl, rfl, hb0, hb1, c0, c1, c2, c3, d0, d1, d2, d3, px, py⟩ := E1.out k hlt
      obtain ⟨⟨xk, xi, xd, xp⟩, xv⟩ := x
      obtain ⟨⟨yk, yi, yd, yp⟩, yv⟩ := y
      simp only [KdL.mk.injEq] at hxy c0 c1 c2 c3 d0 d1 d2 d3 px py
      obtain ⟨rfl, rfl, rfl, rfl⟩ := hxy
      obtain ⟨xa, xn, xc, rfl⟩ := px.isSl
      obtain ⟨ya, yn, yc, rfl⟩ := py.isSl
      have t2 : (xk != xk) = false := by simp
      have t2' : ((xk : Int) != (xk : Int)) = false := by simp
      have CX := Lib.hid (And.intro c0 (And.intro c1 (And.intro c2 c3)))
      have CY := Lib.hid (And.intro d0 (And.intro d1 (And.intro d2 d3)))
      have SM := Lib.hid (show ∀ (g1 g2 : Nat) (w' : World), Below w.heap.size w w' → w'.heap[g1]? = some (.cells #[.int .i64 xi, .int .i64 xd, .slice xa xn xc] 50 (0, 0)) → w'.heap[g2]? = some (.cells #[.int .i64 xi, .int .i64 xd, .slice ya yn yc] 50 (0, 0)) → Calls Tryz.prog 22 #[.slice (some ⟨g1, 0, none⟩) 1 1, .slice (some ⟨g2, 0, none⟩) 1 1] w' fun e w'' => e = .returned (.bool true) ∧ Below w'.heap.size w' w'' from fun g1 g2 w' hw q1 q2 =>
        SameItems_eq _ _ [(⟨xk, xi, xd, xp⟩, .slice xa xn xc)] [(⟨xk, xi, xd, xp⟩, .slice ya yn yc)] w' ⟨rd_at q1 (by simp [maxLen]), fun z hz => by obtain rfl := List.mem_singleton.1 hz; exact px.below hw⟩ ⟨rd_at q2 (by simp [maxLen]), fun z hz => by obtain rfl := List.mem_singleton.1 hz; exact py.below hw⟩ rfl)
      clear px py c0 c1 c2 c3 d0 d1 d2 d3
      go_wp2_with fail
      refine wp_region_noPanic ?_
      refine wp_region_held_drew (S := fun w' => Below w.heap.size w w') (by kernel_rfl) hb.drew (fun hHeld => ?_)
      generalize wr.drew = D at hHeld ⊢
      have kb : Below w.heap.size w D := hHeld
      refine wpAnyH_take (i := 0) (oi := ⟨some 17, _, _, _, _, _⟩) (v := ?qv0sm) rfl (by kernel_rfl) (by kernel_rfl) (by kernel_rfl) (fun _ _ _ h => h) (Or.inl ⟨by rfl, ?qy0sm⟩) hHeld ?qr0sm
      case qy0sm => (intro w' hSw; go_simp; try with_reducible rfl)
      try simp only [Act.put, List.setIfInBounds_toArray, List.set_cons_zero, List.set_cons_succ]
      refine wpAnyH_take (i := 1) (oi := ⟨some 18, _, _, _, _, _⟩) (v := ?qv1sm) rfl (by kernel_rfl) (by kernel_rfl) (by kernel_rfl) (fun _ _ _ h => h) (Or.inl ⟨by rfl, ?qy1sm⟩) hHeld ?qr1sm
      case qy1sm => (intro w' hSw; go_simp; try with_reducible rfl)
      try simp only [Act.put, List.setIfInBounds_toArray, List.set_cons_zero, List.set_cons_succ]
      refine wpAnyH_take (i := 2) (oi := ⟨some 19, _, _, _, _, _⟩) (v := ?qv2sm) rfl (by kernel_rfl) (by kernel_rfl) (by kernel_rfl) (fun _ _ _ h => h) (Or.inl ⟨by rfl, ?qy2sm⟩) hHeld ?qr2sm
      case qy2sm => (intro w' hSw; go_simp; try with_reducible rfl)
      try simp only [Act.put, List.setIfInBounds_toArray, List.set_cons_zero, List.set_cons_succ]
      refine wpAnyH_take (i := 3) (oi := ⟨some 20, _, _, _, _, _⟩) (v := ?qv3sm) rfl (by kernel_rfl) (by kernel_rfl) (by kernel_rfl) (fun _ _ _ h => h) (Or.inl ⟨by rfl, ?qy3sm⟩) hHeld ?qr3sm
      case qy3sm => (intro w' hSw; go_simp; try with_reducible rfl)
      try simp only [Act.put, List.setIfInBounds_toArray, List.set_cons_zero, List.set_cons_succ]
      refine wpAnyH_take (i := 4) (oi := ⟨some 21, _, _, _, _, _⟩) (v := ?qv4sm) rfl (by kernel_rfl) (by kernel_rfl) (by kernel_rfl) (fun _ _ _ h => h) (Or.inl ⟨by rfl, ?qy4sm⟩) hHeld ?qr4sm
      case qy4sm => (intro w' hSw; have q0 := (hSw.cell (p := ⟨b, off + k * 4, none⟩) hb0).trans CX.out.1; have q1 := (hSw.cell (p := ⟨b, off + k * 4 + 1, none⟩) hb0).trans CX.out.2.1; have q2 : w'.cell? ⟨b, off + k * 4 + 1 + 1, none⟩ = some (.int .i64 xd) := (hSw.cell (p := ⟨b, off + k * 4 + 2, none⟩) hb0).trans CX.out.2.2.1; have q3 : w'.cell? ⟨b, off + k * 4 + 1 + 2, none⟩ = some (.slice xa xn xc) := (hSw.cell (p := ⟨b, off + k * 4 + 3, none⟩) hb0).trans CX.out.2.2.2; have p0 := (hSw.cell (p := ⟨b', off' + k * 4, none⟩) hb1).trans CY.out.1; have p1 := (hSw.cell (p := ⟨b', off' + k * 4 + 1, none⟩) hb1).trans CY.out.2.1; have p2 : w'.cell? ⟨b', off' + k * 4 + 1 + 1, none⟩ = some (.int .i64 xd) := (hSw.cell (p := ⟨b', off' + k * 4 + 2, none⟩) hb1).trans CY.out.2.2.1; have p3 : w'.cell? ⟨b', off' + k * 4 + 1 + 2, none⟩ = some (.slice ya yn yc) := (hSw.cell (p := ⟨b', off' + k * 4 + 3, none⟩) hb1).trans CY.out.2.2.2; go_simp; try with_reducible rfl)
      try simp only [Act.put, List.setIfInBounds_toArray, List.set_cons_zero, List.set_cons_succ]
      refine wpAnyH_take (i := 5) (oi := ⟨some 22, _, _, _, _, _⟩) (v := ?qv5sm) rfl (by kernel_rfl) (by kernel_rfl) (by kernel_rfl) (fun _ _ _ h => h) (Or.inl ⟨by rfl, ?qy5sm⟩) hHeld ?qr5sm
      case qy5sm => (intro w' hSw; go_simp; try with_reducible rfl)
      try simp only [Act.put, List.setIfInBounds_toArray, List.set_cons_zero, List.set_cons_succ]
      refine wpAnyH_take (i := 6) (oi := ⟨some 23, _, _, _, _, _⟩) (v := ?qv6sm) rfl (by kernel_rfl) (by kernel_rfl) (by kernel_rfl) (fun _ _ _ h => h) (Or.inl ⟨by rfl, ?qy6sm⟩) hHeld ?qr6sm
      case qy6sm => (intro w' hSw; go_simp; try with_reducible rfl)
      try simp only [Act.put, List.setIfInBounds_toArray, List.set_cons_zero, List.set_cons_succ]
      refine wpAnyH_take (i := 7) (oi := ⟨some 24, _, _, _, _, _⟩) (v := ?qv7sm) rfl (by kernel_rfl) (by kernel_rfl) (by kernel_rfl) (fun _ _ _ h => h) (Or.inl ⟨by rfl, ?qy7sm⟩) hHeld ?qr7sm
      case qy7sm => (intro w' hSw; go_simp; try with_reducible rfl)
      try simp only [Act.put, List.setIfInBounds_toArray, List.set_cons_zero, List.set_cons_succ]
      refine wpAnyH_take (i := 8) (oi := ⟨some 25, _, _, _, _, _⟩) (v := ?qv8sm) rfl (by kernel_rfl) (by kernel_rfl) (by kernel_rfl) (fun _ _ _ h => h) (Or.inl ⟨by rfl, ?qy8sm⟩) hHeld ?qr8sm
      case qy8sm => (intro w' hSw; go_simp; try with_reducible rfl)
      try simp only [Act.put, List.setIfInBounds_toArray, List.set_cons_zero, List.set_cons_succ]
      refine wpAnyH_take (i := 9) (oi := ⟨some 26, _, _, _, _, _⟩) (v := ?qv9sm) rfl (by kernel_rfl) (by kernel_rfl) (by kernel_rfl) (fun _ _ _ h => h) (Or.inl ⟨by rfl, ?qy9sm⟩) hHeld ?qr9sm
      case qy9sm => (intro w' hSw; have q0 := (hSw.cell (p := ⟨b, off + k * 4, none⟩) hb0).trans CX.out.1; have q1 := (hSw.cell (p := ⟨b, off + k * 4 + 1, none⟩) hb0).trans CX.out.2.1; have q2 : w'.cell? ⟨b, off + k * 4 + 1 + 1, none⟩ = some (.int .i64 xd) := (hSw.cell (p := ⟨b, off + k * 4 + 2, none⟩) hb0).trans CX.out.2.2.1; have q3 : w'.cell? ⟨b, off + k * 4 + 1 + 2, none⟩ = some (.slice xa xn xc) := (hSw.cell (p := ⟨b, off + k * 4 + 3, none⟩) hb0).trans CX.out.2.2.2; have p0 := (hSw.cell (p := ⟨b', off' + k * 4, none⟩) hb1).trans CY.out.1; have p1 := (hSw.cell (p := ⟨b', off' + k * 4 + 1, none⟩) hb1).trans CY.out.2.1; have p2 : w'.cell? ⟨b', off' + k * 4 + 1 + 1, none⟩ = some (.int .i64 xd) := (hSw.cell (p := ⟨b', off' + k * 4 + 2, none⟩) hb1).trans CY.out.2.2.1; have p3 : w'.cell? ⟨b', off' + k * 4 + 1 + 2, none⟩ = some (.slice ya yn yc) := (hSw.cell (p := ⟨b', off' + k * 4 + 3, none⟩) hb1).trans CY.out.2.2.2; go_simp; try with_reducible rfl)
      try simp only [Act.put, List.setIfInBounds_toArray, List.set_cons_zero, List.set_cons_succ]
      refine wpAnyH_take (i := 10) (oi := ⟨some 27, _, _, _, _, _⟩) (v := ?qv10sm) rfl (by kernel_rfl) (by kernel_rfl) (by kernel_rfl) (fun _ _ _ h => h) (Or.inl ⟨by rfl, ?qy10sm⟩) hHeld ?qr10sm
      case qy10sm => (intro w' hSw; go_simp; try with_reducible rfl)
      try simp only [Act.put, List.setIfInBounds_toArray, List.set_cons_zero, List.set_cons_succ]
      refine wpAnyH_take (i := 11) (oi := ⟨some 28, _, _, _, _, _⟩) (v := ?qv11sm) rfl (by kernel_rfl) (by kernel_rfl) (by kernel_rfl) (fun _ _ _ h => h) (Or.inl ⟨by rfl, ?qy11sm⟩) hHeld ?qr11sm
      case qy11sm => (intro w' hSw; go_simp; try with_reducible rfl)
      try simp only [Act.put, List.setIfInBounds_toArray, List.set_cons_zero, List.set_cons_succ]
      refine wpAnyH_take (i := 12) (oi := ⟨some 29, _, _, _, _, _⟩) (v := ?qv12sm) rfl (by kernel_rfl) (by kernel_rfl) (by kernel_rfl) (fun _ _ _ h => h) (Or.inl ⟨by rfl, ?qy12sm⟩) hHeld ?qr12sm
      case qy12sm => (intro w' hSw; go_simp; try with_reducible rfl)
      try simp only [Act.put, List.setIfInBounds_toArray, List.set_cons_zero, List.set_cons_succ]
      refine wpAnyH_take (i := 13) (oi := ⟨some 30, _, _, _, _, _⟩) (v := ?qv13sm) rfl (by kernel_rfl) (by kernel_rfl) (by kernel_rfl) (fun _ _ _ h => h) (Or.inl ⟨by rfl, ?qy13sm⟩) hHeld ?qr13sm
      case qy13sm => (intro w' hSw; go_simp; try with_reducible rfl)
      try simp only [Act.put, List.setIfInBounds_toArray, List.set_cons_zero, List.set_cons_succ]
      refine wpAnyH_take (i := 14) (oi := ⟨some 31, _, _, _, _, _⟩) (v := ?qv14sm) rfl (by kernel_rfl) (by kernel_rfl) (by kernel_rfl) (fun _ _ _ h => h) (Or.inl ⟨by rfl, ?qy14sm⟩) hHeld ?qr14sm
      case qy14sm => (intro w' hSw; go_simp; try with_reducible rfl)
      try simp only [Act.put, List.setIfInBounds_toArray, List.set_cons_zero, List.set_cons_succ]
      refine wpAnyH_take (i := 15) (oi := ⟨some 32, _, _, _, _, _⟩) (v := ?qv15sm) rfl (by kernel_rfl) (by kernel_rfl) (by kernel_rfl) (fun _ _ _ h => h) (Or.inl ⟨by rfl, ?qy15sm⟩) hHeld ?qr15sm
      case qy15sm => (intro w' hSw; go_simp; try with_reducible rfl)
      try simp only [Act.put, List.setIfInBounds_toArray, List.set_cons_zero, List.set_cons_succ]
      refine wpAnyH_take (i := 16) (oi := ⟨some 33, _, _, _, _, _⟩) (v := ?qv16sm) rfl (by kernel_rfl) (by kernel_rfl) (by kernel_rfl) (fun _ _ _ h => h) (Or.inl ⟨by rfl, ?qy16sm⟩) hHeld ?qr16sm
      case qy16sm => (intro w' hSw; have q0 := (hSw.cell (p := ⟨b, off + k * 4, none⟩) hb0).trans CX.out.1; have q1 := (hSw.cell (p := ⟨b, off + k * 4 + 1, none⟩) hb0).trans CX.out.2.1; have q2 : w'.cell? ⟨b, off + k * 4 + 1 + 1, none⟩ = some (.int .i64 xd) := (hSw.cell (p := ⟨b, off + k * 4 + 2, none⟩) hb0).trans CX.out.2.2.1; have q3 : w'.cell? ⟨b, off + k * 4 + 1 + 2, none⟩ = some (.slice xa xn xc) := (hSw.cell (p := ⟨b, off + k * 4 + 3, none⟩) hb0).trans CX.out.2.2.2; have p0 := (hSw.cell (p := ⟨b', off' + k * 4, none⟩) hb1).trans CY.out.1; have p1 := (hSw.cell (p := ⟨b', off' + k * 4 + 1, none⟩) hb1).trans CY.out.2.1; have p2 : w'.cell? ⟨b', off' + k * 4 + 1 + 1, none⟩ = some (.int .i64 xd) := (hSw.cell (p := ⟨b', off' + k * 4 + 2, none⟩) hb1).trans CY.out.2.2.1; have p3 : w'.cell? ⟨b', off' + k * 4 + 1 + 2, none⟩ = some (.slice ya yn yc) := (hSw.cell (p := ⟨b', off' + k * 4 + 3, none⟩) hb1).trans CY.out.2.2.2; go_simp; try with_reducible rfl)
      try simp only [Act.put, List.setIfInBounds_toArray, List.set_cons_zero, List.set_cons_succ]
      refine wpAnyH_take (i := 18) (oi := ⟨some 35, _, _, _, _, _⟩) (v := ?qv18sm) rfl (by kernel_rfl) (by kernel_rfl) (by kernel_rfl) (fun _ _ _ h => h) (Or.inl ⟨by rfl, ?qy18sm⟩) hHeld ?qr18sm
      case qy18sm => (intro w' hSw; go_simp; try with_reducible rfl)
      try simp only [Act.put, List.setIfInBounds_toArray, List.set_cons_zero, List.set_cons_succ]
      refine wpAnyH_take (i := 19) (oi := ⟨some 36, _, _, _, _, _⟩) (v := ?qv19sm) rfl (by kernel_rfl) (by kernel_rfl) (by kernel_rfl) (fun _ _ _ h => h) (Or.inl ⟨by rfl, ?qy19sm⟩) hHeld ?qr19sm
      case qy19sm => (intro w' hSw; go_simp; try with_reducible rfl)
      try simp only [Act.put, List.setIfInBounds_toArray, List.set_cons_zero, List.set_cons_succ]
      refine wpAnyH_take (i := 20) (oi := ⟨some 37, _, _, _, _, _⟩) (v := ?qv20sm) rfl (by kernel_rfl) (by kernel_rfl) (by kernel_rfl) (fun _ _ _ h => h) (Or.inl ⟨by rfl, ?qy20sm⟩) hHeld ?qr20sm
      case qy20sm => (intro w' hSw; go_simp; try with_reducible rfl)
      try simp only [Act.put, List.setIfInBounds_toArray, List.set_cons_zero, List.set_cons_succ]
      refine wpAnyH_take (i := 21) (oi := ⟨some 38, _, _, _, _, _⟩) (v := ?qv21sm) rfl (by kernel_rfl) (by kernel_rfl) (by kernel_rfl) (fun _ _ _ h => h) (Or.inl ⟨by rfl, ?qy21sm⟩) hHeld ?qr21sm
      case qy21sm => (intro w' hSw; go_simp; try with_reducible rfl)
      try simp only [Act.put, List.setIfInBounds_toArray, List.set_cons_zero, List.set_cons_succ]
      refine wpAnyH_take (i := 22) (oi := ⟨some 39, _, _, _, _, _⟩) (v := ?qv22sm) rfl (by kernel_rfl) (by kernel_rfl) (by kernel_rfl) (fun _ _ _ h => h) (Or.inl ⟨by rfl, ?qy22sm⟩) hHeld ?qr22sm
      case qy22sm => (intro w' hSw; have q0 := (hSw.cell (p := ⟨b, off + k * 4, none⟩) hb0).trans CX.out.1; have q1 := (hSw.cell (p := ⟨b, off + k * 4 + 1, none⟩) hb0).trans CX.out.2.1; have q2 : w'.cell? ⟨b, off + k * 4 + 1 + 1, none⟩ = some (.int .i64 xd) := (hSw.cell (p := ⟨b, off + k * 4 + 2, none⟩) hb0).trans CX.out.2.2.1; have q3 : w'.cell? ⟨b, off + k * 4 + 1 + 2, none⟩ = some (.slice xa xn xc) := (hSw.cell (p := ⟨b, off + k * 4 + 3, none⟩) hb0).trans CX.out.2.2.2; have p0 := (hSw.cell (p := ⟨b', off' + k * 4, none⟩) hb1).trans CY.out.1; have p1 := (hSw.cell (p := ⟨b', off' + k * 4 + 1, none⟩) hb1).trans CY.out.2.1; have p2 : w'.cell? ⟨b', off' + k * 4 + 1 + 1, none⟩ = some (.int .i64 xd) := (hSw.cell (p := ⟨b', off' + k * 4 + 2, none⟩) hb1).trans CY.out.2.2.1; have p3 : w'.cell? ⟨b', off' + k * 4 + 1 + 2, none⟩ = some (.slice ya yn yc) := (hSw.cell (p := ⟨b', off' + k * 4 + 3, none⟩) hb1).trans CY.out.2.2.2; go_simp; try with_reducible rfl)
      try simp only [Act.put, List.setIfInBounds_toArray, List.set_cons_zero, List.set_cons_succ]
      refine wpAnyH_lit2 (i := 17) (j := 23) (oi := ⟨some 34, _, _, _, _, _⟩) (oj := ⟨some 40, _, _, _, _, _⟩) (c1 := .cells #[.int .i64 xi, .int .i64 xd, .slice xa xn xc] 50 (0, 0)) (c2 := .cells #[.int .i64 xi, .int .i64 xd, .slice ya yn yc] 50 (0, 0)) rfl rfl (by decide) (by kernel_rfl) (by kernel_rfl) (by kernel_rfl) ?zasm ?zbsm ?zcsm ?zdsm (fun _ _ => rfl) hHeld (fun g1 g2 w' hHeld hG1 hG2 => ?zesm)
      case zasm => (intro K w' hK; go_simp; exact hK.out)
      case zcsm => (intro K w' hK; go_simp; exact hK.out)
      case zbsm => (intro u K w' hK; go_simp; exact hK.out)
      case zdsm => (intro u K w' hK; go_simp; exact hK.out)
      try simp only [Act.put, List.setIfInBounds_toArray, List.set_cons_zero, List.set_cons_succ]
      refine wpAnyH_ready (rs := [24]) (by kernel_rfl) (by simp) ?_
      refine AllReadyH.cons (o := ⟨some 41, _, _, _, _, _⟩) rfl (fun K hK => ?_) AllReadyH.nil
      refine step_go (by rfl) 22 _ _ (by rfl) (fun _ _ => by kernel_rfl) _ (by rfl) (SM.out _ _ _ hHeld hG1 hG2) ?_
      rintro e w4 ⟨rfl, b4⟩
      refine ⟨_, rfl, ?_⟩
      refine hK.out _ _ (Below.trans hHeld (b4.mono (Below.size hHeld))) (fun hHeld => ?_)
      clear hK K
      try simp only [Act.put, List.setIfInBounds_toArray, List.set_cons_zero, List.set_cons_succ]
      refine wpAnyH_take (i := 25) (oi := ⟨some 42, _, _, _, _, _⟩) (v := ?qv25sm) rfl (by kernel_rfl) (by kernel_rfl) (by kernel_rfl) (fun _ _ _ h => h) (Or.inl ⟨by rfl, ?qy25sm⟩) hHeld ?qr25sm
      case qy25sm => (intro w' hSw; go_simp; try with_reducible rfl)
      try simp only [Act.put, List.setIfInBounds_toArray, List.set_cons_zero, List.set_cons_succ]
      refine wpAnyH_take (i := 26) (oi := ⟨some 43, _, _, _, _, _⟩) (v := ?qv26sm) rfl (by kernel_rfl) (by kernel_rfl) (by kernel_rfl) (fun _ _ _ h => h) (Or.inl ⟨by rfl, ?qy26sm⟩) hHeld ?qr26sm
      case qy26sm => (intro w' hSw; go_simp; try with_reducible rfl)
      try simp only [Act.put, List.setIfInBounds_toArray, List.set_cons_zero, List.set_cons_succ]
      refine wpAnyH_done (by kernel_rfl) ?_ _
      refine NoPanic.normal ?_
      have B5 : Below w.heap.size w w4 := hHeld
      clear hHeld kb b4
      go_wp2_with fail
      go_roundw
      case rel => exact ⟨k + 1, hlt, by go_num, B5⟩
      case measure => simp [intOf]; omega
    · obtain rfl : k = n := by omega
      have t1 : decide ((k : Int) < (k : Int)) = false := by simp
      go_wp2_with fail
      go_ret
      exact ⟨rfl, hb⟩
end Go.Proofs.YtoggbmfjjenbaaaGreat
