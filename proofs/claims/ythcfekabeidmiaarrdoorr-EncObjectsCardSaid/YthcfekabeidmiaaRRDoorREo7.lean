/- pergolaref3.over. (printed by wip/gen_ref2.py) ring.next, ring.blame. Two calls in a chain and four new variables of two cells, in whatever order a region brings them. (printed by wip/gen_vars.py) -/
import Derived.Test.YthcfekabeidmiaaRRDoorREo6
import Derived.Test.YthcfekabeidmiaaRRDoorREo4
import Derived.Test.YthcfekabeidmiaaRRDoorREo2
import Derived.Deep.MidRow
set_option linter.unusedSimpArgs false
set_option linter.unusedVariables false
namespace Go.Proofs.YthcfekabeidmiaaRRDoorR
/-! RefOver -/
section
open Go.RowKit

/-- do the segments a b and b c go the same way from b? -/
def overB (a b c : Pt) : Bool := decide (a ≠ b) && (decide (c ≠ b) && (decide (crs b a c = 0) && decide (0 < dotv b a c)))
theorem pair_beq {ax ay bx bz : Int} (h : (ax, ay) ≠ (bx, bz)) : ∃ q0 q1 : Bool, (q0 && q1) = false ∧ (ax == bx) = q0 ∧ (ay == bz) = q1 := by
  refine ⟨_, _, ?_, rfl, rfl⟩
  cases q0 : ((ax == bx) && (ay == bz)) with
  | false => rfl
  | true =>
    simp only [Bool.and_eq_true, beq_iff_eq] at q0
    exact absurd (by rw [q0.1, q0.2]) h

set_option maxRecDepth 100000 in
set_option maxHeartbeats 4000000 in
theorem over_ok (ax ay bx bz cx cy : Int) (w : World) (ha : inP ax ay) (hb : inP bx bz) (hc : inP cx cy) :
    Calls Tryd.prog 53 #[.agg #[.int .i64 ax, .int .i64 ay], .agg #[.int .i64 bx, .int .i64 bz], .agg #[.int .i64 cx, .int .i64 cy]] w fun e w' => e = .returned (.bool (overB (ax, ay) (bx, bz) (cx, cy))) ∧ Below w.heap.size w w' := by
  have C := Lib.hid (fun w => CrossR_ok bx bz ax ay cx cy w hb ha hc)
  have DT := Lib.hid (fun w => dotR_ok bx bz ax ay cx cy w hb ha hc)
  have HQ := Lib.hid (show overB (ax, ay) (bx, bz) (cx, cy) = (decide ((ax, ay) ≠ (bx, bz)) && (decide ((cx, cy) ≠ (bx, bz)) && (decide (crs (bx, bz) (ax, ay) (cx, cy) = 0) && decide (0 < dotv (bx, bz) (ax, ay) (cx, cy))))) from rfl)
  clear ha hb hc
  by_cases e0 : (ax, ay) = (bx, bz)
  · have HR := Lib.hid (show overB (ax, ay) (bx, bz) (cx, cy) = false by rw [HQ.out, decide_eq_false (fun h => h e0)]; rfl)
    obtain ⟨rfl, rfl⟩ := Prod.mk.inj e0
    clear e0 HQ C DT
    have B0 : Below w.heap.size w (((w.alloc (.cells #[.int .i64 ax, .int .i64 ay] 43)).alloc (.cells #[.int .i64 ax, .int .i64 ay] 43)).alloc (.cells #[.int .i64 cx, .int .i64 cy] 43)) := (((Below.refl _ _).alloc (Nat.le_refl _) _).alloc (by simp) _).alloc (by simp; omega) _
    go_enter Tryd.func53, Tryd.ntmps53
    go_wp2_with fail
    go_ret
    exact ⟨by rw [HR.out]; rfl, B0⟩
  · obtain ⟨q0, q1, hq01, hqa, hqb⟩ := pair_beq e0
    by_cases e1 : (cx, cy) = (bx, bz)
    · have HR := Lib.hid (show overB (ax, ay) (bx, bz) (cx, cy) = false by rw [HQ.out, decide_eq_false (p := (cx, cy) ≠ (bx, bz)) (fun h => h e1)]; simp)
      obtain ⟨rfl, rfl⟩ := Prod.mk.inj e1
      clear e0 e1 HQ C DT
      have B0 : Below w.heap.size w (((w.alloc (.cells #[.int .i64 ax, .int .i64 ay] 43)).alloc (.cells #[.int .i64 cx, .int .i64 cy] 43)).alloc (.cells #[.int .i64 cx, .int .i64 cy] 43)) := (((Below.refl _ _).alloc (Nat.le_refl _) _).alloc (by simp) _).alloc (by simp; omega) _
      cases q0 <;> cases q1 <;> first | (exact absurd hq01 (by decide)) | skip
      all_goals
        go_enter Tryd.func53, Tryd.ntmps53
        go_wp2_with fail
        go_ret
        exact ⟨by rw [HR.out]; rfl, B0⟩
    · obtain ⟨r0, r1, hr01, hra, hrb⟩ := pair_beq e1
      have HR := Lib.hid (show overB (ax, ay) (bx, bz) (cx, cy) = (decide (crs (bx, bz) (ax, ay) (cx, cy) = 0) && decide (0 < dotv (bx, bz) (ax, ay) (cx, cy))) by rw [HQ.out, decide_eq_true (show (ax, ay) ≠ (bx, bz) from e0), decide_eq_true (show (cx, cy) ≠ (bx, bz) from e1)]; rfl)
      clear e0 e1 HQ
      have B0 : Below w.heap.size w (((w.alloc (.cells #[.int .i64 ax, .int .i64 ay] 43)).alloc (.cells #[.int .i64 bx, .int .i64 bz] 43)).alloc (.cells #[.int .i64 cx, .int .i64 cy] 43)) := (((Below.refl _ _).alloc (Nat.le_refl _) _).alloc (by simp) _).alloc (by simp; omega) _
      have T0 := tri_alloc w 43 ax ay bx bz cx cy
      generalize hW : ((w.alloc (.cells #[.int .i64 ax, .int .i64 ay] 43)).alloc (.cells #[.int .i64 bx, .int .i64 bz] 43)).alloc (.cells #[.int .i64 cx, .int .i64 cy] 43) = W at B0 T0
      have XS := Lib.hid (show ∀ w', Below W.heap.size W w' → _ from fun w' hb => (Tri.below T0 hb).cells)
      obtain ⟨y0, y1, y2, y3, y4, y5⟩ := T0.cells
      have hz : w.heap.size + 1 + 1 < W.heap.size := World.block_lt_of_cell? W ⟨w.heap.size + 1 + 1, 0, none⟩ y4
      clear T0

      generalize crs (bx, bz) (ax, ay) (cx, cy) = s at *
      generalize dotv (bx, bz) (ax, ay) (cx, cy) = d at *
      by_cases h0 : s = 0
      · subst h0
        have HS := Lib.hid (show overB (ax, ay) (bx, bz) (cx, cy) = decide (0 < d) by rw [HR.out]; rfl)
        clear HR
        cases q0 <;> cases q1 <;> first | (exact absurd hq01 (by decide)) | skip
        all_goals
          cases r0 <;> cases r1 <;> first | (exact absurd hr01 (by decide)) | skip
          all_goals
            go_enter Tryd.func53, Tryd.ntmps53
            go_wp2_with fail
            refine (C.out _).mono ?_
            rintro e w1 ⟨rfl, b1⟩
            have B1 := (Below.refl W.heap.size W).trans b1
            clear y0 y1 y2 y3 y4 y5
            obtain ⟨y0, y1, y2, y3, y4, y5⟩ := XS.out _ B1
            go_wp2_with fail
            refine (DT.out _).mono ?_
            rintro e w2 ⟨rfl, b2⟩
            have B2 := B1.trans (b2.mono B1.size)
            go_wp2_with fail
            go_ret
            exact ⟨by rw [HS.out]; rfl, B0.trans (B2.mono B0.size)⟩
      · have t1 : (s == 0) = false := by simpa using h0
        have HS := Lib.hid (show overB (ax, ay) (bx, bz) (cx, cy) = false by rw [HR.out, decide_eq_false h0]; rfl)
        clear HR h0
        cases q0 <;> cases q1 <;> first | (exact absurd hq01 (by decide)) | skip
        all_goals
          cases r0 <;> cases r1 <;> first | (exact absurd hr01 (by decide)) | skip
          all_goals
            go_enter Tryd.func53, Tryd.ntmps53
            go_wp2_with fail
            refine (C.out _).mono ?_
            rintro e w1 ⟨rfl, b1⟩
            have B1 := (Below.refl W.heap.size W).trans b1
            go_wp2_with fail
            go_ret
            exact ⟨by rw [HS.out]; rfl, B0.trans (B1.mono B0.size)⟩
end

/-! NextP -/
section
open Go.RowKit

theorem next_any (v : Value) (l : List (Int × Int)) (i : Nat) (w : World) (hv : Pts w v l) (hi : i < l.length) :
    Calls Tryd.prog 56 #[v, .int .i64 (i : Int)] w fun e w' => e = .returned (.agg #[.int .i64 (pt l ((i + 1) % l.length)).1, .int .i64 (pt l ((i + 1) % l.length)).2]) ∧ Below w.heap.size w w' := by
  obtain ⟨ao, c, rfl, h1, h2, h0, h3⟩ := hv.open
  unfold maxLen at h2
  have hm : (i + 1) % l.length < l.length := Nat.mod_lt _ (by omega)
  obtain ⟨g, off, rfl, hg, hx, hy⟩ := h3 _ hm
  rw [pt_get l _ hm]
  generalize l[(i + 1) % l.length] = p at *
  obtain ⟨x, y⟩ := p
  simp only at hx hy ⊢
  have e1 : ((i : Int) + 1) % (l.length : Int) = (((i + 1) % l.length : Nat) : Int) := by rw [Int.natCast_emod]; rfl
  have hz : ((l.length : Int) == 0) = false := beq_eq_false_iff_ne.2 (by omega)
  have i1 : (i : Int) < (l.length : Int) := by omega
  generalize (i + 1) % l.length = j at *
  have i2 : (j : Int) < (l.length : Int) := by omega
  clear h0 h3 hv
  go_enter Tryd.func56, Tryd.ntmps56
  go_wp2_with fail
  exact bodyPost_ret (v := .agg #[.int .i64 x, .int .i64 y]) (by simp [results, Tryd.results56, go_sem]) rfl ⟨rfl, (Below.refl _ _).alloc (Nat.le_refl _) _⟩

theorem blame_any (i : Int) (k : Int) (w : World) : Calls Tryd.prog 51 #[.int .i64 i, .iface 54 (.int .i64 k)] w (ErRet w (.fault strRing i (.num k))) := by
  go_enter Tryd.func51, Tryd.ntmps51
  go_wp2
  go_ret
  exact ⟨_, rfl, ⟨_, _, rfl, by simp, by simp [strRing], by simp, by simp, rfl⟩, (Below.refl _ _).alloc (Nat.le_refl _) _⟩
end

/-! Vars -/
section
open Go.RowKit

/-- a new variable of two cells, at g -/
def NewV (w : World) (g : Nat) : Prop := w.heap[g]? = some (.cells #[.int .i64 0, .int .i64 0] 43 (0, 0))
theorem NewV.lt {w : World} {g : Nat} (h : NewV w g) : g < w.heap.size := (Array.getElem?_eq_some_iff.1 h).1
theorem NewV.below {w w' : World} {g : Nat} (h : NewV w g) (hb : Below w.heap.size w w') : NewV w' g := (hb.block g h.lt).trans h
theorem newV_alloc (w : World) : NewV (w.alloc (.cells #[.int .i64 0, .int .i64 0] 43)) w.heap.size := by
  show (w.heap.push _)[w.heap.size]? = _
  simp

structure VS (W w : World) (b1 b2 b3 b4 b5 b6 : Bool) (u1 u2 u3 u4 u5 u6 v1 v2 : Value) (g3 g4 g5 g6 : Nat) : Prop where
  bel : Below W.heap.size W w
  e1 : b1 = true → u1 = v1
  e2 : b2 = true → u2 = v2
  h12 : b2 = true → b1 = true
  c3 : b3 = true → u3 = .pointer (some ⟨g3, 0, none⟩) ∧ W.heap.size ≤ g3 ∧ NewV w g3
  c4 : b4 = true → u4 = .pointer (some ⟨g4, 0, none⟩) ∧ W.heap.size ≤ g4 ∧ NewV w g4
  c5 : b5 = true → u5 = .pointer (some ⟨g5, 0, none⟩) ∧ W.heap.size ≤ g5 ∧ NewV w g5
  c6 : b6 = true → u6 = .pointer (some ⟨g6, 0, none⟩) ∧ W.heap.size ≤ g6 ∧ NewV w g6
  d34 : b3 = true → b4 = true → g3 ≠ g4
  d35 : b3 = true → b5 = true → g3 ≠ g5
  d36 : b3 = true → b6 = true → g3 ≠ g6
  d45 : b4 = true → b5 = true → g4 ≠ g5
  d46 : b4 = true → b6 = true → g4 ≠ g6
  d56 : b5 = true → b6 = true → g5 ≠ g6

theorem VS.grow {W w w' : World} {b1 b2 b3 b4 b5 b6 : Bool} {u1 u2 u3 u4 u5 u6 v1 v2 : Value} {g3 g4 g5 g6 : Nat} (h : VS W w b1 b2 b3 b4 b5 b6 u1 u2 u3 u4 u5 u6 v1 v2 g3 g4 g5 g6) (hb : Below w.heap.size w w') : VS W w' b1 b2 b3 b4 b5 b6 u1 u2 u3 u4 u5 u6 v1 v2 g3 g4 g5 g6 :=
  { bel := h.bel.trans (hb.mono h.bel.size), e1 := h.e1, e2 := h.e2, h12 := h.h12, c3 := fun q => ⟨(h.c3 q).1, (h.c3 q).2.1, (h.c3 q).2.2.below hb⟩, c4 := fun q => ⟨(h.c4 q).1, (h.c4 q).2.1, (h.c4 q).2.2.below hb⟩, c5 := fun q => ⟨(h.c5 q).1, (h.c5 q).2.1, (h.c5 q).2.2.below hb⟩, c6 := fun q => ⟨(h.c6 q).1, (h.c6 q).2.1, (h.c6 q).2.2.below hb⟩, d34 := h.d34, d35 := h.d35, d36 := h.d36, d45 := h.d45, d46 := h.d46, d56 := h.d56 }
theorem VS.call1 {W w w' : World} {b1 b2 b3 b4 b5 b6 : Bool} {u1 u2 u3 u4 u5 u6 v1 v2 : Value} {g3 g4 g5 g6 : Nat} (h : VS W w b1 b2 b3 b4 b5 b6 u1 u2 u3 u4 u5 u6 v1 v2 g3 g4 g5 g6) (hb : Below w.heap.size w w') : VS W w' true b2 b3 b4 b5 b6 v1 u2 u3 u4 u5 u6 v1 v2 g3 g4 g5 g6 :=
  { h.grow hb with e1 := fun _ => rfl, h12 := fun _ => rfl }
theorem VS.call2 {W w w' : World} {b2 b3 b4 b5 b6 : Bool} {u1 u2 u3 u4 u5 u6 v1 v2 : Value} {g3 g4 g5 g6 : Nat} (h : VS W w true b2 b3 b4 b5 b6 u1 u2 u3 u4 u5 u6 v1 v2 g3 g4 g5 g6) (hb : Below w.heap.size w w') : VS W w' true true b3 b4 b5 b6 u1 v2 u3 u4 u5 u6 v1 v2 g3 g4 g5 g6 :=
  { h.grow hb with e2 := fun _ => rfl, h12 := fun _ => rfl }
theorem VS.alloc3 {W w : World} {b1 b2 b3 b4 b5 b6 : Bool} {u1 u2 u3 u4 u5 u6 v1 v2 : Value} {g3 g4 g5 g6 : Nat} (h : VS W w b1 b2 b3 b4 b5 b6 u1 u2 u3 u4 u5 u6 v1 v2 g3 g4 g5 g6) : VS W (w.alloc (.cells #[.int .i64 0, .int .i64 0] 43)) b1 b2 true b4 b5 b6 u1 u2 (.pointer (some ⟨w.heap.size, 0, none⟩)) u4 u5 u6 v1 v2 w.heap.size g4 g5 g6 :=
  { h.grow ((Below.refl _ _).alloc (Nat.le_refl _) (.cells #[.int .i64 0, .int .i64 0] 43)) with c3 := fun _ => ⟨rfl, h.bel.size, newV_alloc w⟩, d34 := fun _ q e => absurd (h.c4 q).2.2.lt (by omega), d35 := fun _ q e => absurd (h.c5 q).2.2.lt (by omega), d36 := fun _ q e => absurd (h.c6 q).2.2.lt (by omega) }
theorem VS.alloc4 {W w : World} {b1 b2 b3 b4 b5 b6 : Bool} {u1 u2 u3 u4 u5 u6 v1 v2 : Value} {g3 g4 g5 g6 : Nat} (h : VS W w b1 b2 b3 b4 b5 b6 u1 u2 u3 u4 u5 u6 v1 v2 g3 g4 g5 g6) : VS W (w.alloc (.cells #[.int .i64 0, .int .i64 0] 43)) b1 b2 b3 true b5 b6 u1 u2 u3 (.pointer (some ⟨w.heap.size, 0, none⟩)) u5 u6 v1 v2 g3 w.heap.size g5 g6 :=
  { h.grow ((Below.refl _ _).alloc (Nat.le_refl _) (.cells #[.int .i64 0, .int .i64 0] 43)) with c4 := fun _ => ⟨rfl, h.bel.size, newV_alloc w⟩, d34 := fun q _ e => absurd (h.c3 q).2.2.lt (by omega), d45 := fun _ q e => absurd (h.c5 q).2.2.lt (by omega), d46 := fun _ q e => absurd (h.c6 q).2.2.lt (by omega) }
theorem VS.alloc5 {W w : World} {b1 b2 b3 b4 b5 b6 : Bool} {u1 u2 u3 u4 u5 u6 v1 v2 : Value} {g3 g4 g5 g6 : Nat} (h : VS W w b1 b2 b3 b4 b5 b6 u1 u2 u3 u4 u5 u6 v1 v2 g3 g4 g5 g6) : VS W (w.alloc (.cells #[.int .i64 0, .int .i64 0] 43)) b1 b2 b3 b4 true b6 u1 u2 u3 u4 (.pointer (some ⟨w.heap.size, 0, none⟩)) u6 v1 v2 g3 g4 w.heap.size g6 :=
  { h.grow ((Below.refl _ _).alloc (Nat.le_refl _) (.cells #[.int .i64 0, .int .i64 0] 43)) with c5 := fun _ => ⟨rfl, h.bel.size, newV_alloc w⟩, d35 := fun q _ e => absurd (h.c3 q).2.2.lt (by omega), d45 := fun q _ e => absurd (h.c4 q).2.2.lt (by omega), d56 := fun _ q e => absurd (h.c6 q).2.2.lt (by omega) }
theorem VS.alloc6 {W w : World} {b1 b2 b3 b4 b5 b6 : Bool} {u1 u2 u3 u4 u5 u6 v1 v2 : Value} {g3 g4 g5 g6 : Nat} (h : VS W w b1 b2 b3 b4 b5 b6 u1 u2 u3 u4 u5 u6 v1 v2 g3 g4 g5 g6) : VS W (w.alloc (.cells #[.int .i64 0, .int .i64 0] 43)) b1 b2 b3 b4 b5 true u1 u2 u3 u4 u5 (.pointer (some ⟨w.heap.size, 0, none⟩)) v1 v2 g3 g4 g5 w.heap.size :=
  { h.grow ((Below.refl _ _).alloc (Nat.le_refl _) (.cells #[.int .i64 0, .int .i64 0] 43)) with c6 := fun _ => ⟨rfl, h.bel.size, newV_alloc w⟩, d36 := fun q _ e => absurd (h.c3 q).2.2.lt (by omega), d46 := fun q _ e => absurd (h.c4 q).2.2.lt (by omega), d56 := fun q _ e => absurd (h.c5 q).2.2.lt (by omega) }

theorem wpAnyH_vars {P : Program} {ops : Array Oper} {Q : Exit → Act → World → Prop} (W : World) (v1 v2 : Value) (act : Value → Value → Value → Value → Value → Value → Act) (lst : Bool → Bool → Bool → Bool → Bool → Bool → Array Bool) (i1 i2 i3 i4 i5 i6 m : Nat)
    (hready : ∀ b1 b2 b3 b4 b5 b6, (b1 && b2 && b3 && b4 && b5 && b6) = false → (b2 = true → b1 = true) → Region.ready .any ops (lst b1 b2 b3 b4 b5 b6) = (if b1 then [] else [i1]) ++ (if b1 && !b2 then [i2] else []) ++ (if b3 then [] else [i3]) ++ (if b4 then [] else [i4]) ++ (if b5 then [] else [i5]) ++ (if b6 then [] else [i6]))
    (hs1 : ∀ b1 b2 b3 b4 b5 b6, (lst b1 b2 b3 b4 b5 b6).setIfInBounds i1 true = lst true b2 b3 b4 b5 b6)
    (hs2 : ∀ b1 b2 b3 b4 b5 b6, (lst b1 b2 b3 b4 b5 b6).setIfInBounds i2 true = lst b1 true b3 b4 b5 b6)
    (hs3 : ∀ b1 b2 b3 b4 b5 b6, (lst b1 b2 b3 b4 b5 b6).setIfInBounds i3 true = lst b1 b2 true b4 b5 b6)
    (hs4 : ∀ b1 b2 b3 b4 b5 b6, (lst b1 b2 b3 b4 b5 b6).setIfInBounds i4 true = lst b1 b2 b3 true b5 b6)
    (hs5 : ∀ b1 b2 b3 b4 b5 b6, (lst b1 b2 b3 b4 b5 b6).setIfInBounds i5 true = lst b1 b2 b3 b4 true b6)
    (hs6 : ∀ b1 b2 b3 b4 b5 b6, (lst b1 b2 b3 b4 b5 b6).setIfInBounds i6 true = lst b1 b2 b3 b4 b5 true)
    (hc1 : ∀ u1 u2 u3 u4 u5 u6 w K, Below W.heap.size W w → (∀ w', Below w.heap.size w w' → K (act v1 u2 u3 u4 u5 u6) w') → wpOp P ops Q i1 K (act u1 u2 u3 u4 u5 u6) w)
    (hc2 : ∀ u1 u2 u3 u4 u5 u6 w K, Below W.heap.size W w → (∀ w', Below w.heap.size w w' → K (act u1 v2 u3 u4 u5 u6) w') → wpOp P ops Q i2 K (act u1 u2 u3 u4 u5 u6) w)
    (ha3 : ∀ u1 u2 u3 u4 u5 u6 (w : World) K, K (act u1 u2 (.pointer (some ⟨w.heap.size, 0, none⟩)) u4 u5 u6) (w.alloc (.cells #[.int .i64 0, .int .i64 0] 43)) → wpOp P ops Q i3 K (act u1 u2 u3 u4 u5 u6) w)
    (ha4 : ∀ u1 u2 u3 u4 u5 u6 (w : World) K, K (act u1 u2 u3 (.pointer (some ⟨w.heap.size, 0, none⟩)) u5 u6) (w.alloc (.cells #[.int .i64 0, .int .i64 0] 43)) → wpOp P ops Q i4 K (act u1 u2 u3 u4 u5 u6) w)
    (ha5 : ∀ u1 u2 u3 u4 u5 u6 (w : World) K, K (act u1 u2 u3 u4 (.pointer (some ⟨w.heap.size, 0, none⟩)) u6) (w.alloc (.cells #[.int .i64 0, .int .i64 0] 43)) → wpOp P ops Q i5 K (act u1 u2 u3 u4 u5 u6) w)
    (ha6 : ∀ u1 u2 u3 u4 u5 u6 (w : World) K, K (act u1 u2 u3 u4 u5 (.pointer (some ⟨w.heap.size, 0, none⟩))) (w.alloc (.cells #[.int .i64 0, .int .i64 0] 43)) → wpOp P ops Q i6 K (act u1 u2 u3 u4 u5 u6) w)
    (fin : ∀ u1 u2 u3 u4 u5 u6 g3 g4 g5 g6 w, VS W w true true true true true true u1 u2 u3 u4 u5 u6 v1 v2 g3 g4 g5 g6 → wpAnyH P .any ops Q (fun w' => Below W.heap.size W w') m (lst true true true true true true) (act u1 u2 u3 u4 u5 u6) w) :
    ∀ n b1 b2 b3 b4 b5 b6 u1 u2 u3 u4 u5 u6 g3 g4 g5 g6 w, (if b1 then 0 else 1) + (if b2 then 0 else 1) + (if b3 then 0 else 1) + (if b4 then 0 else 1) + (if b5 then 0 else 1) + (if b6 then 0 else 1) = n → VS W w b1 b2 b3 b4 b5 b6 u1 u2 u3 u4 u5 u6 v1 v2 g3 g4 g5 g6 → wpAnyH P .any ops Q (fun w' => Below W.heap.size W w') (n + m) (lst b1 b2 b3 b4 b5 b6) (act u1 u2 u3 u4 u5 u6) w := by
  intro n
  induction n with
  | zero =>
    intro b1 b2 b3 b4 b5 b6 u1 u2 u3 u4 u5 u6 g3 g4 g5 g6 w hn hv
    obtain rfl : b1 = true := by cases b1 <;> simp at hn ⊢
    obtain rfl : b2 = true := by cases b2 <;> simp at hn ⊢
    obtain rfl : b3 = true := by cases b3 <;> simp at hn ⊢
    obtain rfl : b4 = true := by cases b4 <;> simp at hn ⊢
    obtain rfl : b5 = true := by cases b5 <;> simp at hn ⊢
    obtain rfl : b6 = true := by cases b6 <;> simp at hn ⊢
    rw [Nat.zero_add]
    exact fin _ _ _ _ _ _ _ _ _ _ w hv
  | succ n ih =>
    intro b1 b2 b3 b4 b5 b6 u1 u2 u3 u4 u5 u6 g3 g4 g5 g6 w hn hv
    have hnt : (b1 && b2 && b3 && b4 && b5 && b6) = false := by
      cases hq : (b1 && b2 && b3 && b4 && b5 && b6) with
      | false => rfl
      | true =>
        simp only [Bool.and_eq_true] at hq
        obtain ⟨⟨⟨⟨⟨rfl, rfl⟩, rfl⟩, rfl⟩, rfl⟩, rfl⟩ := hq
        simp at hn
    rw [show n + 1 + m = (n + m) + 1 by omega]
    refine ⟨fun h0 => ?_, fun i hi => ?_⟩
    · rw [hready _ _ _ _ _ _ hnt hv.h12] at h0
      exfalso
      have h12 := hv.h12
      clear hv ih hn
      revert h0 hnt h12
      cases b1 <;> cases b2 <;> cases b3 <;> cases b4 <;> cases b5 <;> cases b6 <;> simp
    · rw [hready _ _ _ _ _ _ hnt hv.h12] at hi
      simp only [List.mem_append] at hi
      rcases hi with ((((hi | hi) | hi) | hi) | hi) | hi
      · cases b1 with
        | true => simp at hi
        | false =>
          simp at hi
          subst hi
          refine hc1 _ _ _ _ _ _ _ _ hv.bel fun w' hb => ⟨hv.bel.trans (hb.mono hv.bel.size), ?_⟩
          rw [hs1]
          exact ih _ _ _ _ _ _ _ _ _ _ _ _ _ _ _ _ _ (by simp at hn ⊢; omega) (hv.call1 hb)
      · cases b2 with
        | true => simp at hi
        | false =>
          cases b1 with
          | false => simp at hi
          | true =>
            simp at hi
            subst hi
            refine hc2 _ _ _ _ _ _ _ _ hv.bel fun w' hb => ⟨hv.bel.trans (hb.mono hv.bel.size), ?_⟩
            rw [hs2]
            exact ih _ _ _ _ _ _ _ _ _ _ _ _ _ _ _ _ _ (by simp at hn ⊢; omega) (hv.call2 hb)
      · cases b3 with
        | true => simp at hi
        | false =>
          simp at hi
          subst hi
          refine ha3 _ _ _ _ _ _ _ _ ⟨hv.bel.alloc hv.bel.size _, ?_⟩
          rw [hs3]
          exact ih _ _ _ _ _ _ _ _ _ _ _ _ _ _ _ _ _ (by simp at hn ⊢; omega) hv.alloc3
      · cases b4 with
        | true => simp at hi
        | false =>
          simp at hi
          subst hi
          refine ha4 _ _ _ _ _ _ _ _ ⟨hv.bel.alloc hv.bel.size _, ?_⟩
          rw [hs4]
          exact ih _ _ _ _ _ _ _ _ _ _ _ _ _ _ _ _ _ (by simp at hn ⊢; omega) hv.alloc4
      · cases b5 with
        | true => simp at hi
        | false =>
          simp at hi
          subst hi
          refine ha5 _ _ _ _ _ _ _ _ ⟨hv.bel.alloc hv.bel.size _, ?_⟩
          rw [hs5]
          exact ih _ _ _ _ _ _ _ _ _ _ _ _ _ _ _ _ _ (by simp at hn ⊢; omega) hv.alloc5
      · cases b6 with
        | true => simp at hi
        | false =>
          simp at hi
          subst hi
          refine ha6 _ _ _ _ _ _ _ _ ⟨hv.bel.alloc hv.bel.size _, ?_⟩
          rw [hs6]
          exact ih _ _ _ _ _ _ _ _ _ _ _ _ _ _ _ _ _ (by simp at hn ⊢; omega) hv.alloc6

/-- Two new variables, in whatever order. -/
theorem wpAnyH_two {P : Program} {ops : Array Oper} {Q : Exit → Act → World → Prop} (W : World) (act : Value → Value → Act) (lst : Bool → Bool → Array Bool) (i1 i2 m : Nat)
    (hr : Region.ready .any ops (lst false false) = [i1, i2]) (hr1 : Region.ready .any ops (lst true false) = [i2]) (hr2 : Region.ready .any ops (lst false true) = [i1])
    (hs1 : ∀ b, (lst false b).setIfInBounds i1 true = lst true b) (hs2 : ∀ b, (lst b false).setIfInBounds i2 true = lst b true)
    (ha1 : ∀ u1 u2 (w : World) K, K (act (.pointer (some ⟨w.heap.size, 0, none⟩)) u2) (w.alloc (.cells #[.int .i64 0, .int .i64 0] 43)) → wpOp P ops Q i1 K (act u1 u2) w)
    (ha2 : ∀ u1 u2 (w : World) K, K (act u1 (.pointer (some ⟨w.heap.size, 0, none⟩))) (w.alloc (.cells #[.int .i64 0, .int .i64 0] 43)) → wpOp P ops Q i2 K (act u1 u2) w)
    (fin : ∀ g1 g2 w, Below W.heap.size W w → W.heap.size ≤ g1 → W.heap.size ≤ g2 → g1 ≠ g2 → NewV w g1 → NewV w g2 → wpAnyH P .any ops Q (fun w' => Below W.heap.size W w') m (lst true true) (act (.pointer (some ⟨g1, 0, none⟩)) (.pointer (some ⟨g2, 0, none⟩))) w)
    (u1 u2 : Value) (w : World) (hb : Below W.heap.size W w) : wpAnyH P .any ops Q (fun w' => Below W.heap.size W w') (m + 1 + 1) (lst false false) (act u1 u2) w := by
  have hb1 := hb.alloc hb.size (.cells #[.int .i64 0, .int .i64 0] 43)
  have hb2 := hb1.alloc hb1.size (.cells #[.int .i64 0, .int .i64 0] 43)
  have n1 := newV_alloc w
  have n2 := newV_alloc (w.alloc (.cells #[.int .i64 0, .int .i64 0] 43))
  have n1' := n1.below ((Below.refl _ _).alloc (Nat.le_refl _) (.cells #[.int .i64 0, .int .i64 0] 43))
  have hne : w.heap.size ≠ (w.alloc (.cells #[.int .i64 0, .int .i64 0] 43)).heap.size := Nat.ne_of_lt n1.lt
  refine wpAnyH_all hr (by simp) (fun i hi => ?_)
  rcases List.mem_cons.1 hi with rfl | hi
  · refine ha1 _ _ _ _ ⟨hb1, ?_⟩
    rw [hs1]
    refine wpAnyH_all hr1 (by simp) (fun k hk => ?_)
    obtain rfl := List.mem_singleton.1 hk
    refine ha2 _ _ _ _ ⟨hb2, ?_⟩
    rw [hs2]
    exact fin _ _ _ hb2 hb.size hb1.size hne n1' n2
  · obtain rfl := List.mem_singleton.1 hi
    refine ha2 _ _ _ _ ⟨hb1, ?_⟩
    rw [hs2]
    refine wpAnyH_all hr2 (by simp) (fun k hk => ?_)
    obtain rfl := List.mem_singleton.1 hk
    refine ha1 _ _ _ _ ⟨hb2, ?_⟩
    rw [hs1]
    exact fin _ _ _ hb2 hb1.size hb.size hne.symm n2 n1'
/-! ### stores into the new variables -/
theorem NewV.there {w : World} {g : Nat} (h : NewV w g) : w.there g 0 2 := by
  intro j hj
  have hc : w.cell? ⟨g, 0 + j, none⟩ = some (.int .i64 0) := by
    rw [cell_of_row w g (0 + j) _ _ _ h]
    match j, hj with
    | 0, _ => rfl
    | 1, _ => rfl
  refine ⟨by rw [hc]; rfl, ?_⟩
  unfold World.frozen?
  rw [show w.heap[g]? = _ from h]
  rfl
theorem below_setCells {B b : Nat} {a : World} (hb : B ≤ b) : ∀ (vs : List Value) (o : Nat) (w : World), Below B a w → Below B a (w.setCells b o vs)
  | [], _, _, h => h
  | v :: vs, o, w, h => below_setCells hb vs (o + 1) (w.setCell ⟨b, o, none⟩ v) (h.setCell hb v)
theorem pair_setCells (w : World) (g : Nat) (x y : Int) (h : w.there g 0 2) : Pair (w.setCells g 0 [.int .i64 x, .int .i64 y]) g x y :=
  have r := World.rangeAt_setCells_same w g 0 [.int .i64 x, .int .i64 y] h
  ⟨r 0 _ rfl, r 1 _ rfl⟩
theorem Pair.apart {w : World} {g b : Nat} {x y : Int} (h : Pair w g x y) (hne : g ≠ b) (vs : List Value) : Pair (w.setCells b 0 vs) g x y :=
  have r0 := World.rangeAt_setCells_apart (w := w) (b' := g) (o' := 0) (cs := [.int .i64 x, .int .i64 y]) (fun j v hv => by
    match j, hv with
    | 0, hv => cases hv; exact h.c0
    | 1, hv => cases hv; exact h.c1) b 0 vs (.inl hne)
  ⟨r0 0 _ rfl, r0 1 _ rfl⟩
theorem step_store {P : Program} {w : World} {ops : Array Oper} {o : Oper} {a : Act} {K : Act → World → Prop} {Q : Exit → Act → World → Prop} {E : Prop} (hw : Region.wanted o (yielded ops a.tmps) = true) (ty : TypeId) (x y : Operand)
    (ho : o.op = .store ty x y) (b : Nat) (m n : Int) (hx : a.eval x = .pointer (some ⟨b, 0, none⟩)) (hy : a.eval y = .agg #[.int .i64 m, .int .i64 n]) (ht : w.there b 0 2) (hi : (P.info? ty).map (·.size) = some 2)
    (h : K (a.put o.dst undef) (w.setCells b 0 [.int .i64 m, .int .i64 n])) : if Region.wanted o (yielded ops a.tmps) = true then Oper.wp P o a w K Q else E := by
  rw [if_pos hw]
  exact wp_store_mid ty x y ho b 0 #[.int .i64 m, .int .i64 n] hx hy ht hi (by simp [Value.oneCell']) h
end

end Go.Proofs.YthcfekabeidmiaaRRDoorR
