/- pergolaref1.Add, Compare at small numbers. -/
import Derived.Test.YtpmngdgifdkohaaDoorRefRing2
namespace Go.Proofs.YtpmngdgifdkohaaDoor
open Go.RowKit

theorem CompareR_gt (s a : Int) (w : World) (h : a < s) : Calls Tryd.prog 34 #[.agg #[.int .u64 0, .int .u64 s], .agg #[.int .u64 0, .int .u64 a]] w fun e w' => e = .returned (.int .i64 1) ∧ Below w.heap.size w w' := by
  have t1 : decide (s < a) = false := decide_eq_false (by omega)
  have t2 : (s == a) = false := beq_eq_false_iff_ne.2 (by omega)
  clear h
  go_enter Tryd.func34, Tryd.ntmps34
  go_wp2
  go_ret
  exact ⟨rfl, ((Below.refl _ _).alloc (Nat.le_refl _) _).alloc (by simp) _⟩

theorem below_drewN5 {B : Nat} {a w : World} (h : Below B a w) (n : Nat) : Below B a (w.drewN n) := ⟨h.os, h.tape, h.output, h.size, h.block⟩
/-- a store of two cells, as a step of a region that draws its order -/
theorem step_store2 {P : Program} {w : World} {ops : Array Oper} {o : Oper} {a : Act} {K : Act → World → Prop} {Q : Exit → Act → World → Prop} {E : Prop} (hw : Region.wanted o (yielded ops a.tmps) = true) (ty : TypeId) (x y : Operand)
    (ho : o.op = .store ty x y) (b : Nat) (m n : Int) (hx : a.eval x = .pointer (some ⟨b, 0, none⟩)) (hy : a.eval y = .agg #[.int .u64 m, .int .u64 n]) (ht : w.there b 0 2) (hi : (P.info? ty).map (·.size) = some 2)
    (h : K (a.put o.dst undef) (w.setCells b 0 [.int .u64 m, .int .u64 n])) : if Region.wanted o (yielded ops a.tmps) = true then Oper.wp P o a w K Q else E := by
  rw [if_pos hw]
  exact wp_store_mid ty x y ho b 0 #[.int .u64 m, .int .u64 n] hx hy ht hi (by simp [Value.oneCell']) h
/-- two cells of words -/
structure PairU (w : World) (g : Nat) (x y : Int) : Prop where
  c0 : w.cell? ⟨g, 0, none⟩ = some (.int .u64 x)
  c1 : w.cell? ⟨g, 1, none⟩ = some (.int .u64 y)
  f0 : w.frozen? ⟨g, 0, none⟩ = false
  f1 : w.frozen? ⟨g, 1, none⟩ = false
theorem PairU.lt {w : World} {g : Nat} {x y : Int} (h : PairU w g x y) : g < w.heap.size := World.block_lt_of_cell? w ⟨g, 0, none⟩ h.c0
theorem PairU.below {w w' : World} {g : Nat} {x y : Int} (h : PairU w g x y) (hb : Below w.heap.size w w') : PairU w' g x y :=
  ⟨(hb.cell (p := ⟨g, 0, none⟩) h.lt).trans h.c0, (hb.cell (p := ⟨g, 1, none⟩) h.lt).trans h.c1, (hb.frozen (p := ⟨g, 0, none⟩) h.lt).trans h.f0, (hb.frozen (p := ⟨g, 1, none⟩) h.lt).trans h.f1⟩
theorem pairU_alloc (w : World) (x y : Int) (T : TypeId) (g : Nat) (hg : g = w.heap.size) : PairU (w.alloc (.cells #[.int .u64 x, .int .u64 y] T)) g x y := by
  subst hg; exact ⟨by simp, by simp, by simp, by simp⟩
theorem PairU.there {w : World} {g : Nat} {x y : Int} (h : PairU w g x y) : w.there g 0 2 := fun j hj => by
  match j, hj with
  | 0, _ => exact ⟨by rw [h.c0]; rfl, h.f0⟩
  | 1, _ => exact ⟨by rw [h.c1]; rfl, h.f1⟩

set_option maxRecDepth 100000 in
theorem AddR_pos (a b : Int) (w : World) (ha : 0 < a) (hb : 0 < b) (hs : a + b < 18446744073709551616) :
    Calls Tryd.prog 20 #[.agg #[.int .u64 0, .int .u64 a], .agg #[.int .u64 0, .int .u64 b]] w fun e w' => e = .returned (.tuple #[.agg #[.int .u64 0, .int .u64 (a + b)], .bool false]) ∧ Below w.heap.size w w' := by
  obtain ⟨s, hs'⟩ : ∃ s, a + b = s := ⟨_, rfl⟩
  have e1 : IntKind.u64.wrap (a + b) = s := by rw [u64_wrap]; omega
  have t1 : decide (s < a) = false := decide_eq_false (by omega)
  have CP := Lib.hid (fun w => CompareR_gt s a w (by omega))
  rw [hs']
  clear ha hb hs hs'
  have Y1 := Lib.hid ((((pairU_alloc w 0 a 42 w.heap.size rfl).below ((Below.refl _ _).alloc (Nat.le_refl _) (.cells #[.int .u64 0, .int .u64 b] 42))).below ((Below.refl _ _).alloc (Nat.le_refl _) (.cells #[.int .u64 0, .int .u64 0] 42))).below ((Below.refl _ _).alloc (Nat.le_refl _) (.cells #[.int .u64 0, .int .u64 s] 42)))
  have Y2 := Lib.hid ((pairU_alloc ((w.alloc (.cells #[.int .u64 0, .int .u64 a] 42)).alloc (.cells #[.int .u64 0, .int .u64 b] 42)) 0 0 42 (w.heap.size + 1 + 1) (by simp)).below ((Below.refl _ _).alloc (Nat.le_refl _) (.cells #[.int .u64 0, .int .u64 s] 42)))
  have Y3 := Lib.hid (pairU_alloc (((w.alloc (.cells #[.int .u64 0, .int .u64 a] 42)).alloc (.cells #[.int .u64 0, .int .u64 b] 42)).alloc (.cells #[.int .u64 0, .int .u64 0] 42)) 0 s 42 (w.heap.size + 1 + 1 + 1) (by simp))
  have B0 : Below w.heap.size w ((((w.alloc (.cells #[.int .u64 0, .int .u64 a] 42)).alloc (.cells #[.int .u64 0, .int .u64 b] 42)).alloc (.cells #[.int .u64 0, .int .u64 0] 42)).alloc (.cells #[.int .u64 0, .int .u64 s] 42)) := ((((Below.refl _ _).alloc (Nat.le_refl _) _).alloc (by simp) _).alloc (by simp; omega) _).alloc (by simp; omega) _
  go_enter Tryd.func20, Tryd.ntmps20
  go_wp2_with fail
  generalize (((w.alloc (.cells #[.int .u64 0, .int .u64 a] 42)).alloc (.cells #[.int .u64 0, .int .u64 b] 42)).alloc (.cells #[.int .u64 0, .int .u64 0] 42)).alloc (.cells #[.int .u64 0, .int .u64 s] 42) = W at *
  have HK := Lib.hid (show ∀ n w', Below W.heap.size (W.drewN n) w' → (w'.cell? ⟨w.heap.size, 0, none⟩ = some (.int .u64 0) ∧ w'.cell? ⟨w.heap.size, 1, none⟩ = some (.int .u64 a) ∧ w'.cell? ⟨w.heap.size + 1 + 1 + 1, 0, none⟩ = some (.int .u64 0) ∧ w'.cell? ⟨w.heap.size + 1 + 1 + 1, 1, none⟩ = some (.int .u64 s)) from fun n w' h => by
    have h' : Below W.heap.size W w' := (below_drewN5 (Below.refl _ _) n).trans h
    exact ⟨(Y1.out.below h').c0, (Y1.out.below h').c1, (Y3.out.below h').c0, (Y3.out.below h').c1⟩)
  have HR := Lib.hid (show ∀ n w', Below W.heap.size (W.drewN n) w' → PairU w' (w.heap.size + 1 + 1) 0 0 from fun n w' h => Y2.out.below ((below_drewN5 (Below.refl _ _) n).trans h))
  have HB := Lib.hid (show ∀ n w', Below W.heap.size (W.drewN n) w' → Below w.heap.size w w' from fun n w' h => B0.trans (((below_drewN5 (Below.refl _ _) n).trans h).mono B0.size))
  obtain ⟨y0, y1, _, _⟩ := Y1.out
  obtain ⟨y2, y3, _, _⟩ := Y3.out
  have n1 : ¬ w.heap.size + 1 + 1 = w.heap.size + 1 + 1 + 1 := by omega
  have n2 : ¬ w.heap.size + 1 + 1 + 1 = w.heap.size + 1 + 1 := by omega
  have n3 : ¬ w.heap.size = w.heap.size + 1 + 1 := by omega
  have n4 : ¬ w.heap.size + 1 + 1 = w.heap.size := by omega
  have hle : w.heap.size ≤ w.heap.size + 1 + 1 := by omega
  generalize w.heap.size + 1 + 1 + 1 = g3 at *
  generalize w.heap.size + 1 + 1 = g2 at *
  go_region_held3 (fun w' => w'.cell? ⟨w.heap.size, 0, none⟩ = some (.int .u64 0) ∧ w'.cell? ⟨w.heap.size, 1, none⟩ = some (.int .u64 a) ∧ w'.cell? ⟨g3, 0, none⟩ = some (.int .u64 0) ∧ w'.cell? ⟨g3, 1, none⟩ = some (.int .u64 s)) (first | go_keep | exact HK.out _ _ b1)
    ((go_at_call 34; refine (CP.out _).mono ?_; rintro e w1 ⟨rfl, b1⟩; obtain ⟨r0, r1, r2, r3⟩ := HR.out _ _ b1))
  have hb := HB.out _ _ b1
  go_wp2_with fail
  obtain ⟨p0, p1⟩ := two_cells r0 r1 r2 r3 (.int .u64 0) (.int .u64 s)
  exact bodyPost_ret (v := .tuple #[.agg #[.int .u64 0, .int .u64 s], .bool false]) (by simp [results, Tryd.results20, go_sem, p0, p1]) rfl ⟨rfl, (hb.setCell (p := ⟨g2, 0, none⟩) hle _).setCell (p := ⟨g2, 1, none⟩) hle _⟩

end Go.Proofs.YtpmngdgifdkohaaDoor
