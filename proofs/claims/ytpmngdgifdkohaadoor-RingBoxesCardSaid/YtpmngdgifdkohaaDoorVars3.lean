/- One call and two new variables, in whatever order a region brings them. -/
import Derived.Test.YtpmngdgifdkohaaDoorVars
namespace Go.Proofs.YtpmngdgifdkohaaDoor
open Go.RowKit

/-- One call and two new variables, in whatever order. -/
structure VT (W w : World) (b1 b2 b3 : Bool) (u1 u2 u3 v1 : Value) (g2 g3 : Nat) : Prop where
  bel : Below W.heap.size W w
  e1 : b1 = true → u1 = v1
  c2 : b2 = true → u2 = .pointer (some ⟨g2, 0, none⟩) ∧ W.heap.size ≤ g2 ∧ NewV w g2
  c3 : b3 = true → u3 = .pointer (some ⟨g3, 0, none⟩) ∧ W.heap.size ≤ g3 ∧ NewV w g3
  d23 : b2 = true → b3 = true → g2 ≠ g3
theorem VT.grow {W w w' : World} {b1 b2 b3 : Bool} {u1 u2 u3 v1 : Value} {g2 g3 : Nat} (h : VT W w b1 b2 b3 u1 u2 u3 v1 g2 g3) (hb : Below w.heap.size w w') : VT W w' b1 b2 b3 u1 u2 u3 v1 g2 g3 :=
  { bel := h.bel.trans (hb.mono h.bel.size), e1 := h.e1, c2 := fun q => ⟨(h.c2 q).1, (h.c2 q).2.1, (h.c2 q).2.2.below hb⟩, c3 := fun q => ⟨(h.c3 q).1, (h.c3 q).2.1, (h.c3 q).2.2.below hb⟩, d23 := h.d23 }
theorem wpAnyH_vars12 {P : Program} {ops : Array Oper} {Q : Exit → Act → World → Prop} (W : World) (v1 : Value) (act : Value → Value → Value → Act) (lst : Bool → Bool → Bool → Array Bool) (i1 i2 i3 m : Nat)
    (hready : ∀ b1 b2 b3, (b1 && b2 && b3) = false → Region.ready .any ops (lst b1 b2 b3) = (if b1 then [] else [i1]) ++ (if b2 then [] else [i2]) ++ (if b3 then [] else [i3]))
    (hs1 : ∀ b1 b2 b3, (lst b1 b2 b3).setIfInBounds i1 true = lst true b2 b3) (hs2 : ∀ b1 b2 b3, (lst b1 b2 b3).setIfInBounds i2 true = lst b1 true b3) (hs3 : ∀ b1 b2 b3, (lst b1 b2 b3).setIfInBounds i3 true = lst b1 b2 true)
    (hc1 : ∀ u1 u2 u3 w K, Below W.heap.size W w → (∀ w', Below w.heap.size w w' → K (act v1 u2 u3) w') → wpOp P ops Q i1 K (act u1 u2 u3) w)
    (ha2 : ∀ u1 u2 u3 (w : World) K, K (act u1 (.pointer (some ⟨w.heap.size, 0, none⟩)) u3) (w.alloc (.cells #[.int .i64 0, .int .i64 0] 24)) → wpOp P ops Q i2 K (act u1 u2 u3) w)
    (ha3 : ∀ u1 u2 u3 (w : World) K, K (act u1 u2 (.pointer (some ⟨w.heap.size, 0, none⟩))) (w.alloc (.cells #[.int .i64 0, .int .i64 0] 24)) → wpOp P ops Q i3 K (act u1 u2 u3) w)
    (fin : ∀ u1 u2 u3 g2 g3 w, VT W w true true true u1 u2 u3 v1 g2 g3 → wpAnyH P .any ops Q (fun w' => Below W.heap.size W w') m (lst true true true) (act u1 u2 u3) w) :
    ∀ n b1 b2 b3 u1 u2 u3 g2 g3 w, (if b1 then 0 else 1) + (if b2 then 0 else 1) + (if b3 then 0 else 1) = n → VT W w b1 b2 b3 u1 u2 u3 v1 g2 g3 → wpAnyH P .any ops Q (fun w' => Below W.heap.size W w') (n + m) (lst b1 b2 b3) (act u1 u2 u3) w := by
  intro n
  induction n with
  | zero =>
    intro b1 b2 b3 u1 u2 u3 g2 g3 w hn hv
    obtain rfl : b1 = true := by cases b1 <;> simp at hn ⊢
    obtain rfl : b2 = true := by cases b2 <;> simp at hn ⊢
    obtain rfl : b3 = true := by cases b3 <;> simp at hn ⊢
    rw [Nat.zero_add]
    exact fin _ _ _ _ _ w hv
  | succ n ih =>
    intro b1 b2 b3 u1 u2 u3 g2 g3 w hn hv
    have hnt : (b1 && b2 && b3) = false := by
      cases hq : (b1 && b2 && b3) with
      | false => rfl
      | true =>
        simp only [Bool.and_eq_true] at hq
        obtain ⟨⟨rfl, rfl⟩, rfl⟩ := hq
        simp at hn
    rw [show n + 1 + m = (n + m) + 1 by omega]
    refine ⟨fun h0 => ?_, fun i hi => ?_⟩
    · rw [hready _ _ _ hnt] at h0
      exfalso
      clear hv ih hn
      revert h0 hnt
      cases b1 <;> cases b2 <;> cases b3 <;> simp
    · rw [hready _ _ _ hnt] at hi
      simp only [List.mem_append] at hi
      rcases hi with (hi | hi) | hi
      · cases b1 with
        | true => simp at hi
        | false =>
          simp at hi
          subst hi
          refine hc1 _ _ _ _ _ hv.bel fun w' hb => ⟨hv.bel.trans (hb.mono hv.bel.size), ?_⟩
          rw [hs1]
          exact ih _ _ _ _ _ _ _ _ _ (by simp at hn ⊢; omega) { hv.grow hb with e1 := fun _ => rfl }
      · cases b2 with
        | true => simp at hi
        | false =>
          simp at hi
          subst hi
          refine ha2 _ _ _ _ _ ⟨hv.bel.alloc hv.bel.size _, ?_⟩
          rw [hs2]
          exact ih _ _ _ _ _ _ _ _ _ (by simp at hn ⊢; omega) { hv.grow ((Below.refl _ _).alloc (Nat.le_refl _) _) with c2 := fun _ => ⟨rfl, hv.bel.size, newV_alloc w⟩, d23 := fun _ q e => absurd (hv.c3 q).2.2.lt (by omega) }
      · cases b3 with
        | true => simp at hi
        | false =>
          simp at hi
          subst hi
          refine ha3 _ _ _ _ _ ⟨hv.bel.alloc hv.bel.size _, ?_⟩
          rw [hs3]
          exact ih _ _ _ _ _ _ _ _ _ (by simp at hn ⊢; omega) { hv.grow ((Below.refl _ _).alloc (Nat.le_refl _) _) with c3 := fun _ => ⟨rfl, hv.bel.size, newV_alloc w⟩, d23 := fun q _ e => absurd (hv.c2 q).2.2.lt (by omega) }
end Go.Proofs.YtpmngdgifdkohaaDoor
