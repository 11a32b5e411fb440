/- pergolaref3.CheckBox, BoxHas. -/
import Derived.Test.YtpmngdgifdkohaaDoorRefA
namespace Go.Proofs.YtpmngdgifdkohaaDoor
open Go.RowKit

/-- why a box may not be -/
def boxCode (a b c d : Int) : Int := if inP a b ∧ inP c d then (if c < a ∨ d < b then 1 else 0) else 2
theorem boxCode_zero {a b c d : Int} : boxCode a b c d = 0 ↔ inP a b ∧ inP c d ∧ a ≤ c ∧ b ≤ d := by
  unfold boxCode
  constructor
  · intro h
    split at h
    · rename_i hp
      split at h
      · cases h
      · exact ⟨hp.1, hp.2, by omega, by omega⟩
    · cases h
  · rintro ⟨h1, h2, h3, h4⟩
    rw [if_pos ⟨h1, h2⟩, if_neg (by omega)]
theorem CheckBoxR_any (a b c d : Int) (w : World) : Calls Tryd.prog 18 #[.agg #[.int .i64 a, .int .i64 b, .int .i64 c, .int .i64 d]] w fun e w' => e = .returned (.int .i64 (boxCode a b c d)) ∧ Below w.heap.size w w' := by
  have M := Lib.hid (fun x y w => Point_any x y w)
  have B0 : Below w.heap.size w (w.alloc (.cells #[.int .i64 a, .int .i64 b, .int .i64 c, .int .i64 d] 39)) := (Below.refl _ _).alloc (Nat.le_refl _) _
  have Q0 := Lib.hid (quad_alloc w a b c d 39 w.heap.size rfl)
  by_cases hp : inP a b
  · have M1 := Lib.hid (fun w => Point_any a b w)
    rw [decide_eq_true hp] at M1
    by_cases hq : inP c d
    · have M2 := Lib.hid (fun w => Point_any c d w)
      rw [decide_eq_true hq] at M2
      by_cases h1 : c < a
      · have hc : boxCode a b c d = 1 := by unfold boxCode; rw [if_pos ⟨hp, hq⟩, if_pos (Or.inl h1)]
        rw [hc]
        have t1 := decide_eq_true h1
        clear hc hp hq
        go_enter Tryd.func18, Tryd.ntmps18
        go_wp2_with fail
        refine (M1.out _).mono ?_
        rintro e w1 ⟨rfl, b1⟩
        obtain ⟨y0, y1, y2, y3⟩ := Q0.out.below b1
        go_wp2_with fail
        refine (M2.out _).mono ?_
        rintro e w2 ⟨rfl, b2⟩
        clear y0 y1 y2 y3
        obtain ⟨y0, y1, y2, y3⟩ := (Q0.out.below b1).below b2
        go_wp2_with fail
        go_ret
        exact ⟨rfl, (B0.trans (b1.mono B0.size)).trans (b2.mono (B0.trans (b1.mono B0.size)).size)⟩
      · by_cases h2 : d < b
        · have hc : boxCode a b c d = 1 := by unfold boxCode; rw [if_pos ⟨hp, hq⟩, if_pos (Or.inr h2)]
          rw [hc]
          have t1 := decide_eq_false h1
          have t2 := decide_eq_true h2
          clear hc hp hq h1
          go_enter Tryd.func18, Tryd.ntmps18
          go_wp2_with fail
          refine (M1.out _).mono ?_
          rintro e w1 ⟨rfl, b1⟩
          obtain ⟨y0, y1, y2, y3⟩ := Q0.out.below b1
          go_wp2_with fail
          refine (M2.out _).mono ?_
          rintro e w2 ⟨rfl, b2⟩
          clear y0 y1 y2 y3
          obtain ⟨y0, y1, y2, y3⟩ := (Q0.out.below b1).below b2
          go_wp2_with fail
          go_ret
          exact ⟨rfl, (B0.trans (b1.mono B0.size)).trans (b2.mono (B0.trans (b1.mono B0.size)).size)⟩
        · have hc : boxCode a b c d = 0 := by unfold boxCode; rw [if_pos ⟨hp, hq⟩, if_neg (by omega)]
          rw [hc]
          have t1 := decide_eq_false h1
          have t2 := decide_eq_false h2
          clear hc hp hq h1 h2
          go_enter Tryd.func18, Tryd.ntmps18
          go_wp2_with fail
          refine (M1.out _).mono ?_
          rintro e w1 ⟨rfl, b1⟩
          obtain ⟨y0, y1, y2, y3⟩ := Q0.out.below b1
          go_wp2_with fail
          refine (M2.out _).mono ?_
          rintro e w2 ⟨rfl, b2⟩
          clear y0 y1 y2 y3
          obtain ⟨y0, y1, y2, y3⟩ := (Q0.out.below b1).below b2
          go_wp2_with fail
          go_ret
          exact ⟨rfl, (B0.trans (b1.mono B0.size)).trans (b2.mono (B0.trans (b1.mono B0.size)).size)⟩
    · have M2 := Lib.hid (fun w => Point_any c d w)
      rw [decide_eq_false hq] at M2
      have hc : boxCode a b c d = 2 := by unfold boxCode; rw [if_neg (fun h => hq h.2)]
      rw [hc]
      clear hc hp hq
      go_enter Tryd.func18, Tryd.ntmps18
      go_wp2_with fail
      refine (M1.out _).mono ?_
      rintro e w1 ⟨rfl, b1⟩
      obtain ⟨y0, y1, y2, y3⟩ := Q0.out.below b1
      go_wp2_with fail
      refine (M2.out _).mono ?_
      rintro e w2 ⟨rfl, b2⟩
      go_wp2_with fail
      go_ret
      exact ⟨rfl, (B0.trans (b1.mono B0.size)).trans (b2.mono (B0.trans (b1.mono B0.size)).size)⟩
  · have M1 := Lib.hid (fun w => Point_any a b w)
    rw [decide_eq_false hp] at M1
    have hc : boxCode a b c d = 2 := by unfold boxCode; rw [if_neg (fun h => hp h.1)]
    rw [hc]
    clear hc hp
    go_enter Tryd.func18, Tryd.ntmps18
    go_wp2_with fail
    refine (M1.out _).mono ?_
    rintro e w1 ⟨rfl, b1⟩
    go_wp2_with fail
    go_ret
    exact ⟨rfl, B0.trans (b1.mono B0.size)⟩

/-- is a point in a box? -/
def boxHasB (a b c d x y : Int) : Bool := decide (boxCode a b c d = 0) && (decide (inP x y) && (decide (a ≤ x) && (decide (x ≤ c) && (decide (b ≤ y) && decide (y ≤ d)))))
theorem BoxHas_any (a b c d x y : Int) (w : World) :
    Calls Tryd.prog 27 #[.agg #[.int .i64 a, .int .i64 b, .int .i64 c, .int .i64 d], .agg #[.int .i64 x, .int .i64 y]] w fun e w' => e = .returned (.bool (boxHasB a b c d x y)) ∧ Below w.heap.size w w' := by
  have M := Lib.hid (fun w => CheckBoxR_any a b c d w)
  have P := Lib.hid (fun w => Point_any x y w)
  have B0 : Below w.heap.size w ((w.alloc (.cells #[.int .i64 a, .int .i64 b, .int .i64 c, .int .i64 d] 39)).alloc (.cells #[.int .i64 x, .int .i64 y] 24)) := ((Below.refl _ _).alloc (Nat.le_refl _) _).alloc (by simp) _
  have Q0 := Lib.hid ((quad_alloc w a b c d 39 w.heap.size rfl).below ((Below.refl _ _).alloc (Nat.le_refl _) (.cells #[.int .i64 x, .int .i64 y] 24)))
  have X0 := Lib.hid (show ∀ w1, Below ((w.alloc (.cells #[.int .i64 a, .int .i64 b, .int .i64 c, .int .i64 d] 39)).alloc (.cells #[.int .i64 x, .int .i64 y] 24)).heap.size ((w.alloc (.cells #[.int .i64 a, .int .i64 b, .int .i64 c, .int .i64 d] 39)).alloc (.cells #[.int .i64 x, .int .i64 y] 24)) w1 →
      w1.cell? ⟨w.heap.size + 1, 0, none⟩ = some (.int .i64 x) ∧ w1.cell? ⟨w.heap.size + 1, 1, none⟩ = some (.int .i64 y) from fun w1 h => ⟨(h.cell (p := ⟨w.heap.size + 1, 0, none⟩) (by simp)).trans (by simp), (h.cell (p := ⟨w.heap.size + 1, 1, none⟩) (by simp)).trans (by simp)⟩)
  have HF := Lib.hid (show boxHasB a b c d x y = (decide (boxCode a b c d = 0) && (decide (inP x y) && (decide (a ≤ x) && (decide (x ≤ c) && (decide (b ≤ y) && decide (y ≤ d)))))) from rfl)
  generalize boxHasB a b c d x y = R at *
  generalize boxCode a b c d = k at *
  by_cases hk : k = 0
  · subst hk
    generalize decide (inP x y) = q at *
    cases q with
    | false =>
      go_enter Tryd.func27, Tryd.ntmps27
      go_wp2_with fail
      refine (M.out _).mono ?_
      rintro e w1 ⟨rfl, b1⟩
      obtain ⟨z0, z1⟩ := X0.out _ b1
      go_wp2_with fail
      refine (P.out _).mono ?_
      rintro e w2 ⟨rfl, b2⟩
      have b12 := b1.trans (b2.mono b1.size)
      go_wp2_with fail
      go_ret
      exact ⟨by rw [HF.out]; rfl, B0.trans (b12.mono B0.size)⟩
    | true =>
      have T : decide (a ≤ x) = false ∨ (decide (a ≤ x) = true ∧ (decide (x ≤ c) = false ∨ (decide (x ≤ c) = true ∧ (decide (b ≤ y) = false ∨ (decide (b ≤ y) = true ∧ (decide (y ≤ d) = false ∨ decide (y ≤ d) = true)))))) := by
        cases decide (a ≤ x) <;> cases decide (x ≤ c) <;> cases decide (b ≤ y) <;> cases decide (y ≤ d) <;> simp
      rcases T with t1 | ⟨t1, t2 | ⟨t2, t3 | ⟨t3, t4 | t4⟩⟩⟩
      all_goals
        first
          | rw [t1, t2, t3, t4] at HF
          | rw [t1, t2, t3] at HF
          | rw [t1, t2] at HF
          | rw [t1] at HF
        go_enter Tryd.func27, Tryd.ntmps27
        go_wp2_with fail
        refine (M.out _).mono ?_
        rintro e w1 ⟨rfl, b1⟩
        obtain ⟨z0, z1⟩ := X0.out _ b1
        go_wp2_with fail
        refine (P.out _).mono ?_
        rintro e w2 ⟨rfl, b2⟩
        clear z0 z1
        have b12 := b1.trans (b2.mono b1.size)
        obtain ⟨z0, z1⟩ := X0.out _ b12
        obtain ⟨y0, y1, y2, y3⟩ := Q0.out.below b12
        go_wp2_with fail
        go_ret
        exact ⟨by rw [HF.out]; rfl, B0.trans (b12.mono B0.size)⟩
  · have t0 : (k == 0) = false := beq_eq_false_iff_ne.2 hk
    rw [decide_eq_false hk] at HF
    clear hk
    go_enter Tryd.func27, Tryd.ntmps27
    go_wp2_with fail
    refine (M.out _).mono ?_
    rintro e w1 ⟨rfl, b1⟩
    go_wp2_with fail
    go_ret
    exact ⟨by rw [HF.out]; rfl, B0.trans (b1.mono B0.size)⟩
end Go.Proofs.YtpmngdgifdkohaaDoor
