/- Coordinates and points that may be; plane.far. -/
import Derived.Test.YtpmngdgifdkohaaDoorEr
namespace Go.Proofs.YtpmngdgifdkohaaDoor
open Go.RowKit

/-- may a coordinate be? -/
def inC (n : Int) : Prop := -1073741823 ≤ n ∧ n ≤ 1073741823
instance (n : Int) : Decidable (inC n) := inferInstanceAs (Decidable (_ ∧ _))
/-- may a point be? -/
def inP (x y : Int) : Prop := inC x ∧ inC y
instance (x y : Int) : Decidable (inP x y) := inferInstanceAs (Decidable (_ ∧ _))

theorem far_no (n : Int) (w : World) (h : inC n) : Calls Tryd.prog 70 #[.int .i64 n] w fun e w' => e = .returned (.bool false) ∧ w = w' := by
  obtain ⟨h1, h2⟩ := h
  have t1 : decide (n < -1073741823) = false := by simp; omega
  have t2 : decide (1073741823 < n) = false := by simp; omega
  go_enter Tryd.func70, Tryd.ntmps70
  go_wp2
  go_ret
  exact ⟨rfl, rfl⟩
theorem far_yes (n : Int) (w : World) (h : ¬ inC n) : Calls Tryd.prog 70 #[.int .i64 n] w fun e w' => e = .returned (.bool true) ∧ w = w' := by
  by_cases h1 : n < -1073741823
  · have t1 : decide (n < -1073741823) = true := by simp; omega
    clear h
    go_enter Tryd.func70, Tryd.ntmps70
    go_wp2
    go_ret
    exact ⟨rfl, rfl⟩
  · have t1 : decide (n < -1073741823) = false := by simp; omega
    have t2 : decide (1073741823 < n) = true := by unfold inC at h; simp; omega
    clear h
    go_enter Tryd.func70, Tryd.ntmps70
    go_wp2
    go_ret
    exact ⟨rfl, rfl⟩
end Go.Proofs.YtpmngdgifdkohaaDoor
