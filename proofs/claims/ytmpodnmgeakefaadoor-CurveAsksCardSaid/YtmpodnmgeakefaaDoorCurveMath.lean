/- The two curves in plain Lean: interleaved bits; Hilbert's curve, there and back, its neighbours and its quarters. -/
import Derived.Test.YtmpodnmgeakefaaDoorChecked
namespace Go.Proofs.YtmpodnmgeakefaaDoor

/-! ### interleaved bits -/
/-- n bits of x and of y, one after the other, the least first -/
def ilv : Nat → Nat → Nat → Nat
  | 0, _, _ => 0
  | n + 1, x, y => x % 2 + 2 * (y % 2) + 4 * ilv n (x / 2) (y / 2)
/-- every second bit, n of them -/
def evb : Nat → Nat → Nat
  | 0, _ => 0
  | n + 1, v => v % 2 + 2 * evb n (v / 4)

theorem ilv_lt : ∀ n x y, ilv n x y < 4 ^ n
  | 0, _, _ => by simp [ilv]
  | n + 1, x, y => by
    have := ilv_lt n (x / 2) (y / 2)
    rw [ilv, Nat.pow_succ]; omega
theorem ilv_top : ∀ n x y, ilv (n + 1) x y = ilv n x y + (x / 2 ^ n % 2) * 4 ^ n + (y / 2 ^ n % 2) * (2 * 4 ^ n)
  | 0, x, y => by simp [ilv]; omega
  | n + 1, x, y => by
    rw [ilv, ilv_top n (x / 2) (y / 2), ilv, Nat.div_div_eq_div_mul, Nat.div_div_eq_div_mul, Nat.mul_comm 2 (2 ^ n), ← Nat.pow_succ, Nat.pow_succ 4 n]
    generalize x / 2 ^ (n + 1) % 2 = a
    generalize y / 2 ^ (n + 1) % 2 = b
    have e1 : a * (4 ^ n * 4) = 4 * (a * 4 ^ n) := by rw [← Nat.mul_assoc]; omega
    have e2 : b * (2 * (4 ^ n * 4)) = 4 * (b * (2 * 4 ^ n)) := by rw [← Nat.mul_assoc 2, ← Nat.mul_assoc b]; omega
    rw [e1, e2]; omega
theorem evb_lt : ∀ n v, evb n v < 2 ^ n
  | 0, _ => by simp [evb]
  | n + 1, v => by
    have := evb_lt n (v / 4)
    rw [evb, Nat.pow_succ]; omega
theorem evb_top : ∀ n v, evb (n + 1) v = evb n v + (v / 4 ^ n % 2) * 2 ^ n
  | 0, v => by simp [evb]
  | n + 1, v => by
    rw [evb, evb_top n (v / 4), evb, Nat.div_div_eq_div_mul, Nat.mul_comm 4 (4 ^ n), ← Nat.pow_succ, Nat.pow_succ 2 n]
    generalize v / 4 ^ (n + 1) % 2 = a
    have e1 : a * (2 ^ n * 2) = 2 * (a * 2 ^ n) := by rw [← Nat.mul_assoc]; omega
    rw [e1]; omega
theorem evb_ilv : ∀ n x y, x < 2 ^ n → evb n (ilv n x y) = x
  | 0, x, y, h => by simp [evb]; simp at h; omega
  | n + 1, x, y, h => by
    rw [Nat.pow_succ] at h
    have ih := evb_ilv n (x / 2) (y / 2) (by omega)
    rw [evb, ilv, show (x % 2 + 2 * (y % 2) + 4 * ilv n (x / 2) (y / 2)) / 4 = ilv n (x / 2) (y / 2) from by omega, ih]
    omega
theorem evb_ilv2 : ∀ n x y, y < 2 ^ n → evb n (ilv n x y / 2) = y
  | 0, x, y, h => by simp [evb]; simp at h; omega
  | n + 1, x, y, h => by
    rw [Nat.pow_succ] at h
    have ih := evb_ilv2 n (x / 2) (y / 2) (by omega)
    rw [evb, ilv, show (x % 2 + 2 * (y % 2) + 4 * ilv n (x / 2) (y / 2)) / 2 / 4 = ilv n (x / 2) (y / 2) / 2 from by omega, ih]
    omega
theorem ilv_evb : ∀ n v, v < 4 ^ n → ilv n (evb n v) (evb n (v / 2)) = v
  | 0, v, h => by simp [ilv]; simp at h; omega
  | n + 1, v, h => by
    rw [Nat.pow_succ] at h
    have ih := ilv_evb n (v / 4) (by omega)
    rw [ilv, evb, evb, show (v % 2 + 2 * evb n (v / 4)) / 2 = evb n (v / 4) from by omega, show (v / 2 % 2 + 2 * evb n (v / 2 / 4)) / 2 = evb n (v / 4 / 2) from by
      rw [show v / 2 / 4 = v / 4 / 2 from by omega]; omega, ih]
    omega
theorem ilv_inj {n x y x' y' : Nat} (hx : x < 2 ^ n) (hy : y < 2 ^ n) (hx' : x' < 2 ^ n) (hy' : y' < 2 ^ n) (h : ilv n x y = ilv n x' y') : x = x' ∧ y = y' := by
  have h1 := evb_ilv n x y hx
  have h2 := evb_ilv2 n x y hy
  rw [h] at h1 h2
  rw [evb_ilv n x' y' hx'] at h1
  rw [evb_ilv2 n x' y' hy'] at h2
  exact ⟨h1.symm, h2.symm⟩
theorem ilv_mono : ∀ n {x y x' y' : Nat}, x ≤ x' → y ≤ y' → x' < 2 ^ n → y' < 2 ^ n → ilv n x y ≤ ilv n x' y'
  | 0, _, _, _, _, _, _, _, _ => by simp [ilv]
  | n + 1, x, y, x', y', hx, hy, hx', hy' => by
    rw [Nat.pow_succ] at hx' hy'
    have ih := ilv_mono n (x := x / 2) (y := y / 2) (x' := x' / 2) (y' := y' / 2) (by omega) (by omega) (by omega) (by omega)
    rw [ilv, ilv]
    rcases Nat.lt_or_eq_of_le ih with h | h
    · omega
    · obtain ⟨e1, e2⟩ := ilv_inj (by omega) (by omega) (by omega) (by omega) h
      rw [h]; omega

/-! ### Hilbert's curve -/
/-- a point's place on the curve of n times n quarters -/
def hil : Nat → Nat → Nat → Nat
  | 0, _, _ => 0
  | n + 1, x, y =>
    if x < 2 ^ n then (if y < 2 ^ n then hil n y x else 4 ^ n + hil n x (y - 2 ^ n))
    else if 2 ^ n ≤ y then 2 * 4 ^ n + hil n (x - 2 ^ n) (y - 2 ^ n) else 3 * 4 ^ n + hil n (2 ^ n - 1 - y) (2 * 2 ^ n - 1 - x)
/-- one quarter more -/
def turnQ (h q : Nat) (p : Nat × Nat) : Nat × Nat :=
  if q = 0 then (p.2, p.1) else if q = 1 then (p.1, p.2 + h) else if q = 2 then (p.1 + h, p.2 + h) else (2 * h - 1 - p.2, h - 1 - p.1)
/-- the point at a place -/
def unh : Nat → Nat → Nat × Nat
  | 0, _ => (0, 0)
  | n + 1, v => turnQ (2 ^ n) (v / 4 ^ n % 4) (unh n v)

theorem turnQ_lt {h q : Nat} {p : Nat × Nat} (h1 : p.1 < h) (h2 : p.2 < h) : (turnQ h q p).1 < h * 2 ∧ (turnQ h q p).2 < h * 2 := by
  unfold turnQ
  repeat' split
  all_goals (constructor <;> simp <;> omega)
theorem unh_lt : ∀ n v, (unh n v).1 < 2 ^ n ∧ (unh n v).2 < 2 ^ n
  | 0, _ => by simp [unh]
  | n + 1, v => by
    rw [unh, Nat.pow_succ]
    exact turnQ_lt (unh_lt n v).1 (unh_lt n v).2
theorem four_pos (n : Nat) : 0 < 4 ^ n := Nat.pow_pos (by omega)
theorem two_pos (n : Nat) : 0 < 2 ^ n := Nat.pow_pos (by omega)
theorem unh_add : ∀ n v k, unh n (v + k * 4 ^ n) = unh n v
  | 0, _, _ => rfl
  | n + 1, v, k => by
    rw [unh, unh]
    have e : v + k * 4 ^ (n + 1) = v + (k * 4) * 4 ^ n := by rw [Nat.pow_succ, Nat.mul_comm (4 ^ n) 4, Nat.mul_assoc]
    rw [e, unh_add n v (k * 4), Nat.add_mul_div_right _ _ (four_pos n)]
    congr 1
    omega
theorem unh_mod (n v : Nat) : unh n v = unh n (v % 4 ^ n) := by
  have := unh_add n (v % 4 ^ n) (v / 4 ^ n)
  rw [← this]
  congr 1
  have := Nat.div_add_mod v (4 ^ n)
  rw [Nat.mul_comm] at this
  omega
theorem hil_lt : ∀ n x y, hil n x y < 4 ^ n
  | 0, _, _ => by simp [hil]
  | n + 1, x, y => by
    rw [hil, Nat.pow_succ]
    have h1 := hil_lt n y x
    have h2 := hil_lt n x (y - 2 ^ n)
    have h3 := hil_lt n (x - 2 ^ n) (y - 2 ^ n)
    have h4 := hil_lt n (2 ^ n - 1 - y) (2 * 2 ^ n - 1 - x)
    repeat' split
    all_goals omega
theorem hil_turn {n q a b : Nat} (hq : q < 4) (ha : a < 2 ^ n) (hb : b < 2 ^ n) : hil (n + 1) (turnQ (2 ^ n) q (a, b)).1 (turnQ (2 ^ n) q (a, b)).2 = q * 4 ^ n + hil n a b := by
  unfold turnQ
  by_cases h0 : q = 0
  · subst h0
    simp only [if_pos, hil]
    rw [if_pos hb, if_pos ha]; omega
  · rw [if_neg h0]
    by_cases h1 : q = 1
    · subst h1
      simp only [if_pos, hil]
      rw [if_pos ha, if_neg (by omega), show b + 2 ^ n - 2 ^ n = b from by omega]; omega
    · rw [if_neg h1]
      by_cases h2 : q = 2
      · subst h2
        simp only [if_pos, hil]
        rw [if_neg (by omega), if_pos (by omega), show b + 2 ^ n - 2 ^ n = b from by omega, show a + 2 ^ n - 2 ^ n = a from by omega]
      · obtain rfl : q = 3 := by omega
        rw [if_neg h2]
        simp only [hil]
        rw [if_neg (by omega), if_neg (by omega), show 2 ^ n - 1 - (2 ^ n - 1 - a) = a from by omega, show 2 * 2 ^ n - 1 - (2 * 2 ^ n - 1 - b) = b from by omega]
theorem hil_unh : ∀ n v, v < 4 ^ n → hil n (unh n v).1 (unh n v).2 = v
  | 0, v, h => by simp [hil]; simp at h; omega
  | n + 1, v, h => by
    rw [Nat.pow_succ] at h
    have hq : v / 4 ^ n < 4 := by rw [Nat.div_lt_iff_lt_mul (four_pos n)]; omega
    have ih := hil_unh n (v % 4 ^ n) (Nat.mod_lt _ (four_pos n))
    rw [← unh_mod] at ih
    obtain ⟨h1, h2⟩ := unh_lt n v
    rw [unh, Nat.mod_eq_of_lt hq]
    have := hil_turn (n := n) hq h1 h2
    rw [this, ih, Nat.mul_comm]
    exact Nat.div_add_mod v (4 ^ n)

/-- two neighbours -/
def nbr (p q : Nat × Nat) : Prop := (p.1 = q.1 ∧ (p.2 + 1 = q.2 ∨ q.2 + 1 = p.2)) ∨ (p.2 = q.2 ∧ (p.1 + 1 = q.1 ∨ q.1 + 1 = p.1))
theorem unh_zero : ∀ n, unh n 0 = (0, 0)
  | 0 => rfl
  | n + 1 => by rw [unh, unh_zero n]; simp [turnQ]
theorem unh_last : ∀ n, unh n (4 ^ n - 1) = (2 ^ n - 1, 0)
  | 0 => rfl
  | n + 1 => by
    have hp := four_pos n
    have h2 := two_pos n
    have e : 4 ^ (n + 1) - 1 = (4 ^ n - 1) + 3 * 4 ^ n := by rw [Nat.pow_succ]; omega
    rw [unh, e, unh_add, unh_last n, Nat.add_mul_div_right _ _ hp, Nat.div_eq_of_lt (by omega)]
    simp [turnQ, Nat.pow_succ]
    omega
theorem nbr_turn {h q : Nat} {p r : Nat × Nat} (hq : q < 4) (h1 : p.1 < h) (h2 : p.2 < h) (h3 : r.1 < h) (h4 : r.2 < h) (hn : nbr p r) : nbr (turnQ h q p) (turnQ h q r) := by
  unfold nbr at *
  unfold turnQ
  repeat' split
  all_goals (simp; omega)
theorem unh_next : ∀ n v, v + 1 < 4 ^ n → nbr (unh n v) (unh n (v + 1))
  | 0, v, h => by simp at h
  | n + 1, v, h => by
    have hp := four_pos n
    have h2 := two_pos n
    have hm := Nat.mod_lt v hp
    have hd := Nat.div_add_mod v (4 ^ n)
    have hq : (v + 1) / 4 ^ n < 4 := by rw [Nat.div_lt_iff_lt_mul hp]; rw [Nat.pow_succ] at h; omega
    generalize hqe : v / 4 ^ n = q at *
    generalize hre : v % 4 ^ n = r at *
    have hv : v = r + q * 4 ^ n := by rw [Nat.mul_comm]; omega
    by_cases hr : r + 1 < 4 ^ n
    · have e : (v + 1) / 4 ^ n = q := by
        rw [show v + 1 = (r + 1) + q * 4 ^ n from by omega, Nat.add_mul_div_right _ _ hp, Nat.div_eq_of_lt hr]; omega
      rw [e] at hq
      have ih := unh_next n r hr
      rw [unh, unh, e, hqe, Nat.mod_eq_of_lt hq]
      refine nbr_turn hq (unh_lt n _).1 (unh_lt n _).2 (unh_lt n _).1 (unh_lt n _).2 ?_
      rw [show v + 1 = (r + 1) + q * 4 ^ n from by omega, unh_add, hv, unh_add]
      exact ih
    · have hr' : r = 4 ^ n - 1 := by omega
      have hm1 : (q + 1) * 4 ^ n = q * 4 ^ n + 4 ^ n := by rw [Nat.add_mul, Nat.one_mul]
      have e : (v + 1) / 4 ^ n = q + 1 := by
        rw [show v + 1 = 0 + (q + 1) * 4 ^ n from by omega, Nat.add_mul_div_right _ _ hp]; simp
      rw [e] at hq
      have e0 : unh n v = (2 ^ n - 1, 0) := by rw [hv, unh_add, hr', unh_last]
      have e1 : unh n (v + 1) = (0, 0) := by
        rw [show v + 1 = 0 + (q + 1) * 4 ^ n from by omega, unh_add, unh_zero]
      rw [unh, unh, e, hqe, Nat.mod_eq_of_lt hq, Nat.mod_eq_of_lt (show q < 4 by omega), e0, e1]
      have : q = 0 ∨ q = 1 ∨ q = 2 := by omega
      rcases this with rfl | rfl | rfl
      all_goals (simp [turnQ, nbr]; try omega)

/-- in which quarter a place's point lies -/
theorem unh_quarter (n v : Nat) (h : v < 4 ^ (n + 1)) :
    (v / 4 ^ n = 0 ↔ (unh (n + 1) v).1 < 2 ^ n ∧ (unh (n + 1) v).2 < 2 ^ n) ∧ (v / 4 ^ n = 1 ↔ (unh (n + 1) v).1 < 2 ^ n ∧ ¬ (unh (n + 1) v).2 < 2 ^ n) ∧
    (v / 4 ^ n = 2 ↔ ¬ (unh (n + 1) v).1 < 2 ^ n ∧ ¬ (unh (n + 1) v).2 < 2 ^ n) ∧ (v / 4 ^ n = 3 ↔ ¬ (unh (n + 1) v).1 < 2 ^ n ∧ (unh (n + 1) v).2 < 2 ^ n) := by
  have hq : v / 4 ^ n < 4 := by rw [Nat.div_lt_iff_lt_mul (four_pos n)]; rw [Nat.pow_succ] at h; omega
  have h2 := two_pos n
  obtain ⟨h3, h4⟩ := unh_lt n v
  rw [unh, Nat.mod_eq_of_lt hq]
  generalize v / 4 ^ n = q at *
  generalize unh n v = p at *
  have : q = 0 ∨ q = 1 ∨ q = 2 ∨ q = 3 := by omega
  rcases this with rfl | rfl | rfl | rfl
  all_goals (simp [turnQ]; try omega)
end Go.Proofs.YtmpodnmgeakefaaDoor
