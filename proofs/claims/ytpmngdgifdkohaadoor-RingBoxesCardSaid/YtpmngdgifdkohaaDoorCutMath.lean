/- A box's corners as a ring, and cut in two: plain Lean. -/
import Derived.Test.YtpmngdgifdkohaaDoorEdgeMath
import Derived.Test.YtpmngdgifdkohaaDoorParab
namespace Go.Proofs.YtpmngdgifdkohaaDoor

def boxL (x0 y0 x1 y1 : Int) : List Pt := [(x0, y0), (x1, y0), (x1, y1), (x0, y1)]
def triS (x0 y0 x1 y1 : Int) : List Pt := [(x0, y0), (x1, y0), (x1, y1)]
def triT (x0 y0 x1 y1 : Int) : List Pt := [(x0, y0), (x1, y1), (x0, y1)]

section
variable {x0 y0 x1 y1 : Int}
theorem area_pos (hx : x0 < x1) (hy : y0 < y1) : 0 < (x1 - x0) * (y1 - y0) := Int.mul_pos (by omega) (by omega)
theorem badP_no {l : List Pt} {i j : Nat} (h1 : i < j → pt l i ≠ pt l j) (h2 : i < j → clashB l i j = false) : badP l i j = false := by
  unfold badP
  by_cases h : i < j
  · rw [decide_eq_true h, decide_eq_false (h1 h), h2 h]; rfl
  · rw [decide_eq_false h]; rfl
theorem clash_next {l : List Pt} {i j k : Nat} (h : j = i + 1) (hk : (j + 1) % l.length = k) (hc : crs (pt l j) (pt l i) (pt l k) ≠ 0) : clashB l i j = false := by
  subst h
  unfold clashB
  simp only
  simp only [if_true]
  rw [hk]
  exact over_no hc
theorem clash_last {l : List Pt} {i j : Nat} (h : ¬ j = i + 1) (h2 : i = 0 ∧ j = l.length - 1) (hc : crs (pt l i) (pt l (i + 1)) (pt l j) ≠ 0) : clashB l i j = false := by
  unfold clashB
  simp only
  rw [if_neg h, if_pos h2]
  exact over_no hc
theorem clash_far {l : List Pt} {i j k : Nat} (h : ¬ j = i + 1) (h2 : ¬ (i = 0 ∧ j = l.length - 1)) (hk : (j + 1) % l.length = k) (c1 : 0 < crs (pt l i) (pt l (i + 1)) (pt l j)) (c2 : 0 < crs (pt l i) (pt l (i + 1)) (pt l k)) (c3 : crs (pt l j) (pt l k) (pt l i) ≠ 0) (c4 : crs (pt l j) (pt l k) (pt l (i + 1)) ≠ 0) : clashB l i j = false := by
  unfold clashB
  simp only
  rw [if_neg h, if_neg h2, hk]
  exact meet_no c1 c2 c3 c4
theorem ne_x {a b c d : Int} (h : a ≠ c) : ((a, b) : Pt) ≠ (c, d) := fun k => h (congrArg Prod.fst k)
theorem ne_y {a b c d : Int} (h : b ≠ d) : ((a, b) : Pt) ≠ (c, d) := fun k => h (congrArg Prod.snd k)

theorem boxL_ring (h0 : inP x0 y0) (h1 : inP x1 y1) (hx : x0 < x1) (hy : y0 < y1) : ringEr (boxL x0 y0 x1 y1) = .none := by
  have hp := area_pos hx hy
  have hall : allP (boxL x0 y0 x1 y1) = true := by
    simp [allP, boxL, okP]
    exact ⟨h0, ⟨h1.1, h0.2⟩, h1, ⟨h0.1, h1.2⟩⟩
  have p0 : pt (boxL x0 y0 x1 y1) 0 = (x0, y0) := rfl
  have p1 : pt (boxL x0 y0 x1 y1) 1 = (x1, y0) := rfl
  have p2 : pt (boxL x0 y0 x1 y1) 2 = (x1, y1) := rfl
  have p3 : pt (boxL x0 y0 x1 y1) 3 = (x0, y1) := rfl
  have m0 : (0 + 1) % (boxL x0 y0 x1 y1).length = 1 := by rw [show (boxL x0 y0 x1 y1).length = 4 from rfl]
  have m1 : (1 + 1) % (boxL x0 y0 x1 y1).length = 2 := by rw [show (boxL x0 y0 x1 y1).length = 4 from rfl]
  have m2 : (2 + 1) % (boxL x0 y0 x1 y1).length = 3 := by rw [show (boxL x0 y0 x1 y1).length = 4 from rfl]
  have m3 : (3 + 1) % (boxL x0 y0 x1 y1).length = 0 := by rw [show (boxL x0 y0 x1 y1).length = 4 from rfl]
  rw [ringEr_res, ringRes_none (show ¬ ((boxL x0 y0 x1 y1).length < 3 ∨ 64 < (boxL x0 y0 x1 y1).length) by simp [boxL]) hall (fun i hi => anyB_false fun j hj => ?_)]
  · rfl
  · replace hi : i < 4 := hi
    replace hj : j < 4 := hj
    have c : (i = 0 ∧ j = 1) ∨ (i = 0 ∧ j = 2) ∨ (i = 0 ∧ j = 3) ∨ (i = 1 ∧ j = 2) ∨ (i = 1 ∧ j = 3) ∨ (i = 2 ∧ j = 3) ∨ ¬ i < j := by omega
    rcases c with ⟨rfl, rfl⟩ | ⟨rfl, rfl⟩ | ⟨rfl, rfl⟩ | ⟨rfl, rfl⟩ | ⟨rfl, rfl⟩ | ⟨rfl, rfl⟩ | c
    · refine badP_no (fun _ => by rw [p0, p1]; exact ne_x (by omega)) fun _ => ?_
      exact clash_next rfl m1 (by rw [p0, p1, p2]; unfold crs; simp only; grind)
    · refine badP_no (fun _ => by rw [p0, p2]; exact ne_x (by omega)) fun _ => ?_
      exact clash_far (by omega) (show ¬ (0 = 0 ∧ 2 = 4 - 1) by omega) m2 (by rw [p0, show pt (boxL x0 y0 x1 y1) (0 + 1) = (x1, y0) from rfl, p2]; unfold crs; simp only; grind) (by rw [p0, show pt (boxL x0 y0 x1 y1) (0 + 1) = (x1, y0) from rfl, p3]; unfold crs; simp only; grind) (by rw [p0, p2, p3]; unfold crs; simp only; grind) (by rw [show pt (boxL x0 y0 x1 y1) (0 + 1) = (x1, y0) from rfl, p2, p3]; unfold crs; simp only; grind)
    · refine badP_no (fun _ => by rw [p0, p3]; exact ne_y (by omega)) fun _ => ?_
      exact clash_last (by omega) ⟨rfl, rfl⟩ (by rw [p0, show pt (boxL x0 y0 x1 y1) (0 + 1) = (x1, y0) from rfl, p3]; unfold crs; simp only; grind)
    · refine badP_no (fun _ => by rw [p1, p2]; exact ne_y (by omega)) fun _ => ?_
      exact clash_next rfl m2 (by rw [p1, p2, p3]; unfold crs; simp only; grind)
    · refine badP_no (fun _ => by rw [p1, p3]; exact ne_x (by omega)) fun _ => ?_
      exact clash_far (by omega) (show ¬ (1 = 0 ∧ 3 = 4 - 1) by omega) m3 (by rw [p1, show pt (boxL x0 y0 x1 y1) (1 + 1) = (x1, y1) from rfl, p3]; unfold crs; simp only; grind) (by rw [p1, show pt (boxL x0 y0 x1 y1) (1 + 1) = (x1, y1) from rfl, p0]; unfold crs; simp only; grind) (by rw [p1, p3, p0]; unfold crs; simp only; grind) (by rw [show pt (boxL x0 y0 x1 y1) (1 + 1) = (x1, y1) from rfl, p3, p0]; unfold crs; simp only; grind)
    · refine badP_no (fun _ => by rw [p2, p3]; exact ne_x (by omega)) fun _ => ?_
      exact clash_next rfl m3 (by rw [p2, p3, p0]; unfold crs; simp only; grind)
    · exact badP_no (fun h => absurd h c) (fun h => absurd h c)
theorem triS_ring (h0 : inP x0 y0) (h1 : inP x1 y1) (hx : x0 < x1) (hy : y0 < y1) : ringEr (triS x0 y0 x1 y1) = .none := by
  have hp := area_pos hx hy
  have hall : allP (triS x0 y0 x1 y1) = true := by
    simp [allP, triS, okP]
    exact ⟨h0, ⟨h1.1, h0.2⟩, h1⟩
  have p0 : pt (triS x0 y0 x1 y1) 0 = (x0, y0) := rfl
  have p1 : pt (triS x0 y0 x1 y1) 1 = (x1, y0) := rfl
  have p2 : pt (triS x0 y0 x1 y1) 2 = (x1, y1) := rfl
  have m0 : (0 + 1) % (triS x0 y0 x1 y1).length = 1 := by rw [show (triS x0 y0 x1 y1).length = 3 from rfl]
  have m1 : (1 + 1) % (triS x0 y0 x1 y1).length = 2 := by rw [show (triS x0 y0 x1 y1).length = 3 from rfl]
  have m2 : (2 + 1) % (triS x0 y0 x1 y1).length = 0 := by rw [show (triS x0 y0 x1 y1).length = 3 from rfl]
  rw [ringEr_res, ringRes_none (show ¬ ((triS x0 y0 x1 y1).length < 3 ∨ 64 < (triS x0 y0 x1 y1).length) by simp [triS]) hall (fun i hi => anyB_false fun j hj => ?_)]
  · rfl
  · replace hi : i < 3 := hi
    replace hj : j < 3 := hj
    have c : (i = 0 ∧ j = 1) ∨ (i = 0 ∧ j = 2) ∨ (i = 1 ∧ j = 2) ∨ ¬ i < j := by omega
    rcases c with ⟨rfl, rfl⟩ | ⟨rfl, rfl⟩ | ⟨rfl, rfl⟩ | c
    · refine badP_no (fun _ => by rw [p0, p1]; exact ne_x (by omega)) fun _ => ?_
      exact clash_next rfl m1 (by rw [p0, p1, p2]; unfold crs; simp only; grind)
    · refine badP_no (fun _ => by rw [p0, p2]; exact ne_x (by omega)) fun _ => ?_
      exact clash_last (by omega) ⟨rfl, rfl⟩ (by rw [p0, show pt (triS x0 y0 x1 y1) (0 + 1) = (x1, y0) from rfl, p2]; unfold crs; simp only; grind)
    · refine badP_no (fun _ => by rw [p1, p2]; exact ne_y (by omega)) fun _ => ?_
      exact clash_next rfl m2 (by rw [p1, p2, p0]; unfold crs; simp only; grind)
    · exact badP_no (fun h => absurd h c) (fun h => absurd h c)
theorem triT_ring (h0 : inP x0 y0) (h1 : inP x1 y1) (hx : x0 < x1) (hy : y0 < y1) : ringEr (triT x0 y0 x1 y1) = .none := by
  have hp := area_pos hx hy
  have hall : allP (triT x0 y0 x1 y1) = true := by
    simp [allP, triT, okP]
    exact ⟨h0, h1, ⟨h0.1, h1.2⟩⟩
  have p0 : pt (triT x0 y0 x1 y1) 0 = (x0, y0) := rfl
  have p1 : pt (triT x0 y0 x1 y1) 1 = (x1, y1) := rfl
  have p2 : pt (triT x0 y0 x1 y1) 2 = (x0, y1) := rfl
  have m0 : (0 + 1) % (triT x0 y0 x1 y1).length = 1 := by rw [show (triT x0 y0 x1 y1).length = 3 from rfl]
  have m1 : (1 + 1) % (triT x0 y0 x1 y1).length = 2 := by rw [show (triT x0 y0 x1 y1).length = 3 from rfl]
  have m2 : (2 + 1) % (triT x0 y0 x1 y1).length = 0 := by rw [show (triT x0 y0 x1 y1).length = 3 from rfl]
  rw [ringEr_res, ringRes_none (show ¬ ((triT x0 y0 x1 y1).length < 3 ∨ 64 < (triT x0 y0 x1 y1).length) by simp [triT]) hall (fun i hi => anyB_false fun j hj => ?_)]
  · rfl
  · replace hi : i < 3 := hi
    replace hj : j < 3 := hj
    have c : (i = 0 ∧ j = 1) ∨ (i = 0 ∧ j = 2) ∨ (i = 1 ∧ j = 2) ∨ ¬ i < j := by omega
    rcases c with ⟨rfl, rfl⟩ | ⟨rfl, rfl⟩ | ⟨rfl, rfl⟩ | c
    · refine badP_no (fun _ => by rw [p0, p1]; exact ne_x (by omega)) fun _ => ?_
      exact clash_next rfl m1 (by rw [p0, p1, p2]; unfold crs; simp only; grind)
    · refine badP_no (fun _ => by rw [p0, p2]; exact ne_y (by omega)) fun _ => ?_
      exact clash_last (by omega) ⟨rfl, rfl⟩ (by rw [p0, show pt (triT x0 y0 x1 y1) (0 + 1) = (x1, y1) from rfl, p2]; unfold crs; simp only; grind)
    · refine badP_no (fun _ => by rw [p1, p2]; exact ne_x (by omega)) fun _ => ?_
      exact clash_next rfl m2 (by rw [p1, p2, p0]; unfold crs; simp only; grind)
    · exact badP_no (fun h => absurd h c) (fun h => absurd h c)

theorem mul_le_iff {k a b : Int} (hk : 0 < k) : k * a ≤ k * b ↔ a ≤ b := by
  constructor
  · intro h
    exact Int.not_lt.1 fun hl => by
      have := Int.mul_lt_mul_of_pos_left hl hk
      omega
  · intro h
    exact Int.mul_le_mul_of_nonneg_left h (by omega)

/-- where a point lies, by products -/
structure Pos (x0 y0 x1 y1 px py P Q A : Int) : Prop where
  v0 : y0 ≤ py ↔ 0 ≤ P
  v1 : py ≤ y1 ↔ P ≤ A
  v0' : py ≤ y0 ↔ P ≤ 0
  v1' : y1 ≤ py ↔ A ≤ P
  u0 : x0 ≤ px ↔ 0 ≤ Q
  u1 : px ≤ x1 ↔ Q ≤ A
  u0' : px ≤ x0 ↔ Q ≤ 0
  u1' : x1 ≤ px ↔ A ≤ Q
  a : 0 < A
theorem pos_of (hx : x0 < x1) (hy : y0 < y1) (px py : Int) : Pos x0 y0 x1 y1 px py ((x1 - x0) * (py - y0)) ((y1 - y0) * (px - x0)) ((x1 - x0) * (y1 - y0)) := by
  have hw : 0 < x1 - x0 := by omega
  have hh : 0 < y1 - y0 := by omega
  have z : ∀ k : Int, k * 0 = 0 := fun k => Int.mul_zero k
  have e : (x1 - x0) * (y1 - y0) = (y1 - y0) * (x1 - x0) := Int.mul_comm _ _
  refine ⟨?_, ?_, ?_, ?_, ?_, ?_, ?_, ?_, area_pos hx hy⟩
  · rw [← z (x1 - x0), mul_le_iff hw]; omega
  · rw [mul_le_iff hw]; omega
  · rw [← z (x1 - x0), mul_le_iff hw]; omega
  · rw [mul_le_iff hw]; omega
  · rw [← z (y1 - y0), mul_le_iff hh]; omega
  · rw [e, mul_le_iff hh]; omega
  · rw [← z (y1 - y0), mul_le_iff hh]; omega
  · rw [e, mul_le_iff hh]; omega

variable {px py : Int}
theorem on_ok {a b p : Pt} (ha : okP a = true) (hb : okP b = true) (hp : okP p = true) : onB a b p = (decide (crs a b p = 0) && boxB a b p) := by
  unfold onB
  rw [ha, hb, hp]; rfl
theorem any3 (f : Nat → Bool) : anyB f 3 = (f 0 || (f 1 || f 2)) := by
  have : anyB f 3 = (f 0 || (f 1 || (f 2 || false))) := rfl
  rw [this, Bool.or_false]
theorem any4 (f : Nat → Bool) : anyB f 4 = (f 0 || (f 1 || (f 2 || f 3))) := by
  have : anyB f 4 = (f 0 || (f 1 || (f 2 || (f 3 || false)))) := rfl
  rw [this, Bool.or_false]

theorem xor_dec {p q : Prop} [Decidable p] [Decidable q] (h : q → p) : (decide p ^^ decide q) = decide (p ∧ ¬ q) := by
  by_cases hp : p <;> by_cases hq : q <;> simp [hp, hq]
  exact absurd (h hq) hp
theorem xor_dec' {p q : Prop} [Decidable p] [Decidable q] (h : q → p) : (decide q ^^ decide p) = decide (p ∧ ¬ q) := by rw [Bool.xor_comm, xor_dec h]
theorem hasS (h0 : inP x0 y0) (h1 : inP x1 y1) (hx : x0 < x1) (hy : y0 < y1) (hp : inP px py) :
    hasE (triS x0 y0 x1 y1) (px, py) = decide (x0 ≤ px ∧ px ≤ x1 ∧ y0 ≤ py ∧ py ≤ y1 ∧ crs (x0, y0) (x1, y1) (px, py) ≤ 0) := by
  have o0 : okP (x0, y0) = true := decide_eq_true h0
  have o1 : okP (x1, y0) = true := decide_eq_true ⟨h1.1, h0.2⟩
  have o2 : okP (x1, y1) = true := decide_eq_true h1
  have o3 : okP (x0, y1) = true := decide_eq_true ⟨h0.1, h1.2⟩
  have op : okP (px, py) = true := decide_eq_true hp
  have E : edgeB (triS x0 y0 x1 y1) (px, py) = (onB (x0, y0) (x1, y0) (px, py) || (onB (x1, y0) (x1, y1) (px, py) || onB (x1, y1) (x0, y0) (px, py))) := by
    rw [show edgeB (triS x0 y0 x1 y1) (px, py) = anyB (edgeAt (triS x0 y0 x1 y1) (px, py)) 3 from rfl, any3]
    unfold edgeAt
    simp only [show (2 + 1) % (triS x0 y0 x1 y1).length = 0 by rw [show (triS x0 y0 x1 y1).length = 3 from rfl]]
    rfl
  have X : crossTo (triS x0 y0 x1 y1) (px, py) 3 = ((crossAt (triS x0 y0 x1 y1) (px, py) 0 ^^ crossAt (triS x0 y0 x1 y1) (px, py) 1) ^^ crossAt (triS x0 y0 x1 y1) (px, py) 2) := by
    rw [crossTo_par]
    simp [Jord.par]
  have X0 : crossAt (triS x0 y0 x1 y1) (px, py) 0 = (if y0 < y0 then decide (y0 ≤ py) && (decide (py < y0) && decide (0 < crs (x1, y0) (x0, y0) (px, py))) else decide (y0 ≤ py) && (decide (py < y0) && decide (0 < crs (x0, y0) (x1, y0) (px, py)))) := rfl
  rw [if_neg (by omega)] at X0
  have X1 : crossAt (triS x0 y0 x1 y1) (px, py) 1 = (if y1 < y0 then decide (y1 ≤ py) && (decide (py < y0) && decide (0 < crs (x1, y1) (x1, y0) (px, py))) else decide (y0 ≤ py) && (decide (py < y1) && decide (0 < crs (x1, y0) (x1, y1) (px, py)))) := rfl
  rw [if_neg (by omega)] at X1
  have X2 : crossAt (triS x0 y0 x1 y1) (px, py) 2 = (if y0 < y1 then decide (y0 ≤ py) && (decide (py < y1) && decide (0 < crs (x0, y0) (x1, y1) (px, py))) else decide (y1 ≤ py) && (decide (py < y0) && decide (0 < crs (x1, y1) (x0, y0) (px, py)))) := by
    unfold crossAt
    simp only [show (2 + 1) % (triS x0 y0 x1 y1).length = 0 by rw [show (triS x0 y0 x1 y1).length = 3 from rfl]]
    rfl
  rw [if_pos hy] at X2
  have ps := pos_of hx hy px py
  have c0 : crs (x0, y0) (x1, y0) (px, py) = (x1 - x0) * (py - y0) := by unfold crs; simp only; grind
  have c1 : crs (x1, y0) (x1, y1) (px, py) = (x1 - x0) * (y1 - y0) - (y1 - y0) * (px - x0) := by unfold crs; simp only; grind
  have c2 : crs (x1, y1) (x0, y0) (px, py) = (y1 - y0) * (px - x0) - (x1 - x0) * (py - y0) := by unfold crs; simp only; grind
  have c3 : crs (x0, y0) (x1, y1) (px, py) = (x1 - x0) * (py - y0) - (y1 - y0) * (px - x0) := rfl
  unfold hasE
  rw [ringOk_yes (triS_ring h0 h1 hx hy), op, E, show (triS x0 y0 x1 y1).length = 3 from rfl, X, on_ok o0 o1 op, on_ok o1 o2 op, on_ok o2 o0 op]
  rw [c0, c1, c2, c3]
  have X0' : crossAt (triS x0 y0 x1 y1) (px, py) 0 = false := by
    rw [X0, ← Bool.and_assoc, show (decide (y0 ≤ py) && decide (py < y0)) = false by rw [← Bool.decide_and]; exact decide_eq_false (by omega), Bool.false_and]
  rw [c1] at X1
  rw [c3] at X2
  rw [X0', X1, X2]
  unfold boxB
  simp only
  clear X0 X1 X2 X0' X E c0 c1 c2 c3 o0 o1 o2 o3 op h0 h1 hp
  generalize (x1 - x0) * (py - y0) = P at *
  generalize (y1 - y0) * (px - x0) = Q at *
  generalize (x1 - x0) * (y1 - y0) = A at *
  obtain ⟨a1, a2, a3, a4, b1, b2, b3, b4, ha⟩ := ps
  simp only [← Bool.decide_and, ← Bool.decide_or, Bool.true_and, Bool.false_xor]
  rw [xor_dec (by omega)]
  simp only [← Bool.decide_or]
  exact decide_eq_decide.2 (by omega)
theorem hasT (h0 : inP x0 y0) (h1 : inP x1 y1) (hx : x0 < x1) (hy : y0 < y1) (hp : inP px py) :
    hasE (triT x0 y0 x1 y1) (px, py) = decide (x0 ≤ px ∧ px ≤ x1 ∧ y0 ≤ py ∧ py ≤ y1 ∧ 0 ≤ crs (x0, y0) (x1, y1) (px, py)) := by
  have o0 : okP (x0, y0) = true := decide_eq_true h0
  have o1 : okP (x1, y0) = true := decide_eq_true ⟨h1.1, h0.2⟩
  have o2 : okP (x1, y1) = true := decide_eq_true h1
  have o3 : okP (x0, y1) = true := decide_eq_true ⟨h0.1, h1.2⟩
  have op : okP (px, py) = true := decide_eq_true hp
  have E : edgeB (triT x0 y0 x1 y1) (px, py) = (onB (x0, y0) (x1, y1) (px, py) || (onB (x1, y1) (x0, y1) (px, py) || onB (x0, y1) (x0, y0) (px, py))) := by
    rw [show edgeB (triT x0 y0 x1 y1) (px, py) = anyB (edgeAt (triT x0 y0 x1 y1) (px, py)) 3 from rfl, any3]
    unfold edgeAt
    simp only [show (2 + 1) % (triT x0 y0 x1 y1).length = 0 by rw [show (triT x0 y0 x1 y1).length = 3 from rfl]]
    rfl
  have X : crossTo (triT x0 y0 x1 y1) (px, py) 3 = ((crossAt (triT x0 y0 x1 y1) (px, py) 0 ^^ crossAt (triT x0 y0 x1 y1) (px, py) 1) ^^ crossAt (triT x0 y0 x1 y1) (px, py) 2) := by
    rw [crossTo_par]
    simp [Jord.par]
  have X0 : crossAt (triT x0 y0 x1 y1) (px, py) 0 = (if y1 < y0 then decide (y1 ≤ py) && (decide (py < y0) && decide (0 < crs (x1, y1) (x0, y0) (px, py))) else decide (y0 ≤ py) && (decide (py < y1) && decide (0 < crs (x0, y0) (x1, y1) (px, py)))) := rfl
  rw [if_neg (by omega)] at X0
  have X1 : crossAt (triT x0 y0 x1 y1) (px, py) 1 = (if y1 < y1 then decide (y1 ≤ py) && (decide (py < y1) && decide (0 < crs (x0, y1) (x1, y1) (px, py))) else decide (y1 ≤ py) && (decide (py < y1) && decide (0 < crs (x1, y1) (x0, y1) (px, py)))) := rfl
  rw [if_neg (by omega)] at X1
  have X2 : crossAt (triT x0 y0 x1 y1) (px, py) 2 = (if y0 < y1 then decide (y0 ≤ py) && (decide (py < y1) && decide (0 < crs (x0, y0) (x0, y1) (px, py))) else decide (y1 ≤ py) && (decide (py < y0) && decide (0 < crs (x0, y1) (x0, y0) (px, py)))) := by
    unfold crossAt
    simp only [show (2 + 1) % (triT x0 y0 x1 y1).length = 0 by rw [show (triT x0 y0 x1 y1).length = 3 from rfl]]
    rfl
  rw [if_pos hy] at X2
  have ps := pos_of hx hy px py
  have c0 : crs (x0, y0) (x1, y1) (px, py) = (x1 - x0) * (py - y0) - (y1 - y0) * (px - x0) := rfl
  have c1 : crs (x1, y1) (x0, y1) (px, py) = (x1 - x0) * (y1 - y0) - (x1 - x0) * (py - y0) := by unfold crs; simp only; grind
  have c2 : crs (x0, y1) (x0, y0) (px, py) = (y1 - y0) * (px - x0) := by unfold crs; simp only; grind
  have c3 : crs (x0, y0) (x0, y1) (px, py) = - ((y1 - y0) * (px - x0)) := by unfold crs; simp only; grind
  unfold hasE
  rw [ringOk_yes (triT_ring h0 h1 hx hy), op, E, show (triT x0 y0 x1 y1).length = 3 from rfl, X, on_ok o0 o2 op, on_ok o2 o3 op, on_ok o3 o0 op]
  rw [c0, c1, c2]
  rw [c0] at X0
  have X1' : crossAt (triT x0 y0 x1 y1) (px, py) 1 = false := by
    rw [X1, ← Bool.and_assoc, show (decide (y1 ≤ py) && decide (py < y1)) = false by rw [← Bool.decide_and]; exact decide_eq_false (by omega), Bool.false_and]
  rw [c3] at X2
  rw [X0, X1', X2]
  unfold boxB
  simp only
  clear X0 X1 X2 X1' X E c0 c1 c2 c3 o0 o1 o2 o3 op h0 h1 hp
  generalize (x1 - x0) * (py - y0) = P at *
  generalize (y1 - y0) * (px - x0) = Q at *
  generalize (x1 - x0) * (y1 - y0) = A at *
  obtain ⟨a1, a2, a3, a4, b1, b2, b3, b4, ha⟩ := ps
  simp only [← Bool.decide_and, ← Bool.decide_or, Bool.true_and, Bool.xor_false]
  rw [xor_dec (by omega)]
  simp only [← Bool.decide_or]
  exact decide_eq_decide.2 (by omega)
theorem hasC (h0 : inP x0 y0) (h1 : inP x1 y1) (hx : x0 < x1) (hy : y0 < y1) (hp : inP px py) :
    hasE (boxL x0 y0 x1 y1) (px, py) = decide (x0 ≤ px ∧ px ≤ x1 ∧ y0 ≤ py ∧ py ≤ y1) := by
  have o0 : okP (x0, y0) = true := decide_eq_true h0
  have o1 : okP (x1, y0) = true := decide_eq_true ⟨h1.1, h0.2⟩
  have o2 : okP (x1, y1) = true := decide_eq_true h1
  have o3 : okP (x0, y1) = true := decide_eq_true ⟨h0.1, h1.2⟩
  have op : okP (px, py) = true := decide_eq_true hp
  have E : edgeB (boxL x0 y0 x1 y1) (px, py) = (onB (x0, y0) (x1, y0) (px, py) || (onB (x1, y0) (x1, y1) (px, py) || (onB (x1, y1) (x0, y1) (px, py) || onB (x0, y1) (x0, y0) (px, py)))) := by
    rw [show edgeB (boxL x0 y0 x1 y1) (px, py) = anyB (edgeAt (boxL x0 y0 x1 y1) (px, py)) 4 from rfl, any4]
    unfold edgeAt
    simp only [show (3 + 1) % (boxL x0 y0 x1 y1).length = 0 by rw [show (boxL x0 y0 x1 y1).length = 4 from rfl]]
    rfl
  have X : crossTo (boxL x0 y0 x1 y1) (px, py) 4 = (((crossAt (boxL x0 y0 x1 y1) (px, py) 0 ^^ crossAt (boxL x0 y0 x1 y1) (px, py) 1) ^^ crossAt (boxL x0 y0 x1 y1) (px, py) 2) ^^ crossAt (boxL x0 y0 x1 y1) (px, py) 3) := by
    rw [crossTo_par]
    simp [Jord.par]
  have X0 : crossAt (boxL x0 y0 x1 y1) (px, py) 0 = (if y0 < y0 then decide (y0 ≤ py) && (decide (py < y0) && decide (0 < crs (x1, y0) (x0, y0) (px, py))) else decide (y0 ≤ py) && (decide (py < y0) && decide (0 < crs (x0, y0) (x1, y0) (px, py)))) := rfl
  rw [if_neg (by omega)] at X0
  have X1 : crossAt (boxL x0 y0 x1 y1) (px, py) 1 = (if y1 < y0 then decide (y1 ≤ py) && (decide (py < y0) && decide (0 < crs (x1, y1) (x1, y0) (px, py))) else decide (y0 ≤ py) && (decide (py < y1) && decide (0 < crs (x1, y0) (x1, y1) (px, py)))) := rfl
  rw [if_neg (by omega)] at X1
  have X2 : crossAt (boxL x0 y0 x1 y1) (px, py) 2 = (if y1 < y1 then decide (y1 ≤ py) && (decide (py < y1) && decide (0 < crs (x0, y1) (x1, y1) (px, py))) else decide (y1 ≤ py) && (decide (py < y1) && decide (0 < crs (x1, y1) (x0, y1) (px, py)))) := rfl
  rw [if_neg (by omega)] at X2
  have X3 : crossAt (boxL x0 y0 x1 y1) (px, py) 3 = (if y0 < y1 then decide (y0 ≤ py) && (decide (py < y1) && decide (0 < crs (x0, y0) (x0, y1) (px, py))) else decide (y1 ≤ py) && (decide (py < y0) && decide (0 < crs (x0, y1) (x0, y0) (px, py)))) := by
    unfold crossAt
    simp only [show (3 + 1) % (boxL x0 y0 x1 y1).length = 0 by rw [show (boxL x0 y0 x1 y1).length = 4 from rfl]]
    rfl
  rw [if_pos hy] at X3
  have ps := pos_of hx hy px py
  have c0 : crs (x0, y0) (x1, y0) (px, py) = (x1 - x0) * (py - y0) := by unfold crs; simp only; grind
  have c1 : crs (x1, y0) (x1, y1) (px, py) = (x1 - x0) * (y1 - y0) - (y1 - y0) * (px - x0) := by unfold crs; simp only; grind
  have c2 : crs (x1, y1) (x0, y1) (px, py) = (x1 - x0) * (y1 - y0) - (x1 - x0) * (py - y0) := by unfold crs; simp only; grind
  have c3 : crs (x0, y1) (x0, y0) (px, py) = (y1 - y0) * (px - x0) := by unfold crs; simp only; grind
  have c4 : crs (x0, y0) (x0, y1) (px, py) = - ((y1 - y0) * (px - x0)) := by unfold crs; simp only; grind
  unfold hasE
  rw [ringOk_yes (boxL_ring h0 h1 hx hy), op, E, show (boxL x0 y0 x1 y1).length = 4 from rfl, X, on_ok o0 o1 op, on_ok o1 o2 op, on_ok o2 o3 op, on_ok o3 o0 op]
  rw [c0, c1, c2, c3]
  have X0' : crossAt (boxL x0 y0 x1 y1) (px, py) 0 = false := by
    rw [X0, ← Bool.and_assoc, show (decide (y0 ≤ py) && decide (py < y0)) = false by rw [← Bool.decide_and]; exact decide_eq_false (by omega), Bool.false_and]
  rw [c1] at X1
  have X2' : crossAt (boxL x0 y0 x1 y1) (px, py) 2 = false := by
    rw [X2, ← Bool.and_assoc, show (decide (y1 ≤ py) && decide (py < y1)) = false by rw [← Bool.decide_and]; exact decide_eq_false (by omega), Bool.false_and]
  rw [c4] at X3
  rw [X0', X1, X2', X3]
  unfold boxB
  simp only
  clear X0 X1 X2 X3 X0' X2' X E c0 c1 c2 c3 c4 o0 o1 o2 o3 op h0 h1 hp
  generalize (x1 - x0) * (py - y0) = P at *
  generalize (y1 - y0) * (px - x0) = Q at *
  generalize (x1 - x0) * (y1 - y0) = A at *
  obtain ⟨a1, a2, a3, a4, b1, b2, b3, b4, ha⟩ := ps
  simp only [← Bool.decide_and, ← Bool.decide_or, Bool.true_and, Bool.false_xor, Bool.xor_false]
  rw [xor_dec (by omega)]
  simp only [← Bool.decide_or]
  exact decide_eq_decide.2 (by omega)
/-- the areas -/
theorem areaS : areaC (triS x0 y0 x1 y1) = (x1 - x0) * (y1 - y0) := by
  rw [← areaTo_C (show 0 < (triS x0 y0 x1 y1).length by simp [triS])]
  have e : areaTo (triS x0 y0 x1 y1) 3 = 0 + crs (x0, y0) (x0, y0) (x1, y0) + crs (x0, y0) (x1, y0) (x1, y1) + crs (x0, y0) (x1, y1) (pt (triS x0 y0 x1 y1) ((2 + 1) % (triS x0 y0 x1 y1).length)) := rfl
  rw [show (2 + 1) % (triS x0 y0 x1 y1).length = 0 by rw [show (triS x0 y0 x1 y1).length = 3 from rfl], show pt (triS x0 y0 x1 y1) 0 = (x0, y0) from rfl] at e
  rw [show (triS x0 y0 x1 y1).length = 3 from rfl, e]
  unfold crs
  simp only
  grind
theorem areaT : areaC (triT x0 y0 x1 y1) = (x1 - x0) * (y1 - y0) := by
  rw [← areaTo_C (show 0 < (triT x0 y0 x1 y1).length by simp [triT])]
  have e : areaTo (triT x0 y0 x1 y1) 3 = 0 + crs (x0, y0) (x0, y0) (x1, y1) + crs (x0, y0) (x1, y1) (x0, y1) + crs (x0, y0) (x0, y1) (pt (triT x0 y0 x1 y1) ((2 + 1) % (triT x0 y0 x1 y1).length)) := rfl
  rw [show (2 + 1) % (triT x0 y0 x1 y1).length = 0 by rw [show (triT x0 y0 x1 y1).length = 3 from rfl], show pt (triT x0 y0 x1 y1) 0 = (x0, y0) from rfl] at e
  rw [show (triT x0 y0 x1 y1).length = 3 from rfl, e]
  unfold crs
  simp only
  grind
theorem areaB : areaC (boxL x0 y0 x1 y1) = (x1 - x0) * (y1 - y0) + (x1 - x0) * (y1 - y0) := by
  rw [← areaTo_C (show 0 < (boxL x0 y0 x1 y1).length by simp [boxL])]
  have e : areaTo (boxL x0 y0 x1 y1) 4 = 0 + crs (x0, y0) (x0, y0) (x1, y0) + crs (x0, y0) (x1, y0) (x1, y1) + crs (x0, y0) (x1, y1) (x0, y1) + crs (x0, y0) (x0, y1) (pt (boxL x0 y0 x1 y1) ((3 + 1) % (boxL x0 y0 x1 y1).length)) := rfl
  rw [show (3 + 1) % (boxL x0 y0 x1 y1).length = 0 by rw [show (boxL x0 y0 x1 y1).length = 4 from rfl], show pt (boxL x0 y0 x1 y1) 0 = (x0, y0) from rfl] at e
  rw [show (boxL x0 y0 x1 y1).length = 4 from rfl, e]
  unfold crs
  simp only
  grind
theorem twice_val2 {l : List Pt} {a : Int} (h : ringEr l = .none) (ha : areaC l = a) (hp : 0 < a) : twiceE l = a ∧ leftE l = true ∧ a < 9223372036854775808 := by
  obtain ⟨e, n, b1, b2⟩ := areaV_ok h
  unfold twiceE leftE
  rw [ringOk_yes h, e, ha]
  unfold absU
  simp only [if_true]
  exact ⟨if_neg (by omega), by rw [decide_eq_true hp]; rfl, by omega⟩
end
end Go.Proofs.YtpmngdgifdkohaaDoor
