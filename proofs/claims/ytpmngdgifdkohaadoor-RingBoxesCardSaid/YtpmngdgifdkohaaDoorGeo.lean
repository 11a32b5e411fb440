/- Segments and rings in plain Lean. -/
import Derived.Test.YtpmngdgifdkohaaDoorInP
namespace Go.Proofs.YtpmngdgifdkohaaDoor

abbrev Pt := Int × Int
/-- may a point be? -/
def okP (p : Pt) : Bool := decide (inP p.1 p.2)
def allP (l : List Pt) : Bool := l.all okP
theorem allP_snoc (l : List Pt) (k : Nat) (h : k < l.length) : allP (l.take (k + 1)) = (allP (l.take k) && okP l[k]) := by
  unfold allP
  rw [List.take_succ_eq_append_getElem h, List.all_append]
  simp
theorem allP_false (l : List Pt) (k : Nat) (h : k < l.length) (hf : okP l[k] = false) : allP l = false := by
  unfold allP
  rw [List.all_eq_false]
  exact ⟨l[k], List.getElem_mem h, by simp [hf]⟩
theorem okP_inP {p : Pt} (h : okP p = true) : inP p.1 p.2 := of_decide_eq_true h

theorem mul_bd (u v M : Int) (h1 : -M ≤ u) (h2 : u ≤ M) (h3 : -M ≤ v) (h4 : v ≤ M) : -(M * M) ≤ u * v ∧ u * v ≤ M * M := by
  have a1 : 0 ≤ (M - u) * (M + v) := Int.mul_nonneg (by omega) (by omega)
  have a2 : 0 ≤ (M + u) * (M - v) := Int.mul_nonneg (by omega) (by omega)
  have a3 : 0 ≤ (M - u) * (M - v) := Int.mul_nonneg (by omega) (by omega)
  have a4 : 0 ≤ (M + u) * (M + v) := Int.mul_nonneg (by omega) (by omega)
  simp only [Int.sub_mul, Int.add_mul, Int.mul_sub, Int.mul_add] at a1 a2 a3 a4
  have e : M * u = u * M := Int.mul_comm _ _
  have e2 : M * v = v * M := Int.mul_comm _ _
  omega

/-- twice the area of three points, with its sign -/
def crs (a b c : Pt) : Int := (b.1 - a.1) * (c.2 - a.2) - (b.2 - a.2) * (c.1 - a.1)
theorem inP_diff {a b : Pt} (ha : inP a.1 a.2) (hb : inP b.1 b.2) : -2147483646 ≤ b.1 - a.1 ∧ b.1 - a.1 ≤ 2147483646 ∧ -2147483646 ≤ b.2 - a.2 ∧ b.2 - a.2 ≤ 2147483646 := by
  obtain ⟨⟨_, _⟩, _, _⟩ := ha
  obtain ⟨⟨_, _⟩, _, _⟩ := hb
  omega
theorem crs_parts {a b c : Pt} (ha : inP a.1 a.2) (hb : inP b.1 b.2) (hc : inP c.1 c.2) :
    (-4611686009837453316 ≤ (b.1 - a.1) * (c.2 - a.2) ∧ (b.1 - a.1) * (c.2 - a.2) ≤ 4611686009837453316) ∧ (-4611686009837453316 ≤ (b.2 - a.2) * (c.1 - a.1) ∧ (b.2 - a.2) * (c.1 - a.1) ≤ 4611686009837453316) := by
  obtain ⟨h1, h2, h3, h4⟩ := inP_diff ha hb
  obtain ⟨k1, k2, k3, k4⟩ := inP_diff ha hc
  have p := mul_bd (b.1 - a.1) (c.2 - a.2) 2147483646 h1 h2 k3 k4
  have q := mul_bd (b.2 - a.2) (c.1 - a.1) 2147483646 h3 h4 k1 k2
  omega
/-- a number's sign -/
def sgn (x : Int) : Int := if x < 0 then -1 else if x = 0 then 0 else 1
theorem sgn_zero {x : Int} : sgn x = 0 ↔ x = 0 := by unfold sgn; split <;> (try split) <;> omega
theorem sgn_pos {x : Int} : 0 < sgn x ↔ 0 < x := by unfold sgn; split <;> (try split) <;> omega
theorem sgn_bd (x : Int) : -1 ≤ sgn x ∧ sgn x ≤ 1 := by unfold sgn; split <;> (try split) <;> omega
/-- is p in the least box that has a and b? -/
def boxB (a b p : Pt) : Bool := decide (min a.1 b.1 ≤ p.1 ∧ p.1 ≤ max a.1 b.1 ∧ min a.2 b.2 ≤ p.2 ∧ p.2 ≤ max a.2 b.2)
/-- is p on the segment from a to b? -/
def onB (a b p : Pt) : Bool := okP a && okP b && okP p && decide (crs a b p = 0) && boxB a b p
def properB (a b c d : Pt) : Bool := decide (sgn (crs a b c) * sgn (crs a b d) < 0) && decide (sgn (crs c d a) * sgn (crs c d b) < 0)
def meetB (a b c d : Pt) : Bool := properB a b c d || onB a b c || onB a b d || onB c d a || onB c d b
theorem properB_comm (a b c d : Pt) : properB a b c d = properB c d a b := by unfold properB; rw [Bool.and_comm]
theorem meetB_comm (a b c d : Pt) : meetB a b c d = meetB c d a b := by
  unfold meetB
  rw [properB_comm]
  cases properB c d a b <;> cases onB a b c <;> cases onB a b d <;> cases onB c d a <;> cases onB c d b <;> rfl

/-- the i-th corner -/
def pt (l : List Pt) (i : Nat) : Pt := l.getD i (0, 0)
theorem pt_get (l : List Pt) (i : Nat) (h : i < l.length) : pt l i = l[i] := by simp [pt, List.getD_eq_getElem?_getD, h]
theorem pt_ok {l : List Pt} (h : allP l = true) {i : Nat} (hi : i < l.length) : okP (pt l i) = true := by
  rw [pt_get l i hi]
  exact List.all_eq_true.1 h _ (List.getElem_mem hi)
/-- the program's test of two edges -/
def spoilB (l : List Pt) (i k : Nat) : Bool :=
  let a := pt l i; let b := pt l ((i + 1) % l.length); let c := pt l k; let d := pt l ((k + 1) % l.length)
  if a = c then true
  else if (i + 1) % l.length = k then onB a b d || onB c d a
  else if (k + 1) % l.length = i then onB c d b || onB a b c
  else meetB a b c d
/-- the first number below n for which f is so -/
def first (f : Nat → Bool) (n : Nat) : Option Nat := (List.range n).find? f
theorem first_some {f : Nat → Bool} {n i : Nat} (hi : i < n) (hf : f i = true) (hb : ∀ j, j < i → f j = false) : first f n = some i := by
  unfold first
  rw [List.find?_range_eq_some]
  refine ⟨hf, by simpa using hi, fun j hj => ?_⟩
  simp [hb j hj]
theorem first_none {f : Nat → Bool} {n : Nat} (hb : ∀ j, j < n → f j = false) : first f n = none := by
  unfold first
  rw [List.find?_range_eq_none]
  intro j hj
  simp [hb j hj]
/-- is there a number below n for which f is so? -/
def anyB (f : Nat → Bool) (n : Nat) : Bool := (List.range n).any f
theorem anyB_true {f : Nat → Bool} {n i : Nat} (hi : i < n) (hf : f i = true) : anyB f n = true := List.any_eq_true.2 ⟨i, by simpa using hi, hf⟩
theorem anyB_false {f : Nat → Bool} {n : Nat} (h : ∀ i, i < n → f i = false) : anyB f n = false := by
  unfold anyB
  rw [List.any_eq_false]
  intro i hi
  simp [h i (by simpa using hi)]
theorem anyB_get {f : Nat → Bool} {n : Nat} (h : anyB f n = true) : ∃ i, i < n ∧ f i = true := by
  obtain ⟨i, hi, hf⟩ := List.any_eq_true.1 h
  exact ⟨i, by simpa using hi, hf⟩
theorem anyB_none {f : Nat → Bool} {n : Nat} (h : anyB f n = false) {i : Nat} (hi : i < n) : f i = false := by
  cases hf : f i with
  | false => rfl
  | true => rw [anyB_true hi hf] at h; cases h

/-- does the program blame the corner i? -/
def badI (l : List Pt) (i : Nat) : Bool := anyB (fun k => decide (k ≠ i) && spoilB l i k) l.length
def strRing : ByteArray := ⟨#[114, 105, 110, 103]⟩
/-- why a ring may not be: what the program says -/
def ringEr (l : List Pt) : Er :=
  if l.length < 3 ∨ 64 < l.length then .fault strRing l.length (.num 3)
  else match first (fun i => !okP (pt l i)) l.length with
    | some i => .fault strRing i (.num 2)
    | none => match first (badI l) l.length with
      | some i => .fault strRing i (.num 4)
      | none => .none
end Go.Proofs.YtpmngdgifdkohaaDoor
