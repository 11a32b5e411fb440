/- Corners on a parabola are a ring: plain Lean. -/
import Derived.Test.YtpmngdgifdkohaaDoorAwake5
namespace Go.Proofs.YtpmngdgifdkohaaDoor

/-- the k-th corner -/
def parP (k : Nat) : Pt := (10 * (k : Int), 10 * (k : Int) * (k : Int))
def parab (n : Nat) : List Pt := (List.range n).map parP
theorem parab_len (n : Nat) : (parab n).length = n := by simp [parab]
theorem parab_pt {n i : Nat} (h : i < n) : pt (parab n) i = parP i := by
  rw [pt_get _ _ (by rw [parab_len]; exact h)]
  simp [parab]
theorem parab_snoc (n : Nat) : parab (n + 1) = parab n ++ [parP n] := by simp [parab, List.range_succ]
theorem parP_bd {k : Nat} (h : k ≤ 70) : inP (parP k).1 (parP k).2 := by
  have h1 : (k : Int) * (k : Int) ≤ 70 * 70 := Int.mul_le_mul (by omega) (by omega) (by omega) (by omega)
  have h2 : 0 ≤ (k : Int) * (k : Int) := Int.mul_nonneg (by omega) (by omega)
  unfold parP
  simp only [Int.mul_assoc]
  exact ⟨⟨by omega, by omega⟩, by omega, by omega⟩
theorem parab_ok {n : Nat} (h : n ≤ 70) : allP (parab n) = true := by
  unfold allP parab
  rw [List.all_eq_true]
  intro p hp
  obtain ⟨k, hk, rfl⟩ := List.mem_map.1 hp
  exact decide_eq_true (parP_bd (by have := List.mem_range.1 hk; omega))
theorem crs_parP (i j k : Nat) : crs (parP i) (parP j) (parP k) = 100 * ((((j : Int) - i) * ((k : Int) - i)) * ((k : Int) - j)) := by
  unfold crs parP
  simp only
  generalize (i : Int) = a
  generalize (j : Int) = b
  generalize (k : Int) = c
  have sq : ∀ x : Int, 10 * x * x - 10 * a * a = 10 * ((x - a) * (x + a)) := fun x => by
    have e : x * a = a * x := Int.mul_comm _ _
    simp only [Int.sub_mul, Int.mul_add, Int.mul_assoc]
    omega
  have tt : ∀ x y : Int, (10 * x) * (10 * y) = 100 * (x * y) := fun x y => by
    rw [Int.mul_assoc, Int.mul_left_comm x, ← Int.mul_assoc]; rfl
  have l1 : 10 * b - 10 * a = 10 * (b - a) := by omega
  have l2 : 10 * c - 10 * a = 10 * (c - a) := by omega
  have l3 : c - b = (c + a) - (b + a) := by omega
  rw [sq, sq, l1, l2, tt, tt, l3, ← Int.mul_assoc (b - a), Int.mul_right_comm (b - a) (b + a)]
  generalize (b - a) * (c - a) = p
  rw [Int.mul_sub p]
  omega
theorem crs_pos {i j k : Nat} (h1 : i < j) (h2 : j < k) : 0 < crs (parP i) (parP j) (parP k) := by
  rw [crs_parP]
  have := Int.mul_pos (Int.mul_pos (show 0 < (j : Int) - i by omega) (show 0 < (k : Int) - i by omega)) (show 0 < (k : Int) - j by omega)
  omega
theorem crs_cyc (a b c : Pt) : crs a b c = crs b c a := by
  rw [crs_flip a b c, crs_turn b c a]
theorem on_crs {a b p : Pt} (h : crs a b p ≠ 0) : onB a b p = false := by unfold onB; rw [decide_eq_false h]; simp
theorem meet_no {a b c d : Pt} (h1 : 0 < crs a b c) (h2 : 0 < crs a b d) (h3 : crs c d a ≠ 0) (h4 : crs c d b ≠ 0) : meetB a b c d = false := by
  unfold meetB properB
  have s1 : sgn (crs a b c) = 1 := by unfold sgn; rw [if_neg (by omega), if_neg (by omega)]
  have s2 : sgn (crs a b d) = 1 := by unfold sgn; rw [if_neg (by omega), if_neg (by omega)]
  rw [s1, s2, on_crs (by omega), on_crs (by omega), on_crs h3, on_crs h4]
  rfl
theorem over_no {a b c : Pt} (h : crs b a c ≠ 0) : overB a b c = false := by
  unfold overB
  rw [decide_eq_false (p := crs b a c = 0) h]
  simp
theorem parP_inj {i j : Nat} (h : parP i = parP j) : i = j := by
  have := congrArg Prod.fst h
  simp only [parP] at this
  omega
theorem parab_clash {n i j : Nat} (h3 : 3 ≤ n) (hij : i < j) (hj : j < n) : clashB (parab n) i j = false := by
  unfold clashB
  simp only [parab_len]
  rw [parab_pt (show i < n by omega), parab_pt (show i + 1 < n by omega), parab_pt hj, parab_pt (Nat.mod_lt _ (by omega))]
  have nj := nx_eq hj
  by_cases a : j = i + 1
  · rw [if_pos a]
    subst a
    apply over_no
    split at nj
    · rw [nj]
      have := crs_pos (i := 0) (j := i) (k := i + 1) (by omega) (by omega)
      rw [crs_cyc, crs_cyc] at this
      have := crs_flip (parP (i + 1)) (parP i) (parP 0)
      have := crs_cyc (parP i) (parP (i + 1)) (parP 0)
      have := crs_cyc (parP (i + 1)) (parP 0) (parP i)
      omega
    · rw [nj]
      have := crs_pos (i := i) (j := i + 1) (k := i + 1 + 1) (by omega) (by omega)
      have := crs_flip (parP (i + 1)) (parP i) (parP (i + 1 + 1))
      omega
  · rw [if_neg a]
    by_cases b : i = 0 ∧ j = n - 1
    · rw [if_pos b]
      apply over_no
      obtain ⟨rfl, rfl⟩ := b
      have := crs_pos (i := 0) (j := 0 + 1) (k := n - 1) (by omega) (by omega)
      omega
    · rw [if_neg b]
      have p1 := crs_pos (i := i) (j := i + 1) (k := j) (by omega) (by omega)
      have p2 := crs_cyc (parP i) (parP j) (parP ((j + 1) % n))
      have p3 := crs_cyc (parP (i + 1)) (parP j) (parP ((j + 1) % n))
      split at nj
      · rw [nj] at p2 p3 ⊢
        have q1 := crs_pos (i := 0) (j := i) (k := i + 1) (by omega) (by omega)
        have q2 := crs_cyc (parP 0) (parP i) (parP (i + 1))
        have q3 := crs_pos (i := 0) (j := i) (k := j) (by omega) (by omega)
        have q4 := crs_pos (i := 0) (j := i + 1) (k := j) (by omega) (by omega)
        have q5 := crs_cyc (parP 0) (parP i) (parP j)
        have q6 := crs_cyc (parP 0) (parP (i + 1)) (parP j)
        exact meet_no p1 (by omega) (by omega) (by omega)
      · rw [nj] at p2 p3 ⊢
        have q1 := crs_pos (i := i) (j := i + 1) (k := j + 1) (by omega) (by omega)
        have q3 := crs_pos (i := i) (j := j) (k := j + 1) (by omega) (by omega)
        have q4 := crs_pos (i := i + 1) (j := j) (k := j + 1) (by omega) (by omega)
        exact meet_no p1 q1 (by omega) (by omega)
theorem parab_ring {n : Nat} (h3 : 3 ≤ n) (h64 : n ≤ 64) : ringEr (parab n) = .none := by
  have hn : ¬ ((parab n).length < 3 ∨ 64 < (parab n).length) := by rw [parab_len]; omega
  rw [ringEr_res, ringRes_none hn (parab_ok (by omega)) (fun i hi => anyB_false fun j hj => ?_)]
  · rfl
  · rw [parab_len] at hi hj
    unfold badP
    by_cases hij : i < j
    · rw [parab_clash h3 hij hj, parab_pt hi, parab_pt hj, decide_eq_false (p := parP i = parP j) (fun h => absurd (parP_inj h) (by omega))]
      simp
    · rw [decide_eq_false hij]; rfl
/-- two corners alike -/
theorem twin_ring {l : List Pt} (h3 : 3 ≤ l.length) (h64 : l.length ≤ 64) (hl : allP l = true) {i j : Nat} (hi : i < l.length) (hj : j < l.length) (hij : i ≠ j) (he : pt l i = pt l j) : ∃ k : Int, ringEr l = .fault strRing k (.num 4) := by
  have hn : ¬ (l.length < 3 ∨ 64 < l.length) := by omega
  cases hf : first (badI l) l.length with
  | some k =>
    refine ⟨k, ?_⟩
    unfold ringEr
    rw [if_neg hn, first_ok hl, hf]
  | none =>
    exfalso
    unfold first at hf
    rw [List.find?_range_eq_none] at hf
    have := hf i hi
    have hb : badI l i = true := anyB_true hj (by
      rw [decide_eq_true (show j ≠ i from fun h => hij h.symm), Bool.true_and]
      unfold spoilB
      simp only
      rw [if_pos he])
    rw [hb] at this
    cases this
end Go.Proofs.YtpmngdgifdkohaaDoor
