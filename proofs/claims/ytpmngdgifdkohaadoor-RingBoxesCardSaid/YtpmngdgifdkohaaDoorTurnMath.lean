/- A ring from another corner, and the other way round: plain Lean. -/
import Derived.Test.YtpmngdgifdkohaaDoorSimple
import Derived.Test.YtpmngdgifdkohaaDoorIsA
namespace Go.Proofs.YtpmngdgifdkohaaDoor

/-- the number of a ring's error -/
def ringC (l : List Pt) : Int := if l.length < 3 ∨ 64 < l.length then 3 else if allP l = false then 2 else if anyB (badI l) l.length then 4 else 0
theorem first_none_all {l : List Pt} (h : first (fun i => !okP (pt l i)) l.length = none) : allP l = true := by
  unfold allP
  rw [List.all_eq_true]
  intro p hp
  obtain ⟨i, hi, rfl⟩ := List.getElem_of_mem hp
  unfold first at h
  rw [List.find?_range_eq_none] at h
  have := h i hi
  rw [pt_get l i hi] at this
  simpa using this
theorem ringEr_code (l : List Pt) : (ringEr l).code = ringC l := by
  unfold ringEr ringC
  by_cases h : l.length < 3 ∨ 64 < l.length
  · rw [if_pos h, if_pos h]; rfl
  · rw [if_neg h, if_neg h]
    cases h1 : first (fun i => !okP (pt l i)) l.length with
    | some i =>
      have : allP l = false := by
        cases hq : allP l with
        | false => rfl
        | true => rw [first_ok hq] at h1; cases h1
      rw [if_pos this]; rfl
    | none =>
      rw [first_none_all h1, if_neg (by simp)]
      cases h2 : first (badI l) l.length with
      | some i =>
        unfold first at h2
        rw [List.find?_range_eq_some] at h2
        rw [anyB_true (i := i) (by simpa using h2.2.1) h2.1]; rfl
      | none =>
        unfold first at h2
        rw [List.find?_range_eq_none] at h2
        rw [anyB_false (fun i hi => by simpa using h2 i hi)]; rfl
theorem ringC_none {l : List Pt} : ringC l = 0 ↔ ringEr l = .none := by
  constructor
  · intro h
    by_cases hn : ringEr l = .none
    · exact hn
    · obtain ⟨i, k, e⟩ := ringEr_some hn
      have c := ringEr_code l
      rw [h] at c
      unfold ringC at h
      split at h
      · cases h
      · split at h
        · cases h
        · split at h
          · cases h
          · rename_i h1 h2 h3
            exact ringEr_none h1 (by simpa using h2) (fun j hj => anyB_none (by simpa using h3) hj)
  · intro h
    rw [← ringEr_code, h]; rfl

theorem anyB_re {f g : Nat → Bool} {n : Nat} (s : Nat → Nat) (hs : ∀ i, i < n → s i < n) (ht : ∀ j, j < n → ∃ i, i < n ∧ s i = j) (he : ∀ i, i < n → f i = g (s i)) : anyB f n = anyB g n := by
  cases hg : anyB g n with
  | true =>
    obtain ⟨j, hj, hx⟩ := anyB_get hg
    obtain ⟨i, hi, rfl⟩ := ht j hj
    exact anyB_true hi (by rw [he i hi, hx])
  | false => exact anyB_false fun i hi => by rw [he i hi]; exact anyB_none hg (hs i hi)
open Jord in
theorem par_split (f : Nat → Bool) (a : Nat) : ∀ b, par f (a + b) = (par f a ^^ par (fun i => f (a + i)) b)
  | 0 => by simp [par]
  | b + 1 => by
    rw [show par f (a + (b + 1)) = (par f (a + b) ^^ f (a + b)) from rfl, show par (fun i => f (a + i)) (b + 1) = (par (fun i => f (a + i)) b ^^ f (a + b)) from rfl, par_split f a b]
    cases par f a <;> cases par (fun i => f (a + i)) b <;> cases f (a + b) <;> rfl
open Jord in
theorem sumN_split (f : Nat → Int) (a : Nat) : ∀ b, sumN f (a + b) = sumN f a + sumN (fun i => f (a + i)) b
  | 0 => by simp [sumN]
  | b + 1 => by
    rw [show sumN f (a + (b + 1)) = sumN f (a + b) + f (a + b) from rfl, show sumN (fun i => f (a + i)) (b + 1) = sumN (fun i => f (a + i)) b + f (a + b) from rfl, sumN_split f a b]
    omega
open Jord in
theorem par_rev (f : Nat → Bool) : ∀ m, par (fun i => f (m - 1 - i)) m = par f m
  | 0 => rfl
  | m + 1 => by
    have e := par_split (fun i => f (m + 1 - 1 - i)) 1 m
    rw [Nat.add_comm 1 m] at e
    rw [e, par_congr (p := fun i => f (m + 1 - 1 - (1 + i))) (q := fun i => f (m - 1 - i)) (fun i hi => by rw [show m + 1 - 1 - (1 + i) = m - 1 - i by omega]), par_rev f m]
    simp only [par, Nat.add_sub_cancel, Nat.sub_zero]
    cases par f m <;> cases f m <;> rfl
open Jord in
theorem sumN_rev (f : Nat → Int) : ∀ m, sumN (fun i => f (m - 1 - i)) m = sumN f m
  | 0 => rfl
  | m + 1 => by
    have e := sumN_split (fun i => f (m + 1 - 1 - i)) 1 m
    rw [Nat.add_comm 1 m] at e
    rw [e, sumN_congr (f := fun i => f (m + 1 - 1 - (1 + i))) (g := fun i => f (m - 1 - i)) (fun i hi => by rw [show m + 1 - 1 - (1 + i) = m - 1 - i by omega]), sumN_rev f m]
    simp only [sumN, Nat.add_sub_cancel, Nat.sub_zero]
    omega

theorem crossTo_par (l : List Pt) (p : Pt) : ∀ k, crossTo l p k = Jord.par (crossAt l p) k
  | 0 => rfl
  | k + 1 => by
    unfold crossTo Jord.par
    rw [crossTo_par l p k]
    cases crossAt l p k <;> cases Jord.par (crossAt l p) k <;> rfl

/-! ### another corner first -/
def rot (k : Nat) (l : List Pt) : List Pt := l.drop k ++ l.take k
theorem rot_len {k : Nat} {l : List Pt} (hk : k < l.length) : (rot k l).length = l.length := by unfold rot; simp; omega
theorem mod_two {n i k : Nat} (hi : i < n) (hk : k < n) : (i + k) % n = if i + k < n then i + k else i + k - n := by
  split
  · exact Nat.mod_eq_of_lt (by assumption)
  · rw [Nat.mod_eq_sub_mod (by omega), Nat.mod_eq_of_lt (by omega)]
theorem rot_pt {k : Nat} {l : List Pt} (hk : k < l.length) {i : Nat} (hi : i < l.length) : pt (rot k l) i = pt l ((i + k) % l.length) := by
  have hm : (i + k) % l.length < l.length := Nat.mod_lt _ (by omega)
  rw [pt_get _ _ (by rw [rot_len hk]; exact hi), pt_get _ _ hm]
  have e := mod_two hi hk
  unfold rot
  rw [List.getElem_append]
  split
  · rename_i h
    simp only [List.length_drop] at h
    rw [List.getElem_drop]
    rw [if_pos (by omega)] at e
    have e' : k + i = (i + k) % l.length := by omega
    simp only [e']
  · rename_i h
    simp only [List.length_drop] at h
    rw [List.getElem_take]
    rw [if_neg (by omega)] at e
    simp only [e, List.length_drop]
    congr 1
    omega
theorem rot_nx {k n i : Nat} (hk : k < n) (hi : i < n) : ((i + k) % n + 1) % n = ((i + 1) % n + k) % n := by
  have h1 : (i + k) % n < n := Nat.mod_lt _ (by omega)
  have h2 : (i + 1) % n < n := Nat.mod_lt _ (by omega)
  rw [nx_eq h1, mod_two h2 hk, mod_two hi hk]
  have e := nx_eq hi
  split at e <;> rw [e] <;> split <;> split <;> (try split) <;> omega
theorem rot_inj {k n i j : Nat} (hk : k < n) (hi : i < n) (hj : j < n) : (i + k) % n = (j + k) % n ↔ i = j := by
  rw [mod_two hi hk, mod_two hj hk]
  split <;> split <;> omega
theorem rot_sur {k n : Nat} (hk : k < n) (j : Nat) (hj : j < n) : ∃ i, i < n ∧ (i + k) % n = j := by
  by_cases h : k ≤ j
  · exact ⟨j - k, by omega, by rw [show j - k + k = j by omega]; exact Nat.mod_eq_of_lt hj⟩
  · exact ⟨j + n - k, by omega, by rw [mod_two (by omega) hk]; split <;> omega⟩
theorem rot_all {k : Nat} {l : List Pt} : allP (rot k l) = allP l := by
  unfold allP rot
  rw [List.all_append, Bool.and_comm, ← List.all_append, List.take_append_drop]
theorem rot_spoil {k : Nat} {l : List Pt} (hk : k < l.length) {i j : Nat} (hi : i < l.length) (hj : j < l.length) : spoilB (rot k l) i j = spoilB l ((i + k) % l.length) ((j + k) % l.length) := by
  have ni : (i + 1) % l.length < l.length := Nat.mod_lt _ (by omega)
  have nj : (j + 1) % l.length < l.length := Nat.mod_lt _ (by omega)
  unfold spoilB
  simp only [rot_len hk]
  rw [rot_pt hk hi, rot_pt hk hj, rot_pt hk ni, rot_pt hk nj, rot_nx hk hi, rot_nx hk hj]
  simp only [rot_inj hk ni hj, rot_inj hk nj hi]
theorem rot_bad {k : Nat} {l : List Pt} (hk : k < l.length) : anyB (badI (rot k l)) l.length = anyB (badI l) l.length := by
  have lt : ∀ i, i < l.length → (i + k) % l.length < l.length := fun i _ => Nat.mod_lt _ (by omega)
  refine anyB_re (fun i => (i + k) % l.length) lt (rot_sur hk) fun i hi => ?_
  unfold badI
  rw [rot_len hk]
  refine anyB_re (fun i => (i + k) % l.length) lt (rot_sur hk) fun j hj => ?_
  rw [rot_spoil hk hi hj]
  congr 1
  exact decide_eq_decide.2 (by
    have := rot_inj hk hj hi
    constructor
    · intro h e; exact h (this.1 e)
    · intro h e; exact h (this.2 e))
theorem rot_code {k : Nat} {l : List Pt} (hk : k < l.length) : ringC (rot k l) = ringC l := by
  unfold ringC
  rw [rot_len hk, rot_all, rot_bad hk]
open Jord in
theorem par_rot (f : Nat → Bool) {k n : Nat} (hk : k < n) : par (fun i => f ((i + k) % n)) n = par f n := by
  have e1 := par_split (fun i => f ((i + k) % n)) (n - k) k
  have e2 := par_split f k (n - k)
  rw [show n - k + k = n by omega] at e1
  rw [show k + (n - k) = n by omega] at e2
  rw [e1, e2, par_congr (p := fun i => f ((i + k) % n)) (q := fun i => f (k + i)) (fun i hi => by rw [mod_two (by omega) hk, if_pos (by omega), Nat.add_comm]),
    par_congr (p := fun i => f ((n - k + i + k) % n)) (q := f) (fun i hi => by rw [mod_two (by omega) hk, if_neg (by omega)]; congr 1; omega), Bool.xor_comm]
open Jord in
theorem sumN_rot (f : Nat → Int) {k n : Nat} (hk : k < n) : sumN (fun i => f ((i + k) % n)) n = sumN f n := by
  have e1 := sumN_split (fun i => f ((i + k) % n)) (n - k) k
  have e2 := sumN_split f k (n - k)
  rw [show n - k + k = n by omega] at e1
  rw [show k + (n - k) = n by omega] at e2
  rw [e1, e2, sumN_congr (f := fun i => f ((i + k) % n)) (g := fun i => f (k + i)) (fun i hi => by rw [mod_two (by omega) hk, if_pos (by omega), Nat.add_comm]),
    sumN_congr (f := fun i => f ((n - k + i + k) % n)) (g := f) (fun i hi => by rw [mod_two (by omega) hk, if_neg (by omega)]; congr 1; omega), Int.add_comm]
theorem rot_area {k : Nat} {l : List Pt} (hk : k < l.length) : areaC (rot k l) = areaC l := by
  unfold areaC Jord.area2
  rw [rot_len hk, ← sumN_rot (fun g => pxI l g * pyI l (nxI l g) - pyI l g * pxI l (nxI l g)) hk]
  refine Jord.sumN_congr fun i hi => ?_
  have ni : (i + 1) % l.length < l.length := Nat.mod_lt _ (by omega)
  unfold pxI pyI nxI
  rw [rot_len hk, rot_pt hk hi, rot_pt hk ni, rot_nx hk hi]
theorem rot_edge {k : Nat} {l : List Pt} (hk : k < l.length) (p : Pt) : edgeB (rot k l) p = edgeB l p := by
  unfold edgeB
  rw [rot_len hk]
  refine anyB_re (fun i => (i + k) % l.length) (fun i _ => Nat.mod_lt _ (by omega)) (rot_sur hk) fun i hi => ?_
  have ni : (i + 1) % l.length < l.length := Nat.mod_lt _ (by omega)
  unfold edgeAt
  rw [rot_len hk, rot_pt hk hi, rot_pt hk ni, rot_nx hk hi]
theorem rot_cross {k : Nat} {l : List Pt} (hk : k < l.length) (p : Pt) : crossTo (rot k l) p l.length = crossTo l p l.length := by
  rw [crossTo_par, crossTo_par, ← par_rot (crossAt l p) hk]
  refine Jord.par_congr fun i hi => ?_
  have ni : (i + 1) % l.length < l.length := Nat.mod_lt _ (by omega)
  unfold crossAt
  simp only [rot_len hk]
  rw [rot_pt hk hi, rot_pt hk ni, rot_nx hk hi]

/-! ### the other way round -/
theorem rev_pt {l : List Pt} {i : Nat} (hi : i < l.length) : pt l.reverse i = pt l (l.length - 1 - i) := by
  rw [pt_get _ _ (by simpa using hi), pt_get _ _ (by omega), List.getElem_reverse]
/-- the edge that is turned round -/
def turnI (n i : Nat) : Nat := if i + 1 = n then n - 1 else n - 2 - i
theorem turnI_lt {n i : Nat} (hi : i < n) : turnI n i < n := by unfold turnI; split <;> omega
theorem turnI_turn {n i : Nat} (hi : i < n) : turnI n (turnI n i) = i := by unfold turnI; split <;> split <;> omega
theorem rev_a {l : List Pt} {i : Nat} (hi : i < l.length) : pt l.reverse i = pt l ((turnI l.length i + 1) % l.length) := by
  rw [rev_pt hi]
  have h := turnI_lt hi
  rw [nx_eq h]
  congr 1
  unfold turnI
  split <;> split <;> omega
theorem rev_b {l : List Pt} {i : Nat} (hi : i < l.length) : pt l.reverse ((i + 1) % l.length) = pt l (turnI l.length i) := by
  rw [rev_pt (Nat.mod_lt _ (by omega)), nx_eq hi]
  congr 1
  unfold turnI
  split <;> omega
theorem turnI_nx {n i j : Nat} (hi : i < n) (hj : j < n) : (i + 1) % n = j ↔ (turnI n j + 1) % n = turnI n i := by
  rw [nx_eq hi, nx_eq (turnI_lt hj)]
  unfold turnI
  split <;> split <;> split <;> omega
theorem properB_turn (a b c d : Pt) : properB b a d c = properB a b c d := by
  unfold properB
  have e1 := crs_flip b a d
  have e2 := crs_flip b a c
  have e3 := crs_flip d c b
  have e4 := crs_flip d c a
  rw [e1, e2, e3, e4]
  have s : ∀ x, sgn (-x) = - sgn x := fun x => by unfold sgn; split <;> split <;> (try split) <;> (try split) <;> omega
  rw [s, s, s, s, Int.neg_mul_neg, Int.neg_mul_neg, Int.mul_comm (sgn (crs a b d)), Int.mul_comm (sgn (crs c d b))]
theorem meetB_turn (a b c d : Pt) : meetB b a d c = meetB a b c d := by
  unfold meetB
  rw [properB_turn, onB_comm b a d, onB_comm b a c, onB_comm d c b, onB_comm d c a]
  cases properB a b c d <;> cases onB a b c <;> cases onB a b d <;> cases onB c d a <;> cases onB c d b <;> rfl
def anyBad (l : List Pt) : Prop := ∃ i k, i < l.length ∧ k < l.length ∧ k ≠ i ∧ spoilB l i k = true
theorem anyBad_iff {l : List Pt} : anyB (badI l) l.length = true ↔ anyBad l := by
  constructor
  · intro h
    obtain ⟨i, hi, h⟩ := anyB_get h
    obtain ⟨k, hk, h⟩ := anyB_get h
    rw [Bool.and_eq_true] at h
    exact ⟨i, k, hi, hk, of_decide_eq_true h.1, h.2⟩
  · rintro ⟨i, k, hi, hk, hne, h⟩
    exact anyB_true hi (anyB_true hk (by rw [decide_eq_true hne, h]; rfl))
theorem rev_bad1 {l : List Pt} (h3 : 3 ≤ l.length) (h : anyBad l.reverse) : anyBad l := by
  obtain ⟨i, k, hi, hk, hne, h⟩ := h
  rw [List.length_reverse] at hi hk
  by_cases e : pt l.reverse i = pt l.reverse k
  · rw [rev_pt hi, rev_pt hk] at e
    refine ⟨l.length - 1 - i, l.length - 1 - k, by omega, by omega, by omega, ?_⟩
    unfold spoilB
    simp only
    rw [if_pos e]
  · have li := turnI_lt hi
    have lk := turnI_lt hk
    refine ⟨turnI l.length i, turnI l.length k, li, lk, fun q => hne (by rw [← turnI_turn hi, ← turnI_turn hk, q]), ?_⟩
    unfold spoilB at h ⊢
    simp only [List.length_reverse] at h ⊢
    rw [if_neg e, rev_a hi, rev_b hi, rev_a hk, rev_b hk] at h
    by_cases e2 : pt l (turnI l.length i) = pt l (turnI l.length k)
    · rw [if_pos e2]
    · rw [if_neg e2]
      have c1 := turnI_nx hi hk
      have c2 := turnI_nx hk hi
      by_cases a : (i + 1) % l.length = k
      · rw [if_pos a] at h
        have b : ¬ (turnI l.length i + 1) % l.length = turnI l.length k := by
          rw [← c2, nx_eq hk]
          rw [nx_eq hi] at a
          split at a <;> split <;> omega
        rw [if_neg b, if_pos (c1.1 a)]
        rw [onB_comm (pt l (turnI l.length i)), onB_comm (pt l (turnI l.length k)), Bool.or_comm]
        exact h
      · rw [if_neg a] at h
        by_cases b : (k + 1) % l.length = i
        · rw [if_pos b] at h
          rw [if_pos (c2.1 b), onB_comm (pt l (turnI l.length i)), onB_comm (pt l (turnI l.length k)), Bool.or_comm]
          exact h
        · rw [if_neg b] at h
          rw [if_neg (fun q => b (c2.2 q)), if_neg (fun q => a (c1.2 q)), ← meetB_turn]
          exact h
theorem rev_bad {l : List Pt} (h3 : 3 ≤ l.length) : anyB (badI l.reverse) l.length = anyB (badI l) l.length := by
  have e1 : anyB (badI l.reverse) l.length = anyB (badI l.reverse) l.reverse.length := by rw [List.length_reverse]
  rw [e1, Bool.eq_iff_iff, anyBad_iff, anyBad_iff]
  constructor
  · exact rev_bad1 h3
  · intro h
    exact rev_bad1 (by rw [List.length_reverse]; exact h3) (by rw [List.reverse_reverse]; exact h)
theorem rev_all {l : List Pt} : allP l.reverse = allP l := by
  unfold allP
  rw [List.all_reverse]
theorem rev_code (l : List Pt) : ringC l.reverse = ringC l := by
  unfold ringC
  rw [List.length_reverse, rev_all]
  by_cases h : l.length < 3 ∨ 64 < l.length
  · rw [if_pos h, if_pos h]
  · rw [if_neg h, if_neg h, rev_bad (by omega)]
open Jord in
theorem par_turn (f : Nat → Bool) (n : Nat) : par (fun i => f (turnI n i)) n = par f n := by
  cases n with
  | zero => rfl
  | succ m =>
    unfold par
    rw [par_congr (p := fun i => f (turnI (m + 1) i)) (q := fun i => f (m - 1 - i)) (fun i hi => by unfold turnI; rw [if_neg (by omega)]; congr 1), par_rev]
    unfold turnI
    rw [if_pos rfl]; rfl
open Jord in
theorem sumN_turn (f : Nat → Int) (n : Nat) : sumN (fun i => f (turnI n i)) n = sumN f n := by
  cases n with
  | zero => rfl
  | succ m =>
    unfold sumN
    rw [sumN_congr (f := fun i => f (turnI (m + 1) i)) (g := fun i => f (m - 1 - i)) (fun i hi => by unfold turnI; rw [if_neg (by omega)]; congr 1), sumN_rev]
    unfold turnI
    rw [if_pos rfl]; rfl
theorem rev_area (l : List Pt) : areaC l.reverse = - areaC l := by
  have key : areaC l.reverse = Jord.sumN (fun g => (-1) * (pxI l g * pyI l (nxI l g) - pyI l g * pxI l (nxI l g))) l.length := by
    rw [← sumN_turn _ l.length]
    unfold areaC Jord.area2
    rw [List.length_reverse]
    refine Jord.sumN_congr fun i hi => ?_
    unfold pxI pyI nxI
    rw [List.length_reverse, rev_a hi, rev_b hi]
    grind
  rw [key, Jord.sumN_mul]
  unfold areaC Jord.area2
  omega
theorem rev_edge (l : List Pt) (p : Pt) : edgeB l.reverse p = edgeB l p := by
  unfold edgeB
  rw [List.length_reverse]
  refine anyB_re (turnI l.length) (fun i hi => turnI_lt hi) (fun j hj => ⟨turnI l.length j, turnI_lt hj, turnI_turn hj⟩) fun i hi => ?_
  unfold edgeAt
  rw [List.length_reverse, rev_a hi, rev_b hi, onB_comm]
theorem cross_turn (a b p : Pt) : (if a.2 < b.2 then decide (a.2 ≤ p.2) && (decide (p.2 < b.2) && decide (0 < crs a b p)) else decide (b.2 ≤ p.2) && (decide (p.2 < a.2) && decide (0 < crs b a p)))
    = (if b.2 < a.2 then decide (b.2 ≤ p.2) && (decide (p.2 < a.2) && decide (0 < crs b a p)) else decide (a.2 ≤ p.2) && (decide (p.2 < b.2) && decide (0 < crs a b p))) := by
  rcases Int.lt_trichotomy a.2 b.2 with h | h | h
  · rw [if_pos h, if_neg (by omega)]
  · rw [if_neg (by omega), if_neg (by omega)]
    have e1 : (decide (b.2 ≤ p.2) && decide (p.2 < a.2)) = false := by simp; omega
    have e2 : (decide (a.2 ≤ p.2) && decide (p.2 < b.2)) = false := by simp; omega
    rw [← Bool.and_assoc, ← Bool.and_assoc, e1, e2, Bool.false_and, Bool.false_and]
  · rw [if_neg (by omega), if_pos h]
theorem rev_cross (l : List Pt) (p : Pt) : crossTo l.reverse p l.length = crossTo l p l.length := by
  rw [crossTo_par, crossTo_par, ← par_turn (crossAt l p)]
  refine Jord.par_congr fun i hi => ?_
  unfold crossAt
  simp only [List.length_reverse]
  rw [rev_a hi, rev_b hi]
  exact cross_turn _ _ p

/-! ### what RingTurns asks -/
theorem ringOk_code (l : List Pt) : ringOk l = decide (ringC l = 0) := by
  by_cases h : ringEr l = .none
  · rw [ringOk_yes h, decide_eq_true (ringC_none.2 h)]
  · rw [ringOk_no h, decide_eq_false (fun k => h (ringC_none.1 k))]
theorem rot_has {k : Nat} {l : List Pt} (hk : k < l.length) (p : Pt) : hasE (rot k l) p = hasE l p := by
  unfold hasE
  rw [ringOk_code, ringOk_code, rot_code hk, rot_edge hk, rot_len hk, rot_cross hk]
theorem rev_has (l : List Pt) (p : Pt) : hasE l.reverse p = hasE l p := by
  unfold hasE
  rw [ringOk_code, ringOk_code, rev_code, rev_edge, List.length_reverse, rev_cross]
theorem rot_twice {k : Nat} {l : List Pt} (hk : k < l.length) : twiceE (rot k l) = twiceE l := by
  unfold twiceE
  rw [ringOk_code, ringOk_code, rot_code hk, areaV_C (l := l) (by omega), areaV_C (l := rot k l) (by rw [rot_len hk]; omega), rot_area hk]
theorem rot_left {k : Nat} {l : List Pt} (hk : k < l.length) : leftE (rot k l) = leftE l := by
  unfold leftE
  rw [ringOk_code, ringOk_code, rot_code hk, areaV_C (l := l) (by omega), areaV_C (l := rot k l) (by rw [rot_len hk]; omega), rot_area hk]
theorem rev_none {l : List Pt} (h : ringEr l = .none) : ringEr l.reverse = .none := ringC_none.1 (by rw [rev_code]; exact ringC_none.2 h)
theorem rev_twice {l : List Pt} (h : ringEr l = .none) : twiceE l.reverse = twiceE l := by
  unfold twiceE
  rw [ringOk_yes h, ringOk_yes (rev_none h), (areaV_ok h).1, (areaV_ok (rev_none h)).1, rev_area]
  unfold absU
  simp only [if_true]
  split <;> split <;> omega
theorem rev_left {l : List Pt} (h : ringEr l = .none) : leftE l.reverse = !leftE l := by
  unfold leftE
  rw [ringOk_yes h, ringOk_yes (rev_none h), (areaV_ok h).1, (areaV_ok (rev_none h)).1, rev_area]
  have := (areaV_ok h).2.1
  by_cases c : 0 < areaC l
  · rw [decide_eq_true c, decide_eq_false (by omega)]; rfl
  · rw [decide_eq_false c, decide_eq_true (by omega)]; rfl
end Go.Proofs.YtpmngdgifdkohaaDoor
