/- A ring from another corner, and the other way round: plain Lean. A ring lies in its box, and its corners in it: plain Lean. sorter.Key of any object. Rows of items; who is the first that may not be. -/
import Derived.Test.YtoggbmfjjenbaaaGreatDoorTw23
import Derived.Test.YtoggbmfjjenbaaaGreatDoorTw27
import Derived.Test.YtoggbmfjjenbaaaGreatDoorTw25
import Derived.Test.YtoggbmfjjenbaaaGreatDoorTw29
import Derived.Test.YtoggbmfjjenbaaaGreatDoorTw10
import Derived.Test.YtoggbmfjjenbaaaGreatDoorTw11
import Derived.Test.YtoggbmfjjenbaaaGreatDoorTw26
set_option linter.unusedSimpArgs false
set_option linter.unusedVariables false
namespace Go.Proofs.YtoggbmfjjenbaaaGreatDoor
/-! TurnMath -/
section
/-- the number of a ring's error -/
def ringC (l : List Pt) : Int := if l.length < 3 ∨ 64 < l.length then 3 else if allP l = false then 2 else if anyB (badI l) l.length then 4 else 0
theorem first_none_all {l : List Pt} (h : first (fun i => !okP (pt l i)) l.length = none) : allP l = true := by
  unfold allP
  rw [List.all_eq_true]
  intro p hp
  obtain ⟨i, hi, rfl⟩ := List.getElem_of_mem hp
  unfold first at h
  rw [List.find?_range_eq_none] at h
  have := h i hi
  rw [pt_get l i hi] at this
  simpa using this
theorem ringEr_code (l : List Pt) : (ringEr l).code = ringC l := by
  unfold ringEr ringC
  by_cases h : l.length < 3 ∨ 64 < l.length
  · rw [if_pos h, if_pos h]; rfl
  · rw [if_neg h, if_neg h]
    cases h1 : first (fun i => !okP (pt l i)) l.length with
    | some i =>
      have : allP l = false := by
        cases hq : allP l with
        | false => rfl
        | true => rw [first_ok hq] at h1; cases h1
      rw [if_pos this]; rfl
    | none =>
      rw [first_none_all h1, if_neg (by simp)]
      cases h2 : first (badI l) l.length with
      | some i =>
        unfold first at h2
        rw [List.find?_range_eq_some] at h2
        rw [anyB_true (i := i) (by simpa using h2.2.1) h2.1]; rfl
      | none =>
        unfold first at h2
        rw [List.find?_range_eq_none] at h2
        rw [anyB_false (fun i hi => by simpa using h2 i hi)]; rfl
theorem ringC_none {l : List Pt} : ringC l = 0 ↔ ringEr l = .none := by
  constructor
  · intro h
    by_cases hn : ringEr l = .none
    · exact hn
    · obtain ⟨i, k, e⟩ := ringEr_some hn
      have c := ringEr_code l
      rw [h] at c
      unfold ringC at h
      split at h
      · cases h
      · split at h
        · cases h
        · split at h
          · cases h
          · rename_i h1 h2 h3
            exact ringEr_none h1 (by simpa using h2) (fun j hj => anyB_none (by simpa using h3) hj)
  · intro h
    rw [← ringEr_code, h]; rfl

theorem anyB_re {f g : Nat → Bool} {n : Nat} (s : Nat → Nat) (hs : ∀ i, i < n → s i < n) (ht : ∀ j, j < n → ∃ i, i < n ∧ s i = j) (he : ∀ i, i < n → f i = g (s i)) : anyB f n = anyB g n := by
  cases hg : anyB g n with
  | true =>
    obtain ⟨j, hj, hx⟩ := anyB_get hg
    obtain ⟨i, hi, rfl⟩ := ht j hj
    exact anyB_true hi (by rw [he i hi, hx])
  | false => exact anyB_false fun i hi => by rw [he i hi]; exact anyB_none hg (hs i hi)
open Jord in
theorem par_split (f : Nat → Bool) (a : Nat) : ∀ b, par f (a + b) = (par f a ^^ par (fun i => f (a + i)) b)
  | 0 => by simp [par]
  | b + 1 => by
    rw [show par f (a + (b + 1)) = (par f (a + b) ^^ f (a + b)) from rfl, show par (fun i => f (a + i)) (b + 1) = (par (fun i => f (a + i)) b ^^ f (a + b)) from rfl, par_split f a b]
    cases par f a <;> cases par (fun i => f (a + i)) b <;> cases f (a + b) <;> rfl
open Jord in
theorem sumN_split (f : Nat → Int) (a : Nat) : ∀ b, sumN f (a + b) = sumN f a + sumN (fun i => f (a + i)) b
  | 0 => by simp [sumN]
  | b + 1 => by
    rw [show sumN f (a + (b + 1)) = sumN f (a + b) + f (a + b) from rfl, show sumN (fun i => f (a + i)) (b + 1) = sumN (fun i => f (a + i)) b + f (a + b) from rfl, sumN_split f a b]
    omega
open Jord in
theorem par_rev (f : Nat → Bool) : ∀ m, par (fun i => f (m - 1 - i)) m = par f m
  | 0 => rfl
  | m + 1 => by
    have e := par_split (fun i => f (m + 1 - 1 - i)) 1 m
    rw [Nat.add_comm 1 m] at e
    rw [e, par_congr (p := fun i => f (m + 1 - 1 - (1 + i))) (q := fun i => f (m - 1 - i)) (fun i hi => by rw [show m + 1 - 1 - (1 + i) = m - 1 - i by omega]), par_rev f m]
    simp only [par, Nat.add_sub_cancel, Nat.sub_zero]
    cases par f m <;> cases f m <;> rfl
open Jord in
theorem sumN_rev (f : Nat → Int) : ∀ m, sumN (fun i => f (m - 1 - i)) m = sumN f m
  | 0 => rfl
  | m + 1 => by
    have e := sumN_split (fun i => f (m + 1 - 1 - i)) 1 m
    rw [Nat.add_comm 1 m] at e
    rw [e, sumN_congr (f := fun i => f (m + 1 - 1 - (1 + i))) (g := fun i => f (m - 1 - i)) (fun i hi => by rw [show m + 1 - 1 - (1 + i) = m - 1 - i by omega]), sumN_rev f m]
    simp only [sumN, Nat.add_sub_cancel, Nat.sub_zero]
    omega

theorem crossTo_par (l : List Pt) (p : Pt) : ∀ k, crossTo l p k = Jord.par (crossAt l p) k
  | 0 => rfl
  | k + 1 => by
    unfold crossTo Jord.par
    rw [crossTo_par l p k]
    cases crossAt l p k <;> cases Jord.par (crossAt l p) k <;> rfl

/-! ### another corner first -/
def rot (k : Nat) (l : List Pt) : List Pt := l.drop k ++ l.take k
theorem rot_len {k : Nat} {l : List Pt} (hk : k < l.length) : (rot k l).length = l.length := by unfold rot; simp; omega
theorem mod_two {n i k : Nat} (hi : i < n) (hk : k < n) : (i + k) % n = if i + k < n then i + k else i + k - n := by
  split
  · exact Nat.mod_eq_of_lt (by assumption)
  · rw [Nat.mod_eq_sub_mod (by omega), Nat.mod_eq_of_lt (by omega)]
theorem rot_pt {k : Nat} {l : List Pt} (hk : k < l.length) {i : Nat} (hi : i < l.length) : pt (rot k l) i = pt l ((i + k) % l.length) := by
  have hm : (i + k) % l.length < l.length := Nat.mod_lt _ (by omega)
  rw [pt_get _ _ (by rw [rot_len hk]; exact hi), pt_get _ _ hm]
  have e := mod_two hi hk
  unfold rot
  rw [List.getElem_append]
  split
  · rename_i h
    simp only [List.length_drop] at h
    rw [List.getElem_drop]
    rw [if_pos (by omega)] at e
    have e' : k + i = (i + k) % l.length := by omega
    simp only [e']
  · rename_i h
    simp only [List.length_drop] at h
    rw [List.getElem_take]
    rw [if_neg (by omega)] at e
    simp only [e, List.length_drop]
    congr 1
    omega
theorem rot_nx {k n i : Nat} (hk : k < n) (hi : i < n) : ((i + k) % n + 1) % n = ((i + 1) % n + k) % n := by
  have h1 : (i + k) % n < n := Nat.mod_lt _ (by omega)
  have h2 : (i + 1) % n < n := Nat.mod_lt _ (by omega)
  rw [nx_eq h1, mod_two h2 hk, mod_two hi hk]
  have e := nx_eq hi
  split at e <;> rw [e] <;> split <;> split <;> (try split) <;> omega
theorem rot_inj {k n i j : Nat} (hk : k < n) (hi : i < n) (hj : j < n) : (i + k) % n = (j + k) % n ↔ i = j := by
  rw [mod_two hi hk, mod_two hj hk]
  split <;> split <;> omega
theorem rot_sur {k n : Nat} (hk : k < n) (j : Nat) (hj : j < n) : ∃ i, i < n ∧ (i + k) % n = j := by
  by_cases h : k ≤ j
  · exact ⟨j - k, by omega, by rw [show j - k + k = j by omega]; exact Nat.mod_eq_of_lt hj⟩
  · exact ⟨j + n - k, by omega, by rw [mod_two (by omega) hk]; split <;> omega⟩
theorem rot_all {k : Nat} {l : List Pt} : allP (rot k l) = allP l := by
  unfold allP rot
  rw [List.all_append, Bool.and_comm, ← List.all_append, List.take_append_drop]
theorem rot_spoil {k : Nat} {l : List Pt} (hk : k < l.length) {i j : Nat} (hi : i < l.length) (hj : j < l.length) : spoilB (rot k l) i j = spoilB l ((i + k) % l.length) ((j + k) % l.length) := by
  have ni : (i + 1) % l.length < l.length := Nat.mod_lt _ (by omega)
  have nj : (j + 1) % l.length < l.length := Nat.mod_lt _ (by omega)
  unfold spoilB
  simp only [rot_len hk]
  rw [rot_pt hk hi, rot_pt hk hj, rot_pt hk ni, rot_pt hk nj, rot_nx hk hi, rot_nx hk hj]
  simp only [rot_inj hk ni hj, rot_inj hk nj hi]
theorem rot_bad {k : Nat} {l : List Pt} (hk : k < l.length) : anyB (badI (rot k l)) l.length = anyB (badI l) l.length := by
  have lt : ∀ i, i < l.length → (i + k) % l.length < l.length := fun i _ => Nat.mod_lt _ (by omega)
  refine anyB_re (fun i => (i + k) % l.length) lt (rot_sur hk) fun i hi => ?_
  unfold badI
  rw [rot_len hk]
  refine anyB_re (fun i => (i + k) % l.length) lt (rot_sur hk) fun j hj => ?_
  rw [rot_spoil hk hi hj]
  congr 1
  exact decide_eq_decide.2 (by
    have := rot_inj hk hj hi
    constructor
    · intro h e; exact h (this.1 e)
    · intro h e; exact h (this.2 e))
theorem rot_code {k : Nat} {l : List Pt} (hk : k < l.length) : ringC (rot k l) = ringC l := by
  unfold ringC
  rw [rot_len hk, rot_all, rot_bad hk]
open Jord in
theorem par_rot (f : Nat → Bool) {k n : Nat} (hk : k < n) : par (fun i => f ((i + k) % n)) n = par f n := by
  have e1 := par_split (fun i => f ((i + k) % n)) (n - k) k
  have e2 := par_split f k (n - k)
  rw [show n - k + k = n by omega] at e1
  rw [show k + (n - k) = n by omega] at e2
  rw [e1, e2, par_congr (p := fun i => f ((i + k) % n)) (q := fun i => f (k + i)) (fun i hi => by rw [mod_two (by omega) hk, if_pos (by omega), Nat.add_comm]),
    par_congr (p := fun i => f ((n - k + i + k) % n)) (q := f) (fun i hi => by rw [mod_two (by omega) hk, if_neg (by omega)]; congr 1; omega), Bool.xor_comm]
open Jord in
theorem sumN_rot (f : Nat → Int) {k n : Nat} (hk : k < n) : sumN (fun i => f ((i + k) % n)) n = sumN f n := by
  have e1 := sumN_split (fun i => f ((i + k) % n)) (n - k) k
  have e2 := sumN_split f k (n - k)
  rw [show n - k + k = n by omega] at e1
  rw [show k + (n - k) = n by omega] at e2
  rw [e1, e2, sumN_congr (f := fun i => f ((i + k) % n)) (g := fun i => f (k + i)) (fun i hi => by rw [mod_two (by omega) hk, if_pos (by omega), Nat.add_comm]),
    sumN_congr (f := fun i => f ((n - k + i + k) % n)) (g := f) (fun i hi => by rw [mod_two (by omega) hk, if_neg (by omega)]; congr 1; omega), Int.add_comm]
theorem rot_area {k : Nat} {l : List Pt} (hk : k < l.length) : areaC (rot k l) = areaC l := by
  unfold areaC Jord.area2
  rw [rot_len hk, ← sumN_rot (fun g => pxI l g * pyI l (nxI l g) - pyI l g * pxI l (nxI l g)) hk]
  refine Jord.sumN_congr fun i hi => ?_
  have ni : (i + 1) % l.length < l.length := Nat.mod_lt _ (by omega)
  unfold pxI pyI nxI
  rw [rot_len hk, rot_pt hk hi, rot_pt hk ni, rot_nx hk hi]
theorem rot_edge {k : Nat} {l : List Pt} (hk : k < l.length) (p : Pt) : edgeB (rot k l) p = edgeB l p := by
  unfold edgeB
  rw [rot_len hk]
  refine anyB_re (fun i => (i + k) % l.length) (fun i _ => Nat.mod_lt _ (by omega)) (rot_sur hk) fun i hi => ?_
  have ni : (i + 1) % l.length < l.length := Nat.mod_lt _ (by omega)
  unfold edgeAt
  rw [rot_len hk, rot_pt hk hi, rot_pt hk ni, rot_nx hk hi]
theorem rot_cross {k : Nat} {l : List Pt} (hk : k < l.length) (p : Pt) : crossTo (rot k l) p l.length = crossTo l p l.length := by
  rw [crossTo_par, crossTo_par, ← par_rot (crossAt l p) hk]
  refine Jord.par_congr fun i hi => ?_
  have ni : (i + 1) % l.length < l.length := Nat.mod_lt _ (by omega)
  unfold crossAt
  simp only [rot_len hk]
  rw [rot_pt hk hi, rot_pt hk ni, rot_nx hk hi]

/-! ### the other way round -/
theorem rev_pt {l : List Pt} {i : Nat} (hi : i < l.length) : pt l.reverse i = pt l (l.length - 1 - i) := by
  rw [pt_get _ _ (by simpa using hi), pt_get _ _ (by omega), List.getElem_reverse]
/-- the edge that is turned round -/
def turnI (n i : Nat) : Nat := if i + 1 = n then n - 1 else n - 2 - i
theorem turnI_lt {n i : Nat} (hi : i < n) : turnI n i < n := by unfold turnI; split <;> omega
theorem turnI_turn {n i : Nat} (hi : i < n) : turnI n (turnI n i) = i := by unfold turnI; split <;> split <;> omega
theorem rev_a {l : List Pt} {i : Nat} (hi : i < l.length) : pt l.reverse i = pt l ((turnI l.length i + 1) % l.length) := by
  rw [rev_pt hi]
  have h := turnI_lt hi
  rw [nx_eq h]
  congr 1
  unfold turnI
  split <;> split <;> omega
theorem rev_b {l : List Pt} {i : Nat} (hi : i < l.length) : pt l.reverse ((i + 1) % l.length) = pt l (turnI l.length i) := by
  rw [rev_pt (Nat.mod_lt _ (by omega)), nx_eq hi]
  congr 1
  unfold turnI
  split <;> omega
theorem turnI_nx {n i j : Nat} (hi : i < n) (hj : j < n) : (i + 1) % n = j ↔ (turnI n j + 1) % n = turnI n i := by
  rw [nx_eq hi, nx_eq (turnI_lt hj)]
  unfold turnI
  split <;> split <;> split <;> omega
theorem properB_turn (a b c d : Pt) : properB b a d c = properB a b c d := by
  unfold properB
  have e1 := crs_flip b a d
  have e2 := crs_flip b a c
  have e3 := crs_flip d c b
  have e4 := crs_flip d c a
  rw [e1, e2, e3, e4]
  have s : ∀ x, sgn (-x) = - sgn x := fun x => by unfold sgn; split <;> split <;> (try split) <;> (try split) <;> omega
  rw [s, s, s, s, Int.neg_mul_neg, Int.neg_mul_neg, Int.mul_comm (sgn (crs a b d)), Int.mul_comm (sgn (crs c d b))]
theorem meetB_turn (a b c d : Pt) : meetB b a d c = meetB a b c d := by
  unfold meetB
  rw [properB_turn, onB_comm b a d, onB_comm b a c, onB_comm d c b, onB_comm d c a]
  cases properB a b c d <;> cases onB a b c <;> cases onB a b d <;> cases onB c d a <;> cases onB c d b <;> rfl
def anyBad (l : List Pt) : Prop := ∃ i k, i < l.length ∧ k < l.length ∧ k ≠ i ∧ spoilB l i k = true
theorem anyBad_iff {l : List Pt} : anyB (badI l) l.length = true ↔ anyBad l := by
  constructor
  · intro h
    obtain ⟨i, hi, h⟩ := anyB_get h
    obtain ⟨k, hk, h⟩ := anyB_get h
    rw [Bool.and_eq_true] at h
    exact ⟨i, k, hi, hk, of_decide_eq_true h.1, h.2⟩
  · rintro ⟨i, k, hi, hk, hne, h⟩
    exact anyB_true hi (anyB_true hk (by rw [decide_eq_true hne, h]; rfl))
theorem rev_bad1 {l : List Pt} (h3 : 3 ≤ l.length) (h : anyBad l.reverse) : anyBad l := by
  obtain ⟨i, k, hi, hk, hne, h⟩ := h
  rw [List.length_reverse] at hi hk
  by_cases e : pt l.reverse i = pt l.reverse k
  · rw [rev_pt hi, rev_pt hk] at e
    refine ⟨l.length - 1 - i, l.length - 1 - k, by omega, by omega, by omega, ?_⟩
    unfold spoilB
    simp only
    rw [if_pos e]
  · have li := turnI_lt hi
    have lk := turnI_lt hk
    refine ⟨turnI l.length i, turnI l.length k, li, lk, fun q => hne (by rw [← turnI_turn hi, ← turnI_turn hk, q]), ?_⟩
    unfold spoilB at h ⊢
    simp only [List.length_reverse] at h ⊢
    rw [if_neg e, rev_a hi, rev_b hi, rev_a hk, rev_b hk] at h
    by_cases e2 : pt l (turnI l.length i) = pt l (turnI l.length k)
    · rw [if_pos e2]
    · rw [if_neg e2]
      have c1 := turnI_nx hi hk
      have c2 := turnI_nx hk hi
      by_cases a : (i + 1) % l.length = k
      · rw [if_pos a] at h
        have b : ¬ (turnI l.length i + 1) % l.length = turnI l.length k := by
          rw [← c2, nx_eq hk]
          rw [nx_eq hi] at a
          split at a <;> split <;> omega
        rw [if_neg b, if_pos (c1.1 a)]
        rw [onB_comm (pt l (turnI l.length i)), onB_comm (pt l (turnI l.length k)), Bool.or_comm]
        exact h
      · rw [if_neg a] at h
        by_cases b : (k + 1) % l.length = i
        · rw [if_pos b] at h
          rw [if_pos (c2.1 b), onB_comm (pt l (turnI l.length i)), onB_comm (pt l (turnI l.length k)), Bool.or_comm]
          exact h
        · rw [if_neg b] at h
          rw [if_neg (fun q => b (c2.2 q)), if_neg (fun q => a (c1.2 q)), ← meetB_turn]
          exact h
theorem rev_bad {l : List Pt} (h3 : 3 ≤ l.length) : anyB (badI l.reverse) l.length = anyB (badI l) l.length := by
  have e1 : anyB (badI l.reverse) l.length = anyB (badI l.reverse) l.reverse.length := by rw [List.length_reverse]
  rw [e1, Bool.eq_iff_iff, anyBad_iff, anyBad_iff]
  constructor
  · exact rev_bad1 h3
  · intro h
    exact rev_bad1 (by rw [List.length_reverse]; exact h3) (by rw [List.reverse_reverse]; exact h)
theorem rev_all {l : List Pt} : allP l.reverse = allP l := by
  unfold allP
  rw [List.all_reverse]
theorem rev_code (l : List Pt) : ringC l.reverse = ringC l := by
  unfold ringC
  rw [List.length_reverse, rev_all]
  by_cases h : l.length < 3 ∨ 64 < l.length
  · rw [if_pos h, if_pos h]
  · rw [if_neg h, if_neg h, rev_bad (by omega)]
open Jord in
theorem par_turn (f : Nat → Bool) (n : Nat) : par (fun i => f (turnI n i)) n = par f n := by
  cases n with
  | zero => rfl
  | succ m =>
    unfold par
    rw [par_congr (p := fun i => f (turnI (m + 1) i)) (q := fun i => f (m - 1 - i)) (fun i hi => by unfold turnI; rw [if_neg (by omega)]; congr 1), par_rev]
    unfold turnI
    rw [if_pos rfl]; rfl
open Jord in
theorem sumN_turn (f : Nat → Int) (n : Nat) : sumN (fun i => f (turnI n i)) n = sumN f n := by
  cases n with
  | zero => rfl
  | succ m =>
    unfold sumN
    rw [sumN_congr (f := fun i => f (turnI (m + 1) i)) (g := fun i => f (m - 1 - i)) (fun i hi => by unfold turnI; rw [if_neg (by omega)]; congr 1), sumN_rev]
    unfold turnI
    rw [if_pos rfl]; rfl
theorem rev_area (l : List Pt) : areaC l.reverse = - areaC l := by
  have key : areaC l.reverse = Jord.sumN (fun g => (-1) * (pxI l g * pyI l (nxI l g) - pyI l g * pxI l (nxI l g))) l.length := by
    rw [← sumN_turn _ l.length]
    unfold areaC Jord.area2
    rw [List.length_reverse]
    refine Jord.sumN_congr fun i hi => ?_
    unfold pxI pyI nxI
    rw [List.length_reverse, rev_a hi, rev_b hi]
    grind
  rw [key, Jord.sumN_mul]
  unfold areaC Jord.area2
  omega
theorem rev_edge (l : List Pt) (p : Pt) : edgeB l.reverse p = edgeB l p := by
  unfold edgeB
  rw [List.length_reverse]
  refine anyB_re (turnI l.length) (fun i hi => turnI_lt hi) (fun j hj => ⟨turnI l.length j, turnI_lt hj, turnI_turn hj⟩) fun i hi => ?_
  unfold edgeAt
  rw [List.length_reverse, rev_a hi, rev_b hi, onB_comm]
theorem cross_turn (a b p : Pt) : (if a.2 < b.2 then decide (a.2 ≤ p.2) && (decide (p.2 < b.2) && decide (0 < crs a b p)) else decide (b.2 ≤ p.2) && (decide (p.2 < a.2) && decide (0 < crs b a p)))
    = (if b.2 < a.2 then decide (b.2 ≤ p.2) && (decide (p.2 < a.2) && decide (0 < crs b a p)) else decide (a.2 ≤ p.2) && (decide (p.2 < b.2) && decide (0 < crs a b p))) := by
  rcases Int.lt_trichotomy a.2 b.2 with h | h | h
  · rw [if_pos h, if_neg (by omega)]
  · rw [if_neg (by omega), if_neg (by omega)]
    have e1 : (decide (b.2 ≤ p.2) && decide (p.2 < a.2)) = false := by simp; omega
    have e2 : (decide (a.2 ≤ p.2) && decide (p.2 < b.2)) = false := by simp; omega
    rw [← Bool.and_assoc, ← Bool.and_assoc, e1, e2, Bool.false_and, Bool.false_and]
  · rw [if_neg (by omega), if_pos h]
theorem rev_cross (l : List Pt) (p : Pt) : crossTo l.reverse p l.length = crossTo l p l.length := by
  rw [crossTo_par, crossTo_par, ← par_turn (crossAt l p)]
  refine Jord.par_congr fun i hi => ?_
  unfold crossAt
  simp only [List.length_reverse]
  rw [rev_a hi, rev_b hi]
  exact cross_turn _ _ p

/-! ### what RingTurns asks -/
theorem ringOk_code (l : List Pt) : ringOk l = decide (ringC l = 0) := by
  by_cases h : ringEr l = .none
  · rw [ringOk_yes h, decide_eq_true (ringC_none.2 h)]
  · rw [ringOk_no h, decide_eq_false (fun k => h (ringC_none.1 k))]
theorem rot_has {k : Nat} {l : List Pt} (hk : k < l.length) (p : Pt) : hasE (rot k l) p = hasE l p := by
  unfold hasE
  rw [ringOk_code, ringOk_code, rot_code hk, rot_edge hk, rot_len hk, rot_cross hk]
theorem rev_has (l : List Pt) (p : Pt) : hasE l.reverse p = hasE l p := by
  unfold hasE
  rw [ringOk_code, ringOk_code, rev_code, rev_edge, List.length_reverse, rev_cross]
theorem rot_twice {k : Nat} {l : List Pt} (hk : k < l.length) : twiceE (rot k l) = twiceE l := by
  unfold twiceE
  rw [ringOk_code, ringOk_code, rot_code hk, areaV_C (l := l) (by omega), areaV_C (l := rot k l) (by rw [rot_len hk]; omega), rot_area hk]
theorem rot_left {k : Nat} {l : List Pt} (hk : k < l.length) : leftE (rot k l) = leftE l := by
  unfold leftE
  rw [ringOk_code, ringOk_code, rot_code hk, areaV_C (l := l) (by omega), areaV_C (l := rot k l) (by rw [rot_len hk]; omega), rot_area hk]
theorem rev_none {l : List Pt} (h : ringEr l = .none) : ringEr l.reverse = .none := ringC_none.1 (by rw [rev_code]; exact ringC_none.2 h)
theorem rev_twice {l : List Pt} (h : ringEr l = .none) : twiceE l.reverse = twiceE l := by
  unfold twiceE
  rw [ringOk_yes h, ringOk_yes (rev_none h), (areaV_ok h).1, (areaV_ok (rev_none h)).1, rev_area]
  unfold absU
  simp only [if_true]
  split <;> split <;> omega
theorem rev_left {l : List Pt} (h : ringEr l = .none) : leftE l.reverse = !leftE l := by
  unfold leftE
  rw [ringOk_yes h, ringOk_yes (rev_none h), (areaV_ok h).1, (areaV_ok (rev_none h)).1, rev_area]
  have := (areaV_ok h).2.1
  by_cases c : 0 < areaC l
  · rw [decide_eq_true c, decide_eq_false (by omega)]; rfl
  · rw [decide_eq_false c, decide_eq_true (by omega)]; rfl
end

/-! EdgeMath -/
section
theorem bbTo_bd (l : List Pt) : ∀ k i, i < k → (bbTo l k).1 ≤ (pt l i).1 ∧ (bbTo l k).2.1 ≤ (pt l i).2 ∧ (pt l i).1 ≤ (bbTo l k).2.2.1 ∧ (pt l i).2 ≤ (bbTo l k).2.2.2
  | 0, i, h => absurd h (Nat.not_lt_zero _)
  | k + 1, i, h => by
    unfold bbTo
    simp only
    by_cases e : i = k
    · subst e; omega
    · have := bbTo_bd l k i (by omega); omega
theorem bbTo_in {l : List Pt} (hl : allP l = true) (h0 : 0 < l.length) : ∀ k, k ≤ l.length → inP (bbTo l k).1 (bbTo l k).2.1 ∧ inP (bbTo l k).2.2.1 (bbTo l k).2.2.2
  | 0, _ => ⟨okP_inP (pt_ok hl h0), okP_inP (pt_ok hl h0)⟩
  | k + 1, h => by
    have ih := bbTo_in hl h0 k (by omega)
    have o := okP_inP (pt_ok hl (i := k) (by omega))
    unfold bbTo
    simp only
    obtain ⟨⟨⟨a1, a2⟩, a3, a4⟩, ⟨b1, b2⟩, b3, b4⟩ := ih
    obtain ⟨⟨c1, c2⟩, c3, c4⟩ := o
    exact ⟨⟨⟨by omega, by omega⟩, by omega, by omega⟩, ⟨by omega, by omega⟩, by omega, by omega⟩
theorem bb_code {l : List Pt} (h : ringEr l = .none) : boxCode (bbTo l l.length).1 (bbTo l l.length).2.1 (bbTo l l.length).2.2.1 (bbTo l l.length).2.2.2 = 0 := by
  obtain ⟨hl, h3, h64⟩ := ringEr_ok h
  have hb := bbTo_bd l l.length 0 (by omega)
  have hi := bbTo_in hl (by omega) l.length (Nat.le_refl _)
  exact boxCode_zero.2 ⟨hi.1, hi.2, by omega, by omega⟩
theorem crs_split (a b p : Pt) : crs a b p = (b.1 - p.1) * (p.2 - a.2) + (a.1 - p.1) * (b.2 - p.2) := by
  unfold crs
  grind
open Jord in
theorem par_cyc {l : List Pt} (h0 : 0 < l.length) (f : Nat → Bool) : par (fun g => f g ^^ f (nxI l g)) l.length = false := by
  obtain ⟨m, hm⟩ : ∃ m, l.length = m + 1 := ⟨l.length - 1, by omega⟩
  have last : nxI l m = 0 := by rw [nxI_eq (by omega), if_pos (by omega)]
  rw [hm]
  unfold par
  rw [last, par_congr (q := fun g => f g ^^ f (g + 1)) (fun g hg => by rw [nxI_eq (by omega), if_neg (by omega)]), par_last]
  cases f 0 <;> cases f m <;> rfl
theorem crossAt_left {l : List Pt} {p : Pt} {i : Nat} (ha : p.1 < (pt l i).1) (hb : p.1 < (pt l ((i + 1) % l.length)).1) : crossAt l p i = (decide ((pt l i).2 ≤ p.2) ^^ decide ((pt l (nxI l i)).2 ≤ p.2)) := by
  unfold crossAt nxI
  simp only
  generalize pt l i = a at *
  generalize pt l ((i + 1) % l.length) = b at *
  have e1 := crs_split a b p
  have e2 := crs_split b a p
  have pos : ∀ x y z t : Int, 0 < x → 0 ≤ y → 0 < z → 0 < t → 0 < x * y + z * t := fun x y z t h1 h2 h3 h4 => by
    have := Int.mul_nonneg (show 0 ≤ x by omega) h2
    have := Int.mul_pos h3 h4
    omega
  by_cases h : b.2 < a.2
  · rw [if_pos h]
    by_cases h1 : b.2 ≤ p.2
    · by_cases h2 : p.2 < a.2
      · have := pos (a.1 - p.1) (p.2 - b.2) (b.1 - p.1) (a.2 - p.2) (by omega) (by omega) (by omega) (by omega)
        rw [decide_eq_true h1, decide_eq_true h2, decide_eq_true (show 0 < crs b a p by omega), decide_eq_false (show ¬ a.2 ≤ p.2 by omega)]; rfl
      · rw [decide_eq_true h1, decide_eq_false h2, decide_eq_true (show a.2 ≤ p.2 by omega)]; rfl
    · rw [decide_eq_false h1, decide_eq_false (show ¬ a.2 ≤ p.2 by omega)]; rfl
  · rw [if_neg h]
    by_cases h1 : a.2 ≤ p.2
    · by_cases h2 : p.2 < b.2
      · have := pos (b.1 - p.1) (p.2 - a.2) (a.1 - p.1) (b.2 - p.2) (by omega) (by omega) (by omega) (by omega)
        rw [decide_eq_true h1, decide_eq_true h2, decide_eq_true (show 0 < crs a b p by omega), decide_eq_false (show ¬ b.2 ≤ p.2 by omega)]; rfl
      · rw [decide_eq_true h1, decide_eq_false h2, decide_eq_true (show b.2 ≤ p.2 by omega)]; rfl
    · rw [decide_eq_false h1, decide_eq_false (show ¬ b.2 ≤ p.2 by omega)]; rfl
theorem crossAt_in {l : List Pt} {p : Pt} {i : Nat} (h : crossAt l p i = true) : ((pt l i).2 ≤ p.2 ∨ (pt l ((i + 1) % l.length)).2 ≤ p.2) ∧ (p.2 < (pt l i).2 ∨ p.2 < (pt l ((i + 1) % l.length)).2) ∧ (p.1 < (pt l i).1 ∨ p.1 < (pt l ((i + 1) % l.length)).1) := by
  unfold crossAt at h
  simp only at h
  generalize pt l i = a at *
  generalize pt l ((i + 1) % l.length) = b at *
  have neg : ∀ x y z t : Int, x ≤ 0 → 0 ≤ y → z ≤ 0 → 0 ≤ t → x * y + z * t ≤ 0 := fun x y z t h1 h2 h3 h4 => by
    have := Int.mul_nonneg (show 0 ≤ -x by omega) h2
    have := Int.mul_nonneg (show 0 ≤ -z by omega) h4
    rw [Int.neg_mul] at *
    omega
  by_cases hs : b.2 < a.2
  · rw [if_pos hs] at h
    simp only [Bool.and_eq_true, decide_eq_true_eq] at h
    obtain ⟨h1, h2, h3⟩ := h
    refine ⟨.inr h1, .inl h2, ?_⟩
    by_cases c1 : p.1 < a.1
    · exact .inl c1
    · by_cases c2 : p.1 < b.1
      · exact .inr c2
      · rw [crs_split] at h3
        have := neg (a.1 - p.1) (p.2 - b.2) (b.1 - p.1) (a.2 - p.2) (by omega) (by omega) (by omega) (by omega)
        omega
  · rw [if_neg hs] at h
    simp only [Bool.and_eq_true, decide_eq_true_eq] at h
    obtain ⟨h1, h2, h3⟩ := h
    refine ⟨.inl h1, .inr h2, ?_⟩
    by_cases c1 : p.1 < a.1
    · exact .inl c1
    · by_cases c2 : p.1 < b.1
      · exact .inr c2
      · rw [crs_split] at h3
        have := neg (b.1 - p.1) (p.2 - a.2) (a.1 - p.1) (b.2 - p.2) (by omega) (by omega) (by omega) (by omega)
        omega
theorem has_box {l : List Pt} (h : ringEr l = .none) {p : Pt} (hp : hasE l p = true) : boxHasB (bbTo l l.length).1 (bbTo l l.length).2.1 (bbTo l l.length).2.2.1 (bbTo l l.length).2.2.2 p.1 p.2 = true := by
  obtain ⟨hl, h3, h64⟩ := ringEr_ok h
  have bd := bbTo_bd l l.length
  have hc := bb_code h
  unfold hasE at hp
  simp only [Bool.and_eq_true, Bool.or_eq_true] at hp
  obtain ⟨_, ok, hp⟩ := hp
  have nlt : ∀ i, (i + 1) % l.length < l.length := fun i => Nat.mod_lt _ (by omega)
  unfold boxHasB
  generalize bbTo l l.length = bb at *
  obtain ⟨x0, y0, x1, y1⟩ := bb
  simp only at hc bd ⊢
  have fin : x0 ≤ p.1 ∧ p.1 ≤ x1 ∧ y0 ≤ p.2 ∧ p.2 ≤ y1 := by
    rcases hp with hp | hp
    · obtain ⟨i, hi, he⟩ := anyB_get hp
      unfold edgeAt onB at he
      simp only [Bool.and_eq_true] at he
      have hb := of_decide_eq_true he.2
      have b1 := bd i hi
      have b2 := bd _ (nlt i)
      omega
    · rw [crossTo_par] at hp
      have ex : ∃ i, i < l.length ∧ crossAt l p i = true := by
        refine Classical.byContradiction fun hn => ?_
        rw [Jord.par_no (fun i hi => by
          cases hq : crossAt l p i with
          | false => rfl
          | true => exact absurd ⟨i, hi, hq⟩ hn)] at hp
        cases hp
      obtain ⟨i, hi, hx⟩ := ex
      obtain ⟨c1, c2, c3⟩ := crossAt_in hx
      have b1 := bd i hi
      have b2 := bd _ (nlt i)
      refine ⟨Int.not_lt.1 fun hlt => ?_, by omega, by omega, by omega⟩
      rw [Jord.par_congr (q := fun g => decide ((pt l g).2 ≤ p.2) ^^ decide ((pt l (nxI l g)).2 ≤ p.2)) (fun g hg => crossAt_left (by have := bd g hg; omega) (by have := bd _ (nlt g); omega)), par_cyc (by omega) (fun g => decide ((pt l g).2 ≤ p.2))] at hp
      cases hp
  rw [decide_eq_true hc, decide_eq_true (p := inP p.1 p.2) (okP_inP ok), decide_eq_true fin.1, decide_eq_true fin.2.1, decide_eq_true fin.2.2.1, decide_eq_true fin.2.2.2]
  rfl
theorem edge_has {l : List Pt} {p : Pt} (h : edgeE l p = true) : hasE l p = true := by
  unfold edgeE at h
  simp only [Bool.and_eq_true] at h
  unfold hasE
  rw [h.1, h.2]
  have : okP p = true := by
    obtain ⟨i, hi, he⟩ := anyB_get h.2
    unfold edgeAt onB at he
    simp only [Bool.and_eq_true] at he
    exact he.1.1.2
  rw [this]; rfl
theorem corner_edge {l : List Pt} (h : ringEr l = .none) {k : Nat} (hk : k < l.length) : edgeE l (pt l k) = true := by
  obtain ⟨hl, h3, h64⟩ := ringEr_ok h
  unfold edgeE
  rw [ringOk_yes h, Bool.true_and]
  refine anyB_true hk ?_
  unfold edgeAt
  rw [onB_comm]
  exact on_end (pt_ok hl (Nat.mod_lt _ (by omega))) (pt_ok hl hk)
theorem out_has {l : List Pt} (h : ringEr l = .none) (y : Int) : hasE l ((bbTo l l.length).2.2.1 + 1, y) = false := by
  cases hq : hasE l ((bbTo l l.length).2.2.1 + 1, y) with
  | false => rfl
  | true =>
    have := has_box h hq
    unfold boxHasB at this
    simp only [Bool.and_eq_true, decide_eq_true_eq] at this
    omega
theorem twice_pos {l : List Pt} (h : ringEr l = .none) : 0 < twiceE l ∧ twiceE l < 9223372036854775808 := by
  obtain ⟨a, b, c, d⟩ := areaV_ok h
  unfold twiceE
  rw [ringOk_yes h, a]
  unfold absU
  simp only [if_true]
  split <;> omega
end

/-! SKey -/
section
open Go.RowKit

theorem boxCode_of {a b c d : Int} (h1 : inP a b) (h2 : inP c d) (h3 : a ≤ c) (h4 : b ≤ d) : boxCode a b c d = 0 := boxCode_zero.2 ⟨h1, h2, h3, h4⟩
theorem okP_of {p : Pt} (h : ¬ okP p = false) : inP p.1 p.2 := okP_inP (by simpa using h)
theorem oBox_code {kind : Int} {l : List Pt} (h : objCode kind l = 0) : boxCode (oBox kind l).1 (oBox kind l).2.1 (oBox kind l).2.2.1 (oBox kind l).2.2.2 = 0 := by
  rcases objCode_kind h with rfl | rfl | rfl | rfl
  · rw [objCode_1] at h
    split at h
    · cases h
    · split at h
      · cases h
      · rename_i h2
        have hp := okP_of h2
        exact boxCode_of hp hp (Int.le_refl _) (Int.le_refl _)
  · rw [objCode_2] at h
    split at h
    · cases h
    · split at h
      · cases h
      · rename_i h2
        have hp := okP_of h2
        split at h
        · cases h
        · rename_i h3
          obtain ⟨⟨p1, p2⟩, p3, p4⟩ := hp
          exact boxCode_of ⟨⟨p1, p2⟩, (show inC 0 from ⟨by decide, by decide⟩)⟩ ⟨⟨p3, p4⟩, (show inC 0 from ⟨by decide, by decide⟩)⟩ (by show (pt l 0).1 ≤ (pt l 0).2; omega) (Int.le_refl _)
  · rw [objCode_3] at h
    split at h
    · cases h
    · exact h
  · rw [objCode_4] at h
    have hr := ringRes_zero.1 h
    have hb : oBox 4 l = bbTo l l.length := by
      unfold oBox bbE
      rw [if_neg (by decide), if_neg (by decide), if_neg (by decide), ringOk_yes hr]
      rfl
    rw [hb]
    exact bb_code hr
theorem mid_in {a b c d : Int} (h : boxCode a b c d = 0) : inP ((a + c) / 2) ((b + d) / 2) := by
  obtain ⟨⟨⟨h1, h2⟩, h3, h4⟩, ⟨⟨h5, h6⟩, h7, h8⟩, h9, h10⟩ := boxCode_zero.1 h
  exact ⟨⟨by omega, by omega⟩, by omega, by omega⟩
/-- where an object that may be stands -/
def objKey (kind : Int) (l : List Pt) : Nat := Cv.zOf (((oBox kind l).1 + (oBox kind l).2.2.1) / 2) (((oBox kind l).2.1 + (oBox kind l).2.2.2) / 2)
theorem objKey_lt (kind : Int) (l : List Pt) : objKey kind l < 18446744073709551616 := by
  have h : ∀ x y, Cv.ilv 31 x y < 4 ^ 31 := fun x y => Cv.ilv_lt 31 x y
  have := h ((((oBox kind l).1 + (oBox kind l).2.2.1) / 2) + 1073741824).toNat ((((oBox kind l).2.1 + (oBox kind l).2.2.2) / 2) + 1073741824).toNat
  unfold objKey Cv.zOf
  omega

theorem Key_ok (kind : Int) (v : Value) (l : List Pt) (w : World) (hv : Pts w v l) (h : objCode kind l = 0) :
    Calls Tryz.prog 11 #[.agg #[.int .i64 kind, v]] w fun e w' => e = .returned (.tuple #[.int .u64 (objKey kind l : Nat), .nilIface]) ∧ Below w.heap.size w w' := by
  have hv0 := hv
  obtain ⟨ao, c, rfl, h1, h2, _, _⟩ := hv.open
  have B0 : Below w.heap.size w (w.alloc (.cells #[.int .i64 kind, .slice ao l.length c] 39)) := (Below.refl _ _).alloc (Nat.le_refl _) _
  have C := Lib.hid (relBnd_ok kind _ l _ (hv0.below B0) h)
  have hc := oBox_code h
  have hm := mid_in hc
  have HK := Lib.hid (show objKey kind l = Cv.zOf (((oBox kind l).1 + (oBox kind l).2.2.1) / 2) (((oBox kind l).2.1 + (oBox kind l).2.2.2) / 2) from rfl)
  unfold maxLen at h2
  generalize oBox kind l = bb at *
  obtain ⟨a, b, cc, d⟩ := bb
  simp only at hc hm HK
  have CE := Lib.hid (fun w => Cv.Centre_ok a b cc d w hc)
  have ZE := Lib.hid (fun w => Cv.Z_pt _ _ w hm)
  generalize (a + cc) / 2 = x at *
  generalize (b + d) / 2 = y at *
  clear hv hv0 h hc hm
  unfold bxAgg at C
  go_enter Tryz.func11, Tryz.ntmps11
  go_wp2_with fail
  refine C.out.mono ?_
  rintro e w1 ⟨rfl, b1⟩
  have B1 := B0.trans (b1.mono B0.size)
  have B2 := B1.alloc B1.size (.cells #[.int .i64 a, .int .i64 b, .int .i64 cc, .int .i64 d] 69)
  go_wp2_with fail
  refine (CE.out _).mono ?_
  rintro e w2 ⟨u, rfl, rfl, b2⟩
  have B3 := B2.trans (b2.mono B2.size)
  have B4 := B3.alloc B3.size (.cells #[.int .i64 x, .int .i64 y] 67)
  go_wp2_with fail
  refine (ZE.out _).mono ?_
  rintro e w3 ⟨u, rfl, rfl, b3⟩
  have B5 := B4.trans (b3.mono B4.size)
  go_wp2_with fail
  go_ret2
  exact ⟨by rw [HK.out]; rfl, B5⟩
theorem Key_no (kind : Int) (v : Value) (l : List Pt) (w : World) (hv : Pts w v l) (h : objCode kind l ≠ 0) :
    Calls Tryz.prog 11 #[.agg #[.int .i64 kind, v]] w fun e w' => ∃ u, e = .returned (.tuple #[.int .u64 0, u]) ∧ ((objEr kind l).wrap strObj kind).Is w' u ∧ Below w.heap.size w w' := by
  have hv0 := hv
  obtain ⟨ao, c, rfl, h1, h2, _, _⟩ := hv.open
  have B0 : Below w.heap.size w (w.alloc (.cells #[.int .i64 kind, .slice ao l.length c] 39)) := (Below.refl _ _).alloc (Nat.le_refl _) _
  have C := Lib.hid (relBnd_no kind _ l _ (hv0.below B0) h)
  have hne : (objEr kind l).wrap strObj kind ≠ .none := fun q => h (objEr_none.1 (wrap_none.1 q))
  generalize (objEr kind l).wrap strObj kind = E at *
  unfold maxLen at h2
  clear hv hv0 h
  unfold bxAgg at C
  go_enter Tryz.func11, Tryz.ntmps11
  go_wp2_with fail
  refine C.out.mono ?_
  rintro e w1 ⟨u, rfl, hu, b1⟩
  obtain ⟨T, x, rfl⟩ := hu.iface hne
  have B1 := B0.trans (b1.mono B0.size)
  have B2 := B1.alloc B1.size (.cells #[.int .i64 0, .int .i64 0, .int .i64 0, .int .i64 0] 69)
  have HU := Lib.hid (hu.below ((Below.refl _ _).alloc (Nat.le_refl _) (.cells #[.int .i64 0, .int .i64 0, .int .i64 0, .int .i64 0] 69)))
  clear hu
  go_wp2_with fail
  go_ret2
  exact ⟨_, rfl, HU.out, B2⟩
end

/-! SItem -/
section
open Go.RowKit

def itC (x : KdV) : List Value := [.int .i64 x.1.id, .int .i64 x.1.kind, x.2]
def itR (r : List KdV) : List Value := r.flatMap itC
theorem itR_length : ∀ r : List KdV, (itR r).length = r.length * 3
  | [] => rfl
  | x :: r => by
    have ih := itR_length r
    unfold itR at ih ⊢
    rw [List.flatMap_cons, List.length_append, ih, List.length_cons]
    simp only [itC, List.length_cons, List.length_nil]
    omega
theorem itR_append (r s : List KdV) : itR (r ++ s) = itR r ++ itR s := by simp [itR]
theorem itR_get : ∀ (r : List KdV) (i : Nat) (h : i < r.length) (j : Nat), j < 3 → (itR r)[i * 3 + j]? = (itC r[i])[j]?
  | x :: r, 0, _, j, hj => by
    unfold itR
    rw [List.flatMap_cons, Nat.zero_mul, Nat.zero_add, List.getElem?_append_left (by simpa [itC] using hj)]
    rfl
  | x :: r, i + 1, h, j, hj => by
    have ih := itR_get r i (by simpa using h) j hj
    unfold itR at ih ⊢
    rw [List.flatMap_cons, show (i + 1) * 3 + j = (itC x).length + (i * 3 + j) by simp only [itC, List.length_cons, List.length_nil]; omega, List.getElem?_append_right (Nat.le_add_right _ _), Nat.add_sub_cancel_left, ih]
    rfl
theorem itR_one (r : List KdV) (h : ∀ x ∈ r, IsSl x.2) : ∀ u ∈ itR r, u.oneCell' = true := by
  intro u hu
  obtain ⟨x, hx, hu⟩ := List.mem_flatMap.1 hu
  simp only [itC, List.mem_cons, List.not_mem_nil, or_false] at hu
  rcases hu with rfl | rfl | rfl
  · rfl
  · rfl
  · exact (h x hx).one
/-- v reads as a row of items. -/
def ItRd (w : World) (v : Value) (r : List KdV) : Prop := Rd w v r.length (itR r) ∧ ∀ x ∈ r, Pts w x.2 x.1.pts
/-- v is a row of items of the call's own, their points too. -/
def ItOwn (w : World) (B : Nat) (v : Value) (r : List KdV) : Prop := w.ownsRow B 41 3 v r.length (itR r) ∧ ∀ x ∈ r, OwnPt w B x.2 x.1.pts
theorem ItOwn.rd {w : World} {B : Nat} {v : Value} {r : List KdV} (h : ItOwn w B v r) : ItRd w v r := ⟨Rd.of_own h.1, fun x hx => (h.2 x hx).pts⟩
theorem ItOwn.below {w w' : World} {B : Nat} {v : Value} {r : List KdV} (h : ItOwn w B v r) (hb : Below w.heap.size w w') : ItOwn w' B v r := ⟨own_below' h.1 hb, fun x hx => (h.2 x hx).below hb⟩
theorem ItRd.below {w w' : World} {v : Value} {r : List KdV} (h : ItRd w v r) (hb : Below w.heap.size w w') : ItRd w' v r := ⟨h.1.below hb, fun x hx => (h.2 x hx).below hb⟩
theorem ItRd.nil (w : World) : ItRd w (.slice none 0 0) [] := ⟨Rd.nil w, fun x hx => by cases hx⟩
theorem info_itS : (Tryz.prog.info? 41).map (fun i => (i.zero, i.size, i.bytes)) = some (some (.agg #[.int .i64 0, .int .i64 0, .slice none 0 0]), 3, 40) := by kernel_rfl
/-- what a row of items says, cell by cell -/
theorem ItRd.open {w : World} {v : Value} {r : List KdV} (h : ItRd w v r) : ∃ ao c, v = .slice ao r.length c ∧ r.length ≤ c ∧ c ≤ maxLen ∧ (ao = none → c = 0) ∧
    ∀ i x, r[i]? = some x → ∃ b off, ao = some ⟨b, off, none⟩ ∧ b < w.heap.size ∧ w.cell? ⟨b, off + i * 3, none⟩ = some (.int .i64 x.1.id) ∧ w.cell? ⟨b, off + i * 3 + 1, none⟩ = some (.int .i64 x.1.kind) ∧ w.cell? ⟨b, off + i * 3 + 2, none⟩ = some x.2 := by
  obtain ⟨ao, c, hv, h1, h2, h0, h3⟩ := h.1
  refine ⟨ao, c, hv, h1, h2, h0, fun i x hx => ?_⟩
  obtain ⟨hi, rfl⟩ := List.getElem?_eq_some_iff.1 hx
  have hl := itR_length r
  have c := fun j (hj : j < 3) => itR_get r i hi j hj
  have each : ∀ j, j < 3 → ∃ b off, ao = some ⟨b, off, none⟩ ∧ b < w.heap.size ∧ w.cell? ⟨b, off + (i * 3 + j), none⟩ = (itC r[i])[j]? := fun j hj => by
    obtain ⟨b, off, e, hb, hc⟩ := h3 (i * 3 + j) (by omega)
    refine ⟨b, off, e, hb, ?_⟩
    rw [hc, ← c j hj, List.getElem?_eq_getElem]
  obtain ⟨b, off, e, hb, c0⟩ := each 0 (by omega)
  obtain ⟨b1, o1, e1, _, c1⟩ := each 1 (by omega)
  obtain ⟨b2, o2, e2, _, c2⟩ := each 2 (by omega)
  rw [e] at e1 e2
  cases e1; cases e2
  exact ⟨b, off, e, hb, c0, c1, c2⟩

/-- an item's key is its object's -/
def KeyIs (r : List KdV) : Prop := ∀ x ∈ r, x.1.key = objKey x.1.kind x.1.pts
abbrev okO (x : KdL) : Prop := objCode x.kind x.pts = 0
def strSort : ByteArray := ⟨#[115, 111, 114, 116]⟩
/-- why the items may not be sorted -/
def sortEr : List KdL → Er
  | [] => .none
  | x :: l => if objCode x.kind x.pts = 0 then sortEr l else ((objEr x.kind x.pts).wrap strObj x.kind).wrap strSort x.id
theorem wrap_ne {E : Er} {s : ByteArray} {i : Int} (h : E ≠ .none) : E.wrap s i ≠ .none := by cases E <;> simp_all [Er.wrap]
theorem objEr_ne {kind : Int} {l : List Pt} (h : objCode kind l ≠ 0) : objEr kind l ≠ .none := fun q => h (objEr_none.1 q)
theorem sortEr_ok {l : List KdL} (h : ∀ x ∈ l, okO x) : sortEr l = .none := by
  induction l with
  | nil => rfl
  | cons x l ih =>
    unfold sortEr
    rw [if_pos (h x (by simp)), ih (fun y hy => h y (by simp [hy]))]
theorem sortEr_no {l : List KdL} {i : Nat} {x : KdL} (h : ∀ y ∈ l.take i, okO y) (hx : l[i]? = some x) (hn : objCode x.kind x.pts ≠ 0) : sortEr l = ((objEr x.kind x.pts).wrap strObj x.kind).wrap strSort x.id := by
  induction l generalizing i with
  | nil => simp at hx
  | cons y l ih =>
    unfold sortEr
    cases i with
    | zero =>
      simp at hx
      subst hx
      rw [if_neg hn]
    | succ i =>
      rw [if_pos (h y (by simp)), ih (fun z hz => h z (by rw [List.take_succ_cons]; exact List.mem_cons_of_mem _ hz)) (by simpa using hx)]
theorem sortEr_none {l : List KdL} (h : sortEr l = .none) : ∀ x ∈ l, okO x := by
  induction l with
  | nil => intro x hx; cases hx
  | cons y l ih =>
    unfold sortEr at h
    split at h
    · intro x hx
      rcases List.mem_cons.1 hx with rfl | hx
      · assumption
      · exact ih h x hx
    · rename_i hn
      exact absurd h (wrap_ne (wrap_ne (objEr_ne hn)))
end

end Go.Proofs.YtoggbmfjjenbaaaGreatDoor
