/- The program's word on a ring and the document's are one: plain Lean. ring.area, Left, edge, Edge. (printed by wip/gen_area.py) ring.edge, Edge, Left. (printed by wip/gen_edge.py) -/
import Derived.Test.YthcfekabeidmiaaRRDoorREo10
set_option linter.unusedSimpArgs false
set_option linter.unusedVariables false
namespace Go.Proofs.YthcfekabeidmiaaRRDoorR
/-! RingEq -/
section
theorem same_sign {u v : Int} (h : 0 ≤ u * v) : (0 ≤ u ∧ 0 ≤ v) ∨ (u ≤ 0 ∧ v ≤ 0) := by
  rcases Int.lt_trichotomy u 0 with hu | hu | hu
  · refine .inr ⟨by omega, Int.not_lt.1 fun hv => ?_⟩
    have := Int.mul_neg_of_neg_of_pos hu hv
    omega
  · subst hu; omega
  · refine .inl ⟨by omega, Int.not_lt.1 fun hv => ?_⟩
    have := Int.mul_neg_of_pos_of_neg hu hv
    omega
theorem dot_of_box {u1 u2 v1 v2 : Int} (h1 : (0 ≤ v1 ∧ v1 ≤ u1) ∨ (u1 ≤ v1 ∧ v1 ≤ 0)) (h2 : (0 ≤ v2 ∧ v2 ≤ u2) ∨ (u2 ≤ v2 ∧ v2 ≤ 0)) (hne : ¬ (v1 = 0 ∧ v2 = 0)) : 0 < u1 * v1 + u2 * v2 := by
  have n1 : 0 ≤ u1 * v1 := by
    rcases h1 with ⟨a, b⟩ | ⟨a, b⟩
    · exact Int.mul_nonneg (by omega) a
    · exact Int.mul_nonneg_of_nonpos_of_nonpos (by omega) b
  have n2 : 0 ≤ u2 * v2 := by
    rcases h2 with ⟨a, b⟩ | ⟨a, b⟩
    · exact Int.mul_nonneg (by omega) a
    · exact Int.mul_nonneg_of_nonpos_of_nonpos (by omega) b
  by_cases z1 : v1 = 0
  · have : 0 < u2 * v2 := by
      rcases h2 with ⟨a, b⟩ | ⟨a, b⟩
      · exact Int.mul_pos (by omega) (by omega)
      · exact Int.mul_pos_of_neg_of_neg (by omega) (by omega)
    omega
  · have : 0 < u1 * v1 := by
      rcases h1 with ⟨a, b⟩ | ⟨a, b⟩
      · exact Int.mul_pos (by omega) (by omega)
      · exact Int.mul_pos_of_neg_of_neg (by omega) (by omega)
    omega
theorem box_of_dot {u1 u2 v1 v2 : Int} (hc : u1 * v2 = u2 * v1) (hd : 0 < u1 * v1 + u2 * v2) :
    (((0 ≤ v1 ∧ v1 ≤ u1) ∨ (u1 ≤ v1 ∧ v1 ≤ 0)) ∧ ((0 ≤ v2 ∧ v2 ≤ u2) ∨ (u2 ≤ v2 ∧ v2 ≤ 0))) ∨ (((0 ≤ u1 ∧ u1 ≤ v1) ∨ (v1 ≤ u1 ∧ u1 ≤ 0)) ∧ ((0 ≤ u2 ∧ u2 ≤ v2) ∨ (v2 ≤ u2 ∧ u2 ≤ 0))) := by
  have hp : 0 ≤ (u1 * v1) * (u2 * v2) := by
    have e : (u1 * v1) * (u2 * v2) = (u2 * v1) * (u2 * v1) := by
      have : (u1 * v1) * (u2 * v2) = (u1 * v2) * (u2 * v1) := by
        simp only [Int.mul_comm, Int.mul_left_comm]
      rw [this, hc]
    rw [e]
    rcases Int.le_total 0 (u2 * v1) with h | h
    · exact Int.mul_nonneg h h
    · exact Int.mul_nonneg_of_nonpos_of_nonpos h h
  have s := same_sign hp
  have s1 := same_sign (show 0 ≤ u1 * v1 by omega)
  have s2 := same_sign (show 0 ≤ u2 * v2 by omega)
  have hn : u1.natAbs * v2.natAbs = u2.natAbs * v1.natAbs := by rw [← Int.natAbs_mul, hc, Int.natAbs_mul]
  have m1 : ¬ (v1.natAbs < u1.natAbs ∧ u2.natAbs < v2.natAbs) := fun ⟨a, b⟩ => by
    have : v1.natAbs * u2.natAbs < u1.natAbs * v2.natAbs := Nat.mul_lt_mul'' a b
    rw [hn, Nat.mul_comm] at this
    omega
  have m2 : ¬ (u1.natAbs < v1.natAbs ∧ v2.natAbs < u2.natAbs) := fun ⟨a, b⟩ => by
    have : u1.natAbs * v2.natAbs < v1.natAbs * u2.natAbs := Nat.mul_lt_mul'' a b
    rw [hn, Nat.mul_comm] at this
    omega
  clear hn hp s hc
  omega
theorem crs_flip (a b c : Pt) : crs a b c = - crs b a c := by
  unfold crs
  simp only [Int.sub_mul, Int.mul_sub]
  have e1 : a.1 * b.2 = b.2 * a.1 := Int.mul_comm _ _
  have e2 : b.1 * a.2 = a.2 * b.1 := Int.mul_comm _ _
  have e3 : a.2 * a.1 = a.1 * a.2 := Int.mul_comm _ _
  have e4 : b.2 * b.1 = b.1 * b.2 := Int.mul_comm _ _
  omega
theorem crs_turn (b d a : Pt) : crs b d a = - crs b a d := by
  unfold crs
  simp only [Int.sub_mul, Int.mul_sub]
  have e1 : d.1 * a.2 = a.2 * d.1 := Int.mul_comm _ _
  have e2 : d.1 * b.2 = b.2 * d.1 := Int.mul_comm _ _
  have e3 : b.1 * a.2 = a.2 * b.1 := Int.mul_comm _ _
  have e4 : d.2 * a.1 = a.1 * d.2 := Int.mul_comm _ _
  have e5 : d.2 * b.1 = b.1 * d.2 := Int.mul_comm _ _
  have e6 : b.2 * a.1 = a.1 * b.2 := Int.mul_comm _ _
  have e7 : b.2 * b.1 = b.1 * b.2 := Int.mul_comm _ _
  omega
theorem onB_comm (a b p : Pt) : onB a b p = onB b a p := by
  unfold onB
  have e1 : decide (crs a b p = 0) = decide (crs b a p = 0) := by
    have := crs_flip a b p
    exact decide_eq_decide.2 (by omega)
  have e2 : boxB a b p = boxB b a p := by unfold boxB; rw [Int.min_comm a.1, Int.max_comm a.1, Int.min_comm a.2, Int.max_comm a.2]
  rw [e1, e2, Bool.and_comm (okP a) (okP b)]
theorem over_on {a b d : Pt} (oa : okP a = true) (ob : okP b = true) (od : okP d = true) (hab : a ≠ b) (hdb : d ≠ b) : (onB a b d || onB b d a) = overB a b d := by
  have n1 : ¬ (d.1 - b.1 = 0 ∧ d.2 - b.2 = 0) := fun ⟨p, q⟩ => hdb (Prod.ext (by omega) (by omega))
  have n2 : ¬ (a.1 - b.1 = 0 ∧ a.2 - b.2 = 0) := fun ⟨p, q⟩ => hab (Prod.ext (by omega) (by omega))
  unfold onB overB
  rw [oa, ob, od, decide_eq_true (show a ≠ b from hab), decide_eq_true (show d ≠ b from hdb)]
  have c1 := crs_flip a b d
  have c2 := crs_turn b d a
  by_cases h : crs b a d = 0
  · rw [decide_eq_true (show crs a b d = 0 by omega), decide_eq_true (show crs b d a = 0 by omega), decide_eq_true h]
    simp only [Bool.true_and]
    have hc : (a.1 - b.1) * (d.2 - b.2) = (a.2 - b.2) * (d.1 - b.1) := by unfold crs at h; omega
    unfold boxB dotv
    by_cases hd : 0 < (a.1 - b.1) * (d.1 - b.1) + (a.2 - b.2) * (d.2 - b.2)
    · rw [decide_eq_true hd]
      have := box_of_dot hc hd
      rcases this with ⟨p, q⟩ | ⟨p, q⟩
      · rw [decide_eq_true (p := min a.1 b.1 ≤ d.1 ∧ d.1 ≤ max a.1 b.1 ∧ min a.2 b.2 ≤ d.2 ∧ d.2 ≤ max a.2 b.2) (by omega)]
        rfl
      · rw [decide_eq_true (p := min b.1 d.1 ≤ a.1 ∧ a.1 ≤ max b.1 d.1 ∧ min b.2 d.2 ≤ a.2 ∧ a.2 ≤ max b.2 d.2) (by omega), Bool.or_true]
    · rw [decide_eq_false hd]
      have k1 : ¬ (min a.1 b.1 ≤ d.1 ∧ d.1 ≤ max a.1 b.1 ∧ min a.2 b.2 ≤ d.2 ∧ d.2 ≤ max a.2 b.2) := fun hh =>
        hd (dot_of_box (by omega) (by omega) n1)
      have k2 : ¬ (min b.1 d.1 ≤ a.1 ∧ a.1 ≤ max b.1 d.1 ∧ min b.2 d.2 ≤ a.2 ∧ a.2 ≤ max b.2 d.2) := fun hh => by
        have := dot_of_box (u1 := d.1 - b.1) (u2 := d.2 - b.2) (v1 := a.1 - b.1) (v2 := a.2 - b.2) (by omega) (by omega) n2
        rw [Int.mul_comm (d.1 - b.1), Int.mul_comm (d.2 - b.2)] at this
        exact hd this
      rw [decide_eq_false k1, decide_eq_false k2]
      rfl
  · rw [decide_eq_false (show ¬ crs a b d = 0 by omega), decide_eq_false (show ¬ crs b d a = 0 by omega), decide_eq_false h]
    rfl
theorem on_end {a b : Pt} (oa : okP a = true) (ob : okP b = true) : onB a b b = true := by
  unfold onB
  rw [oa, ob, decide_eq_true (show crs a b b = 0 by unfold crs; rw [Int.mul_comm]; omega)]
  unfold boxB
  rw [decide_eq_true (by omega)]
  rfl

theorem nx_eq {n i : Nat} (h : i < n) : (i + 1) % n = if i + 1 = n then 0 else i + 1 := by
  split
  · rename_i e; rw [e, Nat.mod_self]
  · exact Nat.mod_eq_of_lt (by omega)
theorem spoil_comm {l : List Pt} {i k : Nat} (h3 : 3 ≤ l.length) (hi : i < l.length) (hk : k < l.length) : spoilB l i k = spoilB l k i := by
  unfold spoilB
  simp only
  have ni := nx_eq hi
  have nk := nx_eq hk
  by_cases e : pt l i = pt l k
  · rw [if_pos e, if_pos e.symm]
  · rw [if_neg e, if_neg (show ¬ pt l k = pt l i from fun h => e h.symm)]
    by_cases a : (i + 1) % l.length = k
    · have b : ¬ (k + 1) % l.length = i := by split at ni <;> split at nk <;> omega
      rw [if_pos a, if_neg b, if_pos a]
    · rw [if_neg a]
      by_cases b : (k + 1) % l.length = i
      · rw [if_pos b, if_pos b]
      · rw [if_neg b, if_neg b, if_neg a, meetB_comm]

theorem first_congr {f g : Nat → Bool} {n : Nat} (h : ∀ i, i < n → (∀ j, j < i → f j = false) → (∀ j, j < i → g j = false) → f i = g i) : first f n = first g n := by
  have key : ∀ m, m ≤ n → (∃ i, i < m ∧ f i = true ∧ g i = true ∧ (∀ j, j < i → f j = false) ∧ (∀ j, j < i → g j = false)) ∨ ((∀ j, j < m → f j = false) ∧ (∀ j, j < m → g j = false)) := by
    intro m
    induction m with
    | zero => exact fun _ => .inr ⟨fun j hj => absurd hj (Nat.not_lt_zero _), fun j hj => absurd hj (Nat.not_lt_zero _)⟩
    | succ m ih =>
      intro hm
      rcases ih (by omega) with ⟨i, hi, r⟩ | ⟨hf, hg⟩
      · exact .inl ⟨i, by omega, r⟩
      · have e := h m (by omega) hf hg
        cases hfm : f m with
        | true => exact .inl ⟨m, by omega, hfm, by rw [← e, hfm], hf, hg⟩
        | false =>
          refine .inr ⟨fun j hj => ?_, fun j hj => ?_⟩
          · rcases Nat.lt_succ_iff_lt_or_eq.1 hj with h' | h'
            · exact hf j h'
            · rw [h', hfm]
          · rcases Nat.lt_succ_iff_lt_or_eq.1 hj with h' | h'
            · exact hg j h'
            · rw [h', ← e, hfm]
  rcases key n (Nat.le_refl _) with ⟨i, hi, hf, hg, hf2, hg2⟩ | ⟨hf, hg⟩
  · rw [first_some hi hf hf2, first_some hi hg hg2]
  · rw [first_none hf, first_none hg]

theorem bad_eq {l : List Pt} (h3 : 3 ≤ l.length) (hl : allP l = true) {i : Nat} (hi : i < l.length) (hI : ∀ j, j < i → badI l j = false) (hR : ∀ j, j < i → badR l j = false) : badI l i = badR l i := by
  have ok := fun j (hj : j < l.length) => pt_ok hl hj
  cases hr : badR l i with
  | true =>
    obtain ⟨j, hj, hp⟩ := anyB_get hr
    unfold badP at hp
    simp only [Bool.and_eq_true, decide_eq_true_eq, Bool.or_eq_true] at hp
    obtain ⟨hij, hp⟩ := hp
    refine anyB_true hj ?_
    rw [decide_eq_true (show j ≠ i by omega), Bool.true_and]
    unfold spoilB
    simp only
    by_cases e : pt l i = pt l j
    · rw [if_pos e]
    · rw [if_neg e]
      have hc : clashB l i j = true := by
        rcases hp with hp | hp
        · exact absurd hp e
        · exact hp
      unfold clashB at hc
      simp only at hc
      have ni : (i + 1) % l.length = i + 1 := Nat.mod_eq_of_lt (by omega)
      have nj := nx_eq hj
      by_cases a : j = i + 1
      · rw [if_pos (by omega)]
        rw [if_pos a] at hc
        subst a
        rw [ni]
        have o1 := ok i hi
        have o2 := ok (i + 1) hj
        have o3 := ok ((i + 1 + 1) % l.length) (Nat.mod_lt _ (by omega))
        by_cases d : pt l ((i + 1 + 1) % l.length) = pt l (i + 1)
        · rw [d, on_end o1 o2]; rfl
        · rw [over_on o1 o2 o3 e d]; exact hc
      · rw [if_neg (by omega)]
        rw [if_neg a] at hc
        by_cases b : i = 0 ∧ j = l.length - 1
        · rw [if_pos b] at hc
          have j0 : (j + 1) % l.length = 0 := by rw [nj, if_pos (by omega)]
          rw [if_pos (by omega), j0, ni]
          obtain ⟨b0, _⟩ := b
          subst b0
          have o1 := ok 0 hi
          have o2 := ok (0 + 1) (by omega)
          have o3 := ok j hj
          have hb : pt l (0 + 1) ≠ pt l 0 := by
            intro h
            unfold overB at hc
            rw [decide_eq_false (fun k => k h)] at hc
            cases hc
          have hcn : pt l j ≠ pt l 0 := fun h => e h.symm
          have := over_on o2 o1 o3 hb hcn
          rw [onB_comm (pt l j), Bool.or_comm, onB_comm (pt l 0) (pt l (0 + 1)), this]
          exact hc
        · rw [if_neg b] at hc
          have : ¬ (j + 1) % l.length = i := by split at nj <;> omega
          rw [if_neg this, ni]
          exact hc
  | false =>
    cases hb : badI l i with
    | false => rfl
    | true =>
      exfalso
      obtain ⟨k, hk, hp⟩ := anyB_get hb
      simp only [Bool.and_eq_true, decide_eq_true_eq] at hp
      obtain ⟨hki, hs⟩ := hp
      -- k is behind i
      have hik : i < k := by
        rcases Nat.lt_or_ge i k with h | h
        · exact h
        · have hlt : k < i := by omega
          have := anyB_none (hI k hlt) hi
          rw [decide_eq_true (show i ≠ k by omega), Bool.true_and, ← spoil_comm h3 hi hk, hs] at this
          cases this
      have hn := fun j (hj : j < l.length) (hij : i < j) => by
        have := anyB_none hr hj
        unfold badP at this
        rw [decide_eq_true hij, Bool.true_and, Bool.or_eq_false_iff] at this
        exact this
      obtain ⟨e, hc⟩ := hn k hk hik
      have e := of_decide_eq_false e
      unfold spoilB at hs
      simp only at hs
      rw [if_neg e] at hs
      have ni : (i + 1) % l.length = i + 1 := Nat.mod_eq_of_lt (by omega)
      have nk := nx_eq hk
      unfold clashB at hc
      simp only at hc
      by_cases a : k = i + 1
      · rw [if_pos (by omega)] at hs
        rw [if_pos a] at hc
        subst a
        rw [ni] at hs
        have o1 := ok i hi
        have o2 := ok (i + 1) hk
        have o3 := ok ((i + 1 + 1) % l.length) (Nat.mod_lt _ (by omega))
        by_cases d : pt l ((i + 1 + 1) % l.length) = pt l (i + 1)
        · -- the corner behind is the same as the one ahead of it
          by_cases hlast : i + 1 + 1 = l.length
          · have z : (i + 1 + 1) % l.length = 0 := by rw [hlast, Nat.mod_self]
            rw [z] at d
            have := anyB_none (hR 0 (by omega)) hk
            unfold badP at this
            rw [decide_eq_true (show 0 < i + 1 by omega), decide_eq_true d] at this
            cases this
          · have z : (i + 1 + 1) % l.length = i + 1 + 1 := Nat.mod_eq_of_lt (by omega)
            rw [z] at d
            obtain ⟨e2, hc2⟩ := hn (i + 1 + 1) (by omega) (by omega)
            have e2 := of_decide_eq_false e2
            unfold clashB at hc2
            simp only at hc2
            rw [if_neg (by omega)] at hc2
            by_cases b : i = 0 ∧ i + 1 + 1 = l.length - 1
            · rw [if_pos b, d] at hc2
              have hne : pt l (i + 1) ≠ pt l i := fun h => e h.symm
              have := over_on o2 o1 o2 hne hne
              rw [hc2, onB_comm, on_end o1 o2] at this
              cases this
            · rw [if_neg b, d] at hc2
              unfold meetB at hc2
              rw [on_end o1 o2] at hc2
              simp at hc2
        · rw [over_on o1 o2 o3 e d, hc] at hs
          cases hs
      · rw [if_neg (by omega)] at hs
        rw [if_neg a] at hc
        by_cases b : i = 0 ∧ k = l.length - 1
        · rw [if_pos b] at hc
          have k0 : (k + 1) % l.length = 0 := by rw [nk, if_pos (by omega)]
          rw [if_pos (by omega), k0, ni] at hs
          obtain ⟨b0, _⟩ := b
          subst b0
          have o1 := ok 0 hi
          have o2 := ok (0 + 1) (by omega)
          have o3 := ok k hk
          have hkn : pt l k ≠ pt l 0 := fun h => e h.symm
          by_cases hb1 : pt l (0 + 1) = pt l 0
          · obtain ⟨e2, _⟩ := hn 1 (by omega) (by omega)
            exact of_decide_eq_false e2 hb1.symm
          · have := over_on o2 o1 o3 hb1 hkn
            rw [onB_comm (pt l k), Bool.or_comm, onB_comm (pt l 0) (pt l (0 + 1)), this, hc] at hs
            cases hs
        · rw [if_neg b] at hc
          have : ¬ (k + 1) % l.length = i := by split at nk <;> omega
          rw [if_neg this, ni, hc] at hs
          cases hs

/-- an error out of a code and an id -/
def Er.ofRes (r : Int × Int) : Er := if r.1 = 0 then .none else .fault strRing r.2 (.num r.1)
theorem ringEr_res (l : List Pt) : ringEr l = Er.ofRes (ringRes l) := by
  unfold ringEr ringRes
  by_cases h : l.length < 3 ∨ 64 < l.length
  · rw [if_pos h, if_pos h]; rfl
  · rw [if_neg h, if_neg h]
    cases h1 : first (fun i => !okP (pt l i)) l.length with
    | some i => rfl
    | none =>
      have hl : allP l = true := by
        unfold allP
        rw [List.all_eq_true]
        intro p hp
        obtain ⟨i, hi, rfl⟩ := List.getElem_of_mem hp
        unfold first at h1
        rw [List.find?_range_eq_none] at h1
        have := h1 i hi
        rw [pt_get l i hi] at this
        simpa using this
      have e := first_congr (f := badI l) (g := badR l) (n := l.length) (fun i hi a b => bad_eq (by omega) hl hi a b)
      simp only
      rw [e]
      cases first (badR l) l.length with
      | some i => rfl
      | none => rfl
theorem ringRes_code (l : List Pt) : (ringRes l).1 = 0 ∨ (ringRes l).1 = 2 ∨ (ringRes l).1 = 3 ∨ (ringRes l).1 = 4 := by
  unfold ringRes
  split
  · simp
  · split
    · simp
    · split
      · simp
      · simp
end

/-! Area -/
section
open Go.RowKit

/-- twice a ring's area with its sign, of the first k triangles -/
def areaTo (l : List Pt) : Nat → Int
  | 0 => 0
  | k + 1 => areaTo l k + crs (pt l 0) (pt l k) (pt l ((k + 1) % l.length))
/-- as the program reckons it -/
def areaV (l : List Pt) : Int := IntKind.i64.wrap (areaTo l l.length)
theorem wrap_i64_add (x y : Int) : IntKind.i64.wrap (IntKind.i64.wrap x + y) = IntKind.i64.wrap (x + y) := by
  simp only [IntKind.wrap, IntKind.bits, IntKind.signed]
  simp
  split <;> split <;> (try split) <;> omega

end

/-! Edge -/
section
open Go.RowKit

/-- is p on the i-th edge? -/
def edgeAt (l : List Pt) (p : Pt) (i : Nat) : Bool := onB (pt l i) (pt l ((i + 1) % l.length)) p
def edgeB (l : List Pt) (p : Pt) : Bool := anyB (edgeAt l p) l.length
theorem ringEr_some {l : List Pt} (h : ringEr l ≠ .none) : ∃ i k, ringEr l = .fault strRing i (.num k) := by
  rw [ringEr_res] at h ⊢
  unfold Er.ofRes at h ⊢
  split at h
  · exact absurd rfl h
  · rename_i hn
    rw [if_neg hn]
    exact ⟨_, _, rfl⟩
/-- may the ring be? -/
def ringOk (l : List Pt) : Bool := match ringEr l with
  | .none => true
  | _ => false
theorem ringOk_yes {l : List Pt} (h : ringEr l = .none) : ringOk l = true := by unfold ringOk; rw [h]
theorem ringOk_no {l : List Pt} (h : ¬ ringEr l = .none) : ringOk l = false := by
  unfold ringOk
  cases hr : ringEr l with
  | none => exact absurd hr h
  | num k => rfl
  | fault a b c => rfl
theorem ringEr_ok {l : List Pt} (h : ringEr l = .none) : allP l = true ∧ 3 ≤ l.length ∧ l.length ≤ 64 := by
  unfold ringEr at h
  split at h
  · cases h
  · rename_i hn
    split at h
    · cases h
    · rename_i h1
      refine ⟨?_, by omega, by omega⟩
      unfold allP
      rw [List.all_eq_true]
      intro p hp
      obtain ⟨i, hi, rfl⟩ := List.getElem_of_mem hp
      unfold first at h1
      rw [List.find?_range_eq_none] at h1
      have := h1 i hi
      rw [pt_get l i hi] at this
      simpa using this

/-- is a point on a ring's edge? -/
def edgeE (l : List Pt) (p : Pt) : Bool := ringOk l && edgeB l p
def leftE (l : List Pt) : Bool := ringOk l && decide (0 < areaV l)

end

end Go.Proofs.YthcfekabeidmiaaRRDoorR
