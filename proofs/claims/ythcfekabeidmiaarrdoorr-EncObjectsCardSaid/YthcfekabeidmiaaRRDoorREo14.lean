/- A ring that may be has an area: plain Lean. pergolaref3.edge, area, has, Twice, Left, Has, Edge; pergolaref1.Abs. -/
import Derived.Test.YthcfekabeidmiaaRRDoorREo12
import Derived.Test.YthcfekabeidmiaaRRDoorREo13
import Derived.Test.YthcfekabeidmiaaRRDoorREo10
set_option linter.unusedSimpArgs false
set_option linter.unusedVariables false
namespace Go.Proofs.YthcfekabeidmiaaRRDoorR
/-! Simple -/
section
theorem ringEr_spoil {l : List Pt} (h : ringEr l = .none) {i k : Nat} (hi : i < l.length) (hk : k < l.length) (hne : k ≠ i) : spoilB l i k = false := by
  obtain ⟨hl, h3, h64⟩ := ringEr_ok h
  unfold ringEr at h
  rw [if_neg (by omega), first_ok hl] at h
  simp only at h
  cases hf : first (badI l) l.length with
  | some j => rw [hf] at h; cases h
  | none =>
    unfold first at hf
    rw [List.find?_range_eq_none] at hf
    have hb : badI l i = false := by simpa using hf i hi
    have := anyB_none hb hk
    rw [decide_eq_true hne, Bool.true_and] at this
    exact this

/-- the corner behind -/
def nxI (l : List Pt) (i : Nat) : Nat := (i + 1) % l.length
def pxI (l : List Pt) (i : Nat) : Int := (pt l i).1
def pyI (l : List Pt) (i : Nat) : Int := (pt l i).2
theorem nxI_eq {l : List Pt} {i : Nat} (h : i < l.length) : nxI l i = if i + 1 = l.length then 0 else i + 1 := nx_eq h
theorem onB_onP {l : List Pt} (hl : allP l = true) {a b c : Nat} (ha : a < l.length) (hb : b < l.length) (hc : c < l.length) (h : onB (pt l a) (pt l b) (pt l c) = false) : ¬ Jord.onP (pxI l) (pyI l) a b c := by
  rintro ⟨h0, h1⟩
  unfold onB at h
  rw [pt_ok hl ha, pt_ok hl hb, pt_ok hl hc, decide_eq_true (show crs (pt l a) (pt l b) (pt l c) = 0 from h0), show boxB (pt l a) (pt l b) (pt l c) = true from decide_eq_true h1] at h
  cases h
theorem sgn_opp {x y : Int} (h : Jord.opp x y) : sgn x * sgn y < 0 := by
  unfold Jord.opp at h
  rcases h with ⟨a, b⟩ | ⟨a, b⟩
  · have e1 : sgn x = 1 := by unfold sgn; rw [if_neg (by omega), if_neg (by omega)]
    have e2 : sgn y = -1 := by unfold sgn; rw [if_pos (by omega)]
    rw [e1, e2]; decide
  · have e1 : sgn x = -1 := by unfold sgn; rw [if_pos (by omega)]
    have e2 : sgn y = 1 := by unfold sgn; rw [if_neg (by omega), if_neg (by omega)]
    rw [e1, e2]; decide
theorem simple_of {l : List Pt} (h : ringEr l = .none) : Jord.Simple (nxI l) (pxI l) (pyI l) l.length := by
  obtain ⟨hl, h3, h64⟩ := ringEr_ok h
  have sp := fun i k (hi : i < l.length) (hk : k < l.length) hne => ringEr_spoil h (i := i) (k := k) hi hk hne
  have lt : ∀ i, i < l.length → nxI l i < l.length := fun i _ => Nat.mod_lt _ (by omega)
  have ne : ∀ i, i < l.length → nxI l i ≠ i := fun i hi => by have := nxI_eq hi; split at this <;> omega
  have df : ∀ i j, i < l.length → j < l.length → pt l i = pt l j → i = j := fun i j hi hj e => by
    by_cases hne : j = i
    · exact hne.symm
    · have := sp i j hi hj hne
      unfold spoilB at this
      simp only [e, if_true] at this
      cases this
  have on := fun a b c (ha : a < l.length) (hb : b < l.length) (hc : c < l.length) h => onB_onP hl (a := a) (b := b) (c := c) ha hb hc h
  exact {
    nx_lt := lt
    nx_ne := ne
    nx_ne2 := fun i hi => by
      have e1 := nxI_eq hi
      have e2 := nxI_eq (lt i hi)
      split at e1 <;> split at e2 <;> omega
    pv := fun i hi => by
      by_cases a : i = 0
      · exact ⟨l.length - 1, by omega, by rw [nxI_eq (by omega), if_pos (by omega), a]⟩
      · exact ⟨i - 1, by omega, by rw [nxI_eq (by omega), if_neg (by omega)]; omega⟩
    inj := fun i j hi hj e => by
      rw [nxI_eq hi, nxI_eq hj] at e
      split at e <;> split at e <;> omega
    succ := fun i hi => by rw [nxI_eq (by omega), if_neg (by omega)]
    bdx := fun i hi => (okP_inP (pt_ok hl hi)).1
    bdy := fun i hi => (okP_inP (pt_ok hl hi)).2
    diff := fun i j hi hj e1 e2 => df i j hi hj (Prod.ext e1 e2)
    adj := fun i hi => by
      have := sp i (nxI l i) hi (lt i hi) (ne i hi)
      unfold spoilB at this
      simp only at this
      rw [if_neg (fun k => ne i hi (df _ _ (lt i hi) hi k.symm)), if_pos (show (i + 1) % l.length = nxI l i from rfl), Bool.or_eq_false_iff] at this
      exact ⟨on _ _ _ hi (lt i hi) (lt _ (lt i hi)) this.1, on _ _ _ (lt i hi) (lt _ (lt i hi)) hi this.2⟩
    far := fun i j hi hj hij a b => by
      have := sp i j hi hj (fun k => hij k.symm)
      unfold spoilB at this
      simp only at this
      rw [if_neg (fun k => hij (df _ _ hi hj k)), if_neg (show ¬ (i + 1) % l.length = j from a), if_neg (show ¬ (j + 1) % l.length = i from b)] at this
      unfold meetB properB at this
      simp only [Bool.or_eq_false_iff] at this
      obtain ⟨⟨⟨⟨q0, q1⟩, q2⟩, q3⟩, q4⟩ := this
      refine ⟨on _ _ _ hi (lt i hi) hj q1, on _ _ _ hi (lt i hi) (lt j hj) q2, on _ _ _ hj (lt j hj) hi q3, on _ _ _ hj (lt j hj) (lt i hi) q4, ?_⟩
      rintro ⟨k1, k2⟩
      have s1 := sgn_opp k1
      have s2 := sgn_opp k2
      rw [decide_eq_true (p := sgn (crs (pt l i) (pt l ((i + 1) % l.length)) (pt l j)) * sgn (crs (pt l i) (pt l ((i + 1) % l.length)) (pt l ((j + 1) % l.length))) < 0) s1,
        decide_eq_true (p := sgn (crs (pt l j) (pt l ((j + 1) % l.length)) (pt l i)) * sgn (crs (pt l j) (pt l ((j + 1) % l.length)) (pt l ((i + 1) % l.length))) < 0) s2] at q0
      cases q0 }

/-- twice the area with its sign, of the corners alone -/
def areaC (l : List Pt) : Int := Jord.area2 (nxI l) (pxI l) (pyI l) l.length
theorem nxI_sum {l : List Pt} (h0 : 0 < l.length) (f : Nat → Int) : Jord.sumN (fun g => f (nxI l g)) l.length = Jord.sumN f l.length := by
  obtain ⟨m, hm⟩ : ∃ m, l.length = m + 1 := ⟨l.length - 1, by omega⟩
  have last : nxI l m = 0 := by rw [nxI_eq (by omega), if_pos (by omega)]
  rw [hm, ← Jord.sum_shift f m]
  rw [show Jord.sumN (fun g => f (nxI l g)) (m + 1) = Jord.sumN (fun g => f (nxI l g)) m + f (nxI l m) from rfl, last]
  rw [Jord.sumN_congr (f := fun g => f (nxI l g)) (g := fun g => f (g + 1)) (fun g hg => by rw [nxI_eq (by omega), if_neg (by omega)])]
theorem areaTo_sum (l : List Pt) : ∀ k, areaTo l k = Jord.sumN (fun g => crs (pt l 0) (pt l g) (pt l (nxI l g))) k
  | 0 => rfl
  | k + 1 => by
    unfold areaTo Jord.sumN
    rw [areaTo_sum l k]; rfl
theorem areaTo_C {l : List Pt} (h0 : 0 < l.length) : areaTo l l.length = areaC l := by
  have e1 := nxI_sum h0 (fun g => pxI l 0 * pyI l g - pyI l 0 * pxI l g)
  have e2 : Jord.sumN (fun g => crs (pt l 0) (pt l g) (pt l (nxI l g)) + (pxI l 0 * pyI l (nxI l g) - pyI l 0 * pxI l (nxI l g))) l.length = Jord.sumN (fun g => (pxI l g * pyI l (nxI l g) - pyI l g * pxI l (nxI l g)) + (pxI l 0 * pyI l g - pyI l 0 * pxI l g)) l.length := Jord.sumN_congr fun g _ => by
    unfold crs pxI pyI
    grind
  rw [Jord.sumN_add, Jord.sumN_add] at e2
  rw [areaTo_sum]
  unfold areaC Jord.area2
  omega
theorem wrap_i64 {x : Int} (h1 : -9223372036854775808 ≤ x) (h2 : x < 9223372036854775808) : IntKind.i64.wrap x = x := by
  simp only [IntKind.wrap, IntKind.bits, IntKind.signed]
  simp
  split <;> omega
theorem areaV_C {l : List Pt} (h0 : 0 < l.length) : areaV l = IntKind.i64.wrap (areaC l) := by
  unfold areaV
  rw [areaTo_C h0]
theorem areaV_ok {l : List Pt} (h : ringEr l = .none) : areaV l = areaC l ∧ areaC l ≠ 0 ∧ -9223372036854775808 < areaC l ∧ areaC l < 9223372036854775808 := by
  obtain ⟨hl, h3, h64⟩ := ringEr_ok h
  have a := (simple_of h).area (by omega)
  refine ⟨?_, a⟩
  rw [areaV_C (by omega)]
  exact wrap_i64 (Int.le_of_lt a.2.1) a.2.2
end

/-! RefRing -/
section
open Go.RowKit

theorem wrap64_i64 (x : Int) : wrap64 x = IntKind.i64.wrap x := by
  simp only [wrap64, IntKind.wrap, IntKind.bits, IntKind.signed]
  simp
  split <;> omega
/-- a term of the document's area -/
def termC (l : List Pt) (g : Nat) : Int := pxI l g * pyI l (nxI l g) - pyI l g * pxI l (nxI l g)
theorem mul_inP {a b : Int} (ha : inC a) (hb : inC b) : -1152921502459363329 ≤ a * b ∧ a * b ≤ 1152921502459363329 := by
  obtain ⟨a1, a2⟩ := ha
  obtain ⟨b1, b2⟩ := hb
  have := mul_bd a b 1073741823 a1 a2 b1 b2
  omega

/-! ### has -/
theorem swapB {a b p : Pt} (h : b.2 < a.2) (l : List Pt) (k : Nat) (ha : pt l k = a) (hb : pt l ((k + 1) % l.length) = b) : crossAt l p k = (decide (b.2 ≤ p.2) && (decide (p.2 < a.2) && decide (0 < crs b a p))) := by
  unfold crossAt
  simp only [ha, hb]
  rw [if_pos h]
theorem noswapB {a b p : Pt} (h : ¬ b.2 < a.2) (l : List Pt) (k : Nat) (ha : pt l k = a) (hb : pt l ((k + 1) % l.length) = b) : crossAt l p k = (decide (a.2 ≤ p.2) && (decide (p.2 < b.2) && decide (0 < crs a b p))) := by
  unfold crossAt
  simp only [ha, hb]
  rw [if_neg h]

end

end Go.Proofs.YthcfekabeidmiaaRRDoorR
