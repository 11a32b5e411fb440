/- A ring lies in its box, and its corners in it: plain Lean. -/
import Derived.Test.YtpmngdgifdkohaaDoorRingBox
import Derived.Test.YtpmngdgifdkohaaDoorTurnMath
namespace Go.Proofs.YtpmngdgifdkohaaDoor

theorem bbTo_bd (l : List Pt) : ∀ k i, i < k → (bbTo l k).1 ≤ (pt l i).1 ∧ (bbTo l k).2.1 ≤ (pt l i).2 ∧ (pt l i).1 ≤ (bbTo l k).2.2.1 ∧ (pt l i).2 ≤ (bbTo l k).2.2.2
  | 0, i, h => absurd h (Nat.not_lt_zero _)
  | k + 1, i, h => by
    unfold bbTo
    simp only
    by_cases e : i = k
    · subst e; omega
    · have := bbTo_bd l k i (by omega); omega
theorem bbTo_in {l : List Pt} (hl : allP l = true) (h0 : 0 < l.length) : ∀ k, k ≤ l.length → inP (bbTo l k).1 (bbTo l k).2.1 ∧ inP (bbTo l k).2.2.1 (bbTo l k).2.2.2
  | 0, _ => ⟨okP_inP (pt_ok hl h0), okP_inP (pt_ok hl h0)⟩
  | k + 1, h => by
    have ih := bbTo_in hl h0 k (by omega)
    have o := okP_inP (pt_ok hl (i := k) (by omega))
    unfold bbTo
    simp only
    obtain ⟨⟨⟨a1, a2⟩, a3, a4⟩, ⟨b1, b2⟩, b3, b4⟩ := ih
    obtain ⟨⟨c1, c2⟩, c3, c4⟩ := o
    exact ⟨⟨⟨by omega, by omega⟩, by omega, by omega⟩, ⟨by omega, by omega⟩, by omega, by omega⟩
theorem bb_code {l : List Pt} (h : ringEr l = .none) : boxCode (bbTo l l.length).1 (bbTo l l.length).2.1 (bbTo l l.length).2.2.1 (bbTo l l.length).2.2.2 = 0 := by
  obtain ⟨hl, h3, h64⟩ := ringEr_ok h
  have hb := bbTo_bd l l.length 0 (by omega)
  have hi := bbTo_in hl (by omega) l.length (Nat.le_refl _)
  exact boxCode_zero.2 ⟨hi.1, hi.2, by omega, by omega⟩
theorem crs_split (a b p : Pt) : crs a b p = (b.1 - p.1) * (p.2 - a.2) + (a.1 - p.1) * (b.2 - p.2) := by
  unfold crs
  grind
open Jord in
theorem par_cyc {l : List Pt} (h0 : 0 < l.length) (f : Nat → Bool) : par (fun g => f g ^^ f (nxI l g)) l.length = false := by
  obtain ⟨m, hm⟩ : ∃ m, l.length = m + 1 := ⟨l.length - 1, by omega⟩
  have last : nxI l m = 0 := by rw [nxI_eq (by omega), if_pos (by omega)]
  rw [hm]
  unfold par
  rw [last, par_congr (q := fun g => f g ^^ f (g + 1)) (fun g hg => by rw [nxI_eq (by omega), if_neg (by omega)]), par_last]
  cases f 0 <;> cases f m <;> rfl
theorem crossAt_left {l : List Pt} {p : Pt} {i : Nat} (ha : p.1 < (pt l i).1) (hb : p.1 < (pt l ((i + 1) % l.length)).1) : crossAt l p i = (decide ((pt l i).2 ≤ p.2) ^^ decide ((pt l (nxI l i)).2 ≤ p.2)) := by
  unfold crossAt nxI
  simp only
  generalize pt l i = a at *
  generalize pt l ((i + 1) % l.length) = b at *
  have e1 := crs_split a b p
  have e2 := crs_split b a p
  have pos : ∀ x y z t : Int, 0 < x → 0 ≤ y → 0 < z → 0 < t → 0 < x * y + z * t := fun x y z t h1 h2 h3 h4 => by
    have := Int.mul_nonneg (show 0 ≤ x by omega) h2
    have := Int.mul_pos h3 h4
    omega
  by_cases h : b.2 < a.2
  · rw [if_pos h]
    by_cases h1 : b.2 ≤ p.2
    · by_cases h2 : p.2 < a.2
      · have := pos (a.1 - p.1) (p.2 - b.2) (b.1 - p.1) (a.2 - p.2) (by omega) (by omega) (by omega) (by omega)
        rw [decide_eq_true h1, decide_eq_true h2, decide_eq_true (show 0 < crs b a p by omega), decide_eq_false (show ¬ a.2 ≤ p.2 by omega)]; rfl
      · rw [decide_eq_true h1, decide_eq_false h2, decide_eq_true (show a.2 ≤ p.2 by omega)]; rfl
    · rw [decide_eq_false h1, decide_eq_false (show ¬ a.2 ≤ p.2 by omega)]; rfl
  · rw [if_neg h]
    by_cases h1 : a.2 ≤ p.2
    · by_cases h2 : p.2 < b.2
      · have := pos (b.1 - p.1) (p.2 - a.2) (a.1 - p.1) (b.2 - p.2) (by omega) (by omega) (by omega) (by omega)
        rw [decide_eq_true h1, decide_eq_true h2, decide_eq_true (show 0 < crs a b p by omega), decide_eq_false (show ¬ b.2 ≤ p.2 by omega)]; rfl
      · rw [decide_eq_true h1, decide_eq_false h2, decide_eq_true (show b.2 ≤ p.2 by omega)]; rfl
    · rw [decide_eq_false h1, decide_eq_false (show ¬ b.2 ≤ p.2 by omega)]; rfl
theorem crossAt_in {l : List Pt} {p : Pt} {i : Nat} (h : crossAt l p i = true) : ((pt l i).2 ≤ p.2 ∨ (pt l ((i + 1) % l.length)).2 ≤ p.2) ∧ (p.2 < (pt l i).2 ∨ p.2 < (pt l ((i + 1) % l.length)).2) ∧ (p.1 < (pt l i).1 ∨ p.1 < (pt l ((i + 1) % l.length)).1) := by
  unfold crossAt at h
  simp only at h
  generalize pt l i = a at *
  generalize pt l ((i + 1) % l.length) = b at *
  have neg : ∀ x y z t : Int, x ≤ 0 → 0 ≤ y → z ≤ 0 → 0 ≤ t → x * y + z * t ≤ 0 := fun x y z t h1 h2 h3 h4 => by
    have := Int.mul_nonneg (show 0 ≤ -x by omega) h2
    have := Int.mul_nonneg (show 0 ≤ -z by omega) h4
    rw [Int.neg_mul] at *
    omega
  by_cases hs : b.2 < a.2
  · rw [if_pos hs] at h
    simp only [Bool.and_eq_true, decide_eq_true_eq] at h
    obtain ⟨h1, h2, h3⟩ := h
    refine ⟨.inr h1, .inl h2, ?_⟩
    by_cases c1 : p.1 < a.1
    · exact .inl c1
    · by_cases c2 : p.1 < b.1
      · exact .inr c2
      · rw [crs_split] at h3
        have := neg (a.1 - p.1) (p.2 - b.2) (b.1 - p.1) (a.2 - p.2) (by omega) (by omega) (by omega) (by omega)
        omega
  · rw [if_neg hs] at h
    simp only [Bool.and_eq_true, decide_eq_true_eq] at h
    obtain ⟨h1, h2, h3⟩ := h
    refine ⟨.inl h1, .inr h2, ?_⟩
    by_cases c1 : p.1 < a.1
    · exact .inl c1
    · by_cases c2 : p.1 < b.1
      · exact .inr c2
      · rw [crs_split] at h3
        have := neg (b.1 - p.1) (p.2 - a.2) (a.1 - p.1) (b.2 - p.2) (by omega) (by omega) (by omega) (by omega)
        omega
theorem has_box {l : List Pt} (h : ringEr l = .none) {p : Pt} (hp : hasE l p = true) : boxHasB (bbTo l l.length).1 (bbTo l l.length).2.1 (bbTo l l.length).2.2.1 (bbTo l l.length).2.2.2 p.1 p.2 = true := by
  obtain ⟨hl, h3, h64⟩ := ringEr_ok h
  have bd := bbTo_bd l l.length
  have hc := bb_code h
  unfold hasE at hp
  simp only [Bool.and_eq_true, Bool.or_eq_true] at hp
  obtain ⟨_, ok, hp⟩ := hp
  have nlt : ∀ i, (i + 1) % l.length < l.length := fun i => Nat.mod_lt _ (by omega)
  unfold boxHasB
  generalize bbTo l l.length = bb at *
  obtain ⟨x0, y0, x1, y1⟩ := bb
  simp only at hc bd ⊢
  have fin : x0 ≤ p.1 ∧ p.1 ≤ x1 ∧ y0 ≤ p.2 ∧ p.2 ≤ y1 := by
    rcases hp with hp | hp
    · obtain ⟨i, hi, he⟩ := anyB_get hp
      unfold edgeAt onB at he
      simp only [Bool.and_eq_true] at he
      have hb := of_decide_eq_true he.2
      have b1 := bd i hi
      have b2 := bd _ (nlt i)
      omega
    · rw [crossTo_par] at hp
      have ex : ∃ i, i < l.length ∧ crossAt l p i = true := by
        refine Classical.byContradiction fun hn => ?_
        rw [Jord.par_no (fun i hi => by
          cases hq : crossAt l p i with
          | false => rfl
          | true => exact absurd ⟨i, hi, hq⟩ hn)] at hp
        cases hp
      obtain ⟨i, hi, hx⟩ := ex
      obtain ⟨c1, c2, c3⟩ := crossAt_in hx
      have b1 := bd i hi
      have b2 := bd _ (nlt i)
      refine ⟨Int.not_lt.1 fun hlt => ?_, by omega, by omega, by omega⟩
      rw [Jord.par_congr (q := fun g => decide ((pt l g).2 ≤ p.2) ^^ decide ((pt l (nxI l g)).2 ≤ p.2)) (fun g hg => crossAt_left (by have := bd g hg; omega) (by have := bd _ (nlt g); omega)), par_cyc (by omega) (fun g => decide ((pt l g).2 ≤ p.2))] at hp
      cases hp
  rw [decide_eq_true hc, decide_eq_true (p := inP p.1 p.2) (okP_inP ok), decide_eq_true fin.1, decide_eq_true fin.2.1, decide_eq_true fin.2.2.1, decide_eq_true fin.2.2.2]
  rfl
theorem edge_has {l : List Pt} {p : Pt} (h : edgeE l p = true) : hasE l p = true := by
  unfold edgeE at h
  simp only [Bool.and_eq_true] at h
  unfold hasE
  rw [h.1, h.2]
  have : okP p = true := by
    obtain ⟨i, hi, he⟩ := anyB_get h.2
    unfold edgeAt onB at he
    simp only [Bool.and_eq_true] at he
    exact he.1.1.2
  rw [this]; rfl
theorem corner_edge {l : List Pt} (h : ringEr l = .none) {k : Nat} (hk : k < l.length) : edgeE l (pt l k) = true := by
  obtain ⟨hl, h3, h64⟩ := ringEr_ok h
  unfold edgeE
  rw [ringOk_yes h, Bool.true_and]
  refine anyB_true hk ?_
  unfold edgeAt
  rw [onB_comm]
  exact on_end (pt_ok hl (Nat.mod_lt _ (by omega))) (pt_ok hl hk)
theorem out_has {l : List Pt} (h : ringEr l = .none) (y : Int) : hasE l ((bbTo l l.length).2.2.1 + 1, y) = false := by
  cases hq : hasE l ((bbTo l l.length).2.2.1 + 1, y) with
  | false => rfl
  | true =>
    have := has_box h hq
    unfold boxHasB at this
    simp only [Bool.and_eq_true, decide_eq_true_eq] at this
    omega
theorem twice_pos {l : List Pt} (h : ringEr l = .none) : 0 < twiceE l ∧ twiceE l < 9223372036854775808 := by
  obtain ⟨a, b, c, d⟩ := areaV_ok h
  unfold twiceE
  rw [ringOk_yes h, a]
  unfold absU
  simp only [if_true]
  split <;> omega
end Go.Proofs.YtpmngdgifdkohaaDoor
