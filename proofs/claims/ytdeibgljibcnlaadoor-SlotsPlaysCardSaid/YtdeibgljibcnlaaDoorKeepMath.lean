/- SlotsKeep in plain words: what a page's slots hold, one by one. -/
import Derived.Test.YtdeibgljibcnlaaDoorSlot8
namespace Go.Proofs.YtdeibgljibcnlaaDoor

/-- what slot j holds -/
def atS (st : List SlotL) (j : Nat) : SlotL := st.getD j none
theorem hasS_nat (st : List SlotL) (j : Nat) : hasS st (j : Int) = (atS st j).isSome := by
  unfold hasS atS
  rw [Int.toNat_natCast, decide_eq_true (by omega), Bool.true_and]
theorem atS_out {st : List SlotL} {j : Nat} (h : st.length ≤ j) : atS st j = none := by
  unfold atS
  rw [List.getD_eq_getElem?_getD, List.getElem?_eq_none h]
  rfl
theorem atS_in {st : List SlotL} {j : Nat} (h : j < st.length) : atS st j = st[j] := by
  unfold atS
  rw [List.getD_eq_getElem?_getD, List.getElem?_eq_getElem h]
  rfl
theorem atS_put {st : List SlotL} {k : Nat} (hk : k ≤ st.length) (b : List UInt8) (j : Nat) : atS (putS st k b) j = if j = k then some b else atS st j := by
  unfold putS
  rcases Nat.lt_or_ge k st.length with h | h
  · rw [if_pos h]
    by_cases hj : j = k
    · subst hj
      rw [if_pos rfl, atS_in (by simpa using h), List.getElem_set_self]
    · rw [if_neg hj]
      unfold atS
      rw [List.getD_eq_getElem?_getD, List.getD_eq_getElem?_getD, List.getElem?_set_ne (by omega)]
  · obtain rfl : k = st.length := by omega
    rw [if_neg (by omega)]
    by_cases hj : j = st.length
    · subst hj
      rw [if_pos rfl, atS_in (by simp)]
      simp
    · rw [if_neg hj]
      rcases Nat.lt_or_ge j st.length with h1 | h1
      · rw [atS_in (by simp; omega), atS_in h1, List.getElem_append_left h1]
      · rw [atS_out (by simp; omega), atS_out h1]
theorem atS_trim (st : List SlotL) (j : Nat) : atS (trimS st) j = atS st j := by
  generalize hn : st.length = n
  induction n generalizing st with
  | zero =>
    obtain rfl := List.eq_nil_of_length_eq_zero hn
    rfl
  | succ n ih =>
    rcases List.eq_nil_or_concat st with e | ⟨s0, x, e⟩
    · rw [e]; rfl
    · rw [List.concat_eq_append] at e
      subst e
      cases x with
      | some l => rw [trimS_some]
      | none =>
        rw [trimS_none, ih s0 (by simpa using hn)]
        rcases Nat.lt_or_ge j s0.length with h | h
        · rw [atS_in h, atS_in (by simp; omega), List.getElem_append_left h]
        · rw [atS_out h]
          rcases Nat.eq_or_lt_of_le h with h1 | h1
          · subst h1
            rw [atS_in (by simp)]
            simp
          · rw [atS_out (by simp; omega)]
theorem atS_del (st : List SlotL) (k j : Nat) : atS (delS st k) j = if j = k then none else atS st j := by
  unfold delS
  rw [atS_trim]
  by_cases hj : j = k
  · subst hj
    rw [if_pos rfl]
    rcases Nat.lt_or_ge j st.length with h | h
    · rw [atS_in (by simpa using h), List.getElem_set_self]
    · rw [atS_out (by simpa using h)]
  · rw [if_neg hj]
    unfold atS
    rw [List.getD_eq_getElem?_getD, List.getD_eq_getElem?_getD, List.getElem?_set_ne (by omega)]
theorem atS_ix (st : List SlotL) : atS st (ixS st) = none := by
  rcases Nat.lt_or_ge (ixS st) st.length with h | h
  · rw [atS_in h]
    have := List.findIdx_getElem (p := Option.isNone) (xs := st) (w := h)
    exact Option.isNone_iff_eq_none.1 this
  · exact atS_out h
theorem atS_lt_ix {st : List SlotL} {j : Nat} (h : j < ixS st) : (atS st j).isSome = true := by
  have hl : j < st.length := Nat.lt_of_lt_of_le h (ixS_le st)
  rw [atS_in hl]
  have := List.not_of_lt_findIdx (p := Option.isNone) (xs := st) h
  cases hx : st[j] with
  | none => rw [hx] at this; simp at this
  | some l => rfl
theorem getB_at (st : List SlotL) (j : Nat) : getB st (j : Int) = (atS st j).getD [] := by
  unfold getB atS
  rw [Int.toNat_natCast]
theorem putS_pos {st : List SlotL} {k : Nat} {b : List UInt8} (h : putE st k b = 0) : k < 60 := by
  unfold putE at h
  by_cases h1 : 400 < b.length
  · rw [if_pos h1] at h; exact absurd h (by decide)
  · rw [if_neg h1] at h
    by_cases h2 : 60 ≤ k
    · rw [if_pos h2] at h; exact absurd h (by decide)
    · omega
theorem atS_some_lt {st : List SlotL} {j : Nat} (h : (atS st j).isSome = true) : j < st.length := by
  rcases Nat.lt_or_ge j st.length with h1 | h1
  · exact h1
  · rw [atS_out h1] at h; exact absurd h (by decide)

/-- what the slots ahead of k need -/
def costS : SlotL → Nat
  | none => 0
  | some l => 4 + l.length
def usedS (st : List SlotL) : Nat → Nat
  | 0 => 0
  | k + 1 => usedS st k + costS (atS st k)
theorem usedS_le (st : List SlotL) : ∀ k, usedS st k ≤ 4 * (st.take k).length + ((st.take k).map blen).sum
  | 0 => by simp [usedS]
  | k + 1 => by
    have ih := usedS_le st k
    unfold usedS
    rcases Nat.lt_or_ge k st.length with h | h
    · rw [List.take_succ_eq_append_getElem h, atS_in h, List.length_append, List.map_append, List.sum_append]
      have : costS st[k] ≤ 4 + blen st[k] := by
        cases st[k] with
        | none => simp [costS]
        | some l => simp [costS, blen]
      simp only [List.length_cons, List.length_nil, List.map_cons, List.map_nil, List.sum_cons, List.sum_nil]
      omega
    · rw [atS_out h, List.take_of_length_le (by omega)]
      rw [List.take_of_length_le h] at ih
      simp only [costS]
      omega
theorem usedS_size (st : List SlotL) (k : Nat) : usedS st k + 16 ≤ sizeS st := by
  have h := usedS_le st k
  have h1 : (st.take k).length ≤ st.length := by rw [List.length_take]; omega
  have h2 : ((st.take k).map blen).sum ≤ (st.map blen).sum := by
    have e : (st.map blen).sum = ((st.take k).map blen).sum + ((st.drop k).map blen).sum := by
      rw [← List.sum_append, ← List.map_append, List.take_append_drop]
    omega
  unfold sizeS
  omega
end Go.Proofs.YtdeibgljibcnlaaDoor
