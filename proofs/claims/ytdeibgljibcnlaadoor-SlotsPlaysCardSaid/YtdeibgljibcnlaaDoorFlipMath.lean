/- A page of which one bit is turned is none, in plain Lean. -/
import Derived.Test.YtdeibgljibcnlaaDoorParse1
import Derived.Test.YtdeibgljibcnlaaDoorCrcNe
namespace Go.Proofs.YtdeibgljibcnlaaDoor

/-- the sum that the bytes hold fits the others -/
def sumOk (b : List UInt8) : Prop := ∃ X : List UInt8, X.length = 512 ∧ (∀ j, 12 ≤ j → j < 16 → X.getD j 0 = 0) ∧ b = wr4 X 12 (crcSum X).toNat
theorem getD_set {l : List UInt8} {i j : Nat} {d : UInt8} (h : i ≠ j) : (l.set i d).getD j 0 = l.getD j 0 := by
  rw [List.getD_eq_getElem?_getD, List.getD_eq_getElem?_getD, List.getElem?_set_ne h]
theorem getD_wr2 {l : List UInt8} {o j n : Nat} (h : j < o ∨ o + 2 ≤ j) : (wr2 l o n).getD j 0 = l.getD j 0 := by
  unfold wr2
  rw [getD_set (by omega), getD_set (by omega)]
theorem getD_wr4 {l : List UInt8} {o j n : Nat} (h : j < o ∨ o + 4 ≤ j) : (wr4 l o n).getD j 0 = l.getD j 0 := by
  unfold wr4
  rw [getD_wr2 (by omega), getD_wr2 (by omega)]
theorem getD_splice {l : List UInt8} {o j : Nat} {b : List UInt8} (h : j < o) (hl : o ≤ l.length) : (splice l o b).getD j 0 = l.getD j 0 := by
  unfold splice
  rw [List.getD_eq_getElem?_getD, List.getD_eq_getElem?_getD, List.getElem?_append_left (by rw [List.length_take]; omega), List.getElem?_take, if_pos h]
/-- ahead of the slots the row stays -/
theorem layB_head (kind id : Nat) (st : List SlotL) (hs : sizeS st ≤ 512) (j : Nat) (h12 : 12 ≤ j) (h16 : j < 16) : ∀ k, k ≤ st.length → (layB kind id st k).out.getD j 0 = 0
  | 0, _ => by
    unfold layB
    rw [List.take_zero, List.foldl_nil]
    unfold startB
    rw [getD_wr4 (by omega), getD_set (by omega), getD_set (by omega)]
    rw [List.getD_eq_getElem?_getD, List.getElem?_replicate, if_pos (by omega)]
    rfl
  | k + 1, hk => by
    have hk' : k < st.length := hk
    have ih := layB_head kind id st hs j h12 h16 k (by omega)
    obtain ⟨h1, h2, h3⟩ := layB_ok kind id st hs k (by omega)
    have e : (st.map blen).sum = ((st.take (k + 1)).map blen).sum + ((st.drop (k + 1)).map blen).sum := by
      rw [← List.sum_append, ← List.map_append, List.take_append_drop]
    unfold sizeS at hs
    rw [List.take_succ_eq_append_getElem hk', List.map_append, List.sum_append] at e
    simp only [List.map_cons, List.map_nil, List.sum_cons, List.sum_nil] at e
    rw [layB_succ _ _ _ _ hk']
    generalize layB kind id st k = s at *
    obtain ⟨i, en, out⟩ := s
    simp only at ih h1 h2 h3
    cases hx : st[k] with
    | none => exact ih
    | some b =>
      rw [hx] at e
      simp only [blen] at e
      simp only [stepB]
      rw [getD_wr2 (by omega), getD_wr2 (by omega), getD_splice (by omega) (by omega)]
      exact ih
theorem pageB_sumOk (kind id : Nat) (st : List SlotL) (hs : sizeS st ≤ 512) : sumOk (pageB kind id st) :=
  ⟨_, (layB_ok kind id st hs st.length (Nat.le_refl _)).2.2, fun j h1 h2 => layB_head kind id st hs j h1 h2 _ (Nat.le_refl _), rfl⟩
theorem ext_getD {l m : List UInt8} (hl : l.length = m.length) (h : ∀ j, j < l.length → l.getD j 0 = m.getD j 0) : l = m := by
  refine List.ext_getElem hl fun j h1 h2 => ?_
  have := h j h1
  rwa [List.getD_eq_getElem?_getD, List.getD_eq_getElem?_getD, List.getElem?_eq_getElem h1, List.getElem?_eq_getElem h2] at this
theorem getD_set_self {l : List UInt8} {i : Nat} {d : UInt8} (h : i < l.length) : (l.set i d).getD i 0 = d := by
  rw [List.getD_eq_getElem?_getD, List.getElem?_set_self h]
  rfl
theorem wr4_field {l : List UInt8} {o n : Nat} (h : o + 4 ≤ l.length) :
    (wr4 l o n).getD o 0 = UInt8.ofNat n ∧ (wr4 l o n).getD (o + 1) 0 = UInt8.ofNat (n / 256) ∧ (wr4 l o n).getD (o + 2) 0 = UInt8.ofNat (n / 65536) ∧ (wr4 l o n).getD (o + 3) 0 = UInt8.ofNat (n / 65536 / 256) := by
  refine ⟨?_, ?_, ?_, ?_⟩
  · unfold wr4
    rw [getD_wr2 (by omega)]
    unfold wr2
    rw [getD_set (by omega), getD_set_self (by omega)]
  · unfold wr4
    rw [getD_wr2 (by omega)]
    unfold wr2
    rw [getD_set_self (by simp; omega)]
  · unfold wr4
    generalize hm : wr2 l o n = m
    have hml : m.length = l.length := by rw [← hm, wr2_length]
    unfold wr2
    rw [getD_set (by omega), getD_set_self (by omega)]
  · unfold wr4
    generalize hm : wr2 l o n = m
    have hml : m.length = l.length := by rw [← hm, wr2_length]
    unfold wr2
    rw [show o + 3 = o + 2 + 1 by omega, getD_set_self (by simp; omega)]
theorem wr4_same {l m : List UInt8} {o n k : Nat} (hl : o + 4 ≤ l.length) (hm : o + 4 ≤ m.length) (hn : n < 4294967296) (hk : k < 4294967296) (h : ∀ j, o ≤ j → j < o + 4 → (wr4 l o n).getD j 0 = (wr4 m o k).getD j 0) : n = k := by
  obtain ⟨a0, a1, a2, a3⟩ := wr4_field (n := n) hl
  obtain ⟨b0, b1, b2, b3⟩ := wr4_field (n := k) hm
  have e0 := congrArg UInt8.toNat (a0.symm.trans ((h o (by omega) (by omega)).trans b0))
  have e1 := congrArg UInt8.toNat (a1.symm.trans ((h (o + 1) (by omega) (by omega)).trans b1))
  have e2 := congrArg UInt8.toNat (a2.symm.trans ((h (o + 2) (by omega) (by omega)).trans b2))
  have e3 := congrArg UInt8.toNat (a3.symm.trans ((h (o + 3) (by omega) (by omega)).trans b3))
  simp only [UInt8.toNat_ofNat'] at e0 e1 e2 e3
  omega
/-- one byte other, and the sum does not fit -/
theorem no_flip {b : List UInt8} (hb : sumOk b) {k : Nat} (hk : k < 512) {d : UInt8} (hd : d ≠ b.getD k 0) : ¬ sumOk (b.set k d) := by
  obtain ⟨X, x1, x2, rfl⟩ := hb
  rintro ⟨Y, y1, y2, hy⟩
  have sx := (crcSum X).isLt
  have sy := (crcSum Y).isLt
  have hY : ∀ j, j < 12 ∨ 16 ≤ j → Y.getD j 0 = ((wr4 X 12 (crcSum X).toNat).set k d).getD j 0 := fun j hj => by rw [hy, getD_wr4 (by omega)]
  by_cases hkk : 12 ≤ k ∧ k < 16
  · have e : X = Y := by
      refine ext_getD (by omega) fun j hj => ?_
      by_cases hjj : 12 ≤ j ∧ j < 16
      · rw [x2 j hjj.1 hjj.2, y2 j hjj.1 hjj.2]
      · rw [hY j (by omega), getD_set (by omega), getD_wr4 (by omega)]
    subst e
    have h1 : ((wr4 X 12 (crcSum X).toNat).set k d).getD k 0 = (wr4 X 12 (crcSum X).toNat).getD k 0 := congrArg (fun l => l.getD k 0) hy
    rw [getD_set_self (by rw [wr4_length]; omega)] at h1
    exact hd h1
  · have hXk : X.getD k 0 = (wr4 X 12 (crcSum X).toNat).getD k 0 := (getD_wr4 (by omega)).symm
    have e : Y = X.set k d := by
      refine ext_getD (by rw [List.length_set]; omega) fun j hj => ?_
      by_cases hjk : j = k
      · subst hjk
        rw [hY j (by omega), getD_set_self (by rw [wr4_length]; omega), getD_set_self (by omega)]
      · rw [getD_set (by omega)]
        by_cases hjj : 12 ≤ j ∧ j < 16
        · rw [x2 j hjj.1 hjj.2, y2 j hjj.1 hjj.2]
        · rw [hY j (by omega), getD_set (by omega), getD_wr4 (by omega)]
    have hne : crcSum Y ≠ crcSum X := by
      have hx : X = X.take k ++ X[k]'(by omega) :: X.drop (k + 1) := by
        rw [List.getElem_cons_drop, List.take_append_drop]
      have hyy : Y = X.take k ++ d :: X.drop (k + 1) := by
        rw [e, List.set_eq_take_append_cons_drop, if_pos (by omega)]
      intro q
      refine crcSum_ne (X.take k) (X.drop (k + 1)) (c := d) (d := X[k]'(by omega)) ?_ (by rw [← hx, ← hyy]; exact q)
      intro h
      apply hd
      rw [← hXk, List.getD_eq_getElem?_getD, List.getElem?_eq_getElem (by omega), h]
      rfl
    refine hne (BitVec.eq_of_toNat_eq (wr4_same (l := Y) (m := X) (o := 12) (by omega) (by omega) sy sx fun j h1 h2 => ?_))
    rw [← hy, getD_set (by omega)]
end Go.Proofs.YtdeibgljibcnlaaDoor
