/- SlotsFull in plain words. -/
import Derived.Test.YtdeibgljibcnlaaSlot9
namespace Go.Proofs.Ytdeibgljibcnlaa

/-- so many slots, none free, each of so many bytes -/
def FullS (st : List SlotL) (i m : Nat) : Prop := st.length = i ∧ ∀ x ∈ st, ∃ l : List UInt8, x = some l ∧ l.length = m
theorem FullS.sum {m : Nat} : ∀ {st : List SlotL} {i : Nat}, FullS st i m → (st.map blen).sum = i * m
  | [], i, h => by
    have : 0 = i := h.1
    subst this
    simp
  | x :: st, i, h => by
    obtain ⟨l, rfl, hl⟩ := h.2 x (List.mem_cons_self ..)
    have ih := FullS.sum (st := st) (i := st.length) ⟨rfl, fun y hy => h.2 y (List.mem_cons_of_mem _ hy)⟩
    have h1 : st.length + 1 = i := h.1
    subst h1
    rw [List.map_cons, List.sum_cons, ih, Nat.succ_mul, show blen (some l) = m from hl]
    omega
theorem FullS.size {m i : Nat} {st : List SlotL} (h : FullS st i m) : sizeS st = 16 + i * (m + 4) := by
  unfold sizeS
  rw [h.sum, h.1, Nat.mul_add]
  omega
theorem FullS.ix {m i : Nat} {st : List SlotL} (h : FullS st i m) : ixS st = i := by
  rw [← h.1]
  refine List.findIdx_eq_length.2 fun x hx => ?_
  obtain ⟨l, rfl, _⟩ := h.2 x hx
  rfl
theorem FullS.snoc {m i : Nat} {st : List SlotL} (h : FullS st i m) {b : List UInt8} (hb : b.length = m) : FullS (putS st i b) (i + 1) m := by
  unfold putS
  rw [if_neg (by rw [h.1]; omega)]
  refine ⟨by rw [List.length_append, h.1]; rfl, fun x hx => ?_⟩
  rcases List.mem_append.1 hx with hx | hx
  · exact h.2 x hx
  · simp at hx
    exact ⟨b, hx, hb⟩
/-- how many fit -/
def fitN (m : Nat) : Nat := min (496 / (m + 4)) 60
theorem fit_le (m : Nat) : fitN m ≤ 60 ∧ fitN m * (m + 4) ≤ 496 := by
  unfold fitN
  refine ⟨Nat.min_le_right _ _, ?_⟩
  exact Nat.le_trans (Nat.mul_le_mul_right _ (Nat.min_le_left _ _)) (Nat.div_mul_le_self 496 (m + 4))
theorem fit_pos {m : Nat} (h : m ≤ 400) : 1 ≤ fitN m := by
  unfold fitN
  have : 1 ≤ 496 / (m + 4) := (Nat.le_div_iff_mul_le (by omega)).2 (by omega)
  omega
theorem fit_next (m : Nat) : fitN m = 60 ∨ 496 < (fitN m + 1) * (m + 4) := by
  unfold fitN
  rcases Nat.le_total 60 (496 / (m + 4)) with h | h
  · left; omega
  · right
    rw [Nat.min_eq_left h]
    have h1 := Nat.div_add_mod 496 (m + 4)
    have h2 := Nat.mod_lt 496 (show 0 < m + 4 by omega)
    rw [Nat.succ_mul, Nat.mul_comm]
    omega
theorem FullS.put_ok {m i : Nat} {st : List SlotL} (h : FullS st i m) (hm : m ≤ 400) (hi : i < fitN m) {b : List UInt8} (hb : b.length = m) : putE st i b = 0 := by
  have hf := fit_le m
  have h1 : (i + 1) * (m + 4) ≤ 496 := Nat.le_trans (Nat.mul_le_mul_right _ (by omega)) hf.2
  unfold putE
  rw [if_neg (by omega), if_neg (by omega), if_neg (by rw [(h.snoc hb).size]; omega)]
theorem FullS.put_full {m : Nat} {st : List SlotL} (h : FullS st (fitN m) m) (hm : m ≤ 400) {b : List UInt8} (hb : b.length = m) : putE st (fitN m) b = 8 := by
  unfold putE
  rw [if_neg (by omega)]
  rcases fit_next m with h1 | h1
  · rw [if_pos (by omega)]
  · by_cases h60 : 60 ≤ fitN m
    · rw [if_pos h60]
    · rw [if_neg h60, if_pos (by rw [(h.snoc hb).size]; omega)]
theorem FullS.has {m i : Nat} {st : List SlotL} (h : FullS st i m) {k : Nat} (hk : k < i) : hasS st (k : Int) = true := by
  have hk' : k < st.length := by rw [h.1]; exact hk
  unfold hasS
  rw [Int.toNat_natCast, List.getD_eq_getElem?_getD, List.getElem?_eq_getElem hk']
  obtain ⟨l, e, _⟩ := h.2 _ (List.getElem_mem hk')
  simp [e]
theorem FullS.full {m i : Nat} {st : List SlotL} (h : FullS st i m) : (fullS st).length = i := by
  unfold fullS
  rw [List.length_map, List.filter_eq_self.2 (fun k hk => ?_), List.length_range, h.1]
  have hk' : k < st.length := by simpa using hk
  rw [List.getD_eq_getElem?_getD, List.getElem?_eq_getElem hk']
  obtain ⟨l, e, _⟩ := h.2 _ (List.getElem_mem hk')
  simp [e]
/-- one is taken out, and one as great put in -/
theorem FullS.again {m i : Nat} {st : List SlotL} (h : FullS st (i + 1) m) {k : Nat} (hk : k ≤ i) {b : List UInt8} (hb : b.length = m) :
    ixS (delS st k) = k ∧ FullS (putS (delS st k) k b) (i + 1) m := by
  obtain ⟨st0, x, rfl⟩ : ∃ st0 x, st = st0 ++ [x] := by
    rcases List.eq_nil_or_concat st with e | ⟨st0, x, e⟩
    · rw [e] at h; exact absurd h.1 (by simp)
    · exact ⟨st0, x, by rw [e, List.concat_eq_append]⟩
  obtain ⟨l, rfl, hl⟩ := h.2 x (by simp)
  have h0 : FullS st0 i m := ⟨by have := h.1; simp at this; exact this, fun y hy => h.2 y (List.mem_append_left _ hy)⟩
  have hl0 : st0.length = i := h0.1
  rcases Nat.lt_or_ge k i with hki | hki
  · have e1 : delS (st0 ++ [some l]) k = st0.set k none ++ [some l] := by
      unfold delS
      rw [List.set_append_left _ _ (by omega), trimS_some]
    rw [e1]
    have hlen : k < (st0.set k none ++ [some l]).length := by simp; omega
    refine ⟨(List.findIdx_eq hlen).2 ⟨?_, fun j hj => ?_⟩, ?_⟩
    · rw [List.getElem_append_left (by simp; omega), List.getElem_set_self]; rfl
    · rw [List.getElem_append_left (by simp; omega), List.getElem_set_ne (by omega)]
      obtain ⟨l', e, _⟩ := h0.2 _ (List.getElem_mem (show j < st0.length by omega))
      rw [e]; rfl
    · unfold putS
      rw [if_pos hlen, List.set_append_left _ _ (by simp; omega), List.set_set]
      refine ⟨by simp; omega, fun y hy => ?_⟩
      rcases List.mem_append.1 hy with hy | hy
      · rcases List.mem_or_eq_of_mem_set hy with hy | hy
        · exact h0.2 y hy
        · exact ⟨b, hy, hb⟩
      · simp at hy
        exact ⟨l, hy, hl⟩
  · obtain rfl : k = i := by omega
    have e1 : delS (st0 ++ [some l]) k = st0 := by
      unfold delS
      rw [List.set_append_right _ _ (by omega), hl0, Nat.sub_self]
      show trimS (st0 ++ [none]) = st0
      rw [trimS_none]
      rcases List.eq_nil_or_concat st0 with e | ⟨st1, y, e⟩
      · rw [e]; rfl
      · rw [List.concat_eq_append] at e
        obtain ⟨l', e', _⟩ := h0.2 y (by rw [e]; simp)
        rw [e, e', trimS_some]
    rw [e1]
    exact ⟨h0.ix, h0.snoc hb⟩
end Go.Proofs.Ytdeibgljibcnlaa
