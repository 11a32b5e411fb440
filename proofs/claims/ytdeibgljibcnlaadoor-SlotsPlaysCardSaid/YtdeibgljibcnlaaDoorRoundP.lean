/- A page's bytes are read as the page, in plain Lean. -/
import Derived.Test.YtdeibgljibcnlaaDoorFlipMath
namespace Go.Proofs.YtdeibgljibcnlaaDoor

theorem getD_wr2_0 {l : List UInt8} {o n : Nat} (h : o + 2 ≤ l.length) : (wr2 l o n).getD o 0 = UInt8.ofNat n := by
  unfold wr2
  rw [getD_set (by omega), getD_set_self (by omega)]
theorem getD_wr2_1 {l : List UInt8} {o n : Nat} (h : o + 2 ≤ l.length) : (wr2 l o n).getD (o + 1) 0 = UInt8.ofNat (n / 256) := by
  unfold wr2
  rw [getD_set_self (by simp; omega)]
theorem num2_wr2 {l : List UInt8} {o n : Nat} (h : o + 2 ≤ l.length) (hn : n < 65536) : num2 (wr2 l o n) o = n := by
  unfold num2
  rw [getD_wr2_0 h, getD_wr2_1 h]
  simp only [UInt8.toNat_ofNat']
  omega
theorem num2_congr {l m : List UInt8} {o : Nat} (h : ∀ j, o ≤ j → j < o + 2 → l.getD j 0 = m.getD j 0) : num2 l o = num2 m o := by
  unfold num2
  rw [h o (by omega) (by omega), h (o + 1) (by omega) (by omega)]
theorem getD_splice_in {l b : List UInt8} {o j : Nat} (h1 : o ≤ j) (h2 : j < o + b.length) (hl : o ≤ l.length) : (splice l o b).getD j 0 = b.getD (j - o) 0 := by
  unfold splice
  rw [List.getD_eq_getElem?_getD, List.getD_eq_getElem?_getD, List.getElem?_append_right (by rw [List.length_take]; omega), List.length_take, Nat.min_eq_left hl, List.getElem?_append_left (by omega)]
theorem getD_splice_hi {l b : List UInt8} {o j : Nat} (h1 : o + b.length ≤ j) (hl : o + b.length ≤ l.length) : (splice l o b).getD j 0 = l.getD j 0 := by
  unfold splice
  rw [List.getD_eq_getElem?_getD, List.getD_eq_getElem?_getD, List.getElem?_append_right (by rw [List.length_take]; omega), List.length_take, Nat.min_eq_left (by omega), List.getElem?_append_right (by omega), List.getElem?_drop]
  congr 2
  omega

/-- what slot i's four bytes, and its own, say -/
def SlotOk (out : List UInt8) (i : Nat) (x : SlotL) (e : Nat) : Prop :=
  match x with
  | none => num2 out (18 + 4 * i) = 0
  | some b => num2 out (18 + 4 * i) = b.length + 1 ∧ num2 out (16 + 4 * i) = e ∧ ∀ t, t < b.length → out.getD (e + t) 0 = b.getD t 0
theorem SlotOk.congr {out out' : List UInt8} {i e : Nat} {x : SlotL} (h : SlotOk out i x e) (h1 : ∀ j, 16 + 4 * i ≤ j → j < 20 + 4 * i → out'.getD j 0 = out.getD j 0) (h2 : ∀ j, e ≤ j → j < e + blen x → out'.getD j 0 = out.getD j 0) : SlotOk out' i x e := by
  cases x with
  | none =>
    have h' : num2 out (18 + 4 * i) = 0 := h
    show num2 out' (18 + 4 * i) = 0
    rw [num2_congr (fun j a b => h1 j (by omega) (by omega))]
    exact h'
  | some b =>
    obtain ⟨q1, q2, q3⟩ := h
    refine ⟨?_, ?_, fun t ht => ?_⟩
    · rw [num2_congr (fun j a b => h1 j (by omega) (by omega))]; exact q1
    · rw [num2_congr (fun j a b => h1 j (by omega) (by omega))]; exact q2
    · rw [h2 _ (by omega) (by simp only [blen]; omega)]; exact q3 t ht

theorem laid (kind id : Nat) (st : List SlotL) (hs : sizeS st ≤ 512) (hb : ∀ x ∈ st, blen x ≤ 400) : ∀ k, k ≤ st.length →
    (∀ i (hi : i < k) (hi' : i < st.length), SlotOk (layB kind id st k).out i st[i] (layB kind id st (i + 1)).e) ∧
    (∀ j, 16 + 4 * k ≤ j → j < 16 + 4 * st.length → (layB kind id st k).out.getD j 0 = 0)
  | 0, _ => by
    refine ⟨fun i hi => by omega, fun j h1 h2 => ?_⟩
    unfold layB
    rw [List.take_zero, List.foldl_nil]
    unfold startB
    rw [getD_wr4 (by omega), getD_set (by omega), getD_set (by omega), List.getD_eq_getElem?_getD, List.getElem?_replicate]
    split <;> rfl
  | k + 1, hk => by
    have hk' : k < st.length := hk
    obtain ⟨ih1, ih2⟩ := laid kind id st hs hb k (by omega)
    obtain ⟨h1, h2, h3⟩ := layB_ok kind id st hs k (by omega)
    have hE : ∀ i, i ≤ k → (layB kind id st i).e ≥ (layB kind id st k).e := fun i hi => by
      obtain ⟨_, q2, _⟩ := layB_ok kind id st hs i (by omega)
      have : ((st.take i).map blen).sum ≤ ((st.take k).map blen).sum := by
        have e : (st.take k).map blen = (st.take i).map blen ++ ((st.take k).drop i).map blen := by
          rw [← List.map_append]
          congr 1
          conv => lhs; rw [← List.take_append_drop i (st.take k)]
          rw [List.take_take, Nat.min_eq_left hi]
        rw [e, List.sum_append]
        omega
      omega
    have e : (st.map blen).sum = ((st.take (k + 1)).map blen).sum + ((st.drop (k + 1)).map blen).sum := by
      rw [← List.sum_append, ← List.map_append, List.take_append_drop]
    have hsz := hs
    unfold sizeS at hs
    rw [List.take_succ_eq_append_getElem hk', List.map_append, List.sum_append] at e
    simp only [List.map_cons, List.map_nil, List.sum_cons, List.sum_nil] at e
    have hstep := layB_succ kind id st k hk'
    have hbk := hb _ (List.getElem_mem hk')
    have hEj : ∀ i (hi : i < k) (hi' : i < st.length), (layB kind id st (i + 1)).e ≥ (layB kind id st k).e := fun i hi hi' => hE (i + 1) (by omega)
    generalize hL : layB kind id st k = s at *
    obtain ⟨i0, en, out⟩ := s
    simp only at ih1 ih2 h1 h2 h3 hEj
    subst h1
    cases hx : st[i0] with
    | none =>
      rw [hx] at hstep
      simp only [stepB] at hstep
      rw [hstep]
      refine ⟨fun i hi hi' => ?_, fun j q1 q2 => ih2 j (by omega) q2⟩
      rcases Nat.eq_or_lt_of_le (Nat.le_of_lt_succ hi) with rfl | hlt
      · rw [hx]
        show num2 out (18 + 4 * i) = 0
        unfold num2
        rw [ih2 _ (by omega) (by omega), ih2 _ (by omega) (by omega)]
        rfl
      · exact ih1 i hlt hi'
    | some b =>
      rw [hx] at hstep e hbk
      simp only [blen] at e hbk
      simp only [stepB] at hstep
      rw [hstep]
      have hen : 16 + 4 * st.length ≤ en - b.length := by omega
      have hen2 : en - b.length + b.length = en := by omega
      have hspl : (splice out (en - b.length) b).length = 512 := by rw [splice_length _ _ _ (by omega)]; exact h3
      have far : ∀ j, (j < 16 + 4 * i0 ∨ 20 + 4 * i0 ≤ j) → (j < en - b.length ∨ en ≤ j) → (wr2 (wr2 (splice out (en - b.length) b) (16 + 4 * i0) (en - b.length)) (18 + 4 * i0) (b.length + 1)).getD j 0 = out.getD j 0 := fun j a1 a2 => by
        rw [getD_wr2 (by omega), getD_wr2 (by omega)]
        rcases a2 with a2 | a2
        · rw [getD_splice (by omega) (by omega)]
        · rw [getD_splice_hi (by omega) (by omega)]
      refine ⟨fun i hi hi' => ?_, fun j q1 q2 => ?_⟩
      · rcases Nat.eq_or_lt_of_le (Nat.le_of_lt_succ hi) with rfl | hlt
        · rw [hx, hstep]
          refine ⟨num2_wr2 (by rw [wr2_length]; omega) (by omega), ?_, fun t ht => ?_⟩
          · rw [num2_congr (m := wr2 (splice out (en - b.length) b) (16 + 4 * i) (en - b.length)) (fun j _ _ => getD_wr2 (by omega))]
            exact num2_wr2 (by omega) (by omega)
          · simp only
            rw [getD_wr2 (by omega), getD_wr2 (by omega), getD_splice_in (by omega) (by omega) (by omega)]
            congr 1
            omega
        · have hge := hEj i hlt hi'
          refine (ih1 i hlt hi').congr (fun j a1 a2 => far j (by omega) (by omega)) (fun j a1 a2 => far j (by omega) (by omega))
      · rw [far j (by omega) (by omega)]
        exact ih2 j (by omega) q2
theorem pageB_length' (kind id : Nat) (st : List SlotL) (hs : sizeS st ≤ 512) : (pageB kind id st).length = 512 := by
  unfold pageB
  rw [wr4_length]
  exact (layB_ok kind id st hs st.length (Nat.le_refl _)).2.2
/-- the first sixteen bytes stay while slots are laid -/
theorem layB_low (kind id : Nat) (st : List SlotL) (hs : sizeS st ≤ 512) (j : Nat) (h16 : j < 16) : ∀ k, k ≤ st.length → (layB kind id st k).out.getD j 0 = (startB kind id st.length).out.getD j 0
  | 0, _ => by
    unfold layB
    rw [List.take_zero, List.foldl_nil]
  | k + 1, hk => by
    have hk' : k < st.length := hk
    have ih := layB_low kind id st hs j h16 k (by omega)
    obtain ⟨h1, h2, h3⟩ := layB_ok kind id st hs k (by omega)
    have e : (st.map blen).sum = ((st.take (k + 1)).map blen).sum + ((st.drop (k + 1)).map blen).sum := by
      rw [← List.sum_append, ← List.map_append, List.take_append_drop]
    unfold sizeS at hs
    rw [List.take_succ_eq_append_getElem hk', List.map_append, List.sum_append] at e
    simp only [List.map_cons, List.map_nil, List.sum_cons, List.sum_nil] at e
    rw [layB_succ _ _ _ _ hk']
    generalize layB kind id st k = s at *
    obtain ⟨i, en, out⟩ := s
    simp only at ih h1 h2 h3
    cases hx : st[k] with
    | none => exact ih
    | some b =>
      rw [hx] at e
      simp only [blen] at e
      simp only [stepB]
      rw [getD_wr2 (by omega), getD_wr2 (by omega), getD_splice (by omega) (by omega)]
      exact ih
theorem num2_wr2_mod {l : List UInt8} {o n : Nat} (h : o + 2 ≤ l.length) : num2 (wr2 l o n) o = n % 65536 := by
  unfold num2
  rw [getD_wr2_0 h, getD_wr2_1 h]
  simp only [UInt8.toNat_ofNat']
  omega
theorem page_head (kind id : Nat) (st : List SlotL) (hs : sizeS st ≤ 512) (hl : st.length ≤ 60) (hk : kind ≤ 255) (hid : id ≤ 4294967295) :
    ((pageB kind id st).getD 0 0).toNat = kind ∧ ((pageB kind id st).getD 1 0).toNat = st.length ∧ idB (pageB kind id st) = id := by
  have hlo : ∀ j, j < 12 → (pageB kind id st).getD j 0 = (startB kind id st.length).out.getD j 0 := fun j hj => by
    unfold pageB
    rw [getD_wr4 (by omega), layB_low kind id st hs j (by omega) _ (Nat.le_refl _)]
  generalize hZ : ((List.replicate 512 (0 : UInt8)).set 0 (UInt8.ofNat kind)).set 1 (UInt8.ofNat st.length) = Z at *
  have hZl : Z.length = 512 := by rw [← hZ, List.length_set, List.length_set, List.length_replicate]
  have hst : (startB kind id st.length).out = wr2 (wr2 Z 2 id) 4 (id / 65536) := by rw [← hZ]; rfl
  rw [hst] at hlo
  refine ⟨?_, ?_, ?_⟩
  · rw [hlo 0 (by omega), getD_wr2 (by omega), getD_wr2 (by omega), ← hZ, getD_set (by omega), getD_set_self (by rw [List.length_replicate]; omega), UInt8.toNat_ofNat']
    omega
  · rw [hlo 1 (by omega), getD_wr2 (by omega), getD_wr2 (by omega), ← hZ, getD_set_self (by rw [List.length_set, List.length_replicate]; omega), UInt8.toNat_ofNat']
    omega
  · unfold idB
    rw [num2_congr (l := pageB kind id st) (m := wr2 (wr2 Z 2 id) 4 (id / 65536)) (o := 2) (fun j a b => hlo j (by omega)), num2_congr (l := pageB kind id st) (m := wr2 (wr2 Z 2 id) 4 (id / 65536)) (o := 4) (fun j a b => hlo j (by omega)),
      num2_congr (l := wr2 (wr2 Z 2 id) 4 (id / 65536)) (m := wr2 Z 2 id) (o := 2) (fun j a b => getD_wr2 (by omega)), num2_wr2_mod (by omega), num2_wr2_mod (by rw [wr2_length]; omega)]
    omega
theorem page_slots (kind id : Nat) (st : List SlotL) (hs : sizeS st ≤ 512) (hb : ∀ x ∈ st, blen x ≤ 400) (k : Nat) (hk : k < st.length) : slotAt (pageB kind id st) k = some st[k] := by
  obtain ⟨h1, _⟩ := laid kind id st hs hb st.length (Nat.le_refl _)
  have h2 := h1 k hk hk
  have hlen := pageB_length' kind id st hs
  have h3 : SlotOk (pageB kind id st) k st[k] (layB kind id st (k + 1)).e := by
    obtain ⟨_, q2, _⟩ := layB_ok kind id st hs (k + 1) hk
    have e : (st.map blen).sum = ((st.take (k + 1)).map blen).sum + ((st.drop (k + 1)).map blen).sum := by
      rw [← List.sum_append, ← List.map_append, List.take_append_drop]
    have hs' := hs
    unfold sizeS at hs'
    exact h2.congr (fun j a b => by unfold pageB; rw [getD_wr4 (by omega)]) (fun j a b => by unfold pageB; rw [getD_wr4 (by omega)])
  have hbk := hb _ (List.getElem_mem hk)
  obtain ⟨_, q2, _⟩ := layB_ok kind id st hs (k + 1) hk
  rw [List.take_succ_eq_append_getElem hk, List.map_append, List.sum_append] at q2
  simp only [List.map_cons, List.map_nil, List.sum_cons, List.sum_nil] at q2
  generalize (layB kind id st (k + 1)).e = E at *
  generalize pageB kind id st = P at *
  unfold slotAt
  cases hx : st[k] with
  | none =>
    rw [hx] at h3
    rw [if_pos (show num2 P (18 + 4 * k) = 0 from h3)]
  | some l =>
    rw [hx] at h3 hbk q2
    obtain ⟨a1, a2, a3⟩ := h3
    simp only [blen] at hbk q2
    rw [a1, a2, if_neg (by omega), Nat.add_sub_cancel, if_neg (by omega)]
    congr 2
    have hl2 : ((P.drop E).take l.length).length = l.length := by rw [List.length_take, List.length_drop]; omega
    refine ext_getD hl2 fun t ht => ?_
    rw [hl2] at ht
    rw [← a3 t ht, List.getD_eq_getElem?_getD, List.getElem?_take, if_pos ht, List.getElem?_drop, ← List.getD_eq_getElem?_getD]
/-- What was laid is read. -/
theorem parseR_page (kind id : Nat) (st : List SlotL) (hs : sizeS st ≤ 512) (hl : st.length ≤ 60) (hk : kind ≤ 255) (hid : id ≤ 4294967295) (hb : ∀ x ∈ st, blen x ≤ 400) (hlast : lastFree st = false) : parseR (pageB kind id st) = some st := by
  obtain ⟨p1, p2, p3⟩ := page_head kind id st hs hl hk hid
  have hp : ∀ k, k ≤ st.length → parsedS (pageB kind id st) k = some (st.take k) := by
    intro k
    induction k with
    | zero => intro _; rfl
    | succ k ih =>
      intro hk
      unfold parsedS
      rw [ih (by omega), page_slots kind id st hs hb k hk, List.take_succ_eq_append_getElem (by omega)]
      rfl
  unfold parseR
  rw [p1, p2, p3, if_neg (by omega), hp _ (Nat.le_refl _), List.take_length]
  show (if lastFree st = true ∨ 512 < sizeS st ∨ pageB kind id st ≠ pageB kind id st then none else some st) = some st
  rw [if_neg]
  rintro (h | h | h)
  · rw [hlast] at h; cases h
  · omega
  · exact h rfl
end Go.Proofs.YtdeibgljibcnlaaDoor
