/- SlotsPlays: a kind or an ID that may not be; what stays true of both pages. -/
import Derived.Test.YtdeibgljibcnlaaDoorSame
import Derived.Test.YtdeibgljibcnlaaDoorRef6
import Derived.Test.YtdeibgljibcnlaaDoorIsA
namespace Go.Proofs.YtdeibgljibcnlaaDoor
open Go.RowKit

/-- slots.New of a kind or an ID that may not be -/
theorem NewP_err (kind id : Int) (w : World) (h : ¬ ((0 ≤ kind ∧ kind ≤ 255) ∧ 0 ≤ id ∧ id ≤ 4294967295)) :
    Calls Tryd.prog 6 #[.int .i64 kind, .int .i64 id] w fun e w' => ∃ u, e = .returned (.tuple #[.pointer none, u]) ∧ (Er.fault strPage 0 (.num 1)).Is w' u ∧ Below w.heap.size w w' := by
  have BL := Lib.hid (blame_any 0 1 w)
  have fin : ∀ v, (Er.fault strPage 0 (.num 1)).Is w v → True := fun _ _ => trivial
  clear fin
  by_cases h1 : kind < 0
  · have t1 : decide (kind < 0) = true := decide_eq_true h1
    clear h h1
    go_enter Tryd.func6, Tryd.ntmps6
    go_wp2_with fail
    refine BL.out.mono ?_
    rintro e w1 ⟨v, rfl, q1, q2⟩
    go_wp2_with fail
    go_ret2
    exact ⟨_, rfl, q1, q2⟩
  have t1 : decide (kind < 0) = false := decide_eq_false h1
  by_cases h2 : 255 < kind
  · have t2 : decide (255 < kind) = true := decide_eq_true h2
    clear h h1 h2
    go_enter Tryd.func6, Tryd.ntmps6
    go_wp2_with fail
    refine BL.out.mono ?_
    rintro e w1 ⟨v, rfl, q1, q2⟩
    go_wp2_with fail
    go_ret2
    exact ⟨_, rfl, q1, q2⟩
  have t2 : decide (255 < kind) = false := decide_eq_false h2
  by_cases h3 : id < 0
  · have t3 : decide (id < 0) = true := decide_eq_true h3
    clear h h1 h2 h3
    go_enter Tryd.func6, Tryd.ntmps6
    go_wp2_with fail
    refine BL.out.mono ?_
    rintro e w1 ⟨v, rfl, q1, q2⟩
    go_wp2_with fail
    go_ret2
    exact ⟨_, rfl, q1, q2⟩
  have t3 : decide (id < 0) = false := decide_eq_false h3
  have t4 : decide (4294967295 < id) = true := decide_eq_true (by omega)
  clear h h1 h2 h3
  go_enter Tryd.func6, Tryd.ntmps6
  go_wp2_with fail
  refine BL.out.mono ?_
  rintro e w1 ⟨v, rfl, q1, q2⟩
  go_wp2_with fail
  go_ret2
  exact ⟨_, rfl, q1, q2⟩
/-- pergolaref8.NewPage of a kind or an ID that may not be -/
theorem RNew_err (kind id : Int) (w : World) (h : ¬ ((0 ≤ kind ∧ kind ≤ 255) ∧ 0 ≤ id ∧ id ≤ 4294967295)) :
    Calls Tryd.prog 13 #[.int .i64 kind, .int .i64 id] w fun e w' => e = .returned (.tuple #[.pointer none, .int .i64 1]) ∧ w = w' := by
  by_cases h1 : kind < 0
  · have t1 : decide (kind < 0) = true := decide_eq_true h1
    clear h h1
    go_enter Tryd.func13, Tryd.ntmps13
    go_wp2_with fail
    go_ret2
    exact ⟨rfl, rfl⟩
  have t1 : decide (kind < 0) = false := decide_eq_false h1
  by_cases h2 : 255 < kind
  · have t2 : decide (255 < kind) = true := decide_eq_true h2
    clear h h1 h2
    go_enter Tryd.func13, Tryd.ntmps13
    go_wp2_with fail
    go_ret2
    exact ⟨rfl, rfl⟩
  have t2 : decide (255 < kind) = false := decide_eq_false h2
  by_cases h3 : id < 0
  · have t3 : decide (id < 0) = true := decide_eq_true h3
    clear h h1 h2 h3
    go_enter Tryd.func13, Tryd.ntmps13
    go_wp2_with fail
    go_ret2
    exact ⟨rfl, rfl⟩
  have t3 : decide (id < 0) = false := decide_eq_false h3
  have t4 : decide (4294967295 < id) = true := decide_eq_true (by omega)
  clear h h1 h2 h3
  go_enter Tryd.func13, Tryd.ntmps13
  go_wp2_with fail
  go_ret2
  exact ⟨rfl, rfl⟩

theorem erOf_isB (i k : Int) (hk : 0 ≤ k ∧ k ≤ 15) : (erOf i k).isB k strPage i = true := by
  unfold erOf
  by_cases h : k = 0
  · rw [if_pos h, h]; rfl
  · rw [if_neg h]
    have hc : (Er.fault strPage i (.num k)).code = k := by
      show (if 1 ≤ k ∧ k ≤ 15 then k else -1) = k
      rw [if_pos (by omega)]
    simp [Er.isB, hc]
theorem putE_in15 (st : List SlotL) (i : Nat) (b : List UInt8) : 0 ≤ putE st i b ∧ putE st i b ≤ 15 := by
  rcases putE_zero st i b with h | h | h <;> rw [h] <;> decide
theorem erOf_stays {w w' : World} {i k : Int} {u : Value} (h : (erOf i k).Is w u) (hb : ¬ k = 0 → Below w.heap.size w w') : (erOf i k).Is w' u := by
  by_cases h0 : k = 0
  · unfold erOf at h ⊢
    rw [if_pos h0] at h ⊢
    exact h
  · exact h.below (hb h0)

/-- what may be read again: no slot too great, and the last one not free -/
def Good (st : List SlotL) : Prop := (∀ x ∈ st, blen x ≤ 400) ∧ lastFree st = false
theorem good_nil : Good [] := ⟨fun x hx => (by cases hx), rfl⟩
theorem lastFree_snoc (st : List SlotL) (x : SlotL) : lastFree (st ++ [x]) = x.isNone := by
  unfold lastFree
  rw [List.getLast?_append]
  cases x <;> rfl
theorem good_put {st : List SlotL} (h : Good st) (i : Nat) (b : List UInt8) (he : putE st i b = 0) : Good (putS st i b) := by
  have hb : b.length ≤ 400 := by
    unfold putE at he
    split at he
    · cases he
    · omega
  unfold putS
  by_cases hi : i < st.length
  · rw [if_pos hi]
    refine ⟨fun x hx => ?_, ?_⟩
    · rcases List.mem_or_eq_of_mem_set hx with hx | rfl
      · exact h.1 x hx
      · exact hb
    · have h2 := h.2
      unfold lastFree at h2 ⊢
      rw [List.getLast?_eq_getElem?] at h2 ⊢
      rw [List.length_set]
      by_cases hj : i = st.length - 1
      · rw [hj, List.getElem?_set_self (by omega)]
      · rw [List.getElem?_set_ne hj]
        exact h2
  · rw [if_neg hi]
    refine ⟨fun x hx => ?_, by rw [lastFree_snoc]; rfl⟩
    rcases List.mem_append.1 hx with hx | hx
    · exact h.1 x hx
    · obtain rfl : x = some b := by simpa using hx
      exact hb
theorem trim_good (st : List SlotL) : lastFree (trimS st) = false ∧ ∀ x ∈ trimS st, x ∈ st := by
  generalize hn : st.length = n
  induction n generalizing st with
  | zero =>
    obtain rfl := List.eq_nil_of_length_eq_zero hn
    exact ⟨rfl, fun x hx => hx⟩
  | succ n ih =>
    rcases List.eq_nil_or_concat st with e | ⟨s0, x, e⟩
    · rw [e]; exact ⟨rfl, fun x hx => hx⟩
    · rw [List.concat_eq_append] at e
      subst e
      cases x with
      | some l =>
        rw [trimS_some, lastFree_snoc]
        exact ⟨rfl, fun x hx => hx⟩
      | none =>
        rw [trimS_none]
        obtain ⟨q1, q2⟩ := ih s0 (by simpa using hn)
        exact ⟨q1, fun x hx => List.mem_append_left _ (q2 x hx)⟩
theorem good_del {st : List SlotL} (h : Good st) (i : Nat) : Good (delS st i) := by
  obtain ⟨q1, q2⟩ := trim_good (st.set i none)
  refine ⟨fun x hx => ?_, q1⟩
  rcases List.mem_or_eq_of_mem_set (q2 x hx) with hx | rfl
  · exact h.1 x hx
  · exact Nat.zero_le _

/-- In world w both pages are so. -/
def PlayIs (w : World) (B p q kind id : Nat) (st : List SlotL) : Prop :=
  Good st ∧ PageS w B p kind id st ∧ ∃ r, snds r = st ∧ RefIs w B q kind id r
theorem PlayIs.below {w w' : World} {B p q kind id : Nat} {st : List SlotL} (h : PlayIs w B p q kind id st) (hb : Below w.heap.size w w') : PlayIs w' B p q kind id st := by
  obtain ⟨h1, h2, r, h3, h4⟩ := h
  exact ⟨h1, h2.below hb, r, h3, h4.below hb⟩
theorem PlayIs.same {w : World} {B p q kind id : Nat} {st : List SlotL} (h : PlayIs w B p q kind id st) (hk : kind ≤ 255) (hid : id ≤ 4294967295) :
    Calls Tryd.prog 22 #[.pointer (some ⟨p, 0, none⟩), .pointer (some ⟨q, 0, none⟩)] w fun e w' => e = .returned (.bool true) ∧ Below w.heap.size w w' := by
  obtain ⟨h1, h2, r, h3, h4⟩ := h
  exact Same_any h2 h4 h3 hk hid
theorem PageS.base {w : World} {B B' p : Nat} {kind id : Int} {st : List SlotL} (h : PageS w B p kind id st) (hb : B' ≤ B) : PageS w B' p kind id st := by
  obtain ⟨h0, h1, r, h2, h3, L, h4, h5, h6⟩ := h
  refine ⟨h0, h1, r, h2, Nat.le_trans hb h3, L, h4, own_base h5 hb, fun x hx => ?_⟩
  have := h6 x hx
  obtain ⟨v, o⟩ := x
  cases o with
  | none => exact this
  | some l => exact own_base (show w.ownsRow B 5 1 v l.length (bytesV l) from this) hb
theorem PlayIs.ref {w : World} {B p q kind id : Nat} {st : List SlotL} (h : PlayIs w B p q kind id st) : ∃ r, snds r = st ∧ RefIs w B q kind id r ∧ r.length ≤ 60 ∧ sizeR r ≤ 1000000 := by
  obtain ⟨h1, h2, r, h3, h4⟩ := h
  refine ⟨r, h3, h4, ?_, ?_⟩
  · have := h2.2.1
    rw [← h3] at this
    simpa [snds] using this
  · have := h2.1
    rw [sizeR_snds, h3]
    omega

/-- Set, on both -/
theorem PlayIs.set {w : World} {B p q kind id : Nat} {st : List SlotL} (h : PlayIs w B p q kind id st) (i : Int) (v : Value) (b : List UInt8) (hb : Own w B v b) (hlen : b.length ≤ 1000000) :
    ∃ (k : Int) (st' : List SlotL), (0 ≤ k ∧ k ≤ 15) ∧ Calls Tryd.prog 15 #[.pointer (some ⟨p, 0, none⟩), .int .i64 i, v] w (fun e w1 => ∃ u, e = .returned u ∧ (erOf i k).Is w1 u ∧ Frm B w w1 ∧
      Calls Tryd.prog 16 #[.pointer (some ⟨q, 0, none⟩), .int .i64 i, v] w1 fun e w2 => e = .returned (.int .i64 k) ∧ (erOf i k).Is w2 u ∧ PlayIs w2 B p q kind id st' ∧ FrmR B w1 w2) := by
  obtain ⟨r, hr1, hr2, hr3, hr4⟩ := h.ref
  obtain ⟨hg, hp, _⟩ := h
  refine ⟨if hasS st i = true then putE st i.toNat b else 15, if (if hasS st i = true then putE st i.toNat b else 15) = 0 then putS st i.toNat b else st, (by split; exact putE_in15 _ _ _; decide), (Set_any hp i v b hb.byt hlen).mono ?_⟩
  rintro e w1 ⟨u, rfl, hu, hp1, f1⟩
  refine ⟨u, rfl, hu, f1, ?_⟩
  have hb1 : Own w1 B v b := f1.own (by decide) (by decide) hb
  refine (RSet_any (hr2.frm f1) hr3 hr4 i v b hb1.byt hlen).mono ?_
  rw [hr1]
  rintro e w2 ⟨rfl, ⟨r', hr5, hr6⟩, f2, b2⟩
  refine ⟨rfl, erOf_stays hu b2, ⟨?_, hp1.frmR f2, r', ?_, hr6⟩, f2⟩
  · by_cases h0 : (if hasS st i = true then putE st i.toNat b else 15) = 0
    · rw [if_pos h0]
      by_cases hh : hasS st i = true
      · rw [if_pos hh] at h0
        exact good_put hg _ _ h0
      · rw [if_neg hh] at h0
        cases h0
    · rw [if_neg h0]
      exact hg
  · rw [hr5]
    by_cases hh : hasS st i = true
    · simp only [hh, if_true]
    · simp only [hh]
      rfl
/-- Delete, on both -/
theorem PlayIs.delete {w : World} {B p q kind id : Nat} {st : List SlotL} (h : PlayIs w B p q kind id st) (i : Int) :
    ∃ (k : Int) (st' : List SlotL), (0 ≤ k ∧ k ≤ 15) ∧ Calls Tryd.prog 17 #[.pointer (some ⟨p, 0, none⟩), .int .i64 i] w (fun e w1 => ∃ u, e = .returned u ∧ (erOf i k).Is w1 u ∧ Frm B w w1 ∧
      Calls Tryd.prog 18 #[.pointer (some ⟨q, 0, none⟩), .int .i64 i] w1 fun e w2 => e = .returned (.int .i64 k) ∧ (erOf i k).Is w2 u ∧ PlayIs w2 B p q kind id st' ∧ FrmR B w1 w2) := by
  obtain ⟨r, hr1, hr2, hr3, hr4⟩ := h.ref
  obtain ⟨hg, hp, _⟩ := h
  refine ⟨if hasS st i = true then 0 else 15, if (if hasS st i = true then (0 : Int) else 15) = 0 then delS st i.toNat else st, (by split <;> decide), (Delete_any hp i).mono ?_⟩
  rintro e w1 ⟨u, rfl, hu, hp1, f1⟩
  refine ⟨u, rfl, hu, f1, ?_⟩
  refine (RDelete_any (hr2.frm f1) hr3 i).mono ?_
  rw [hr1]
  rintro e w2 ⟨rfl, ⟨r', hr5, hr6⟩, f2, b2⟩
  refine ⟨rfl, erOf_stays hu b2, ⟨?_, hp1.frmR f2, r', ?_, hr6⟩, f2⟩
  · split
    · exact good_del hg _
    · exact hg
  · rw [hr5]
    by_cases hh : hasS st i = true
    · simp only [hh, if_true]
    · simp only [hh]
      rfl
/-- Insert, on both -/
theorem PlayIs.insert {w : World} {B p q kind id : Nat} {st : List SlotL} (h : PlayIs w B p q kind id st) (v : Value) (b : List UInt8) (hb : Own w B v b) (hlen : b.length ≤ 1000000) :
    ∃ (k i : Int) (st' : List SlotL), (0 ≤ k ∧ k ≤ 15) ∧ Calls Tryd.prog 7 #[.pointer (some ⟨p, 0, none⟩), v] w (fun e w1 => ∃ u, e = .returned (.tuple #[.int .i64 (if k = 0 then i else 0), u]) ∧ (erOf i k).Is w1 u ∧ Frm B w w1 ∧
      Calls Tryd.prog 14 #[.pointer (some ⟨q, 0, none⟩), v] w1 fun e w2 => e = .returned (.tuple #[.int .i64 i, .int .i64 k]) ∧ (erOf i k).Is w2 u ∧ PlayIs w2 B p q kind id st' ∧ FrmR B w1 w2) := by
  obtain ⟨r, hr1, hr2, hr3, hr4⟩ := h.ref
  obtain ⟨hg, hp, _⟩ := h
  refine ⟨putE st (ixS st) b, ixS st, if putE st (ixS st) b = 0 then putS st (ixS st) b else st, putE_in15 _ _ _, (Insert_any hp v b hb.byt hlen).mono ?_⟩
  rintro e w1 ⟨u, rfl, hu, hp1, f1⟩
  refine ⟨u, rfl, hu, f1, ?_⟩
  have hb1 : Own w1 B v b := f1.own (by decide) (by decide) hb
  refine (RInsert_any (hr2.frm f1) hr3 hr4 v b hb1 hlen).mono ?_
  unfold RInsRet
  rw [hr1]
  rintro e w2 ⟨rfl, ⟨r', hr5, hr6⟩, f2, b2⟩
  refine ⟨rfl, erOf_stays hu b2, ⟨?_, hp1.frmR f2, r', hr5, hr6⟩, f2⟩
  split
  · rename_i h0
    exact good_put hg _ _ h0
  · exact hg
end Go.Proofs.YtdeibgljibcnlaaDoor
