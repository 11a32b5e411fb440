/- Get, Set, Slots. -/
import Derived.Test.YtdeibgljibcnlaaDoorSlot6
namespace Go.Proofs.YtdeibgljibcnlaaDoor
open Go.RowKit

/-- the bytes of a slot -/
def getB (st : List SlotL) (i : Int) : List UInt8 := (st.getD i.toNat none).getD []

/-- What Get hands back. -/
def GetRet (w : World) (st : List SlotL) (i : Int) (e : Ending) (w' : World) : Prop :=
  ∃ v u, e = .returned (.tuple #[v, u]) ∧ (if hasS st i = true then u = .nilIface ∧ Own w' w.heap.size v (getB st i) else v = .slice none 0 0 ∧ (Er.fault strPage i (.num 15)).Is w' u) ∧ Below w.heap.size w w'

theorem Get_any {w : World} {base p : Nat} {kind id : Int} {st : List SlotL} (h : PageS w base p kind id st) (i : Int) :
    Calls Tryd.prog 19 #[.pointer (some ⟨p, 0, none⟩), .int .i64 i] w (GetRet w st i) := by
  have HH := Lib.hid (has_any h i)
  unfold GetRet
  cases hh : hasS st i with
  | false =>
    rw [hh] at HH
    have BL := Lib.hid (blame_any i 15 w)
    simp only [Bool.false_eq_true, if_false]
    clear h hh
    go_enter Tryd.func19, Tryd.ntmps19
    go_wp2_with fail
    refine HH.out.mono ?_
    rintro e w1 ⟨rfl, rfl⟩
    go_wp2_with fail
    refine BL.out.mono ?_
    rintro e w2 ⟨u, rfl, hu, b2⟩
    go_wp2_with fail
    go_ret2
    exact ⟨_, _, rfl, ⟨rfl, hu⟩, b2⟩
  | true =>
    rw [hh] at HH
    simp only [if_true]
    obtain ⟨hs, hl, r, rfl, hp⟩ := h
    obtain ⟨ao, c, h1, h2⟩ := hp.row
    have c3 : w.cell? ⟨p, 3, none⟩ = some (.slice ao r.length c) := by simp [World.cell?, h1]
    have hsl : (snds r).length = r.length := by simp [snds]
    unfold hasS at hh
    rw [Bool.and_eq_true, decide_eq_true_eq] at hh
    obtain ⟨h0, hsome⟩ := hh
    obtain ⟨k, rfl⟩ := Int.eq_ofNat_of_zero_le h0
    rw [Int.toNat_natCast] at hsome
    have hk : k < r.length := by
      rcases Nat.lt_or_ge k r.length with hk | hk
      · exact hk
      · rw [List.getD_eq_getElem?_getD, List.getElem?_eq_none (by omega)] at hsome
        simp at hsome
    have hg : (snds r).getD k none = r[k].2 := by
      rw [List.getD_eq_getElem?_getD, List.getElem?_eq_getElem (by omega)]
      simp [snds]
    have HB := Lib.hid (show getB (snds r) (k : Int) = r[k].2.getD [] by unfold getB; rw [Int.toNat_natCast, hg])
    rw [hg] at hsome
    obtain ⟨ao', c', e1, q1, q2, q3⟩ := h2.open
    simp only [Value.slice.injEq, true_and] at e1
    obtain ⟨rfl, rfl⟩ := e1
    obtain ⟨b, off, rfl, hbl, x0, x1⟩ := q3 k hk
    have hx := h2.2 _ (List.getElem_mem hk)
    have hsz : blen r[k].2 ≤ 1000000 := by
      have a1 := sumR_take hk
      have a2 := sumR_le r (k + 1)
      have a3 := sizeR_snds r
      unfold sizeR at a3
      omega
    unfold maxLen at q2
    generalize r[k] = x at *
    obtain ⟨v, o⟩ := x
    cases o with
    | none => simp at hsome
    | some l =>
      have CB := Lib.hid (Clone_any v l w (Own.byt hx) (by simp [blen] at hsz; omega))
      obtain ⟨av, cv, rfl, _⟩ := (Own.byt hx).open
      have HB' := Lib.hid (show getB (snds r) (k : Int) = l from HB.out)
      have i0 : (0 : Int) ≤ (k : Int) := by omega
      have i1 : (k : Int) < (r.length : Int) := by omega
      simp only at x0
      clear hp h1 h2 q3 hx hsome hg h0 hsz HB
      go_enter Tryd.func19, Tryd.ntmps19
      go_wp2_with fail
      refine HH.out.mono ?_
      rintro e w1 ⟨rfl, rfl⟩
      go_wp2_with fail
      refine CB.out.mono ?_
      rintro e w2 ⟨v2, rfl, o2, b2⟩
      go_wp2_with fail
      go_ret2
      exact ⟨_, _, rfl, ⟨rfl, by rw [HB'.out]; exact o2⟩, b2⟩

/-- Set -/
theorem Set_any {w : World} {base p : Nat} {kind id : Int} {st : List SlotL} (h : PageS w base p kind id st) (i : Int) (v : Value) (b : List UInt8) (hb : Byt w v b) (hlen : b.length ≤ 1000000) :
    Calls Tryd.prog 15 #[.pointer (some ⟨p, 0, none⟩), .int .i64 i, v] w (PutRet base p kind id w i (if hasS st i = true then putE st i.toNat b else 15) st (putS st i.toNat b)) := by
  have HH := Lib.hid (has_any h i)
  have hbs : base ≤ w.heap.size := by obtain ⟨_, _, r, _, hp⟩ := h; exact hp.size.1
  have FB := Lib.hid (show ∀ w', Below w.heap.size w w' → Frm base w w' from fun w' h => .of_below h hbs)
  have PB := Lib.hid (show ∀ w', Below w.heap.size w w' → PageS w' base p kind id st from fun w' hh => h.below hh)
  cases hh : hasS st i with
  | false =>
    rw [hh] at HH
    have BL := Lib.hid (blame_any i 15 w)
    simp only [Bool.false_eq_true, if_false]
    clear h hh hb
    go_enter Tryd.func15, Tryd.ntmps15
    go_wp2_with fail
    refine HH.out.mono ?_
    rintro e w1 ⟨rfl, rfl⟩
    go_wp2_with fail
    refine BL.out.mono ?_
    rintro e w2 ⟨u, rfl, hu, b2⟩
    go_wp2_with fail
    go_ret
    exact ⟨_, rfl, hu, PB.out _ b2, FB.out _ b2⟩
  | true =>
    have hh' := hh
    rw [hh] at HH
    simp only [if_true]
    unfold hasS at hh'
    rw [Bool.and_eq_true, decide_eq_true_eq] at hh'
    obtain ⟨h0, hsome⟩ := hh'
    obtain ⟨k, rfl⟩ := Int.eq_ofNat_of_zero_le h0
    rw [Int.toNat_natCast] at hsome ⊢
    have hk : k ≤ st.length := by
      rcases Nat.lt_or_ge k st.length with hk | hk
      · omega
      · rw [List.getD_eq_getElem?_getD, List.getElem?_eq_none hk] at hsome
        simp at hsome
    have PT := Lib.hid (put_any h k hk v b hb hlen)
    generalize putE st k b = x at *
    generalize putS st k b = st' at *
    clear h hh hsome hb h0
    go_enter Tryd.func15, Tryd.ntmps15
    go_wp2_with fail
    refine HH.out.mono ?_
    rintro e w1 ⟨rfl, rfl⟩
    go_wp2_with fail
    refine PT.out.mono ?_
    rintro e w2 ⟨u, rfl, hu, p2, f2⟩
    have U := Lib.hid hu
    have P2 := Lib.hid p2
    have F2 := Lib.hid f2
    clear hu p2 f2
    go_wp2_with fail
    go_ret
    exact ⟨_, rfl, U.out, P2.out, F2.out⟩
end Go.Proofs.YtdeibgljibcnlaaDoor
