/- slots.with; the first slot that is free. -/
import Derived.Test.YtdeibgljibcnlaaDoorSlot2
namespace Go.Proofs.YtdeibgljibcnlaaDoor
open Go.RowKit

/-- Rows of two types lie apart. -/
theorem owns_ne {w : World} {b1 b2 s1 s2 n1 n2 : Nat} {e1 e2 : TypeId} {v1 v2 : Value} {x1 x2 : List Value} (h1 : w.ownsRow b1 e1 s1 v1 n1 x1) (h2 : w.ownsRow b2 e2 s2 v2 n2 x2) (he : e1 ≠ e2) {g : Nat} (hg : v2.ownBlock = some g) : v1.ownBlock ≠ some g := by
  intro q
  obtain ⟨c1, f1, k1⟩ := Go.Lib.ownsRow_kind h1 g q
  obtain ⟨c2, f2, k2⟩ := Go.Lib.ownsRow_kind h2 g hg
  rw [k1] at k2
  simp at k2
  exact he k2.2.1
theorem rowV_set : ∀ (r : List SlotV) (i : Nat) (x : SlotV), ((rowV r).set (i * 2) x.1).set (i * 2 + 1) (.bool x.2.isSome) = rowV (r.set i x)
  | [], _, _ => rfl
  | _ :: _, 0, _ => rfl
  | y :: r, i + 1, x => by
    have e1 : (i + 1) * 2 = i * 2 + 1 + 1 := by omega
    have e2 : ∀ r : List SlotV, rowV (y :: r) = y.1 :: .bool y.2.isSome :: rowV r := fun _ => rfl
    rw [e2, e1, List.set_cons_succ, List.set_cons_succ, List.set_cons_succ, List.set_cons_succ, List.set_cons_succ, e2, rowV_set r i x]
theorem OwnR.stored {w : World} {base g cap : Nat} {r : List SlotV} (h : OwnR w base (.slice (some ⟨g, 0, none⟩) r.length cap) r) (i : Nat) (x : SlotV) :
    OwnR ((w.setCell ⟨g, i * 2, none⟩ x.1).setCell ⟨g, i * 2 + 1, none⟩ (.bool x.2.isSome)) base (.slice (some ⟨g, 0, none⟩) r.length cap) (r.set i x) := by
  have h1 := (World.ownsRow.stored h (i * 2) x.1).1
  have h2 := (World.ownsRow.stored h1 (i * 2 + 1) (.bool x.2.isSome)).1
  unfold OwnR
  rw [List.length_set, ← rowV_set]
  exact h2
theorem OwnR.cells {w : World} {base g cap : Nat} {r : List SlotV} (h : OwnR w base (.slice (some ⟨g, 0, none⟩) r.length cap) r) (i : Nat) (hi : i < r.length) :
    g < w.heap.size ∧ w.cell? ⟨g, i * 2, none⟩ = some r[i].1 ∧ w.cell? ⟨g, i * 2 + 1, none⟩ = some (.bool r[i].2.isSome) ∧ w.frozen? ⟨g, i * 2, none⟩ = false ∧ w.frozen? ⟨g, i * 2 + 1, none⟩ = false := by
  obtain ⟨ao, c, hv, _, _, _, h3⟩ := Rd.of_own h
  simp only [Value.slice.injEq, true_and] at hv
  obtain ⟨rfl, rfl⟩ := hv
  have hl := rowV_length r
  obtain ⟨g1, g2⟩ := rowV_get r i hi
  obtain ⟨b, off, e, hlt, c1⟩ := h3 (i * 2) (by omega)
  obtain ⟨b', off', e', _, c2⟩ := h3 (i * 2 + 1) (by omega)
  cases e
  cases e'
  rw [List.getElem?_eq_getElem (by omega)] at g1 g2
  rw [Nat.zero_add] at c1 c2
  exact ⟨hlt, c1.trans g1, c2.trans g2, World.ownsRow.frozenAt h _, World.ownsRow.frozenAt h _⟩

/-- a row with one slot more, or another one -/
def putR (r : List SlotV) (i : Nat) (x : SlotV) : List SlotV := if i < r.length then r.set i x else r ++ [x]

/-- what `with` hands back -/
def WithRet (w : World) (r : List SlotV) (i : Nat) (b : List UInt8) (e : Ending) (w' : World) : Prop :=
  ∃ L' v', e = .returned L' ∧ OwnR w' w.heap.size L' (putR r i (v', some b)) ∧ Own w' w.heap.size v' b ∧ Below w.heap.size w w'

set_option maxHeartbeats 1000000 in
theorem with_any {base : Nat} {L : Value} {r : List SlotV} {w : World} (h : RowIs w base L r) (i : Nat) (hi : i ≤ r.length) (v : Value) (b : List UInt8) (hb : Byt w v b) (hlen : b.length ≤ 1000000) (hl : r.length ≤ 60) :
    Calls Tryd.prog 49 #[L, .int .i64 i, v] w (WithRet w r i b) := by
  have CL := Lib.hid (CloneR_any h (by omega))
  have HB := Lib.hid (show ∀ w1, Below w.heap.size w w1 → Calls Tryd.prog 39 #[v] w1 (NewBytes w1 b) from fun w1 h1 => Clone_any v b w1 (hb.below h1) (by omega))
  clear h hb
  by_cases hlt : i < r.length
  · have t1 : decide ((r.length : Int) ≤ (i : Int)) = false := by simp; omega
    have i0 : (0 : Int) ≤ (i : Int) := by omega
    have i1 : (i : Int) < (r.length : Int) := by omega
    have HP := Lib.hid (show ∀ x, putR r i x = r.set i x from fun x => by unfold putR; rw [if_pos hlt])
    go_enter Tryd.func49, Tryd.ntmps49
    go_wp2_with fail
    refine CL.out.mono ?_
    rintro e w1 ⟨L1, rfl, o1, b1⟩
    have o1' := o1
    rcases o1'.2 with ⟨rfl, h0⟩ | ⟨g, cap, cur, rfl, hbg, _⟩
    · omega
    · have OW1 := Lib.hid o1
      clear o1 o1'
      go_wp2_with fail
      refine (HB.out _ b1).mono ?_
      rintro e w2 ⟨v2, rfl, o2, b2⟩
      have o3 : OwnR w2 w.heap.size _ r := own_below' OW1.out b2
      obtain ⟨hgs, x1, y1, f1, f2⟩ := o3.cells i hlt
      have b3 := b1.trans (b2.mono b1.size)
      obtain ⟨a2, c2, rfl, _⟩ := o2.byt.open
      have B4 := Lib.hid ((b3.setCell (p := ⟨g, i * 2, none⟩) hbg (.slice a2 b.length c2)).setCell (p := ⟨g, i * 2 + 1, none⟩) hbg (.bool true))
      have O4 := Lib.hid (o3.stored i ((Value.slice a2 b.length c2, some b) : SlotV))
      have o2b : Own w2 w.heap.size (.slice a2 b.length c2) b := own_base o2 b1.size
      have ne := owns_ne o2b o3 (by decide) (g := g) rfl
      have O5 := Lib.hid (show Own ((w2.setCell ⟨g, i * 2, none⟩ (.slice a2 b.length c2)).setCell ⟨g, i * 2 + 1, none⟩ (.bool true)) w.heap.size (.slice a2 b.length c2) b from ownsRow_setCell_other (ownsRow_setCell_other o2b ne _) ne _)
      clear o2 o3 o2b ne b2 b3 hbg
      go_wp2_with fail
      go_ret
      exact ⟨_, _, rfl, by rw [HP.out]; exact O4.out, O5.out, B4.out⟩
  · obtain rfl : i = r.length := by omega
    have t1 : decide ((r.length : Int) ≤ (r.length : Int)) = true := by simp
    have HP := Lib.hid (show ∀ x, putR r r.length x = (r ++ [((Value.slice none 0 0, none) : SlotV)]).set r.length x from fun x => by unfold putR; rw [if_neg hlt]; simp)
    go_enter Tryd.func49, Tryd.ntmps49
    go_wp2_with fail
    refine CL.out.mono ?_
    rintro e w1 ⟨L1, rfl, o1, b1⟩
    obtain ⟨a1, c1, rfl⟩ := o1.form
    have hA : Below w1.heap.size w1 (w1.alloc (.cells #[.slice none 0 0, .bool false] 64)) := (Below.refl _ _).alloc (Nat.le_refl _) _
    have OW1 := Lib.hid (show OwnR (w1.alloc (.cells #[.slice none 0 0, .bool false] 64)) w.heap.size _ r from own_below' o1 hA)
    have LIT := Lib.hid (show Rd (w1.alloc (.cells #[.slice none 0 0, .bool false] 64)) (.slice (some ⟨w1.heap.size, 0, none⟩) 1 1) 1 (rowV [(.slice none 0 0, none)]) from rd_alloc w1 #[.slice none 0 0, .bool false] 64 (0, 0) 1 (by simp [maxLen]))
    have bA := b1.trans (hA.mono b1.size)
    clear o1
    go_wp2_with (at_builtin; refine wpList_append_slot rfl _ _ rfl w.heap.size _ r rfl OW1.out _ [(.slice none 0 0, none)] rfl LIT.out (fun x hx => by simp at hx; subst hx; exact ⟨_, _, _, rfl⟩) (by simp; omega) bA.size ?_)
    intro L2 w2 o2 bb2
    have b2 := bA.trans bb2
    have o2' := o2
    rcases o2'.2 with ⟨rfl, h0⟩ | ⟨g, cap, cur, rfl, hbg, _⟩
    · simp at h0
    · have OW2 := Lib.hid o2
      clear o2 o2' bb2
      have i0 : (0 : Int) ≤ (r.length : Int) := by omega
      have i1 : (r.length : Int) < ((r ++ [((Value.slice none 0 0, none) : SlotV)]).length : Int) := by simp; omega
      go_wp2_with fail
      refine (HB.out _ b2).mono ?_
      rintro e w3 ⟨v3, rfl, o3, bb3⟩
      have o4 : OwnR w3 w.heap.size _ (r ++ [(.slice none 0 0, none)]) := own_below' OW2.out bb3
      obtain ⟨hgs, x1, y1, f1, f2⟩ := o4.cells r.length (by simp)
      have b3 := b2.trans (bb3.mono b2.size)
      obtain ⟨a3, c3, rfl, _⟩ := o3.byt.open
      have B4 := Lib.hid ((b3.setCell (p := ⟨g, r.length * 2, none⟩) hbg (.slice a3 b.length c3)).setCell (p := ⟨g, r.length * 2 + 1, none⟩) hbg (.bool true))
      have o4s := o4.stored r.length ((Value.slice a3 b.length c3, some b) : SlotV)
      rw [show (r ++ [((Value.slice none 0 0, none) : SlotV)]).length = r.length + 1 by simp] at o4s
      have O4 := Lib.hid o4s
      clear o4s
      have o3b : Own w3 w.heap.size (.slice a3 b.length c3) b := own_base o3 b2.size
      have ne := owns_ne o3b o4 (by decide) (g := g) rfl
      have O5 := Lib.hid (show Own ((w3.setCell ⟨g, r.length * 2, none⟩ (.slice a3 b.length c3)).setCell ⟨g, r.length * 2 + 1, none⟩ (.bool true)) w.heap.size (.slice a3 b.length c3) b from ownsRow_setCell_other (ownsRow_setCell_other o3b ne _) ne _)
      clear o3 o4 o3b ne bb3 b3 hbg
      go_wp2_with fail
      go_ret
      exact ⟨_, _, rfl, by rw [HP.out]; exact O4.out, O5.out, B4.out⟩

/-- the closure: is a slot free? -/
theorem free1_any (v : Value) (f : Bool) (w : World) (hv : ∃ ao n c, v = .slice ao n c) :
    Calls Tryd.prog 48 #[.agg #[v, .bool f]] w fun e w' => e = .returned (.bool !f) ∧ Below w.heap.size w w' := by
  obtain ⟨ao, n, c, rfl⟩ := hv
  go_enter Tryd.func48, Tryd.ntmps48
  go_wp2
  exact bodyPost_ret (v := .bool !f) (by simp [results, Tryd.results48, go_sem]) rfl ⟨rfl, (Below.refl _ _).alloc (Nat.le_refl _) _⟩

/-- which slot is free first; how many there are, where none is -/
def ixR (r : List SlotV) : Nat := r.findIdx fun x => x.2.isNone
theorem ixR_le (r : List SlotV) : ixR r ≤ r.length := List.findIdx_le_length
end Go.Proofs.YtdeibgljibcnlaaDoor
