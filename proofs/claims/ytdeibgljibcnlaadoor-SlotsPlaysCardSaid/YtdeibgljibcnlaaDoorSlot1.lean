/- A page of slots in memory; slots.blame, gone, New, used. -/
import Derived.Test.YtdeibgljibcnlaaDoorErr
import Derived.Test.YtdeibgljibcnlaaDoorByt
import Derived.OneCell
import Derived.Lib.OwnKind
namespace Go.Proofs.YtdeibgljibcnlaaDoor
open Go.RowKit

/-- a slot: the value of its bytes, and these, if it is not free -/
abbrev SlotV := Value × Option (List UInt8)
def slV (x : SlotV) : List Value := [x.1, .bool x.2.isSome]
def rowV (r : List SlotV) : List Value := r.flatMap slV
theorem rowV_length : ∀ r : List SlotV, (rowV r).length = r.length * 2
  | [] => rfl
  | x :: r => by
    have ih := rowV_length r
    unfold rowV at ih ⊢
    rw [List.flatMap_cons, List.length_append, ih, List.length_cons]
    simp [slV]; omega
theorem rowV_append (r s : List SlotV) : rowV (r ++ s) = rowV r ++ rowV s := by simp [rowV]
theorem rowV_get : ∀ (r : List SlotV) (i : Nat) (h : i < r.length), (rowV r)[i * 2]? = some r[i].1 ∧ (rowV r)[i * 2 + 1]? = some (.bool r[i].2.isSome)
  | [], i, h => by simp at h
  | x :: r, 0, _ => ⟨rfl, rfl⟩
  | x :: r, i + 1, h => by
    have ih := rowV_get r i (by simpa using h)
    have e : rowV (x :: r) = x.1 :: .bool x.2.isSome :: rowV r := rfl
    rw [e, show (i + 1) * 2 = i * 2 + 1 + 1 by omega, List.getElem?_cons_succ, List.getElem?_cons_succ, show i * 2 + 1 + 1 + 1 = (i * 2 + 1) + 1 + 1 by omega, List.getElem?_cons_succ, List.getElem?_cons_succ]
    exact ih
theorem rowV_one (r : List SlotV) (h : ∀ x ∈ r, ∃ ao n c, x.1 = .slice ao n c) : ∀ u ∈ rowV r, u.oneCell' = true := by
  intro u hu
  obtain ⟨x, hx, hu⟩ := List.mem_flatMap.1 hu
  obtain ⟨ao, n, c, e⟩ := h x hx
  simp [slV] at hu
  rcases hu with rfl | rfl
  · rw [e]; rfl
  · rfl

/-- how many bytes -/
def blen : Option (List UInt8) → Nat
  | none => 0
  | some l => l.length
def sumR (r : List SlotV) : Nat := (r.map fun x => blen x.2).sum
/-- how many bytes slots need -/
def sizeR (r : List SlotV) : Nat := 16 + 4 * r.length + sumR r
theorem sumR_take {r : List SlotV} {k : Nat} (h : k < r.length) : sumR (r.take (k + 1)) = sumR (r.take k) + blen r[k].2 := by
  rw [List.take_succ_eq_append_getElem h]
  unfold sumR
  rw [List.map_append, List.sum_append]
  simp
theorem sumR_le (r : List SlotV) (k : Nat) : sumR (r.take k) ≤ sumR r := by
  have h : sumR r = sumR (r.take k) + sumR (r.drop k) := by
    conv => lhs; rw [← List.take_append_drop k r]
    simp only [sumR, List.map_append, List.sum_append]
  omega

/-- In world w a slot is so: its bytes are a row of the call's own. -/
def SlotIs (w : World) (base : Nat) (x : SlotV) : Prop :=
  match x.2 with
  | none => x.1 = .slice none 0 0
  | some l => Own w base x.1 l
theorem SlotIs.form {w : World} {base : Nat} {x : SlotV} (h : SlotIs w base x) : ∃ ao c, x.1 = .slice ao (blen x.2) c ∧ c ≤ maxLen := by
  obtain ⟨v, o⟩ := x
  cases o with
  | none => exact ⟨none, 0, h, by simp [maxLen]⟩
  | some l =>
    obtain ⟨ao, c, h1, _, h2, _⟩ := Rd.of_own (show Own w base v l from h)
    exact ⟨ao, c, h1, h2⟩
/-- In world w the value L is a row of slots of the call's own. -/
def RowIs (w : World) (base : Nat) (L : Value) (r : List SlotV) : Prop :=
  w.ownsRow base 64 2 L r.length (rowV r) ∧ ∀ x ∈ r, SlotIs w base x
theorem RowIs.open {w : World} {base : Nat} {L : Value} {r : List SlotV} (h : RowIs w base L r) :
    ∃ ao c, L = .slice ao r.length c ∧ r.length ≤ c ∧ c ≤ maxLen ∧
      ∀ i (h : i < r.length), ∃ b off, ao = some ⟨b, off, none⟩ ∧ b < w.heap.size ∧ w.cell? ⟨b, off + i * 2, none⟩ = some r[i].1 ∧ w.cell? ⟨b, off + i * 2 + 1, none⟩ = some (.bool r[i].2.isSome) := by
  obtain ⟨ao, c, hv, h1, h2, h0, h3⟩ := Rd.of_own h.1
  refine ⟨ao, c, hv, h1, h2, fun i hi => ?_⟩
  have hl := rowV_length r
  obtain ⟨g1, g2⟩ := rowV_get r i hi
  obtain ⟨b, off, e, hlt, c1⟩ := h3 (i * 2) (by omega)
  obtain ⟨b', off', e', _, c2⟩ := h3 (i * 2 + 1) (by omega)
  subst e
  cases e'
  rw [List.getElem?_eq_getElem (by omega)] at g1 g2
  refine ⟨b, off, rfl, hlt, ?_, ?_⟩
  · rw [c1]; exact g1
  · rw [← Nat.add_assoc] at c2; rw [c2]; exact g2

/-- In world w the page at block p is so. -/
def PageIs (w : World) (base : Nat) (p : Nat) (kind id : Int) (r : List SlotV) : Prop :=
  base ≤ p ∧ ∃ L, w.heap[p]? = some (.cells #[.bool true, .int .i64 kind, .int .i64 id, L] 61 (0, 0)) ∧ RowIs w base L r

/-- slots.blame -/
theorem blame_any (slot k : Int) (w : World) :
    Calls Tryd.prog 25 #[.int .i64 slot, .int .i64 k] w (ErRet w (.fault ⟨#[112, 97, 103, 101]⟩ slot (.num k))) := by
  have HN := Lib.hid (New_num ⟨#[112, 97, 103, 101]⟩ slot k w)
  go_enter Tryd.func25, Tryd.ntmps25
  go_wp2_with fail
  refine HN.out.mono ?_
  rintro e w1 ⟨v, rfl, h1, h2⟩
  go_wp2_with fail
  go_ret
  exact ⟨_, rfl, h1, h2⟩

/-- gone, of nothing -/
theorem gone_nil (w : World) : Calls Tryd.prog 28 #[.pointer none] w fun e w' => e = .returned (.bool true) ∧ w = w' := by
  go_enter Tryd.func28, Tryd.ntmps28
  go_wp2
  go_ret
  exact ⟨rfl, rfl⟩
/-- gone, of a page -/
theorem gone_page {p : Nat} {w : World} {x y z : Value} (h : w.heap[p]? = some (.cells #[.bool true, x, y, z] 61 (0, 0))) :
    Calls Tryd.prog 28 #[.pointer (some ⟨p, 0, none⟩)] w fun e w' => e = .returned (.bool false) ∧ w = w' := by
  have c0 : w.cell? ⟨p, 0, none⟩ = some (.bool true) := by simp [World.cell?, h]
  clear h
  go_enter Tryd.func28, Tryd.ntmps28
  go_wp2
  go_ret
  exact ⟨rfl, rfl⟩

/-- slots.New of a kind and an ID that may be -/
theorem NewP_ok (base : Nat) (kind id : Int) (w : World) (h1 : 0 ≤ kind ∧ kind ≤ 255) (h2 : 0 ≤ id ∧ id ≤ 4294967295) (hb : base ≤ w.heap.size) :
    Calls Tryd.prog 6 #[.int .i64 kind, .int .i64 id] w fun e w' => ∃ p, e = .returned (.tuple #[.pointer (some ⟨p, 0, none⟩), .nilIface]) ∧ PageIs w' base p kind id [] ∧ Below w.heap.size w w' := by
  have t1 : decide (kind < 0) = false := decide_eq_false (by omega)
  have t2 : decide (255 < kind) = false := decide_eq_false (by omega)
  have t3 : decide (id < 0) = false := decide_eq_false (by omega)
  have t4 : decide (4294967295 < id) = false := decide_eq_false (by omega)
  clear h1 h2
  go_enter Tryd.func6, Tryd.ntmps6
  go_wp2
  go_ret2
  exact ⟨_, rfl, ⟨hb, _, heap_alloc_new _ _, World.ownsRow_nil _ _ _ _, fun x hx => by cases hx⟩, (Below.refl _ _).alloc (Nat.le_refl _) _⟩

set_option maxHeartbeats 1000000 in
/-- slots.used -/
theorem used_any {base : Nat} {L : Value} {r : List SlotV} {w : World} (h : RowIs w base L r) (hs : sizeR r ≤ 1000000) :
    Calls Tryd.prog 45 #[L] w fun e w' => e = .returned (.int .i64 (sizeR r : Int)) ∧ Below w.heap.size w w' := by
  have hr := h.2
  obtain ⟨ao, c, rfl, h1, h2, h3⟩ := h.open
  have HF := Lib.hid (show ∀ i (h : i < r.length), ∃ ao c, r[i].1 = .slice ao (blen r[i].2) c ∧ c ≤ maxLen from fun i h => (hr _ (List.getElem_mem h)).form)
  have HC := Lib.hid h3
  unfold maxLen at h2
  unfold sizeR at hs ⊢
  clear h hr h3
  go_enter Tryd.func45, Tryd.ntmps45
  go_wp2_with fail
  go_loopw [3, 12] (fun n i wr => ∃ k q : Nat, k ≤ r.length ∧ i = .int .i64 k ∧ n = .int .i64 q ∧ q = 16 + 4 * r.length + sumR (r.take k) ∧ Below w.heap.size w wr) (fun _ i _ => r.length - (intOf i).toNat)
  case atStart => exact ⟨0, 16 + 4 * r.length, Nat.zero_le _, rfl, by go_num, by simp [sumR], Below.refl _ _⟩
  case round =>
    obtain ⟨k, q, hk, rfl, rfl, hq, hb⟩ := hrel
    have hle := sumR_le r k
    by_cases hlt : k < r.length
    · obtain ⟨b, off, rfl, hbl, c0, c1⟩ := HC.out k hlt
      obtain ⟨ab, cb, e1, hcb⟩ := HF.out k hlt
      have hst := sumR_take hlt
      have hle1 := sumR_le r (k + 1)
      replace c0 := (hb.cell (p := ⟨b, off + k * 2, none⟩) hbl).trans c0
      replace c1 := (hb.cell (p := ⟨b, off + k * 2 + 1, none⟩) hbl).trans c1
      rw [e1] at c0
      have i0 : (0 : Int) ≤ (k : Int) := by omega
      have i1 : (k : Int) < (r.length : Int) := by omega
      have HQ := Lib.hid (show q + blen r[k].2 = 16 + 4 * r.length + sumR (r.take (k + 1)) by omega)
      have hq1 : q + blen r[k].2 ≤ 1000000 := by omega
      have hA : ∀ o, Below w.heap.size w (wr.alloc o) := fun o => hb.alloc hb.size o
      unfold maxLen at hcb
      clear e1 hst hle hle1 hq
      generalize blen r[k].2 = m at *
      generalize r[k].2.isSome = f at *
      go_wp2_with fail
      go_roundw
      case rel => exact ⟨k + 1, q + m, hlt, by go_num, by go_num, HQ.out, hA _⟩
      case measure => simp [intOf]; omega
    · obtain rfl : k = r.length := by omega
      rw [List.take_length] at hq
      have HQ := Lib.hid hq
      clear hq
      go_wp2_with fail
      go_ret
      exact ⟨by rw [← HQ.out]; rfl, hb⟩
end Go.Proofs.YtdeibgljibcnlaaDoor
