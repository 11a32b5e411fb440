/- pergolaref8's page in memory; NewPage, Used, is, Get, Slots. -/
import Derived.Test.YtdeibgljibcnlaaDoorSlot9
import Derived.Test.YtdeibgljibcnlaaDoorParse1
namespace Go.Proofs.YtdeibgljibcnlaaDoor
open Go.RowKit

/-- the cells of the row Has -/
def hasV (r : List SlotV) : List Value := r.map fun x => .bool x.2.isSome
theorem hasV_length (r : List SlotV) : (hasV r).length = r.length := by simp [hasV]
/-- the cells of the row B -/
def bytV (r : List SlotV) : List Value := r.map Prod.fst
theorem bytV_length (r : List SlotV) : (bytV r).length = r.length := by simp [bytV]

/-- In world w the reference's page at block q is so. -/
def RefIs (w : World) (base q : Nat) (kind id : Int) (r : List SlotV) : Prop :=
  base ≤ q ∧ ∃ VB VH, w.heap[q]? = some (.cells #[.int .i64 kind, .int .i64 id, VB, VH] 77 (0, 0)) ∧
    w.ownsRow base 30 1 VB r.length (bytV r) ∧ w.ownsRow base 4 1 VH r.length (hasV r) ∧ ∀ x ∈ r, SlotIs w base x
theorem RefIs.below {w w' : World} {base q : Nat} {kind id : Int} {r : List SlotV} (h : RefIs w base q kind id r) (hb : Below w.heap.size w w') : RefIs w' base q kind id r := by
  obtain ⟨h0, VB, VH, h1, h2, h3, h4⟩ := h
  exact ⟨h0, VB, VH, (hb.block _ (lt_of_block h1)).trans h1, own_below' h2 hb, own_below' h3 hb, fun x hx => (h4 x hx).below hb⟩
theorem SlotIs.frm {base B : Nat} {w w' : World} (h : Frm B w w') {x : SlotV} (hx : SlotIs w base x) : SlotIs w' base x := by
  obtain ⟨v, o⟩ := x
  cases o with
  | none => exact hx
  | some l => exact h.own (by decide) (by decide) (show w.ownsRow base 5 1 v l.length (bytesV l) from hx)
/-- what the page of slots does leaves the reference's page as it is -/
theorem RefIs.frm {w w' : World} {B base q : Nat} {kind id : Int} {r : List SlotV} (h : RefIs w base q kind id r) (hf : Frm B w w') : RefIs w' base q kind id r := by
  obtain ⟨h0, VB, VH, h1, h2, h3, h4⟩ := h
  exact ⟨h0, VB, VH, (hf.kept _ _ _ _ h1 (by decide) (by decide)).trans h1, hf.own (by decide) (by decide) h2, hf.own (by decide) (by decide) h3, fun x hx => (h4 x hx).frm hf⟩

/-- what lies in no block of the reference's page, and is there, stays -/
structure FrmR (base : Nat) (w w' : World) : Prop where
  below : Below base w w'
  kept : ∀ (k : Nat) (c : Array Value) (t : TypeId) (m : Nat × Nat), w.heap[k]? = some (.cells c t m) → t ≠ 4 → t ≠ 30 → t ≠ 77 → w'.heap[k]? = w.heap[k]?
theorem FrmR.of_below {base : Nat} {w w' : World} (h : Below w.heap.size w w') (hb : base ≤ w.heap.size) : FrmR base w w' :=
  ⟨h.mono hb, fun k _ _ _ e _ _ _ => h.block k (lt_of_block e)⟩
theorem FrmR.trans {base : Nat} {w w' w'' : World} (h : FrmR base w w') (h' : FrmR base w' w'') : FrmR base w w'' :=
  ⟨h.below.trans h'.below, fun k c t m e h1 h2 h3 => (h'.kept k c t m ((h.kept k c t m e h1 h2 h3).trans e) h1 h2 h3).trans (h.kept k c t m e h1 h2 h3)⟩
theorem FrmR.own {base : Nat} {w w' : World} (h : FrmR base w w') {b s n : Nat} {e : TypeId} {v : Value} {xs : List Value} (h1 : e ≠ 4) (h2 : e ≠ 30) (h3 : e ≠ 77) (ho : w.ownsRow b e s v n xs) : w'.ownsRow b e s v n xs := by
  refine ⟨ho.1, ?_⟩
  rcases ho.2 with hn | ⟨g, cap, cur, rfl, hbg, hg, q⟩
  · exact .inl hn
  · exact .inr ⟨g, cap, cur, rfl, hbg, (h.kept _ _ _ _ hg h1 h2 h3).trans hg, q⟩
theorem SlotIs.frmR {base B : Nat} {w w' : World} (h : FrmR B w w') {x : SlotV} (hx : SlotIs w base x) : SlotIs w' base x := by
  obtain ⟨v, o⟩ := x
  cases o with
  | none => exact hx
  | some l => exact h.own (by decide) (by decide) (by decide) (show w.ownsRow base 5 1 v l.length (bytesV l) from hx)
/-- what the reference does leaves the page of slots as it is -/
theorem PageS.frmR {w w' : World} {B base p : Nat} {kind id : Int} {st : List SlotL} (h : PageS w base p kind id st) (hf : FrmR B w w') : PageS w' base p kind id st := by
  obtain ⟨h0, h1, r, h2, h3, L, h4, h5, h6⟩ := h
  exact ⟨h0, h1, r, h2, h3, L, (hf.kept _ _ _ _ h4 (by decide) (by decide) (by decide)).trans h4, hf.own (by decide) (by decide) (by decide) h5, fun x hx => (h6 x hx).frmR hf⟩

/-- the parts that the walks want -/
theorem RefIs.open {w : World} {base q : Nat} {kind id : Int} {r : List SlotV} (h : RefIs w base q kind id r) :
    ∃ ab cb ah ch, w.heap[q]? = some (.cells #[.int .i64 kind, .int .i64 id, .slice ab r.length cb, .slice ah r.length ch] 77 (0, 0)) ∧ r.length ≤ cb ∧ r.length ≤ ch ∧ cb ≤ maxLen ∧ ch ≤ maxLen ∧
      (∀ i (h : i < r.length), ∃ b off, ab = some ⟨b, off, none⟩ ∧ b < w.heap.size ∧ w.cell? ⟨b, off + i, none⟩ = some r[i].1) ∧
      (∀ i (h : i < r.length), ∃ b off, ah = some ⟨b, off, none⟩ ∧ b < w.heap.size ∧ w.cell? ⟨b, off + i, none⟩ = some (.bool r[i].2.isSome)) := by
  obtain ⟨h0, VB, VH, h1, h2, h3, h4⟩ := h
  obtain ⟨ab, cb, rfl, q1, q2, _, q3⟩ := Rd.of_own h2
  obtain ⟨ah, ch, rfl, k1, k2, _, k3⟩ := Rd.of_own h3
  refine ⟨ab, cb, ah, ch, h1, q1, k1, q2, k2, fun i hi => ?_, fun i hi => ?_⟩
  · obtain ⟨b, off, e, hb, hc⟩ := q3 i (by rw [bytV_length]; exact hi)
    exact ⟨b, off, e, hb, by rw [hc]; simp [bytV]⟩
  · obtain ⟨b, off, e, hb, hc⟩ := k3 i (by rw [hasV_length]; exact hi)
    exact ⟨b, off, e, hb, by rw [hc]; simp [hasV]⟩

/-- pergolaref8.NewPage -/
theorem RNew_ok (kind id : Int) (w : World) (h1 : 0 ≤ kind ∧ kind ≤ 255) (h2 : 0 ≤ id ∧ id ≤ 4294967295) :
    Calls Tryd.prog 13 #[.int .i64 kind, .int .i64 id] w fun e w' => ∃ q, e = .returned (.tuple #[.pointer (some ⟨q, 0, none⟩), .int .i64 0]) ∧ (∀ base, base ≤ w.heap.size → RefIs w' base q kind id []) ∧ Below w.heap.size w w' := by
  have t1 : decide (kind < 0) = false := decide_eq_false (by omega)
  have t2 : decide (255 < kind) = false := decide_eq_false (by omega)
  have t3 : decide (id < 0) = false := decide_eq_false (by omega)
  have t4 : decide (4294967295 < id) = false := decide_eq_false (by omega)
  clear h1 h2
  go_enter Tryd.func13, Tryd.ntmps13
  go_wp2
  go_ret2
  exact ⟨_, rfl, fun base hb => ⟨hb, _, _, heap_alloc_new _ _, World.ownsRow_nil _ _ _ _, World.ownsRow_nil _ _ _ _, fun x hx => by cases hx⟩, (Below.refl _ _).alloc (Nat.le_refl _) _⟩

/-- (*pergolaref8.Page).is -/
theorem RIs_any {w : World} {base q : Nat} {kind id : Int} {r : List SlotV} (h : RefIs w base q kind id r) (i : Int) :
    Calls Tryd.prog 37 #[.pointer (some ⟨q, 0, none⟩), .int .i64 i] w fun e w' => e = .returned (.bool (hasS (snds r) i)) ∧ w = w' := by
  obtain ⟨ab, cb, ah, ch, h1, _, k1, _, k2, _, hh⟩ := h.open
  have c3 : w.cell? ⟨q, 3, none⟩ = some (.slice ah r.length ch) := by simp [World.cell?, h1]
  unfold maxLen at k2
  clear h h1
  by_cases h0 : 0 ≤ i
  · have t0 : decide (0 ≤ i) = true := by simp; omega
    by_cases hlt : i < (r.length : Int)
    · obtain ⟨k, rfl⟩ := Int.eq_ofNat_of_zero_le h0
      obtain ⟨b, off, rfl, _, hc⟩ := hh k (by omega)
      have t1 : decide ((k : Int) < (r.length : Int)) = true := by simp; omega
      have hv : hasS (snds r) (k : Int) = r[k].2.isSome := by
        unfold hasS
        rw [Int.toNat_natCast, t0, Bool.true_and, List.getD_eq_getElem?_getD, List.getElem?_eq_getElem (by simp [snds]; omega)]
        simp [snds]
      rw [hv]
      generalize r[k].2.isSome = fl at *
      clear hh hv
      go_enter Tryd.func37, Tryd.ntmps37
      go_wp2_with fail
      go_ret
      exact ⟨rfl, rfl⟩
    · have t1 : decide (i < (r.length : Int)) = false := by simp; omega
      have hv : hasS (snds r) i = false := by
        unfold hasS
        rw [List.getD_eq_getElem?_getD, List.getElem?_eq_none (by simp [snds]; omega)]
        simp
      rw [hv]
      clear hh hv
      go_enter Tryd.func37, Tryd.ntmps37
      go_wp2_with fail
      go_ret
      exact ⟨rfl, rfl⟩
  · have t0 : decide (0 ≤ i) = false := by simp; omega
    have hv : hasS (snds r) i = false := by
      unfold hasS
      rw [t0]
      rfl
    rw [hv]
    clear hh hv
    go_enter Tryd.func37, Tryd.ntmps37
    go_wp2_with fail
    go_ret
    exact ⟨rfl, rfl⟩
end Go.Proofs.YtdeibgljibcnlaaDoor
