/- SlotsKeep's own rows ([]bool, [][]byte) beside the page; slices of steps. -/
import Derived.Test.YtdeibgljibcnlaaKeepMath
import Derived.OneCell
namespace Go.Proofs.Ytdeibgljibcnlaa
open Go.RowKit

theorem own_setOther {w : World} {B s n : Nat} {e : TypeId} {v : Value} {xs : List Value} (h : w.ownsRow B e s v n xs) {g : Nat} {c : Array Value} {t : TypeId} {m : Nat × Nat} (hp : w.heap[g]? = some (.cells c t m)) (ht : t ≠ e) (j : Nat) (u : Value) :
    (w.setCell ⟨g, j, none⟩ u).ownsRow B e s v n xs := by
  refine ownsRow_setCell_other h (fun q => ?_) u
  obtain ⟨c', fz, h2⟩ := Go.Lib.ownsRow_kind h g q
  rw [hp] at h2
  simp at h2
  exact ht h2.2.1
theorem PageS.setOther {w : World} {B p : Nat} {kind id : Int} {st : List SlotL} (h : PageS w B p kind id st) {g : Nat} {c : Array Value} {t : TypeId} {m : Nat × Nat} (hp : w.heap[g]? = some (.cells c t m)) (h1 : t ≠ 5) (h2 : t ≠ 57) (h3 : t ≠ 55) (j : Nat) (u : Value) :
    PageS (w.setCell ⟨g, j, none⟩ u) B p kind id st := by
  obtain ⟨q0, q1, r, q2, q3, L, q4, q5, q6⟩ := h
  refine ⟨q0, q1, r, q2, q3, L, ?_, own_setOther q5 hp h2 j u, fun x hx => (q6 x hx).setOther hp h1 j u⟩
  have hne : p ≠ g := fun q => by
    subst q
    rw [q4] at hp
    simp at hp
    exact h3 hp.2.1.symm
  rw [Below.heap_setCell _ _ _ _ (fun q => hne (by simpa using q))]
  exact q4

/-- the row 'has': cell j says f j -/
def boolsV (f : Nat → Bool) : List Value := (List.range 60).map fun j => .bool (f j)
theorem boolsV_set (f : Nat → Bool) (k : Nat) (b : Bool) : (boolsV f).set k (.bool b) = boolsV fun j => if j = k then b else f j := by
  refine List.ext_getElem (by simp [boolsV]) fun j h1 h2 => ?_
  rw [List.getElem_set]
  simp only [boolsV, List.getElem_map, List.getElem_range]
  by_cases h : k = j
  · subst h; simp
  · rw [if_neg h, if_neg (by omega)]
theorem boolsV_congr {f g : Nat → Bool} (h : ∀ j, f j = g j) : boolsV f = boolsV g := by
  have : f = g := funext h
  rw [this]
def HasIs (w : World) (B g : Nat) (f : Nat → Bool) : Prop := w.ownsRow B 4 1 (.slice (some ⟨g, 0, none⟩) 60 60) 60 (boolsV f)
/-- the row 'want': where f says bytes, the cell is a row of them -/
def WantIs (w : World) (B g : Nat) (f : Nat → SlotL) : Prop :=
  ∃ ws, w.ownsRow B 31 1 (.slice (some ⟨g, 0, none⟩) 60 60) 60 ws ∧ ∀ j, j < 60 → ∀ l, f j = some l → ∃ v, ws[j]? = some v ∧ Own w B v l

theorem HasIs.block {w : World} {B g : Nat} {f : Nat → Bool} (h : HasIs w B g f) : ∃ c m, w.heap[g]? = some (.cells c 4 m) := Go.Lib.ownsRow_kind h g rfl
theorem WantIs.block {w : World} {B g : Nat} {f : Nat → SlotL} (h : WantIs w B g f) : ∃ c m, w.heap[g]? = some (.cells c 31 m) := by
  obtain ⟨ws, h1, _⟩ := h
  exact Go.Lib.ownsRow_kind h1 g rfl
theorem HasIs.lt {w : World} {B g : Nat} {f : Nat → Bool} (h : HasIs w B g f) : B ≤ g ∧ g < w.heap.size := World.ownsRow.lt h g rfl
theorem WantIs.lt {w : World} {B g : Nat} {f : Nat → SlotL} (h : WantIs w B g f) : B ≤ g ∧ g < w.heap.size := by
  obtain ⟨ws, h1, _⟩ := h
  exact World.ownsRow.lt h1 g rfl
theorem HasIs.cell {w : World} {B g : Nat} {f : Nat → Bool} (h : HasIs w B g f) {j : Nat} (hj : j < 60) : w.cell? ⟨g, j, none⟩ = some (.bool (f j)) ∧ w.frozen? ⟨g, j, none⟩ = false := by
  refine ⟨?_, World.ownsRow.frozenAt h j⟩
  rw [World.ownsRow.cellAt h j (by omega)]
  simp [boolsV, hj]
theorem WantIs.cell {w : World} {B g : Nat} {f : Nat → SlotL} (h : WantIs w B g f) {j : Nat} (hj : j < 60) {l : List UInt8} (hl : f j = some l) : ∃ ao c, w.cell? ⟨g, j, none⟩ = some (.slice ao l.length c) ∧ Own w B (.slice ao l.length c) l := by
  obtain ⟨ws, h1, h2⟩ := h
  obtain ⟨v, h3, h4⟩ := h2 j hj l hl
  obtain ⟨ao, c, rfl, _⟩ := Rd.of_own h4
  exact ⟨ao, c, by rw [World.ownsRow.cellAt h1 j (by omega), h3], h4⟩
theorem WantIs.old {w : World} {B g : Nat} {f : Nat → SlotL} (h : WantIs w B g f) {j : Nat} (hj : j < 60) : ∃ v, w.cell? ⟨g, j, none⟩ = some v ∧ w.frozen? ⟨g, j, none⟩ = false := by
  obtain ⟨ws, h1, _⟩ := h
  have hl : ws.length = 60 := by simpa using h1.1
  exact ⟨ws[j], by rw [World.ownsRow.cellAt h1 j (by omega), List.getElem?_eq_getElem], World.ownsRow.frozenAt h1 j⟩

/-- what the law holds: the page, and its own two rows -/
structure KeepIs (w : World) (B p gw gh : Nat) (st : List SlotL) : Prop where
  page : PageS w B p 0 0 st
  has : HasIs w B gh fun j => (atS st j).isSome
  want : WantIs w B gw (atS st)
theorem KeepIs.below {w w' : World} {B p gw gh : Nat} {st : List SlotL} (h : KeepIs w B p gw gh st) (hb : Below w.heap.size w w') : KeepIs w' B p gw gh st := by
  obtain ⟨h1, h2, ws, h3, h4⟩ := h
  refine ⟨h1.below hb, own_below' h2 hb, ws, own_below' h3 hb, fun j hj l hl => ?_⟩
  obtain ⟨v, h5, h6⟩ := h4 j hj l hl
  exact ⟨v, h5, h6.below hb⟩
theorem KeepIs.rows {w w' : World} {B p gw gh : Nat} {st : List SlotL} (h : KeepIs w B p gw gh st) (hf : Frm B w w') : (HasIs w' B gh fun j => (atS st j).isSome) ∧ WantIs w' B gw (atS st) := by
  obtain ⟨h1, h2, ws, h3, h4⟩ := h
  refine ⟨hf.own (by decide) (by decide) h2, ws, hf.own (by decide) (by decide) h3, fun j hj l hl => ?_⟩
  obtain ⟨v, h5, h6⟩ := h4 j hj l hl
  exact ⟨v, h5, hf.own (by decide) (by decide) h6⟩
theorem KeepIs.frm {w w' : World} {B p gw gh : Nat} {st : List SlotL} (h : KeepIs w B p gw gh st) (hf : Frm B w w') (hp : PageS w' B p 0 0 st) : KeepIs w' B p gw gh st :=
  ⟨hp, (h.rows hf).1, (h.rows hf).2⟩

/-- a cell of 'has' is written -/
theorem HasIs.set {w : World} {B gh : Nat} {f : Nat → Bool} (h : HasIs w B gh f) (k : Nat) (b : Bool) : HasIs (w.setCell ⟨gh, k, none⟩ (.bool b)) B gh fun j => if j = k then b else f j := by
  have := (World.ownsRow.stored h k (.bool b)).1
  rw [boolsV_set] at this
  exact this
theorem WantIs.setHas {w : World} {B gh gw : Nat} {f : Nat → Bool} {g : Nat → SlotL} (h : WantIs w B gw g) (hh : HasIs w B gh f) (k : Nat) (u : Value) : WantIs (w.setCell ⟨gh, k, none⟩ u) B gw g := by
  obtain ⟨c, m, hp⟩ := hh.block
  obtain ⟨ws, h3, h4⟩ := h
  refine ⟨ws, own_setOther h3 hp (by decide) k u, fun j hj l hl => ?_⟩
  obtain ⟨v, h5, h6⟩ := h4 j hj l hl
  exact ⟨v, h5, own_setOther (show Own w B v l from h6) hp (by decide) k u⟩
/-- a cell of 'want' is written -/
theorem WantIs.set {w : World} {B gw : Nat} {g : Nat → SlotL} (h : WantIs w B gw g) {k : Nat} (hk : k < 60) {v : Value} {b : List UInt8} (hv : Own w B v b) : WantIs (w.setCell ⟨gw, k, none⟩ v) B gw fun j => if j = k then some b else g j := by
  obtain ⟨c, m, hp⟩ := h.block
  obtain ⟨ws, h3, h4⟩ := h
  have hlen : ws.length = 60 := by simpa using h3.1
  refine ⟨ws.set k v, (World.ownsRow.stored h3 k v).1, fun j hj l hl => ?_⟩
  by_cases hjk : j = k
  · subst hjk
    simp only [if_true] at hl
    obtain rfl := Option.some.inj hl
    exact ⟨v, by rw [List.getElem?_set_self (by omega)], own_setOther (show Own w B v b from hv) hp (by decide) j v⟩
  · simp only [hjk, if_false] at hl
    obtain ⟨v', h5, h6⟩ := h4 j hj l hl
    exact ⟨v', by rw [List.getElem?_set_ne (by omega), h5], own_setOther (show Own w B v' l from h6) hp (by decide) k v⟩

/-- behind Insert -/
theorem KeepIs.put {w : World} {B p gw gh : Nat} {st st' : List SlotL} (hp : PageS w B p 0 0 st') (hh : HasIs w B gh fun j => (atS st j).isSome) (hw : WantIs w B gw (atS st)) {k : Nat} (hk : k < 60) {b : List UInt8}
    (ha : ∀ j, atS st' j = if j = k then some b else atS st j) {v : Value} (hv : Own w B v b) : KeepIs ((w.setCell ⟨gh, k, none⟩ (.bool true)).setCell ⟨gw, k, none⟩ v) B p gw gh st' := by
  obtain ⟨c, m, hb⟩ := hh.block
  have hw1 := hw.setHas hh k (.bool true)
  obtain ⟨c1, m1, hb1⟩ := hw1.block
  have hv1 : Own (w.setCell ⟨gh, k, none⟩ (.bool true)) B v b := own_setOther (show Own w B v b from hv) hb (by decide) k _
  refine ⟨(hp.setOther hb (by decide) (by decide) (by decide) k _).setOther hb1 (by decide) (by decide) (by decide) k _, ?_, ?_⟩
  · have := own_setOther (hh.set k true) hb1 (by decide) k v
    rw [boolsV_congr (g := fun j => (atS st' j).isSome) (fun j => by rw [ha]; by_cases h : j = k <;> simp [h])] at this
    exact this
  · have := hw1.set hk hv1
    rw [show (fun j => if j = k then some b else atS st j) = atS st' from funext fun j => (ha j).symm] at this
    exact this
/-- behind Set -/
theorem KeepIs.set {w : World} {B p gw gh : Nat} {st st' : List SlotL} (hp : PageS w B p 0 0 st') (hh : HasIs w B gh fun j => (atS st j).isSome) (hw : WantIs w B gw (atS st)) {k : Nat} (hk : k < 60) {b : List UInt8} (hs : (atS st k).isSome = true)
    (ha : ∀ j, atS st' j = if j = k then some b else atS st j) {v : Value} (hv : Own w B v b) : KeepIs (w.setCell ⟨gw, k, none⟩ v) B p gw gh st' := by
  obtain ⟨c1, m1, hb1⟩ := hw.block
  refine ⟨hp.setOther hb1 (by decide) (by decide) (by decide) k _, ?_, ?_⟩
  · have := own_setOther (show w.ownsRow B 4 1 _ 60 _ from hh) hb1 (by decide) k v
    rw [boolsV_congr (g := fun j => (atS st' j).isSome) (fun j => by rw [ha]; by_cases h : j = k <;> simp [h]; subst h; simpa using hs)] at this
    exact this
  · have := hw.set hk hv
    rw [show (fun j => if j = k then some b else atS st j) = atS st' from funext fun j => (ha j).symm] at this
    exact this
/-- behind Delete -/
theorem KeepIs.del {w : World} {B p gw gh : Nat} {st st' : List SlotL} (hp : PageS w B p 0 0 st') (hh : HasIs w B gh fun j => (atS st j).isSome) (hw : WantIs w B gw (atS st)) {k : Nat}
    (ha : ∀ j, atS st' j = if j = k then none else atS st j) : KeepIs (w.setCell ⟨gh, k, none⟩ (.bool false)) B p gw gh st' := by
  obtain ⟨c, m, hb⟩ := hh.block
  refine ⟨hp.setOther hb (by decide) (by decide) (by decide) k _, ?_, ?_⟩
  · have := hh.set k false
    rw [show (fun j => if j = k then false else (atS st j).isSome) = fun j => (atS st' j).isSome from funext fun j => by rw [ha]; by_cases h : j = k <;> simp [h]] at this
    exact this
  · obtain ⟨ws, h3, h4⟩ := hw.setHas hh k (.bool false)
    refine ⟨ws, h3, fun j hj l hl => h4 j hj l ?_⟩
    rw [ha] at hl
    by_cases h : j = k
    · rw [if_pos h] at hl; cases hl
    · rwa [if_neg h] at hl
end Go.Proofs.Ytdeibgljibcnlaa
