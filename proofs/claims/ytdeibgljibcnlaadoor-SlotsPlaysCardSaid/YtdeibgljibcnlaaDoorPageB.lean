/- A page as bytes, in plain Lean; the block of bytes that is written. -/
import Derived.Test.YtdeibgljibcnlaaDoorSlot8
import Derived.Laws.CopyOwn
namespace Go.Proofs.YtdeibgljibcnlaaDoor
open Go.RowKit

/-- a number in two bytes at o -/
def wr2 (l : List UInt8) (o n : Nat) : List UInt8 := (l.set o (UInt8.ofNat n)).set (o + 1) (UInt8.ofNat (n / 256))
/-- a number in four bytes at o -/
def wr4 (l : List UInt8) (o n : Nat) : List UInt8 := wr2 (wr2 l o n) (o + 2) (n / 65536)
theorem wr2_length (l : List UInt8) (o n : Nat) : (wr2 l o n).length = l.length := by simp [wr2]
theorem wr4_length (l : List UInt8) (o n : Nat) : (wr4 l o n).length = l.length := by simp [wr4, wr2_length]
/-- where the next slot's number and bytes go, and what is written so far -/
structure LayB where
  i : Nat
  e : Nat
  out : List UInt8
def stepB (s : LayB) (x : SlotL) : LayB :=
  match x with
  | none => ⟨s.i + 1, s.e, s.out⟩
  | some b => ⟨s.i + 1, s.e - b.length, wr2 (wr2 (splice s.out (s.e - b.length) b) (16 + 4 * s.i) (s.e - b.length)) (18 + 4 * s.i) (b.length + 1)⟩
def startB (kind id n : Nat) : LayB := ⟨0, 512, wr4 (((List.replicate 512 (0 : UInt8)).set 0 (UInt8.ofNat kind)).set 1 (UInt8.ofNat n)) 2 id⟩
def layB (kind id : Nat) (st : List SlotL) (k : Nat) : LayB := (st.take k).foldl stepB (startB kind id st.length)
/-- the page's bytes -/
def pageB (kind id : Nat) (st : List SlotL) : List UInt8 := wr4 (layB kind id st st.length).out 12 (crcSum (layB kind id st st.length).out).toNat

theorem splice_length {α : Type} (l : List α) (o : Nat) (b : List α) (h : o + b.length ≤ l.length) : (splice l o b).length = l.length := by
  unfold splice
  simp
  omega
theorem layB_succ (kind id : Nat) (st : List SlotL) (k : Nat) (h : k < st.length) : layB kind id st (k + 1) = stepB (layB kind id st k) st[k] := by
  unfold layB
  rw [List.take_succ_eq_append_getElem h, List.foldl_append]
  rfl
theorem layB_ok (kind id : Nat) (st : List SlotL) (hs : sizeS st ≤ 512) : ∀ k, k ≤ st.length → (layB kind id st k).i = k ∧ (layB kind id st k).e + ((st.take k).map blen).sum = 512 ∧ (layB kind id st k).out.length = 512
  | 0, _ => by
    unfold layB
    rw [List.take_zero, List.foldl_nil]
    refine ⟨rfl, rfl, ?_⟩
    unfold startB
    rw [wr4_length, List.length_set, List.length_set, List.length_replicate]
  | k + 1, hk => by
    have hk' : k < st.length := hk
    obtain ⟨h1, h2, h3⟩ := layB_ok kind id st hs k (by omega)
    have e : (st.map blen).sum = ((st.take (k + 1)).map blen).sum + ((st.drop (k + 1)).map blen).sum := by
      rw [← List.sum_append, ← List.map_append, List.take_append_drop]
    rw [layB_succ _ _ _ _ hk']
    unfold sizeS at hs
    rw [List.take_succ_eq_append_getElem hk', List.map_append, List.sum_append] at e ⊢
    simp only [List.map_cons, List.map_nil, List.sum_cons, List.sum_nil] at e ⊢
    generalize layB kind id st k = s at *
    obtain ⟨i, en, out⟩ := s
    cases hx : st[k] with
    | none =>
      simp only [stepB, blen]
      simp only at h1 h2 h3
      refine ⟨by omega, by omega, h3⟩
    | some b =>
      rw [hx] at e
      simp only [stepB, blen] at e ⊢
      simp only at h1 h2 h3
      refine ⟨by omega, by omega, ?_⟩
      rw [wr2_length, wr2_length, splice_length _ _ _ (by omega)]
      exact h3

/-- block g is a row of bytes -/
def Blk (w : World) (g : Nat) (l : List UInt8) : Prop := w.heap[g]? = some (.cells (bytesV l).toArray 5 (0, 0))
theorem Blk.lt {w : World} {g : Nat} {l : List UInt8} (h : Blk w g l) : g < w.heap.size := lt_of_block h
theorem Blk.cell {w : World} {g : Nat} {l : List UInt8} (h : Blk w g l) {j : Nat} (hj : j < l.length) : w.cell? ⟨g, j, none⟩ = some (.int .u8 (l[j].toNat : Int)) ∧ w.frozen? ⟨g, j, none⟩ = false := by
  refine ⟨?_, frozen_of_row w g j _ _ h⟩
  rw [cell_of_row _ _ _ _ _ _ h]
  simp [bytesV, hj]
theorem Blk.below {w w' : World} {g : Nat} {l : List UInt8} (h : Blk w g l) {B : Nat} (hb : Below B w w') (hB : g < B) : Blk w' g l := (hb.block g hB).trans h
theorem Blk.set {w : World} {g : Nat} {l : List UInt8} (h : Blk w g l) (j : Nat) (d : UInt8) : Blk (w.setCell ⟨g, j, none⟩ (.int .u8 (d.toNat : Int))) g (l.set j d) := by
  unfold Blk at *
  have hlt := lt_of_block h
  have h' : w.heap[g] = .cells (bytesV l).toArray 5 (0, 0) := by simpa [Array.getElem?_eq_getElem hlt] using h
  show (w.heap.modify g _)[g]? = _
  rw [Array.getElem?_eq_getElem (by simpa using hlt), Array.getElem_modify_self, h']
  simp [bytesV, List.map_set]
/-- block g alone has turned -/
structure Onl (g : Nat) (w w' : World) : Prop where
  below : Below g w w'
  kept : ∀ k, k ≠ g → k < w.heap.size → w'.heap[k]? = w.heap[k]?
theorem Onl.trans {g : Nat} {w w' w'' : World} (h : Onl g w w') (h' : Onl g w' w'') (hs : w.heap.size ≤ w'.heap.size) : Onl g w w'' :=
  ⟨h.below.trans h'.below, fun k hk hl => (h'.kept k hk (Nat.lt_of_lt_of_le hl hs)).trans (h.kept k hk hl)⟩
theorem Onl.refl (g : Nat) (w : World) : Onl g w w := ⟨Below.refl _ _, fun _ _ _ => rfl⟩
theorem Onl.setCell {g : Nat} {w w' : World} (h : Onl g w w') (j : Nat) (u : Value) : Onl g w (w'.setCell ⟨g, j, none⟩ u) :=
  ⟨h.below.setCell (p := ⟨g, j, none⟩) (Nat.le_refl _) u, fun k hk hl => (Below.heap_setCell _ _ _ _ (fun q => hk (by simpa using q))).trans (h.kept k hk hl)⟩
theorem Onl.cell {g : Nat} {w w' : World} (h : Onl g w w') {k j : Nat} (hk : k ≠ g) (hl : k < w.heap.size) : w'.cell? ⟨k, j, none⟩ = w.cell? ⟨k, j, none⟩ :=
  World.cell?_of_block (w := w) (h.kept k hk hl)
theorem Onl.size {g : Nat} {w w' : World} (h : Onl g w w') : w.heap.size ≤ w'.heap.size := h.below.size
theorem Blk.own {w : World} {g : Nat} {l : List UInt8} (h : Blk w g l) {B : Nat} (hB : B ≤ g) (hl : l.length ≤ maxLen) : Own w B (.slice (some ⟨g, 0, none⟩) l.length l.length) l :=
  ⟨by simp [bytesV], .inr ⟨g, l.length, _, rfl, hB, h, Nat.le_refl _, hl, by simp [bytesV], by rw [List.toList_toArray, Nat.mul_one, List.take_of_length_le (by simp [bytesV])]⟩⟩
theorem Blk.byt {w : World} {g : Nat} {l : List UInt8} (h : Blk w g l) (hl : l.length = 512) : Byt w (.slice (some ⟨g, 0, none⟩) 512 512) l := by
  have := (h.own (Nat.le_refl g) (by rw [hl]; simp [maxLen])).byt
  rwa [hl] at this
end Go.Proofs.YtdeibgljibcnlaaDoor
