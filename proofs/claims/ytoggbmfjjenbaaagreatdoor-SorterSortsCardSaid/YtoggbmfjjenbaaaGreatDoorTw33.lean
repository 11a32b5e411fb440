/- pergolalaw20.SorterTwice. -/
import Derived.Test.YtoggbmfjjenbaaaGreatDoorTw32
set_option linter.unusedSimpArgs false
set_option linter.unusedVariables false

namespace Go.Proofs.YtoggbmfjjenbaaaGreatDoor
open Go.RowKit

theorem leK_trans (a b c : KdL) (h1 : leK a b = true) (h2 : leK b c = true) : leK a c = true := by unfold leK ltK at *; simp at *; omega
theorem leK_total (a b : KdL) : (leK a b || leK b a) = true := by unfold leK ltK; simp; omega
theorem sorted_mergeSort (l : List KdL) : (l.mergeSort leK).Pairwise (fun x y => leK x y = true) := List.pairwise_mergeSort (le := leK) leK_trans leK_total l
theorem sort_twice (l : List KdL) : (l.mergeSort leK).mergeSort leK = l.mergeSort leK := List.mergeSort_of_pairwise (sorted_mergeSort l)
/-- no id comes twice -/
def NoTwice (l : List KdL) : Prop := l.Pairwise fun a b => a.id ≠ b.id
theorem sort_back (l : List KdL) (h : NoTwice l) : l.reverse.mergeSort leK = l.mergeSort leK := by
  refine List.Perm.eq_of_pairwise (le := fun x y => leK x y = true) (fun a b ha hb h1 h2 => ?_) (sorted_mergeSort _) (sorted_mergeSort _) ((List.mergeSort_perm _ _).trans ((List.reverse_perm l).trans (List.mergeSort_perm _ _).symm))
  have ha' : a ∈ l := List.mem_reverse.1 ((List.mergeSort_perm _ _).mem_iff.1 ha)
  have hb' : b ∈ l := (List.mergeSort_perm _ _).mem_iff.1 hb
  have hid : a.id = b.id := by unfold leK ltK at h1 h2; simp at h1 h2; omega
  obtain ⟨i, hi, rfl⟩ := List.getElem_of_mem ha'
  obtain ⟨j, hj, rfl⟩ := List.getElem_of_mem hb'
  unfold NoTwice at h
  rw [List.pairwise_iff_getElem] at h
  rcases Nat.lt_trichotomy i j with q | q | q
  · exact absurd hid (h i j hi hj q)
  · subst q; rfl
  · exact absurd hid.symm (h j i hj hi q)
theorem all_perm {r r' : List KdV} (hp : (r'.map Prod.fst).Perm (r.map Prod.fst)) {P : KdL → Prop} (h : ∀ x ∈ r, P x.1) : ∀ x ∈ r', P x.1 := fun x hx => by
  obtain ⟨y, hy, e⟩ := List.mem_map.1 (hp.mem_iff.1 (List.mem_map_of_mem hx))
  rw [← e]
  exact h y hy
theorem ItRd.of_own (w : World) (B : Nat) (v : Value) (r : List KdV) (h : w.ownsRow B 41 3 v r.length (itR r)) (hp : ∀ x ∈ r, Pts w x.2 x.1.pts) : ItRd w v r := ⟨Rd.of_own h, hp⟩

end Go.Proofs.YtoggbmfjjenbaaaGreatDoor
