/- Slices of points that can be read; objects. -/
import Derived.Test.YtpmngdgifdkohaaDoorMem
namespace Go.Proofs.YtpmngdgifdkohaaDoor
open Go.RowKit

/-- the cells of points, one behind the other -/
def ptsV : List (Int × Int) → List Value
  | [] => []
  | p :: l => .int .i64 p.1 :: .int .i64 p.2 :: ptsV l
theorem ptsV_length : ∀ l, (ptsV l).length = l.length * 2
  | [] => rfl
  | p :: l => by simp [ptsV, ptsV_length l]; omega
theorem ptsV_append : ∀ l m, ptsV (l ++ m) = ptsV l ++ ptsV m
  | [], _ => rfl
  | p :: l, m => by simp [ptsV, ptsV_append l m]
theorem ptsV_get0 : ∀ (l : List (Int × Int)) (i : Nat) (h : i < l.length) (h' : i * 2 < (ptsV l).length), (ptsV l)[i * 2] = .int .i64 (l[i]).1
  | p :: l, 0, _, _ => rfl
  | p :: l, i + 1, h, h' => by
    have e : (ptsV (p :: l))[(i + 1) * 2] = (ptsV l)[i * 2]'(by rw [ptsV_length]; simp at h; omega) := by
      simp only [ptsV, show (i + 1) * 2 = i * 2 + 1 + 1 by omega, List.getElem_cons_succ]
    rw [e, ptsV_get0 l i (by simpa using h) _]
    rfl
theorem ptsV_get1 : ∀ (l : List (Int × Int)) (i : Nat) (h : i < l.length) (h' : i * 2 + 1 < (ptsV l).length), (ptsV l)[i * 2 + 1] = .int .i64 (l[i]).2
  | p :: l, 0, _, _ => rfl
  | p :: l, i + 1, h, h' => by
    have e : (ptsV (p :: l))[(i + 1) * 2 + 1] = (ptsV l)[i * 2 + 1]'(by rw [ptsV_length]; simp at h; omega) := by
      simp only [ptsV, show (i + 1) * 2 + 1 = i * 2 + 1 + 1 + 1 by omega, List.getElem_cons_succ]
    rw [e, ptsV_get1 l i (by simpa using h) _]
    rfl
theorem ptsV_one (l : List (Int × Int)) : ∀ u ∈ ptsV l, u.oneCell' = true := by
  induction l with
  | nil => intro u hu; cases hu
  | cons p l ih =>
    intro u hu
    simp only [ptsV, List.mem_cons] at hu
    rcases hu with rfl | rfl | hu
    · rfl
    · rfl
    · exact ih u hu

/-- In world w the value v is a []api.Point that reads as l. -/
def Pts (w : World) (v : Value) (l : List (Int × Int)) : Prop := Rd w v l.length (ptsV l)
/-- every coordinate is an int -/
def i64B (n : Int) : Prop := -9223372036854775808 ≤ n ∧ n ≤ 9223372036854775807
def PtsB (l : List (Int × Int)) : Prop := ∀ p ∈ l, i64B p.1 ∧ i64B p.2

theorem Pts.open {w : World} {v : Value} {l : List (Int × Int)} (h : Pts w v l) :
    ∃ ao c, v = .slice ao l.length c ∧ l.length ≤ c ∧ c ≤ maxLen ∧ (ao = none → c = 0) ∧
      ∀ i (h : i < l.length), ∃ b off, ao = some ⟨b, off, none⟩ ∧ b < w.heap.size ∧ w.cell? ⟨b, off + i * 2, none⟩ = some (.int .i64 l[i].1) ∧ w.cell? ⟨b, off + i * 2 + 1, none⟩ = some (.int .i64 l[i].2) := by
  obtain ⟨ao, c, hv, h1, h2, h0, h3⟩ := h
  refine ⟨ao, c, hv, h1, h2, h0, fun i hi => ?_⟩
  have hl := ptsV_length l
  obtain ⟨b, off, e, hlt, hc⟩ := h3 (i * 2) (by omega)
  obtain ⟨b', off', e', _, hc'⟩ := h3 (i * 2 + 1) (by omega)
  rw [e] at e'
  cases e'
  exact ⟨b, off, e, hlt, by rw [hc, ptsV_get0 l i hi], by rw [Nat.add_assoc, hc', ptsV_get1 l i hi]⟩
theorem Pts.below {w w' : World} {v : Value} {l : List (Int × Int)} (h : Pts w v l) (hb : Below w.heap.size w w') : Pts w' v l := Rd.below h hb
theorem Pts.alloc {w : World} {v : Value} {l : List (Int × Int)} (h : Pts w v l) (o : Obj) : Pts (w.alloc o) v l := Rd.alloc h o
theorem Pts.drewN {w : World} {v : Value} {l : List (Int × Int)} (h : Pts w v l) (n : Nat) : Pts (w.drewN n) v l := h
theorem Pts.drew {w : World} {v : Value} {l : List (Int × Int)} (h : Pts w v l) : Pts w.drew v l := h
theorem Pts.nil (w : World) : Pts w (.slice none 0 0) [] := Rd.nil w

/-- a new block of points -/
theorem pts_lit (w : World) (l : List (Int × Int)) (T : TypeId) (m : Nat × Nat) (hl : l.length ≤ maxLen) : Pts (w.alloc (.cells (ptsV l).toArray T m)) (.slice (some ⟨w.heap.size, 0, none⟩) l.length l.length) l := by
  refine ⟨_, _, rfl, Nat.le_refl _, hl, (fun h => by cases h), fun i hi => ⟨_, _, rfl, by simp, ?_⟩⟩
  have e : (w.alloc (.cells (ptsV l).toArray T m)).heap[w.heap.size]? = some (.cells (ptsV l).toArray T m) := by
    show (w.heap.push _)[w.heap.size]? = _
    simp
  rw [Nat.zero_add, cell_of_row _ _ _ _ _ _ e]
  simp [hi]
end Go.Proofs.YtpmngdgifdkohaaDoor
