/- From the readings of []string and []int to strings and numbers. -/
import Derived.Test.YthijffpackkcnaaDoorViewBase
import Derived.Test.YthijffpackkcnaaDoorTextsD
namespace Go.Proofs.YthijffpackkcnaaDoor
open Go.ChangeShapes Go.WideShapes Go.ChangeAt Go.RowKit

/-- the cells of ints -/
def intsV (l : List Int) : List Value := l.map fun n : Int => .int .i64 n
def Ints (w : World) (v : Value) (l : List Int) : Prop := Rd w v l.length (intsV l)
theorem Ints.below {w w' : World} {v : Value} {l : List Int} (h : Ints w v l) (hb : Below w.heap.size w w') : Ints w' v l := Rd.below h hb
theorem Ints.open {w : World} {v : Value} {l : List Int} (h : Ints w v l) :
    ∃ ao c, v = .slice ao l.length c ∧ l.length ≤ c ∧ c ≤ maxLen ∧
      ∀ i (h : i < l.length), ∃ b off, ao = some ⟨b, off, none⟩ ∧ b < w.heap.size ∧ w.cell? ⟨b, off + i, none⟩ = some (.int .i64 l[i]) := by
  obtain ⟨ao, c, hv, h1, h2, h0, h3⟩ := h
  refine ⟨ao, c, hv, h1, h2, fun i hi => ?_⟩
  obtain ⟨b, off, e, hlt, hc⟩ := h3 i (by simpa [intsV] using hi)
  exact ⟨b, off, e, hlt, by simpa [intsV] using hc⟩
theorem str_cells : Tryd.prog.cellsOf 9 = 1 := by kernel_rfl
section
variable {H : Type} {enc : TypeId × Value → H} {W : World} {base : Nat} {v : Value} {d : DataW H} {p : List MemPlace}

set_option maxRecDepth 100000 in
theorem view_ints (o : Value.okWide Tryd.prog W .any base 23 v) (h : DataW.Trod enc Tryd.prog W 0 (fun _ => true) true 23 v d p) : ∃ l, Ints W v l ∧ ∀ n ∈ l, -9223372036854775808 ≤ n ∧ n ≤ 9223372036854775807 := by
  obtain ⟨a0, len, cap, rfl⟩ := okWide_slice Tryd.underlying23 o
  obtain ⟨fuel, hf⟩ := h
  rcases open_ints Tryd.underlying23 Tryd.underlying3 (by kernel_rfl) hf with ⟨hcs, _⟩ | ⟨x, l, c, zs, hcs, _, hl, hm, hz, _, hcell, hwz⟩
  · simp [Value.cells] at hcs
    obtain ⟨rfl, rfl, rfl⟩ := hcs
    exact ⟨[], Rd.nil W, fun n hn => by cases hn⟩
  · simp [Value.cells] at hcs
    obtain ⟨rfl, rfl, rfl⟩ := hcs
    have hz' : zs.length = cap := by simpa using hz
    have hlen : (zs.take len).length = len := by simp; omega
    refine ⟨zs.take len, ⟨_, _, by rw [hlen], by omega, hm, (fun h => by cases h), fun i hi => ?_⟩, fun n hn => ?_⟩
    · rw [intsV, List.length_map, hlen] at hi
      have hc := hcell i (by omega)
      obtain ⟨b, off, spot⟩ := x
      have hspot : spot = none := by simpa [Addr.add] using World.cell?_spot (hcell 0 (by omega))
      subst hspot
      rw [Addr.add_lit] at hc
      refine ⟨b, off, rfl, World.block_lt_of_cell? W _ hc, ?_⟩
      rw [hc]
      simp [intsV, List.getD_eq_getElem?_getD, show i < zs.length by omega]
    · have := bounds_i64 (hwz n (List.mem_of_mem_take hn))
      omega
set_option maxRecDepth 100000 in
theorem view_strs (o : Value.okWide Tryd.prog W .any base 22 v) (h : DataW.Trod enc Tryd.prog W 0 (fun _ => true) true 22 v d p) : ∃ l, Str W v l ∧ ∀ s ∈ l, s.size ≤ maxLen := by
  obtain ⟨a0, len, cap, rfl⟩ := okWide_slice Tryd.underlying22 o
  obtain ⟨fuel, hf⟩ := h
  rcases DataW.trod_slice Tryd.underlying22 hf with ⟨hcs, _⟩ | ⟨x, l, c, elems, rest, n, _, hcs, _, _, hl, hm, hlen, hel, _, _⟩
  · simp [Value.cells] at hcs
    obtain ⟨rfl, rfl, rfl⟩ := hcs
    exact ⟨[], Rd.nil W, fun n hn => by cases hn⟩
  · simp [Value.cells] at hcs
    obtain ⟨rfl, rfl, rfl⟩ := hcs
    have each : ∀ i, i < len → ∃ s : ByteArray, W.cell? (x.add i) = some (.string s) ∧ s.size ≤ maxLen := by
      intro i hi
      have h1 := hel i hi
      rw [List.getElem?_eq_getElem (by omega), str_cells, Nat.mul_one] at h1
      obtain ⟨cs, h2, h3⟩ := Option.bind_eq_some_iff.1 h1
      obtain ⟨s, rfl, _, hs⟩ := DataW.trod_string Tryd.underlying9 h3
      exact ⟨s, cell_of_cells?_one h2, hs⟩
    let qs : List ByteArray := List.ofFn (n := len) fun i => (each i.1 i.2).choose
    have hq : qs.length = len := by simp [qs]
    have hqi : ∀ i (h : i < qs.length), W.cell? (x.add i) = some (.string qs[i]) ∧ qs[i].size ≤ maxLen := by
      intro i h
      have hh := (each i (by omega)).choose_spec
      simpa [qs] using hh
    clear_value qs
    refine ⟨qs, ⟨_, _, by rw [hq], by omega, hm, (fun h => by cases h), fun i hi => ?_⟩, fun s hs => ?_⟩
    · rw [strsV, List.length_map] at hi
      have hc := (hqi i hi).1
      obtain ⟨b, off, spot⟩ := x
      have hspot : spot = none := by simpa [Addr.add] using World.cell?_spot (hqi 0 (by omega)).1
      subst hspot
      rw [Addr.add_lit] at hc
      refine ⟨b, off, rfl, World.block_lt_of_cell? W _ hc, ?_⟩
      rw [hc]
      simp [strsV]
    · obtain ⟨i, hi, rfl⟩ := List.getElem_of_mem hs
      exact (hqi i hi).2
end
end Go.Proofs.YthijffpackkcnaaDoor
