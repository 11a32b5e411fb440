/- From the reading of a []api.Point to points. -/
import Derived.Test.YtpmngdgifdkohaaDoorViewPt
import Derived.Test.YtpmngdgifdkohaaDoorPts
namespace Go.Proofs.YtpmngdgifdkohaaDoor
open Go.ChangeShapes Go.WideShapes Go.ChangeAt Go.RowKit

theorem i64B_of_wf {a : Int} (h : (Lit.int .i64 a).wf = true) : i64B a := by
  have := bounds_i64 h
  unfold i64B
  omega
section
variable {H : Type} {enc : TypeId × Value → H} {W : World} {base : Nat} {v : Value} {d : DataW H} {p : List MemPlace}

set_option maxRecDepth 100000 in
/-- one cell of a []api.Point, out of its reading -/
theorem cell_points {fuel : Nat} {cs : List Value} {x : DataW H × List MemPlace} (hf : DataW.trod enc Tryd.prog W 0 (fun _ => true) true fuel 22 cs = some x) : ∃ u l, cs = [u] ∧ Pts W u l ∧ PtsB l := by
  rcases DataW.trod_slice Tryd.underlying22 hf with ⟨hcs, _⟩ | ⟨x, len, cap, elems, rest, n, _, hcs, _, _, hl, hm, hlen, hel, _, _⟩
  · exact ⟨_, [], hcs, Pts.nil W, fun q hq => by cases hq⟩
  · have each : ∀ i, i < len → ∃ q : Int × Int, W.cell? ((x.add (i * 2)).add 0) = some (.int .i64 q.1) ∧ W.cell? ((x.add (i * 2)).add 1) = some (.int .i64 q.2) ∧ i64B q.1 ∧ i64B q.2 := by
      intro i hi
      have hi' : i < elems.length := by omega
      have h1 := hel i hi
      rw [List.getElem?_eq_getElem hi', pt_size] at h1
      obtain ⟨cs, h2, h3⟩ := Option.bind_eq_some_iff.1 h1
      obtain ⟨a, b, rfl, wa, wb⟩ := cells_pt h3
      obtain ⟨_, g3, g4⟩ := World.cells?_some h2
      exact ⟨(a, b), g4 0 (by omega), g4 1 (by omega), i64B_of_wf wa, i64B_of_wf wb⟩
    let qs : List (Int × Int) := List.ofFn (n := len) fun i => (each i.1 i.2).choose
    have hq : qs.length = len := by simp [qs]
    have hqi : ∀ i (h : i < qs.length), W.cell? ((x.add (i * 2)).add 0) = some (.int .i64 qs[i].1) ∧ W.cell? ((x.add (i * 2)).add 1) = some (.int .i64 qs[i].2) ∧ i64B qs[i].1 ∧ i64B qs[i].2 := by
      intro i h
      have hh := (each i (by omega)).choose_spec
      simpa [qs] using hh
    clear_value qs
    refine ⟨_, qs, hcs, ?_, fun q hm => ?_⟩
    · refine ⟨_, _, by rw [hq], by omega, hm, (fun h => by cases h), fun i hi => ?_⟩
      rw [ptsV_length] at hi
      obtain ⟨c0, c1, _⟩ := hqi (i / 2) (by omega)
      obtain ⟨b, off, spot⟩ := x
      have hspot : spot = none := by simpa [Addr.add] using World.cell?_spot (hqi 0 (by omega)).1
      subst hspot
      rw [Addr.add_lit, Addr.add_lit] at c0 c1
      refine ⟨b, off, rfl, World.block_lt_of_cell? W _ c0, ?_⟩
      rcases Nat.mod_two_eq_zero_or_one i with e | e
      · have e2 : i = i / 2 * 2 := by omega
        have := ptsV_get0 qs (i / 2) (by omega) (by rw [ptsV_length]; omega)
        rw [show off + i = off + i / 2 * 2 + 0 by omega, c0]
        simp only [← e2] at this
        rw [this]
      · have e2 : i = i / 2 * 2 + 1 := by omega
        have := ptsV_get1 qs (i / 2) (by omega) (by rw [ptsV_length]; omega)
        rw [show off + i = off + i / 2 * 2 + 1 by omega, c1]
        simp only [← e2] at this
        rw [this]
    · obtain ⟨i, hi, rfl⟩ := List.getElem_of_mem hm
      exact (hqi i hi).2.2

set_option maxRecDepth 100000 in
theorem view_pts (o : Value.okWide Tryd.prog W .any base 22 v) (h : DataW.Trod enc Tryd.prog W 0 (fun _ => true) true 22 v d p) : ∃ l, Pts W v l ∧ PtsB l := by
  obtain ⟨a0, len, cap, rfl⟩ := okWide_slice Tryd.underlying22 o
  obtain ⟨fuel, hf⟩ := h
  obtain ⟨u, l, hcs, h1, h2⟩ := cell_points hf
  simp only [Value.cells, List.cons.injEq, and_true] at hcs
  subst hcs
  exact ⟨l, h1, h2⟩
end
end Go.Proofs.YtpmngdgifdkohaaDoor
