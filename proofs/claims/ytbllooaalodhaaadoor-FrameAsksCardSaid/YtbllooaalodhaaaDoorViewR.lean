/- From the reading of a [][]byte to rows. -/
import Derived.Test.YtbllooaalodhaaaDoorView
import Derived.Test.YtbllooaalodhaaaDoorRws
namespace Go.Proofs.YtbllooaalodhaaaDoor
open Go.ChangeShapes Go.WideShapes Go.ChangeAt Go.RowKit

section
variable {H : Type} {enc : TypeId × Value → H} {W : World} {base : Nat} {v : Value} {d : DataW H} {p : List MemPlace}

set_option maxRecDepth 100000 in
/-- one cell of a []byte, out of its reading -/
theorem cell_bytes {fuel : Nat} {cs : List Value} {x : DataW H × List MemPlace} (hf : DataW.trod enc Tryd.prog W 0 (fun _ => true) true fuel 22 cs = some x) : ∃ u l, cs = [u] ∧ Byt W u l := by
  rcases open_ints Tryd.underlying22 Tryd.underlying5 (by kernel_rfl) hf with ⟨hcs, _⟩ | ⟨x, len, cap, zs, hcs, _, hl, hm, hz, _, hcell, hwz⟩
  · exact ⟨_, [], hcs, Rd.nil W⟩
  · refine ⟨_, toBytes (zs.take len), hcs, ?_⟩
    have hz' : zs.length = cap := by simpa using hz
    have hlen : (toBytes (zs.take len)).length = len := by simp [toBytes]; omega
    refine ⟨_, _, by rw [hlen], by omega, hm, (fun h => by cases h), fun i hi => ?_⟩
    rw [bytesV_length, hlen] at hi
    have hc := hcell i (by omega)
    obtain ⟨b, off, spot⟩ := x
    have hspot : spot = none := by simpa [Addr.add] using World.cell?_spot (hcell 0 (by omega))
    subst hspot
    rw [Addr.add_lit] at hc
    refine ⟨b, off, rfl, World.block_lt_of_cell? W _ hc, ?_⟩
    rw [hc]
    have hw := hwz (zs.getD i 0) (by simp [List.getD_eq_getElem?_getD, show i < zs.length by omega])
    have e : (bytesV (toBytes (zs.take len)))[i]'(by rw [bytesV_length, hlen]; exact hi) = .int .u8 (zs.getD i 0) := by
      have hb := bounds_u8 hw
      simp [bytesV, toBytes, List.getD_eq_getElem?_getD, show i < zs.length by omega]
      simp [List.getD_eq_getElem?_getD, show i < zs.length by omega] at hb
      omega
    rw [e]

theorem cells1 : Tryd.prog.cellsOf 22 = 1 := by kernel_rfl

set_option maxRecDepth 100000 in
theorem view_rows (o : Value.okWide Tryd.prog W .any base 33 v) (h : DataW.Trod enc Tryd.prog W 0 (fun _ => true) true 33 v d p) : ∃ ls, Rws W v ls := by
  obtain ⟨a0, len, cap, rfl⟩ := okWide_slice Tryd.underlying33 o
  obtain ⟨fuel, hf⟩ := h
  rcases DataW.trod_slice Tryd.underlying33 hf with ⟨hcs, _⟩ | ⟨x, l, c, elems, rest, n, _, hcs, _, _, hl, hm, hlen, hel, _, _⟩
  · simp [Value.cells] at hcs
    obtain ⟨rfl, rfl, rfl⟩ := hcs
    exact ⟨[], [], rfl, Rd.nil W, fun i h => by simp at h⟩
  · simp [Value.cells] at hcs
    obtain ⟨rfl, rfl, rfl⟩ := hcs
    have each : ∀ i, i < len → ∃ q : Value × List UInt8, W.cell? (x.add i) = some q.1 ∧ Byt W q.1 q.2 := by
      intro i hi
      have hi' : i < elems.length := by omega
      have h1 := hel i hi
      rw [List.getElem?_eq_getElem hi', cells1, Nat.mul_one] at h1
      obtain ⟨cs, h2, h3⟩ := Option.bind_eq_some_iff.1 h1
      obtain ⟨u, l, rfl, hu⟩ := cell_bytes h3
      exact ⟨(u, l), cell_of_cells?_one h2, hu⟩
    let qs : List (Value × List UInt8) := List.ofFn (n := len) fun i => (each i.1 i.2).choose
    have hq : qs.length = len := by simp [qs]
    have hqi : ∀ i (h : i < qs.length), W.cell? (x.add i) = some qs[i].1 ∧ Byt W qs[i].1 qs[i].2 := by
      intro i h
      have hh := (each i (by omega)).choose_spec
      simpa [qs] using hh
    clear_value qs
    refine ⟨qs.map (·.2), qs.map (·.1), by simp, ?_, fun i h h' => ?_⟩
    · refine ⟨_, _, by rw [List.length_map, hq], by rw [List.length_map]; omega, hm, (fun h => by cases h), fun i hi => ?_⟩
      rw [List.length_map] at hi
      obtain ⟨hc, _⟩ := hqi i hi
      obtain ⟨b, off, spot⟩ := x
      have hspot : spot = none := by simpa [Addr.add] using World.cell?_spot (hqi 0 (by omega)).1
      subst hspot
      rw [Addr.add_lit] at hc
      refine ⟨b, off, rfl, World.block_lt_of_cell? W _ hc, ?_⟩
      rw [hc, List.getElem_map]
    · simp only [List.getElem_map]
      exact (hqi i (by simpa using h)).2
end
end Go.Proofs.YtbllooaalodhaaaDoor
