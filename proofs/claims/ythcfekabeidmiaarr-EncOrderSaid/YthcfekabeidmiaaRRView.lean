/- From the readings of the arguments to what the walks are told of them. -/
import Derived.Test.YthcfekabeidmiaaRRViewBase
import Derived.Test.YthcfekabeidmiaaRRByt
namespace Go.Proofs.YthcfekabeidmiaaRR
open Go.ChangeShapes Go.WideShapes Go.ChangeAt Go.RowKit
open Go.ChangeMaps (open_string shut_string)

section
variable {H : Type} {enc : TypeId × Value → H} {W : World} {base : Nat} {v : Value} {d : DataW H} {p : List MemPlace}

/-- numbers that fit u8, as bytes -/
def toBytes (zs : List Int) : List UInt8 := zs.map fun z => UInt8.ofNat z.toNat

set_option maxRecDepth 100000 in
theorem view_bytes (o : Value.okWide Try.prog W .any base 22 v) (h : DataW.Trod enc Try.prog W 0 (fun _ => true) true 22 v d p) : ∃ l, Byt W v l := by
  obtain ⟨a0, len, cap, rfl⟩ := okWide_slice Try.underlying22 o
  obtain ⟨fuel, hf⟩ := h
  rcases open_ints Try.underlying22 Try.underlying5 (by kernel_rfl) hf with ⟨hcs, _⟩ | ⟨x, l, c, zs, hcs, _, hl, hm, hz, _, hcell, hwz⟩
  · simp [Value.cells] at hcs
    obtain ⟨rfl, rfl, rfl⟩ := hcs
    exact ⟨[], Rd.nil W⟩
  · simp [Value.cells] at hcs
    obtain ⟨rfl, rfl, rfl⟩ := hcs
    have hz' : zs.length = cap := by simpa using hz
    refine ⟨toBytes (zs.take len), ?_⟩
    have hlen : (toBytes (zs.take len)).length = len := by simp [toBytes]; omega
    refine ⟨_, _, by rw [hlen], by omega, hm, (fun h => by cases h), fun i hi => ?_⟩
    rw [bytesV_length, hlen] at hi
    have hc := hcell i (by omega)
    obtain ⟨b, off, spot⟩ := x
    have hspot : spot = none := by simpa [Addr.add] using World.cell?_spot (hcell 0 (by omega))
    subst hspot
    rw [Addr.add_lit] at hc
    refine ⟨b, off, rfl, World.block_lt_of_cell? W _ hc, ?_⟩
    rw [hc]
    have hw := hwz (zs.getD i 0) (by simp [List.getD_eq_getElem?_getD, show i < zs.length by omega])
    have e : (bytesV (toBytes (zs.take len)))[i]'(by rw [bytesV_length, hlen]; exact hi) = .int .u8 (zs.getD i 0) := by
      have hb := bounds_u8 hw
      simp [bytesV, toBytes, List.getD_eq_getElem?_getD, show i < zs.length by omega]
      simp [List.getD_eq_getElem?_getD, show i < zs.length by omega] at hb
      omega
    rw [e]
end
end Go.Proofs.YthcfekabeidmiaaRR
