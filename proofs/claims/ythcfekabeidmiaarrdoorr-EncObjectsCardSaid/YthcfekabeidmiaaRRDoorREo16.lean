/- ring.Box, pergolaref3.Union, RingBox. pergolaref3.Union, RingBox. pergolaref3.RingBox. -/
import Derived.Test.YthcfekabeidmiaaRRDoorREo15
set_option linter.unusedSimpArgs false
set_option linter.unusedVariables false
namespace Go.Proofs.YthcfekabeidmiaaRRDoorR
/-! RingBox -/
section
open Go.RowKit

/-- the least box that has a ring; of none noughts -/
def bbE (l : List Pt) : Int × Int × Int × Int := if ringOk l then bbTo l l.length else (0, 0, 0, 0)
def bxAgg (b : Int × Int × Int × Int) : Value := .agg #[.int .i64 b.1, .int .i64 b.2.1, .int .i64 b.2.2.1, .int .i64 b.2.2.2]

theorem Er.Is.put {w : World} {op : ByteArray} {id k : Int} {v : Value} (h : Er.Is w (.fault op id (.num k)) v) {g : Nat} (hne : ∀ b, v = .iface 61 (.pointer (some ⟨b, 0, Option.none⟩)) → b ≠ g) (o : Nat) (x : Value) : Er.Is (w.setCell ⟨g, o, Option.none⟩ x) (.fault op id (.num k)) v := by
  obtain ⟨b, u, rfl, hlt, q0, q1, q2, q3⟩ := h
  have hb := hne b rfl
  exact ⟨b, u, rfl, by simpa using hlt, (World.cell?_setCell_other _ _ _ _ (by intro e; simp at e; try omega)).trans q0, (World.cell?_setCell_other _ _ _ _ (by intro e; simp at e; try omega)).trans q1, (World.cell?_setCell_other _ _ _ _ (by intro e; simp at e; try omega)).trans q2, q3⟩
theorem Er.Is.ne {w : World} {op : ByteArray} {id k : Int} {v : Value} (h : Er.Is w (.fault op id (.num k)) v) {g : Nat} {z : Int} (hz : w.cell? ⟨g, 0, Option.none⟩ = some (.int .i64 z)) : ∀ b, v = .iface 61 (.pointer (some ⟨b, 0, Option.none⟩)) → b ≠ g := by
  obtain ⟨b, u, rfl, hlt, q0, q1, q2, q3⟩ := h
  intro b' e hb
  cases e
  subst hb
  rw [q0] at hz
  cases hz

end

/-! UnionR -/
section
open Go.RowKit

theorem QuadS.drew {w : World} {g : Nat} {b : Int × Int × Int × Int} (h : QuadS w g b) : QuadS w.drew g b := ⟨⟨h.q.c0, h.q.c1, h.q.c2, h.q.c3⟩, h.f0, h.f1, h.f2, h.f3⟩

end

/-! RingBoxR -/
section
open Go.RowKit

end

end Go.Proofs.YthcfekabeidmiaaRRDoorR
