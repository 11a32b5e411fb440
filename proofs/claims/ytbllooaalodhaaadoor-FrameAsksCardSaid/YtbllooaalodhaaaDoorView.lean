/- From the readings of the arguments to what the walks are told of them. -/
import Derived.Test.YtbllooaalodhaaaDoorRows
import Derived.Test.YtbllooaalodhaaaDoorByt
import Derived.OpenShut
import Derived.ShutString
import Derived.ChangeOld
namespace Go.Proofs.YtbllooaalodhaaaDoor
open Go.ChangeShapes Go.WideShapes Go.ChangeAt Go.RowKit
open Go.ChangeMaps (open_string shut_string)

section
variable {H : Type} {enc : TypeId × Value → H} {W : World} {base : Nat} {v : Value} {d : DataW H} {p : List MemPlace}

/-- numbers that fit u8, as bytes -/
def toBytes (zs : List Int) : List UInt8 := zs.map fun z => UInt8.ofNat z.toNat

set_option maxRecDepth 100000 in
theorem view_bytes (o : Value.okWide Tryd.prog W .any base 22 v) (h : DataW.Trod enc Tryd.prog W 0 (fun _ => true) true 22 v d p) : ∃ l, Byt W v l := by
  obtain ⟨a0, len, cap, rfl⟩ := okWide_slice Tryd.underlying22 o
  obtain ⟨fuel, hf⟩ := h
  rcases open_ints Tryd.underlying22 Tryd.underlying5 (by kernel_rfl) hf with ⟨hcs, _⟩ | ⟨x, l, c, zs, hcs, _, hl, hm, hz, _, hcell, hwz⟩
  · simp [Value.cells] at hcs
    obtain ⟨rfl, rfl, rfl⟩ := hcs
    exact ⟨[], Rd.nil W⟩
  · simp [Value.cells] at hcs
    obtain ⟨rfl, rfl, rfl⟩ := hcs
    have hz' : zs.length = cap := by simpa using hz
    refine ⟨toBytes (zs.take len), ?_⟩
    have hlen : (toBytes (zs.take len)).length = len := by simp [toBytes]; omega
    refine ⟨_, _, by rw [hlen], by omega, hm, (fun h => by cases h), fun i hi => ?_⟩
    rw [bytesV_length, hlen] at hi
    have hc := hcell i (by omega)
    obtain ⟨b, off, spot⟩ := x
    have hspot : spot = none := by simpa [Addr.add] using World.cell?_spot (hcell 0 (by omega))
    subst hspot
    rw [Addr.add_lit] at hc
    refine ⟨b, off, rfl, World.block_lt_of_cell? W _ hc, ?_⟩
    rw [hc]
    have hw := hwz (zs.getD i 0) (by simp [List.getD_eq_getElem?_getD, show i < zs.length by omega])
    have e : (bytesV (toBytes (zs.take len)))[i]'(by rw [bytesV_length, hlen]; exact hi) = .int .u8 (zs.getD i 0) := by
      have hb := bounds_u8 hw
      simp [bytesV, toBytes, List.getD_eq_getElem?_getD, show i < zs.length by omega]
      simp [List.getD_eq_getElem?_getD, show i < zs.length by omega] at hb
      omega
    rw [e]

theorem laidOut : laidOutB Tryd.prog = true := by kernel_rfl
theorem ownKnobs : ownKnob Tryd.prog.godebug = none := by kernel_rfl

/-- a type whose readings stay -/
def Stays (t : TypeId) : Prop := Tryd.prog.readableRec t = true ∧ t < Tryd.prog.types.size
theorem stays {t : TypeId} (h1 : Tryd.prog.readableRec t = true) (h2 : decide (t < Tryd.prog.types.size) = true) : Stays t := ⟨h1, of_decide_eq_true h2⟩

/-- WHAT THE ARGUMENTS READ AS BEHIND A CALL THAT WROTE NOTHING OLD. -/
theorem trodAll_below {W' : World} (hb : Below W.heap.size W W') (ts : List TypeId) : ∀ {vs : List Value} {ds : List (DataW H)} {p : List MemPlace},
    (∀ t ∈ ts, Stays t) →
    DataW.TrodAll enc Tryd.prog W 0 (fun _ => true) true ts vs ds p → DataW.TrodAll enc Tryd.prog W' 0 (fun b => decide (b < W.heap.size)) true ts vs ds p := by
  induction ts with
  | nil =>
    intro vs ds p _ h
    cases vs with
    | cons _ _ => exact h.elim
    | nil => cases ds with
      | cons _ _ => exact h.elim
      | nil => exact h
  | cons t ts ih =>
    intro vs ds p ht h
    obtain ⟨v, vs, d, ds, p, q, rfl, rfl, rfl, h0, h1⟩ := trodAll_cons h
    obtain ⟨r1, r2⟩ := ht t (List.mem_cons_self ..)
    refine trodAll_cons_mk (Below.trod laidOut r1 r2 h0 hb ?_) (ih (fun t' h' => ht t' (List.mem_cons_of_mem _ h')) h1)
    obtain ⟨m, hm⟩ := h0
    exact DataW.trod_lt m _ _ _ hm
end
end Go.Proofs.YtbllooaalodhaaaDoor
