/- What the arguments read as behind a call that wrote nothing old. -/
import Derived.Test.YtdeibgljibcnlaaDoorRows
import Derived.Test.YtdeibgljibcnlaaDoorChecked
import Derived.WalkKit
import Derived.ProofKit
import Derived.OpenShut
import Derived.ShutString
import Derived.ChangeOld
namespace Go.Proofs.YtdeibgljibcnlaaDoor
open Go.ChangeShapes Go.WideShapes Go.ChangeAt Go.RowKit

section
variable {H : Type} {enc : TypeId × Value → H} {W : World} {base : Nat} {v : Value} {d : DataW H} {p : List MemPlace}

theorem laidOut : laidOutB Tryd.prog = true := by kernel_rfl
theorem ownKnobs : ownKnob Tryd.prog.godebug = none := by kernel_rfl

/-- a type whose readings stay -/
def Stays (t : TypeId) : Prop := Tryd.prog.readableRec t = true ∧ t < Tryd.prog.types.size
theorem stays {t : TypeId} (h1 : Tryd.prog.readableRec t = true) (h2 : decide (t < Tryd.prog.types.size) = true) : Stays t := ⟨h1, of_decide_eq_true h2⟩

/-- WHAT THE ARGUMENTS READ AS BEHIND A CALL THAT WROTE NOTHING OLD. -/
theorem trodAll_below {W' : World} (hb : Below W.heap.size W W') (ts : List TypeId) : ∀ {vs : List Value} {ds : List (DataW H)} {p : List MemPlace},
    (∀ t ∈ ts, Stays t) →
    DataW.TrodAll enc Tryd.prog W 0 (fun _ => true) true ts vs ds p → DataW.TrodAll enc Tryd.prog W' 0 (fun b => decide (b < W.heap.size)) true ts vs ds p := by
  induction ts with
  | nil =>
    intro vs ds p _ h
    cases vs with
    | cons _ _ => exact h.elim
    | nil => cases ds with
      | cons _ _ => exact h.elim
      | nil => exact h
  | cons t ts ih =>
    intro vs ds p ht h
    obtain ⟨v, vs, d, ds, p, q, rfl, rfl, rfl, h0, h1⟩ := trodAll_cons h
    obtain ⟨r1, r2⟩ := ht t (List.mem_cons_self ..)
    refine trodAll_cons_mk (Below.trod laidOut r1 r2 h0 hb ?_) (ih (fun t' h' => ht t' (List.mem_cons_of_mem _ h')) h1)
    obtain ⟨m, hm⟩ := h0
    exact DataW.trod_lt m _ _ _ hm
end
end Go.Proofs.YtdeibgljibcnlaaDoor
