/- From a row's list to what errors.errorType holds; a world that meets the list. -/
import Derived.Test.YtdeibgljibcnlaaDoorRows
import Derived.Test.YtdeibgljibcnlaaDoorAs
import Derived.ChangeSame
import Derived.ChangeVars
import Derived.JoinedOf
import Derived.RowKit
import Derived.RowKitTokens
import Derived.LaidLaws
import Derived.LaidHandle
import Derived.Stop.Joined
namespace Go.Proofs.YtdeibgljibcnlaaDoor
open Go.ChangeShapes Go.WideShapes Go.RowKit

def errList : List (String × DataW Unit) := [("errors.errorType", Rows.laid_errors_errorType)]
theorem et_named : Tryd.prog.globalNamed "errors.errorType" = some 0 := by kernel_rfl
theorem rt_named : (Tryd.prog.cutTypes.find? (·.1 == "internal/reflectlite.rtype")).map (·.2) = some 109 := by kernel_rfl
theorem oneRow : ((List.range 152).filter fun t => Tryd.prog.rowNamed t [101, 114, 114, 111, 114]) = [25] := by kernel_rfl
theorem types_size : Tryd.prog.types.size = 152 := by kernel_rfl

theorem errT_of_laid {W : World} (h : laidMetH Tryd.prog errList W) : ErrT W := by
  have h' : laidMet Tryd.prog [] W ∧ handlesMet Tryd.prog errList W := h
  obtain ⟨name, u, ty, e1, e2, e3, e4, e5⟩ := h'.2 _ (List.mem_singleton.2 rfl)
  have en : name = [101, 114, 114, 111, 114] := (Option.some.inj e1).symm
  subst en
  obtain rfl := Option.some.inj (rt_named.symm.trans e2)
  have hm : ty ∈ (List.range 152).filter fun t => Tryd.prog.rowNamed t [101, 114, 114, 111, 114] := List.mem_filter.2 ⟨List.mem_range.2 (by rw [← types_size]; exact e3), e4⟩
  rw [oneRow] at hm
  obtain rfl := List.mem_singleton.1 hm
  have hh : typeHandle Tryd.prog 25 = .pointer (some ⟨1, 25, none⟩) := by kernel_rfl
  rw [hh] at e5
  unfold ErrT
  simpa using World.var?_cell et_named e5 0

/-- A world that meets the list: the settled one, the variable's cell laid. -/
noncomputable def laidWorld (os : Os) : World :=
  let w0 := World.holding Tryd.prog os ⟨#[], #[], []⟩
  { w0 with heap := w0.heap.modify 0 fun
      | .cells _ t frozen => .cells #[.iface 109 (.agg #[.pointer (some ⟨1, 25, none⟩)])] t frozen
      | o => o }
theorem laidWorld_met (os : Os) (args : Array Value) : laidMetH Tryd.prog errList ((laidWorld os).forCall (fun _ _ => 0) ⟨#[], args, []⟩).memory :=
  laidMetH_of_parts (laidMet_nil _ _) (by kernel_rfl)
end Go.Proofs.YtdeibgljibcnlaaDoor
