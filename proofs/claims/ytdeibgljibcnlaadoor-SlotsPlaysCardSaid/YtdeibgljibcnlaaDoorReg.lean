/- A call of a Go function as one step of a region that draws its order; guarded or not. -/
import Derived.Test.YtdeibgljibcnlaaDoorMem
import Derived.Deep.RegionLaw
import Derived.Deep.RegionHeld3
namespace Go.Proofs.YtdeibgljibcnlaaDoor
open Go.RowKit

theorem step_go {P : Program} {w : World} {ops : Array Oper} {o : Oper} {a : Act} {K : Act → World → Prop} {Q : Exit → Act → World → Prop} {E : Prop} (hw : Region.wanted o (yielded ops a.tmps) = true) (f : FuncId) (xs : List Operand) (ts : Array TypeId)
    (ho : o.op = .call { callee := .value (.func f), args := xs.toArray, argTypes := ts }) (hent : ∀ (args : Array Value) (w : World), (callFunc f args).run P w = .ok (.enter f args) w) (ys : List Value) (hx : xs.map a.eval = ys)
    {R : Ending → World → Prop} (hc : Calls P f ys.toArray w R) (h : ∀ e w', R e w' → ∃ v, e = .returned v ∧ K (a.put o.dst v) w') :
    if Region.wanted o (yielded ops a.tmps) = true then Oper.wp P o a w K Q else E := by
  rw [if_pos hw]
  have hrun : (execOp a.eval o).run P w = .ok (.enter f ys.toArray) w := by
    subst hx
    simp [execOp, ho, resolve, Deferred.ofValue, invoke, Act.eval, hent]
  unfold Oper.wp
  rw [hrun, Oper.upon_enter]
  exact hc.mono fun e w' hr => by
    obtain ⟨v, rfl, hk⟩ := h e w' hr
    exact hk
end Go.Proofs.YtdeibgljibcnlaaDoor
