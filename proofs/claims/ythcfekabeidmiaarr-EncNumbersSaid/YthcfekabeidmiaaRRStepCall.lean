/- A call of a Go function, and an append of bytes, as one step of a region that draws its order. -/
import Derived.Test.YthcfekabeidmiaaRRApp
import Derived.Test.YthcfekabeidmiaaRRByt
import Derived.Deep.RegionLaw
import Derived.Deep.RegionHeld3
namespace Go.Proofs.YthcfekabeidmiaaRR
open Go.RowKit

/-- A call of a Go function of one argument, as one step of a region that draws. -/
theorem step_go1 {P : Program} {w : World} {ops : Array Oper} {o : Oper} {a : Act} {K : Act → World → Prop} {Q : Exit → Act → World → Prop} {E : Prop} (hgd : o.guard = none) (f : FuncId) (x : Operand) (t : TypeId)
    (ho : o.op = .call { callee := .value (.func f), args := #[x], argTypes := #[t] }) (hent : ∀ (args : Array Value) (w : World), (callFunc f args).run P w = .ok (.enter f args) w) (y : Value) (hx : a.eval x = y)
    {R : Ending → World → Prop} (hc : Calls P f #[y] w R) (h : ∀ e w', R e w' → ∃ v, e = .returned v ∧ K (a.put o.dst v) w') :
    if Region.wanted o (yielded ops a.tmps) = true then Oper.wp P o a w K Q else E := by
  have hw : Region.wanted o (yielded ops a.tmps) = true := by simp [Region.wanted, hgd]
  rw [if_pos hw]
  have hrun : (execOp a.eval o).run P w = .ok (.enter f #[y]) w := by
    simp [execOp, ho, resolve, Deferred.ofValue, invoke, Act.eval, hent]
    simpa [Act.eval] using hx
  unfold Oper.wp
  rw [hrun, Oper.upon_enter]
  exact hc.mono fun e w' hr => by
    obtain ⟨v, rfl, hk⟩ := h e w' hr
    exact hk

/-- An append of bytes as one step, with where the new row lies. -/
theorem step_append_lie {w : World} {ops : Array Oper} {o : Oper} {a : Act} {K : Act → World → Prop} {Q : Exit → Act → World → Prop} {E : Prop} (hgd : o.guard = none) (s x : Operand)
    (ho : o.op = .call { callee := .builtin .append, args := #[s, x], argTypes := #[22, 22] })
    (base : Nat) (v : Value) (l : List UInt8) (hs : a.eval s = v) (hown : Own w base v l) (y : Value) (m : List UInt8) (hx : a.eval x = y) (hy : Byt w y m)
    (h63 : l.length + m.length ≤ 140737488355328) (hbase : base ≤ w.heap.size)
    (h : ∀ v' w', Own w' base v' (l ++ m) → w.grownBy w' v.ownBlock → (v'.ownBlock = v.ownBlock ∨ v'.ownBlock = some w.heap.size) → K (a.put o.dst v') w') : if Region.wanted o (yielded ops a.tmps) = true then Oper.wp Try.prog o a w K Q else E := by
  have hw : Region.wanted o (yielded ops a.tmps) = true := by simp [Region.wanted, hgd]
  rw [if_pos hw]
  exact wp_append_at s x 22 ho base 5 _ 1 1 Try.underlying22 info_u8 rfl (by decide) v _ _ hs hown y _ _ hx hy (by simp [bytesV]) (bytesV_one _) (by unfold maxLen; omega) (by omega) hbase
    fun v' w' h1 h2 h3 => h v' w' (by unfold Own; rw [bytesV_append, List.length_append]; exact h1) h2 h3
theorem Own.lt {w : World} {base : Nat} {v : Value} {l : List UInt8} (h : Own w base v l) : ∀ g, v.ownBlock = some g → base ≤ g ∧ g < w.heap.size := World.ownsRow.lt h
theorem Own.grown {B : Nat} {w w' : World} {base : Nat} {v : Value} {l : List UInt8} (h : Own w base v l) (hg : w.grownBy w' v.ownBlock) (hB : B ≤ base) (hs : B ≤ w.heap.size) : Below B w w' := below_grown h hg hB hs
theorem ne_lie {b s : Nat} {v u : Value} (h : some b ≠ v.ownBlock) (hlt : b < s) (ha : u.ownBlock = v.ownBlock ∨ u.ownBlock = some s) : some b ≠ u.ownBlock := by
  rcases ha with ha | ha
  · rwa [ha]
  · rw [ha]; intro e; cases e; omega
end Go.Proofs.YthcfekabeidmiaaRR
