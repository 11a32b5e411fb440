/- Errors: none, a number, a Fault. -/
import Derived.Test.YtdeibgljibcnlaaDoorMem
namespace Go.Proofs.YtdeibgljibcnlaaDoor
open Go.RowKit

/-! ### errors -/
/-- an error: none; a number; a Fault -/
inductive Er where
  | none
  | num (k : Int)
  | fault (op : ByteArray) (id : Int) (inner : Er)

/-- In world w the value v of type error is so. -/
def Er.Is (w : World) : Er → Value → Prop
  | .none, v => v = .nilIface
  | .num k, v => v = .iface 58 (.int .i64 k)
  | .fault op id inner, v => ∃ b u, v = .iface 69 (.pointer (some ⟨b, 0, Option.none⟩)) ∧ b < w.heap.size ∧ w.cell? ⟨b, 0, Option.none⟩ = some (.string op) ∧ w.cell? ⟨b, 1, Option.none⟩ = some (.int .i64 id) ∧ w.cell? ⟨b, 2, Option.none⟩ = some u ∧ inner.Is w u

theorem Er.Is.below {w w' : World} (hb : Below w.heap.size w w') : ∀ {e : Er} {v : Value}, e.Is w v → e.Is w' v
  | .none, _, h => h
  | .num _, _, h => h
  | .fault _ _ _, _, ⟨b, u, h1, h2, h3, h4, h5, h6⟩ => ⟨b, u, h1, Nat.lt_of_lt_of_le h2 hb.size, (hb.cell (p := ⟨b, 0, Option.none⟩) h2).trans h3, (hb.cell (p := ⟨b, 1, Option.none⟩) h2).trans h4, (hb.cell (p := ⟨b, 2, Option.none⟩) h2).trans h5, Er.Is.below hb h6⟩

/-- The call hands back an error. -/
def ErRet (w : World) (x : Er) (e : Ending) (w' : World) : Prop := ∃ v, e = .returned v ∧ x.Is w' v ∧ Below w.heap.size w w'

/-- what fault.New makes of an error -/
def Er.wrap (op : ByteArray) (id : Int) : Er → Er
  | .none => .none
  | e => .fault op id e
end Go.Proofs.YtdeibgljibcnlaaDoor
