/- Errors: none, a number, a Fault; fault.New. -/
import Derived.Test.YtmpodnmgeakefaaDoorMem
namespace Go.Proofs.YtmpodnmgeakefaaDoor
open Go.RowKit

/-! ### errors -/
/-- an error: none; a number; a Fault -/
inductive Er where
  | none
  | num (k : Int)
  | fault (op : ByteArray) (id : Int) (inner : Er)

/-- In world w the value v of type error is so. -/
def Er.Is (w : World) : Er → Value → Prop
  | .none, v => v = .nilIface
  | .num k, v => v = .iface 60 (.int .i64 k)
  | .fault op id inner, v => ∃ b u, v = .iface 62 (.pointer (some ⟨b, 0, Option.none⟩)) ∧ b < w.heap.size ∧ w.cell? ⟨b, 0, Option.none⟩ = some (.string op) ∧ w.cell? ⟨b, 1, Option.none⟩ = some (.int .i64 id) ∧ w.cell? ⟨b, 2, Option.none⟩ = some u ∧ inner.Is w u

theorem Er.Is.below {w w' : World} (hb : Below w.heap.size w w') : ∀ {e : Er} {v : Value}, e.Is w v → e.Is w' v
  | .none, _, h => h
  | .num _, _, h => h
  | .fault _ _ _, _, ⟨b, u, h1, h2, h3, h4, h5, h6⟩ => ⟨b, u, h1, Nat.lt_of_lt_of_le h2 hb.size, (hb.cell (p := ⟨b, 0, Option.none⟩) h2).trans h3, (hb.cell (p := ⟨b, 1, Option.none⟩) h2).trans h4, (hb.cell (p := ⟨b, 2, Option.none⟩) h2).trans h5, Er.Is.below hb h6⟩

/-- The call hands back an error. -/
def ErRet (w : World) (x : Er) (e : Ending) (w' : World) : Prop := ∃ v, e = .returned v ∧ x.Is w' v ∧ Below w.heap.size w w'

theorem New_nil (op : ByteArray) (id : Int) (w : World) :
    Calls Tryd.prog 32 #[.string op, .int .i64 id, .nilIface] w (ErRet w .none) := by
  go_enter Tryd.func32, Tryd.ntmps32
  go_wp2
  go_ret
  exact ⟨_, rfl, rfl, Below.refl _ _⟩

theorem New_num (op : ByteArray) (id : Int) (k : Int) (w : World) :
    Calls Tryd.prog 32 #[.string op, .int .i64 id, .iface 60 (.int .i64 k)] w (ErRet w (.fault op id (.num k))) := by
  go_enter Tryd.func32, Tryd.ntmps32
  go_wp2
  go_ret
  exact ⟨_, rfl, ⟨_, _, rfl, by simp, by simp, by simp, by simp, rfl⟩, (Below.refl _ _).alloc (Nat.le_refl _) _⟩

/-- what fault.New makes of an error -/
def Er.wrap (op : ByteArray) (id : Int) : Er → Er
  | .none => .none
  | e => .fault op id e

theorem New_er (op : ByteArray) (id : Int) (E : Er) (v : Value) (w : World) (hv : E.Is w v) :
    Calls Tryd.prog 32 #[.string op, .int .i64 id, v] w (ErRet w (E.wrap op id)) := by
  by_cases hE : E = .none
  · subst hE
    obtain rfl : v = .nilIface := hv
    exact New_nil op id w
  · obtain ⟨T, x, rfl⟩ : ∃ T x, v = .iface T x := by
      cases E with
      | none => exact absurd rfl hE
      | num j => exact ⟨_, _, hv⟩
      | fault a b c => obtain ⟨b, u, h, _⟩ := hv; exact ⟨_, _, h⟩
    have hw : E.wrap op id = .fault op id E := by cases E <;> first | rfl | exact absurd rfl hE
    rw [hw]
    have HE := Lib.hid hE; clear hE
    have hb : Below w.heap.size w (w.alloc (.cells #[.string op, .int .i64 id, .iface T x] 66)) := (Below.refl _ _).alloc (Nat.le_refl _) _
    have hv' := Er.Is.below hb hv
    go_enter Tryd.func32, Tryd.ntmps32
    go_wp2
    go_ret
    exact ⟨_, rfl, ⟨_, _, rfl, by simp, by simp, by simp, by simp, hv'⟩, hb⟩
end Go.Proofs.YtmpodnmgeakefaaDoor
