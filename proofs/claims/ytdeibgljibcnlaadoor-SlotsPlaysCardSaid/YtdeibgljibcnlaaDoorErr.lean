/- fault.New. -/
import Derived.Test.YtdeibgljibcnlaaDoorEr
namespace Go.Proofs.YtdeibgljibcnlaaDoor
open Go.RowKit

theorem New_nil (op : ByteArray) (id : Int) (w : World) :
    Calls Tryd.prog 46 #[.string op, .int .i64 id, .nilIface] w (ErRet w .none) := by
  go_enter Tryd.func46, Tryd.ntmps46
  go_wp2
  go_ret
  exact ⟨_, rfl, rfl, Below.refl _ _⟩

theorem New_num (op : ByteArray) (id : Int) (k : Int) (w : World) :
    Calls Tryd.prog 46 #[.string op, .int .i64 id, .iface 58 (.int .i64 k)] w (ErRet w (.fault op id (.num k))) := by
  go_enter Tryd.func46, Tryd.ntmps46
  go_wp2
  go_ret
  exact ⟨_, rfl, ⟨_, _, rfl, by simp, by simp, by simp, by simp, rfl⟩, (Below.refl _ _).alloc (Nat.le_refl _) _⟩

theorem New_er (op : ByteArray) (id : Int) (E : Er) (v : Value) (w : World) (hv : E.Is w v) :
    Calls Tryd.prog 46 #[.string op, .int .i64 id, v] w (ErRet w (E.wrap op id)) := by
  by_cases hE : E = .none
  · subst hE
    obtain rfl : v = .nilIface := hv
    exact New_nil op id w
  · obtain ⟨T, x, rfl⟩ : ∃ T x, v = .iface T x := by
      cases E with
      | none => exact absurd rfl hE
      | num j => exact ⟨_, _, hv⟩
      | fault a b c => obtain ⟨b, u, h, _⟩ := hv; exact ⟨_, _, h⟩
    have hw : E.wrap op id = .fault op id E := by cases E <;> first | rfl | exact absurd rfl hE
    rw [hw]
    have HE := Lib.hid hE; clear hE
    have hb : Below w.heap.size w (w.alloc (.cells #[.string op, .int .i64 id, .iface T x] 73)) := (Below.refl _ _).alloc (Nat.le_refl _) _
    have hv' := Er.Is.below hb hv
    go_enter Tryd.func46, Tryd.ntmps46
    go_wp2
    go_ret
    exact ⟨_, rfl, ⟨_, _, rfl, by simp, by simp, by simp, by simp, hv'⟩, hb⟩
end Go.Proofs.YtdeibgljibcnlaaDoor
