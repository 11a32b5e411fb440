/- fault.Code, fault.Chain, fault.Find at any error. -/
import Derived.Test.YthijffpackkcnaaDoorWithinD
import Derived.OneCell
import Derived.BigQuiet
import Derived.Deep.QuietTactic
namespace Go.Proofs.YthijffpackkcnaaDoor
open Go.RowKit

/-! ### the first number -/
def stopC (_ : Int) : En → Bool | .num _ => true | _ => false
def nextC (s : Int) : En → Int | .num k => k | _ => s
/-- the cell of a captured number -/
def InvC (B : Nat) (_ : Nat) (s : Int) (w : World) : Prop := w.heap[B]? = some (.cells #[.int .i64 s] 25 (0, 0))
theorem notNum_fault (v : Value) (xT : TypeId) (w : World) : (Instr.typeAssert (.iface 29 v) xT 25 true).run Tryd.prog w = .ok (.tuple #[.int .i64 0, .bool false]) w := by kernel_rfl
theorem notNum_join (v : Value) (xT : TypeId) (w : World) : (Instr.typeAssert (.iface 81 v) xT 25 true).run Tryd.prog w = .ok (.tuple #[.int .i64 0, .bool false]) w := by kernel_rfl
theorem isNum_num (v : Value) (xT : TypeId) (w : World) : (Instr.typeAssert (.iface 25 v) xT 25 true).run Tryd.prog w = .ok (.tuple #[v, .bool true]) w := by kernel_rfl
theorem enters_of {K : FuncId} {fn : Func} (hf : Tryd.prog.funcs[K]? = some fn) (hname : (fn.name == "runtime.NumGoroutine") = false) (hb : fn.body.isNone = false) : Enters K := by
  intro args w
  have h1 : fn.name ≠ "runtime.NumGoroutine" := by simpa using hname
  cases h : fn.body with
  | none => rw [h] at hb; cases hb
  | some c => simp [callFunc, hf, h1, h]
theorem enters_code : Enters 23 := enters_of Tryd.func23 (by kernel_rfl) (by kernel_rfl)
theorem stands_code (B : Nat) : Stands (InvC B) := ⟨fun m s w w' h hb => by
  have := lt_of_block h
  unfold InvC
  rw [hb.block B this]; exact h, fun _ _ _ h => h⟩

set_option maxHeartbeats 1000000 in
theorem asked_code (B : Nat) (w0 : World) (hB : w0.heap.size ≤ B) : Asked 23 #[.pointer (some ⟨B, 0, none⟩)] (InvC B) stopC nextC w0 := by
  intro m s e u w hn he hb hi
  show Calls _ _ #[u, .pointer (some ⟨B, 0, none⟩)] _ _
  have hc := cell_of_one hi
  have hf := free_of_one hi
  have a1 := notNum_fault
  have a3 := notNum_join
  have a6 := isNum_num
  cases e with
  | none => exact absurd rfl hn
  | num k =>
    obtain rfl : u = _ := he
    have hs : InvC B m k (w.setCell ⟨B, 0, none⟩ (.int .i64 k)) := one_setCell hi
    have hbel := hb.setCell hB (p := ⟨B, 0, none⟩) (.int .i64 k)
    clear hi hn hb
    go_enter Tryd.func23, Tryd.ntmps23
    go_wp2
    go_ret
    exact ⟨rfl, hs, hbel⟩
  | fault op id x =>
    obtain ⟨b, y, rfl, _⟩ := he
    have HI := Lib.hid hi
    clear hi hn
    go_enter Tryd.func23, Tryd.ntmps23
    go_wp2
    go_ret
    exact ⟨rfl, HI.out, hb⟩
  | nilf =>
    obtain rfl : u = _ := he
    have HI := Lib.hid hi
    clear hi hn
    go_enter Tryd.func23, Tryd.ntmps23
    go_wp2
    go_ret
    exact ⟨rfl, HI.out, hb⟩
  | plain t =>
    exact (show False from he).elim
  | cover x =>
    exact (show False from he).elim
  | many j l =>
    obtain ⟨rfl, b, y, vs, rfl, _⟩ := he
    have HI := Lib.hid hi
    clear hi hn
    rw [show manyT true = 81 from rfl]
    go_enter Tryd.func23, Tryd.ntmps23
    go_wp2
    go_ret
    exact ⟨rfl, HI.out, hb⟩

/-- the first number within an error -/
def En.first (e : En) : Int := (runs stopC nextC 0 e.pre).2

theorem Code_any (e : En) (u : Value) (w : World) (he : e.Is w u) :
    Calls Tryd.prog 9 #[u] w fun ev w' => ev = .returned (.int .i64 e.first) ∧ Below w.heap.size w w' := by
  have hmf : ∀ (fn : Fn) (first cap : Array Value) (w : World), (Instr.makeFunc fn first cap).run Tryd.prog w = .ok (.func fn first cap) w := fun _ _ _ _ => rfl
  have hi : InvC w.heap.size (e.pre.length + 0) 0 (w.alloc (.cells #[.int .i64 0] 25)) := heap_alloc_new _ _
  have hC := Lib.hid (within_any _ _ _ stopC nextC w (asked_code w.heap.size w (Nat.le_refl _)) (stands_code _) enters_code e.sz e u _ 0 0 (Nat.le_refl _) he ((Below.refl _ _).alloc (Nat.le_refl _) _) hi)
  clear hi
  have HE := Lib.hid he
  clear he
  go_enter Tryd.func9, Tryd.ntmps9
  go_wp2_with fail
  refine hC.out.mono ?_
  rintro ev w1 ⟨rfl, i1, b1⟩
  have hc := cell_of_one i1
  have hf := free_of_one i1
  have hb2 := b1.setCell (Nat.le_refl _) (p := ⟨w.heap.size, 0, none⟩) (.int .i64 (runs stopC nextC 0 e.pre).2)
  have hs1 := one_setCell (u := .int .i64 (runs stopC nextC 0 e.pre).2) i1
  have hc1 := cell_of_one hs1
  clear i1 hs1
  go_wp2_with fail
  exact bodyPost_ret (v := .int .i64 e.first) (by simp [results, Tryd.results9, go_sem, hc1]; rfl) rfl ⟨rfl, hb2⟩

/-! ### the ops of all Faults -/
theorem notF_num (v : Value) (xT : TypeId) (w : World) : (Instr.typeAssert (.iface 25 v) xT 29 true).run Tryd.prog w = .ok (.tuple #[.pointer none, .bool false]) w := by kernel_rfl
theorem notF_join (v : Value) (xT : TypeId) (w : World) : (Instr.typeAssert (.iface 81 v) xT 29 true).run Tryd.prog w = .ok (.tuple #[.pointer none, .bool false]) w := by kernel_rfl
theorem isF_fault (v : Value) (xT : TypeId) (w : World) : (Instr.typeAssert (.iface 29 v) xT 29 true).run Tryd.prog w = .ok (.tuple #[v, .bool true]) w := by kernel_rfl

/-- the Fault that an error is -/
def En.asF (w : World) : En → Value → Prop
  | .fault op id x, p => ∃ b, p = .pointer (some ⟨b, 0, Option.none⟩) ∧ b < w.heap.size ∧ w.cell? ⟨b, 0, Option.none⟩ = some (.string op) ∧ w.cell? ⟨b, 1, Option.none⟩ = some (.int .i64 id) ∧ (En.fault op id x).Is w (.iface 29 p)
  | _, p => p = .pointer Option.none
set_option maxHeartbeats 1000000 in
theorem asFault_any (e : En) (u : Value) (w0 w : World) (he : e.Is w0 u) (hn : e ≠ .none) :
    Calls Tryd.prog 26 #[u] w fun ev w' => ∃ p, ev = .returned p ∧ e.asF w0 p ∧ w = w' := by
  have a1 := notF_num
  have a3 := notF_join
  have a6 := isF_fault
  cases e with
  | none => exact absurd rfl hn
  | num k =>
    obtain rfl : u = _ := he
    clear hn
    go_enter Tryd.func26, Tryd.ntmps26
    go_wp2
    go_ret
    exact ⟨_, rfl, rfl, rfl⟩
  | fault op id x =>
    have HE := Lib.hid he
    obtain ⟨b, y, rfl, h1, h2, h3, _⟩ := he
    have H2 := Lib.hid h2
    have H3 := Lib.hid h3
    clear hn h2 h3
    go_enter Tryd.func26, Tryd.ntmps26
    go_wp2
    go_ret
    exact ⟨_, rfl, ⟨b, rfl, h1, H2.out, H3.out, HE.out⟩, rfl⟩
  | nilf =>
    obtain rfl : u = _ := he
    clear hn
    go_enter Tryd.func26, Tryd.ntmps26
    go_wp2
    go_ret
    exact ⟨_, rfl, rfl, rfl⟩
  | plain t =>
    exact (show False from he).elim
  | cover x =>
    exact (show False from he).elim
  | many j l =>
    obtain ⟨rfl, b, y, vs, rfl, _⟩ := he
    clear hn
    rw [show manyT true = 81 from rfl]
    go_enter Tryd.func26, Tryd.ntmps26
    go_wp2
    go_ret
    exact ⟨_, rfl, rfl, rfl⟩
end Go.Proofs.YthijffpackkcnaaDoor
