/- errors.As at an error that is none, a number, or a Fault, and at a target of type **api.Fault. pergolaalike.Is: is an error just that number, and a Fault with that op and id? What the arguments read as behind a call that wrote nothing old. From the readings of points and boxes to their numbers. -/
import Derived.Test.YtoggbmfjjenbaaaGreatTw26
import Derived.Test.YtoggbmfjjenbaaaGreatRows
import Derived.Test.YtoggbmfjjenbaaaGreatChecked
import Derived.WalkKit
import Derived.ProofKit
import Derived.OpenShut
import Derived.ShutString
import Derived.ChangeOld
import Derived.Lib.SmallJoins
set_option linter.unusedSimpArgs false
set_option linter.unusedVariables false
namespace Go.Proofs.YtoggbmfjjenbaaaGreat
/-! As -/
section
open Go.RowKit Go.Extern.Stop Go.Stop Go.Extern

/-! ### CLOSED FACTS ON THE MODEL's ENTRIES FOR internal/reflectlite, at this program's types: 25: *p.E · 27: **p.E · 23: error · 45: reflectlite's rtype · 1: how many package-level variables the dump has -/
theorem rl_methodKind (h : Value) (w : World) : (Go.method 279 109 (.agg #[h]) "Kind").run Tryz.prog w = .ok (109, h) w := by kernel_rfl
theorem rl_kind_P (w : World) : ((ReflectliteType.abiMethod fun t => (fun a : Nat => Value.int IntKind.u8 (a : Int)) <$> Rtype.kind t) #[.pointer (some ⟨0, 95, none⟩)]).run Tryz.prog w = .ok (.int .u8 22) w := by kernel_rfl

/-! ### THE ENTRIES THAT READ OR WRITE MEMORY: laws with a premise on the cell (after Derived/Lib/ReflectliteSlice.lean's manner: each unfolding a lemma of its own, by rfl) -/
theorem rlm (z : Sem Value) (f : TypeId → Addr → Nat → Nat → Sem Value) (v : Value) :
    ReflectliteValue.method z f #[v] = (do match ← ReflectliteValue.parts v with | none => z | some (t, a, fl) => f t a fl (fl % 32)) := rfl
theorem rl_methodElem (h : Value) (w : World) : (Go.method 279 109 (.agg #[h]) "Elem").run Tryz.prog w = .ok (113, .agg #[h]) w := by kernel_rfl
theorem rl_methodImplements (h : Value) (w : World) : (Go.method 279 109 (.agg #[h]) "Implements").run Tryz.prog w = .ok (114, .agg #[h]) w := by kernel_rfl
theorem rl_methodAssignableTo (h : Value) (w : World) : (Go.method 279 109 (.agg #[h]) "AssignableTo").run Tryz.prog w = .ok (111, .agg #[h]) w := by kernel_rfl
theorem rl_implements_P (w : World) : (ReflectliteType.relation "Implements" ReflectliteType.implements_ #[.agg #[.pointer (some ⟨0, 95, none⟩)], .iface 109 (.agg #[.pointer (some ⟨0, 31, none⟩)])]).run Tryz.prog w = .ok (.bool true) w := by kernel_rfl
theorem rl_typeOf_P (v : Value) (w : World) : (ReflectliteType.typeOf #[.iface 95 v]).run Tryz.prog w = .ok (.iface 109 (.agg #[.pointer (some ⟨0, 95, none⟩)])) w := by kernel_rfl
theorem rl_assignable_P (w : World) : (ReflectliteType.relation "AssignableTo" ReflectliteType.assignableTo #[.agg #[.pointer (some ⟨0, 95, none⟩)], .iface 109 (.agg #[.pointer (some ⟨0, 95, none⟩)])]).run Tryz.prog w = .ok (.bool true) w := by kernel_rfl
theorem rl_valueOf_P (e : Addr) (w : World) : (ReflectliteValue.unpack (.iface 95 (.pointer (some e)))).run Tryz.prog w
    = .ok (.agg #[.pointer (some ⟨0, 95, none⟩), .pointer (some ⟨w.heap.size, 0, none⟩), .int .u64 150]) (w.alloc (.cells #[.pointer (some e)] 95)) := by kernel_rfl

theorem rl_mk_P (p : Addr) (w : World) : (ReflectliteValue.mk 95 p ReflectliteValue.flagAddr).run Tryz.prog w = .ok (.agg #[.pointer (some ⟨0, 95, none⟩), .pointer (some p), .int .u64 406]) w := by kernel_rfl
theorem rls (v x : Value) : ReflectliteValue.set #[v, x] = (do
    let (some (dst, a, fl), some (src, b, _)) := (← ReflectliteValue.parts v, ← ReflectliteValue.parts x)
      | unsupported (.noEntry "extern/(internal/reflectlite.Value).Set.zeroValue")
    if fl / ReflectliteValue.flagAddr % 2 == 0 then unsupported (.noEntry "extern/(internal/reflectlite.Value).Set.unaddressable")
    let val ← loadVar src b
    if ← Rtype.directlyAssignable dst src then storeVar dst a val
    else if ← Rtype.implements dst src then
      if (← Rtype.kind src) == 20 then
        match val with
        | .nilIface => unsupported (.noEntry "extern/reflectlite: a nil value of one interface type handed on as a value of another")
        | _ => storeVar dst a val
      else storeVar dst a (.iface src val)
    else panicString ("reflectlite.Set: value of type " ++ (← Rtype.spelt src) ++ " is not assignable to type " ++ (← Rtype.spelt dst))
    pure (.tuple #[])) := rfl
theorem rl_partsa_P (a : Addr) (w : World) : (ReflectliteValue.parts (.agg #[.pointer (some ⟨0, 95, none⟩), .pointer (some a), .int .u64 406])).run Tryz.prog w = .ok (some (95, a, 406)) w := by kernel_rfl
theorem rl_parts_P (a : Addr) (w : World) : (ReflectliteValue.parts (.agg #[.pointer (some ⟨0, 95, none⟩), .pointer (some a), .int .u64 150])).run Tryz.prog w = .ok (some (95, a, 150)) w := by kernel_rfl
theorem rl_direct_P (w : World) : (Rtype.directlyAssignable 95 95).run Tryz.prog w = .ok true w := by kernel_rfl
theorem rl_size_P (w : World) : (sizeOf 95).run Tryz.prog w = .ok 1 w := by kernel_rfl
/-- (Value).Set: the *p.E variable at 'ta' gets what the Value's own variable 'b' holds. -/
theorem rl_set_P (ta b e : Addr) (old : Value) (W : World) (hb : W.cell? b = some (.pointer (some e))) (ht : W.cell? ta = some old) (hf : W.frozen? ta = false) :
    (ReflectliteValue.set #[.agg #[.pointer (some ⟨0, 95, none⟩), .pointer (some ta), .int .u64 406], .agg #[.pointer (some ⟨0, 95, none⟩), .pointer (some b), .int .u64 150]]).run Tryz.prog W
      = .ok (.tuple #[]) (W.setCell ta (.pointer (some e))) := by
  rw [rls]
  simp only [Sem.run_bind, rl_partsa_P, rl_parts_P, Result.andThen]
  simp [ReflectliteValue.flagAddr, loadVar, isAgg, underlying, Tryz.underlying95, hb, Result.andThen, rl_direct_P, storeVar, Value.cells, storeCells, Addr.add]
  rw [run_store Tryz.prog W ta _ _ (by rfl)]
  simp [ht, hf]

theorem rl_assignable_E (w : World) : (ReflectliteType.relation "AssignableTo" ReflectliteType.assignableTo #[.agg #[.pointer (some ⟨0, 57, none⟩)], .iface 109 (.agg #[.pointer (some ⟨0, 95, none⟩)])]).run Tryz.prog w = .ok (.bool false) w := by kernel_rfl

end

/-! IsA -/
section
open Go.RowKit

theorem toList_inj {a b : ByteArray} (h : a.toList = b.toList) : a = b := by
  rw [ByteArray.toList_eq, ByteArray.toList_eq] at h
  cases a; cases b
  simpa using h

/-- what pergolaalike.Is answers -/
def Er.isB (E : Er) (code : Int) (op : ByteArray) (id : Int) : Bool :=
  (E.code == code) && (code == 0 || match E with
    | .fault o i _ => decide (o = op) && (i == id)
    | _ => false)

end

/-! ViewBase -/
section
open Go.ChangeShapes Go.WideShapes Go.ChangeAt Go.RowKit

section
variable {H : Type} {enc : TypeId × Value → H} {W : World} {base : Nat} {v : Value} {d : DataW H} {p : List MemPlace}

theorem laidOut : laidOutB Tryz.prog = true := by kernel_rfl
theorem ownKnobs : ownKnob Tryz.prog.godebug = none := by kernel_rfl

/-- a type whose readings stay -/
def Stays (t : TypeId) : Prop := Tryz.prog.readableRec t = true ∧ t < Tryz.prog.types.size
theorem stays {t : TypeId} (h1 : Tryz.prog.readableRec t = true) (h2 : decide (t < Tryz.prog.types.size) = true) : Stays t := ⟨h1, of_decide_eq_true h2⟩

/-- WHAT THE ARGUMENTS READ AS BEHIND A CALL THAT WROTE NOTHING OLD. -/
theorem trodAll_below {W' : World} (hb : Below W.heap.size W W') (ts : List TypeId) : ∀ {vs : List Value} {ds : List (DataW H)} {p : List MemPlace},
    (∀ t ∈ ts, Stays t) →
    DataW.TrodAll enc Tryz.prog W 0 (fun _ => true) true ts vs ds p → DataW.TrodAll enc Tryz.prog W' 0 (fun b => decide (b < W.heap.size)) true ts vs ds p := by
  induction ts with
  | nil =>
    intro vs ds p _ h
    cases vs with
    | cons _ _ => exact h.elim
    | nil => cases ds with
      | cons _ _ => exact h.elim
      | nil => exact h
  | cons t ts ih =>
    intro vs ds p ht h
    obtain ⟨v, vs, d, ds, p, q, rfl, rfl, rfl, h0, h1⟩ := trodAll_cons h
    obtain ⟨r1, r2⟩ := ht t (List.mem_cons_self ..)
    refine trodAll_cons_mk (Below.trod laidOut r1 r2 h0 hb ?_) (ih (fun t' h' => ht t' (List.mem_cons_of_mem _ h')) h1)
    obtain ⟨m, hm⟩ := h0
    exact DataW.trod_lt m _ _ _ hm
end
end

/-! ViewPt -/
section
open Go.ChangeShapes Go.WideShapes Go.ChangeAt Go.RowKit

theorem pt_size : Tryz.prog.cellsOf 73 = 2 := by kernel_rfl
theorem box_size : Tryz.prog.cellsOf 75 = 4 := by kernel_rfl
theorem int_size : Tryz.prog.cellsOf 3 = 1 := by kernel_rfl

section
variable {H : Type} {enc : TypeId × Value → H} {W : World} {base : Nat} {v : Value} {d : DataW H} {p : List MemPlace}

set_option maxRecDepth 100000 in
theorem cells_pt {fuel : Nat} {cs : List Value} {x : DataW H × List MemPlace} (h : DataW.trod enc Tryz.prog W 0 (fun _ => true) true fuel 73 cs = some x) :
    ∃ a b : Int, cs = [.int .i64 a, .int .i64 b] ∧ (Lit.int .i64 a).wf = true ∧ (Lit.int .i64 b).wf = true := by
  obtain ⟨xs, n, rfl, hx, hl, hlen, hfs⟩ := DataW.trod_struct Tryz.underlying73 h
  rw [pt_size] at hl
  match cs, hl with
  | [c0, c1], _ =>
    have hl2 : xs.length = 2 := hlen
    have h0 : DataW.trod enc Tryz.prog W 0 (fun _ => true) true n 3 (([c0, c1].drop 0).take (Tryz.prog.cellsOf 3)) = xs[0]? := hfs 0 _ rfl
    have h1 : DataW.trod enc Tryz.prog W 0 (fun _ => true) true n 3 (([c0, c1].drop 1).take (Tryz.prog.cellsOf 3)) = xs[1]? := hfs 1 _ rfl
    rw [int_size] at h0 h1
    rw [List.getElem?_eq_getElem (by omega)] at h0 h1
    simp only [List.drop_zero, List.take_succ_cons, List.take_zero, List.drop_succ_cons] at h0 h1
    obtain ⟨k, e0, _, w0⟩ := DataW.trod_int Tryz.underlying3 h0
    obtain ⟨m, e1, _, w1⟩ := DataW.trod_int Tryz.underlying3 h1
    simp only [List.cons.injEq, and_true] at e0 e1
    subst e0 e1
    exact ⟨k, m, rfl, w0, w1⟩

set_option maxRecDepth 100000 in
theorem cells_box {fuel : Nat} {cs : List Value} {x : DataW H × List MemPlace} (h : DataW.trod enc Tryz.prog W 0 (fun _ => true) true fuel 75 cs = some x) :
    ∃ a b c d : Int, cs = [.int .i64 a, .int .i64 b, .int .i64 c, .int .i64 d] := by
  obtain ⟨xs, n, rfl, hx, hl, hlen, hfs⟩ := DataW.trod_struct Tryz.underlying75 h
  rw [box_size] at hl
  match cs, hl with
  | [c0, c1, c2, c3], _ =>
    have hl2 : xs.length = 2 := hlen
    have h0 : DataW.trod enc Tryz.prog W 0 (fun _ => true) true n 73 (([c0, c1, c2, c3].drop 0).take (Tryz.prog.cellsOf 73)) = xs[0]? := hfs 0 _ rfl
    have h1 : DataW.trod enc Tryz.prog W 0 (fun _ => true) true n 73 (([c0, c1, c2, c3].drop 2).take (Tryz.prog.cellsOf 73)) = xs[1]? := hfs 1 _ rfl
    rw [pt_size] at h0 h1
    rw [List.getElem?_eq_getElem (by omega)] at h0 h1
    simp only [List.drop_zero, List.take_succ_cons, List.take_zero, List.drop_succ_cons] at h0 h1
    obtain ⟨a, b, e0, _⟩ := cells_pt h0
    obtain ⟨a', b', e1, _⟩ := cells_pt h1
    simp only [List.cons.injEq, and_true] at e0 e1
    obtain ⟨rfl, rfl⟩ := e0
    obtain ⟨rfl, rfl⟩ := e1
    exact ⟨_, _, _, _, rfl⟩

set_option maxRecDepth 100000 in
theorem view_pt (o : Value.okWide Tryz.prog W .any base 73 v) (h : DataW.Trod enc Tryz.prog W 0 (fun _ => true) true 73 v d p) :
    ∃ a b : Int, v = .agg #[.int .i64 a, .int .i64 b] ∧ (Lit.int .i64 a).wf = true ∧ (Lit.int .i64 b).wf = true := by
  obtain ⟨cs, rfl, hsz⟩ := okWide_struct Tryz.underlying73 o
  obtain ⟨fuel, hf⟩ := h
  obtain ⟨a, b, hcs, w0, w1⟩ := cells_pt hf
  refine ⟨a, b, ?_, w0, w1⟩
  obtain ⟨l⟩ := cs
  simp [Value.cells] at hcs
  rw [hcs]
set_option maxRecDepth 100000 in
theorem view_box (o : Value.okWide Tryz.prog W .any base 75 v) (h : DataW.Trod enc Tryz.prog W 0 (fun _ => true) true 75 v d p) :
    ∃ a b c d : Int, v = .agg #[.int .i64 a, .int .i64 b, .int .i64 c, .int .i64 d] := by
  obtain ⟨cs, rfl, hsz⟩ := okWide_struct Tryz.underlying75 o
  obtain ⟨fuel, hf⟩ := h
  obtain ⟨a, b, c, d, hcs⟩ := cells_box hf
  refine ⟨a, b, c, d, ?_⟩
  obtain ⟨l⟩ := cs
  simp [Value.cells] at hcs
  rw [hcs]
end
end

end Go.Proofs.YtoggbmfjjenbaaaGreat
