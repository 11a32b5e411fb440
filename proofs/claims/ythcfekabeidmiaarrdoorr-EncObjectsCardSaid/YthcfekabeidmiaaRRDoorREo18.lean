/- errors.As at an error that is none, a number, or a Fault, and at a target of type **api.Fault. pergolaalike.Is: is an error just that number, and a Fault with that op and id? What the arguments read as behind a call that wrote nothing old. From the readings of points and boxes to their numbers. -/
import Derived.Test.YthcfekabeidmiaaRRDoorREo17
import Derived.Test.YthcfekabeidmiaaRRDoorRRows
import Derived.Test.YthcfekabeidmiaaRRDoorRChecked
import Derived.WalkKit
import Derived.ProofKit
import Derived.OpenShut
import Derived.ShutString
import Derived.ChangeOld
import Derived.Lib.SmallJoins
set_option linter.unusedSimpArgs false
set_option linter.unusedVariables false
namespace Go.Proofs.YthcfekabeidmiaaRRDoorR
/-! As -/
section
open Go.RowKit Go.Extern.Stop Go.Stop Go.Extern

/-- errors.As(nil, target). -/
theorem as_nil (t : Value) (w : World) :
    Calls Tryd.prog 25 #[.nilIface, t] w fun e w' => e = .returned (.bool false) ∧ w' = w := by
  go_enter Tryd.func25, Tryd.ntmps25
  go_wp2
  go_ret
  exact ⟨rfl, rfl⟩

/-! ### CLOSED FACTS ON THE MODEL's ENTRIES FOR internal/reflectlite, at this program's types: 25: *p.E · 27: **p.E · 23: error · 45: reflectlite's rtype · 1: how many package-level variables the dump has -/
theorem rl_valueOf_PP (t : Addr) (w : World) : (ReflectliteValue.unpack (.iface 63 (.pointer (some t)))).run Tryd.prog w
    = .ok (.agg #[.pointer (some ⟨1, 63, none⟩), .pointer (some ⟨w.heap.size, 0, none⟩), .int .u64 150]) (w.alloc (.cells #[.pointer (some t)] 63)) := by kernel_rfl
theorem rl_type_PP (a : Addr) (w : World) : (ReflectliteValue.methodAny (ReflectliteValue.valueError "reflectlite.Value.Type" 0) (fun t _ _ _ => ReflectliteType.toType t) #[.agg #[.pointer (some ⟨1, 63, none⟩), .pointer (some a), .int .u64 150]]).run Tryd.prog w
    = .ok (.iface 97 (.agg #[.pointer (some ⟨1, 63, none⟩)])) w := by kernel_rfl
theorem rl_methodKind (h : Value) (w : World) : (Go.method 253 97 (.agg #[h]) "Kind").run Tryd.prog w = .ok (87, h) w := by kernel_rfl
theorem rl_kind_PP (w : World) : ((ReflectliteType.abiMethod fun t => (fun a : Nat => Value.int IntKind.u8 (a : Int)) <$> Rtype.kind t) #[.pointer (some ⟨1, 63, none⟩)]).run Tryd.prog w = .ok (.int .u8 22) w := by kernel_rfl
theorem rl_kind_P (w : World) : ((ReflectliteType.abiMethod fun t => (fun a : Nat => Value.int IntKind.u8 (a : Int)) <$> Rtype.kind t) #[.pointer (some ⟨1, 61, none⟩)]).run Tryd.prog w = .ok (.int .u8 22) w := by kernel_rfl

/-! ### THE ENTRIES THAT READ OR WRITE MEMORY: laws with a premise on the cell (after Derived/Lib/ReflectliteSlice.lean's manner: each unfolding a lemma of its own, by rfl) -/
theorem rlm (z : Sem Value) (f : TypeId → Addr → Nat → Nat → Sem Value) (v : Value) :
    ReflectliteValue.method z f #[v] = (do match ← ReflectliteValue.parts v with | none => z | some (t, a, fl) => f t a fl (fl % 32)) := rfl
theorem rl_parts_PP (a : Addr) (w : World) : (ReflectliteValue.parts (.agg #[.pointer (some ⟨1, 63, none⟩), .pointer (some a), .int .u64 150])).run Tryd.prog w = .ok (some (63, a, 150)) w := by kernel_rfl
/-- (Value).IsNil at the Value of a **p.E that is not nil. -/
theorem rl_isNil_PP (a p : Addr) (W : World) (ha : W.cell? a = some (.pointer (some p))) :
    (ReflectliteValue.method (ReflectliteValue.valueError "reflectlite.Value.IsNil" 0) ReflectliteValue.isNil #[.agg #[.pointer (some ⟨1, 63, none⟩), .pointer (some a), .int .u64 150]]).run Tryd.prog W = .ok (.bool false) W := by
  rw [rlm]
  simp only [Sem.run_bind, rl_parts_PP, Result.andThen]
  simp [ReflectliteValue.isNil, loadVar, isAgg, underlying, Tryd.underlying63, ha, Result.andThen]

theorem rl_methodElem (h : Value) (w : World) : (Go.method 253 97 (.agg #[h]) "Elem").run Tryd.prog w = .ok (99, .agg #[h]) w := by kernel_rfl
theorem rl_methodImplements (h : Value) (w : World) : (Go.method 253 97 (.agg #[h]) "Implements").run Tryd.prog w = .ok (100, .agg #[h]) w := by kernel_rfl
theorem rl_methodAssignableTo (h : Value) (w : World) : (Go.method 253 97 (.agg #[h]) "AssignableTo").run Tryd.prog w = .ok (97, .agg #[h]) w := by kernel_rfl
theorem rl_elem_PP (w : World) : (ReflectliteType.method ReflectliteType.elem #[.agg #[.pointer (some ⟨1, 63, none⟩)]]).run Tryd.prog w = .ok (.iface 97 (.agg #[.pointer (some ⟨1, 61, none⟩)])) w := by kernel_rfl
theorem rl_implements_P (w : World) : (ReflectliteType.relation "Implements" ReflectliteType.implements_ #[.agg #[.pointer (some ⟨1, 61, none⟩)], .iface 97 (.agg #[.pointer (some ⟨1, 28, none⟩)])]).run Tryd.prog w = .ok (.bool true) w := by kernel_rfl
theorem rl_typeOf_P (v : Value) (w : World) : (ReflectliteType.typeOf #[.iface 61 v]).run Tryd.prog w = .ok (.iface 97 (.agg #[.pointer (some ⟨1, 61, none⟩)])) w := by kernel_rfl
theorem rl_assignable_P (w : World) : (ReflectliteType.relation "AssignableTo" ReflectliteType.assignableTo #[.agg #[.pointer (some ⟨1, 61, none⟩)], .iface 97 (.agg #[.pointer (some ⟨1, 61, none⟩)])]).run Tryd.prog w = .ok (.bool true) w := by kernel_rfl
theorem rl_valueOf_P (e : Addr) (w : World) : (ReflectliteValue.unpack (.iface 61 (.pointer (some e)))).run Tryd.prog w
    = .ok (.agg #[.pointer (some ⟨1, 61, none⟩), .pointer (some ⟨w.heap.size, 0, none⟩), .int .u64 150]) (w.alloc (.cells #[.pointer (some e)] 61)) := by kernel_rfl

theorem rl_elemOf_PP (w : World) : (Rtype.elem? 63).run Tryd.prog w = .ok (some 61) w := by kernel_rfl
theorem rl_mk_P (p : Addr) (w : World) : (ReflectliteValue.mk 61 p ReflectliteValue.flagAddr).run Tryd.prog w = .ok (.agg #[.pointer (some ⟨1, 61, none⟩), .pointer (some p), .int .u64 406]) w := by kernel_rfl
/-- (Value).Elem at the Value of a **p.E that is not nil: the Value of the *p.E variable that it points to, addressable. -/
theorem rl_elemV_PP (a p : Addr) (W : World) (ha : W.cell? a = some (.pointer (some p))) :
    (ReflectliteValue.method (ReflectliteValue.valueError "reflectlite.Value.Elem" 0) ReflectliteValue.elem #[.agg #[.pointer (some ⟨1, 63, none⟩), .pointer (some a), .int .u64 150]]).run Tryd.prog W
      = .ok (.agg #[.pointer (some ⟨1, 61, none⟩), .pointer (some p), .int .u64 406]) W := by
  rw [rlm]
  simp only [Sem.run_bind, rl_parts_PP, Result.andThen]
  simp [ReflectliteValue.elem, loadVar, isAgg, underlying, Tryd.underlying63, ha, Result.andThen, rl_elemOf_PP, rl_mk_P]
theorem rls (v x : Value) : ReflectliteValue.set #[v, x] = (do
    let (some (dst, a, fl), some (src, b, _)) := (← ReflectliteValue.parts v, ← ReflectliteValue.parts x)
      | unsupported (.noEntry "extern/(internal/reflectlite.Value).Set.zeroValue")
    if fl / ReflectliteValue.flagAddr % 2 == 0 then unsupported (.noEntry "extern/(internal/reflectlite.Value).Set.unaddressable")
    let val ← loadVar src b
    if ← Rtype.directlyAssignable dst src then storeVar dst a val
    else if ← Rtype.implements dst src then
      if (← Rtype.kind src) == 20 then
        match val with
        | .nilIface => unsupported (.noEntry "extern/reflectlite: a nil value of one interface type handed on as a value of another")
        | _ => storeVar dst a val
      else storeVar dst a (.iface src val)
    else panicString ("reflectlite.Set: value of type " ++ (← Rtype.spelt src) ++ " is not assignable to type " ++ (← Rtype.spelt dst))
    pure (.tuple #[])) := rfl
theorem rl_partsa_P (a : Addr) (w : World) : (ReflectliteValue.parts (.agg #[.pointer (some ⟨1, 61, none⟩), .pointer (some a), .int .u64 406])).run Tryd.prog w = .ok (some (61, a, 406)) w := by kernel_rfl
theorem rl_parts_P (a : Addr) (w : World) : (ReflectliteValue.parts (.agg #[.pointer (some ⟨1, 61, none⟩), .pointer (some a), .int .u64 150])).run Tryd.prog w = .ok (some (61, a, 150)) w := by kernel_rfl
theorem rl_direct_P (w : World) : (Rtype.directlyAssignable 61 61).run Tryd.prog w = .ok true w := by kernel_rfl
theorem rl_size_P (w : World) : (sizeOf 61).run Tryd.prog w = .ok 1 w := by kernel_rfl
/-- (Value).Set: the *p.E variable at 'ta' gets what the Value's own variable 'b' holds. -/
theorem rl_set_P (ta b e : Addr) (old : Value) (W : World) (hb : W.cell? b = some (.pointer (some e))) (ht : W.cell? ta = some old) (hf : W.frozen? ta = false) :
    (ReflectliteValue.set #[.agg #[.pointer (some ⟨1, 61, none⟩), .pointer (some ta), .int .u64 406], .agg #[.pointer (some ⟨1, 61, none⟩), .pointer (some b), .int .u64 150]]).run Tryd.prog W
      = .ok (.tuple #[]) (W.setCell ta (.pointer (some e))) := by
  rw [rls]
  simp only [Sem.run_bind, rl_partsa_P, rl_parts_P, Result.andThen]
  simp [ReflectliteValue.flagAddr, loadVar, isAgg, underlying, Tryd.underlying61, hb, Result.andThen, rl_direct_P, storeVar, Value.cells, storeCells, Addr.add]
  rw [run_store Tryd.prog W ta _ _ (by rfl)]
  simp [ht, hf]

set_option maxHeartbeats 4000000 in
theorem as_hit (e t : Addr) (old : Value) (w : World) (hg : w.cell? ⟨0, 0, none⟩ = some (.iface 97 (.agg #[.pointer (some ⟨1, 28, none⟩)]))) (ht0 : w.cell? t = some old) (hf0 : w.frozen? t = false) :
    Calls Tryd.prog 25 #[.iface 61 (.pointer (some e)), .iface 63 (.pointer (some t))] w fun ev w' => ev = .returned (.bool true) ∧ w' = ((((w.alloc (.cells #[.pointer (some t)] 63)).alloc (.cells #[.pointer (some ⟨1, 63, none⟩), .pointer (some ⟨w.heap.size, 0, none⟩), .int .u64 150] 82)).alloc (.cells #[.pointer (some ⟨1, 63, none⟩), .pointer (some ⟨w.heap.size, 0, none⟩), .int .u64 150] 82)).alloc (.cells #[.pointer (some e)] 61)).setCell t (.pointer (some e)) := by
  have h6 := @run_callFunc_extern Tryd.prog 35 _ (fun args => ReflectliteValue.unpack (args.getD 0 (.tuple #[]))) Tryd.func35 (by kernel_rfl) (by kernel_rfl) (by kernel_rfl) (by kernel_rfl)
  have h7 := @run_callFunc_extern Tryd.prog 36 _ (ReflectliteValue.methodAny (ReflectliteValue.valueError "reflectlite.Value.Type" 0) (fun t _ _ _ => ReflectliteType.toType t)) Tryd.func36 (by kernel_rfl) (by kernel_rfl) (by kernel_rfl) (by kernel_rfl)
  have h8 := @run_callFunc_extern Tryd.prog 37 _ (ReflectliteValue.method (ReflectliteValue.valueError "reflectlite.Value.IsNil" 0) ReflectliteValue.isNil) Tryd.func37 (by kernel_rfl) (by kernel_rfl) (by kernel_rfl) (by kernel_rfl)
  have h27 := @run_callFunc_extern Tryd.prog 87 _ (ReflectliteType.abiMethod fun t => do pure (.int .u8 (← Rtype.kind t))) Tryd.func87 (by kernel_rfl) (by kernel_rfl) (by kernel_rfl) (by kernel_rfl)
  have h37 := @run_callFunc_extern Tryd.prog 99 _ (ReflectliteType.method ReflectliteType.elem) Tryd.func99 (by kernel_rfl) (by kernel_rfl) (by kernel_rfl) (by kernel_rfl)
  have h38 := @run_callFunc_extern Tryd.prog 100 _ (ReflectliteType.relation "Implements" ReflectliteType.implements_) Tryd.func100 (by kernel_rfl) (by kernel_rfl) (by kernel_rfl) (by kernel_rfl)
  have h10 := @run_callFunc_extern Tryd.prog 33 _ ReflectliteType.typeOf Tryd.func33 (by kernel_rfl) (by kernel_rfl) (by kernel_rfl) (by kernel_rfl)
  have h35 := @run_callFunc_extern Tryd.prog 97 _ (ReflectliteType.relation "AssignableTo" ReflectliteType.assignableTo) Tryd.func97 (by kernel_rfl) (by kernel_rfl) (by kernel_rfl) (by kernel_rfl)
  have h11 := @run_callFunc_extern Tryd.prog 47 _ (ReflectliteValue.method (ReflectliteValue.valueError "reflectlite.Value.Elem" 0) ReflectliteValue.elem) Tryd.func47 (by kernel_rfl) (by kernel_rfl) (by kernel_rfl) (by kernel_rfl)
  have h12 := @run_callFunc_extern Tryd.prog 48 _ ReflectliteValue.set Tryd.func48 (by kernel_rfl) (by kernel_rfl) (by kernel_rfl) (by kernel_rfl)
  have tO := rl_typeOf_P
  have mA := rl_methodAssignableTo
  have a25 := rl_assignable_P
  have v25 := rl_valueOf_P
  have f6 := rl_valueOf_PP
  have f7 := rl_type_PP
  have mK := rl_methodKind
  have mE := rl_methodElem
  have mI := rl_methodImplements
  have k27 := rl_kind_PP
  have k25 := rl_kind_P
  have e27 := rl_elem_PP
  have i25 := rl_implements_P
  have n8 := rl_isNil_PP ⟨w.heap.size, 0, none⟩ t ((w.alloc (.cells #[.pointer (some t)] 63)).alloc (.cells #[.pointer (some ⟨1, 63, none⟩), .pointer (some ⟨w.heap.size, 0, none⟩), .int .u64 150] 82)) (by simp)
  have hlt : 0 < w.heap.size := by
    rcases Nat.eq_zero_or_pos w.heap.size with h0 | h
    · simp [World.cell?, h0] at hg
    · exact h
  have hg2 : ((w.alloc (.cells #[.pointer (some t)] 63)).alloc (.cells #[.pointer (some ⟨1, 63, none⟩), .pointer (some ⟨w.heap.size, 0, none⟩), .int .u64 150] 82)).cell? ⟨0, 0, none⟩ = some (.iface 97 (.agg #[.pointer (some ⟨1, 28, none⟩)])) := by
    rw [World.cell?_alloc_lt _ _ ⟨0, 0, none⟩ (by simp), World.cell?_alloc_lt _ _ ⟨0, 0, none⟩ hlt]; exact hg
  have htl : t.block < w.heap.size := by
    rcases Nat.lt_or_ge t.block w.heap.size with h | h
    · exact h
    · simp [World.cell?, Array.getElem?_eq_none h] at ht0
  have el := rl_elemV_PP ⟨w.heap.size, 0, none⟩ t (((w.alloc (.cells #[.pointer (some t)] 63)).alloc (.cells #[.pointer (some ⟨1, 63, none⟩), .pointer (some ⟨w.heap.size, 0, none⟩), .int .u64 150] 82)).alloc (.cells #[.pointer (some ⟨1, 63, none⟩), .pointer (some ⟨w.heap.size, 0, none⟩), .int .u64 150] 82)) (by rw [World.cell?_alloc_lt _ _ ⟨w.heap.size, 0, none⟩ (by simp; omega)]; simp)
  have st := rl_set_P t ⟨w.heap.size + 1 + 1 + 1, 0, none⟩ e old ((((w.alloc (.cells #[.pointer (some t)] 63)).alloc (.cells #[.pointer (some ⟨1, 63, none⟩), .pointer (some ⟨w.heap.size, 0, none⟩), .int .u64 150] 82)).alloc (.cells #[.pointer (some ⟨1, 63, none⟩), .pointer (some ⟨w.heap.size, 0, none⟩), .int .u64 150] 82)).alloc (.cells #[.pointer (some e)] 61))
    (by rw [World.cell?_alloc_at _ _ _ _ (by simp)]; rfl)
    (by rw [World.cell?_alloc_lt _ _ t (by simp; omega), World.cell?_alloc_lt _ _ t (by simp; omega), World.cell?_alloc_lt _ _ t (by simp; omega), World.cell?_alloc_lt _ _ t htl]; exact ht0)
    (by rw [World.frozen?_alloc_old _ _ t (by simp; omega), World.frozen?_alloc_old _ _ t (by simp; omega), World.frozen?_alloc_old _ _ t (by simp; omega), World.frozen?_alloc_old _ _ t (Nat.ne_of_lt htl)]; exact hf0)
  go_enter Tryd.func25, Tryd.ntmps25
  go_wp2
  refine wp_loop_rounds 1 ?_
  rw [rounds_succ]
  go_wp2
  go_ret
  exact ⟨rfl, rfl⟩

theorem noAsE (v : Value) (xT : TypeId) (w : World) : (Instr.typeAssert (.iface 54 v) xT 109 true).run Tryd.prog w = .ok (.tuple #[.nilIface, .bool false]) w := run_typeAssert_lacksB Tryd.underlying109 (by kernel_rfl) (by kernel_rfl) v xT w
theorem rl_assignable_E (w : World) : (ReflectliteType.relation "AssignableTo" ReflectliteType.assignableTo #[.agg #[.pointer (some ⟨1, 54, none⟩)], .iface 97 (.agg #[.pointer (some ⟨1, 61, none⟩)])]).run Tryd.prog w = .ok (.bool false) w := by kernel_rfl

/-- what the package-level variable errors.errorType holds -/
def ErrT (w : World) : Prop := w.cell? ⟨0, 0, none⟩ = some (.iface 97 (.agg #[.pointer (some ⟨1, 28, none⟩)]))
theorem ErrT.lt {w : World} (h : ErrT w) : 0 < w.heap.size := by
  have := World.block_lt_of_cell? w _ h
  exact Nat.lt_of_le_of_lt (Nat.zero_le _) this
theorem ErrT.below {w w' : World} {B : Nat} (h : ErrT w) (hb : Below B w w') (hB : 0 < B) : ErrT w' := (hb.cell (p := ⟨0, 0, none⟩) hB).trans h

set_option maxHeartbeats 4000000 in
theorem as_num (k : Int) (t : Addr) (w : World) (hg : ErrT w) :
    Calls Tryd.prog 25 #[.iface 54 (.int .i64 k), .iface 63 (.pointer (some t))] w fun ev w' => ev = .returned (.bool false) ∧ Below w.heap.size w w' := by
  have h6 := @run_callFunc_extern Tryd.prog 35 _ (fun args => ReflectliteValue.unpack (args.getD 0 (.tuple #[]))) Tryd.func35 (by kernel_rfl) (by kernel_rfl) (by kernel_rfl) (by kernel_rfl)
  have h7 := @run_callFunc_extern Tryd.prog 36 _ (ReflectliteValue.methodAny (ReflectliteValue.valueError "reflectlite.Value.Type" 0) (fun t _ _ _ => ReflectliteType.toType t)) Tryd.func36 (by kernel_rfl) (by kernel_rfl) (by kernel_rfl) (by kernel_rfl)
  have h8 := @run_callFunc_extern Tryd.prog 37 _ (ReflectliteValue.method (ReflectliteValue.valueError "reflectlite.Value.IsNil" 0) ReflectliteValue.isNil) Tryd.func37 (by kernel_rfl) (by kernel_rfl) (by kernel_rfl) (by kernel_rfl)
  have h27 := @run_callFunc_extern Tryd.prog 87 _ (ReflectliteType.abiMethod fun t => do pure (.int .u8 (← Rtype.kind t))) Tryd.func87 (by kernel_rfl) (by kernel_rfl) (by kernel_rfl) (by kernel_rfl)
  have h37 := @run_callFunc_extern Tryd.prog 99 _ (ReflectliteType.method ReflectliteType.elem) Tryd.func99 (by kernel_rfl) (by kernel_rfl) (by kernel_rfl) (by kernel_rfl)
  have h38 := @run_callFunc_extern Tryd.prog 100 _ (ReflectliteType.relation "Implements" ReflectliteType.implements_) Tryd.func100 (by kernel_rfl) (by kernel_rfl) (by kernel_rfl) (by kernel_rfl)
  have h10 := @run_callFunc_extern Tryd.prog 33 _ ReflectliteType.typeOf Tryd.func33 (by kernel_rfl) (by kernel_rfl) (by kernel_rfl) (by kernel_rfl)
  have h35 := @run_callFunc_extern Tryd.prog 97 _ (ReflectliteType.relation "AssignableTo" ReflectliteType.assignableTo) Tryd.func97 (by kernel_rfl) (by kernel_rfl) (by kernel_rfl) (by kernel_rfl)
  have tO := isTypeOf
  have mA := rl_methodAssignableTo
  have a25 := rl_assignable_E
  have f6 := rl_valueOf_PP
  have f7 := rl_type_PP
  have mK := rl_methodKind
  have mE := rl_methodElem
  have mI := rl_methodImplements
  have k27 := rl_kind_PP
  have k25 := rl_kind_P
  have e27 := rl_elem_PP
  have i25 := rl_implements_P
  have aE := noAsE
  have uE := noUnwrapE
  have vE := noUnwrapsE
  have n8 := rl_isNil_PP ⟨w.heap.size, 0, none⟩ t ((w.alloc (.cells #[.pointer (some t)] 63)).alloc (.cells #[.pointer (some ⟨1, 63, none⟩), .pointer (some ⟨w.heap.size, 0, none⟩), .int .u64 150] 82)) (by simp)
  have hlt := hg.lt
  have hg2 : ((w.alloc (.cells #[.pointer (some t)] 63)).alloc (.cells #[.pointer (some ⟨1, 63, none⟩), .pointer (some ⟨w.heap.size, 0, none⟩), .int .u64 150] 82)).cell? ⟨0, 0, none⟩ = some (.iface 97 (.agg #[.pointer (some ⟨1, 28, none⟩)])) := by
    rw [World.cell?_alloc_lt _ _ ⟨0, 0, none⟩ (by simp), World.cell?_alloc_lt _ _ ⟨0, 0, none⟩ hlt]; exact hg
  clear hg
  go_enter Tryd.func25, Tryd.ntmps25
  go_wp2
  refine wp_loop_rounds 1 ?_
  rw [rounds_succ]
  go_wp2
  go_ret
  exact ⟨rfl, by repeat (first | exact Below.refl _ _ | refine Below.alloc ?_ (by simp; try omega) _)⟩

theorem As_fault (b : Nat) (t : Addr) (old : Value) (w : World) (hg : ErrT w) (ht0 : w.cell? t = some old) (hf0 : w.frozen? t = false) :
    Calls Tryd.prog 25 #[.iface 61 (.pointer (some ⟨b, 0, none⟩)), .iface 63 (.pointer (some t))] w fun ev w' => ev = .returned (.bool true) ∧ w'.cell? t = some (.pointer (some ⟨b, 0, none⟩)) ∧ Below t.block w w' := by
  have hlt := World.block_lt_of_cell? w _ ht0
  refine (as_hit ⟨b, 0, none⟩ t old w hg ht0 hf0).mono fun e w' ⟨h1, h2⟩ => ⟨h1, ?_, ?_⟩
  · rw [h2]
    refine World.cell?_setCell_same _ t _ (u := old) ?_
    have hb := ((((Below.refl w.heap.size w).alloc (Nat.le_refl _) (.cells #[.pointer (some t)] 63)).alloc (by simp) (.cells #[.pointer (some ⟨1, 63, none⟩), .pointer (some ⟨w.heap.size, 0, none⟩), .int .u64 150] 82)).alloc (by simp; omega) (.cells #[.pointer (some ⟨1, 63, none⟩), .pointer (some ⟨w.heap.size, 0, none⟩), .int .u64 150] 82)).alloc (by simp; omega) (.cells #[.pointer (some ⟨b, 0, none⟩)] 61)
    exact (hb.cell hlt).trans ht0
  · rw [h2]
    exact ((((((Below.refl _ _).alloc (by omega) _).alloc (by simp; omega) _).alloc (by simp; omega) _).alloc (by simp; omega) _)).setCell (Nat.le_refl _) _
end

/-! IsA -/
section
open Go.RowKit

theorem toList_inj {a b : ByteArray} (h : a.toList = b.toList) : a = b := by
  rw [ByteArray.toList_eq, ByteArray.toList_eq] at h
  cases a; cases b
  simpa using h

/-- what pergolaalike.Is answers -/
def Er.isB (E : Er) (code : Int) (op : ByteArray) (id : Int) : Bool :=
  (E.code == code) && (code == 0 || match E with
    | .fault o i _ => decide (o = op) && (i == id)
    | _ => false)

theorem IsA_any (E : Er) (code : Int) (op : ByteArray) (id : Int) (v : Value) (w : World) (hv : E.Is w v) (hg : ErrT w) :
    Calls Tryd.prog 12 #[v, .int .i64 code, .string op, .int .i64 id] w fun e w' => e = .returned (.bool (E.isB code op id)) ∧ Below w.heap.size w w' := by
  by_cases hc : E.code = code
  · by_cases h0 : code = 0
    · have hfin : E.isB code op id = true := by simp [Er.isB, hc, h0]
      have HF := Lib.hid hfin
      clear hfin
      subst h0
      generalize hx : E.code = x at *
      have HX := Lib.hid hx
      clear hx
      subst hc
      go_enter Tryd.func12, Tryd.ntmps12
      go_wp2_with (go_at_call 10; refine (Code_er _ _ _ hv).mono ?_; rw [HX.out]; rintro e w' ⟨rfl, rfl⟩)
      go_ret
      exact ⟨by rw [HF.out]; rfl, Below.refl _ _⟩
    · have b0 : (code == 0) = false := by simpa using h0
      have b1 : (code != code) = false := by simp
      have HC := Lib.hid hc
      cases E with
      | none => exact absurd hc.symm h0
      | num j =>
        have hfin : (Er.num j).isB code op id = false := by simp [Er.isB, b0]
        have HF := Lib.hid hfin
        clear hfin hc h0
        obtain rfl : v = .iface 54 (.int .i64 j) := hv
        have hv : Er.Is w (Er.num j) (.iface 54 (.int .i64 j)) := rfl
        have hg1 : ErrT (w.alloc (.cells #[.pointer none] 61)) := hg.below ((Below.refl _ _).alloc (Nat.le_refl _) _) hg.lt
        go_enter Tryd.func12, Tryd.ntmps12
        go_wp2_with (first
          | (go_at_call 10; refine (Code_er _ _ _ hv).mono ?_; rw [HC.out]; rintro e w' ⟨rfl, rfl⟩)
          | (go_at_call 25; refine (as_num j _ _ hg1).mono ?_; rintro e w2 ⟨rfl, hb2⟩))
        go_ret
        exact ⟨by rw [HF.out]; rfl, ((Below.refl _ _).alloc (Nat.le_refl _) _).trans (hb2.mono (by simp))⟩
      | fault o i inner =>
        have hv' := hv
        obtain ⟨b, u, rfl, hlt, q1, q2, q3, q4⟩ := hv'
        have hg1 : ErrT (w.alloc (.cells #[.pointer none] 61)) := hg.below ((Below.refl _ _).alloc (Nat.le_refl _) _) hg.lt
        by_cases ho : o = op
        · by_cases hi : i = id
          · have hfin : (Er.fault o i inner).isB code op id = true := by subst ho hi; simp [Er.isB, hc]
            have HF := Lib.hid hfin
            clear hfin hc h0
            subst ho hi
            go_enter Tryd.func12, Tryd.ntmps12
            go_wp2_with (first
              | (go_at_call 10; refine (Code_er _ _ _ hv).mono ?_; rw [HC.out]; rintro e w' ⟨rfl, rfl⟩)
              | (go_at_call 25; refine (As_fault b _ (.pointer none) _ hg1 (by simp) (by simp)).mono ?_; rintro e w2 ⟨rfl, hc2, hb2⟩; have r1 := (hb2.cell (p := ⟨b, 0, none⟩) hlt).trans ((World.cell?_alloc_lt _ _ ⟨b, 0, none⟩ hlt).trans q1); have r2 := (hb2.cell (p := ⟨b, 1, none⟩) hlt).trans ((World.cell?_alloc_lt _ _ ⟨b, 1, none⟩ hlt).trans q2)))
            go_ret
            exact ⟨by rw [HF.out]; rfl, ((Below.refl _ _).alloc (Nat.le_refl _) _).trans hb2⟩
          · have hfin : (Er.fault o i inner).isB code op id = false := by simp [Er.isB, b0, hi]
            have HF := Lib.hid hfin
            have bi : (i == id) = false := by simpa using hi
            clear hfin hc h0 hi
            subst ho
            go_enter Tryd.func12, Tryd.ntmps12
            go_wp2_with (first
              | (go_at_call 10; refine (Code_er _ _ _ hv).mono ?_; rw [HC.out]; rintro e w' ⟨rfl, rfl⟩)
              | (go_at_call 25; refine (As_fault b _ (.pointer none) _ hg1 (by simp) (by simp)).mono ?_; rintro e w2 ⟨rfl, hc2, hb2⟩; have r1 := (hb2.cell (p := ⟨b, 0, none⟩) hlt).trans ((World.cell?_alloc_lt _ _ ⟨b, 0, none⟩ hlt).trans q1); have r2 := (hb2.cell (p := ⟨b, 1, none⟩) hlt).trans ((World.cell?_alloc_lt _ _ ⟨b, 1, none⟩ hlt).trans q2)))
            go_ret
            exact ⟨by rw [HF.out]; rfl, ((Below.refl _ _).alloc (Nat.le_refl _) _).trans hb2⟩
        · have hfin : (Er.fault o i inner).isB code op id = false := by simp [Er.isB, b0, ho]
          have HF := Lib.hid hfin
          have bo : (o.toList == op.toList) = false := by simpa using fun h => ho (toList_inj h)
          clear hfin hc h0 ho
          go_enter Tryd.func12, Tryd.ntmps12
          go_wp2_with (first
            | (go_at_call 10; refine (Code_er _ _ _ hv).mono ?_; rw [HC.out]; rintro e w' ⟨rfl, rfl⟩)
            | (go_at_call 25; refine (As_fault b _ (.pointer none) _ hg1 (by simp) (by simp)).mono ?_; rintro e w2 ⟨rfl, hc2, hb2⟩; have r1 := (hb2.cell (p := ⟨b, 0, none⟩) hlt).trans ((World.cell?_alloc_lt _ _ ⟨b, 0, none⟩ hlt).trans q1); have r2 := (hb2.cell (p := ⟨b, 1, none⟩) hlt).trans ((World.cell?_alloc_lt _ _ ⟨b, 1, none⟩ hlt).trans q2)))
          go_ret
          exact ⟨by rw [HF.out]; rfl, ((Below.refl _ _).alloc (Nat.le_refl _) _).trans hb2⟩
  · have hfin : E.isB code op id = false := by simp [Er.isB, hc]
    have b1 : (E.code != code) = true := by simpa using hc
    have HF := Lib.hid hfin
    generalize hx : E.code = x at *
    have HX := Lib.hid hx
    clear hfin hc hx
    go_enter Tryd.func12, Tryd.ntmps12
    go_wp2_with (go_at_call 10; refine (Code_er _ _ _ hv).mono ?_; rw [HX.out]; rintro e w' ⟨rfl, rfl⟩)
    go_ret
    exact ⟨by rw [HF.out]; rfl, Below.refl _ _⟩
end

/-! ViewBase -/
section
open Go.ChangeShapes Go.WideShapes Go.ChangeAt Go.RowKit

section
variable {H : Type} {enc : TypeId × Value → H} {W : World} {base : Nat} {v : Value} {d : DataW H} {p : List MemPlace}

theorem laidOut : laidOutB Tryd.prog = true := by kernel_rfl
theorem ownKnobs : ownKnob Tryd.prog.godebug = none := by kernel_rfl

/-- a type whose readings stay -/
def Stays (t : TypeId) : Prop := Tryd.prog.readableRec t = true ∧ t < Tryd.prog.types.size
theorem stays {t : TypeId} (h1 : Tryd.prog.readableRec t = true) (h2 : decide (t < Tryd.prog.types.size) = true) : Stays t := ⟨h1, of_decide_eq_true h2⟩

/-- WHAT THE ARGUMENTS READ AS BEHIND A CALL THAT WROTE NOTHING OLD. -/
theorem trodAll_below {W' : World} (hb : Below W.heap.size W W') (ts : List TypeId) : ∀ {vs : List Value} {ds : List (DataW H)} {p : List MemPlace},
    (∀ t ∈ ts, Stays t) →
    DataW.TrodAll enc Tryd.prog W 0 (fun _ => true) true ts vs ds p → DataW.TrodAll enc Tryd.prog W' 0 (fun b => decide (b < W.heap.size)) true ts vs ds p := by
  induction ts with
  | nil =>
    intro vs ds p _ h
    cases vs with
    | cons _ _ => exact h.elim
    | nil => cases ds with
      | cons _ _ => exact h.elim
      | nil => exact h
  | cons t ts ih =>
    intro vs ds p ht h
    obtain ⟨v, vs, d, ds, p, q, rfl, rfl, rfl, h0, h1⟩ := trodAll_cons h
    obtain ⟨r1, r2⟩ := ht t (List.mem_cons_self ..)
    refine trodAll_cons_mk (Below.trod laidOut r1 r2 h0 hb ?_) (ih (fun t' h' => ht t' (List.mem_cons_of_mem _ h')) h1)
    obtain ⟨m, hm⟩ := h0
    exact DataW.trod_lt m _ _ _ hm
end
end

/-! ViewPt -/
section
open Go.ChangeShapes Go.WideShapes Go.ChangeAt Go.RowKit

theorem pt_size : Tryd.prog.cellsOf 43 = 2 := by kernel_rfl
theorem box_size : Tryd.prog.cellsOf 70 = 4 := by kernel_rfl
theorem int_size : Tryd.prog.cellsOf 3 = 1 := by kernel_rfl

section
variable {H : Type} {enc : TypeId × Value → H} {W : World} {base : Nat} {v : Value} {d : DataW H} {p : List MemPlace}

set_option maxRecDepth 100000 in
theorem cells_pt {fuel : Nat} {cs : List Value} {x : DataW H × List MemPlace} (h : DataW.trod enc Tryd.prog W 0 (fun _ => true) true fuel 43 cs = some x) :
    ∃ a b : Int, cs = [.int .i64 a, .int .i64 b] ∧ (Lit.int .i64 a).wf = true ∧ (Lit.int .i64 b).wf = true := by
  obtain ⟨xs, n, rfl, hx, hl, hlen, hfs⟩ := DataW.trod_struct Tryd.underlying43 h
  rw [pt_size] at hl
  match cs, hl with
  | [c0, c1], _ =>
    have hl2 : xs.length = 2 := hlen
    have h0 : DataW.trod enc Tryd.prog W 0 (fun _ => true) true n 3 (([c0, c1].drop 0).take (Tryd.prog.cellsOf 3)) = xs[0]? := hfs 0 _ rfl
    have h1 : DataW.trod enc Tryd.prog W 0 (fun _ => true) true n 3 (([c0, c1].drop 1).take (Tryd.prog.cellsOf 3)) = xs[1]? := hfs 1 _ rfl
    rw [int_size] at h0 h1
    rw [List.getElem?_eq_getElem (by omega)] at h0 h1
    simp only [List.drop_zero, List.take_succ_cons, List.take_zero, List.drop_succ_cons] at h0 h1
    obtain ⟨k, e0, _, w0⟩ := DataW.trod_int Tryd.underlying3 h0
    obtain ⟨m, e1, _, w1⟩ := DataW.trod_int Tryd.underlying3 h1
    simp only [List.cons.injEq, and_true] at e0 e1
    subst e0 e1
    exact ⟨k, m, rfl, w0, w1⟩

set_option maxRecDepth 100000 in
theorem cells_box {fuel : Nat} {cs : List Value} {x : DataW H × List MemPlace} (h : DataW.trod enc Tryd.prog W 0 (fun _ => true) true fuel 70 cs = some x) :
    ∃ a b c d : Int, cs = [.int .i64 a, .int .i64 b, .int .i64 c, .int .i64 d] := by
  obtain ⟨xs, n, rfl, hx, hl, hlen, hfs⟩ := DataW.trod_struct Tryd.underlying70 h
  rw [box_size] at hl
  match cs, hl with
  | [c0, c1, c2, c3], _ =>
    have hl2 : xs.length = 2 := hlen
    have h0 : DataW.trod enc Tryd.prog W 0 (fun _ => true) true n 43 (([c0, c1, c2, c3].drop 0).take (Tryd.prog.cellsOf 43)) = xs[0]? := hfs 0 _ rfl
    have h1 : DataW.trod enc Tryd.prog W 0 (fun _ => true) true n 43 (([c0, c1, c2, c3].drop 2).take (Tryd.prog.cellsOf 43)) = xs[1]? := hfs 1 _ rfl
    rw [pt_size] at h0 h1
    rw [List.getElem?_eq_getElem (by omega)] at h0 h1
    simp only [List.drop_zero, List.take_succ_cons, List.take_zero, List.drop_succ_cons] at h0 h1
    obtain ⟨a, b, e0, _⟩ := cells_pt h0
    obtain ⟨a', b', e1, _⟩ := cells_pt h1
    simp only [List.cons.injEq, and_true] at e0 e1
    obtain ⟨rfl, rfl⟩ := e0
    obtain ⟨rfl, rfl⟩ := e1
    exact ⟨_, _, _, _, rfl⟩

set_option maxRecDepth 100000 in
theorem view_pt (o : Value.okWide Tryd.prog W .any base 43 v) (h : DataW.Trod enc Tryd.prog W 0 (fun _ => true) true 43 v d p) :
    ∃ a b : Int, v = .agg #[.int .i64 a, .int .i64 b] ∧ (Lit.int .i64 a).wf = true ∧ (Lit.int .i64 b).wf = true := by
  obtain ⟨cs, rfl, hsz⟩ := okWide_struct Tryd.underlying43 o
  obtain ⟨fuel, hf⟩ := h
  obtain ⟨a, b, hcs, w0, w1⟩ := cells_pt hf
  refine ⟨a, b, ?_, w0, w1⟩
  obtain ⟨l⟩ := cs
  simp [Value.cells] at hcs
  rw [hcs]
set_option maxRecDepth 100000 in
theorem view_box (o : Value.okWide Tryd.prog W .any base 70 v) (h : DataW.Trod enc Tryd.prog W 0 (fun _ => true) true 70 v d p) :
    ∃ a b c d : Int, v = .agg #[.int .i64 a, .int .i64 b, .int .i64 c, .int .i64 d] := by
  obtain ⟨cs, rfl, hsz⟩ := okWide_struct Tryd.underlying70 o
  obtain ⟨fuel, hf⟩ := h
  obtain ⟨a, b, c, d, hcs⟩ := cells_box hf
  refine ⟨a, b, c, d, ?_⟩
  obtain ⟨l⟩ := cs
  simp [Value.cells] at hcs
  rw [hcs]
end
end

end Go.Proofs.YthcfekabeidmiaaRRDoorR
