/- errors.Is(e, number) at any error that is none, a number, or a Fault that wraps such. -/
import Derived.Test.YtdeibgljibcnlaaDoorEr
import Derived.LaidEql
import Derived.Stop.Asserts
import Derived.RowKitTokens
import Derived.Deep.LoopGhost
namespace Go.Proofs.YtdeibgljibcnlaaDoor
open Go.RowKit Go.Extern.Stop Go.Stop Go.Extern

/-! ### equality of two interface values of one integer type -/
section
variable {P : Program} (w : World)
theorem run_equalIn_iface_int (d : Nat) {ti tn : TypeId} {ms : Array (String × TypeId)} {i : TypeInfo} {k : IntKind} (a b : Int)
    (hi : P.underlying ti = some (.interface ms)) (hn : P.underlying tn = some (.int k)) (hinfo : P.info? tn = some i) (hcomp : i.comparable = true) :
    (Op.equalIn (d + 2) ti (.iface tn (.int k a)) (.iface tn (.int k b))).run P w = .ok (a == b) w := by
  simp [Op.equalIn, run_underlying hi, run_underlying hn, typeInfo, hinfo, hcomp]
theorem run_eql_iface_int {ti tn : TypeId} {ms : Array (String × TypeId)} {i : TypeInfo} {k : IntKind} (a b : Int)
    (hi : P.underlying ti = some (.interface ms)) (hn : P.underlying tn = some (.int k)) (hinfo : P.info? tn = some i) (hcomp : i.comparable = true) :
    (binOp .eql ti (.iface tn (.int k a)) (.iface tn (.int k b))).run P w = .ok (.bool (a == b)) w := by
  simp only [binOp]
  simp [Op.equal, Op.maxDepth, run_equalIn_iface_int w 9998 a b hi hn hinfo hcomp]
end

/-! ### closed facts -/
theorem isTypeOf (v : Value) (w : World) : (Extern.ReflectliteType.typeOf #[.iface 58 v]).run Tryd.prog w = .ok (.iface 109 (.agg #[.pointer (some ⟨1, 58, none⟩)])) w := by kernel_rfl
def comparableFn : Array Value → Sem Value := Extern.ReflectliteType.method fun t => do Extern.Rtype.noPackHeld "Comparable" t; pure (.bool (← typeInfo t).comparable)
theorem isComparable (w : World) : (comparableFn #[.agg #[.pointer (some ⟨1, 58, none⟩)]]).run Tryd.prog w = .ok (.bool true) w := by kernel_rfl
theorem isMethodComparable (v : Value) (w : World) : (Go.method 252 109 v "Comparable").run Tryd.prog w = .ok (89, v) w := by kernel_rfl
theorem isComp : (Tryd.prog.info? 58).map (·.comparable) = some true := by kernel_rfl
theorem noIsE (v : Value) (xT : TypeId) (w : World) : (Instr.typeAssert (.iface 58 v) xT 121 true).run Tryd.prog w = .ok (.tuple #[.nilIface, .bool false]) w := run_typeAssert_lacksB Tryd.underlying121 (by kernel_rfl) (by kernel_rfl) v xT w
theorem noUnwrapE (v : Value) (xT : TypeId) (w : World) : (Instr.typeAssert (.iface 58 v) xT 116 true).run Tryd.prog w = .ok (.tuple #[.nilIface, .bool false]) w := run_typeAssert_lacksB Tryd.underlying116 (by kernel_rfl) (by kernel_rfl) v xT w
theorem noUnwrapsE (v : Value) (xT : TypeId) (w : World) : (Instr.typeAssert (.iface 58 v) xT 118 true).run Tryd.prog w = .ok (.tuple #[.nilIface, .bool false]) w := run_typeAssert_lacksB Tryd.underlying118 (by kernel_rfl) (by kernel_rfl) v xT w
theorem noIsW (v : Value) (xT : TypeId) (w : World) : (Instr.typeAssert (.iface 69 v) xT 121 true).run Tryd.prog w = .ok (.tuple #[.nilIface, .bool false]) w := run_typeAssert_lacksB Tryd.underlying121 (by kernel_rfl) (by kernel_rfl) v xT w
theorem hasUnwrapW (v : Value) (xT : TypeId) (w : World) : (Instr.typeAssert (.iface 69 v) xT 116 true).run Tryd.prog w = .ok (.tuple #[.iface 69 v, .bool true]) w := run_typeAssert_hasB Tryd.underlying116 (by kernel_rfl) v xT w
theorem methodUnwrap (v : Value) (w : World) : (Go.method 252 69 v "Unwrap").run Tryd.prog w = .ok (83, v) w := by kernel_rfl

/-- (*Fault).Unwrap at a Fault that is not nil -/
theorem Unwrap_some (b : Nat) (u : Value) (w : World) (h : w.cell? ⟨b, 2, none⟩ = some u) :
    Calls Tryd.prog 83 #[.pointer (some ⟨b, 0, none⟩)] w fun e w' => e = .returned u ∧ w = w' := by
  go_enter Tryd.func83, Tryd.ntmps83
  go_wp2
  go_ret
  exact ⟨rfl, rfl⟩

/-- does an error hold that number? -/
def Er.has : Er → Int → Bool
  | .none, _ => false
  | .num j, k => j == k
  | .fault _ _ e, k => e.has k
def Er.depth : Er → Nat
  | .fault _ _ e => e.depth + 1
  | _ => 0

theorem is_loop (E : Er) (k : Int) (v : Value) (w : World) (hv : E.Is w v) (hn : E ≠ .none) :
    Calls Tryd.prog 61 #[v, .iface 58 (.int .i64 k), .bool true] w fun e w' => e = .returned (.bool (E.has k)) ∧ w = w' := by
  obtain ⟨i, hi, hcmp⟩ := Option.map_eq_some_iff.1 isComp
  have nE := noIsE
  have uE := noUnwrapE
  have vE := noUnwrapsE
  have nW := noIsW
  have uW := hasUnwrapW
  have mU := methodUnwrap
  have HV := Lib.hid hv
  go_enter Tryd.func61, Tryd.ntmps61
  go_wp2
  go_loopg [0] E.depth (fun n u wr => w = wr ∧ ∃ e : Er, Er.Is w e u ∧ e.depth ≤ n ∧ Hid (e ≠ .none ∧ e.has k = E.has k))
  case atStart => exact ⟨rfl, E, hv, Nat.le_refl _, hn, rfl⟩
  case round =>
    obtain ⟨rfl, e, he, hd, hh⟩ := hrel
    cases e with
    | none => exact (hh.out.1 rfl).elim
    | num j =>
      obtain rfl := he
      have heq := run_eql_iface_int (P := Tryd.prog) w j k Tryd.underlying25 Tryd.underlying58 hi hcmp
      cases hjk : j == k with
      | true =>
        have hfin : E.has k = true := by rw [← hh.out.2]; exact hjk
        go_wp2
        go_ret
        exact ⟨by rw [hfin]; rfl, rfl⟩
      | false =>
        have hfin : E.has k = false := by rw [← hh.out.2]; exact hjk
        go_wp2
        go_ret
        exact ⟨by rw [hfin]; rfl, rfl⟩
    | fault op id inner =>
      obtain ⟨b, x, rfl, hlt, h1, h2, h3, h4⟩ := he
      have hty := run_eql_iface_types (P := Tryd.prog) 69 58 (.pointer (some ⟨b, 0, none⟩)) (.int .i64 k) Tryd.underlying25 (by decide) w
      have hd' : inner.depth < gk := hd
      cases inner with
      | none =>
        obtain rfl : x = .nilIface := h4
        have hfin : E.has k = false := by rw [← hh.out.2]; rfl
        go_wp2_with (go_at_call 83; refine (Unwrap_some b _ _ h3).mono ?_; rintro e w' ⟨rfl, rfl⟩)
        go_ret
        exact ⟨by rw [hfin]; rfl, rfl⟩
      | num j =>
        obtain rfl : x = .iface 58 (.int .i64 j) := h4
        have hh' : Hid ((Er.num j) ≠ .none ∧ (Er.num j).has k = E.has k) := ⟨(fun h => by cases h), hh.out.2⟩
        go_wp2_with (go_at_call 83; refine (Unwrap_some b _ _ h3).mono ?_; rintro e w' ⟨rfl, rfl⟩)
        go_roundg (Er.num j).depth
        case measure => exact hd'
        case rel => exact ⟨rfl, Er.num j, rfl, Nat.le_refl _, hh'⟩
      | fault op' id' inner' =>
        obtain ⟨b', x', hx, rest⟩ := h4
        have hh' : Hid ((Er.fault op' id' inner') ≠ .none ∧ (Er.fault op' id' inner').has k = E.has k) := ⟨(fun h => by cases h), hh.out.2⟩
        subst hx
        go_wp2_with (go_at_call 83; refine (Unwrap_some b _ _ h3).mono ?_; rintro e w' ⟨rfl, rfl⟩)
        go_roundg (Er.fault op' id' inner').depth
        case measure => exact hd'
        case rel => exact ⟨rfl, Er.fault op' id' inner', ⟨b', x', rfl, rest⟩, Nat.le_refl _, hh'⟩

/-- errors.Is(e, number) -/
theorem Is_er (E : Er) (k : Int) (v : Value) (w : World) (hv : E.Is w v) :
    Calls Tryd.prog 52 #[v, .iface 58 (.int .i64 k)] w fun e w' => e = .returned (.bool (E.has k)) ∧ w = w' := by
  have h8 := @run_callFunc_extern Tryd.prog 60 _ Extern.ReflectliteType.typeOf Tryd.func60 (by kernel_rfl) (by kernel_rfl) (by kernel_rfl) (by kernel_rfl)
  have h32 := @run_callFunc_extern Tryd.prog 89 _ comparableFn Tryd.func89 (by kernel_rfl) (by kernel_rfl) (by kernel_rfl) (by kernel_rfl)
  have tT := isTypeOf
  have cT := isComparable
  have mR := isMethodComparable
  cases E with
  | none =>
    obtain rfl : v = .nilIface := hv
    have hn := run_eql_iface_nil_left (P := Tryd.prog) w 58 (.int .i64 k) Tryd.underlying25
    go_enter Tryd.func52, Tryd.ntmps52
    go_wp2
    go_ret
    exact ⟨rfl, rfl⟩
  | num j =>
    have hv' := hv
    obtain rfl : v = .iface 58 (.int .i64 j) := hv
    go_enter Tryd.func52, Tryd.ntmps52
    go_wp2_with (go_at_call 61; refine (is_loop (Er.num j) k _ _ hv' (fun h => by cases h)).mono ?_; rintro e w' ⟨rfl, rfl⟩)
    go_ret
    exact ⟨rfl, rfl⟩
  | fault op id inner =>
    have hv' := hv
    obtain ⟨b, x, rfl, _⟩ := hv
    go_enter Tryd.func52, Tryd.ntmps52
    go_wp2_with (go_at_call 61; refine (is_loop (Er.fault op id inner) k _ _ hv' (fun h => by cases h)).mono ?_; rintro e w' ⟨rfl, rfl⟩)
    go_ret
    exact ⟨rfl, rfl⟩

end Go.Proofs.YtdeibgljibcnlaaDoor
