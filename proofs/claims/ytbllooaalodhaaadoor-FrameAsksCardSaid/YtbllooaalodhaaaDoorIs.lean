/- errors.Is(e, number) at any error that is none, a number, or a Fault that wraps such. -/
import Derived.Test.YtbllooaalodhaaaDoorErr
import Derived.LaidEql
import Derived.Stop.Asserts
import Derived.RowKitTokens
import Derived.Deep.LoopGhost
namespace Go.Proofs.YtbllooaalodhaaaDoor
open Go.RowKit Go.Extern.Stop Go.Stop Go.Extern

/-! ### equality of two interface values of one integer type -/
section
variable {P : Program} (w : World)
theorem run_equalIn_iface_int (d : Nat) {ti tn : TypeId} {ms : Array (String × TypeId)} {i : TypeInfo} {k : IntKind} (a b : Int)
    (hi : P.underlying ti = some (.interface ms)) (hn : P.underlying tn = some (.int k)) (hinfo : P.info? tn = some i) (hcomp : i.comparable = true) :
    (Op.equalIn (d + 2) ti (.iface tn (.int k a)) (.iface tn (.int k b))).run P w = .ok (a == b) w := by
  simp [Op.equalIn, run_underlying hi, run_underlying hn, typeInfo, hinfo, hcomp]
theorem run_eql_iface_int {ti tn : TypeId} {ms : Array (String × TypeId)} {i : TypeInfo} {k : IntKind} (a b : Int)
    (hi : P.underlying ti = some (.interface ms)) (hn : P.underlying tn = some (.int k)) (hinfo : P.info? tn = some i) (hcomp : i.comparable = true) :
    (binOp .eql ti (.iface tn (.int k a)) (.iface tn (.int k b))).run P w = .ok (.bool (a == b)) w := by
  simp only [binOp]
  simp [Op.equal, Op.maxDepth, run_equalIn_iface_int w 9998 a b hi hn hinfo hcomp]
end

/-! ### closed facts -/
theorem isTypeOf (v : Value) (w : World) : (Extern.ReflectliteType.typeOf #[.iface 52 v]).run Tryd.prog w = .ok (.iface 81 (.agg #[.pointer (some ⟨1, 52, none⟩)])) w := by kernel_rfl
def comparableFn : Array Value → Sem Value := Extern.ReflectliteType.method fun t => do Extern.Rtype.noPackHeld "Comparable" t; pure (.bool (← typeInfo t).comparable)
theorem isComparable (w : World) : (comparableFn #[.agg #[.pointer (some ⟨1, 52, none⟩)]]).run Tryd.prog w = .ok (.bool true) w := by kernel_rfl
theorem isMethodComparable (v : Value) (w : World) : (Go.method 225 81 v "Comparable").run Tryd.prog w = .ok (65, v) w := by kernel_rfl
theorem isComp : (Tryd.prog.info? 52).map (·.comparable) = some true := by kernel_rfl
theorem noIsE (v : Value) (xT : TypeId) (w : World) : (Instr.typeAssert (.iface 52 v) xT 93 true).run Tryd.prog w = .ok (.tuple #[.nilIface, .bool false]) w := run_typeAssert_lacksB Tryd.underlying93 (by kernel_rfl) (by kernel_rfl) v xT w
theorem noUnwrapE (v : Value) (xT : TypeId) (w : World) : (Instr.typeAssert (.iface 52 v) xT 88 true).run Tryd.prog w = .ok (.tuple #[.nilIface, .bool false]) w := run_typeAssert_lacksB Tryd.underlying88 (by kernel_rfl) (by kernel_rfl) v xT w
theorem noUnwrapsE (v : Value) (xT : TypeId) (w : World) : (Instr.typeAssert (.iface 52 v) xT 90 true).run Tryd.prog w = .ok (.tuple #[.nilIface, .bool false]) w := run_typeAssert_lacksB Tryd.underlying90 (by kernel_rfl) (by kernel_rfl) v xT w
theorem noIsW (v : Value) (xT : TypeId) (w : World) : (Instr.typeAssert (.iface 54 v) xT 93 true).run Tryd.prog w = .ok (.tuple #[.nilIface, .bool false]) w := run_typeAssert_lacksB Tryd.underlying93 (by kernel_rfl) (by kernel_rfl) v xT w
theorem hasUnwrapW (v : Value) (xT : TypeId) (w : World) : (Instr.typeAssert (.iface 54 v) xT 88 true).run Tryd.prog w = .ok (.tuple #[.iface 54 v, .bool true]) w := run_typeAssert_hasB Tryd.underlying88 (by kernel_rfl) v xT w
theorem methodUnwrap (v : Value) (w : World) : (Go.method 225 54 v "Unwrap").run Tryd.prog w = .ok (59, v) w := by kernel_rfl

/-- (*Fault).Unwrap at a Fault that is not nil -/
theorem Unwrap_some (b : Nat) (u : Value) (w : World) (h : w.cell? ⟨b, 2, none⟩ = some u) :
    Calls Tryd.prog 59 #[.pointer (some ⟨b, 0, none⟩)] w fun e w' => e = .returned u ∧ w = w' := by
  go_enter Tryd.func59, Tryd.ntmps59
  go_wp2
  go_ret
  exact ⟨rfl, rfl⟩

/-- does an error hold that number? -/
def Er.has : Er → Int → Bool
  | .none, _ => false
  | .num j, k => j == k
  | .fault _ _ e, k => e.has k
def Er.depth : Er → Nat
  | .fault _ _ e => e.depth + 1
  | _ => 0

theorem is_loop (E : Er) (k : Int) (v : Value) (w : World) (hv : E.Is w v) (hn : E ≠ .none) :
    Calls Tryd.prog 37 #[v, .iface 52 (.int .i64 k), .bool true] w fun e w' => e = .returned (.bool (E.has k)) ∧ w = w' := by
  obtain ⟨i, hi, hcmp⟩ := Option.map_eq_some_iff.1 isComp
  have nE := noIsE
  have uE := noUnwrapE
  have vE := noUnwrapsE
  have nW := noIsW
  have uW := hasUnwrapW
  have mU := methodUnwrap
  have HV := Lib.hid hv
  go_enter Tryd.func37, Tryd.ntmps37
  go_wp2
  go_loopg [0] E.depth (fun n u wr => w = wr ∧ ∃ e : Er, Er.Is w e u ∧ e.depth ≤ n ∧ Hid (e ≠ .none ∧ e.has k = E.has k))
  case atStart => exact ⟨rfl, E, hv, Nat.le_refl _, hn, rfl⟩
  case round =>
    obtain ⟨rfl, e, he, hd, hh⟩ := hrel
    cases e with
    | none => exact (hh.out.1 rfl).elim
    | num j =>
      obtain rfl := he
      have heq := run_eql_iface_int (P := Tryd.prog) w j k Tryd.underlying25 Tryd.underlying52 hi hcmp
      cases hjk : j == k with
      | true =>
        have hfin : E.has k = true := by rw [← hh.out.2]; exact hjk
        go_wp2
        go_ret
        exact ⟨by rw [hfin]; rfl, rfl⟩
      | false =>
        have hfin : E.has k = false := by rw [← hh.out.2]; exact hjk
        go_wp2
        go_ret
        exact ⟨by rw [hfin]; rfl, rfl⟩
    | fault op id inner =>
      obtain ⟨b, x, rfl, hlt, h1, h2, h3, h4⟩ := he
      have hty := run_eql_iface_types (P := Tryd.prog) 54 52 (.pointer (some ⟨b, 0, none⟩)) (.int .i64 k) Tryd.underlying25 (by decide) w
      have hd' : inner.depth < gk := hd
      cases inner with
      | none =>
        obtain rfl : x = .nilIface := h4
        have hfin : E.has k = false := by rw [← hh.out.2]; rfl
        go_wp2_with (go_at_call 59; refine (Unwrap_some b _ _ h3).mono ?_; rintro e w' ⟨rfl, rfl⟩)
        go_ret
        exact ⟨by rw [hfin]; rfl, rfl⟩
      | num j =>
        obtain rfl : x = .iface 52 (.int .i64 j) := h4
        have hh' : Hid ((Er.num j) ≠ .none ∧ (Er.num j).has k = E.has k) := ⟨(fun h => by cases h), hh.out.2⟩
        go_wp2_with (go_at_call 59; refine (Unwrap_some b _ _ h3).mono ?_; rintro e w' ⟨rfl, rfl⟩)
        go_roundg (Er.num j).depth
        case measure => exact hd'
        case rel => exact ⟨rfl, Er.num j, rfl, Nat.le_refl _, hh'⟩
      | fault op' id' inner' =>
        obtain ⟨b', x', hx, rest⟩ := h4
        have hh' : Hid ((Er.fault op' id' inner') ≠ .none ∧ (Er.fault op' id' inner').has k = E.has k) := ⟨(fun h => by cases h), hh.out.2⟩
        subst hx
        go_wp2_with (go_at_call 59; refine (Unwrap_some b _ _ h3).mono ?_; rintro e w' ⟨rfl, rfl⟩)
        go_roundg (Er.fault op' id' inner').depth
        case measure => exact hd'
        case rel => exact ⟨rfl, Er.fault op' id' inner', ⟨b', x', rfl, rest⟩, Nat.le_refl _, hh'⟩

/-- errors.Is(e, number) -/
theorem Is_er (E : Er) (k : Int) (v : Value) (w : World) (hv : E.Is w v) :
    Calls Tryd.prog 29 #[v, .iface 52 (.int .i64 k)] w fun e w' => e = .returned (.bool (E.has k)) ∧ w = w' := by
  have h8 := @run_callFunc_extern Tryd.prog 36 _ Extern.ReflectliteType.typeOf Tryd.func36 (by kernel_rfl) (by kernel_rfl) (by kernel_rfl) (by kernel_rfl)
  have h32 := @run_callFunc_extern Tryd.prog 65 _ comparableFn Tryd.func65 (by kernel_rfl) (by kernel_rfl) (by kernel_rfl) (by kernel_rfl)
  have tT := isTypeOf
  have cT := isComparable
  have mR := isMethodComparable
  cases E with
  | none =>
    obtain rfl : v = .nilIface := hv
    have hn := run_eql_iface_nil_left (P := Tryd.prog) w 52 (.int .i64 k) Tryd.underlying25
    go_enter Tryd.func29, Tryd.ntmps29
    go_wp2
    go_ret
    exact ⟨rfl, rfl⟩
  | num j =>
    have hv' := hv
    obtain rfl : v = .iface 52 (.int .i64 j) := hv
    go_enter Tryd.func29, Tryd.ntmps29
    go_wp2_with (go_at_call 37; refine (is_loop (Er.num j) k _ _ hv' (fun h => by cases h)).mono ?_; rintro e w' ⟨rfl, rfl⟩)
    go_ret
    exact ⟨rfl, rfl⟩
  | fault op id inner =>
    have hv' := hv
    obtain ⟨b, x, rfl, _⟩ := hv
    go_enter Tryd.func29, Tryd.ntmps29
    go_wp2_with (go_at_call 37; refine (is_loop (Er.fault op id inner) k _ _ hv' (fun h => by cases h)).mono ?_; rintro e w' ⟨rfl, rfl⟩)
    go_ret
    exact ⟨rfl, rfl⟩

/-- the number at an error's root -/
def Er.root : Er → Option Int
  | .none => Option.none
  | .num j => some j
  | .fault _ _ e => e.root
/-- the number of an error, as pergolaalike.Code has it -/
def Er.code (e : Er) : Int :=
  match e with
  | .none => 0
  | e => match e.root with
    | some j => if 1 ≤ j ∧ j ≤ 15 then j else -1
    | Option.none => -1
theorem Er.has_root (k : Int) : ∀ e : Er, e.has k = (e.root == some k)
  | .none => rfl
  | .num j => by simp [Er.has, Er.root]
  | .fault _ _ e => by rw [Er.has, Er.root, Er.has_root k e]
theorem Er.code_hit {e : Er} {k : Int} (h : e.has k = true) (h1 : 1 ≤ k) (h2 : k ≤ 15) : e.code = k := by
  rw [Er.has_root] at h
  have h' : e.root = some k := by simpa using h
  cases e <;> simp [Er.code, Er.root] at h' ⊢
  · subst h'; simp [h1, h2]
  · rw [h']; simp [h1, h2]
theorem Er.code_miss {e : Er} (hn : e ≠ .none) (h : ∀ k : Nat, 1 ≤ k → k < 16 → e.has (k : Int) = false) : e.code = -1 := by
  have hr : ∀ j : Int, e.root = some j → ¬ (1 ≤ j ∧ j ≤ 15) := by
    intro j hj hb
    have := h j.toNat (by omega) (by omega)
    rw [Er.has_root, hj] at this
    simp [show ((j.toNat : Nat) : Int) = j from by omega] at this
  cases e with
  | none => exact absurd rfl hn
  | num j => have := hr j rfl; simp [Er.code, Er.root, this]
  | fault a b c =>
    cases hc : c.root with
    | none => simp [Er.code, Er.root, hc]
    | some j => have := hr j hc; simp [Er.code, Er.root, hc, this]

theorem Code_er (E : Er) (v : Value) (w : World) (hv : E.Is w v) :
    Calls Tryd.prog 19 #[v] w fun e w' => e = .returned (.int .i64 E.code) ∧ w = w' := by
  by_cases hE : E = .none
  · subst hE
    obtain rfl : v = .nilIface := hv
    go_enter Tryd.func19, Tryd.ntmps19
    go_wp2
    go_ret
    exact ⟨rfl, rfl⟩
  · obtain ⟨T, x, rfl⟩ : ∃ T x, v = .iface T x := by
      cases E with
      | none => exact absurd rfl hE
      | num j => exact ⟨_, _, hv⟩
      | fault a b c => obtain ⟨b, u, h, _⟩ := hv; exact ⟨_, _, h⟩
    have HE := Lib.hid hE; clear hE
    go_enter Tryd.func19, Tryd.ntmps19
    go_wp2
    go_loop [3] (fun i => ∃ k : Nat, 1 ≤ k ∧ k ≤ 16 ∧ i = .int .i64 k ∧ Hid (∀ j : Nat, 1 ≤ j → j < k → E.has (j : Int) = false)) (fun i => 16 - (intOf i).toNat)
    case atStart => exact ⟨1, by omega, by omega, rfl, fun j h1 h2 => by omega⟩
    case round =>
      obtain ⟨k, hk1, hk2, rfl, hm⟩ := hrel
      by_cases hlt : k ≤ 15
      · cases hh : E.has (k : Int) with
        | true =>
          have hfin := Er.code_hit hh (by omega) (by omega)
          go_wp2_with fail
          refine (Is_er E k _ _ hv).mono ?_
          rw [hh]
          rintro e w' ⟨rfl, rfl⟩
          go_wp2
          go_ret
          exact ⟨by rw [hfin]; rfl, rfl⟩
        | false =>
          have hm' : Hid (∀ j : Nat, 1 ≤ j → j < k + 1 → E.has (j : Int) = false) := fun j h1 h2 => by
            by_cases hj : j = k
            · subst hj; exact hh
            · exact hm.out j h1 (by omega)
          go_wp2_with fail
          refine (Is_er E k _ _ hv).mono ?_
          rw [hh]
          rintro e w' ⟨rfl, rfl⟩
          go_wp2
          go_round
          case rel => exact ⟨k + 1, by omega, by omega, by go_num, hm'⟩
          case measure => simp [intOf]; omega
      · have hfin := Er.code_miss HE.out (fun j h1 h2 => hm.out j h1 (by omega))
        go_wp2
        go_ret
        exact ⟨rfl, rfl⟩
end Go.Proofs.YtbllooaalodhaaaDoor
