/- FaultNone answers true, whatever it is given. -/
import Derived.Test.YthijffpackkcnaaTexts
import Derived.Test.YthijffpackkcnaaDown
import Derived.Test.YthijffpackkcnaaIs
import Derived.OpenShut
import Derived.ShutString
namespace Go.Proofs.Ythijffpackkcnaa
open Go.RowKit Go.ChangeShapes
open Go.ChangeMaps (open_string)

theorem Join_nil (w : World) : Calls Try.prog 17 #[.slice none 0 0] w fun e w' => e = .returned .nilIface ∧ w = w' := by
  have hj : Calls Try.prog 27 #[.slice none 0 0] w fun e w' => e = .returned .nilIface ∧ w = w' := by
    go_enter Try.func27, Try.ntmps27
    go_wp2
    refine wp_loop_rounds 1 ?_
    rw [rounds_succ]
    go_wp2
    go_ret
    exact ⟨rfl, rfl⟩
  have HJ := Lib.hid hj
  clear hj
  go_enter Try.func17, Try.ntmps17
  go_wp2_with (go_at_call 27; refine HJ.out.mono ?_; rintro e w' ⟨rfl, rfl⟩)
  go_ret
  exact ⟨rfl, rfl⟩

theorem First_nils (b : Nat) (w : World) (h0 : w.cell? ⟨b, 0, none⟩ = some .nilIface) (h1 : w.cell? ⟨b, 1, none⟩ = some .nilIface) :
    Calls Try.prog 18 #[.slice (some ⟨b, 0, none⟩) 2 2] w fun e w' => e = .returned .nilIface ∧ w = w' := by
  go_enter Try.func18, Try.ntmps18
  go_wp2
  refine wp_loop_rounds 3 ?_
  rw [rounds_succ]
  go_wp2
  rw [rounds_succ]
  go_wp2
  rw [rounds_succ]
  go_wp2
  go_ret
  exact ⟨rfl, rfl⟩

def strA : ByteArray := ⟨#[97]⟩
def strB : ByteArray := ⟨#[98]⟩
def en2 : En := .fault strB 2 (.num 8)
def en3 : En := .fault strA 1 en2

set_option maxHeartbeats 1000000 in
theorem awake7_any (w : World) : Calls Try.prog 7 #[] w fun e w' => e = .returned (.bool true) ∧ Below w.heap.size w w' := by
  have k1 := Lib.hid (show ∀ w, Calls Try.prog 16 #[.string strB, .int .i64 2, .iface 32 (.int .i64 8)] w (EnRet w en2) from fun w => New_en strB 2 (.num 8) _ w rfl)
  have k2 := Lib.hid (show ∀ w v, en2.Is w v → Calls Try.prog 16 #[.string strA, .int .i64 1, v] w (EnRet w en3) from fun w v hv => New_en strA 1 en2 _ w hv)
  have k3 := Lib.hid (show ∀ w, Calls Try.prog 16 #[.string strA, .int .i64 1, .nilIface] w (EnRet w .none) from fun w => New_en strA 1 .none _ w rfl)
  have k4 := Lib.hid (show ∀ w v, en3.Is w v → Calls Try.prog 13 #[v] w fun ev w' => ev = .returned (.int .i64 8) ∧ Below w.heap.size w w' from fun w v hv => Code_any en3 v w hv)
  have k5 := Lib.hid (show ∀ w v, en3.Is w v → Calls Try.prog 15 #[v] w (StrsRet w [strA, strB]) from fun w v hv => Chain_any en3 v w hv (by decide))
  have k6 := Lib.hid (show ∀ w v, en3.Is w v → Calls Try.prog 10 #[v] w fun ev w' => ev = .returned (.int .i64 2) ∧ w = w' from fun w v hv => Deep_any en3 v w hv (by decide))
  go_enter Try.func7, Try.ntmps7
  go_wp2_with fail
  refine (k1.out _).mono ?_
  rintro e w1 ⟨v1, rfl, e1, b1⟩
  go_wp2_with fail
  refine (k2.out _ _ e1).mono ?_
  rintro e w2 ⟨v2, rfl, e2, b2⟩
  have B2 := b1.trans (b2.mono b1.size)
  go_wp2_with fail
  refine (k4.out _ _ e2).mono ?_
  rintro e w3 ⟨rfl, b3⟩
  have e3 := En.Is.below b3 e2
  have B3 := B2.trans (b3.mono B2.size)
  go_wp2_with fail
  refine (k5.out _ _ e3).mono ?_
  rintro e w4 ⟨v4, rfl, o4, b4⟩
  have e4 := En.Is.below b4 e3
  have B4 := B3.trans (b4.mono B3.size)
  have h5 : Below w4.heap.size w4 (w4.alloc (.cells #[.string strA, .string strB] 9)) := (Below.refl _ _).alloc (Nat.le_refl _) _
  have s5 := (OwnS.str o4).below h5
  have r5 : Str (w4.alloc (.cells #[.string strA, .string strB] 9)) (.slice (some ⟨w4.heap.size, 0, none⟩) 2 2) [strA, strB] := rd_alloc w4 #[.string strA, .string strB] 9 (0, 0) 2 (by simp [maxLen])
  have e5 := En.Is.below h5 e4
  have B5 := B4.trans (h5.mono B4.size)
  have S5 := Lib.hid s5
  have R5 := Lib.hid r5
  clear s5 r5
  go_wp2_with fail
  refine (Texts_any _ _ _ _ _ S5.out R5.out).mono ?_
  rw [decide_eq_true (rfl : [strA, strB] = [strA, strB])]
  rintro e w6 ⟨rfl, n6, rfl⟩
  have e6 := En.Is.below (Below.drewN' (Below.refl _ _) n6) e5
  have B6 := Below.drewN' B5 n6
  go_wp2_with fail
  refine (k6.out _ _ e6).mono ?_
  rintro e w7 ⟨rfl, rfl⟩
  go_wp2_with fail
  refine (k3.out _).mono ?_
  rintro e w8 ⟨v8, rfl, e8, b8⟩
  obtain rfl : v8 = .nilIface := e8
  go_wp2_with fail
  go_ret
  exact ⟨rfl, B6.trans (b8.mono B6.size)⟩

theorem find_self (op : ByteArray) (id : Int) (x : En) : (En.fault op id x).find op = some (.fault op id x) := by
  simp [En.find, En.pre, runs, stopF, nextF]

theorem none_out (op : ByteArray) (id : Int) (w : World) (h : 100 < op.size) (h2 : op.size ≤ maxLen) :
    Calls Try.prog 5 #[.string op, .int .i64 id] w fun e w' => e = .returned (.bool true) ∧ Below w.heap.size w w' := by
  unfold maxLen at h2
  have t1 : decide ((100 : Int) < (op.size : Int)) = true := by simp; omega
  go_enter Try.func5, Try.ntmps5
  go_wp2_with (go_at_call 7; refine (awake7_any _).mono ?_; rintro e w' ⟨rfl, hb5⟩)
  go_ret
  exact ⟨rfl, hb5⟩

set_option maxRecDepth 100000 in
set_option maxHeartbeats 2000000 in
theorem none_in (op : ByteArray) (id : Int) (w : World) (h : op.size ≤ 100) :
    Calls Try.prog 5 #[.string op, .int .i64 id] w fun e w' => e = .returned (.bool true) ∧ Below w.heap.size w w' := by
  have t1 : decide ((100 : Int) < (op.size : Int)) = false := by simp; omega
  have k1 := Lib.hid (show ∀ w, Calls Try.prog 12 #[.nilIface, .string op] w (FindRet w none) from fun w => Find_any op .none _ w rfl)
  have k2 := Lib.hid (show ∀ w, Calls Try.prog 16 #[.string op, .int .i64 id, .iface 32 (.int .i64 10)] w (EnRet w (.fault op id (.num 10))) from fun w => New_en op id (.num 10) _ w rfl)
  have k3 := Lib.hid (show ∀ w v, (En.fault op id (.num 10)).Is w v → Calls Try.prog 12 #[v, .string op] w (FindRet w (some (.fault op id (.num 10)))) from fun w v hv => by
    have := Find_any op _ v w hv
    rw [find_self] at this
    exact this)
  have k4 := Lib.hid (show ∀ w, Calls Try.prog 13 #[.nilIface] w fun ev w' => ev = .returned (.int .i64 0) ∧ Below w.heap.size w w' from fun w => Code_any .none _ w rfl)
  have k5 := Lib.hid (show ∀ w, Calls Try.prog 15 #[.nilIface] w (StrsRet w []) from fun w => Chain_any .none _ w rfl (by decide))
  have k6 := Lib.hid (show ∀ w, Calls Try.prog 9 #[.nilIface] w fun ev w' => ∃ v, ev = .returned v ∧ En.none.Is w v ∧ w = w' from fun w => Root_any .none _ w rfl (by decide))
  have k7 := Lib.hid (show ∀ w, Calls Try.prog 10 #[.nilIface] w fun ev w' => ev = .returned (.int .i64 0) ∧ w = w' from fun w => Deep_any .none _ w rfl (by decide))
  have k8 := Lib.hid (show ∀ w, Calls Try.prog 16 #[.string op, .int .i64 id, .nilIface] w (EnRet w .none) from fun w => New_en op id .none _ w rfl)
  have k9 := Lib.hid (show ∀ w v, (En.fault op id (.num 10)).Is w v → Calls Try.prog 19 #[v, .iface 32 (.int .i64 10)] w fun ev w' => ev = .returned (.bool true) ∧ w = w' from fun w v hv => Is_er (.fault op id (.num 10)) 10 v w hv)
  go_enter Try.func5, Try.ntmps5
  go_wp2_with fail
  refine (k1.out _).mono ?_
  rintro e w1 ⟨p1, rfl, rfl, b1⟩
  go_wp2_with fail
  refine (k2.out _).mono ?_
  rintro e w2 ⟨v2, rfl, e2, b2⟩
  have B2 := b1.trans (b2.mono b1.size)
  go_wp2_with fail
  refine (k3.out _ _ e2).mono ?_
  rintro e w3 ⟨p3, rfl, ⟨b, rfl, e3⟩, b3⟩
  replace e3 := En.Is.below b3 e3
  have B3 := B2.trans (b3.mono B2.size)
  go_wp2_with fail
  refine (k4.out _).mono ?_
  rintro e w4 ⟨rfl, b4⟩
  replace e3 := En.Is.below b4 e3
  have B4 := B3.trans (b4.mono B3.size)
  go_wp2_with fail
  refine (k5.out _).mono ?_
  rintro e w5 ⟨v5, rfl, o5, b5⟩
  obtain ⟨ao, c, rfl, _⟩ := (OwnS.str o5).open
  replace e3 := En.Is.below b5 e3
  have B5 := B4.trans (b5.mono B4.size)
  go_wp2_with fail
  refine (k6.out _).mono ?_
  rintro e w' ⟨v6, rfl, e6, rfl⟩
  obtain rfl : v6 = .nilIface := e6
  go_wp2_with fail
  refine (k7.out _).mono ?_
  rintro e w' ⟨rfl, rfl⟩
  go_wp2_with fail
  refine (Join_nil _).mono ?_
  rintro e w' ⟨rfl, rfl⟩
  replace e3 := En.Is.below ((Below.refl _ _).alloc (Nat.le_refl _) (.cells #[.nilIface, .nilIface] 28)) e3
  have B6 := B5.alloc B5.size (.cells #[.nilIface, .nilIface] 28)
  go_wp2_with fail
  refine (First_nils _ _ (by simp) (by simp)).mono ?_
  rintro e w' ⟨rfl, rfl⟩
  go_wp2_with fail
  refine (k8.out _).mono ?_
  rintro e w8 ⟨v8, rfl, e8, b8⟩
  obtain rfl : v8 = .nilIface := e8
  replace e3 := En.Is.below b8 e3
  have B8 := B6.trans (b8.mono B6.size)
  have e3' := Lib.hid e3
  obtain ⟨b', u, hb', _, q1, q2, _⟩ := e3
  simp only [Value.iface.injEq, Value.pointer.injEq, Option.some.injEq, Addr.mk.injEq, true_and, and_true] at hb'
  subst hb'
  go_wp2_with fail
  refine (k9.out _ _ e3'.out).mono ?_
  rintro e w' ⟨rfl, rfl⟩
  go_wp2_with fail
  refine (awake7_any _).mono ?_
  rintro e w9 ⟨rfl, b9⟩
  go_wp2_with fail
  go_ret
  exact ⟨rfl, B8.trans (b9.mono B8.size)⟩

set_option maxRecDepth 100000 in
theorem faultNone_calls {H : Type} {enc : TypeId × Value → H} {W : World} {base : Nat} {v0 v1 : Value} {d0 d1 : DataW H} {p0 p1 : List MemPlace}
    (o0 : Value.okWide Try.prog W .any base 9 v0) (h0 : DataW.Trod enc Try.prog W 0 (fun _ => true) true 9 v0 d0 p0)
    (o1 : Value.okWide Try.prog W .any base 3 v1) (h1 : DataW.Trod enc Try.prog W 0 (fun _ => true) true 3 v1 d1 p1) :
    Calls Try.prog 5 #[v0, v1] W fun e w' => e = .returned (.bool true) ∧ Below W.heap.size W w' := by
  obtain ⟨s, rfl, rfl, rfl, hs⟩ := open_string Try.underlying9 o0 h0
  obtain ⟨n, rfl, rfl, rfl, hw⟩ := open_int Try.underlying3 o1 h1
  by_cases h : s.size ≤ 100
  · exact none_in s n W h
  · exact none_out s n W (by omega) hs
end Go.Proofs.Ythijffpackkcnaa
