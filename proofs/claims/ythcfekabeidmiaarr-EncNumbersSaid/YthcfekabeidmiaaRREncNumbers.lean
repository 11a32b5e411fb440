/- EncNumbers answers true, whatever it is given. -/
import Derived.Test.YthcfekabeidmiaaRRAwake8
import Derived.Test.YthcfekabeidmiaaRRView
namespace Go.Proofs.YthcfekabeidmiaaRR
open Go.RowKit Go.ChangeShapes Go.WideShapes

set_option maxRecDepth 100000 in
theorem numbers_long (va : Value) (b : List UInt8) (v : Nat) (n : Int) (w : World) (hb : Byt w va b) (h : 1000 < b.length) :
    Calls Try.prog 3 #[va, .int .u64 (v : Int), .int .i64 n] w fun e w' => e = .returned (.bool true) ∧ Below w.heap.size w w' := by
  obtain ⟨ao, cp, rfl, h1, h2, h0, h3⟩ := hb.open
  have t1 : decide ((1000 : Int) < (b.length : Int)) = true := by simp; omega
  clear h3 h
  go_enter Try.func3, Try.ntmps3
  go_wp2_with fail
  refine (awake_any _).mono ?_
  rintro e w' ⟨rfl, b1⟩
  go_wp2_with fail
  go_ret
  exact ⟨rfl, b1⟩

set_option maxRecDepth 100000 in
set_option maxHeartbeats 1000000 in
theorem numbers_short (va : Value) (b : List UInt8) (v : Nat) (n : Int) (w : World) (hb : Byt w va b) (h : ¬ 1000 < b.length) (hv : v < 18446744073709551616) (hn : -9223372036854775808 ≤ n ∧ n ≤ 9223372036854775807) :
    Calls Try.prog 3 #[va, .int .u64 (v : Int), .int .i64 n] w fun e w' => e = .returned (.bool true) ∧ Below w.heap.size w w' := by
  have hb0 := hb
  obtain ⟨ao, cp, rfl, h1, h2, h0, h3⟩ := hb.open
  have t1 : decide ((1000 : Int) < (b.length : Int)) = false := by simp; omega
  have C1 := Lib.hid (Unvarint_any _ b w hb0)
  have C2 := Lib.hid (UnvarintR_any _ b w hb0)
  have C3 := Lib.hid (Unsigned_any _ b w hb0)
  have C4 := Lib.hid (UnsignedR_any _ b w hb0)
  have C5 := Lib.hid (fun w => Varint_any v hv w)
  have C6 := Lib.hid (fun w => VarintR_any v hv w)
  have C7 := Lib.hid (fun w => Signed_any n hn w)
  have C8 := Lib.hid (fun w => SignedR_any n hn w)
  clear h3 h hb hb0 hv hn
  generalize unv b = p at *
  unfold UnsRet at C3 C4
  generalize unsg b = q at *
  obtain ⟨p1, p2⟩ := p
  obtain ⟨q1, q2, q3⟩ := q
  simp only at C1 C2 C3 C4
  go_enter Try.func3, Try.ntmps3
  go_wp2_with fail
  refine C1.out.mono ?_
  rintro e w' ⟨rfl, rfl⟩
  go_wp2_with fail
  refine C2.out.mono ?_
  rintro e w' ⟨rfl, rfl⟩
  go_wp2_with fail
  refine C3.out.mono ?_
  rintro e w' ⟨rfl, rfl⟩
  go_wp2_with fail
  refine C4.out.mono ?_
  rintro e w' ⟨rfl, rfl⟩
  go_wp2_with fail
  refine (C5.out _).mono ?_
  rintro e w1 ⟨u1, rfl, o1, b1⟩
  go_wp2_with fail
  refine (C6.out _).mono ?_
  rintro e w2 ⟨u2, rfl, o2, b2⟩
  have Y1 := Lib.hid (o1.byt.below b2)
  have Y2 := Lib.hid o2.byt
  have B2 := b1.trans (b2.mono b1.size)
  go_wp2_with fail
  refine (Bytes_any _ _ _ _ _ Y1.out Y2.out).mono ?_
  rintro e w' ⟨rfl, k, rfl⟩
  rw [decide_eq_true (rfl : vint v = vint v)]
  have B3 := below_drewN B2 k
  go_wp2_with fail
  refine (C7.out _).mono ?_
  rintro e w3 ⟨u3, rfl, o3, b3⟩
  go_wp2_with fail
  refine (C8.out _).mono ?_
  rintro e w4 ⟨u4, rfl, o4, b4⟩
  have Y3 := Lib.hid (o3.byt.below b4)
  have Y4 := Lib.hid o4.byt
  have b34 := b3.trans (b4.mono b3.size)
  have B4 := B3.trans (b34.mono B3.size)
  go_wp2_with fail
  refine (Bytes_any _ _ _ _ _ Y3.out Y4.out).mono ?_
  rintro e w' ⟨rfl, k2, rfl⟩
  rw [decide_eq_true (rfl : vint (zig n) = vint (zig n))]
  have B5 := below_drewN B4 k2
  have e1 : ((p1 : Int) == (p1 : Int)) = true := by simp
  have e2 : ((p2 : Int) == (p2 : Int)) = true := by simp
  have e3 : (q1 == q1) = true := by simp
  have e4 : ((q2 : Int) == (q2 : Int)) = true := by simp
  have e5 : (q3 == q3) = true := by simp
  go_wp2_with fail
  refine (awake_any _).mono ?_
  rintro e w6 ⟨rfl, b6⟩
  go_wp2_with fail
  go_ret
  exact ⟨rfl, B5.trans (b6.mono B5.size)⟩

set_option maxRecDepth 100000 in
theorem encNumbers_calls {H : Type} {enc : TypeId × Value → H} {W : World} {base : Nat} {v0 v1 v2 : Value} {d0 d1 d2 : DataW H} {p0 p1 p2 : List MemPlace}
    (o0 : Value.okWide Try.prog W .any base 22 v0) (h0 : DataW.Trod enc Try.prog W 0 (fun _ => true) true 22 v0 d0 p0)
    (o1 : Value.okWide Try.prog W .any base 23 v1) (h1 : DataW.Trod enc Try.prog W 0 (fun _ => true) true 23 v1 d1 p1)
    (o2 : Value.okWide Try.prog W .any base 3 v2) (h2 : DataW.Trod enc Try.prog W 0 (fun _ => true) true 3 v2 d2 p2) :
    Calls Try.prog 3 #[v0, v1, v2] W fun e w' => e = .returned (.bool true) ∧ Below W.heap.size W w' := by
  obtain ⟨b, hb⟩ := view_bytes o0 h0
  obtain ⟨z, rfl, rfl, rfl, hz⟩ := open_int Try.underlying23 o1 h1
  obtain ⟨n, rfl, rfl, rfl, hw⟩ := open_int Try.underlying3 o2 h2
  have hz' := bounds_u64 hz
  have hw' := bounds_i64 hw
  obtain ⟨v, rfl⟩ := Int.eq_ofNat_of_zero_le hz'.1
  by_cases h : 1000 < b.length
  · exact numbers_long _ b v n W hb h
  · exact numbers_short _ b v n W hb h (by omega) (by omega)
end Go.Proofs.YthcfekabeidmiaaRR
