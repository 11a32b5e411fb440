/- Words of 64 bits, and ints, in the walk's spelling. -/
import Derived.Test.YtpmngdgifdkohaaDoorChecked
import Derived.WalkKit
namespace Go.Proofs.YtpmngdgifdkohaaDoor
open Go.RowKit

theorem or_add64 (a b i : Nat) (h : a < 2 ^ i) : a ||| (b * 2 ^ i) = a + b * 2 ^ i := by
  rw [Nat.or_comm, ← Nat.shiftLeft_eq, ← Nat.shiftLeft_add_eq_or_of_lt h, Nat.add_comm]
theorem ofInt_nat64 (a : Nat) (ha : a < 18446744073709551616) : (BitVec.ofInt 64 (a : Int)).toNat = a := by
  rw [BitVec.ofInt_natCast]; simp; omega
theorem wrap_u64_nat (n : Nat) (h : n < 18446744073709551616) : IntKind.u64.wrap (n : Int) = (n : Int) := by
  simp [IntKind.wrap, IntKind.bits, IntKind.signed]; omega
theorem or_u64_nat (a b : Nat) (ha : a < 18446744073709551616) (hb : b < 18446744073709551616) : bits .or .u64 (a : Int) (b : Int) = ((a ||| b : Nat) : Int) := by
  have hx : a ||| b < 2 ^ 64 := Nat.or_lt_two_pow (by omega) (by omega)
  show IntKind.u64.wrap ((BitVec.ofInt 64 (a : Int) ||| BitVec.ofInt 64 (b : Int)).toNat : Int) = _
  rw [BitVec.toNat_or, ofInt_nat64 a ha, ofInt_nat64 b hb]
  exact wrap_u64_nat _ hx
theorem and_u64_nat (a b : Nat) (ha : a < 18446744073709551616) (hb : b < 18446744073709551616) : bits .and .u64 (a : Int) (b : Int) = ((a &&& b : Nat) : Int) := by
  have hx : a &&& b < 2 ^ 64 := Nat.and_lt_two_pow _ (by omega)
  show IntKind.u64.wrap ((BitVec.ofInt 64 (a : Int) &&& BitVec.ofInt 64 (b : Int)).toNat : Int) = _
  rw [BitVec.toNat_and, ofInt_nat64 a ha, ofInt_nat64 b hb]
  exact wrap_u64_nat _ hx
theorem and1_u64 (a : Nat) (ha : a < 18446744073709551616) : bits .and .u64 (a : Int) 1 = ((a % 2 : Nat) : Int) := by
  have := and_u64_nat a 1 ha (by omega)
  rw [Nat.and_one_is_mod] at this
  exact this
theorem and3_u64 (a : Nat) (ha : a < 18446744073709551616) : bits .and .u64 (a : Int) 3 = ((a % 4 : Nat) : Int) := by
  have := and_u64_nat a 3 ha (by omega)
  rw [show a &&& 3 = a % 4 from Nat.and_two_pow_sub_one_eq_mod a 2] at this
  exact this
theorem or_i64_nat (a b : Nat) (ha : a < 9223372036854775808) (hb : b < 9223372036854775808) : bits .or .i64 (a : Int) (b : Int) = ((a ||| b : Nat) : Int) := by
  have hx : a ||| b < 2 ^ 63 := Nat.or_lt_two_pow (by omega) (by omega)
  show IntKind.i64.wrap ((BitVec.ofInt 64 (a : Int) ||| BitVec.ofInt 64 (b : Int)).toNat : Int) = _
  rw [BitVec.toNat_or, ofInt_nat64 a (by omega), ofInt_nat64 b (by omega)]
  exact IntWalk.i64_in _ (by omega)
theorem cast_pow2 (k : Nat) : (2 : Int) ^ k = ((2 ^ k : Nat) : Int) := by simp
theorem cast_div2 (a k : Nat) : (a : Int) / 2 ^ k = ((a / 2 ^ k : Nat) : Int) := by rw [cast_pow2]; simp
theorem cast_mul2 (a k : Nat) : (a : Int) * 2 ^ k = ((a * 2 ^ k : Nat) : Int) := by rw [cast_pow2]; simp
theorem four_pow (k : Nat) : (4 : Nat) ^ k = 2 ^ (2 * k) := by rw [Nat.pow_mul]
end Go.Proofs.YtpmngdgifdkohaaDoor
