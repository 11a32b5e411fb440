/- Numbers with signs: enc.Signed, enc.Unsigned, and the document's. -/
import Derived.Test.YthcfekabeidmiaaRREncUnR
import Derived.OwnWalk
namespace Go.Proofs.YthcfekabeidmiaaRR
open Go.RowKit

/-- The call hands back a number with a sign, how many bytes it has, and whether there is one. -/
def UnsRet (w : World) (b : List UInt8) (e : Ending) (w' : World) : Prop := e = .returned (.tuple #[.int .i64 (unsg b).1, .int .i64 ((unsg b).2.1 : Int), .bool (unsg b).2.2]) ∧ w = w'

theorem xor_ones_u64 (a : Nat) (ha : a < 18446744073709551616) : bits .xor .u64 (a : Int) 18446744073709551615 = ((18446744073709551615 - a : Nat) : Int) := by
  show IntKind.u64.wrap ((BitVec.ofInt 64 (a : Int) ^^^ BitVec.ofInt 64 18446744073709551615).toNat : Int) = _
  rw [show BitVec.ofInt 64 18446744073709551615 = BitVec.allOnes 64 by decide, BitVec.xor_allOnes, BitVec.toNat_not, ofInt_nat64 a ha, wrap_u64_nat _ (by omega)]
theorem xor_zero_u64 (a : Nat) (ha : a < 18446744073709551616) : bits .xor .u64 (a : Int) 0 = (a : Int) := by
  show IntKind.u64.wrap ((BitVec.ofInt 64 (a : Int) ^^^ BitVec.ofInt 64 0).toNat : Int) = _
  rw [show BitVec.ofInt 64 0 = 0#64 by decide, BitVec.xor_zero, ofInt_nat64 a ha, wrap_u64_nat _ (by omega)]
theorem zig_walk (n : Int) (hn : -9223372036854775808 ≤ n ∧ n ≤ 9223372036854775807) :
    bits .xor .u64 (IntKind.u64.wrap (IntKind.u64.wrap n * 2)) (IntKind.u64.wrap (n / 9223372036854775808)) = (zig n : Int) := by
  have w : ∀ x : Int, IntKind.u64.wrap x = x % 18446744073709551616 := fun x => by simp [IntKind.wrap, IntKind.bits, IntKind.signed]
  rw [w, w, w]
  unfold zig
  by_cases h : n < 0
  · rw [if_pos h, show n / 9223372036854775808 % 18446744073709551616 = 18446744073709551615 by omega]
    obtain ⟨k, hk⟩ := Int.eq_ofNat_of_zero_le (show 0 ≤ n % 18446744073709551616 * 2 % 18446744073709551616 by omega)
    rw [hk, xor_ones_u64 k (by omega)]
    omega
  · rw [if_neg h, show n / 9223372036854775808 % 18446744073709551616 = 0 by omega]
    obtain ⟨k, hk⟩ := Int.eq_ofNat_of_zero_le (show 0 ≤ n % 18446744073709551616 * 2 % 18446744073709551616 by omega)
    rw [hk, xor_zero_u64 k (by omega)]
    omega
theorem zag_walk (v : Nat) (hv : v < 18446744073709551616) :
    bits .xor .i64 ((v : Int) / 2) (wrap64 (-wrap64 (bits .and .u64 (v : Int) 1))) = zag v := by
  rw [and1_u64 v hv]
  unfold zag
  rw [show (v : Int) / 2 = ((v / 2 : Nat) : Int) by omega]
  by_cases h : v % 2 = 1
  · rw [if_pos h, h, show wrap64 (-wrap64 ((1 : Nat) : Int)) = -1 by simp [wrap64]]
    show IntKind.i64.wrap ((BitVec.ofInt 64 ((v / 2 : Nat) : Int) ^^^ BitVec.ofInt 64 (-1)).toNat : Int) = _
    rw [show BitVec.ofInt 64 (-1) = BitVec.allOnes 64 by decide, BitVec.xor_allOnes, BitVec.toNat_not, ofInt_nat64 (v / 2) (by omega)]
    simp [IntKind.wrap, IntKind.bits, IntKind.signed]
    omega
  · rw [if_neg h, show v % 2 = 0 by omega, show wrap64 (-wrap64 ((0 : Nat) : Int)) = 0 by simp [wrap64]]
    show IntKind.i64.wrap ((BitVec.ofInt 64 ((v / 2 : Nat) : Int) ^^^ BitVec.ofInt 64 0).toNat : Int) = _
    rw [show BitVec.ofInt 64 0 = 0#64 by decide, BitVec.xor_zero, ofInt_nat64 (v / 2) (by omega)]
    exact IntWalk.i64_in _ (by omega)

theorem Signed_any (n : Int) (hn : -9223372036854775808 ≤ n ∧ n ≤ 9223372036854775807) (w : World) : Calls Try.prog 13 #[.int .i64 n] w (NewB w (vint (zig n))) := by
  have V := Lib.hid (fun w => Varint_any (zig n) (zig_lt n hn) w)
  have Z := Lib.hid (zig_walk n hn)
  obtain ⟨n1, n2⟩ := hn
  go_enter Try.func13, Try.ntmps13
  go_wp2_with fail
  rw [Z.out]
  refine (V.out _).mono ?_
  rintro e w1 ⟨v, rfl, h1, h2⟩
  go_wp2_with fail
  go_ret
  exact ⟨_, rfl, h1, h2⟩
theorem SignedR_any (n : Int) (hn : -9223372036854775808 ≤ n ∧ n ≤ 9223372036854775807) (w : World) : Calls Try.prog 14 #[.int .i64 n] w (NewB w (vint (zig n))) := by
  have V := Lib.hid (fun w => VarintR_any (zig n) (zig_lt n hn) w)
  obtain ⟨n1, n2⟩ := hn
  by_cases h0 : n < 0
  · have t1 := decide_eq_true h0
    have hz : (zig n : Int) = -(n + 1) * 2 + 1 := by unfold zig; rw [if_pos h0]; omega
    rw [hz] at V
    clear hz
    go_enter Try.func14, Try.ntmps14
    go_wp2_with fail
    refine (V.out _).mono ?_
    rintro e w1 ⟨v, rfl, h1, h2⟩
    go_wp2_with fail
    go_ret
    exact ⟨_, rfl, h1, h2⟩
  · have t1 := decide_eq_false h0
    have hz : (zig n : Int) = n * 2 := by unfold zig; rw [if_neg h0]; omega
    rw [hz] at V
    clear hz
    go_enter Try.func14, Try.ntmps14
    go_wp2_with fail
    refine (V.out _).mono ?_
    rintro e w1 ⟨v, rfl, h1, h2⟩
    go_wp2_with fail
    go_ret
    exact ⟨_, rfl, h1, h2⟩

theorem Unsigned_any (va : Value) (b : List UInt8) (w : World) (hb : Byt w va b) : Calls Try.prog 8 #[va] w (UnsRet w b) := by
  have U := Lib.hid (Unvarint_any va b w hb)
  obtain ⟨h1, h2, h3⟩ := unv_le b
  unfold UnsRet unsg
  clear hb h2
  generalize unv b = p at *
  obtain ⟨v, n⟩ := p
  simp only at h1 h3
  by_cases h0 : n = 0
  · subst h0
    go_enter Try.func8, Try.ntmps8
    go_wp2_with fail
    refine U.out.mono ?_
    rintro e w' ⟨rfl, rfl⟩
    go_wp2_with fail
    go_ret3
    exact ⟨rfl, rfl⟩
  · have t1 : ((n : Int) == 0) = false := by simp; omega
    rw [if_neg h0]
    have Z := Lib.hid (zag_walk v h3)
    go_enter Try.func8, Try.ntmps8
    go_wp2_with fail
    refine U.out.mono ?_
    rintro e w' ⟨rfl, rfl⟩
    go_wp2_with fail
    go_ret3
    exact ⟨by rw [← Z.out]; rfl, rfl⟩
theorem UnsignedR_any (va : Value) (b : List UInt8) (w : World) (hb : Byt w va b) : Calls Try.prog 9 #[va] w (UnsRet w b) := by
  have U := Lib.hid (UnvarintR_any va b w hb)
  obtain ⟨h1, h2, h3⟩ := unv_le b
  unfold UnsRet unsg
  clear hb h2
  generalize unv b = p at *
  obtain ⟨v, n⟩ := p
  simp only at h1 h3
  by_cases h0 : n = 0
  · subst h0
    go_enter Try.func9, Try.ntmps9
    go_wp2_with fail
    refine U.out.mono ?_
    rintro e w' ⟨rfl, rfl⟩
    go_wp2_with fail
    go_ret3
    exact ⟨rfl, rfl⟩
  · have t1 : ((n : Int) == 0) = false := by simp; omega
    rw [if_neg h0]
    by_cases hv : v % 2 = 1
    · have t2 : ((v : Int) % 2 == 1) = true := by simp; omega
      have Z := Lib.hid (show zag v = -((v : Int) / 2) - 1 by unfold zag; rw [if_pos hv]; omega)
      clear hv
      go_enter Try.func9, Try.ntmps9
      go_wp2_with fail
      refine U.out.mono ?_
      rintro e w' ⟨rfl, rfl⟩
      go_wp2_with fail
      go_ret3
      exact ⟨by rw [Z.out]; rfl, rfl⟩
    · have t2 : ((v : Int) % 2 == 1) = false := by simp; omega
      have Z := Lib.hid (show zag v = (v : Int) / 2 by unfold zag; rw [if_neg hv]; omega)
      clear hv
      go_enter Try.func9, Try.ntmps9
      go_wp2_with fail
      refine U.out.mono ?_
      rintro e w' ⟨rfl, rfl⟩
      go_wp2_with fail
      go_ret3
      exact ⟨by rw [Z.out]; rfl, rfl⟩
end Go.Proofs.YthcfekabeidmiaaRR
