/- enc.Varint, and the document's: a number as bytes. -/
import Derived.Test.YthcfekabeidmiaaRRByt
import Derived.Test.YthcfekabeidmiaaRRU64
import Derived.Test.YthcfekabeidmiaaRREncMath
namespace Go.Proofs.YthcfekabeidmiaaRR
open Go.RowKit

/-- The call hands back bytes of its own. -/
def NewB (w : World) (l : List UInt8) (e : Ending) (w' : World) : Prop := ∃ v, e = .returned v ∧ Own w' w.heap.size v l ∧ Below w.heap.size w w'

theorem or128 (v : Nat) : v % 256 ||| 128 = v % 128 + 128 := by
  have h1 : v % 128 ||| 128 = v % 128 + 128 := by
    have := or_add (v % 128) 1 7 (by omega)
    simpa using this
  by_cases h : v % 256 < 128
  · rw [show v % 256 = v % 128 by omega, h1]
  · rw [show v % 256 = v % 128 + 128 by omega, ← h1, Nat.or_assoc, Nat.or_self]
theorem or_u8_nat (a b : Nat) (ha : a < 256) (hb : b < 256) : bits .or .u8 (a : Int) (b : Int) = ((a ||| b : Nat) : Int) := by
  have hx : a ||| b < 2 ^ 8 := Nat.or_lt_two_pow (by omega) (by omega)
  show IntKind.u8.wrap ((BitVec.ofInt 8 (a : Int) ||| BitVec.ofInt 8 (b : Int)).toNat : Int) = _
  rw [BitVec.toNat_or]
  have e1 : (BitVec.ofInt 8 (a : Int)).toNat = a := by rw [BitVec.ofInt_natCast]; simp; omega
  have e2 : (BitVec.ofInt 8 (b : Int)).toNat = b := by rw [BitVec.ofInt_natCast]; simp; omega
  rw [e1, e2]
  simp [IntKind.wrap, IntKind.bits, IntKind.signed]; omega
theorem vbyte (v : Nat) : bits .or .u8 ((v : Int) % 256) 128 = ((UInt8.ofNat (v % 128 + 128)).toNat : Int) := by
  have e : (v : Int) % 256 = ((v % 256 : Nat) : Int) := by omega
  have := or_u8_nat (v % 256) 128 (by omega) (by omega)
  rw [e, show (128 : Int) = ((128 : Nat) : Int) from rfl, this, or128]
  simp; omega
theorem vbyteR (v : Nat) (hv : v < 18446744073709551616) : bits .or .u64 (bits .and .u64 (v : Int) 127) 128 % 256 = ((UInt8.ofNat (v % 128 + 128)).toNat : Int) := by
  have h1 := and_u64_nat v 127 hv (by omega)
  rw [show v &&& 127 = v % 128 from Nat.and_two_pow_sub_one_eq_mod v 7] at h1
  have h2 := or_u64_nat (v % 128) 128 (by omega) (by omega)
  have h3 : v % 128 ||| 128 = v % 128 + 128 := by
    have := or_add (v % 128) 1 7 (by omega)
    simpa using this
  rw [show (127 : Int) = ((127 : Nat) : Int) from rfl, h1, show (128 : Int) = ((128 : Nat) : Int) from rfl, h2, h3]
  simp
theorem vlast (v : Nat) : (v : Int) % 256 = ((UInt8.ofNat v).toNat : Int) := by
  simp

set_option maxRecDepth 100000 in
theorem Varint_any (v : Nat) (hv : v < 18446744073709551616) (w : World) : Calls Try.prog 11 #[.int .u64 (v : Int)] w (NewB w (vint v)) := by
  have hL := vint_len64 v hv
  go_enter Try.func11, Try.ntmps11
  go_wp2_with fail
  go_loopw [0, 3] (fun i b wr => ∃ (z : Nat) (L : List UInt8), z < 18446744073709551616 ∧ i = .int .u64 (z : Int) ∧ Hid (vint v = L ++ vint z) ∧ Own wr w.heap.size b L ∧ Below w.heap.size w wr) (fun i _ _ => (intOf i).toNat)
  case atStart => exact ⟨v, [], hv, rfl, Lib.hid rfl, World.ownsRow_nil _ _ _ _, Below.refl _ _⟩
  case round =>
    obtain ⟨z, L, hz, rfl, hh, ho, hb⟩ := hrel
    have hs := hb.size
    have hLl : L.length ≤ 9 := by
      have h1 := congrArg List.length hh.out
      have h2 := vint_pos z
      rw [List.length_append] at h1
      omega
    have hz1 : (z : Int) ≤ 18446744073709551615 := by omega
    by_cases hlt : z < 128
    · have t1 : decide ((128 : Int) ≤ (z : Int)) = false := by simp; omega
      have HF := Lib.hid (show vint v = L ++ [UInt8.ofNat z] by rw [hh.out, vint_small hlt])
      have HB := Lib.hid (vlast z)
      clear hlt
      generalize UInt8.ofNat z = d at *
      have hlit : Byt (wr.alloc (.cells #[.int .u8 (d.toNat : Int)] 5)) (.slice (some ⟨wr.heap.size, 0, none⟩) 1 1) [d] := byt_lit wr [d] (0, 0) (by simp [maxLen])
      have ho1 : Own (wr.alloc (.cells #[.int .u8 (d.toNat : Int)] 5)) w.heap.size u3 L := World.ownsRow.alloc ho _
      have hb1 := hb.alloc hs (.cells #[.int .u8 (d.toNat : Int)] 5)
      have hs1 := hb1.size
      go_wp2_with (at_builtin; rw [HB.out]; refine wpList_append_byt rfl _ _ rfl w.heap.size u3 L rfl ho1 _ [d] rfl hlit (by simp; omega) hs1 ?_)
      intro v3 w3 ho3 hb3
      go_wp2_with fail
      go_ret
      exact ⟨_, rfl, by rw [HF.out]; exact ho3, hb1.trans hb3⟩
    · have t1 : decide ((128 : Int) ≤ (z : Int)) = true := by simp; omega
      have HF := Lib.hid (show vint v = (L ++ [UInt8.ofNat (z % 128 + 128)]) ++ vint (z / 128) by rw [hh.out, vint_big hlt]; simp)
      have HB := Lib.hid (vbyte z)
      generalize UInt8.ofNat (z % 128 + 128) = d at *
      have hlit : Byt (wr.alloc (.cells #[.int .u8 (d.toNat : Int)] 5)) (.slice (some ⟨wr.heap.size, 0, none⟩) 1 1) [d] := byt_lit wr [d] (0, 0) (by simp [maxLen])
      have ho1 : Own (wr.alloc (.cells #[.int .u8 (d.toNat : Int)] 5)) w.heap.size u3 L := World.ownsRow.alloc ho _
      have hb1 := hb.alloc hs (.cells #[.int .u8 (d.toNat : Int)] 5)
      have hs1 := hb1.size
      go_wp2_with (at_builtin; rw [HB.out]; refine wpList_append_byt rfl _ _ rfl w.heap.size u3 L rfl ho1 _ [d] rfl hlit (by simp; omega) hs1 ?_)
      intro v3 w3 ho3 hb3
      have hb4 := hb1.trans hb3
      clear hlit ho1 ho hb3
      go_wp2_with fail
      go_roundw
      case rel => exact ⟨z / 128, _, by omega, by first | rfl | (congr 1; omega), HF, ho3, hb4⟩
      case measure => simp [intOf]; omega

set_option maxRecDepth 100000 in
theorem VarintR_any (v : Nat) (hv : v < 18446744073709551616) (w : World) : Calls Try.prog 12 #[.int .u64 (v : Int)] w (NewB w (vint v)) := by
  have hL := vint_len64 v hv
  go_enter Try.func12, Try.ntmps12
  go_wp2_with fail
  go_loopw [0, 3] (fun i b wr => ∃ (z : Nat) (L : List UInt8), z < 18446744073709551616 ∧ i = .int .u64 (z : Int) ∧ Hid (vint v = L ++ vint z) ∧ Own wr w.heap.size b L ∧ Below w.heap.size w wr) (fun i _ _ => (intOf i).toNat)
  case atStart => exact ⟨v, [], hv, rfl, Lib.hid rfl, World.ownsRow_nil _ _ _ _, Below.refl _ _⟩
  case round =>
    obtain ⟨z, L, hz, rfl, hh, ho, hb⟩ := hrel
    have hs := hb.size
    have hLl : L.length ≤ 9 := by
      have h1 := congrArg List.length hh.out
      have h2 := vint_pos z
      rw [List.length_append] at h1
      omega
    have hz1 : (z : Int) ≤ 18446744073709551615 := by omega
    by_cases hlt : z < 128
    · have t1 : decide ((128 : Int) ≤ (z : Int)) = false := by simp; omega
      have HF := Lib.hid (show vint v = L ++ [UInt8.ofNat z] by rw [hh.out, vint_small hlt])
      have HB := Lib.hid (vlast z)
      clear hlt
      generalize UInt8.ofNat z = d at *
      have hlit : Byt (wr.alloc (.cells #[.int .u8 (d.toNat : Int)] 5)) (.slice (some ⟨wr.heap.size, 0, none⟩) 1 1) [d] := byt_lit wr [d] (0, 0) (by simp [maxLen])
      have ho1 : Own (wr.alloc (.cells #[.int .u8 (d.toNat : Int)] 5)) w.heap.size u3 L := World.ownsRow.alloc ho _
      have hb1 := hb.alloc hs (.cells #[.int .u8 (d.toNat : Int)] 5)
      have hs1 := hb1.size
      go_wp2_with (at_builtin; rw [HB.out]; refine wpList_append_byt rfl _ _ rfl w.heap.size u3 L rfl ho1 _ [d] rfl hlit (by simp; omega) hs1 ?_)
      intro v3 w3 ho3 hb3
      go_wp2_with fail
      go_ret
      exact ⟨_, rfl, by rw [HF.out]; exact ho3, hb1.trans hb3⟩
    · have t1 : decide ((128 : Int) ≤ (z : Int)) = true := by simp; omega
      have HF := Lib.hid (show vint v = (L ++ [UInt8.ofNat (z % 128 + 128)]) ++ vint (z / 128) by rw [hh.out, vint_big hlt]; simp)
      have HB := Lib.hid (vbyteR z hz)
      generalize UInt8.ofNat (z % 128 + 128) = d at *
      have hlit : Byt (wr.alloc (.cells #[.int .u8 (d.toNat : Int)] 5)) (.slice (some ⟨wr.heap.size, 0, none⟩) 1 1) [d] := byt_lit wr [d] (0, 0) (by simp [maxLen])
      have ho1 : Own (wr.alloc (.cells #[.int .u8 (d.toNat : Int)] 5)) w.heap.size u3 L := World.ownsRow.alloc ho _
      have hb1 := hb.alloc hs (.cells #[.int .u8 (d.toNat : Int)] 5)
      have hs1 := hb1.size
      go_wp2_with (at_builtin; rw [HB.out]; refine wpList_append_byt rfl _ _ rfl w.heap.size u3 L rfl ho1 _ [d] rfl hlit (by simp; omega) hs1 ?_)
      intro v3 w3 ho3 hb3
      have hb4 := hb1.trans hb3
      clear hlit ho1 ho hb3
      go_wp2_with fail
      go_roundw
      case rel => exact ⟨z / 128, _, by omega, by first | rfl | (congr 1; omega), HF, ho3, hb4⟩
      case measure => simp [intOf]; omega
end Go.Proofs.YthcfekabeidmiaaRR
