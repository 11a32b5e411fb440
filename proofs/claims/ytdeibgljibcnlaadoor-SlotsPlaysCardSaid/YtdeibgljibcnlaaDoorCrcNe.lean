/- One byte other: another check sum. -/
import Derived.Test.YtdeibgljibcnlaaDoorByt
namespace Go.Proofs.YtdeibgljibcnlaaDoor
open Go.RowKit

theorem crcBit_inj {x y : BitVec 32} (h : crcBit x = crcBit y) : x = y := by
  have hx : ∀ z : BitVec 32, crcBit z = (z >>> 1) ^^^ (if z.getLsbD 0 then 0xedb88320#32 else 0#32) := by
    intro z
    have h : z &&& 1#32 = if z.getLsbD 0 = true then 1#32 else 0#32 := by
      apply BitVec.eq_of_toNat_eq
      have e : (z &&& 1#32).toNat = z.toNat % 2 := by rw [BitVec.toNat_and]; exact Nat.and_one_is_mod _
      rw [e, BitVec.getLsbD, Nat.testBit_zero]
      rcases Nat.mod_two_eq_zero_or_one z.toNat with h0 | h0 <;> simp [h0]
    unfold crcBit
    rw [h]
    cases z.getLsbD 0 <;> simp <;> rfl
  rw [hx, hx] at h
  have bits : ∀ i, i < 32 → ((x >>> 1).getLsbD i ^^ (if x.getLsbD 0 then 0xedb88320#32 else 0#32 : BitVec 32).getLsbD i) = ((y >>> 1).getLsbD i ^^ (if y.getLsbD 0 then 0xedb88320#32 else 0#32 : BitVec 32).getLsbD i) := by
    intro i _
    have := congrArg (fun v => BitVec.getLsbD v i) h
    simp only [BitVec.getLsbD_xor] at this
    exact this
  have h31 := bits 31 (by omega)
  have h0 : x.getLsbD 0 = y.getLsbD 0 := by
    simp only [BitVec.getLsbD_ushiftRight] at h31
    rw [BitVec.getLsbD_of_ge x (1 + 31) (by omega), BitVec.getLsbD_of_ge y (1 + 31) (by omega)] at h31
    cases hx0 : x.getLsbD 0 <;> cases hy0 : y.getLsbD 0 <;> rw [hx0, hy0] at h31 <;> first | rfl | (exact absurd h31 (by decide))
  apply BitVec.eq_of_getLsbD_eq
  intro i hi
  match i with
  | 0 => exact h0
  | i + 1 =>
    have := bits i (by omega)
    rw [h0] at this
    simp only [BitVec.getLsbD_ushiftRight, Nat.add_comm 1 i] at this
    generalize (if y.getLsbD 0 = true then 0xedb88320#32 else 0#32 : BitVec 32).getLsbD i = q at this
    revert this
    cases x.getLsbD (i + 1) <;> cases y.getLsbD (i + 1) <;> cases q <;> simp
theorem crcBits_inj : ∀ (n : Nat) {x y : BitVec 32}, crcBits n x = crcBits n y → x = y
  | 0, _, _, h => h
  | n + 1, _, _, h => crcBits_inj n (crcBit_inj h)
theorem crcFold_inj : ∀ (l : List UInt8) {r s : BitVec 32}, crcFold r l = crcFold s l → r = s
  | [], _, _, h => h
  | c :: l, r, s, h => by
    have h1 : crcByte r c = crcByte s c := crcFold_inj l h
    have h2 := crcBits_inj 8 h1
    have h3 := congrArg (fun v => v ^^^ BitVec.ofNat 32 c.toNat) h2
    simpa [BitVec.xor_assoc] using h3
theorem crcByte_ne (r : BitVec 32) {c d : UInt8} (h : c ≠ d) : crcByte r c ≠ crcByte r d := by
  intro e
  have h2 := crcBits_inj 8 e
  have h3 := congrArg (fun v => r ^^^ v) h2
  simp only [← BitVec.xor_assoc, BitVec.xor_self, BitVec.zero_xor] at h3
  apply h
  have h4 := congrArg BitVec.toNat h3
  have := c.toNat_lt; have := d.toNat_lt
  simp only [BitVec.toNat_ofNat] at h4
  exact UInt8.toNat_inj.1 (by omega)
/-- one byte other: another sum -/
theorem crcSum_ne (a b : List UInt8) {c d : UInt8} (h : c ≠ d) : crcSum (a ++ c :: b) ≠ crcSum (a ++ d :: b) := by
  intro e
  unfold crcSum at e
  have e1 : crcFold 0xffffffff#32 (a ++ c :: b) = crcFold 0xffffffff#32 (a ++ d :: b) := by
    have := congrArg (fun v => ~~~ v) e
    simpa using this
  unfold crcFold at e1
  rw [List.foldl_append, List.foldl_append, List.foldl_cons, List.foldl_cons] at e1
  exact crcByte_ne _ h (crcFold_inj b e1)

end Go.Proofs.YtdeibgljibcnlaaDoor
