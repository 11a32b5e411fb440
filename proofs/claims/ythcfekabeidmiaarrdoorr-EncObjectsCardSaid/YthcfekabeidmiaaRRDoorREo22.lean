/- enc.Unvarint, and the document's: the number that bytes begin with. pergolaref8.Unvarint: the same number. Numbers with signs: enc.Signed, enc.Unsigned, and the document's. -/
import Derived.Test.YthcfekabeidmiaaRRDoorREo21
import Derived.OwnWalk
set_option linter.unusedSimpArgs false
set_option linter.unusedVariables false
namespace Go.Proofs.YthcfekabeidmiaaRRDoorR
/-! EncUn -/
section
open Go.RowKit

theorem unvAt_out (b : List UInt8) (i v : Nat) (h : b.length ≤ i) (hi : i < 10) : unvAt b (10 - i) v = (0, 0) := by
  obtain ⟨k, hk⟩ : ∃ k, 10 - i = k + 1 := ⟨9 - i, by omega⟩
  rw [hk, unvAt, show 9 - k = i by omega, List.getElem?_eq_none h]
theorem unvAt_in (b : List UInt8) (i v : Nat) (h : i < b.length) (hi : i < 10) : unvAt b (10 - i) v =
    if b[i].toNat < 128 then (if (i = 9 ∧ 1 < b[i].toNat) ∨ (0 < i ∧ b[i].toNat = 0) then (0, 0) else (v + b[i].toNat * 128 ^ i, i + 1)) else unvAt b (10 - (i + 1)) (v + b[i].toNat % 128 * 128 ^ i) := by
  obtain ⟨k, hk⟩ : ∃ k, 10 - i = k + 1 := ⟨9 - i, by omega⟩
  rw [hk, unvAt, show 9 - k = i by omega, List.getElem?_eq_getElem h, show 10 - (i + 1) = k by omega, show 10 - k = i + 1 by omega]
  simp only
  by_cases hc : b[i].toNat < 128
  · rw [if_pos hc, if_pos hc]
    by_cases hq : (i = 9 ∧ 1 < b[i].toNat) ∨ (0 < i ∧ b[i].toNat = 0)
    · rw [if_pos hq, if_pos]
      rcases hq with ⟨h1, h2⟩ | ⟨h1, h2⟩
      · exact Or.inl ⟨by omega, h2⟩
      · exact Or.inr ⟨by omega, h2⟩
    · rw [if_neg hq, if_neg]
      rintro (⟨h1, h2⟩ | ⟨h1, h2⟩)
      · exact hq (Or.inl ⟨by omega, h2⟩)
      · exact hq (Or.inr ⟨by omega, h2⟩)
  · rw [if_neg hc, if_neg hc]

theorem and127 (c : UInt8) : bits .and .u8 (c.toNat : Int) 127 = ((c.toNat % 128 : Nat) : Int) := by
  have hc := c.toNat_lt
  show IntKind.u8.wrap ((BitVec.ofInt 8 (c.toNat : Int) &&& BitVec.ofInt 8 127).toNat : Int) = _
  rw [BitVec.toNat_and]
  have e1 : (BitVec.ofInt 8 (c.toNat : Int)).toNat = c.toNat := by rw [BitVec.ofInt_natCast]; simp
  have e2 : (BitVec.ofInt 8 (127 : Int)).toNat = 127 := by decide
  rw [e1, e2, show c.toNat &&& 127 = c.toNat % 128 from Nat.and_two_pow_sub_one_eq_mod _ 7]
  simp [IntKind.wrap, IntKind.bits, IntKind.signed]; omega
theorem vstep (v q i : Nat) (hv : v < 128 ^ i) (hq : q < 128) (hi : i < 9 ∨ (i = 9 ∧ q ≤ 1)) :
    bits .or .u64 (v : Int) (IntKind.u64.wrap ((q : Int) * 2 ^ (7 * i))) = ((v + q * 128 ^ i : Nat) : Int) := by
  have e7 : (128 : Nat) ^ i = 2 ^ (7 * i) := by rw [Nat.pow_mul]
  have hle : q * 128 ^ i < 18446744073709551616 := by
    rcases hi with h | ⟨rfl, h⟩
    · have h1 : 128 ^ i ≤ 128 ^ 8 := Nat.pow_le_pow_right (by omega) (by omega)
      have : q * 128 ^ i ≤ 127 * 128 ^ i := Nat.mul_le_mul_right _ (by omega)
      omega
    · have : q * 128 ^ 9 ≤ 1 * 128 ^ 9 := Nat.mul_le_mul_right _ h
      omega
  have hv64 : v < 18446744073709551616 := by
    have h1 : 128 ^ i ≤ 128 ^ 9 := Nat.pow_le_pow_right (by omega) (by omega)
    omega
  rw [cast_mul2, ← e7, wrap_u64_nat _ hle, or_u64_nat _ _ hv64 hle, e7, or_add64 _ _ _ (by rwa [← e7])]

theorem vchunk (v i : Nat) (c : UInt8) (hv : v < 128 ^ i) (h : i < 9 ∨ (i = 9 ∧ c.toNat % 128 ≤ 1)) :
    bits .or .u64 (v : Int) (IntKind.u64.wrap (IntKind.u64.wrap (bits .and .u8 (c.toNat : Int) 127) * 2 ^ (7 * i))) = ((v + c.toNat % 128 * 128 ^ i : Nat) : Int) := by
  rw [and127, wrap_u64_nat _ (by omega)]
  exact vstep v _ i hv (by omega) h

set_option maxRecDepth 100000 in
set_option maxHeartbeats 1000000 in
theorem Unvarint_any (va : Value) (b : List UInt8) (w : World) (hb : Byt w va b) : Calls Tryd.prog 45 #[va] w fun e w' => e = .returned (.tuple #[.int .u64 ((unv b).1 : Int), .int .i64 ((unv b).2 : Int)]) ∧ w = w' := by
  obtain ⟨ao, cp, rfl, h1, h2, h0, h3⟩ := hb.open
  unfold maxLen at h2
  clear h0
  go_enter Tryd.func45, Tryd.ntmps45
  go_wp2_with fail
  go_loop [2, 3] (fun vv n => ∃ (i : Nat) (x : Int), i ≤ 10 ∧ n = .int .i64 (i : Int) ∧ vv = .int .u64 x ∧ Hid ((i < 10 → ∃ v : Nat, x = (v : Int) ∧ v < 128 ^ i ∧ unv b = unvAt b (10 - i) v) ∧ (i = 10 → unv b = (0, 0)))) (fun _ n => 10 - (intOf n).toNat)
  case atStart => exact ⟨0, 0, by omega, rfl, rfl, Lib.hid ⟨fun _ => ⟨0, rfl, by omega, rfl⟩, fun h => by omega⟩⟩
  case round =>
    obtain ⟨i, x, hi, rfl, rfl, hh⟩ := hrel
    by_cases hlt : i < 10
    · obtain ⟨v, rfl, hv, hu⟩ := hh.out.1 hlt
      have t2 : decide ((10 : Int) ≤ (i : Int)) = false := by simp; omega
      by_cases hl : i < b.length
      · have t1 : decide ((b.length : Int) ≤ (i : Int)) = false := by simp; omega
        obtain ⟨g, off, rfl, hg, hc⟩ := h3 i hl
        rw [unvAt_in b i v hl hlt] at hu
        generalize b[i] = c at *
        have hc8 := c.toNat_lt
        have VS0 := fun (h : i < 9 ∨ (i = 9 ∧ c.toNat % 128 ≤ 1)) => vchunk v i c hv h
        have HV := Lib.hid hv
        have HI := Lib.hid hlt
        clear hv hh
        by_cases hcc : c.toNat < 128
        · have d1 : decide ((128 : Int) ≤ (c.toNat : Int)) = false := by simp; omega
          rw [if_pos hcc] at hu
          by_cases hbad : (i = 9 ∧ 1 < c.toNat) ∨ (0 < i ∧ c.toNat = 0)
          · rw [if_pos hbad] at hu
            have HF := Lib.hid hu
            clear hu VS0 hcc
            rcases hbad with ⟨rfl, h9⟩ | ⟨hi0, hc0⟩
            · have d2 : decide ((1 : Int) < (c.toNat : Int)) = true := by simp; omega
              clear h9
              go_wp2_with fail
              go_ret2
              exact ⟨by rw [HF.out]; rfl, rfl⟩
            · have d2 : ((c.toNat : Int) == 0) = true := by simp; omega
              have d3 : decide ((1 : Int) < (i : Int) + 1) = true := by simp; omega
              have d4 : decide ((1 : Int) < (c.toNat : Int)) = false := by simp; omega
              clear hc0 hi0
              by_cases h9 : i = 9
              · subst h9
                go_wp2_with fail
                go_ret2
                exact ⟨by rw [HF.out]; rfl, rfl⟩
              · have d5 : ((i : Int) + 1 == 10) = false := by simp; omega
                clear h9
                go_wp2_with fail
                go_ret2
                exact ⟨by rw [HF.out]; rfl, rfl⟩
          · rw [if_neg hbad] at hu
            have VS := Lib.hid (VS0 (by omega))
            have hm : c.toNat % 128 = c.toNat := Nat.mod_eq_of_lt hcc
            have HF := Lib.hid (show unv b = (v + c.toNat % 128 * 128 ^ i, i + 1) by rw [hu, hm])
            clear hu VS0 hcc hm
            by_cases h9 : i = 9
            · subst h9
              have d2 : decide ((1 : Int) < (c.toNat : Int)) = false := by simp; omega
              have d4 : ((c.toNat : Int) == 0) = false := by simp; omega
              clear hbad
              go_wp2_with fail
              go_ret2
              exact ⟨by rw [HF.out, ← VS.out]; rfl, rfl⟩
            · have d5 : ((i : Int) + 1 == 10) = false := by simp; omega
              clear h9
              by_cases h0 : 0 < i
              · have d4 : ((c.toNat : Int) == 0) = false := by simp; omega
                have d3 : decide ((1 : Int) < (i : Int) + 1) = true := by simp; omega
                clear hbad h0
                go_wp2_with fail
                go_ret2
                exact ⟨by rw [HF.out, ← VS.out]; rfl, rfl⟩
              · have d3 : decide ((1 : Int) < (i : Int) + 1) = false := by simp; omega
                clear hbad h0
                go_wp2_with fail
                go_ret2
                exact ⟨by rw [HF.out, ← VS.out]; rfl, rfl⟩
        · have d1 : decide ((128 : Int) ≤ (c.toNat : Int)) = true := by simp; omega
          rw [if_neg hcc] at hu
          have HU := Lib.hid hu
          have HC := Lib.hid hc8
          have HVS := Lib.hid VS0
          clear hu hcc VS0
          go_wp2_with fail
          go_round
          case rel =>
            refine ⟨i + 1, _, by omega, by go_num, rfl, Lib.hid ⟨fun hlt2 => ?_, fun h10 => ?_⟩⟩
            · refine ⟨_, HVS.out (Or.inl (by omega)), ?_, HU.out⟩
              have := HV.out
              have hm : c.toNat % 128 * 128 ^ i ≤ 127 * 128 ^ i := Nat.mul_le_mul_right _ (by omega)
              rw [Nat.pow_succ]; omega
            · rw [HU.out, h10]; rfl
          case measure => simp [intOf]; omega
      · have t1 : decide ((b.length : Int) ≤ (i : Int)) = true := by simp; omega
        have HF := Lib.hid (hu.trans (unvAt_out b i v (by omega) hlt))
        clear hu hv hh
        go_wp2_with fail
        go_ret2
        exact ⟨by rw [HF.out]; rfl, rfl⟩
    · obtain rfl : i = 10 := by omega
      have HF := Lib.hid (hh.out.2 rfl)
      clear hh
      have t2 : decide ((10 : Int) ≤ ((10 : Nat) : Int)) = true := by simp
      by_cases hl : 10 < b.length
      · have t1 : decide ((b.length : Int) ≤ ((10 : Nat) : Int)) = false := by simp; omega
        go_wp2_with fail
        go_ret2
        exact ⟨by rw [HF.out]; rfl, rfl⟩
      · have t1 : decide ((b.length : Int) ≤ ((10 : Nat) : Int)) = true := by simp; omega
        go_wp2_with fail
        go_ret2
        exact ⟨by rw [HF.out]; rfl, rfl⟩
end

/-! EncUnR -/
section
open Go.RowKit

set_option maxRecDepth 100000 in
set_option maxHeartbeats 1000000 in
theorem UnvarintR_any (va : Value) (b : List UInt8) (w : World) (hb : Byt w va b) : Calls Tryd.prog 21 #[va] w fun e w' => e = .returned (.tuple #[.int .u64 ((unv b).1 : Int), .int .i64 ((unv b).2 : Int)]) ∧ w = w' := by
  obtain ⟨ao, cp, rfl, h1, h2, h0, h3⟩ := hb.open
  unfold maxLen at h2
  clear h0
  go_enter Tryd.func21, Tryd.ntmps21
  go_wp2_with fail
  go_loop [4, 5] (fun vv n => ∃ (i : Nat) (x : Int), i ≤ 10 ∧ n = .int .i64 (i : Int) ∧ vv = .int .u64 x ∧ Hid ((i < 10 → ∃ v : Nat, x = (v : Int) ∧ v < 128 ^ i ∧ unv b = unvAt b (10 - i) v) ∧ (i = 10 → unv b = (0, 0)))) (fun _ n => 10 - (intOf n).toNat)
  case atStart => exact ⟨0, 0, by omega, rfl, rfl, Lib.hid ⟨fun _ => ⟨0, rfl, by omega, rfl⟩, fun h => by omega⟩⟩
  case round =>
    obtain ⟨i, x, hi, rfl, rfl, hh⟩ := hrel
    by_cases hlt : i < 10
    · obtain ⟨v, rfl, hv, hu⟩ := hh.out.1 hlt
      have t2 : decide ((i : Int) < 10) = true := by simp; omega
      by_cases hl : i < b.length
      · have t1 : decide ((i : Int) < (b.length : Int)) = true := by simp; omega
        obtain ⟨g, off, rfl, hg, hc⟩ := h3 i hl
        rw [unvAt_in b i v hl hlt] at hu
        generalize b[i] = c at *
        have hc8 := c.toNat_lt
        have VS0 := fun (h : i < 9 ∨ (i = 9 ∧ c.toNat % 128 ≤ 1)) => vchunk v i c hv h
        have HV := Lib.hid hv
        have HI := Lib.hid hlt
        clear hv hh
        by_cases hcc : c.toNat < 128
        · have d1 : decide ((c.toNat : Int) < 128) = true := by simp; omega
          rw [if_pos hcc] at hu
          by_cases hbad : (i = 9 ∧ 1 < c.toNat) ∨ (0 < i ∧ c.toNat = 0)
          · rw [if_pos hbad] at hu
            have HF := Lib.hid hu
            clear hu VS0 hcc
            rcases hbad with ⟨rfl, h9⟩ | ⟨hi0, hc0⟩
            · have d2 : decide ((1 : Int) < (c.toNat : Int)) = true := by simp; omega
              clear h9
              go_wp2_with fail
              go_ret2
              exact ⟨by rw [HF.out]; rfl, rfl⟩
            · have d2 : ((c.toNat : Int) == 0) = true := by simp; omega
              have d3 : decide (0 < i) = true := by simp; omega
              have d4 : decide ((1 : Int) < (c.toNat : Int)) = false := by simp; omega
              clear hc0 hi0
              by_cases h9 : i = 9
              · subst h9
                go_wp2_with fail
                go_ret2
                exact ⟨by rw [HF.out]; rfl, rfl⟩
              · have d5 : ((i : Int) == 9) = false := by simp; omega
                clear h9
                go_wp2_with fail
                go_ret2
                exact ⟨by rw [HF.out]; rfl, rfl⟩
          · rw [if_neg hbad] at hu
            have VS := Lib.hid (VS0 (by omega))
            have hm : c.toNat % 128 = c.toNat := Nat.mod_eq_of_lt hcc
            have HF := Lib.hid (show unv b = (v + c.toNat % 128 * 128 ^ i, i + 1) by rw [hu, hm])
            clear hu VS0 hcc hm
            by_cases h9 : i = 9
            · subst h9
              have d2 : decide ((1 : Int) < (c.toNat : Int)) = false := by simp; omega
              have d4 : ((c.toNat : Int) == 0) = false := by simp; omega
              clear hbad
              go_wp2_with fail
              go_ret2
              exact ⟨by rw [HF.out, ← VS.out]; rfl, rfl⟩
            · have d5 : ((i : Int) == 9) = false := by simp; omega
              clear h9
              by_cases h0 : 0 < i
              · have d4 : ((c.toNat : Int) == 0) = false := by simp; omega
                have d3 : decide (0 < i) = true := by simp; omega
                clear hbad h0
                go_wp2_with fail
                go_ret2
                exact ⟨by rw [HF.out, ← VS.out]; rfl, rfl⟩
              · have d3 : decide (0 < i) = false := by simp; omega
                by_cases hc0 : c.toNat = 0
                · have d4 : ((c.toNat : Int) == 0) = true := by simp; omega
                  have VX := VS.out
                  rw [hc0] at VX
                  have VZ := Lib.hid VX
                  have HZ := Lib.hid (show unv b = (v + 0 % 128 * 128 ^ i, i + 1) by rw [HF.out, hc0])
                  clear hbad h0 hc0 VX
                  go_wp2_with fail
                  go_ret2
                  exact ⟨by first | (rw [HF.out, ← VS.out]; rfl) | (rw [HZ.out, ← VZ.out]; rfl), rfl⟩
                · have d4 : ((c.toNat : Int) == 0) = false := by simp; omega
                  clear hbad h0 hc0
                  go_wp2_with fail
                  go_ret2
                  exact ⟨by rw [HF.out, ← VS.out]; rfl, rfl⟩
        · have d1 : decide ((c.toNat : Int) < 128) = false := by simp; omega
          rw [if_neg hcc] at hu
          have HU := Lib.hid hu
          have HC := Lib.hid hc8
          have HVS := Lib.hid VS0
          by_cases h9 : i = 9
          · subst h9
            have HF := Lib.hid (show unv b = (0, 0) by rw [HU.out]; rfl)
            have d2 : decide ((1 : Int) < (c.toNat : Int)) = true := by simp; omega
            clear hu hcc VS0
            go_wp2_with fail
            go_ret2
            exact ⟨by rw [HF.out]; rfl, rfl⟩
          · have d5 : ((i : Int) == 9) = false := by simp; omega
            have H9 := Lib.hid h9
            clear hu hcc VS0 h9
            go_wp2_with fail
            go_round
            case rel =>
              refine ⟨i + 1, _, by omega, by go_num, rfl, Lib.hid ⟨fun hlt2 => ?_, fun h10 => ?_⟩⟩
              · refine ⟨_, HVS.out (Or.inl (by omega)), ?_, HU.out⟩
                have := HV.out
                have hm : c.toNat % 128 * 128 ^ i ≤ 127 * 128 ^ i := Nat.mul_le_mul_right _ (by omega)
                rw [Nat.pow_succ]; omega
              · exact absurd (show i = 9 by omega) H9.out
            case measure => simp [intOf]; omega
      · have t1 : decide ((i : Int) < (b.length : Int)) = false := by simp; omega
        have HF := Lib.hid (hu.trans (unvAt_out b i v (by omega) hlt))
        clear hu hv hh
        go_wp2_with fail
        go_ret2
        exact ⟨by rw [HF.out]; rfl, rfl⟩
    · obtain rfl : i = 10 := by omega
      have HF := Lib.hid (hh.out.2 rfl)
      clear hh
      have t2 : decide (((10 : Nat) : Int) < 10) = false := by simp
      by_cases hl : 10 < b.length
      · have t1 : decide (((10 : Nat) : Int) < (b.length : Int)) = true := by simp; omega
        go_wp2_with fail
        go_ret2
        exact ⟨by rw [HF.out]; rfl, rfl⟩
      · have t1 : decide (((10 : Nat) : Int) < (b.length : Int)) = false := by simp; omega
        go_wp2_with fail
        go_ret2
        exact ⟨by rw [HF.out]; rfl, rfl⟩
end

/-! EncS -/
section
open Go.RowKit

/-- The call hands back a number with a sign, how many bytes it has, and whether there is one. -/
def UnsRet (w : World) (b : List UInt8) (e : Ending) (w' : World) : Prop := e = .returned (.tuple #[.int .i64 (unsg b).1, .int .i64 ((unsg b).2.1 : Int), .bool (unsg b).2.2]) ∧ w = w'

theorem xor_ones_u64 (a : Nat) (ha : a < 18446744073709551616) : bits .xor .u64 (a : Int) 18446744073709551615 = ((18446744073709551615 - a : Nat) : Int) := by
  show IntKind.u64.wrap ((BitVec.ofInt 64 (a : Int) ^^^ BitVec.ofInt 64 18446744073709551615).toNat : Int) = _
  rw [show BitVec.ofInt 64 18446744073709551615 = BitVec.allOnes 64 by decide, BitVec.xor_allOnes, BitVec.toNat_not, ofInt_nat64 a ha, wrap_u64_nat _ (by omega)]
theorem xor_zero_u64 (a : Nat) (ha : a < 18446744073709551616) : bits .xor .u64 (a : Int) 0 = (a : Int) := by
  show IntKind.u64.wrap ((BitVec.ofInt 64 (a : Int) ^^^ BitVec.ofInt 64 0).toNat : Int) = _
  rw [show BitVec.ofInt 64 0 = 0#64 by decide, BitVec.xor_zero, ofInt_nat64 a ha, wrap_u64_nat _ (by omega)]
theorem zig_walk (n : Int) (hn : -9223372036854775808 ≤ n ∧ n ≤ 9223372036854775807) :
    bits .xor .u64 (IntKind.u64.wrap (IntKind.u64.wrap n * 2)) (IntKind.u64.wrap (n / 9223372036854775808)) = (zig n : Int) := by
  have w : ∀ x : Int, IntKind.u64.wrap x = x % 18446744073709551616 := fun x => by simp [IntKind.wrap, IntKind.bits, IntKind.signed]
  rw [w, w, w]
  unfold zig
  by_cases h : n < 0
  · rw [if_pos h, show n / 9223372036854775808 % 18446744073709551616 = 18446744073709551615 by omega]
    obtain ⟨k, hk⟩ := Int.eq_ofNat_of_zero_le (show 0 ≤ n % 18446744073709551616 * 2 % 18446744073709551616 by omega)
    rw [hk, xor_ones_u64 k (by omega)]
    omega
  · rw [if_neg h, show n / 9223372036854775808 % 18446744073709551616 = 0 by omega]
    obtain ⟨k, hk⟩ := Int.eq_ofNat_of_zero_le (show 0 ≤ n % 18446744073709551616 * 2 % 18446744073709551616 by omega)
    rw [hk, xor_zero_u64 k (by omega)]
    omega
theorem zag_walk (v : Nat) (hv : v < 18446744073709551616) :
    bits .xor .i64 ((v : Int) / 2) (wrap64 (-wrap64 (bits .and .u64 (v : Int) 1))) = zag v := by
  rw [and1_u64 v hv]
  unfold zag
  rw [show (v : Int) / 2 = ((v / 2 : Nat) : Int) by omega]
  by_cases h : v % 2 = 1
  · rw [if_pos h, h, show wrap64 (-wrap64 ((1 : Nat) : Int)) = -1 by simp [wrap64]]
    show IntKind.i64.wrap ((BitVec.ofInt 64 ((v / 2 : Nat) : Int) ^^^ BitVec.ofInt 64 (-1)).toNat : Int) = _
    rw [show BitVec.ofInt 64 (-1) = BitVec.allOnes 64 by decide, BitVec.xor_allOnes, BitVec.toNat_not, ofInt_nat64 (v / 2) (by omega)]
    simp [IntKind.wrap, IntKind.bits, IntKind.signed]
    omega
  · rw [if_neg h, show v % 2 = 0 by omega, show wrap64 (-wrap64 ((0 : Nat) : Int)) = 0 by simp [wrap64]]
    show IntKind.i64.wrap ((BitVec.ofInt 64 ((v / 2 : Nat) : Int) ^^^ BitVec.ofInt 64 0).toNat : Int) = _
    rw [show BitVec.ofInt 64 0 = 0#64 by decide, BitVec.xor_zero, ofInt_nat64 (v / 2) (by omega)]
    exact IntWalk.i64_in _ (by omega)

theorem Signed_any (n : Int) (hn : -9223372036854775808 ≤ n ∧ n ≤ 9223372036854775807) (w : World) : Calls Tryd.prog 13 #[.int .i64 n] w (NewB w (vint (zig n))) := by
  have V := Lib.hid (fun w => Varint_any (zig n) (zig_lt n hn) w)
  have Z := Lib.hid (zig_walk n hn)
  obtain ⟨n1, n2⟩ := hn
  go_enter Tryd.func13, Tryd.ntmps13
  go_wp2_with fail
  rw [Z.out]
  refine (V.out _).mono ?_
  rintro e w1 ⟨v, rfl, h1, h2⟩
  go_wp2_with fail
  go_ret
  exact ⟨_, rfl, h1, h2⟩
theorem SignedR_any (n : Int) (hn : -9223372036854775808 ≤ n ∧ n ≤ 9223372036854775807) (w : World) : Calls Tryd.prog 18 #[.int .i64 n] w (NewB w (vint (zig n))) := by
  have V := Lib.hid (fun w => VarintR_any (zig n) (zig_lt n hn) w)
  obtain ⟨n1, n2⟩ := hn
  by_cases h0 : n < 0
  · have t1 := decide_eq_true h0
    have hz : (zig n : Int) = -(n + 1) * 2 + 1 := by unfold zig; rw [if_pos h0]; omega
    rw [hz] at V
    clear hz
    go_enter Tryd.func18, Tryd.ntmps18
    go_wp2_with fail
    refine (V.out _).mono ?_
    rintro e w1 ⟨v, rfl, h1, h2⟩
    go_wp2_with fail
    go_ret
    exact ⟨_, rfl, h1, h2⟩
  · have t1 := decide_eq_false h0
    have hz : (zig n : Int) = n * 2 := by unfold zig; rw [if_neg h0]; omega
    rw [hz] at V
    clear hz
    go_enter Tryd.func18, Tryd.ntmps18
    go_wp2_with fail
    refine (V.out _).mono ?_
    rintro e w1 ⟨v, rfl, h1, h2⟩
    go_wp2_with fail
    go_ret
    exact ⟨_, rfl, h1, h2⟩

theorem Unsigned_any (va : Value) (b : List UInt8) (w : World) (hb : Byt w va b) : Calls Tryd.prog 46 #[va] w (UnsRet w b) := by
  have U := Lib.hid (Unvarint_any va b w hb)
  obtain ⟨h1, h2, h3⟩ := unv_le b
  unfold UnsRet unsg
  clear hb h2
  generalize unv b = p at *
  obtain ⟨v, n⟩ := p
  simp only at h1 h3
  by_cases h0 : n = 0
  · subst h0
    go_enter Tryd.func46, Tryd.ntmps46
    go_wp2_with fail
    refine U.out.mono ?_
    rintro e w' ⟨rfl, rfl⟩
    go_wp2_with fail
    go_ret3
    exact ⟨rfl, rfl⟩
  · have t1 : ((n : Int) == 0) = false := by simp; omega
    rw [if_neg h0]
    have Z := Lib.hid (zag_walk v h3)
    go_enter Tryd.func46, Tryd.ntmps46
    go_wp2_with fail
    refine U.out.mono ?_
    rintro e w' ⟨rfl, rfl⟩
    go_wp2_with fail
    go_ret3
    exact ⟨by rw [← Z.out]; rfl, rfl⟩
theorem UnsignedR_any (va : Value) (b : List UInt8) (w : World) (hb : Byt w va b) : Calls Tryd.prog 22 #[va] w (UnsRet w b) := by
  have U := Lib.hid (UnvarintR_any va b w hb)
  obtain ⟨h1, h2, h3⟩ := unv_le b
  unfold UnsRet unsg
  clear hb h2
  generalize unv b = p at *
  obtain ⟨v, n⟩ := p
  simp only at h1 h3
  by_cases h0 : n = 0
  · subst h0
    go_enter Tryd.func22, Tryd.ntmps22
    go_wp2_with fail
    refine U.out.mono ?_
    rintro e w' ⟨rfl, rfl⟩
    go_wp2_with fail
    go_ret3
    exact ⟨rfl, rfl⟩
  · have t1 : ((n : Int) == 0) = false := by simp; omega
    rw [if_neg h0]
    by_cases hv : v % 2 = 1
    · have t2 : ((v : Int) % 2 == 1) = true := by simp; omega
      have Z := Lib.hid (show zag v = -((v : Int) / 2) - 1 by unfold zag; rw [if_pos hv]; omega)
      clear hv
      go_enter Tryd.func22, Tryd.ntmps22
      go_wp2_with fail
      refine U.out.mono ?_
      rintro e w' ⟨rfl, rfl⟩
      go_wp2_with fail
      go_ret3
      exact ⟨by rw [Z.out]; rfl, rfl⟩
    · have t2 : ((v : Int) % 2 == 1) = false := by simp; omega
      have Z := Lib.hid (show zag v = (v : Int) / 2 by unfold zag; rw [if_neg hv]; omega)
      clear hv
      go_enter Tryd.func22, Tryd.ntmps22
      go_wp2_with fail
      refine U.out.mono ?_
      rintro e w' ⟨rfl, rfl⟩
      go_wp2_with fail
      go_ret3
      exact ⟨by rw [Z.out]; rfl, rfl⟩
end

end Go.Proofs.YthcfekabeidmiaaRRDoorR
