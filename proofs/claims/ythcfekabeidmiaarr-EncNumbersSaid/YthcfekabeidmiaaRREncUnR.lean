/- pergolaref8.Unvarint: the same number. -/
import Derived.Test.YthcfekabeidmiaaRREncUn
namespace Go.Proofs.YthcfekabeidmiaaRR
open Go.RowKit

set_option maxRecDepth 100000 in
set_option maxHeartbeats 1000000 in
theorem UnvarintR_any (va : Value) (b : List UInt8) (w : World) (hb : Byt w va b) : Calls Try.prog 7 #[va] w fun e w' => e = .returned (.tuple #[.int .u64 ((unv b).1 : Int), .int .i64 ((unv b).2 : Int)]) ∧ w = w' := by
  obtain ⟨ao, cp, rfl, h1, h2, h0, h3⟩ := hb.open
  unfold maxLen at h2
  clear h0
  go_enter Try.func7, Try.ntmps7
  go_wp2_with fail
  go_loop [4, 5] (fun vv n => ∃ (i : Nat) (x : Int), i ≤ 10 ∧ n = .int .i64 (i : Int) ∧ vv = .int .u64 x ∧ Hid ((i < 10 → ∃ v : Nat, x = (v : Int) ∧ v < 128 ^ i ∧ unv b = unvAt b (10 - i) v) ∧ (i = 10 → unv b = (0, 0)))) (fun _ n => 10 - (intOf n).toNat)
  case atStart => exact ⟨0, 0, by omega, rfl, rfl, Lib.hid ⟨fun _ => ⟨0, rfl, by omega, rfl⟩, fun h => by omega⟩⟩
  case round =>
    obtain ⟨i, x, hi, rfl, rfl, hh⟩ := hrel
    by_cases hlt : i < 10
    · obtain ⟨v, rfl, hv, hu⟩ := hh.out.1 hlt
      have t2 : decide ((i : Int) < 10) = true := by simp; omega
      by_cases hl : i < b.length
      · have t1 : decide ((i : Int) < (b.length : Int)) = true := by simp; omega
        obtain ⟨g, off, rfl, hg, hc⟩ := h3 i hl
        rw [unvAt_in b i v hl hlt] at hu
        generalize b[i] = c at *
        have hc8 := c.toNat_lt
        have VS0 := fun (h : i < 9 ∨ (i = 9 ∧ c.toNat % 128 ≤ 1)) => vchunk v i c hv h
        have HV := Lib.hid hv
        have HI := Lib.hid hlt
        clear hv hh
        by_cases hcc : c.toNat < 128
        · have d1 : decide ((c.toNat : Int) < 128) = true := by simp; omega
          rw [if_pos hcc] at hu
          by_cases hbad : (i = 9 ∧ 1 < c.toNat) ∨ (0 < i ∧ c.toNat = 0)
          · rw [if_pos hbad] at hu
            have HF := Lib.hid hu
            clear hu VS0 hcc
            rcases hbad with ⟨rfl, h9⟩ | ⟨hi0, hc0⟩
            · have d2 : decide ((1 : Int) < (c.toNat : Int)) = true := by simp; omega
              clear h9
              go_wp2_with fail
              go_ret2
              exact ⟨by rw [HF.out]; rfl, rfl⟩
            · have d2 : ((c.toNat : Int) == 0) = true := by simp; omega
              have d3 : decide (0 < i) = true := by simp; omega
              have d4 : decide ((1 : Int) < (c.toNat : Int)) = false := by simp; omega
              clear hc0 hi0
              by_cases h9 : i = 9
              · subst h9
                go_wp2_with fail
                go_ret2
                exact ⟨by rw [HF.out]; rfl, rfl⟩
              · have d5 : ((i : Int) == 9) = false := by simp; omega
                clear h9
                go_wp2_with fail
                go_ret2
                exact ⟨by rw [HF.out]; rfl, rfl⟩
          · rw [if_neg hbad] at hu
            have VS := Lib.hid (VS0 (by omega))
            have hm : c.toNat % 128 = c.toNat := Nat.mod_eq_of_lt hcc
            have HF := Lib.hid (show unv b = (v + c.toNat % 128 * 128 ^ i, i + 1) by rw [hu, hm])
            clear hu VS0 hcc hm
            by_cases h9 : i = 9
            · subst h9
              have d2 : decide ((1 : Int) < (c.toNat : Int)) = false := by simp; omega
              have d4 : ((c.toNat : Int) == 0) = false := by simp; omega
              clear hbad
              go_wp2_with fail
              go_ret2
              exact ⟨by rw [HF.out, ← VS.out]; rfl, rfl⟩
            · have d5 : ((i : Int) == 9) = false := by simp; omega
              clear h9
              by_cases h0 : 0 < i
              · have d4 : ((c.toNat : Int) == 0) = false := by simp; omega
                have d3 : decide (0 < i) = true := by simp; omega
                clear hbad h0
                go_wp2_with fail
                go_ret2
                exact ⟨by rw [HF.out, ← VS.out]; rfl, rfl⟩
              · have d3 : decide (0 < i) = false := by simp; omega
                by_cases hc0 : c.toNat = 0
                · have d4 : ((c.toNat : Int) == 0) = true := by simp; omega
                  have VX := VS.out
                  rw [hc0] at VX
                  have VZ := Lib.hid VX
                  have HZ := Lib.hid (show unv b = (v + 0 % 128 * 128 ^ i, i + 1) by rw [HF.out, hc0])
                  clear hbad h0 hc0 VX
                  go_wp2_with fail
                  go_ret2
                  exact ⟨by first | (rw [HF.out, ← VS.out]; rfl) | (rw [HZ.out, ← VZ.out]; rfl), rfl⟩
                · have d4 : ((c.toNat : Int) == 0) = false := by simp; omega
                  clear hbad h0 hc0
                  go_wp2_with fail
                  go_ret2
                  exact ⟨by rw [HF.out, ← VS.out]; rfl, rfl⟩
        · have d1 : decide ((c.toNat : Int) < 128) = false := by simp; omega
          rw [if_neg hcc] at hu
          have HU := Lib.hid hu
          have HC := Lib.hid hc8
          have HVS := Lib.hid VS0
          by_cases h9 : i = 9
          · subst h9
            have HF := Lib.hid (show unv b = (0, 0) by rw [HU.out]; rfl)
            have d2 : decide ((1 : Int) < (c.toNat : Int)) = true := by simp; omega
            clear hu hcc VS0
            go_wp2_with fail
            go_ret2
            exact ⟨by rw [HF.out]; rfl, rfl⟩
          · have d5 : ((i : Int) == 9) = false := by simp; omega
            have H9 := Lib.hid h9
            clear hu hcc VS0 h9
            go_wp2_with fail
            go_round
            case rel =>
              refine ⟨i + 1, _, by omega, by go_num, rfl, Lib.hid ⟨fun hlt2 => ?_, fun h10 => ?_⟩⟩
              · refine ⟨_, HVS.out (Or.inl (by omega)), ?_, HU.out⟩
                have := HV.out
                have hm : c.toNat % 128 * 128 ^ i ≤ 127 * 128 ^ i := Nat.mul_le_mul_right _ (by omega)
                rw [Nat.pow_succ]; omega
              · exact absurd (show i = 9 by omega) H9.out
            case measure => simp [intOf]; omega
      · have t1 : decide ((i : Int) < (b.length : Int)) = false := by simp; omega
        have HF := Lib.hid (hu.trans (unvAt_out b i v (by omega) hlt))
        clear hu hv hh
        go_wp2_with fail
        go_ret2
        exact ⟨by rw [HF.out]; rfl, rfl⟩
    · obtain rfl : i = 10 := by omega
      have HF := Lib.hid (hh.out.2 rfl)
      clear hh
      have t2 : decide (((10 : Nat) : Int) < 10) = false := by simp
      by_cases hl : 10 < b.length
      · have t1 : decide (((10 : Nat) : Int) < (b.length : Int)) = true := by simp; omega
        go_wp2_with fail
        go_ret2
        exact ⟨by rw [HF.out]; rfl, rfl⟩
      · have t1 : decide (((10 : Nat) : Int) < (b.length : Int)) = false := by simp; omega
        go_wp2_with fail
        go_ret2
        exact ⟨by rw [HF.out]; rfl, rfl⟩
end Go.Proofs.YthcfekabeidmiaaRR
