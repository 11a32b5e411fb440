/- curve.Unz. -/
import Derived.Test.YtmpodnmgeakefaaDoorCurveCentre
namespace Go.Proofs.YtmpodnmgeakefaaDoor
open Go.RowKit

/-- the point at a place of the first curve, both numbers from 0 on -/
def uX (v : Nat) : Int := (evb 32 v : Int) - 1073741824
def uY (v : Nat) : Int := (evb 32 (v / 2) : Int) - 1073741824

theorem evb_stepG (k v a : Nat) (hk : k < 32) (ha : a < 18446744073709551616) (h : a % 2 = v / 4 ^ k % 2) :
    bits .or .i64 ((evb k v : Nat) : Int) (wrap64 (wrap64 (bits .and .u64 (a : Int) 1) * 2 ^ k)) = ((evb (k + 1) v : Nat) : Int) := by
  have hl := evb_lt k v
  have hp : 2 ^ k ≤ 2 ^ 31 := Nat.pow_le_pow_right (by omega) (by omega)
  rw [and1_u64 _ ha, h, evb_top]
  have hb : v / 4 ^ k % 2 < 2 := Nat.mod_lt _ (by omega)
  generalize v / 4 ^ k % 2 = b at *
  have m1 : b * 2 ^ k ≤ 2 ^ k := by
    have : b = 0 ∨ b = 1 := by omega
    rcases this with rfl | rfl <;> omega
  rw [IntWalk.wrap64_in (b : Int) (by omega), cast_mul2, IntWalk.wrap64_in ((b * 2 ^ k : Nat) : Int) (by omega), or_i64_nat _ _ (by omega) (by omega), or_add64 _ _ _ hl]
theorem evb_step1 (k v : Nat) (hk : k < 32) (hv : v < 18446744073709551616) :
    bits .or .i64 ((evb k v : Nat) : Int) (wrap64 (wrap64 (bits .and .u64 ((v : Int) / 2 ^ (2 * k)) 1) * 2 ^ k)) = ((evb (k + 1) v : Nat) : Int) := by
  have h : v / 2 ^ (2 * k) ≤ v := Nat.div_le_self _ _
  rw [cast_div2]
  exact evb_stepG k v _ hk (by omega) (by rw [four_pow])
theorem evb_step2 (k v : Nat) (hk : k < 32) (hv : v < 18446744073709551616) :
    bits .or .i64 ((evb k (v / 2) : Nat) : Int) (wrap64 (wrap64 (bits .and .u64 ((v : Int) / 2 ^ (2 * k + 1)) 1) * 2 ^ k)) = ((evb (k + 1) (v / 2) : Nat) : Int) := by
  have h : v / 2 ^ (2 * k + 1) ≤ v := Nat.div_le_self _ _
  rw [cast_div2]
  exact evb_stepG k (v / 2) _ hk (by omega) (by rw [four_pow, Nat.div_div_eq_div_mul, Nat.pow_succ, Nat.mul_comm (2 ^ (2 * k)) 2])

set_option maxRecDepth 100000 in
set_option maxHeartbeats 1000000 in
theorem Unz_ok (v : Nat) (w : World) (hv : v < 18446744073709551616) (h : inP (uX v) (uY v)) :
    Calls Tryd.prog 17 #[.int .u64 (v : Int)] w (PtErr w (uX v) (uY v) .none) := by
  have C := Lib.hid (fun w => CheckPoint_ok _ _ w h)
  have hv1 : (v : Int) ≤ 18446744073709551615 := by omega
  have HV := Lib.hid hv
  clear hv h
  go_enter Tryd.func17, Tryd.ntmps17
  go_wp2_with fail
  go_loop [4, 5, 8] (fun xv yv i => ∃ k : Nat, k ≤ 32 ∧ i = .int .i64 (k : Int) ∧ xv = .int .i64 (evb k v : Nat) ∧ yv = .int .i64 (evb k (v / 2) : Nat)) (fun _ _ i => 32 - (intOf i).toNat)
  case atStart => exact ⟨0, Nat.zero_le _, rfl, rfl, rfl⟩
  case round =>
    obtain ⟨k, hk, rfl, rfl, rfl⟩ := hrel
    by_cases hlt : k < 32
    · have S1 := Lib.hid (evb_step1 k v hlt HV.out)
      have S2 := Lib.hid (evb_step2 k v hlt HV.out)
      go_wp2_with fail
      go_round
      case rel => exact ⟨k + 1, by omega, by go_num, by rw [S1.out], by rw [S2.out]⟩
      case measure => simp [intOf]; try omega
    · obtain rfl : k = 32 := by omega
      have l1 := evb_lt 32 v
      have l2 := evb_lt 32 (v / 2)
      have l3 : (evb 32 v : Int) ≤ 4294967295 := by omega
      have l4 : (evb 32 (v / 2) : Int) ≤ 4294967295 := by omega
      have E1 : uX v = (evb 32 v : Int) - 1073741824 := rfl
      have E2 : uY v = (evb 32 (v / 2) : Int) - 1073741824 := rfl
      rw [E1, E2] at C
      have HE1 := Lib.hid E1
      have HE2 := Lib.hid E2
      clear E1 E2 l1 l2
      generalize evb 32 v = X at *
      generalize evb 32 (v / 2) = Y at *
      have Z0 := Lib.hid ((pair_alloc w 0 0 23).below ((Below.refl _ _).alloc (Nat.le_refl _) (.cells #[.int .i64 ((X : Int) - 1073741824), .int .i64 ((Y : Int) - 1073741824)] 23)))
      have Z1 := Lib.hid (pair_alloc (w.alloc (.cells #[.int .i64 0, .int .i64 0] 23)) ((X : Int) - 1073741824) ((Y : Int) - 1073741824) 23)
      go_wp2_with fail
      refine (C.out _).mono ?_
      rintro e w1 ⟨u, rfl, rfl, b1⟩
      have b01 : Below w.heap.size w w1 := (((Below.refl _ _).alloc (Nat.le_refl _) _).alloc (by simp) _).trans (b1.mono (by simp; omega))
      obtain ⟨p0, p1⟩ := Z0.out.below b1
      obtain ⟨q0, q1⟩ := Z1.out.below b1
      rw [show (w.alloc (.cells #[.int .i64 0, .int .i64 0] 23)).heap.size = w.heap.size + 1 by simp] at q0 q1
      have f0 : w1.frozen? ⟨w.heap.size, 0, none⟩ = false := (b1.frozen (p := ⟨w.heap.size, 0, none⟩) (by simp; omega)).trans (by simp)
      have f1 : w1.frozen? ⟨w.heap.size, 1, none⟩ = false := (b1.frozen (p := ⟨w.heap.size, 1, none⟩) (by simp; omega)).trans (by simp)
      obtain ⟨r0, r1⟩ := pt_cells w1 w.heap.size (.int .i64 ((X : Int) - 1073741824)) (.int .i64 ((Y : Int) - 1073741824)) p0 p1
      have b03 := (b01.setCell (p := ⟨w.heap.size, 0, none⟩) (Nat.le_refl _) (.int .i64 ((X : Int) - 1073741824))).setCell (p := ⟨w.heap.size, 1, none⟩) (Nat.le_refl _) (.int .i64 ((Y : Int) - 1073741824))
      go_wp2_with fail
      rw [HE1.out, HE2.out]
      exact bodyPost_ret (v := .tuple #[.agg #[.int .i64 ((X : Int) - 1073741824), .int .i64 ((Y : Int) - 1073741824)], .nilIface]) (by simp [results, Tryd.results17, go_sem, r0, r1]) rfl ⟨.nilIface, rfl, rfl, b03⟩

set_option maxRecDepth 100000 in
set_option maxHeartbeats 1000000 in
theorem Unz_no (v : Nat) (w : World) (hv : v < 18446744073709551616) (h : ¬ inP (uX v) (uY v)) :
    Calls Tryd.prog 17 #[.int .u64 (v : Int)] w (PtErr w 0 0 (.fault curveStr 0 (.num 2))) := by
  have C := Lib.hid (fun w => CheckPoint_no _ _ w h)
  have hv1 : (v : Int) ≤ 18446744073709551615 := by omega
  have HV := Lib.hid hv
  clear hv h
  go_enter Tryd.func17, Tryd.ntmps17
  go_wp2_with fail
  go_loop [4, 5, 8] (fun xv yv i => ∃ k : Nat, k ≤ 32 ∧ i = .int .i64 (k : Int) ∧ xv = .int .i64 (evb k v : Nat) ∧ yv = .int .i64 (evb k (v / 2) : Nat)) (fun _ _ i => 32 - (intOf i).toNat)
  case atStart => exact ⟨0, Nat.zero_le _, rfl, rfl, rfl⟩
  case round =>
    obtain ⟨k, hk, rfl, rfl, rfl⟩ := hrel
    by_cases hlt : k < 32
    · have S1 := Lib.hid (evb_step1 k v hlt HV.out)
      have S2 := Lib.hid (evb_step2 k v hlt HV.out)
      go_wp2_with fail
      go_round
      case rel => exact ⟨k + 1, by omega, by go_num, by rw [S1.out], by rw [S2.out]⟩
      case measure => simp [intOf]; try omega
    · obtain rfl : k = 32 := by omega
      have l1 := evb_lt 32 v
      have l2 := evb_lt 32 (v / 2)
      have l3 : (evb 32 v : Int) ≤ 4294967295 := by omega
      have l4 : (evb 32 (v / 2) : Int) ≤ 4294967295 := by omega
      have E1 : uX v = (evb 32 v : Int) - 1073741824 := rfl
      have E2 : uY v = (evb 32 (v / 2) : Int) - 1073741824 := rfl
      rw [E1, E2] at C
      clear E1 E2 l1 l2
      generalize evb 32 v = X at *
      generalize evb 32 (v / 2) = Y at *
      have Z0 := Lib.hid ((pair_alloc w 0 0 23).below ((Below.refl _ _).alloc (Nat.le_refl _) (.cells #[.int .i64 ((X : Int) - 1073741824), .int .i64 ((Y : Int) - 1073741824)] 23)))
      go_wp2_with fail
      refine (C.out _).mono ?_
      rintro e w1 ⟨u, rfl, hu, b1⟩
      have B := Lib.hid (blame_fresh 2 w1)
      obtain rfl : u = .iface 60 (.int .i64 2) := hu
      have b01 : Below w.heap.size w w1 := (((Below.refl _ _).alloc (Nat.le_refl _) _).alloc (by simp) _).trans (b1.mono (by simp; omega))
      obtain ⟨p0, p1⟩ := Z0.out.below b1
      have f0 : w1.frozen? ⟨w.heap.size, 0, none⟩ = false := (b1.frozen (p := ⟨w.heap.size, 0, none⟩) (by simp; omega)).trans (by simp)
      have f1 : w1.frozen? ⟨w.heap.size, 1, none⟩ = false := (b1.frozen (p := ⟨w.heap.size, 1, none⟩) (by simp; omega)).trans (by simp)
      have hl := World.block_lt_of_cell? w1 ⟨w.heap.size, 0, none⟩ p0
      go_wp2_with fail
      refine B.out.mono ?_
      rintro e w2 ⟨u2, rfl, h2, b2⟩
      replace p0 := (b2.cell (p := ⟨w.heap.size, 0, none⟩) hl).trans p0
      replace p1 := (b2.cell (p := ⟨w.heap.size, 1, none⟩) hl).trans p1
      replace f0 := (b2.frozen (p := ⟨w.heap.size, 0, none⟩) hl).trans f0
      replace f1 := (b2.frozen (p := ⟨w.heap.size, 1, none⟩) hl).trans f1
      have b02 := b01.trans (b2.mono b01.size)
      obtain ⟨r0, r1⟩ := pt_cells w2 w.heap.size (.int .i64 0) (.int .i64 0) p0 p1
      have H2 := Lib.hid ((h2.set w.heap.size 0 (.int .i64 0) hl).set w.heap.size 1 (.int .i64 0) hl)
      have b03 := (b02.setCell (p := ⟨w.heap.size, 0, none⟩) (Nat.le_refl _) (.int .i64 0)).setCell (p := ⟨w.heap.size, 1, none⟩) (Nat.le_refl _) (.int .i64 0)
      clear h2
      go_wp2_with fail
      exact bodyPost_ret (v := .tuple #[.agg #[.int .i64 0, .int .i64 0], u2]) (by simp [results, Tryd.results17, go_sem, r0, r1]) rfl ⟨u2, rfl, H2.out.is, b03⟩

end Go.Proofs.YtmpodnmgeakefaaDoor
