/- The document's own Z, Unz, Hilbert, Unhilbert and Centre. -/
import Derived.Test.YtmpodnmgeakefaaDoorCurveUnz
import Derived.Test.YtmpodnmgeakefaaDoorCurveU
import Derived.Test.YtmpodnmgeakefaaDoorCurveGrows
namespace Go.Proofs.YtmpodnmgeakefaaDoor
open Go.RowKit

/-- The call hands back a number and an error's number. -/
def NumCode (w : World) (n : Nat) (k : Int) (e : Ending) (w' : World) : Prop := e = .returned (.tuple #[.int .u64 (n : Int), .int .i64 k]) ∧ Below w.heap.size w w'
/-- The call hands back a point and an error's number. -/
def PtCode (w : World) (x y : Int) (k : Int) (e : Ending) (w' : World) : Prop := e = .returned (.tuple #[.agg #[.int .i64 x, .int .i64 y], .int .i64 k]) ∧ Below w.heap.size w w'

theorem ZR_no (x y : Int) (w : World) (h : ¬ inP x y) : Calls Tryd.prog 18 #[.agg #[.int .i64 x, .int .i64 y]] w (NumCode w 0 2) := by
  have P := Lib.hid (fun w => Point_any x y w)
  rw [decide_eq_false h] at P
  have b0 : Below w.heap.size w (w.alloc (.cells #[.int .i64 x, .int .i64 y] 23)) := (Below.refl _ _).alloc (Nat.le_refl _) _
  clear h
  go_enter Tryd.func18, Tryd.ntmps18
  go_wp2_with fail
  refine (P.out _).mono ?_
  rintro e w1 ⟨rfl, b1⟩
  go_wp2_with fail
  go_ret2
  exact ⟨rfl, b0.trans (b1.mono b0.size)⟩

theorem ilv_stepR (k X Y : Nat) (hk : k < 31) (hX : X < 4294967296) (hY : Y < 4294967296) :
    bits .or .u64 (bits .or .u64 ((ilv k X Y : Nat) : Int) (IntKind.u64.wrap (bits .and .u64 ((X : Int) / 2 ^ k) 1 * 2 ^ (2 * k)))) (IntKind.u64.wrap (bits .and .u64 ((Y : Int) / 2 ^ k) 1 * 2 ^ (2 * k + 1))) = ((ilv (k + 1) X Y : Nat) : Int) := by
  rw [← ilv_step k X Y hk hX hY]
  have hx : X / 2 ^ k ≤ X := Nat.div_le_self _ _
  have hy : Y / 2 ^ k ≤ Y := Nat.div_le_self _ _
  have hp : 2 ^ (2 * k + 1) ≤ 2 ^ 61 := Nat.pow_le_pow_right (by omega) (by omega)
  have hp0 : 2 ^ (2 * k + 1) = 2 ^ (2 * k) * 2 := Nat.pow_succ ..
  have hl := ilv_lt k X Y
  have h4 : (4 : Nat) ^ k ≤ 4 ^ 31 := Nat.pow_le_pow_right (by omega) (by omega)
  rw [cast_div2, cast_div2, and1_u64 _ (by omega), and1_u64 _ (by omega), cast_mul2, cast_mul2]
  generalize hxb : X / 2 ^ k % 2 = xb
  generalize hyb : Y / 2 ^ k % 2 = yb
  have hxb' : xb < 2 := by omega
  have hyb' : yb < 2 := by omega
  generalize ilv k X Y = v at *
  have m1 : xb * 2 ^ (2 * k) ≤ 2 ^ (2 * k) := by
    have : xb = 0 ∨ xb = 1 := by omega
    rcases this with rfl | rfl <;> omega
  have m2 : yb * 2 ^ (2 * k + 1) ≤ 2 ^ (2 * k + 1) := by
    have : yb = 0 ∨ yb = 1 := by omega
    rcases this with rfl | rfl <;> omega
  generalize xb * 2 ^ (2 * k) = P at *
  generalize yb * 2 ^ (2 * k + 1) = Q at *
  rw [wrap_u64_nat _ (by omega), wrap_u64_nat _ (by omega), or_u64_nat v P (by omega) (by omega), or_u64_nat P Q (by omega) (by omega),
    or_u64_nat _ Q (Nat.or_lt_two_pow (n := 64) (by omega) (by omega)) (by omega), or_u64_nat v _ (by omega) (Nat.or_lt_two_pow (n := 64) (by omega) (by omega)), Nat.or_assoc]

theorem ZR_ok (X Y : Nat) (w : World) (h : inP ((X : Int) - 1073741824) ((Y : Int) - 1073741824)) : Calls Tryd.prog 18 #[.agg #[.int .i64 ((X : Int) - 1073741824), .int .i64 ((Y : Int) - 1073741824)]] w (NumCode w (ilv 31 X Y) 0) := by
  have P := Lib.hid (fun w => Point_any ((X : Int) - 1073741824) ((Y : Int) - 1073741824) w)
  rw [decide_eq_true h] at P
  obtain ⟨⟨h1, h2⟩, h3, h4⟩ := h
  have hX : (X : Int) ≤ 2147483647 := by omega
  have hY : (Y : Int) ≤ 2147483647 := by omega
  have e1 : (X : Int) - 1073741824 + 1073741824 = X := by omega
  have e2 : (Y : Int) - 1073741824 + 1073741824 = Y := by omega
  generalize hx : (X : Int) - 1073741824 = x at *
  generalize hy : (Y : Int) - 1073741824 = y at *
  clear hx hy
  go_enter Tryd.func18, Tryd.ntmps18
  go_wp2_with fail
  refine (P.out _).mono ?_
  rintro e w1 ⟨rfl, b1⟩
  have b01 : Below w.heap.size w w1 := ((Below.refl _ _).alloc (Nat.le_refl _) _).trans (b1.mono (by simp))
  have q0 := (b1.cell (p := ⟨w.heap.size, 0, none⟩) (by simp)).trans (show _ = some (Value.int .i64 x) by simp)
  have q1 := (b1.cell (p := ⟨w.heap.size, 1, none⟩) (by simp)).trans (show _ = some (Value.int .i64 y) by simp)
  go_wp2_with fail
  clear q0 q1 e1 e2
  go_loopw [6, 7] (fun ov i wr => ∃ k : Nat, k ≤ 31 ∧ i = .int .i64 k ∧ ov = .int .u64 (ilv k X Y : Nat) ∧ Below w.heap.size w wr) (fun _ i _ => 31 - (intOf i).toNat)
  case atStart => exact ⟨0, Nat.zero_le _, rfl, rfl, b01⟩
  case round =>
    obtain ⟨k, hk, rfl, rfl, hb⟩ := hrel
    have hil := ilv_lt k X Y
    have hp4 : (4 : Nat) ^ k ≤ 4 ^ 31 := Nat.pow_le_pow_right (by omega) hk
    have hil2 : (ilv k X Y : Int) ≤ 18446744073709551615 := by omega
    clear hil hp4
    by_cases hlt : k < 31
    · go_wp2_with fail
      go_quiet (fail)
      go_wp2_with fail
      have HS := Lib.hid (ilv_stepR k X Y hlt (by omega) (by omega))
      go_roundw
      case rel => exact ⟨k + 1, by omega, by go_num, by rw [HS.out], Below.drewN' hb _⟩
      case measure => simp [intOf]; try omega
    · obtain rfl : k = 31 := by omega
      go_wp2_with fail
      go_ret2
      exact ⟨rfl, hb⟩
theorem ZR_pt (x y : Int) (w : World) (h : inP x y) : Calls Tryd.prog 18 #[.agg #[.int .i64 x, .int .i64 y]] w (NumCode w (zOf x y) 0) := by
  obtain ⟨X, rfl, _, _⟩ := inC_nat h.1
  obtain ⟨Y, rfl, _, _⟩ := inC_nat h.2
  have := ZR_ok X Y w h
  unfold zOf
  rw [show ((X : Int) - 1073741824 + 1073741824).toNat = X by omega, show ((Y : Int) - 1073741824 + 1073741824).toNat = Y by omega]
  exact this

theorem zOf_uX (v : Nat) (hv : v < 18446744073709551616) (h : inP (uX v) (uY v)) : zOf (uX v) (uY v) = v := by
  obtain ⟨⟨h1, h2⟩, h3, h4⟩ := h
  unfold uX at h1 h2
  unfold uY at h3 h4
  unfold zOf uX uY
  rw [show ((evb 32 v : Int) - 1073741824 + 1073741824).toNat = evb 32 v by omega, show ((evb 32 (v / 2) : Int) - 1073741824 + 1073741824).toNat = evb 32 (v / 2) by omega]
  have t1 : evb 32 v = evb 31 v + v / 4 ^ 31 % 2 * 2147483648 := evb_top 31 v
  have t2 : evb 32 (v / 2) = evb 31 (v / 2) + v / 2 / 4 ^ 31 % 2 * 2147483648 := evb_top 31 (v / 2)
  have b1 : v / 4 ^ 31 % 2 < 2 := Nat.mod_lt _ (by omega)
  have b2 : v / 2 / 4 ^ 31 % 2 < 2 := Nat.mod_lt _ (by omega)
  have u1 : (evb 32 v : Int) ≤ 2147483647 := by omega
  have u2 : (evb 32 (v / 2) : Int) ≤ 2147483647 := by omega
  have c1 : v / 4 ^ 31 % 2 = 0 := by clear h1 h2 h3 h4 b2 t2; generalize v / 4 ^ 31 % 2 = q at *; omega
  have c2 : v / 2 / 4 ^ 31 % 2 = 0 := by clear h1 h2 h3 h4 b1 t1 c1; generalize v / 2 / 4 ^ 31 % 2 = q at *; omega
  rw [c1] at t1
  rw [c2] at t2
  have hv2 : v < 4 ^ 31 := by omega
  rw [t1, t2, Nat.zero_mul, Nat.add_zero, Nat.add_zero]
  exact ilv_evb 31 v hv2

set_option maxRecDepth 100000 in
set_option maxHeartbeats 1000000 in
theorem UnzR_ok (v : Nat) (w : World) (hv : v < 18446744073709551616) (h : inP (uX v) (uY v)) :
    Calls Tryd.prog 19 #[.int .u64 (v : Int)] w (PtCode w (uX v) (uY v) 0) := by
  have C := Lib.hid (fun w => ZR_pt _ _ w h)
  rw [zOf_uX v hv h] at C
  have hv1 : (v : Int) ≤ 18446744073709551615 := by omega
  have HV := Lib.hid hv
  clear hv h
  go_enter Tryd.func19, Tryd.ntmps19
  go_wp2_with fail
  go_loop [4, 5, 6] (fun xv yv i => ∃ k : Nat, k ≤ 32 ∧ i = .int .i64 (k : Int) ∧ xv = .int .i64 (evb k v : Nat) ∧ yv = .int .i64 (evb k (v / 2) : Nat)) (fun _ _ i => 32 - (intOf i).toNat)
  case atStart => exact ⟨0, Nat.zero_le _, rfl, rfl, rfl⟩
  case round =>
    obtain ⟨k, hk, rfl, rfl, rfl⟩ := hrel
    by_cases hlt : k < 32
    · have S1 := Lib.hid (evb_step1 k v hlt HV.out)
      have S2 := Lib.hid (evb_step2 k v hlt HV.out)
      go_wp2_with fail
      go_round
      case rel => exact ⟨k + 1, by omega, by go_num, by rw [S1.out], by rw [S2.out]⟩
      case measure => simp [intOf]; try omega
    · obtain rfl : k = 32 := by omega
      have l1 := evb_lt 32 v
      have l2 := evb_lt 32 (v / 2)
      have l3 : (evb 32 v : Int) ≤ 4294967295 := by omega
      have l4 : (evb 32 (v / 2) : Int) ≤ 4294967295 := by omega
      have E1 : uX v = (evb 32 v : Int) - 1073741824 := rfl
      have E2 : uY v = (evb 32 (v / 2) : Int) - 1073741824 := rfl
      rw [E1, E2] at C
      have HE1 := Lib.hid E1
      have HE2 := Lib.hid E2
      clear E1 E2 l1 l2
      generalize evb 32 v = X at *
      generalize evb 32 (v / 2) = Y at *
      have Z0 := Lib.hid ((pair_alloc w 0 0 23).below ((Below.refl _ _).alloc (Nat.le_refl _) (.cells #[.int .i64 ((X : Int) - 1073741824), .int .i64 ((Y : Int) - 1073741824)] 23)))
      have Z1 := Lib.hid (pair_alloc (w.alloc (.cells #[.int .i64 0, .int .i64 0] 23)) ((X : Int) - 1073741824) ((Y : Int) - 1073741824) 23)
      go_wp2_with fail
      refine (C.out _).mono ?_
      rintro e w1 ⟨rfl, b1⟩
      have b01 : Below w.heap.size w w1 := (((Below.refl _ _).alloc (Nat.le_refl _) _).alloc (by simp) _).trans (b1.mono (by simp; omega))
      obtain ⟨p0, p1⟩ := Z0.out.below b1
      obtain ⟨q0, q1⟩ := Z1.out.below b1
      rw [show (w.alloc (.cells #[.int .i64 0, .int .i64 0] 23)).heap.size = w.heap.size + 1 by simp] at q0 q1
      have f0 : w1.frozen? ⟨w.heap.size, 0, none⟩ = false := (b1.frozen (p := ⟨w.heap.size, 0, none⟩) (by simp; omega)).trans (by simp)
      have f1 : w1.frozen? ⟨w.heap.size, 1, none⟩ = false := (b1.frozen (p := ⟨w.heap.size, 1, none⟩) (by simp; omega)).trans (by simp)
      obtain ⟨r0, r1⟩ := pt_cells w1 w.heap.size (.int .i64 ((X : Int) - 1073741824)) (.int .i64 ((Y : Int) - 1073741824)) p0 p1
      have b03 := (b01.setCell (p := ⟨w.heap.size, 0, none⟩) (Nat.le_refl _) (.int .i64 ((X : Int) - 1073741824))).setCell (p := ⟨w.heap.size, 1, none⟩) (Nat.le_refl _) (.int .i64 ((Y : Int) - 1073741824))
      go_wp2_with fail
      rw [HE1.out, HE2.out]
      exact bodyPost_ret (v := .tuple #[.agg #[.int .i64 ((X : Int) - 1073741824), .int .i64 ((Y : Int) - 1073741824)], .int .i64 0]) (by simp [results, Tryd.results19, go_sem, r0, r1]) rfl ⟨rfl, b03⟩

set_option maxRecDepth 100000 in
set_option maxHeartbeats 1000000 in
theorem UnzR_no (v : Nat) (w : World) (hv : v < 18446744073709551616) (h : ¬ inP (uX v) (uY v)) :
    Calls Tryd.prog 19 #[.int .u64 (v : Int)] w (PtCode w 0 0 2) := by
  have C := Lib.hid (fun w => ZR_no _ _ w h)
  have hv1 : (v : Int) ≤ 18446744073709551615 := by omega
  have HV := Lib.hid hv
  clear hv h
  go_enter Tryd.func19, Tryd.ntmps19
  go_wp2_with fail
  go_loop [4, 5, 6] (fun xv yv i => ∃ k : Nat, k ≤ 32 ∧ i = .int .i64 (k : Int) ∧ xv = .int .i64 (evb k v : Nat) ∧ yv = .int .i64 (evb k (v / 2) : Nat)) (fun _ _ i => 32 - (intOf i).toNat)
  case atStart => exact ⟨0, Nat.zero_le _, rfl, rfl, rfl⟩
  case round =>
    obtain ⟨k, hk, rfl, rfl, rfl⟩ := hrel
    by_cases hlt : k < 32
    · have S1 := Lib.hid (evb_step1 k v hlt HV.out)
      have S2 := Lib.hid (evb_step2 k v hlt HV.out)
      go_wp2_with fail
      go_round
      case rel => exact ⟨k + 1, by omega, by go_num, by rw [S1.out], by rw [S2.out]⟩
      case measure => simp [intOf]; try omega
    · obtain rfl : k = 32 := by omega
      have l1 := evb_lt 32 v
      have l2 := evb_lt 32 (v / 2)
      have l3 : (evb 32 v : Int) ≤ 4294967295 := by omega
      have l4 : (evb 32 (v / 2) : Int) ≤ 4294967295 := by omega
      have E1 : uX v = (evb 32 v : Int) - 1073741824 := rfl
      have E2 : uY v = (evb 32 (v / 2) : Int) - 1073741824 := rfl
      rw [E1, E2] at C
      clear E1 E2 l1 l2
      generalize evb 32 v = X at *
      generalize evb 32 (v / 2) = Y at *
      have Z0 := Lib.hid ((pair_alloc w 0 0 23).below ((Below.refl _ _).alloc (Nat.le_refl _) (.cells #[.int .i64 ((X : Int) - 1073741824), .int .i64 ((Y : Int) - 1073741824)] 23)))
      go_wp2_with fail
      refine (C.out _).mono ?_
      rintro e w1 ⟨rfl, b1⟩
      have b01 : Below w.heap.size w w1 := (((Below.refl _ _).alloc (Nat.le_refl _) _).alloc (by simp) _).trans (b1.mono (by simp; omega))
      obtain ⟨p0, p1⟩ := Z0.out.below b1
      have f0 : w1.frozen? ⟨w.heap.size, 0, none⟩ = false := (b1.frozen (p := ⟨w.heap.size, 0, none⟩) (by simp; omega)).trans (by simp)
      have f1 : w1.frozen? ⟨w.heap.size, 1, none⟩ = false := (b1.frozen (p := ⟨w.heap.size, 1, none⟩) (by simp; omega)).trans (by simp)
      obtain ⟨r0, r1⟩ := pt_cells w1 w.heap.size (.int .i64 0) (.int .i64 0) p0 p1
      have b03 := (b01.setCell (p := ⟨w.heap.size, 0, none⟩) (Nat.le_refl _) (.int .i64 0)).setCell (p := ⟨w.heap.size, 1, none⟩) (Nat.le_refl _) (.int .i64 0)
      go_wp2_with fail
      exact bodyPost_ret (v := .tuple #[.agg #[.int .i64 0, .int .i64 0], .int .i64 2]) (by simp [results, Tryd.results19, go_sem, r0, r1]) rfl ⟨rfl, b03⟩
end Go.Proofs.YtmpodnmgeakefaaDoor
