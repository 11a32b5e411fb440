/- curve.Unhilbert. -/
import Derived.Test.YtmpodnmgeakefaaDoorCurveC
namespace Go.Proofs.YtmpodnmgeakefaaDoor
open Go.RowKit

theorem quarter_of (v k : Nat) (hv : v < 18446744073709551616) : bits .and .u64 ((v : Int) / 2 ^ (2 * k)) 3 = ((v / 4 ^ k % 4 : Nat) : Int) := by
  have h : v / 2 ^ (2 * k) ≤ v := Nat.div_le_self _ _
  rw [cast_div2, and3_u64 _ (by omega), four_pow]

set_option maxRecDepth 100000 in
set_option maxHeartbeats 1000000 in
theorem Unhilbert_ok (v n : Nat) (w : World) (hn1 : 1 ≤ n) (hn2 : n ≤ 31) (hv : v < 4 ^ n) :
    Calls Tryd.prog 15 #[.int .u64 (v : Int), .int .i64 (n : Int)] w (PtErr w ((unh n v).1 : Nat) ((unh n v).2 : Nat) .none) := by
  have M := Lib.hid (fun w => cmay_yes (n : Int) w (by omega) (by omega))
  have h4 : (4 : Nat) ^ n ≤ 4 ^ 31 := Nat.pow_le_pow_right (by omega) hn2
  have hv64 : v < 18446744073709551616 := by omega
  have e0 : (v : Int) / 2 ^ (2 * n) = 0 := by rw [cast_div2, ← four_pow, Nat.div_eq_of_lt hv]; rfl
  have hv1 : (v : Int) ≤ 18446744073709551615 := by omega
  clear h4 hv
  have HV := Lib.hid hv64
  clear hv64
  go_enter Tryd.func15, Tryd.ntmps15
  go_wp2_with fail
  refine (M.out _).mono ?_
  rintro e w' ⟨rfl, rfl⟩
  go_wp2_with fail
  clear e0
  go_loop [6, 7, 25] (fun xv yv i => ∃ k : Nat, k ≤ n ∧ i = .int .i64 (k : Int) ∧ xv = .int .i64 ((unh k v).1 : Nat) ∧ yv = .int .i64 ((unh k v).2 : Nat)) (fun _ _ i => n - (intOf i).toNat)
  case atStart => exact ⟨0, Nat.zero_le _, rfl, rfl, rfl⟩
  case round =>
    obtain ⟨k, hk, rfl, rfl, rfl⟩ := hrel
    by_cases hlt : k < n
    · obtain ⟨p1, p2⟩ := two_le k (by omega)
      obtain ⟨u1, u2⟩ := unh_lt k v
      have hu := Lib.hid (show unh (k + 1) v = turnQ (2 ^ k) (v / 4 ^ k % 4) (unh k v) from rfl)
      have i1 : ((unh k v).1 : Int) < 2 ^ k := by rw [cast_pow2]; omega
      have i2 : ((unh k v).2 : Int) < 2 ^ k := by rw [cast_pow2]; omega
      have hq := quarter_of v k HV.out
      have hq4 : v / 4 ^ k % 4 < 4 := Nat.mod_lt _ (by omega)
      have E2 := Lib.hid (cast_pow2 k)
      have U1 := Lib.hid u1
      have U2 := Lib.hid u2
      generalize unh k v = P at *
      obtain ⟨px, py⟩ := P
      generalize v / 4 ^ k % 4 = q at *
      clear u1 u2
      have : q = 0 ∨ q = 1 ∨ q = 2 ∨ q = 3 := by omega
      rcases this with rfl | rfl | rfl | rfl
      · have T := Lib.hid (show unh (k + 1) v = (py, px) by rw [hu.out]; simp [turnQ])
        clear hq4
        go_wp2_with fail
        go_round
        case rel => exact ⟨k + 1, by omega, by go_num, by rw [T.out], by rw [T.out]⟩
        case measure => simp [intOf]; try omega
      · have T := Lib.hid (show unh (k + 1) v = (px, py + 2 ^ k) by rw [hu.out]; simp [turnQ])
        have EY := Lib.hid (show (py : Int) + 2 ^ k = ((py + 2 ^ k : Nat) : Int) by rw [E2.out]; omega)
        clear hq4
        go_wp2_with fail
        go_round
        case rel => exact ⟨k + 1, by omega, by go_num, by rw [T.out], by rw [T.out, ← EY.out]⟩
        case measure => simp [intOf]; try omega
      · have T := Lib.hid (show unh (k + 1) v = (px + 2 ^ k, py + 2 ^ k) by rw [hu.out]; simp [turnQ])
        have EX := Lib.hid (show (px : Int) + 2 ^ k = ((px + 2 ^ k : Nat) : Int) by rw [E2.out]; omega)
        have EY := Lib.hid (show (py : Int) + 2 ^ k = ((py + 2 ^ k : Nat) : Int) by rw [E2.out]; omega)
        clear hq4
        go_wp2_with fail
        go_round
        case rel => exact ⟨k + 1, by omega, by go_num, by rw [T.out, ← EX.out], by rw [T.out, ← EY.out]⟩
        case measure => simp [intOf]; try omega
      · have T := Lib.hid (show unh (k + 1) v = (2 * 2 ^ k - 1 - py, 2 ^ k - 1 - px) by rw [hu.out]; simp [turnQ])
        have EX := Lib.hid (show 2 * (2 : Int) ^ k - 1 - py = ((2 * 2 ^ k - 1 - py : Nat) : Int) by have := U2.out; rw [E2.out]; simp at this; omega)
        have EY := Lib.hid (show (2 : Int) ^ k - 1 - px = ((2 ^ k - 1 - px : Nat) : Int) by have := U1.out; rw [E2.out]; simp at this; omega)
        clear hq4
        go_wp2_with fail
        go_round
        case rel => exact ⟨k + 1, by omega, by go_num, by rw [T.out, ← EX.out], by rw [T.out, ← EY.out]⟩
        case measure => simp [intOf]; try omega
    · obtain rfl : k = n := by omega
      generalize (unh k v).1 = px at *
      generalize (unh k v).2 = py at *
      go_wp2_with fail
      exact bodyPost_ret (v := .tuple #[.agg #[.int .i64 (px : Int), .int .i64 (py : Int)], .nilIface]) (by simp [results, Tryd.results15, go_sem]) rfl ⟨.nilIface, rfl, rfl, (Below.refl _ _).alloc (Nat.le_refl _) _⟩
end Go.Proofs.YtmpodnmgeakefaaDoor
