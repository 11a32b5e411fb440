/- curve.Z, and the document's. -/
import Derived.Test.YtmpodnmgeakefaaDoorPlaneR
import Derived.Test.YtmpodnmgeakefaaDoorCurveMath
import Derived.Test.YtmpodnmgeakefaaDoorU64
import Derived.BigQuiet
import Derived.Deep.QuietTactic
namespace Go.Proofs.YtmpodnmgeakefaaDoor
open Go.RowKit

def curveStr : ByteArray := ⟨#[99, 117, 114, 118, 101]⟩
theorem Below.drewN' {B : Nat} {a w : World} (h : Below B a w) (n : Nat) : Below B a (w.drewN n) := ⟨h.os, h.tape, h.output, h.size, h.block⟩
/-- curve.blame -/
theorem blame_any (E : Er) (v : Value) (w : World) (hv : E.Is w v) : Calls Tryd.prog 26 #[v] w (ErRet w (E.wrap curveStr 0)) := by
  have N := Lib.hid (New_er curveStr 0 E v w hv)
  clear hv
  go_enter Tryd.func26, Tryd.ntmps26
  go_wp2_with fail
  refine N.out.mono ?_
  rintro e w1 ⟨u, rfl, h1, h2⟩
  go_wp2_with fail
  go_ret
  exact ⟨_, rfl, h1, h2⟩

/-- The call hands back a number and an error. -/
def NumErr (w : World) (n : Nat) (E : Er) (e : Ending) (w' : World) : Prop := ∃ u, e = .returned (.tuple #[.int .u64 (n : Int), u]) ∧ E.Is w' u ∧ Below w.heap.size w w'

theorem Z_no (x y : Int) (w : World) (h : ¬ inP x y) : Calls Tryd.prog 11 #[.agg #[.int .i64 x, .int .i64 y]] w (NumErr w 0 (.fault curveStr 0 (.num 2))) := by
  have C := Lib.hid (fun w => CheckPoint_no x y w h)
  clear h
  go_enter Tryd.func11, Tryd.ntmps11
  go_wp2_with fail
  refine (C.out _).mono ?_
  rintro e w1 ⟨u, rfl, hu, b1⟩
  have B := Lib.hid (blame_any (.num 2) u w1 hu)
  obtain rfl : u = .iface 60 (.int .i64 2) := hu
  go_wp2_with fail
  refine B.out.mono ?_
  rintro e w2 ⟨u2, rfl, h2, b2⟩
  go_wp2_with fail
  go_ret2
  have b01 : Below w.heap.size w w1 := ((Below.refl _ _).alloc (Nat.le_refl _) _).trans (b1.mono (by simp))
  exact ⟨_, rfl, h2, b01.trans (b2.mono b01.size)⟩

theorem ilv_step (k X Y : Nat) (hk : k < 31) (hX : X < 4294967296) (hY : Y < 4294967296) :
    bits .or .u64 ((ilv k X Y : Nat) : Int) (bits .or .u64 (IntKind.u64.wrap (bits .and .u64 ((X : Int) / 2 ^ k) 1 * 2 ^ (2 * k))) (IntKind.u64.wrap (bits .and .u64 ((Y : Int) / 2 ^ k) 1 * 2 ^ (2 * k + 1)))) = ((ilv (k + 1) X Y : Nat) : Int) := by
  have hx : X / 2 ^ k ≤ X := Nat.div_le_self _ _
  have hy : Y / 2 ^ k ≤ Y := Nat.div_le_self _ _
  have hp : 2 ^ (2 * k + 1) ≤ 2 ^ 61 := Nat.pow_le_pow_right (by omega) (by omega)
  have hp0 : 2 ^ (2 * k + 1) = 2 ^ (2 * k) * 2 := Nat.pow_succ ..
  have hl := ilv_lt k X Y
  rw [four_pow] at hl
  rw [cast_div2, cast_div2, and1_u64 _ (by omega), and1_u64 _ (by omega), cast_mul2, cast_mul2, ilv_top, four_pow]
  generalize hxb : X / 2 ^ k % 2 = xb
  generalize hyb : Y / 2 ^ k % 2 = yb
  have hxb' : xb < 2 := by omega
  have hyb' : yb < 2 := by omega
  generalize ilv k X Y = v at *
  have m1 : xb * 2 ^ (2 * k) ≤ 2 ^ (2 * k) := by
    have : xb = 0 ∨ xb = 1 := by omega
    rcases this with rfl | rfl <;> omega
  have m2 : yb * 2 ^ (2 * k + 1) ≤ 2 ^ (2 * k + 1) := by
    have : yb = 0 ∨ yb = 1 := by omega
    rcases this with rfl | rfl <;> omega
  have hpos : 0 < 2 ^ (2 * k) := Nat.pow_pos (by omega)
  rw [wrap_u64_nat _ (by omega), wrap_u64_nat _ (by omega), or_u64_nat _ _ (by omega) (by omega), or_add64 _ _ _ (by omega)]
  have e : xb * 2 ^ (2 * k) + yb * 2 ^ (2 * k + 1) = (xb + 2 * yb) * 2 ^ (2 * k) := by
    rw [hp0, Nat.add_mul, ← Nat.mul_assoc, Nat.mul_right_comm, Nat.mul_comm yb 2]
  rw [e, or_u64_nat _ _ (by omega) (by omega), or_add64 _ _ _ hl]
  congr 1
  rw [Nat.add_mul, Nat.mul_comm 2 yb, Nat.mul_assoc yb 2, Nat.add_assoc]

theorem Z_ok (X Y : Nat) (w : World) (h : inP ((X : Int) - 1073741824) ((Y : Int) - 1073741824)) : Calls Tryd.prog 11 #[.agg #[.int .i64 ((X : Int) - 1073741824), .int .i64 ((Y : Int) - 1073741824)]] w (NumErr w (ilv 31 X Y) .none) := by
  have C := Lib.hid (fun w => CheckPoint_ok _ _ w h)
  obtain ⟨⟨h1, h2⟩, h3, h4⟩ := h
  have hX : (X : Int) ≤ 2147483647 := by omega
  have hY : (Y : Int) ≤ 2147483647 := by omega
  have e1 : (X : Int) - 1073741824 + 1073741824 = X := by omega
  have e2 : (Y : Int) - 1073741824 + 1073741824 = Y := by omega
  generalize hx : (X : Int) - 1073741824 = x at *
  generalize hy : (Y : Int) - 1073741824 = y at *
  clear hx hy
  go_enter Tryd.func11, Tryd.ntmps11
  go_wp2_with fail
  refine (C.out _).mono ?_
  rintro e w1 ⟨u, rfl, rfl, b1⟩
  have b01 : Below w.heap.size w w1 := ((Below.refl _ _).alloc (Nat.le_refl _) _).trans (b1.mono (by simp))
  have q0 := (b1.cell (p := ⟨w.heap.size, 0, none⟩) (by simp)).trans (show _ = some (Value.int .i64 x) by simp)
  have q1 := (b1.cell (p := ⟨w.heap.size, 1, none⟩) (by simp)).trans (show _ = some (Value.int .i64 y) by simp)
  go_wp2_with fail
  go_quiet (fail)
  go_wp2_with fail
  have b02 := Below.drewN' b01 nq
  clear q0 q1 e1 e2
  go_loopw [7, 23] (fun ov i wr => ∃ k : Nat, k ≤ 31 ∧ i = .int .i64 k ∧ ov = .int .u64 (ilv k X Y : Nat) ∧ Below w.heap.size w wr) (fun _ i _ => 31 - (intOf i).toNat)
  case atStart => exact ⟨0, Nat.zero_le _, rfl, rfl, b02⟩
  case round =>
    obtain ⟨k, hk, rfl, rfl, hb⟩ := hrel
    have hil := ilv_lt k X Y
    have hp4 : (4 : Nat) ^ k ≤ 4 ^ 31 := Nat.pow_le_pow_right (by omega) hk
    have hil2 : (ilv k X Y : Int) ≤ 18446744073709551615 := by omega
    clear hil hp4
    by_cases hlt : k < 31
    · go_wp2_with fail
      go_quiet (fail)
      go_wp2_with fail
      have HS := Lib.hid (ilv_step k X Y hlt (by omega) (by omega))
      go_roundw
      case rel => exact ⟨k + 1, by omega, by go_num, by rw [HS.out], Below.drewN' hb _⟩
      case measure => simp [intOf]; omega
    · obtain rfl : k = 31 := by omega
      go_wp2_with fail
      go_ret2
      exact ⟨_, rfl, rfl, hb⟩
end Go.Proofs.YtmpodnmgeakefaaDoor
