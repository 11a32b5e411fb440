/- pergolalaw8.awake answers true. -/
import Derived.Test.YthcfekabeidmiaaRREncObj
namespace Go.Proofs.YthcfekabeidmiaaRR
open Go.RowKit

theorem objB_awake : objB 1 [(1, -1)] = [1, 1, 2, 1] := by
  have z1 : zig 1 = 2 := by decide
  have z2 : zig (-1) = 1 := by decide
  simp only [objB, ptsB, z1, z2, List.length_cons, List.length_nil]
  rw [vint_small (by omega), vint_small (by omega)]
  rfl

set_option maxRecDepth 100000 in
theorem awake_any (w : World) : Calls Try.prog 5 #[] w fun e w' => e = .returned (.bool true) ∧ Below w.heap.size w w' := by
  have B0 : Below w.heap.size w (w.alloc (.cells #[.int .i64 1, .int .i64 (-1)] 39)) := (Below.refl _ _).alloc (Nat.le_refl _) _
  go_enter Try.func5, Try.ntmps5
  go_wp2_with fail
  have hp : Pts (w.alloc (.cells #[.int .i64 1, .int .i64 (-1)] 39)) (.slice (some ⟨w.heap.size, 0, none⟩) 1 1) [(1, -1)] := pts_lit w [(1, -1)] _ (0, 0) (by simp [maxLen])
  refine (Object_ok 1 _ [(1, -1)] _ hp (by intro p hp; simp at hp; subst hp; simp [i64B]) (by omega) (by simp) (fun w' hb => Check_of 1 _ 1 1 .none _ fun w'' hb'' => check_1 _ 1 (-1) _ ((hp.below hb).below hb'') ⟨⟨by decide, by decide⟩, by decide, by decide⟩)).mono ?_
  rintro e w1 ⟨u, rfl, ho, b1⟩
  have B1 := B0.trans (b1.mono B0.size)
  rw [objB_awake] at ho
  have hs := B1.size
  have hl : Byt (w1.alloc (.cells #[.int .u8 1, .int .u8 1, .int .u8 2, .int .u8 1] 5)) (.slice (some ⟨w1.heap.size, 0, none⟩) 4 4) [1, 1, 2, 1] := byt_lit w1 [1, 1, 2, 1] (0, 0) (by simp [maxLen])
  have hb := ho.byt.below ((Below.refl _ _).alloc (Nat.le_refl _) (.cells #[.int .u8 1, .int .u8 1, .int .u8 2, .int .u8 1] 5))
  have B2 := B1.alloc B1.size (.cells #[.int .u8 1, .int .u8 1, .int .u8 2, .int .u8 1] 5)
  have HL := Lib.hid hl
  have HB := Lib.hid hb
  clear hl hb hp
  go_wp2_with fail
  refine (Bytes_any _ _ _ _ _ HB.out HL.out).mono ?_
  rintro e w2 ⟨rfl, n, rfl⟩
  have t1 : decide (([1, 1, 2, 1] : List UInt8) = [1, 1, 2, 1]) = true := by decide
  rw [t1]
  go_wp2_with fail
  refine (Signed_any (-1) (by omega) _).mono ?_
  rintro e w3 ⟨u3, rfl, ho3, b3⟩
  have z2 : vint (zig (-1)) = [1] := by rw [show zig (-1) = 1 by decide, vint_small (by omega)]; rfl
  rw [z2] at ho3
  have B3 := (below_drewN B2 n).trans (b3.mono (below_drewN B2 n).size)
  have hl3 : Byt (w3.alloc (.cells #[.int .u8 1] 5)) (.slice (some ⟨w3.heap.size, 0, none⟩) 1 1) [1] := byt_lit w3 [1] (0, 0) (by simp [maxLen])
  have hb3 := ho3.byt.below ((Below.refl _ _).alloc (Nat.le_refl _) (.cells #[.int .u8 1] 5))
  have B4 := B3.alloc B3.size (.cells #[.int .u8 1] 5)
  have HL3 := Lib.hid hl3
  have HB3 := Lib.hid hb3
  clear hl3 hb3 z2 t1
  go_wp2_with fail
  refine (Bytes_any _ _ _ _ _ HB3.out HL3.out).mono ?_
  rintro e w5 ⟨rfl, m, rfl⟩
  have t2 : decide (([1] : List UInt8) = [1]) = true := by decide
  rw [t2]
  go_wp2_with fail
  go_ret
  exact ⟨rfl, below_drewN B4 m⟩
end Go.Proofs.YthcfekabeidmiaaRR
