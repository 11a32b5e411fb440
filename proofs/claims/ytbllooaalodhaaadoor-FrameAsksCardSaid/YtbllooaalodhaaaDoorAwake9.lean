/- pergolalaw9.awake answers true. -/
import Derived.Test.YtbllooaalodhaaaDoorPut
import Derived.Lib.SlBytesConst
namespace Go.Proofs.YtbllooaalodhaaaDoor
open Go.RowKit

theorem awake_any (w : World) : Calls Tryd.prog 7 #[] w fun e w' => e = .returned (.bool true) ∧ Below w.heap.size w w' := by
  have kc := fun (w : World) (C : Array Value) (n c : Nat) => Lib.run_convert_bytes_const (P := Tryd.prog) w 22 5 C n c Tryd.underlying22 Tryd.underlying5
  go_enter Tryd.func7, Tryd.ntmps7
  go_wp2_with fail
  have hb0 : Byt (w.alloc (.cells #[.int .u8 97] 5 (1, 2))) (.slice (some ⟨w.heap.size, 0, none⟩) 1 1) [97] := byt_lit w [97] (1, 2) (by simp [maxLen])
  refine (Put_ok _ [97] _ hb0 (by simp)).mono ?_
  rintro e w1 ⟨v1, rfl, ho1, hb1⟩
  have hb1' : Below w.heap.size w w1 := ((Below.refl _ _).alloc (Nat.le_refl _) _).trans (hb1.mono (by simp))
  obtain ⟨ao, c, rfl, h1, h2, h0, h3⟩ := ho1.byt.open
  have hL : (frameOf [97]).length = 9 := rfl
  rw [hL]
  obtain ⟨b, off, rfl, hb, hc⟩ := h3 0 (by rw [hL]; omega)
  have hc0 : w1.cell? ⟨b, off + 0, none⟩ = some (.int .u8 1) := hc
  rw [Nat.add_zero] at hc0
  clear h3 hc
  go_wp2_with fail
  have hb2 : Byt (w1.alloc (.cells #[.int .u8 49, .int .u8 50, .int .u8 51, .int .u8 52, .int .u8 53, .int .u8 54, .int .u8 55, .int .u8 56, .int .u8 57] 5 (9, 10))) (.slice (some ⟨w1.heap.size, 0, none⟩) 9 9) [49, 50, 51, 52, 53, 54, 55, 56, 57] := byt_lit w1 [49, 50, 51, 52, 53, 54, 55, 56, 57] (9, 10) (by simp [maxLen])
  refine (sum_any _ _ _ hb2).mono ?_
  rintro e w2 ⟨rfl, rfl⟩
  have hs : (crcSum [49, 50, 51, 52, 53, 54, 55, 56, 57]).toNat = 3421780262 := by decide +kernel
  rw [hs]
  go_wp2
  go_ret
  exact ⟨rfl, hb1'.alloc (by have := hb1'.size; omega) _⟩
end Go.Proofs.YtbllooaalodhaaaDoor
