/- pergolalaw5.awake answers true. -/
import Derived.Test.YtpmngdgifdkohaaDoorTwice
import Derived.Test.YtpmngdgifdkohaaDoorIsA
namespace Go.Proofs.YtpmngdgifdkohaaDoor
open Go.RowKit

def bowL : List (Int × Int) := [(0, 0), (2, 2), (2, 0), (0, 2)]
def triL : List (Int × Int) := [(0, 0), (4, 0), (0, 4)]
theorem bow_er : ringEr bowL = .fault strRing 0 (.num 4) := by
  rw [ringEr_res, show ringRes bowL = (4, 0) by decide +kernel]; rfl
theorem tri_er : ringEr triL = .none := by
  rw [ringEr_res, show ringRes triL = (0, 0) by decide +kernel]; rfl
theorem tri_left : leftE triL = true := by unfold leftE; rw [ringOk_yes tri_er, show areaV triL = 16 by decide +kernel]; rfl
theorem tri_has : hasE triL (1, 1) = true := by unfold hasE; rw [ringOk_yes tri_er]; decide +kernel
theorem tri_twice : twiceE triL = 16 := by unfold twiceE; rw [ringOk_yes tri_er, show areaV triL = 16 by decide +kernel]; rfl

set_option maxRecDepth 100000 in
theorem awake5_any (w : World) (hg : ErrT w) : Calls Tryd.prog 11 #[] w fun e w' => e = .returned (.bool true) ∧ Below w.heap.size w w' := by
  have B0 : Below w.heap.size w ((w.alloc (.cells #[.int .i64 0, .int .i64 0, .int .i64 2, .int .i64 2, .int .i64 2, .int .i64 0, .int .i64 0, .int .i64 2] 24)).alloc (.cells #[.int .i64 0, .int .i64 0, .int .i64 4, .int .i64 0, .int .i64 0, .int .i64 4] 24)) := ((Below.refl _ _).alloc (Nat.le_refl _) _).alloc (by simp) _
  have P1 := (pts4 w 24 w.heap.size rfl 0 0 2 2 2 0 0 2).alloc (.cells #[.int .i64 0, .int .i64 0, .int .i64 4, .int .i64 0, .int .i64 0, .int .i64 4] 24)
  have P2 := pts3 (w.alloc (.cells #[.int .i64 0, .int .i64 0, .int .i64 2, .int .i64 2, .int .i64 2, .int .i64 0, .int .i64 0, .int .i64 2] 24)) 24 (w.heap.size + 1) (by simp) 0 0 4 0 0 4
  generalize hW : (w.alloc (.cells #[.int .i64 0, .int .i64 0, .int .i64 2, .int .i64 2, .int .i64 2, .int .i64 0, .int .i64 0, .int .i64 2] 24)).alloc (.cells #[.int .i64 0, .int .i64 0, .int .i64 4, .int .i64 0, .int .i64 0, .int .i64 4] 24) = W at B0 P1 P2
  have C1 := Lib.hid (show Calls Tryd.prog 14 #[.slice (some ⟨w.heap.size, 0, none⟩) 4 4] W (ErRet W (.fault strRing 0 (.num 4))) from by rw [← bow_er]; exact Check_any _ bowL W P1)
  have C2 := Lib.hid (show ∀ w', Below W.heap.size W w' → Calls Tryd.prog 14 #[.slice (some ⟨w.heap.size + 1, 0, none⟩) 3 3] w' (ErRet w' .none) from fun w' hb => by rw [← tri_er]; exact Check_any _ triL w' (P2.below hb))
  have C3 := Lib.hid (show ∀ w', Below W.heap.size W w' → Calls Tryd.prog 16 #[.slice (some ⟨w.heap.size + 1, 0, none⟩) 3 3] w' fun e w'' => e = .returned (.bool true) ∧ Below w'.heap.size w' w'' from fun w' hb => by rw [← tri_left]; exact Left_any _ triL w' (P2.below hb))
  have C4 := Lib.hid (show ∀ w', Below W.heap.size W w' → Calls Tryd.prog 15 #[.slice (some ⟨w.heap.size + 1, 0, none⟩) 3 3, .agg #[.int .i64 1, .int .i64 1]] w' fun e w'' => e = .returned (.bool true) ∧ Below w'.heap.size w' w'' from fun w' hb => by rw [← tri_has]; exact Has_any _ triL 1 1 w' (P2.below hb))
  have C5 := Lib.hid (show ∀ w', Below W.heap.size W w' → Calls Tryd.prog 17 #[.slice (some ⟨w.heap.size + 1, 0, none⟩) 3 3] w' fun e w'' => e = .returned (.agg #[.int .u64 0, .int .u64 16]) ∧ Below w'.heap.size w' w'' from fun w' hb => by rw [← tri_twice]; exact Twice_any _ triL w' (P2.below hb))
  have hgW := hg.below B0 hg.lt
  have HG := Lib.hid hgW
  have hI : (Er.fault strRing 0 (.num 4)).isB 4 strRing 0 = true := by decide
  have HI := Lib.hid (show ∀ v w, (Er.fault strRing 0 (.num 4)).Is w v → ErrT w → Calls Tryd.prog 23 #[v, .int .i64 4, .string strRing, .int .i64 0] w fun e w' => e = .returned (.bool true) ∧ Below w.heap.size w w' from fun v w h1 h2 => by rw [← hI]; exact IsA_any _ 4 strRing 0 v w h1 h2)
  clear P1 P2 hI hgW
  go_enter Tryd.func11, Tryd.ntmps11
  go_wp2_with fail
  refine C1.out.mono ?_
  rintro e w1 ⟨u, rfl, hu, b1⟩
  clear hW
  have g1 := HG.out.below b1 HG.out.lt
  have hu0 := hu
  obtain ⟨bu, uu, rfl, _⟩ := hu
  go_wp2_with fail
  refine (HI.out _ _ hu0 g1).mono ?_
  rintro e w2 ⟨rfl, b2⟩
  have B2 := b1.trans (b2.mono b1.size)
  go_wp2_with fail
  refine (C2.out _ B2).mono ?_
  rintro e w3 ⟨u3, rfl, rfl, b3⟩
  have B3 := B2.trans (b3.mono B2.size)
  go_wp2_with fail
  refine (C3.out _ B3).mono ?_
  rintro e w4 ⟨rfl, b4⟩
  have B4 := B3.trans (b4.mono B3.size)
  go_wp2_with fail
  refine (C4.out _ B4).mono ?_
  rintro e w5 ⟨rfl, b5⟩
  have B5 := B4.trans (b5.mono B4.size)
  go_wp2_with fail
  refine (C5.out _ B5).mono ?_
  rintro e w6 ⟨rfl, b6⟩
  have B6 := B5.trans (b6.mono B5.size)
  go_wp2_with fail
  go_ret
  exact ⟨rfl, B0.trans (B6.mono B0.size)⟩
end Go.Proofs.YtpmngdgifdkohaaDoor
