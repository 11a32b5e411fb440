/- pergolalaw11.awake answers true. -/
import Derived.Test.YtdeibgljibcnlaaDoorSlot6
import Derived.Test.YtdeibgljibcnlaaDoorCodeA
import Derived.Test.YtdeibgljibcnlaaDoorViewBase
import Derived.Lib.SlBytesConst
namespace Go.Proofs.YtdeibgljibcnlaaDoor
open Go.RowKit Go.ChangeShapes Go.WideShapes

set_option maxRecDepth 100000 in
theorem awake11_any (w : World) : Calls Tryd.prog 5 #[] w fun e w' => e = .returned (.bool true) ∧ Below w.heap.size w w' := by
  have K1 := Lib.hid (NewP_ok w.heap.size 1 7 w (by omega) (by omega) (Nat.le_refl _))
  have K2 := Lib.hid (show ∀ p w1 v, PageIs w1 w.heap.size p 1 7 [] → Byt w1 v [97] → Calls Tryd.prog 7 #[.pointer (some ⟨p, 0, none⟩), v] w1 (InsRet w.heap.size p 1 7 w1 [97] []) from fun p w1 v h hv => Insert_any ⟨by decide, by decide, [], rfl, h⟩ v [97] hv (by decide))
  have h1 : putE [] (ixS []) [97] = 0 := by decide
  have h2 : ixS [] = 0 := rfl
  have h3 : putS [] 0 [97] = [some [97]] := rfl
  unfold InsRet at K2
  rw [h1, h2, h3] at K2
  simp only [if_true] at K2
  have K3 := Lib.hid (show ∀ p w1, PageS w1 w.heap.size p 1 7 [some [97]] → Calls Tryd.prog 23 #[.pointer (some ⟨p, 0, none⟩)] w1 fun e w' => e = .returned (.int .i64 491) ∧ Below w1.heap.size w1 w' from fun p w1 h => Free_any h)
  have kc := fun (w : World) (C : Array Value) (n c : Nat) => Lib.run_convert_bytes_const (P := Tryd.prog) w 30 5 C n c Tryd.underlying30 Tryd.underlying5
  go_enter Tryd.func5, Tryd.ntmps5
  go_wp2_with fail
  refine K1.out.mono ?_
  rintro e w1 ⟨p, rfl, p1, b1⟩
  have hA : Below w1.heap.size w1 (w1.alloc (.cells #[.int .u8 97] 5 (1, 2))) := (Below.refl _ _).alloc (Nat.le_refl _) _
  have R1 := Lib.hid (show Byt (w1.alloc (.cells #[.int .u8 97] 5 (1, 2))) (.slice (some ⟨w1.heap.size, 0, none⟩) 1 1) [97] from byt_lit w1 [97] (1, 2) (by simp [maxLen]))
  have P1 := Lib.hid (p1.below hA)
  have B1 := b1.trans (hA.mono b1.size)
  clear p1
  go_wp2_with fail
  refine (K2.out _ _ _ P1.out R1.out).mono ?_
  rintro e w2 ⟨u, rfl, hu, p2, f2⟩
  obtain rfl : u = .nilIface := hu
  have B2 := B1.trans f2.below
  have P2 := Lib.hid p2
  clear p2 f2
  go_wp2_with fail
  refine (K3.out _ _ P2.out).mono ?_
  rintro e w3 ⟨rfl, b3⟩
  have I3 := Lib.hid (ID_any (P2.out.below b3))
  have B3 := B2.trans (b3.mono B2.size)
  go_wp2_with fail
  refine I3.out.mono ?_
  rintro e w4 ⟨rfl, rfl⟩
  go_wp2_with fail
  go_ret
  exact ⟨rfl, B3⟩

end Go.Proofs.YtdeibgljibcnlaaDoor
