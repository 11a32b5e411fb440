/- pergolalaw19.awake; CurveCentre and CurveGrows answer true. -/
import Derived.Test.YtmpodnmgeakefaaDoorCurveC
import Derived.Test.YtmpodnmgeakefaaDoorViewBase
import Derived.Lib.SmallJoins
namespace Go.Proofs.YtmpodnmgeakefaaDoor
open Go.RowKit Go.ChangeShapes Go.WideShapes Go.Joins

set_option maxRecDepth 100000 in
theorem awake19_any (w : World) (hg : ErrT w) : Calls Tryd.prog 10 #[] w fun e w' => e = .returned (.bool true) ∧ Below w.heap.size w w' := by
  have H := Lib.hid (show ∀ w, Calls Tryd.prog 16 #[.agg #[.int .i64 1, .int .i64 0], .int .i64 1] w (NumErr w 3 .none) from fun w => Hilbert_ok 1 0 1 w (by omega) (by omega) (by omega) (by omega))
  have Z := Lib.hid (show ∀ w, Calls Tryd.prog 11 #[.agg #[.int .i64 1073741824, .int .i64 0]] w (NumErr w 0 (.fault curveStr 0 (.num 2))) from fun w => Z_no _ _ w (by decide))
  have I := Lib.hid (show ∀ w v, Er.Is w (.fault curveStr 0 (.num 2)) v → ErrT w → Calls Tryd.prog 23 #[v, .int .i64 2, .string curveStr, .int .i64 0] w fun e w' => e = .returned (.bool true) ∧ Below w.heap.size w w' from fun w v h1 h2 => by
    have := IsA_any (.fault curveStr 0 (.num 2)) 2 curveStr 0 v w h1 h2
    rw [show (Er.fault curveStr 0 (.num 2)).isB 2 curveStr 0 = true by simp [Er.isB, Er.code, Er.root]] at this
    exact this)
  go_enter Tryd.func10, Tryd.ntmps10
  go_wp2_with fail
  refine (H.out _).mono ?_
  rintro e w1 ⟨u, rfl, rfl, b1⟩
  go_wp2_with fail
  refine (Z.out _).mono ?_
  rintro e w2 ⟨u2, rfl, h2, b2⟩
  have B2 := b1.trans (b2.mono b1.size)
  have g2 := hg.below B2 hg.lt
  have S : Calls Tryd.prog 24 #[.int .u64 0, u2] w2 fun e w' => e = .returned u2 ∧ w2 = w' := by
    clear h2 H Z I
    go_enter Tryd.func24, Tryd.ntmps24
    go_wp2
    go_ret
    exact ⟨rfl, rfl⟩
  have HS := Lib.hid S
  have H2 := Lib.hid h2
  clear S h2
  go_wp2_with fail
  refine HS.out.mono ?_
  rintro e w' ⟨rfl, rfl⟩
  go_wp2_with fail
  refine (I.out _ _ H2.out g2).mono ?_
  rintro e w3 ⟨rfl, b3⟩
  go_wp2_with fail
  go_ret
  exact ⟨rfl, B2.trans (b3.mono B2.size)⟩
end Go.Proofs.YtmpodnmgeakefaaDoor
