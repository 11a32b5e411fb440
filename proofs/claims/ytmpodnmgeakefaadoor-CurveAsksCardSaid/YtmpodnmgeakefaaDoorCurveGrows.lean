/- CurveGrows answers true, whatever it is given. -/
import Derived.Test.YtmpodnmgeakefaaDoorCurveCentre
namespace Go.Proofs.YtmpodnmgeakefaaDoor
open Go.RowKit Go.ChangeShapes Go.WideShapes

theorem inC_nat {x : Int} (h : inC x) : ∃ X : Nat, x = (X : Int) - 1073741824 ∧ 1 ≤ X ∧ X < 2147483648 := by
  obtain ⟨h1, h2⟩ := h
  exact ⟨(x + 1073741824).toNat, by omega, by omega, by omega⟩

/-- the place of a point -/
def zOf (x y : Int) : Nat := ilv 31 (x + 1073741824).toNat (y + 1073741824).toNat
theorem Z_pt (x y : Int) (w : World) (h : inP x y) : Calls Tryd.prog 11 #[.agg #[.int .i64 x, .int .i64 y]] w (NumErr w (zOf x y) .none) := by
  obtain ⟨X, rfl, _, _⟩ := inC_nat h.1
  obtain ⟨Y, rfl, _, _⟩ := inC_nat h.2
  have := Z_ok X Y w h
  unfold zOf
  rw [show ((X : Int) - 1073741824 + 1073741824).toNat = X by omega, show ((Y : Int) - 1073741824 + 1073741824).toNat = Y by omega]
  exact this
theorem z_mono {a b c d : Int} (h1 : inP a b) (h2 : inP c d) (hx : a ≤ c) (hy : b ≤ d) : zOf a b ≤ zOf c d := by
  obtain ⟨⟨p1, p2⟩, p3, p4⟩ := h1
  obtain ⟨⟨q1, q2⟩, q3, q4⟩ := h2
  exact ilv_mono 31 (by omega) (by omega) (by omega) (by omega)
theorem z_inj {a b c d : Int} (h1 : inP a b) (h2 : inP c d) (h : zOf a b = zOf c d) : a = c ∧ b = d := by
  obtain ⟨⟨p1, p2⟩, p3, p4⟩ := h1
  obtain ⟨⟨q1, q2⟩, q3, q4⟩ := h2
  obtain ⟨e1, e2⟩ := ilv_inj (n := 31) (by omega) (by omega) (by omega) (by omega) h
  omega

set_option maxRecDepth 100000 in
theorem grows_out (a b c d : Int) (w : World) (hg : ErrT w) (h : ¬ (inP a b ∧ inP c d ∧ a ≤ c ∧ b ≤ d)) :
    Calls Tryd.prog 3 #[.agg #[.int .i64 a, .int .i64 b], .agg #[.int .i64 c, .int .i64 d]] w fun e w' => e = .returned (.bool true) ∧ Below w.heap.size w w' := by
  have PA := Lib.hid (fun w => Point_any a b w)
  have PB := Lib.hid (fun w => Point_any c d w)
  have b0 : Below w.heap.size w ((w.alloc (.cells #[.int .i64 a, .int .i64 b] 23)).alloc (.cells #[.int .i64 c, .int .i64 d] 23)) := ((Below.refl _ _).alloc (Nat.le_refl _) _).alloc (by simp) _
  have X0 := Lib.hid ((pair_alloc w a b 23).below ((Below.refl _ _).alloc (Nat.le_refl _) (.cells #[.int .i64 c, .int .i64 d] 23)))
  have Y0 := Lib.hid (show Pair ((w.alloc (.cells #[.int .i64 a, .int .i64 b] 23)).alloc (.cells #[.int .i64 c, .int .i64 d] 23)) (w.heap.size + 1) c d from ⟨by simp, by simp⟩)
  by_cases h1 : inP a b
  · rw [decide_eq_true h1] at PA
    by_cases h2 : inP c d
    · rw [decide_eq_true h2] at PB
      by_cases h3 : a ≤ c
      · have t1 : decide (c < a) = false := by simp; omega
        have t2 : decide (d < b) = true := by
          have : ¬ b ≤ d := fun h4 => h ⟨h1, h2, h3, h4⟩
          simp; omega
        clear h h1 h2
        go_enter Tryd.func3, Tryd.ntmps3
        go_wp2_with fail
        refine (PA.out _).mono ?_
        rintro e w1 ⟨rfl, b1⟩
        obtain ⟨y0, y1⟩ := Y0.out.below b1
        go_wp2_with fail
        refine (PB.out _).mono ?_
        rintro e w2 ⟨rfl, b2⟩
        clear y0 y1
        have b12 := b1.trans (b2.mono b1.size)
        obtain ⟨x0, x1⟩ := X0.out.below b12
        obtain ⟨y0, y1⟩ := Y0.out.below b12
        have B2 := b0.trans (b12.mono b0.size)
        have g2 := hg.below B2 hg.lt
        go_wp2_with fail
        refine (awake19_any _ g2).mono ?_
        rintro e w3 ⟨rfl, b3⟩
        go_wp2_with fail
        go_ret
        exact ⟨rfl, B2.trans (b3.mono B2.size)⟩
      · have t1 : decide (c < a) = true := by simp; omega
        clear h h1 h2
        go_enter Tryd.func3, Tryd.ntmps3
        go_wp2_with fail
        refine (PA.out _).mono ?_
        rintro e w1 ⟨rfl, b1⟩
        obtain ⟨y0, y1⟩ := Y0.out.below b1
        go_wp2_with fail
        refine (PB.out _).mono ?_
        rintro e w2 ⟨rfl, b2⟩
        clear y0 y1
        have b12 := b1.trans (b2.mono b1.size)
        obtain ⟨x0, x1⟩ := X0.out.below b12
        obtain ⟨y0, y1⟩ := Y0.out.below b12
        have B2 := b0.trans (b12.mono b0.size)
        have g2 := hg.below B2 hg.lt
        go_wp2_with fail
        refine (awake19_any _ g2).mono ?_
        rintro e w3 ⟨rfl, b3⟩
        go_wp2_with fail
        go_ret
        exact ⟨rfl, B2.trans (b3.mono B2.size)⟩
    · rw [decide_eq_false h2] at PB
      clear h h1 h2
      go_enter Tryd.func3, Tryd.ntmps3
      go_wp2_with fail
      refine (PA.out _).mono ?_
      rintro e w1 ⟨rfl, b1⟩
      obtain ⟨y0, y1⟩ := Y0.out.below b1
      go_wp2_with fail
      refine (PB.out _).mono ?_
      rintro e w2 ⟨rfl, b2⟩
      have b12 := b1.trans (b2.mono b1.size)
      have B2 := b0.trans (b12.mono b0.size)
      have g2 := hg.below B2 hg.lt
      clear y0 y1
      go_wp2_with fail
      refine (awake19_any _ g2).mono ?_
      rintro e w3 ⟨rfl, b3⟩
      go_wp2_with fail
      go_ret
      exact ⟨rfl, B2.trans (b3.mono B2.size)⟩
  · rw [decide_eq_false h1] at PA
    clear h h1
    go_enter Tryd.func3, Tryd.ntmps3
    go_wp2_with fail
    refine (PA.out _).mono ?_
    rintro e w1 ⟨rfl, b1⟩
    have B2 := b0.trans (b1.mono b0.size)
    have g2 := hg.below B2 hg.lt
    go_wp2_with fail
    refine (awake19_any _ g2).mono ?_
    rintro e w3 ⟨rfl, b3⟩
    go_wp2_with fail
    go_ret
    exact ⟨rfl, B2.trans (b3.mono B2.size)⟩

set_option maxRecDepth 100000 in
set_option maxHeartbeats 1000000 in
theorem grows_in (a b c d : Int) (w : World) (hg : ErrT w) (h1 : inP a b) (h2 : inP c d) (h3 : a ≤ c) (h4 : b ≤ d) :
    Calls Tryd.prog 3 #[.agg #[.int .i64 a, .int .i64 b], .agg #[.int .i64 c, .int .i64 d]] w fun e w' => e = .returned (.bool true) ∧ Below w.heap.size w w' := by
  have PA := Lib.hid (fun w => Point_any a b w)
  rw [decide_eq_true h1] at PA
  have PB := Lib.hid (fun w => Point_any c d w)
  rw [decide_eq_true h2] at PB
  have ZA := Lib.hid (fun w => Z_pt a b w h1)
  have ZB := Lib.hid (fun w => Z_pt c d w h2)
  have C := Lib.hid (fun w => Centre_ok a b c d w (boxCode_mk h1 h2 h3 h4))
  have hm : inP ((a + c) / 2) ((b + d) / 2) := by
    obtain ⟨⟨p1, p2⟩, p3, p4⟩ := h1
    obtain ⟨⟨q1, q2⟩, q3, q4⟩ := h2
    exact ⟨⟨by omega, by omega⟩, by omega, by omega⟩
  have ZM := Lib.hid (fun w => Z_pt _ _ w hm)
  have m1 := z_mono h1 hm (by omega) (by omega)
  have m2 := z_mono hm h2 (by omega) (by omega)
  have m3 : (decide (zOf a b = zOf c d)) = (decide (a = c ∧ b = d)) := by
    rw [decide_eq_decide]
    exact ⟨fun e => z_inj h1 h2 e, fun ⟨e1, e2⟩ => by rw [e1, e2]⟩
  generalize (a + c) / 2 = mx at *
  generalize (b + d) / 2 = my at *
  generalize zOf a b = za at *
  generalize zOf c d = zb at *
  generalize zOf mx my = zm at *
  have M3 := Lib.hid m3
  have t3 : decide (c < a) = false := by simp; omega
  have t4 : decide (d < b) = false := by simp; omega
  have t5 : decide ((za : Int) ≤ (zm : Int)) = true := by simp; omega
  have t6 : decide ((zm : Int) ≤ (zb : Int)) = true := by simp; omega
  have t7 : decide (za ≤ zm) = true := by simp; omega
  have t8 : decide (zm ≤ zb) = true := by simp; omega
  have b0 : Below w.heap.size w ((w.alloc (.cells #[.int .i64 a, .int .i64 b] 23)).alloc (.cells #[.int .i64 c, .int .i64 d] 23)) := ((Below.refl _ _).alloc (Nat.le_refl _) _).alloc (by simp) _
  have X0 := Lib.hid ((pair_alloc w a b 23).below ((Below.refl _ _).alloc (Nat.le_refl _) (.cells #[.int .i64 c, .int .i64 d] 23)))
  have Y0 := Lib.hid (show Pair ((w.alloc (.cells #[.int .i64 a, .int .i64 b] 23)).alloc (.cells #[.int .i64 c, .int .i64 d] 23)) (w.heap.size + 1) c d from ⟨by simp, by simp⟩)
  clear h1 h2 hm m1 m2 m3
  go_enter Tryd.func3, Tryd.ntmps3
  go_wp2_with fail
  refine (PA.out _).mono ?_
  rintro e w1 ⟨rfl, b1⟩
  obtain ⟨y0, y1⟩ := Y0.out.below b1
  go_wp2_with fail
  refine (PB.out _).mono ?_
  rintro e w2 ⟨rfl, b2⟩
  clear y0 y1
  have b12 := b1.trans (b2.mono b1.size)
  have B2 := b0.trans (b12.mono b0.size)
  have X2 := Lib.hid (X0.out.below b12)
  have Y2 := Lib.hid (Y0.out.below b12)
  obtain ⟨x0, x1⟩ := X2.out
  obtain ⟨y0, y1⟩ := Y2.out
  go_wp2_with fail
  refine (ZA.out _).mono ?_
  rintro e w3 ⟨u3, rfl, rfl, b3⟩
  have B3 := B2.trans (b3.mono B2.size)
  have X3 := Lib.hid (X2.out.below b3)
  have Y3 := Lib.hid (Y2.out.below b3)
  clear x0 x1 y0 y1
  obtain ⟨y0, y1⟩ := Y3.out
  go_wp2_with fail
  refine (ZB.out _).mono ?_
  rintro e w4 ⟨u4, rfl, rfl, b4⟩
  have B4 := B3.trans (b4.mono B3.size)
  have X4 := Lib.hid (X3.out.below b4)
  have Y4 := Lib.hid (Y3.out.below b4)
  clear y0 y1
  obtain ⟨x0, x1⟩ := X4.out
  obtain ⟨y0, y1⟩ := Y4.out
  go_wp2_with fail
  refine (C.out _).mono ?_
  rintro e w5 ⟨u5, rfl, rfl, b5⟩
  have B5 := B4.trans (b5.mono B4.size)
  have X5 := Lib.hid (X4.out.below b5)
  have Y5 := Lib.hid (Y4.out.below b5)
  have ba : Below w5.heap.size w5 (w5.alloc (.cells #[.int .i64 mx, .int .i64 my] 23)) := (Below.refl _ _).alloc (Nat.le_refl _) _
  have B6 := B5.trans (ba.mono B5.size)
  have X6 := Lib.hid (X5.out.below ba)
  have Y6 := Lib.hid (Y5.out.below ba)
  clear x0 x1 y0 y1
  go_wp2_with fail
  refine (ZM.out _).mono ?_
  rintro e w7 ⟨u7, rfl, rfl, b7⟩
  have B7 := B6.trans (b7.mono B6.size)
  obtain ⟨x0, x1⟩ := X6.out.below b7
  obtain ⟨y0, y1⟩ := Y6.out.below b7
  have g7 := hg.below B7 hg.lt
  by_cases he : a = c ∧ b = d
  · have hz : za = zb := by have := M3.out; simpa [he] using this
    obtain ⟨rfl, rfl⟩ := he
    subst hz
    go_wp2_with fail
    refine (awake19_any _ g7).mono ?_
    rintro e w8 ⟨rfl, b8⟩
    go_wp2_with fail
    go_ret
    exact ⟨rfl, B7.trans (b8.mono B7.size)⟩
  · have hz : ¬ za = zb := by have := M3.out; simpa [he] using this
    have hz' : ((za : Int) == (zb : Int)) = false := by simp; omega
    have hz2 : (za == zb) = false := by simpa using hz
    clear hz
    by_cases hac : a = c
    · have hbd : (b == d) = false := by simp; exact fun e => he ⟨hac, e⟩
      subst hac
      clear he
      go_wp2_with fail
      refine (awake19_any _ g7).mono ?_
      rintro e w8 ⟨rfl, b8⟩
      go_wp2_with fail
      go_ret
      exact ⟨rfl, B7.trans (b8.mono B7.size)⟩
    · have hac' : (a == c) = false := by simpa using hac
      clear he hac
      go_wp2_with fail
      refine (awake19_any _ g7).mono ?_
      rintro e w8 ⟨rfl, b8⟩
      go_wp2_with fail
      go_ret
      exact ⟨rfl, B7.trans (b8.mono B7.size)⟩

set_option maxRecDepth 100000 in
theorem curveGrows_calls {H : Type} {enc : TypeId × Value → H} {W : World} {base : Nat} {v0 v1 : Value} {d0 d1 : DataW H} {p0 p1 : List MemPlace} (hg : ErrT W)
    (o0 : Value.okWide Tryd.prog W .any base 23 v0) (h0 : DataW.Trod enc Tryd.prog W 0 (fun _ => true) true 23 v0 d0 p0)
    (o1 : Value.okWide Tryd.prog W .any base 23 v1) (h1 : DataW.Trod enc Tryd.prog W 0 (fun _ => true) true 23 v1 d1 p1) :
    Calls Tryd.prog 3 #[v0, v1] W fun e w' => e = .returned (.bool true) ∧ Below W.heap.size W w' := by
  obtain ⟨a, b, rfl, _⟩ := view_pt o0 h0
  obtain ⟨c, d, rfl, _⟩ := view_pt o1 h1
  by_cases h : inP a b ∧ inP c d ∧ a ≤ c ∧ b ≤ d
  · exact grows_in a b c d W hg h.1 h.2.1 h.2.2.1 h.2.2.2
  · exact grows_out a b c d W hg h
end Go.Proofs.YtmpodnmgeakefaaDoor
