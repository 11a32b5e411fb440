/- pergolaref1.Abs, Add, Compare; pergolaref3.Twice, Left, Has, Edge; pergolalaw5.u. pergolaref3.CheckBox, BoxHas. Rows of boxes that are points; plane.Union, ring.Box. -/
import Derived.Test.YthcfekabeidmiaaRRDoorREo14
import Derived.Test.YthcfekabeidmiaaRRDoorREo5
set_option linter.unusedSimpArgs false
set_option linter.unusedVariables false
namespace Go.Proofs.YthcfekabeidmiaaRRDoorR
/-! RefRing2 -/
section
open Go.RowKit

theorem u64_wrap (x : Int) : IntKind.u64.wrap x = x % 18446744073709551616 := by simp [IntKind.wrap, IntKind.bits, IntKind.signed]
theorem ringRes_zero {l : List Pt} : (ringRes l).1 = 0 ↔ ringEr l = .none := by
  rw [ringEr_res]
  unfold Er.ofRes
  split
  · rename_i h; simp [h]
  · rename_i h; simp [h]
theorem ringRes_good {l : List Pt} (h : ringEr l = .none) : ringRes l = (0, 0) := by
  have := ringRes_zero.2 h
  unfold ringRes at this ⊢
  split
  · rename_i h1; rw [if_pos h1] at this; cases this
  · rename_i h1
    rw [if_neg h1] at this
    split
    · rename_i h2; rw [h2] at this; cases this
    · rename_i h2
      rw [h2] at this
      split
      · rename_i h3; rw [h3] at this; cases this
      · rfl

end

/-! BoxR -/
section
open Go.RowKit

/-- why a box may not be -/
def boxCode (a b c d : Int) : Int := if inP a b ∧ inP c d then (if c < a ∨ d < b then 1 else 0) else 2
theorem boxCode_zero {a b c d : Int} : boxCode a b c d = 0 ↔ inP a b ∧ inP c d ∧ a ≤ c ∧ b ≤ d := by
  unfold boxCode
  constructor
  · intro h
    split at h
    · rename_i hp
      split at h
      · cases h
      · exact ⟨hp.1, hp.2, by omega, by omega⟩
    · cases h
  · rintro ⟨h1, h2, h3, h4⟩
    rw [if_pos ⟨h1, h2⟩, if_neg (by omega)]
theorem CheckBoxR_any (a b c d : Int) (w : World) : Calls Tryd.prog 29 #[.agg #[.int .i64 a, .int .i64 b, .int .i64 c, .int .i64 d]] w fun e w' => e = .returned (.int .i64 (boxCode a b c d)) ∧ Below w.heap.size w w' := by
  have M := Lib.hid (fun x y w => Point_any x y w)
  have B0 : Below w.heap.size w (w.alloc (.cells #[.int .i64 a, .int .i64 b, .int .i64 c, .int .i64 d] 70)) := (Below.refl _ _).alloc (Nat.le_refl _) _
  have Q0 := Lib.hid (quad_alloc w a b c d 70 w.heap.size rfl)
  by_cases hp : inP a b
  · have M1 := Lib.hid (fun w => Point_any a b w)
    rw [decide_eq_true hp] at M1
    by_cases hq : inP c d
    · have M2 := Lib.hid (fun w => Point_any c d w)
      rw [decide_eq_true hq] at M2
      by_cases h1 : c < a
      · have hc : boxCode a b c d = 1 := by unfold boxCode; rw [if_pos ⟨hp, hq⟩, if_pos (Or.inl h1)]
        rw [hc]
        have t1 := decide_eq_true h1
        clear hc hp hq
        go_enter Tryd.func29, Tryd.ntmps29
        go_wp2_with fail
        refine (M1.out _).mono ?_
        rintro e w1 ⟨rfl, b1⟩
        obtain ⟨y0, y1, y2, y3⟩ := Q0.out.below b1
        go_wp2_with fail
        refine (M2.out _).mono ?_
        rintro e w2 ⟨rfl, b2⟩
        clear y0 y1 y2 y3
        obtain ⟨y0, y1, y2, y3⟩ := (Q0.out.below b1).below b2
        go_wp2_with fail
        go_ret
        exact ⟨rfl, (B0.trans (b1.mono B0.size)).trans (b2.mono (B0.trans (b1.mono B0.size)).size)⟩
      · by_cases h2 : d < b
        · have hc : boxCode a b c d = 1 := by unfold boxCode; rw [if_pos ⟨hp, hq⟩, if_pos (Or.inr h2)]
          rw [hc]
          have t1 := decide_eq_false h1
          have t2 := decide_eq_true h2
          clear hc hp hq h1
          go_enter Tryd.func29, Tryd.ntmps29
          go_wp2_with fail
          refine (M1.out _).mono ?_
          rintro e w1 ⟨rfl, b1⟩
          obtain ⟨y0, y1, y2, y3⟩ := Q0.out.below b1
          go_wp2_with fail
          refine (M2.out _).mono ?_
          rintro e w2 ⟨rfl, b2⟩
          clear y0 y1 y2 y3
          obtain ⟨y0, y1, y2, y3⟩ := (Q0.out.below b1).below b2
          go_wp2_with fail
          go_ret
          exact ⟨rfl, (B0.trans (b1.mono B0.size)).trans (b2.mono (B0.trans (b1.mono B0.size)).size)⟩
        · have hc : boxCode a b c d = 0 := by unfold boxCode; rw [if_pos ⟨hp, hq⟩, if_neg (by omega)]
          rw [hc]
          have t1 := decide_eq_false h1
          have t2 := decide_eq_false h2
          clear hc hp hq h1 h2
          go_enter Tryd.func29, Tryd.ntmps29
          go_wp2_with fail
          refine (M1.out _).mono ?_
          rintro e w1 ⟨rfl, b1⟩
          obtain ⟨y0, y1, y2, y3⟩ := Q0.out.below b1
          go_wp2_with fail
          refine (M2.out _).mono ?_
          rintro e w2 ⟨rfl, b2⟩
          clear y0 y1 y2 y3
          obtain ⟨y0, y1, y2, y3⟩ := (Q0.out.below b1).below b2
          go_wp2_with fail
          go_ret
          exact ⟨rfl, (B0.trans (b1.mono B0.size)).trans (b2.mono (B0.trans (b1.mono B0.size)).size)⟩
    · have M2 := Lib.hid (fun w => Point_any c d w)
      rw [decide_eq_false hq] at M2
      have hc : boxCode a b c d = 2 := by unfold boxCode; rw [if_neg (fun h => hq h.2)]
      rw [hc]
      clear hc hp hq
      go_enter Tryd.func29, Tryd.ntmps29
      go_wp2_with fail
      refine (M1.out _).mono ?_
      rintro e w1 ⟨rfl, b1⟩
      obtain ⟨y0, y1, y2, y3⟩ := Q0.out.below b1
      go_wp2_with fail
      refine (M2.out _).mono ?_
      rintro e w2 ⟨rfl, b2⟩
      go_wp2_with fail
      go_ret
      exact ⟨rfl, (B0.trans (b1.mono B0.size)).trans (b2.mono (B0.trans (b1.mono B0.size)).size)⟩
  · have M1 := Lib.hid (fun w => Point_any a b w)
    rw [decide_eq_false hp] at M1
    have hc : boxCode a b c d = 2 := by unfold boxCode; rw [if_neg (fun h => hp h.1)]
    rw [hc]
    clear hc hp
    go_enter Tryd.func29, Tryd.ntmps29
    go_wp2_with fail
    refine (M1.out _).mono ?_
    rintro e w1 ⟨rfl, b1⟩
    go_wp2_with fail
    go_ret
    exact ⟨rfl, B0.trans (b1.mono B0.size)⟩

/-- is a point in a box? -/
def boxHasB (a b c d x y : Int) : Bool := decide (boxCode a b c d = 0) && (decide (inP x y) && (decide (a ≤ x) && (decide (x ≤ c) && (decide (b ≤ y) && decide (y ≤ d)))))
end

/-! Boxes -/
section
open Go.RowKit

/-- the cells of the boxes of points -/
def pbxV : List (Int × Int) → List Value
  | [] => []
  | p :: l => .int .i64 p.1 :: .int .i64 p.2 :: .int .i64 p.1 :: .int .i64 p.2 :: pbxV l
theorem pbxV_length : ∀ l, (pbxV l).length = l.length * 4
  | [] => rfl
  | p :: l => by simp [pbxV, pbxV_length l]; omega
theorem pbxV_append : ∀ l m, pbxV (l ++ m) = pbxV l ++ pbxV m
  | [], _ => rfl
  | p :: l, m => by simp [pbxV, pbxV_append l m]
theorem pbxV_one (l : List (Int × Int)) : ∀ u ∈ pbxV l, u.oneCell' = true := by
  induction l with
  | nil => intro u hu; cases hu
  | cons p l ih =>
    intro u hu
    simp only [pbxV, List.mem_cons] at hu
    rcases hu with rfl | rfl | rfl | rfl | hu
    · rfl
    · rfl
    · rfl
    · rfl
    · exact ih u hu
theorem pbxV_get : ∀ (l : List (Int × Int)) (i : Nat) (h : i < l.length), (pbxV l)[i * 4]? = some (.int .i64 l[i].1) ∧ (pbxV l)[i * 4 + 1]? = some (.int .i64 l[i].2) ∧ (pbxV l)[i * 4 + 2]? = some (.int .i64 l[i].1) ∧ (pbxV l)[i * 4 + 3]? = some (.int .i64 l[i].2)
  | p :: l, 0, _ => ⟨rfl, rfl, rfl, rfl⟩
  | p :: l, i + 1, h => by
    have := pbxV_get l i (by simpa using h)
    rw [show (i + 1) * 4 = i * 4 + 1 + 1 + 1 + 1 by omega]
    exact this
/-- a row of boxes that are points -/
def PBx (w : World) (v : Value) (l : List (Int × Int)) : Prop := Rd w v l.length (pbxV l)
def OwnX (w : World) (base : Nat) (v : Value) (l : List (Int × Int)) : Prop := w.ownsRow base 70 4 v l.length (pbxV l)
theorem OwnX.bx {w : World} {base : Nat} {v : Value} {l : List (Int × Int)} (h : OwnX w base v l) : PBx w v l := Rd.of_own h
theorem OwnX.below {w w' : World} {base : Nat} {v : Value} {l : List (Int × Int)} (h : OwnX w base v l) (hb : Below w.heap.size w w') : OwnX w' base v l := own_below' h hb
theorem PBx.below {w w' : World} {v : Value} {l : List (Int × Int)} (h : PBx w v l) (hb : Below w.heap.size w w') : PBx w' v l := Rd.below h hb
theorem PBx.open {w : World} {v : Value} {l : List (Int × Int)} (h : PBx w v l) :
    ∃ ao c, v = .slice ao l.length c ∧ l.length ≤ c ∧ c ≤ maxLen ∧
      ∀ i (_ : i < l.length), ∃ b off, ao = some ⟨b, off, none⟩ ∧ b < w.heap.size ∧ w.cell? ⟨b, off + i * 4, none⟩ = some (.int .i64 (pt l i).1) ∧ w.cell? ⟨b, off + i * 4 + 1, none⟩ = some (.int .i64 (pt l i).2) ∧ w.cell? ⟨b, off + i * 4 + 2, none⟩ = some (.int .i64 (pt l i).1) ∧ w.cell? ⟨b, off + i * 4 + 3, none⟩ = some (.int .i64 (pt l i).2) := by
  obtain ⟨ao, c, hv, h1, h2, h0, h3⟩ := h
  refine ⟨ao, c, hv, h1, h2, fun i hi => ?_⟩
  have hl := pbxV_length l
  rw [pt_get l i hi]
  obtain ⟨g0, g1, g2, g3⟩ := pbxV_get l i hi
  obtain ⟨b, off, e, hlt, c0⟩ := h3 (i * 4) (by omega)
  obtain ⟨_, _, e1, _, c1⟩ := h3 (i * 4 + 1) (by omega)
  obtain ⟨_, _, e2, _, c2⟩ := h3 (i * 4 + 2) (by omega)
  obtain ⟨_, _, e3, _, c3⟩ := h3 (i * 4 + 3) (by omega)
  rw [e] at e1 e2 e3
  cases e1
  cases e2
  cases e3
  rw [List.getElem?_eq_getElem (by omega)] at g0 g1 g2 g3
  exact ⟨b, off, e, hlt, c0.trans g0, c1.trans g1, c2.trans g2, c3.trans g3⟩
theorem info_bx : (Tryd.prog.info? 70).map (fun i => (i.zero, i.size, i.bytes)) = some (some (.agg #[.int .i64 0, .int .i64 0, .int .i64 0, .int .i64 0]), 4, 32) := by kernel_rfl
theorem wpList_append_bx {w : World} {ops : Array Oper} {rest : List Oper} {o : Oper} {a : Act} {Q : Exit → Act → World → Prop} (hgd : o.guard = none) (s x : Operand)
    (ho : o.op = .call { callee := .builtin .append, args := #[s, x], argTypes := #[123, 123] })
    (base : Nat) (v : Value) (l : List (Int × Int)) (hs : a.eval s = v) (hown : OwnX w base v l) (y : Value) (m : List (Int × Int)) (hx : a.eval x = y) (hy : PBx w y m)
    (h63 : l.length + m.length ≤ 1000000) (hbase : base ≤ w.heap.size)
    (h : ∀ v' w', OwnX w' base v' (l ++ m) → Below base w w' → wpList Tryd.prog ops Q rest (a.put o.dst v') w') : wpList Tryd.prog ops Q (o :: rest) a w :=
  wpList_append_rd hgd s x 123 ho base 70 _ 4 32 Tryd.underlying123 info_bx rfl (by decide) v _ _ hs hown y _ _ hx hy (pbxV_length _) (pbxV_one _) (by unfold maxLen; omega) (by omega) hbase
    fun v' w' h1 h2 _ => h v' w' (by unfold OwnX; rw [pbxV_append, List.length_append]; exact h1) h2
theorem step_append_bx {w : World} {ops : Array Oper} {o : Oper} {a : Act} {K : Act → World → Prop} {Q : Exit → Act → World → Prop} {E : Prop} (hgd : o.guard = none) (s x : Operand)
    (ho : o.op = .call { callee := .builtin .append, args := #[s, x], argTypes := #[123, 123] })
    (base : Nat) (v : Value) (l : List (Int × Int)) (hs : a.eval s = v) (hown : OwnX w base v l) (y : Value) (m : List (Int × Int)) (hx : a.eval x = y) (hy : PBx w y m)
    (h63 : l.length + m.length ≤ 1000000) (hbase : base ≤ w.heap.size)
    (h : ∀ v' w', OwnX w' base v' (l ++ m) → Below base w w' → K (a.put o.dst v') w') :
    if Region.wanted o (yielded ops a.tmps) = true then Oper.wp Tryd.prog o a w K Q else E :=
  step_append_rd hgd s x 123 ho base 70 _ 4 32 Tryd.underlying123 info_bx rfl (by decide) v _ _ hs hown y _ _ hx hy (pbxV_length _) (pbxV_one _) (by unfold maxLen; omega) (by omega) hbase
    fun v' w' h1 h2 _ => h v' w' (by unfold OwnX; rw [pbxV_append, List.length_append]; exact h1) h2
theorem pbx1 (w : World) (b : Nat) (hb : b = w.heap.size) (x y : Int) : PBx (w.alloc (.cells #[.int .i64 x, .int .i64 y, .int .i64 x, .int .i64 y] 70)) (.slice (some ⟨b, 0, none⟩) 1 1) [(x, y)] := by
  subst hb
  exact rd_alloc w #[.int .i64 x, .int .i64 y, .int .i64 x, .int .i64 y] 70 (0, 0) 1 (by simp [maxLen])

/-- the least box of the first corners -/
def bbTo (l : List Pt) : Nat → Int × Int × Int × Int
  | 0 => ((pt l 0).1, (pt l 0).2, (pt l 0).1, (pt l 0).2)
  | k + 1 => (min (bbTo l k).1 (pt l k).1, min (bbTo l k).2.1 (pt l k).2, max (bbTo l k).2.2.1 (pt l k).1, max (bbTo l k).2.2.2 (pt l k).2)
/-- four cells that may be stored to -/
structure QuadS (w : World) (g : Nat) (b : Int × Int × Int × Int) : Prop where
  q : Quad w g b.1 b.2.1 b.2.2.1 b.2.2.2
  f0 : w.frozen? ⟨g, 0, none⟩ = false
  f1 : w.frozen? ⟨g, 1, none⟩ = false
  f2 : w.frozen? ⟨g, 2, none⟩ = false
  f3 : w.frozen? ⟨g, 3, none⟩ = false
theorem QuadS.lt {w : World} {g : Nat} {b : Int × Int × Int × Int} (h : QuadS w g b) : g < w.heap.size := World.block_lt_of_cell? w ⟨g, 0, none⟩ h.q.c0
theorem QuadS.below {w w' : World} {g : Nat} {b : Int × Int × Int × Int} (h : QuadS w g b) (hb : Below w.heap.size w w') : QuadS w' g b :=
  ⟨h.q.below hb, (hb.frozen (p := ⟨g, 0, none⟩) h.lt).trans h.f0, (hb.frozen (p := ⟨g, 1, none⟩) h.lt).trans h.f1, (hb.frozen (p := ⟨g, 2, none⟩) h.lt).trans h.f2, (hb.frozen (p := ⟨g, 3, none⟩) h.lt).trans h.f3⟩
theorem quadS_alloc (w : World) (a b c d : Int) (T : TypeId) : QuadS (w.alloc (.cells #[.int .i64 a, .int .i64 b, .int .i64 c, .int .i64 d] T)) w.heap.size (a, b, c, d) :=
  ⟨quad_alloc w a b c d T _ rfl, by simp, by simp, by simp, by simp⟩
theorem QuadS.there {w : World} {g : Nat} {b : Int × Int × Int × Int} (h : QuadS w g b) : w.there g 0 4 := fun j hj => by
  match j, hj with
  | 0, _ => exact ⟨by rw [h.q.c0]; rfl, h.f0⟩
  | 1, _ => exact ⟨by rw [h.q.c1]; rfl, h.f1⟩
  | 2, _ => exact ⟨by rw [h.q.c2]; rfl, h.f2⟩
  | 3, _ => exact ⟨by rw [h.q.c3]; rfl, h.f3⟩
theorem QuadS.put {w : World} {g : Nat} {b : Int × Int × Int × Int} (h : QuadS w g b) (x y z t : Int) : QuadS ((((w.setCell ⟨g, 0, none⟩ (.int .i64 x)).setCell ⟨g, 1, none⟩ (.int .i64 y)).setCell ⟨g, 2, none⟩ (.int .i64 z)).setCell ⟨g, 3, none⟩ (.int .i64 t)) g (x, y, z, t) := by
  have r := World.rangeAt_setCells_same w g 0 [.int .i64 x, .int .i64 y, .int .i64 z, .int .i64 t] h.there
  refine ⟨⟨r 0 _ rfl, r 1 _ rfl, r 2 _ rfl, r 3 _ rfl⟩, ?_, ?_, ?_, ?_⟩ <;> simp [h.f0, h.f1, h.f2, h.f3]

end

end Go.Proofs.YthcfekabeidmiaaRRDoorR
