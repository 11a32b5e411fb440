/- pergolaref1.Abs, Add, Compare; pergolaref3.Twice, Left, Has, Edge; pergolalaw5.u. pergolaref3.CheckBox, BoxHas. Rows of boxes that are points; plane.Union, ring.Box. -/
import Derived.Test.YtoggbmfjjenbaaaGreatDoorTw23
import Derived.Test.YtoggbmfjjenbaaaGreatDoorTw14
set_option linter.unusedSimpArgs false
set_option linter.unusedVariables false
namespace Go.Proofs.YtoggbmfjjenbaaaGreatDoor
/-! RefRing2 -/
section
open Go.RowKit

theorem u64_wrap (x : Int) : IntKind.u64.wrap x = x % 18446744073709551616 := by simp [IntKind.wrap, IntKind.bits, IntKind.signed]
theorem ringRes_zero {l : List Pt} : (ringRes l).1 = 0 ↔ ringEr l = .none := by
  rw [ringEr_res]
  unfold Er.ofRes
  split
  · rename_i h; simp [h]
  · rename_i h; simp [h]
theorem ringRes_good {l : List Pt} (h : ringEr l = .none) : ringRes l = (0, 0) := by
  have := ringRes_zero.2 h
  unfold ringRes at this ⊢
  split
  · rename_i h1; rw [if_pos h1] at this; cases this
  · rename_i h1
    rw [if_neg h1] at this
    split
    · rename_i h2; rw [h2] at this; cases this
    · rename_i h2
      rw [h2] at this
      split
      · rename_i h3; rw [h3] at this; cases this
      · rfl

end

/-! BoxR -/
section
open Go.RowKit

/-- why a box may not be -/
def boxCode (a b c d : Int) : Int := if inP a b ∧ inP c d then (if c < a ∨ d < b then 1 else 0) else 2
theorem boxCode_zero {a b c d : Int} : boxCode a b c d = 0 ↔ inP a b ∧ inP c d ∧ a ≤ c ∧ b ≤ d := by
  unfold boxCode
  constructor
  · intro h
    split at h
    · rename_i hp
      split at h
      · cases h
      · exact ⟨hp.1, hp.2, by omega, by omega⟩
    · cases h
  · rintro ⟨h1, h2, h3, h4⟩
    rw [if_pos ⟨h1, h2⟩, if_neg (by omega)]
theorem CheckBoxR_any (a b c d : Int) (w : World) : Calls Tryz.prog 49 #[.agg #[.int .i64 a, .int .i64 b, .int .i64 c, .int .i64 d]] w fun e w' => e = .returned (.int .i64 (boxCode a b c d)) ∧ Below w.heap.size w w' := by
  have M := Lib.hid (fun x y w => Point_any x y w)
  have B0 : Below w.heap.size w (w.alloc (.cells #[.int .i64 a, .int .i64 b, .int .i64 c, .int .i64 d] 69)) := (Below.refl _ _).alloc (Nat.le_refl _) _
  have Q0 := Lib.hid (quad_alloc w a b c d 69 w.heap.size rfl)
  by_cases hp : inP a b
  · have M1 := Lib.hid (fun w => Point_any a b w)
    rw [decide_eq_true hp] at M1
    by_cases hq : inP c d
    · have M2 := Lib.hid (fun w => Point_any c d w)
      rw [decide_eq_true hq] at M2
      by_cases h1 : c < a
      · have hc : boxCode a b c d = 1 := by unfold boxCode; rw [if_pos ⟨hp, hq⟩, if_pos (Or.inl h1)]
        rw [hc]
        have t1 := decide_eq_true h1
        clear hc hp hq
        go_enter Tryz.func49, Tryz.ntmps49
        go_wp2_with fail
        refine (M1.out _).mono ?_
        rintro e w1 ⟨rfl, b1⟩
        obtain ⟨y0, y1, y2, y3⟩ := Q0.out.below b1
        go_wp2_with fail
        refine (M2.out _).mono ?_
        rintro e w2 ⟨rfl, b2⟩
        clear y0 y1 y2 y3
        obtain ⟨y0, y1, y2, y3⟩ := (Q0.out.below b1).below b2
        go_wp2_with fail
        go_ret
        exact ⟨rfl, (B0.trans (b1.mono B0.size)).trans (b2.mono (B0.trans (b1.mono B0.size)).size)⟩
      · by_cases h2 : d < b
        · have hc : boxCode a b c d = 1 := by unfold boxCode; rw [if_pos ⟨hp, hq⟩, if_pos (Or.inr h2)]
          rw [hc]
          have t1 := decide_eq_false h1
          have t2 := decide_eq_true h2
          clear hc hp hq h1
          go_enter Tryz.func49, Tryz.ntmps49
          go_wp2_with fail
          refine (M1.out _).mono ?_
          rintro e w1 ⟨rfl, b1⟩
          obtain ⟨y0, y1, y2, y3⟩ := Q0.out.below b1
          go_wp2_with fail
          refine (M2.out _).mono ?_
          rintro e w2 ⟨rfl, b2⟩
          clear y0 y1 y2 y3
          obtain ⟨y0, y1, y2, y3⟩ := (Q0.out.below b1).below b2
          go_wp2_with fail
          go_ret
          exact ⟨rfl, (B0.trans (b1.mono B0.size)).trans (b2.mono (B0.trans (b1.mono B0.size)).size)⟩
        · have hc : boxCode a b c d = 0 := by unfold boxCode; rw [if_pos ⟨hp, hq⟩, if_neg (by omega)]
          rw [hc]
          have t1 := decide_eq_false h1
          have t2 := decide_eq_false h2
          clear hc hp hq h1 h2
          go_enter Tryz.func49, Tryz.ntmps49
          go_wp2_with fail
          refine (M1.out _).mono ?_
          rintro e w1 ⟨rfl, b1⟩
          obtain ⟨y0, y1, y2, y3⟩ := Q0.out.below b1
          go_wp2_with fail
          refine (M2.out _).mono ?_
          rintro e w2 ⟨rfl, b2⟩
          clear y0 y1 y2 y3
          obtain ⟨y0, y1, y2, y3⟩ := (Q0.out.below b1).below b2
          go_wp2_with fail
          go_ret
          exact ⟨rfl, (B0.trans (b1.mono B0.size)).trans (b2.mono (B0.trans (b1.mono B0.size)).size)⟩
    · have M2 := Lib.hid (fun w => Point_any c d w)
      rw [decide_eq_false hq] at M2
      have hc : boxCode a b c d = 2 := by unfold boxCode; rw [if_neg (fun h => hq h.2)]
      rw [hc]
      clear hc hp hq
      go_enter Tryz.func49, Tryz.ntmps49
      go_wp2_with fail
      refine (M1.out _).mono ?_
      rintro e w1 ⟨rfl, b1⟩
      obtain ⟨y0, y1, y2, y3⟩ := Q0.out.below b1
      go_wp2_with fail
      refine (M2.out _).mono ?_
      rintro e w2 ⟨rfl, b2⟩
      go_wp2_with fail
      go_ret
      exact ⟨rfl, (B0.trans (b1.mono B0.size)).trans (b2.mono (B0.trans (b1.mono B0.size)).size)⟩
  · have M1 := Lib.hid (fun w => Point_any a b w)
    rw [decide_eq_false hp] at M1
    have hc : boxCode a b c d = 2 := by unfold boxCode; rw [if_neg (fun h => hp h.1)]
    rw [hc]
    clear hc hp
    go_enter Tryz.func49, Tryz.ntmps49
    go_wp2_with fail
    refine (M1.out _).mono ?_
    rintro e w1 ⟨rfl, b1⟩
    go_wp2_with fail
    go_ret
    exact ⟨rfl, B0.trans (b1.mono B0.size)⟩

/-- is a point in a box? -/
def boxHasB (a b c d x y : Int) : Bool := decide (boxCode a b c d = 0) && (decide (inP x y) && (decide (a ≤ x) && (decide (x ≤ c) && (decide (b ≤ y) && decide (y ≤ d)))))
end

/-! Boxes -/
section
open Go.RowKit

/-- the cells of the boxes of points -/
def pbxV : List (Int × Int) → List Value
  | [] => []
  | p :: l => .int .i64 p.1 :: .int .i64 p.2 :: .int .i64 p.1 :: .int .i64 p.2 :: pbxV l
theorem pbxV_length : ∀ l, (pbxV l).length = l.length * 4
  | [] => rfl
  | p :: l => by simp [pbxV, pbxV_length l]; omega
theorem pbxV_append : ∀ l m, pbxV (l ++ m) = pbxV l ++ pbxV m
  | [], _ => rfl
  | p :: l, m => by simp [pbxV, pbxV_append l m]
theorem pbxV_one (l : List (Int × Int)) : ∀ u ∈ pbxV l, u.oneCell' = true := by
  induction l with
  | nil => intro u hu; cases hu
  | cons p l ih =>
    intro u hu
    simp only [pbxV, List.mem_cons] at hu
    rcases hu with rfl | rfl | rfl | rfl | hu
    · rfl
    · rfl
    · rfl
    · rfl
    · exact ih u hu
theorem pbxV_get : ∀ (l : List (Int × Int)) (i : Nat) (h : i < l.length), (pbxV l)[i * 4]? = some (.int .i64 l[i].1) ∧ (pbxV l)[i * 4 + 1]? = some (.int .i64 l[i].2) ∧ (pbxV l)[i * 4 + 2]? = some (.int .i64 l[i].1) ∧ (pbxV l)[i * 4 + 3]? = some (.int .i64 l[i].2)
  | p :: l, 0, _ => ⟨rfl, rfl, rfl, rfl⟩
  | p :: l, i + 1, h => by
    have := pbxV_get l i (by simpa using h)
    rw [show (i + 1) * 4 = i * 4 + 1 + 1 + 1 + 1 by omega]
    exact this
/-- a row of boxes that are points -/
def PBx (w : World) (v : Value) (l : List (Int × Int)) : Prop := Rd w v l.length (pbxV l)
def OwnX (w : World) (base : Nat) (v : Value) (l : List (Int × Int)) : Prop := w.ownsRow base 69 4 v l.length (pbxV l)
theorem OwnX.bx {w : World} {base : Nat} {v : Value} {l : List (Int × Int)} (h : OwnX w base v l) : PBx w v l := Rd.of_own h
theorem OwnX.below {w w' : World} {base : Nat} {v : Value} {l : List (Int × Int)} (h : OwnX w base v l) (hb : Below w.heap.size w w') : OwnX w' base v l := own_below' h hb
theorem PBx.below {w w' : World} {v : Value} {l : List (Int × Int)} (h : PBx w v l) (hb : Below w.heap.size w w') : PBx w' v l := Rd.below h hb
theorem PBx.open {w : World} {v : Value} {l : List (Int × Int)} (h : PBx w v l) :
    ∃ ao c, v = .slice ao l.length c ∧ l.length ≤ c ∧ c ≤ maxLen ∧
      ∀ i (_ : i < l.length), ∃ b off, ao = some ⟨b, off, none⟩ ∧ b < w.heap.size ∧ w.cell? ⟨b, off + i * 4, none⟩ = some (.int .i64 (pt l i).1) ∧ w.cell? ⟨b, off + i * 4 + 1, none⟩ = some (.int .i64 (pt l i).2) ∧ w.cell? ⟨b, off + i * 4 + 2, none⟩ = some (.int .i64 (pt l i).1) ∧ w.cell? ⟨b, off + i * 4 + 3, none⟩ = some (.int .i64 (pt l i).2) := by
  obtain ⟨ao, c, hv, h1, h2, h0, h3⟩ := h
  refine ⟨ao, c, hv, h1, h2, fun i hi => ?_⟩
  have hl := pbxV_length l
  rw [pt_get l i hi]
  obtain ⟨g0, g1, g2, g3⟩ := pbxV_get l i hi
  obtain ⟨b, off, e, hlt, c0⟩ := h3 (i * 4) (by omega)
  obtain ⟨_, _, e1, _, c1⟩ := h3 (i * 4 + 1) (by omega)
  obtain ⟨_, _, e2, _, c2⟩ := h3 (i * 4 + 2) (by omega)
  obtain ⟨_, _, e3, _, c3⟩ := h3 (i * 4 + 3) (by omega)
  rw [e] at e1 e2 e3
  cases e1
  cases e2
  cases e3
  rw [List.getElem?_eq_getElem (by omega)] at g0 g1 g2 g3
  exact ⟨b, off, e, hlt, c0.trans g0, c1.trans g1, c2.trans g2, c3.trans g3⟩
theorem info_bx : (Tryz.prog.info? 69).map (fun i => (i.zero, i.size, i.bytes)) = some (some (.agg #[.int .i64 0, .int .i64 0, .int .i64 0, .int .i64 0]), 4, 32) := by kernel_rfl
theorem wpList_append_bx {w : World} {ops : Array Oper} {rest : List Oper} {o : Oper} {a : Act} {Q : Exit → Act → World → Prop} (hgd : o.guard = none) (s x : Operand)
    (ho : o.op = .call { callee := .builtin .append, args := #[s, x], argTypes := #[140, 140] })
    (base : Nat) (v : Value) (l : List (Int × Int)) (hs : a.eval s = v) (hown : OwnX w base v l) (y : Value) (m : List (Int × Int)) (hx : a.eval x = y) (hy : PBx w y m)
    (h63 : l.length + m.length ≤ 1000000) (hbase : base ≤ w.heap.size)
    (h : ∀ v' w', OwnX w' base v' (l ++ m) → Below base w w' → wpList Tryz.prog ops Q rest (a.put o.dst v') w') : wpList Tryz.prog ops Q (o :: rest) a w :=
  wpList_append_rd hgd s x 140 ho base 69 _ 4 32 Tryz.underlying140 info_bx rfl (by decide) v _ _ hs hown y _ _ hx hy (pbxV_length _) (pbxV_one _) (by unfold maxLen; omega) (by omega) hbase
    fun v' w' h1 h2 _ => h v' w' (by unfold OwnX; rw [pbxV_append, List.length_append]; exact h1) h2
theorem step_append_bx {w : World} {ops : Array Oper} {o : Oper} {a : Act} {K : Act → World → Prop} {Q : Exit → Act → World → Prop} {E : Prop} (hgd : o.guard = none) (s x : Operand)
    (ho : o.op = .call { callee := .builtin .append, args := #[s, x], argTypes := #[140, 140] })
    (base : Nat) (v : Value) (l : List (Int × Int)) (hs : a.eval s = v) (hown : OwnX w base v l) (y : Value) (m : List (Int × Int)) (hx : a.eval x = y) (hy : PBx w y m)
    (h63 : l.length + m.length ≤ 1000000) (hbase : base ≤ w.heap.size)
    (h : ∀ v' w', OwnX w' base v' (l ++ m) → Below base w w' → K (a.put o.dst v') w') :
    if Region.wanted o (yielded ops a.tmps) = true then Oper.wp Tryz.prog o a w K Q else E :=
  step_append_rd hgd s x 140 ho base 69 _ 4 32 Tryz.underlying140 info_bx rfl (by decide) v _ _ hs hown y _ _ hx hy (pbxV_length _) (pbxV_one _) (by unfold maxLen; omega) (by omega) hbase
    fun v' w' h1 h2 _ => h v' w' (by unfold OwnX; rw [pbxV_append, List.length_append]; exact h1) h2
theorem pbx1 (w : World) (b : Nat) (hb : b = w.heap.size) (x y : Int) : PBx (w.alloc (.cells #[.int .i64 x, .int .i64 y, .int .i64 x, .int .i64 y] 69)) (.slice (some ⟨b, 0, none⟩) 1 1) [(x, y)] := by
  subst hb
  exact rd_alloc w #[.int .i64 x, .int .i64 y, .int .i64 x, .int .i64 y] 69 (0, 0) 1 (by simp [maxLen])

/-- the least box of the first corners -/
def bbTo (l : List Pt) : Nat → Int × Int × Int × Int
  | 0 => ((pt l 0).1, (pt l 0).2, (pt l 0).1, (pt l 0).2)
  | k + 1 => (min (bbTo l k).1 (pt l k).1, min (bbTo l k).2.1 (pt l k).2, max (bbTo l k).2.2.1 (pt l k).1, max (bbTo l k).2.2.2 (pt l k).2)
/-- four cells that may be stored to -/
structure QuadS (w : World) (g : Nat) (b : Int × Int × Int × Int) : Prop where
  q : Quad w g b.1 b.2.1 b.2.2.1 b.2.2.2
  f0 : w.frozen? ⟨g, 0, none⟩ = false
  f1 : w.frozen? ⟨g, 1, none⟩ = false
  f2 : w.frozen? ⟨g, 2, none⟩ = false
  f3 : w.frozen? ⟨g, 3, none⟩ = false
theorem QuadS.lt {w : World} {g : Nat} {b : Int × Int × Int × Int} (h : QuadS w g b) : g < w.heap.size := World.block_lt_of_cell? w ⟨g, 0, none⟩ h.q.c0
theorem QuadS.below {w w' : World} {g : Nat} {b : Int × Int × Int × Int} (h : QuadS w g b) (hb : Below w.heap.size w w') : QuadS w' g b :=
  ⟨h.q.below hb, (hb.frozen (p := ⟨g, 0, none⟩) h.lt).trans h.f0, (hb.frozen (p := ⟨g, 1, none⟩) h.lt).trans h.f1, (hb.frozen (p := ⟨g, 2, none⟩) h.lt).trans h.f2, (hb.frozen (p := ⟨g, 3, none⟩) h.lt).trans h.f3⟩
theorem quadS_alloc (w : World) (a b c d : Int) (T : TypeId) : QuadS (w.alloc (.cells #[.int .i64 a, .int .i64 b, .int .i64 c, .int .i64 d] T)) w.heap.size (a, b, c, d) :=
  ⟨quad_alloc w a b c d T _ rfl, by simp, by simp, by simp, by simp⟩
theorem QuadS.there {w : World} {g : Nat} {b : Int × Int × Int × Int} (h : QuadS w g b) : w.there g 0 4 := fun j hj => by
  match j, hj with
  | 0, _ => exact ⟨by rw [h.q.c0]; rfl, h.f0⟩
  | 1, _ => exact ⟨by rw [h.q.c1]; rfl, h.f1⟩
  | 2, _ => exact ⟨by rw [h.q.c2]; rfl, h.f2⟩
  | 3, _ => exact ⟨by rw [h.q.c3]; rfl, h.f3⟩
theorem QuadS.put {w : World} {g : Nat} {b : Int × Int × Int × Int} (h : QuadS w g b) (x y z t : Int) : QuadS ((((w.setCell ⟨g, 0, none⟩ (.int .i64 x)).setCell ⟨g, 1, none⟩ (.int .i64 y)).setCell ⟨g, 2, none⟩ (.int .i64 z)).setCell ⟨g, 3, none⟩ (.int .i64 t)) g (x, y, z, t) := by
  have r := World.rangeAt_setCells_same w g 0 [.int .i64 x, .int .i64 y, .int .i64 z, .int .i64 t] h.there
  refine ⟨⟨r 0 _ rfl, r 1 _ rfl, r 2 _ rfl, r 3 _ rfl⟩, ?_, ?_, ?_, ?_⟩ <;> simp [h.f0, h.f1, h.f2, h.f3]

set_option maxRecDepth 100000 in
set_option maxHeartbeats 2000000 in
theorem Union_ok (v : Value) (l : List (Int × Int)) (w : World) (hv : PBx w v l) (hl : allP l = true) (h1 : 1 ≤ l.length) (h64 : l.length ≤ 64) :
    Calls Tryz.prog 72 #[v] w fun e w' => e = .returned (.tuple #[.agg #[.int .i64 (bbTo l l.length).1, .int .i64 (bbTo l l.length).2.1, .int .i64 (bbTo l l.length).2.2.1, .int .i64 (bbTo l l.length).2.2.2], .nilIface]) ∧ Below w.heap.size w w' := by
  obtain ⟨ao, c, rfl, hc1, hc2, h3'⟩ := hv.open
  obtain ⟨g, off, rfl, hg0, z0, z1, z2, z3⟩ := h3' 0 (by omega)
  have H3 := Lib.hid h3'
  have OK := Lib.hid (show ∀ k (hk : k < l.length), inP (pt l k).1 (pt l k).2 from fun k hk => okP_inP (pt_ok hl hk))
  have B0 : Below w.heap.size w (w.alloc (.cells #[.int .i64 0, .int .i64 0, .int .i64 0, .int .i64 0] 69)) := (Below.refl _ _).alloc (Nat.le_refl _) _
  have B1 : Below (w.heap.size + 1) (w.alloc (.cells #[.int .i64 0, .int .i64 0, .int .i64 0, .int .i64 0] 69)) ((w.alloc (.cells #[.int .i64 0, .int .i64 0, .int .i64 0, .int .i64 0] 69)).alloc (.cells #[.int .i64 (pt l 0).1, .int .i64 (pt l 0).2, .int .i64 (pt l 0).1, .int .i64 (pt l 0).2] 69)) := (Below.refl _ _).alloc (by simp) _
  have Q0 := Lib.hid (show QuadS ((w.alloc (.cells #[.int .i64 0, .int .i64 0, .int .i64 0, .int .i64 0] 69)).alloc (.cells #[.int .i64 (pt l 0).1, .int .i64 (pt l 0).2, .int .i64 (pt l 0).1, .int .i64 (pt l 0).2] 69)) (w.heap.size + 1) (bbTo l 0) from by
    have := quadS_alloc (w.alloc (.cells #[.int .i64 0, .int .i64 0, .int .i64 0, .int .i64 0] 69)) (pt l 0).1 (pt l 0).2 (pt l 0).1 (pt l 0).2 69
    have e : (w.alloc (.cells #[.int .i64 0, .int .i64 0, .int .i64 0, .int .i64 0] 69)).heap.size = w.heap.size + 1 := by simp
    rw [e] at this
    exact this)
  have R0 := Lib.hid (show QuadS (w.alloc (.cells #[.int .i64 0, .int .i64 0, .int .i64 0, .int .i64 0] 69)) w.heap.size (0, 0, 0, 0) from quadS_alloc w 0 0 0 0 69)
  have t0 : ((l.length : Int) == 0) = false := beq_eq_false_iff_ne.2 (by omega)
  have i0 : (0 : Int) < (l.length : Int) := by omega
  unfold maxLen at hc2
  rw [Nat.zero_mul, Nat.add_zero] at z0 z1 z2 z3
  clear h3' hv hl
  generalize pt l 0 = p0 at *
  obtain ⟨x0, y0⟩ := p0
  simp only at z0 z1 z2 z3
  go_enter Tryz.func72, Tryz.ntmps72
  go_wp2_with fail
  go_loopw [18] (fun i wr => ∃ k : Nat, k ≤ l.length ∧ i = .int .i64 k ∧ QuadS wr (w.heap.size + 1) (bbTo l k) ∧ Below (w.heap.size + 1) (w.alloc (.cells #[.int .i64 0, .int .i64 0, .int .i64 0, .int .i64 0] 69)) wr) (fun i _ => l.length - (intOf i).toNat)
  case atStart => exact ⟨0, Nat.zero_le _, rfl, Q0.out, B1⟩
  case round =>
    obtain ⟨k, hk, rfl, hq, hb⟩ := hrel
    by_cases hlt : k < l.length
    · have t1 : decide ((k : Int) < (l.length : Int)) = true := by simp; omega
      obtain ⟨_, _, ee, hg, a0, a1, a2, a3⟩ := H3.out k hlt
      cases ee
      have hBB := B0.trans (hb.mono (by omega))
      have c0 := (hBB.cell (p := ⟨g, off + k * 4, none⟩) hg0).trans a0
      have c1 := (hBB.cell (p := ⟨g, off + k * 4 + 1, none⟩) hg0).trans a1
      have c2 := (hBB.cell (p := ⟨g, off + k * 4 + 2, none⟩) hg0).trans a2
      have c3 := (hBB.cell (p := ⟨g, off + k * 4 + 3, none⟩) hg0).trans a3
      have ok := OK.out k hlt
      have HK := Lib.hid (show bbTo l (k + 1) = (min (bbTo l k).1 (pt l k).1, min (bbTo l k).2.1 (pt l k).2, max (bbTo l k).2.2.1 (pt l k).1, max (bbTo l k).2.2.2 (pt l k).2) from rfl)
      clear a0 a1 a2 a3
      generalize pt l k = pk at *
      obtain ⟨ax, ay⟩ := pk
      simp only at c0 c1 c2 c3 ok HK
      have CK := Lib.hid (fun w => ckBox_ok ax ay ax ay w ok ok (Int.le_refl _) (Int.le_refl _))
      have j0 : (0 : Int) ≤ (k : Int) := by omega
      have j1 : (k : Int) < (l.length : Int) := by omega
      have hb2 := hb.alloc (Nat.le_of_lt hq.lt) (.cells #[.int .i64 ax, .int .i64 ay, .int .i64 ax, .int .i64 ay] 69)
      have HQ := Lib.hid (hq.below ((Below.refl _ _).alloc (Nat.le_refl _) (.cells #[.int .i64 ax, .int .i64 ay, .int .i64 ax, .int .i64 ay] 69)))
      have X6 := Lib.hid (quad_alloc wr ax ay ax ay 69 wr.heap.size rfl)
      have hlt6 := hq.lt
      clear ok hq hBB
      go_wp2_with fail
      refine (CK.out _).mono ?_
      rintro e w3 ⟨u, rfl, rfl, b3⟩
      have hb3 := hb2.trans (b3.mono (by have := hlt6; simp; omega))
      have hq3 := HQ.out.below b3
      obtain ⟨y0, y1, y2, y3⟩ := X6.out.below b3
      have HQ3 := Lib.hid hq3
      obtain ⟨⟨b0, b1, b2, b4⟩, f0, f1, f2, f3⟩ := hq3
      have hw3 : wr.heap.size < w3.heap.size := Nat.lt_of_lt_of_le (by simp) b3.size
      have hw4 : w.heap.size + 1 < w3.heap.size := by omega
      have hne : ¬ w.heap.size + 1 = wr.heap.size := by omega
      generalize bbTo l k = bb at *
      obtain ⟨m1, m2, m3, m4⟩ := bb
      simp only at b0 b1 b2 b4 HK
      clear c0 c1 c2 c3 b3
      have HN := Lib.hid (show bbTo l (k + 1) = ((if ax < m1 then ax else m1), (if ay < m2 then ay else m2), (if m3 < ax then ax else m3), (if m4 < ay then ay else m4)) from by
        rw [HK.out]
        refine Prod.ext ?_ (Prod.ext ?_ (Prod.ext ?_ ?_)) <;> simp only <;> split <;> omega)
      have HP := Lib.hid (HQ3.out.put (if ax < m1 then ax else m1) (if ay < m2 then ay else m2) (if m3 < ax then ax else m3) (if m4 < ay then ay else m4))
      have HB := Lib.hid ((((hb3.setCell (p := ⟨w.heap.size + 1, 0, none⟩) (Nat.le_refl _) (.int .i64 (if ax < m1 then ax else m1))).setCell (p := ⟨w.heap.size + 1, 1, none⟩) (Nat.le_refl _) (.int .i64 (if ay < m2 then ay else m2))).setCell (p := ⟨w.heap.size + 1, 2, none⟩) (Nat.le_refl _) (.int .i64 (if m3 < ax then ax else m3))).setCell (p := ⟨w.heap.size + 1, 3, none⟩) (Nat.le_refl _) (.int .i64 (if m4 < ay then ay else m4)))
      have hk1 : k + 1 ≤ l.length := by omega
      clear hb2 hb3 HK
      go_wp2_with fail
      go_roundw
      case rel => exact ⟨k + 1, hk1, by go_num, by rw [HN.out]; exact HP.out, HB.out⟩
      case measure => simp [intOf]; omega
    · have t1 : decide ((k : Int) < (l.length : Int)) = false := by simp; omega
      obtain rfl : k = l.length := by omega
      have hb' : Below (w.alloc (.cells #[.int .i64 0, .int .i64 0, .int .i64 0, .int .i64 0] 69)).heap.size (w.alloc (.cells #[.int .i64 0, .int .i64 0, .int .i64 0, .int .i64 0] 69)) wr := by
        have e : (w.alloc (.cells #[.int .i64 0, .int .i64 0, .int .i64 0, .int .i64 0] 69)).heap.size = w.heap.size + 1 := by simp
        rw [e]; exact hb
      have hr := R0.out.below hb'
      generalize hbb : bbTo l l.length = bb at *
      obtain ⟨m1, m2, m3, m4⟩ := bb
      have HBB := Lib.hid hbb
      clear hbb
      have HR := Lib.hid (hr.put m1 m2 m3 m4)
      obtain ⟨⟨b0, b1, b2, b3⟩, _, _, _, _⟩ := hq
      obtain ⟨⟨d0, d1, d2, d3⟩, f0, f1, f2, f3⟩ := hr
      simp only at b0 b1 b2 b3 d0 d1 d2 d3
      have hBB := B0.trans (hb'.mono (by simp))
      have hlw : w.heap.size < wr.heap.size := World.block_lt_of_cell? wr ⟨w.heap.size, 0, none⟩ d0
      have HB := Lib.hid ((((hBB.setCell (p := ⟨w.heap.size, 0, none⟩) (Nat.le_refl _) (.int .i64 m1)).setCell (p := ⟨w.heap.size, 1, none⟩) (Nat.le_refl _) (.int .i64 m2)).setCell (p := ⟨w.heap.size, 2, none⟩) (Nat.le_refl _) (.int .i64 m3)).setCell (p := ⟨w.heap.size, 3, none⟩) (Nat.le_refl _) (.int .i64 m4))
      clear hb hb' hBB
      go_wp2_with fail
      obtain ⟨⟨r0, r1, r2, r3⟩, _, _, _, _⟩ := HR.out
      exact bodyPost_ret (v := .tuple #[.agg #[.int .i64 m1, .int .i64 m2, .int .i64 m3, .int .i64 m4], .nilIface]) (by simp [results, Tryz.results72, go_sem, r0, r1, r2, r3]) rfl ⟨by rw [HBB.out], HB.out⟩
end

end Go.Proofs.YtoggbmfjjenbaaaGreatDoor
