/- rel.wrap, verts, box, interval, check, Check of any object. rel.bounds, Bounds; pergolaref3.Check, Bounds: of any object. rel.Bounds; pergolaref3.Check, Bounds: of any object. -/
import Derived.Test.YtoggbmfjjenbaaaGreatDoorTw25
import Derived.Test.YtoggbmfjjenbaaaGreatDoorTw28
import Derived.Deep.RegionHeld3
import Derived.RegionTactic
import Derived.ChangeAlike
import Derived.Outline
import Derived.Deep.Cut
set_option linter.unusedSimpArgs false
set_option linter.unusedVariables false
namespace Go.Proofs.YtoggbmfjjenbaaaGreatDoor
/-! Rel1 -/
section
open Go.RowKit

theorem bel_drewN' {B : Nat} {a w : World} (h : Below B a w) (n : Nat) : Below B a (w.drewN n) := ⟨h.os, h.tape, h.output, h.size, h.block⟩
/-- an error by its number -/
def ofC (k : Int) : Er := if k = 0 then .none else .num k
/-- why an object may not be, as the document numbers it -/
def objCode (kind : Int) (l : List Pt) : Int :=
  if kind = 1 ∨ kind = 2 then (if l.length ≠ 1 then 3 else if okP (pt l 0) = false then 2 else if kind = 2 ∧ (pt l 0).2 < (pt l 0).1 then 1 else 0)
  else if kind = 3 then (if l.length ≠ 2 then 3 else boxCode (pt l 0).1 (pt l 0).2 (pt l 1).1 (pt l 1).2)
  else if kind = 4 then (ringRes l).1 else 5
/-- why an object may not be -/
def objEr (kind : Int) (l : List Pt) : Er := if kind = 4 then ringEr l else ofC (objCode kind l)
theorem objCode_1 (l : List Pt) : objCode 1 l = if l.length ≠ 1 then 3 else if okP (pt l 0) = false then 2 else 0 := by
  unfold objCode
  rw [if_pos (Or.inl rfl)]
  split
  · rfl
  · split
    · rfl
    · rw [if_neg (by omega)]
theorem objCode_2 (l : List Pt) : objCode 2 l = if l.length ≠ 1 then 3 else if okP (pt l 0) = false then 2 else if (pt l 0).2 < (pt l 0).1 then 1 else 0 := by
  unfold objCode
  rw [if_pos (Or.inr rfl)]
  split
  · rfl
  · split
    · rfl
    · simp only [true_and]
theorem objCode_3 (l : List Pt) : objCode 3 l = if l.length ≠ 2 then 3 else boxCode (pt l 0).1 (pt l 0).2 (pt l 1).1 (pt l 1).2 := by
  unfold objCode
  rw [if_neg (by omega), if_pos rfl]
theorem objCode_4 (l : List Pt) : objCode 4 l = (ringRes l).1 := by
  unfold objCode
  rw [if_neg (by omega), if_neg (by omega), if_pos rfl]
theorem objCode_else (kind : Int) (l : List Pt) (h : kind ≠ 1 ∧ kind ≠ 2 ∧ kind ≠ 3 ∧ kind ≠ 4) : objCode kind l = 5 := by
  unfold objCode
  rw [if_neg (by omega), if_neg (by omega), if_neg (by omega)]

theorem relWrap_nil (op : ByteArray) (id : Int) (w : World) :
    Calls Tryz.prog 58 #[.string op, .int .i64 id, .nilIface] w (ErRet w .none) := by
  go_enter Tryz.func58, Tryz.ntmps58
  go_wp2
  go_ret
  exact ⟨_, rfl, rfl, Below.refl _ _⟩
theorem relWrap_er (op : ByteArray) (id : Int) (E : Er) (v : Value) (w : World) (hv : E.Is w v) :
    Calls Tryz.prog 58 #[.string op, .int .i64 id, v] w (ErRet w (E.wrap op id)) := by
  by_cases hE : E = .none
  · subst hE
    obtain rfl : v = .nilIface := hv
    exact relWrap_nil op id w
  · obtain ⟨T, x, rfl⟩ : ∃ T x, v = .iface T x := by
      cases E with
      | none => exact absurd rfl hE
      | num j => exact ⟨_, _, hv⟩
      | fault a b c => obtain ⟨b, u, h, _⟩ := hv; exact ⟨_, _, h⟩
    have hw : E.wrap op id = .fault op id E := by cases E <;> first | rfl | exact absurd rfl hE
    rw [hw]
    have HE := Lib.hid hE; clear hE
    have hb : Below w.heap.size w (w.alloc (.cells #[.string op, .int .i64 id, .iface T x] 65)) := (Below.refl _ _).alloc (Nat.le_refl _) _
    have hv' := Er.Is.below hb hv
    go_enter Tryz.func58, Tryz.ntmps58
    go_wp2
    go_ret
    exact ⟨_, rfl, ⟨_, _, rfl, by simp, by simp, by simp, by simp, hv'⟩, hb⟩

theorem relVerts_3 (w : World) : Calls Tryz.prog 69 #[.int .i64 3] w fun e w' => e = .returned (.int .i64 2) ∧ w = w' := by
  go_enter Tryz.func69, Tryz.ntmps69
  go_wp2
  go_ret
  exact ⟨rfl, rfl⟩
theorem relVerts_else (k : Int) (h : k ≠ 3) (w : World) : Calls Tryz.prog 69 #[.int .i64 k] w fun e w' => e = .returned (.int .i64 1) ∧ w = w' := by
  have t : (k == 3) = false := by simpa using h
  clear h
  go_enter Tryz.func69, Tryz.ntmps69
  go_wp2
  go_ret
  exact ⟨rfl, rfl⟩

/-- rel.box hands back a box and whether it is one. -/
def BoxTold (w : World) (b : Int × Int × Int × Int) (ok : Bool) (e : Ending) (w' : World) : Prop := e = .returned (.tuple #[bxAgg b, .bool ok]) ∧ Below w.heap.size w w'

set_option maxRecDepth 100000 in
theorem relBox_1 (v : Value) (x y : Int) (w : World) (hv : Pts w v [(x, y)]) :
    Calls Tryz.prog 60 #[.agg #[.int .i64 1, v]] w (BoxTold w (x, y, x, y) true) := by
  obtain ⟨ao, c, rfl, h1, h2, h0, h3⟩ := hv.open
  obtain ⟨b, off, rfl, hb, hc0, hc1⟩ := h3 0 (by simp)
  simp only [Nat.zero_mul, Nat.add_zero, List.getElem_cons_zero] at hc0 hc1
  simp only [List.length_singleton] at h1 ⊢
  clear h3 h0
  unfold maxLen at h2
  unfold BoxTold bxAgg
  go_enter Tryz.func60, Tryz.ntmps60
  go_wp2
  go_region
  go_wp2
  exact bodyPost_ret (v := .tuple #[.agg #[.int .i64 x, .int .i64 y, .int .i64 x, .int .i64 y], .bool true]) (by simp [results, Tryz.results60, go_sem]) rfl ⟨rfl, (((Below.refl _ _).alloc (Nat.le_refl _) _).alloc (by simp) _).drew⟩
set_option maxRecDepth 100000 in
theorem relBox_2 (v : Value) (x y : Int) (w : World) (hv : Pts w v [(x, y)]) :
    Calls Tryz.prog 60 #[.agg #[.int .i64 2, v]] w (BoxTold w (x, 0, y, 0) true) := by
  obtain ⟨ao, c, rfl, h1, h2, h0, h3⟩ := hv.open
  obtain ⟨b, off, rfl, hb, hc0, hc1⟩ := h3 0 (by simp)
  simp only [Nat.zero_mul, Nat.add_zero, List.getElem_cons_zero] at hc0 hc1
  simp only [List.length_singleton] at h1 ⊢
  clear h3 h0
  unfold maxLen at h2
  unfold BoxTold bxAgg
  go_enter Tryz.func60, Tryz.ntmps60
  go_wp2
  go_region
  go_wp2
  exact bodyPost_ret (v := .tuple #[.agg #[.int .i64 x, .int .i64 0, .int .i64 y, .int .i64 0], .bool true]) (by simp [results, Tryz.results60, go_sem]) rfl ⟨rfl, (((Below.refl _ _).alloc (Nat.le_refl _) _).alloc (by simp) _).drew⟩
set_option maxRecDepth 100000 in
theorem relBox_3 (v : Value) (x y x2 y2 : Int) (w : World) (hv : Pts w v [(x, y), (x2, y2)]) :
    Calls Tryz.prog 60 #[.agg #[.int .i64 3, v]] w (BoxTold w (x, y, x2, y2) true) := by
  obtain ⟨ao, c, rfl, h1, h2, h0, h3⟩ := hv.open
  obtain ⟨b, off, rfl, hb, hc0, hc1⟩ := h3 0 (by simp)
  obtain ⟨b', off', e', hb', hd0, hd1⟩ := h3 1 (by simp)
  simp only [Option.some.injEq, Addr.mk.injEq, and_true] at e'
  obtain ⟨rfl, rfl⟩ := e'
  simp only [Nat.zero_mul, Nat.add_zero, List.getElem_cons_zero, List.getElem_cons_succ, Nat.one_mul] at hc0 hc1 hd0 hd1
  simp only [List.length_cons, List.length_nil, Nat.zero_add, Nat.reduceAdd] at h1 ⊢
  clear h3 h0
  unfold maxLen at h2
  unfold BoxTold bxAgg
  go_enter Tryz.func60, Tryz.ntmps60
  go_wp2
  go_region
  go_wp2
  exact bodyPost_ret (v := .tuple #[.agg #[.int .i64 x, .int .i64 y, .int .i64 x2, .int .i64 y2], .bool true]) (by simp [results, Tryz.results60, go_sem]) rfl ⟨rfl, (((Below.refl _ _).alloc (Nat.le_refl _) _).alloc (by simp) _).drew⟩
set_option maxRecDepth 100000 in
theorem relBox_no (kind : Int) (ao : Option Addr) (n c : Nat) (w : World) (h : kind ≠ 1 ∧ kind ≠ 2 ∧ kind ≠ 3) :
    Calls Tryz.prog 60 #[.agg #[.int .i64 kind, .slice ao n c]] w (BoxTold w (0, 0, 0, 0) false) := by
  have k1 : (kind == 1) = false := by simpa using h.1
  have k2 : (kind == 2) = false := by simpa using h.2.1
  have k3 : (kind == 3) = false := by simpa using h.2.2
  clear h
  unfold BoxTold bxAgg
  go_enter Tryz.func60, Tryz.ntmps60
  go_wp2
  exact bodyPost_ret (v := .tuple #[.agg #[.int .i64 0, .int .i64 0, .int .i64 0, .int .i64 0], .bool false]) (by simp [results, Tryz.results60, go_sem]) rfl ⟨rfl, (((Below.refl _ _).alloc (Nat.le_refl _) _).alloc (by simp) _)⟩

theorem interval_any (x y : Int) (w : World) : Calls Tryz.prog 70 #[.agg #[.int .i64 x, .int .i64 y]] w (ErRet w (ofC (if okP (x, y) = false then 2 else if y < x then 1 else 0))) := by
  have B0 : Below w.heap.size w (w.alloc (.cells #[.int .i64 x, .int .i64 y] 67)) := (Below.refl _ _).alloc (Nat.le_refl _) _
  have P := Lib.hid (ckPoint_any x y (w.alloc (.cells #[.int .i64 x, .int .i64 y] 67)))
  have Q0 := Lib.hid (pair_alloc w x y 67 w.heap.size rfl)
  cases hok : okP (x, y) with
  | false =>
    rw [hok] at P
    simp only [if_true]
    clear hok
    go_enter Tryz.func70, Tryz.ntmps70
    go_wp2_with fail
    refine P.out.mono ?_
    rintro e w1 ⟨u, rfl, hu, b1⟩
    obtain rfl : u = .iface 60 (.int .i64 2) := hu
    go_wp2_with fail
    go_ret
    exact ⟨_, rfl, rfl, B0.trans (b1.mono B0.size)⟩
  | true =>
    rw [hok] at P
    simp only [Bool.true_eq_false, if_false]
    clear hok
    by_cases hlt : y < x
    · have t : decide (y < x) = true := decide_eq_true hlt
      rw [if_pos hlt]
      clear hlt
      go_enter Tryz.func70, Tryz.ntmps70
      go_wp2_with fail
      refine P.out.mono ?_
      rintro e w1 ⟨u, rfl, hu, b1⟩
      obtain rfl : u = .nilIface := hu
      obtain ⟨c0, c1⟩ := Q0.out.below b1
      go_wp2_with fail
      go_ret
      exact ⟨_, rfl, rfl, B0.trans (b1.mono B0.size)⟩
    · have t : decide (y < x) = false := decide_eq_false hlt
      rw [if_neg hlt]
      clear hlt
      go_enter Tryz.func70, Tryz.ntmps70
      go_wp2_with fail
      refine P.out.mono ?_
      rintro e w1 ⟨u, rfl, hu, b1⟩
      obtain rfl : u = .nilIface := hu
      obtain ⟨c0, c1⟩ := Q0.out.below b1
      go_wp2_with fail
      go_ret
      exact ⟨_, rfl, rfl, B0.trans (b1.mono B0.size)⟩
theorem ckBox_any (a b c d : Int) (w : World) : Calls Tryz.prog 44 #[.agg #[.int .i64 a, .int .i64 b, .int .i64 c, .int .i64 d]] w (ErRet w (ofC (boxCode a b c d))) := Cv.CheckBox_any a b c d w

/-- rel.check where the number of points is not the kind's -/
theorem relCheck_verts (kind : Int) (m : Int) (ao : Option Addr) (n c : Nat) (w : World) (hk : kind = 1 ∨ kind = 2 ∨ kind = 3) (hm : m = if kind = 3 then 2 else 1) (hn : (n : Int) ≠ m) :
    Calls Tryz.prog 59 #[.agg #[.int .i64 kind, .slice ao n c]] w (ErRet w (.num 3)) := by
  have t : ((n : Int) != m) = true := by simpa using hn
  have V : ∀ w, Calls Tryz.prog 69 #[.int .i64 kind] w fun e w' => e = .returned (.int .i64 m) ∧ w = w' := by
    intro w
    by_cases h3 : kind = 3
    · rw [if_pos h3] at hm
      subst h3 hm
      exact relVerts_3 w
    · rw [if_neg h3] at hm
      subst hm
      exact relVerts_else kind h3 w
  have B0 : Below w.heap.size w (w.alloc (.cells #[.int .i64 kind, .slice ao n c] 39)) := (Below.refl _ _).alloc (Nat.le_refl _) _
  have HV := Lib.hid V
  clear V hm hn
  rcases hk with rfl | rfl | rfl
  all_goals
    go_enter Tryz.func59, Tryz.ntmps59
    go_wp2
    go_quiet ((go_at_call 69; refine Calls.quiet_of_same ((HV.out _).mono fun e w' ⟨h, k⟩ => ⟨h, k.symm⟩)))
    go_wp2_with fail
    go_ret
    exact ⟨_, rfl, rfl, bel_drewN' B0 _⟩

set_option maxRecDepth 100000 in
theorem relCheck_1 (v : Value) (x y : Int) (w : World) (hv : Pts w v [(x, y)]) :
    Calls Tryz.prog 59 #[.agg #[.int .i64 1, v]] w (ErRet w (ofC (boxCode x y x y))) := by
  have V := Lib.hid (fun w => relVerts_else 1 (by decide) w)
  have C := Lib.hid (fun w => ckBox_any x y x y w)
  have hv0 := hv
  obtain ⟨ao, c, rfl, h1, h2, h0, h3⟩ := hv.open
  simp only [List.length_singleton] at h1 hv0 ⊢
  clear h3 h0 hv
  unfold maxLen at h2
  have B0 : Below w.heap.size w (w.alloc (.cells #[.int .i64 1, .slice ao 1 c] 39)) := (Below.refl _ _).alloc (Nat.le_refl _) _
  have X := Lib.hid (fun n => relBox_1 _ x y _ ((hv0.below B0).drewN n))
  clear hv0
  go_enter Tryz.func59, Tryz.ntmps59
  go_wp2
  go_quiet ((go_at_call 69; refine Calls.quiet_of_same ((V.out _).mono fun e w' ⟨h, k⟩ => ⟨h, k.symm⟩)))
  go_wp2_with fail
  refine (X.out _).mono ?_
  rintro e w1 ⟨rfl, b1⟩
  have B1 := (bel_drewN' B0 nq).trans (b1.mono (bel_drewN' B0 nq).size)
  unfold bxAgg
  go_wp2_with fail
  refine (C.out _).mono ?_
  rintro e w2 ⟨u, rfl, hu, b2⟩
  have B2 := (B1.alloc B1.size (.cells #[.int .i64 x, .int .i64 y, .int .i64 x, .int .i64 y] 69))
  go_wp2_with fail
  go_ret
  exact ⟨_, rfl, hu, B2.trans (b2.mono B2.size)⟩
set_option maxRecDepth 100000 in
theorem relCheck_2 (v : Value) (x y : Int) (w : World) (hv : Pts w v [(x, y)]) :
    Calls Tryz.prog 59 #[.agg #[.int .i64 2, v]] w (ErRet w (ofC (if okP (x, y) = false then 2 else if y < x then 1 else 0))) := by
  have V := Lib.hid (fun w => relVerts_else 2 (by decide) w)
  have C := Lib.hid (fun w => interval_any x y w)
  have hv0 := hv
  obtain ⟨ao, c, rfl, h1, h2, h0, h3⟩ := hv.open
  obtain ⟨b, off, rfl, hb, hc0, hc1⟩ := h3 0 (by simp)
  simp only [Nat.zero_mul, Nat.add_zero, List.getElem_cons_zero] at hc0 hc1
  simp only [List.length_singleton] at h1 hv0 ⊢
  generalize ofC (if okP (x, y) = false then 2 else if y < x then 1 else 0) = E at *
  clear h3 h0 hv
  unfold maxLen at h2
  have B0 : Below w.heap.size w (w.alloc (.cells #[.int .i64 2, .slice (some ⟨b, off, none⟩) 1 c] 39)) := (Below.refl _ _).alloc (Nat.le_refl _) _
  clear hv0
  go_enter Tryz.func59, Tryz.ntmps59
  go_wp2
  go_quiet ((go_at_call 69; refine Calls.quiet_of_same ((V.out _).mono fun e w' ⟨h, k⟩ => ⟨h, k.symm⟩)))
  go_wp2_with fail
  refine (C.out _).mono ?_
  rintro e w2 ⟨u, rfl, hu, b2⟩
  have B2 := bel_drewN' B0 nq
  go_wp2_with fail
  go_ret
  exact ⟨_, rfl, hu, B2.trans (b2.mono B2.size)⟩
set_option maxRecDepth 100000 in
theorem relCheck_3 (v : Value) (x y x2 y2 : Int) (w : World) (hv : Pts w v [(x, y), (x2, y2)]) :
    Calls Tryz.prog 59 #[.agg #[.int .i64 3, v]] w (ErRet w (ofC (boxCode x y x2 y2))) := by
  have V := Lib.hid (fun w => relVerts_3 w)
  have C := Lib.hid (fun w => ckBox_any x y x2 y2 w)
  have hv0 := hv
  obtain ⟨ao, c, rfl, h1, h2, h0, h3⟩ := hv.open
  simp only [List.length_cons, List.length_nil, Nat.zero_add, Nat.reduceAdd] at h1 hv0 ⊢
  clear h3 h0 hv
  unfold maxLen at h2
  have B0 : Below w.heap.size w (w.alloc (.cells #[.int .i64 3, .slice ao 2 c] 39)) := (Below.refl _ _).alloc (Nat.le_refl _) _
  have X := Lib.hid (fun n => relBox_3 _ x y x2 y2 _ ((hv0.below B0).drewN n))
  clear hv0
  go_enter Tryz.func59, Tryz.ntmps59
  go_wp2
  go_quiet ((go_at_call 69; refine Calls.quiet_of_same ((V.out _).mono fun e w' ⟨h, k⟩ => ⟨h, k.symm⟩)))
  go_wp2_with fail
  refine (X.out _).mono ?_
  rintro e w1 ⟨rfl, b1⟩
  have B1 := (bel_drewN' B0 nq).trans (b1.mono (bel_drewN' B0 nq).size)
  unfold bxAgg
  go_wp2_with fail
  refine (C.out _).mono ?_
  rintro e w2 ⟨u, rfl, hu, b2⟩
  have B2 := (B1.alloc B1.size (.cells #[.int .i64 x, .int .i64 y, .int .i64 x2, .int .i64 y2] 69))
  go_wp2_with fail
  go_ret
  exact ⟨_, rfl, hu, B2.trans (b2.mono B2.size)⟩
theorem relCheck_4 (v : Value) (l : List Pt) (w : World) (hv : Pts w v l) :
    Calls Tryz.prog 59 #[.agg #[.int .i64 4, v]] w (ErRet w (ringEr l)) := by
  have hv0 := hv
  obtain ⟨ao, c, rfl, h1, h2, h0, h3⟩ := hv.open
  have B0 : Below w.heap.size w (w.alloc (.cells #[.int .i64 4, .slice ao l.length c] 39)) := (Below.refl _ _).alloc (Nat.le_refl _) _
  have C := Lib.hid (Check_any _ l _ (hv0.below B0))
  clear h3 h0 hv hv0
  unfold maxLen at h2
  go_enter Tryz.func59, Tryz.ntmps59
  go_wp2_with fail
  refine C.out.mono ?_
  rintro e w2 ⟨u, rfl, hu, b2⟩
  go_wp2_with fail
  go_ret
  exact ⟨_, rfl, hu, B0.trans (b2.mono B0.size)⟩
theorem relCheck_else (kind : Int) (ao : Option Addr) (n c : Nat) (w : World) (h : kind ≠ 1 ∧ kind ≠ 2 ∧ kind ≠ 3 ∧ kind ≠ 4) :
    Calls Tryz.prog 59 #[.agg #[.int .i64 kind, .slice ao n c]] w (ErRet w (.num 5)) := by
  have k1 : (kind == 1) = false := by simpa using h.1
  have k2 : (kind == 2) = false := by simpa using h.2.1
  have k3 : (kind == 3) = false := by simpa using h.2.2.1
  have k4 : (kind == 4) = false := by simpa using h.2.2.2
  clear h
  go_enter Tryz.func59, Tryz.ntmps59
  go_wp2_with fail
  go_ret
  exact ⟨_, rfl, rfl, (Below.refl _ _).alloc (Nat.le_refl _) _⟩

theorem boxCode_pt (x y : Int) : boxCode x y x y = if okP (x, y) = false then 2 else 0 := by
  unfold boxCode okP
  by_cases h : inP x y
  · rw [if_pos ⟨h, h⟩, if_neg (by omega)]
    simp [h]
  · rw [if_neg fun q => h q.1]
    simp [h]
theorem len_one {l : List Pt} (h : l.length = 1) : ∃ x y, l = [(x, y)] := by
  match l, h with
  | [(x, y)], _ => exact ⟨x, y, rfl⟩
theorem len_two {l : List Pt} (h : l.length = 2) : ∃ x y x2 y2, l = [(x, y), (x2, y2)] := by
  match l, h with
  | [(x, y), (x2, y2)], _ => exact ⟨x, y, x2, y2, rfl⟩
/-- rel.check of any object -/
theorem relCheck_any (kind : Int) (v : Value) (l : List Pt) (w : World) (hv : Pts w v l) :
    Calls Tryz.prog 59 #[.agg #[.int .i64 kind, v]] w (ErRet w (objEr kind l)) := by
  unfold objEr
  by_cases h4 : kind = 4
  · rw [if_pos h4]
    subst h4
    exact relCheck_4 v l w hv
  rw [if_neg h4]
  by_cases h1 : kind = 1
  · subst h1
    rw [objCode_1]
    by_cases hl : l.length = 1
    · obtain ⟨x, y, rfl⟩ := len_one hl
      rw [if_neg (by simp)]
      have := relCheck_1 v x y w hv
      rw [boxCode_pt] at this
      exact this
    · rw [if_pos hl]
      obtain ⟨ao, c, rfl, _⟩ := hv.open
      exact relCheck_verts 1 1 ao _ c w (Or.inl rfl) rfl (by omega)
  by_cases h2 : kind = 2
  · subst h2
    rw [objCode_2]
    by_cases hl : l.length = 1
    · obtain ⟨x, y, rfl⟩ := len_one hl
      rw [if_neg (by simp)]
      exact relCheck_2 v x y w hv
    · rw [if_pos hl]
      obtain ⟨ao, c, rfl, _⟩ := hv.open
      exact relCheck_verts 2 1 ao _ c w (Or.inr (Or.inl rfl)) rfl (by omega)
  by_cases h3 : kind = 3
  · subst h3
    rw [objCode_3]
    by_cases hl : l.length = 2
    · obtain ⟨x, y, x2, y2, rfl⟩ := len_two hl
      rw [if_neg (by simp)]
      exact relCheck_3 v x y x2 y2 w hv
    · rw [if_pos hl]
      obtain ⟨ao, c, rfl, _⟩ := hv.open
      exact relCheck_verts 3 2 ao _ c w (Or.inr (Or.inr rfl)) rfl (by omega)
  rw [objCode_else _ _ ⟨h1, h2, h3, h4⟩]
  obtain ⟨ao, c, rfl, _⟩ := hv.open
  exact relCheck_else kind ao _ c w ⟨h1, h2, h3, h4⟩

def strObj : ByteArray := ⟨#[111, 98, 106, 101, 99, 116]⟩
set_option maxRecDepth 100000 in
theorem relCheck_of (kind : Int) (ao : Option Addr) (n c : Nat) (E : Er) (w : World) (hC : ∀ w', Below w.heap.size w w' → Calls Tryz.prog 59 #[.agg #[.int .i64 kind, .slice ao n c]] w' (ErRet w' E)) :
    Calls Tryz.prog 42 #[.agg #[.int .i64 kind, .slice ao n c]] w (ErRet w (E.wrap strObj kind)) := by
  have B0 : Below w.heap.size w (w.alloc (.cells #[.int .i64 kind, .slice ao n c] 39)) := (Below.refl _ _).alloc (Nat.le_refl _) _
  have HB := Lib.hid B0
  have HC := Lib.hid (show ∀ k, _ from fun k => hC _ (bel_drewN' B0 k))
  have HK := Lib.hid (show ∀ k w1, Below (w.alloc (.cells #[.int .i64 kind, .slice ao n c] 39)).heap.size ((w.alloc (.cells #[.int .i64 kind, .slice ao n c] 39)).drewN k) w1 → w1.cell? ⟨w.heap.size, 0, none⟩ = some (.int .i64 kind) ∧ w1.cell? ⟨w.heap.size, 1, none⟩ = some (.slice ao n c) from
    fun k w1 h => ⟨(h.cell (p := ⟨w.heap.size, 0, none⟩) (by simp)).trans (by simp), (h.cell (p := ⟨w.heap.size, 1, none⟩) (by simp)).trans (by simp)⟩)
  clear hC B0
  go_enter Tryz.func42, Tryz.ntmps42
  go_wp2
  go_region_held3 (fun w' => w'.cell? ⟨w.heap.size, 0, none⟩ = some (.int .i64 kind) ∧ w'.cell? ⟨w.heap.size, 1, none⟩ = some (.slice ao n c)) (first | go_keep | exact HK.out _ _ b1 | exact HK.out _ _ (b1.trans (b2.mono b1.size)))
    (first | (go_at_call 59; refine (HC.out _).mono ?_; rintro e w1 ⟨u, rfl, hu, b1⟩) | (go_at_call 58; refine (relWrap_er _ _ _ _ _ hu).mono ?_; rintro e w2 ⟨u2, rfl, hu2, b2⟩))
  go_wp2
  go_ret
  have b12 := b1.trans (b2.mono b1.size)
  exact ⟨_, rfl, hu2, (bel_drewN' HB.out _).trans (b12.mono (bel_drewN' HB.out _).size)⟩
/-- rel.Check of any object -/
theorem relChk_any (kind : Int) (v : Value) (l : List Pt) (w : World) (hv : Pts w v l) :
    Calls Tryz.prog 42 #[.agg #[.int .i64 kind, v]] w (ErRet w ((objEr kind l).wrap strObj kind)) := by
  have hv0 := hv
  obtain ⟨ao, c, rfl, _⟩ := hv.open
  exact relCheck_of kind ao _ c _ w fun w' hb => relCheck_any kind _ l w' (hv0.below hb)
end

/-! Rel2 -/
section
open Go.RowKit

/-- the least box that has an object that may be -/
def oBox (kind : Int) (l : List Pt) : Int × Int × Int × Int :=
  if kind = 1 then ((pt l 0).1, (pt l 0).2, (pt l 0).1, (pt l 0).2) else if kind = 2 then ((pt l 0).1, 0, (pt l 0).2, 0)
  else if kind = 3 then ((pt l 0).1, (pt l 0).2, (pt l 1).1, (pt l 1).2) else bbE l
def isBox (kind : Int) : Bool := kind == 1 || kind == 2 || kind == 3
theorem objCode_kind {kind : Int} {l : List Pt} (h : objCode kind l = 0) : kind = 1 ∨ kind = 2 ∨ kind = 3 ∨ kind = 4 := by
  by_cases h1 : kind ≠ 1 ∧ kind ≠ 2 ∧ kind ≠ 3 ∧ kind ≠ 4
  · rw [objCode_else _ _ h1] at h; cases h
  · omega
/-- rel.box of an object that may be -/
theorem relBox_ok (kind : Int) (v : Value) (l : List Pt) (w : World) (hv : Pts w v l) (h : objCode kind l = 0) :
    Calls Tryz.prog 60 #[.agg #[.int .i64 kind, v]] w (BoxTold w (if kind = 4 then (0, 0, 0, 0) else oBox kind l) (isBox kind)) := by
  rcases objCode_kind h with rfl | rfl | rfl | rfl
  · rw [objCode_1] at h
    by_cases hl : l.length = 1
    · obtain ⟨x, y, rfl⟩ := len_one hl
      exact relBox_1 v x y w hv
    · rw [if_pos hl] at h; cases h
  · rw [objCode_2] at h
    by_cases hl : l.length = 1
    · obtain ⟨x, y, rfl⟩ := len_one hl
      exact relBox_2 v x y w hv
    · rw [if_pos hl] at h; cases h
  · rw [objCode_3] at h
    by_cases hl : l.length = 2
    · obtain ⟨x, y, x2, y2, rfl⟩ := len_two hl
      exact relBox_3 v x y x2 y2 w hv
    · rw [if_pos hl] at h; cases h
  · obtain ⟨ao, c, rfl, _⟩ := hv.open
    exact relBox_no 4 ao _ c w (by decide)
theorem objEr_none {kind : Int} {l : List Pt} : objEr kind l = .none ↔ objCode kind l = 0 := by
  unfold objEr
  by_cases h4 : kind = 4
  · rw [if_pos h4]
    subst h4
    rw [objCode_4]
    exact ringRes_zero.symm
  · rw [if_neg h4]
    unfold ofC
    by_cases h : objCode kind l = 0
    · rw [if_pos h]; simp [h]
    · rw [if_neg h]; simp [h]

/-- The call hands back a box. -/
def BoxRet (w : World) (b : Int × Int × Int × Int) (e : Ending) (w' : World) : Prop := e = .returned (bxAgg b) ∧ Below w.heap.size w w'
set_option maxRecDepth 100000 in
set_option maxHeartbeats 2000000 in
theorem relBounds_ok (kind : Int) (v : Value) (l : List Pt) (w : World) (hv : Pts w v l) (h : objCode kind l = 0) :
    Calls Tryz.prog 43 #[.agg #[.int .i64 kind, v]] w (BoxRet w (oBox kind l)) := by
  have hv0 := hv
  obtain ⟨ao, c, rfl, h1, h2, _, _⟩ := hv.open
  have BA : Below w.heap.size w (w.alloc (.cells #[.int .i64 kind, .slice ao l.length c] 39)) := (Below.refl _ _).alloc (Nat.le_refl _) _
  have B0 : Below w.heap.size w ((w.alloc (.cells #[.int .i64 kind, .slice ao l.length c] 39)).alloc (.cells #[.int .i64 0, .int .i64 0, .int .i64 0, .int .i64 0] 69)) := BA.alloc BA.size _
  have R0 := quadS_alloc (w.alloc (.cells #[.int .i64 kind, .slice ao l.length c] 39)) 0 0 0 0 69
  rw [show (w.alloc (.cells #[.int .i64 kind, .slice ao l.length c] 39)).heap.size = w.heap.size + 1 by simp] at R0
  have HR0 := Lib.hid R0
  have X := Lib.hid (relBox_ok kind _ l _ (hv0.below B0) h)
  have V := Lib.hid (fun w' (hb : Below w.heap.size w w') => Box_any _ l w' (hv0.below hb))
  have d0 : ((w.alloc (.cells #[.int .i64 kind, .slice ao l.length c] 39)).alloc (.cells #[.int .i64 0, .int .i64 0, .int .i64 0, .int .i64 0] 69)).cell? ⟨w.heap.size, 0, none⟩ = some (.int .i64 kind) := by simp
  have d1 : ((w.alloc (.cells #[.int .i64 kind, .slice ao l.length c] 39)).alloc (.cells #[.int .i64 0, .int .i64 0, .int .i64 0, .int .i64 0] 69)).cell? ⟨w.heap.size, 1, none⟩ = some (.slice ao l.length c) := by simp
  have D1 := Lib.hid d1
  have hA1 : w.heap.size < ((w.alloc (.cells #[.int .i64 kind, .slice ao l.length c] 39)).alloc (.cells #[.int .i64 0, .int .i64 0, .int .i64 0, .int .i64 0] 69)).heap.size := by simp; omega
  have hA2 := Lib.hid hA1
  clear hv hv0 R0 BA hA1
  unfold maxLen at h2
  unfold BoxRet
  by_cases h4 : kind = 4
  · subst h4
    rw [if_pos rfl, show isBox 4 = false from rfl] at X
    have HB : oBox 4 l = bbE l := by unfold oBox; rw [if_neg (by decide), if_neg (by decide), if_neg (by decide)]
    rw [HB]
    generalize bbE l = bb at *
    obtain ⟨m1, m2, m3, m4⟩ := bb
    clear h HB
    go_enter Tryz.func43, Tryz.ntmps43
    go_wp2_with fail
    refine X.out.mono ?_
    rintro e w1 ⟨rfl, b1⟩
    unfold bxAgg
    have B1 := B0.trans (b1.mono B0.size)
    have r1 := HR0.out.below b1
    have e1 := (b1.cell (p := ⟨w.heap.size, 1, none⟩) hA2.out).trans D1.out
    have B2 : Below w1.heap.size w1 (w1.alloc (.cells #[.int .i64 0, .int .i64 0, .int .i64 0, .int .i64 0] 69)) := (Below.refl _ _).alloc (Nat.le_refl _) _
    have q2 := quadS_alloc w1 0 0 0 0 69
    have r2 := r1.below B2
    have hl1 := r1.lt
    have hw1 : w.heap.size < w1.heap.size := by omega
    have BB := B1.trans (B2.mono B1.size)
    have VV := Lib.hid (V.out _ BB)
    have e2 := (B2.cell (p := ⟨w.heap.size, 1, none⟩) (by omega)).trans e1
    have HQ2 := Lib.hid q2
    have HR2 := Lib.hid r2
    clear X V q2 r1 r2 HR0 d0 d1 e2
    go_wp2_with fail
    refine VV.out.mono ?_
    rintro e w3 ⟨u, rfl, _, b3⟩
    unfold bxAgg
    have q3 := HQ2.out.below b3
    have B3 := BB.trans (b3.mono BB.size)
    have r3 := HR2.out.below b3
    have p3 := q3.put m1 m2 m3 m4
    have B4 := (((B3.setCell (p := ⟨w1.heap.size, 0, none⟩) B1.size (.int .i64 m1)).setCell (p := ⟨w1.heap.size, 1, none⟩) B1.size (.int .i64 m2)).setCell (p := ⟨w1.heap.size, 2, none⟩) B1.size (.int .i64 m3)).setCell (p := ⟨w1.heap.size, 3, none⟩) B1.size (.int .i64 m4)
    have bx : Below w1.heap.size w3 ((((w3.setCell ⟨w1.heap.size, 0, none⟩ (.int .i64 m1)).setCell ⟨w1.heap.size, 1, none⟩ (.int .i64 m2)).setCell ⟨w1.heap.size, 2, none⟩ (.int .i64 m3)).setCell ⟨w1.heap.size, 3, none⟩ (.int .i64 m4)) := ((((Below.refl _ _).setCell (p := ⟨w1.heap.size, 0, none⟩) (Nat.le_refl _) (.int .i64 m1)).setCell (p := ⟨w1.heap.size, 1, none⟩) (Nat.le_refl _) (.int .i64 m2)).setCell (p := ⟨w1.heap.size, 2, none⟩) (Nat.le_refl _) (.int .i64 m3)).setCell (p := ⟨w1.heap.size, 3, none⟩) (Nat.le_refl _) (.int .i64 m4)
    have hlq := q3.lt
    have r4 : QuadS ((((w3.setCell ⟨w1.heap.size, 0, none⟩ (.int .i64 m1)).setCell ⟨w1.heap.size, 1, none⟩ (.int .i64 m2)).setCell ⟨w1.heap.size, 2, none⟩ (.int .i64 m3)).setCell ⟨w1.heap.size, 3, none⟩ (.int .i64 m4)) (w.heap.size + 1) (0, 0, 0, 0) :=
      ⟨⟨(bx.cell (p := ⟨w.heap.size + 1, 0, none⟩) hl1).trans r3.q.c0, (bx.cell (p := ⟨w.heap.size + 1, 1, none⟩) hl1).trans r3.q.c1, (bx.cell (p := ⟨w.heap.size + 1, 2, none⟩) hl1).trans r3.q.c2, (bx.cell (p := ⟨w.heap.size + 1, 3, none⟩) hl1).trans r3.q.c3⟩,
        (bx.frozen (p := ⟨w.heap.size + 1, 0, none⟩) hl1).trans r3.f0, (bx.frozen (p := ⟨w.heap.size + 1, 1, none⟩) hl1).trans r3.f1, (bx.frozen (p := ⟨w.heap.size + 1, 2, none⟩) hl1).trans r3.f2, (bx.frozen (p := ⟨w.heap.size + 1, 3, none⟩) hl1).trans r3.f3⟩
    have HP := Lib.hid p3
    have HR := Lib.hid r4
    have HB4 := Lib.hid B4
    have hlp := p3.lt
    have hlr := r4.lt
    obtain ⟨⟨y0, y1, y2, y3⟩, g0, g1, g2, g3⟩ := q3
    simp only at y0 y1 y2 y3
    clear VV p3 r4 r3 bx B4 HQ2 HR2
    go_upto_region 4 with fail
    generalize (((w3.setCell ⟨w1.heap.size, 0, none⟩ (.int .i64 m1)).setCell ⟨w1.heap.size, 1, none⟩ (.int .i64 m2)).setCell ⟨w1.heap.size, 2, none⟩ (.int .i64 m3)).setCell ⟨w1.heap.size, 3, none⟩ (.int .i64 m4) = w4 at *
    obtain ⟨⟨x0, x1, x2, x3⟩, _, _, _, _⟩ := HP.out
    simp only at x0 x1 x2 x3
    have HRR := Lib.hid (HR.out.put m1 m2 m3 m4)
    obtain ⟨⟨z0, z1, z2, z3⟩, k0, k1, k2, k3⟩ := HR.out
    simp only at z0 z1 z2 z3
    have HB := Lib.hid ((((HB4.out.setCell (p := ⟨w.heap.size + 1, 0, none⟩) (Nat.le_succ _) (.int .i64 m1)).setCell (p := ⟨w.heap.size + 1, 1, none⟩) (Nat.le_succ _) (.int .i64 m2)).setCell (p := ⟨w.heap.size + 1, 2, none⟩) (Nat.le_succ _) (.int .i64 m3)).setCell (p := ⟨w.heap.size + 1, 3, none⟩) (Nat.le_succ _) (.int .i64 m4))
    clear y0 y1 y2 y3 g0 g1 g2 g3
    go_wp2_with fail
    obtain ⟨⟨o0, o1, o2, o3⟩, _, _, _, _⟩ := HRR.out
    exact bodyPost_ret (v := .agg #[.int .i64 m1, .int .i64 m2, .int .i64 m3, .int .i64 m4]) (by simp [results, Tryz.results43, go_sem, o0, o1, o2, o3]) rfl ⟨rfl, HB.out⟩
  · rw [if_neg h4] at X
    have hb : isBox kind = true := by
      rcases objCode_kind h with rfl | rfl | rfl | rfl <;> first | rfl | exact absurd rfl h4
    rw [hb] at X
    generalize oBox kind l = bb at *
    obtain ⟨m1, m2, m3, m4⟩ := bb
    clear h h4 hb V
    go_enter Tryz.func43, Tryz.ntmps43
    go_wp2_with fail
    refine X.out.mono ?_
    rintro e w1 ⟨rfl, b1⟩
    unfold bxAgg
    have B1 := B0.trans (b1.mono B0.size)
    have r1 := HR0.out.below b1
    have hl1 := r1.lt
    have HRR := Lib.hid ((r1.put m1 m2 m3 m4).below ((Below.refl _ _).alloc (Nat.le_refl _) (.cells #[.int .i64 m1, .int .i64 m2, .int .i64 m3, .int .i64 m4] 69)))
    have BS := (((B1.setCell (p := ⟨w.heap.size + 1, 0, none⟩) (Nat.le_succ _) (.int .i64 m1)).setCell (p := ⟨w.heap.size + 1, 1, none⟩) (Nat.le_succ _) (.int .i64 m2)).setCell (p := ⟨w.heap.size + 1, 2, none⟩) (Nat.le_succ _) (.int .i64 m3)).setCell (p := ⟨w.heap.size + 1, 3, none⟩) (Nat.le_succ _) (.int .i64 m4)
    have HB := Lib.hid (BS.alloc BS.size (.cells #[.int .i64 m1, .int .i64 m2, .int .i64 m3, .int .i64 m4] 69))
    clear BS
    obtain ⟨⟨z0, z1, z2, z3⟩, k0, k1, k2, k3⟩ := r1
    simp only at z0 z1 z2 z3
    clear X HR0 d0 d1
    go_wp2_with fail
    obtain ⟨⟨o0, o1, o2, o3⟩, _, _, _, _⟩ := HRR.out
    exact bodyPost_ret (v := .agg #[.int .i64 m1, .int .i64 m2, .int .i64 m3, .int .i64 m4]) (by simp [results, Tryz.results43, go_sem, o0, o1, o2, o3]) rfl ⟨rfl, HB.out⟩
end

/-! Rel3 -/
section
open Go.RowKit

theorem set4_cell (w : World) (g : Nat) (x y z t : Value) (b j : Nat) (h : b ≠ g) : ((((w.setCell ⟨g, 0, none⟩ x).setCell ⟨g, 1, none⟩ y).setCell ⟨g, 2, none⟩ z).setCell ⟨g, 3, none⟩ t).cell? ⟨b, j, none⟩ = w.cell? ⟨b, j, none⟩ := by
  have hne : g ≠ b := fun e => h e.symm
  rw [World.cell?_setCell_far _ _ _ _ (by simpa using hne), World.cell?_setCell_far _ _ _ _ (by simpa using hne), World.cell?_setCell_far _ _ _ _ (by simpa using hne), World.cell?_setCell_far _ _ _ _ (by simpa using hne)]
/-- an error stays where a box is written -/
theorem Er.Is.set4 {w : World} {g : Nat} {z0 : Int} (hz : w.cell? ⟨g, 0, Option.none⟩ = some (.int .i64 z0)) (x y z t : Value) : ∀ {E : Er} {v : Value}, E.Is w v → E.Is ((((w.setCell ⟨g, 0, Option.none⟩ x).setCell ⟨g, 1, Option.none⟩ y).setCell ⟨g, 2, Option.none⟩ z).setCell ⟨g, 3, Option.none⟩ t) v
  | .none, _, h => h
  | .num _, _, h => h
  | .fault _ _ _, _, ⟨b, u, h1, h2, h3, h4, h5, h6⟩ => by
    have hne : b ≠ g := fun e => by
      rw [e, hz] at h3
      simp at h3
    exact ⟨b, u, h1, by simpa using h2, by rw [set4_cell _ _ _ _ _ _ _ _ hne]; exact h3, by rw [set4_cell _ _ _ _ _ _ _ _ hne]; exact h4, by rw [set4_cell _ _ _ _ _ _ _ _ hne]; exact h5, Er.Is.set4 hz x y z t h6⟩

theorem wrap_none {op : ByteArray} {id : Int} {E : Er} : E.wrap op id = .none ↔ E = .none := by cases E <;> simp [Er.wrap]
theorem Er.Is.iface {w : World} {E : Er} {v : Value} (h : E.Is w v) (hE : E ≠ .none) : ∃ T x, v = .iface T x := by
  cases E with
  | none => exact absurd rfl hE
  | num j => exact ⟨_, _, h⟩
  | fault a b c => obtain ⟨b, u, h, _⟩ := h; exact ⟨_, _, h⟩

set_option maxRecDepth 100000 in
theorem relBnd_ok (kind : Int) (v : Value) (l : List Pt) (w : World) (hv : Pts w v l) (h : objCode kind l = 0) :
    Calls Tryz.prog 22 #[.agg #[.int .i64 kind, v]] w fun e w' => e = .returned (.tuple #[bxAgg (oBox kind l), .nilIface]) ∧ Below w.heap.size w w' := by
  have hv0 := hv
  obtain ⟨ao, c, rfl, h1, h2, _, _⟩ := hv.open
  have BA : Below w.heap.size w (w.alloc (.cells #[.int .i64 kind, .slice ao l.length c] 39)) := (Below.refl _ _).alloc (Nat.le_refl _) _
  have B0 : Below w.heap.size w ((w.alloc (.cells #[.int .i64 kind, .slice ao l.length c] 39)).alloc (.cells #[.int .i64 0, .int .i64 0, .int .i64 0, .int .i64 0] 69)) := BA.alloc BA.size _
  have R0 := quadS_alloc (w.alloc (.cells #[.int .i64 kind, .slice ao l.length c] 39)) 0 0 0 0 69
  rw [show (w.alloc (.cells #[.int .i64 kind, .slice ao l.length c] 39)).heap.size = w.heap.size + 1 by simp] at R0
  have HR0 := Lib.hid R0
  have C := relChk_any kind _ l _ (hv0.below B0)
  rw [objEr_none.2 h] at C
  have HC := Lib.hid C
  have X := Lib.hid (fun w' (hb : Below w.heap.size w w') => relBounds_ok kind _ l w' (hv0.below hb) h)
  have D0 := Lib.hid (show ((w.alloc (.cells #[.int .i64 kind, .slice ao l.length c] 39)).alloc (.cells #[.int .i64 0, .int .i64 0, .int .i64 0, .int .i64 0] 69)).cell? ⟨w.heap.size, 0, none⟩ = some (.int .i64 kind) by simp)
  have D1 := Lib.hid (show ((w.alloc (.cells #[.int .i64 kind, .slice ao l.length c] 39)).alloc (.cells #[.int .i64 0, .int .i64 0, .int .i64 0, .int .i64 0] 69)).cell? ⟨w.heap.size, 1, none⟩ = some (.slice ao l.length c) by simp)
  have hA2 := Lib.hid (show w.heap.size < ((w.alloc (.cells #[.int .i64 kind, .slice ao l.length c] 39)).alloc (.cells #[.int .i64 0, .int .i64 0, .int .i64 0, .int .i64 0] 69)).heap.size by simp; omega)
  unfold maxLen at h2
  generalize oBox kind l = bb at *
  obtain ⟨m1, m2, m3, m4⟩ := bb
  clear hv hv0 R0 BA h C
  unfold BoxRet bxAgg at *
  go_enter Tryz.func22, Tryz.ntmps22
  go_wp2_with fail
  refine HC.out.mono ?_
  rintro e w1 ⟨u, rfl, rfl, b1⟩
  have B1 := B0.trans (b1.mono B0.size)
  have e0 := (b1.cell (p := ⟨w.heap.size, 0, none⟩) hA2.out).trans D0.out
  have e1 := (b1.cell (p := ⟨w.heap.size, 1, none⟩) hA2.out).trans D1.out
  have r1 := Lib.hid (HR0.out.below b1)
  have XX := Lib.hid (X.out _ B1)
  clear X HR0
  go_wp2_with fail
  refine XX.out.mono ?_
  rintro e w2 ⟨rfl, b2⟩
  have B2 := B1.trans (b2.mono B1.size)
  have r2 := r1.out.below b2
  have hl2 := r2.lt
  have HRR := Lib.hid (r2.put m1 m2 m3 m4)
  have HB := Lib.hid ((((B2.setCell (p := ⟨w.heap.size + 1, 0, none⟩) (Nat.le_succ _) (.int .i64 m1)).setCell (p := ⟨w.heap.size + 1, 1, none⟩) (Nat.le_succ _) (.int .i64 m2)).setCell (p := ⟨w.heap.size + 1, 2, none⟩) (Nat.le_succ _) (.int .i64 m3)).setCell (p := ⟨w.heap.size + 1, 3, none⟩) (Nat.le_succ _) (.int .i64 m4))
  obtain ⟨⟨z0, z1, z2, z3⟩, k0, k1, k2, k3⟩ := r2
  simp only at z0 z1 z2 z3
  clear XX r1 e0 e1
  go_wp2_with fail
  obtain ⟨⟨o0, o1, o2, o3⟩, _, _, _, _⟩ := HRR.out
  exact bodyPost_ret (v := .tuple #[.agg #[.int .i64 m1, .int .i64 m2, .int .i64 m3, .int .i64 m4], .nilIface]) (by simp [results, Tryz.results22, go_sem, o0, o1, o2, o3]) rfl ⟨rfl, HB.out⟩
set_option maxRecDepth 100000 in
theorem relBnd_no (kind : Int) (v : Value) (l : List Pt) (w : World) (hv : Pts w v l) (h : objCode kind l ≠ 0) :
    Calls Tryz.prog 22 #[.agg #[.int .i64 kind, v]] w fun e w' => ∃ u, e = .returned (.tuple #[bxAgg (0, 0, 0, 0), u]) ∧ ((objEr kind l).wrap strObj kind).Is w' u ∧ Below w.heap.size w w' := by
  have hv0 := hv
  obtain ⟨ao, c, rfl, h1, h2, _, _⟩ := hv.open
  have BA : Below w.heap.size w (w.alloc (.cells #[.int .i64 kind, .slice ao l.length c] 39)) := (Below.refl _ _).alloc (Nat.le_refl _) _
  have B0 : Below w.heap.size w ((w.alloc (.cells #[.int .i64 kind, .slice ao l.length c] 39)).alloc (.cells #[.int .i64 0, .int .i64 0, .int .i64 0, .int .i64 0] 69)) := BA.alloc BA.size _
  have R0 := quadS_alloc (w.alloc (.cells #[.int .i64 kind, .slice ao l.length c] 39)) 0 0 0 0 69
  rw [show (w.alloc (.cells #[.int .i64 kind, .slice ao l.length c] 39)).heap.size = w.heap.size + 1 by simp] at R0
  have HR0 := Lib.hid R0
  have C := relChk_any kind _ l _ (hv0.below B0)
  have hne : (objEr kind l).wrap strObj kind ≠ .none := fun q => h (objEr_none.1 (wrap_none.1 q))
  generalize (objEr kind l).wrap strObj kind = E at *
  have HC := Lib.hid C
  unfold maxLen at h2
  clear hv hv0 R0 BA h C
  unfold bxAgg
  go_enter Tryz.func22, Tryz.ntmps22
  go_wp2_with fail
  refine HC.out.mono ?_
  rintro e w1 ⟨u, rfl, hu, b1⟩
  obtain ⟨T, x, rfl⟩ := hu.iface hne
  have B1 := B0.trans (b1.mono B0.size)
  have r1 := HR0.out.below b1
  have hl1 := r1.lt
  have HU := Lib.hid (Er.Is.set4 r1.q.c0 (.int .i64 0) (.int .i64 0) (.int .i64 0) (.int .i64 0) hu)
  have HRR := Lib.hid (r1.put 0 0 0 0)
  have HB := Lib.hid ((((B1.setCell (p := ⟨w.heap.size + 1, 0, none⟩) (Nat.le_succ _) (.int .i64 0)).setCell (p := ⟨w.heap.size + 1, 1, none⟩) (Nat.le_succ _) (.int .i64 0)).setCell (p := ⟨w.heap.size + 1, 2, none⟩) (Nat.le_succ _) (.int .i64 0)).setCell (p := ⟨w.heap.size + 1, 3, none⟩) (Nat.le_succ _) (.int .i64 0))
  obtain ⟨⟨z0, z1, z2, z3⟩, k0, k1, k2, k3⟩ := r1
  simp only at z0 z1 z2 z3
  clear HR0 hu
  go_wp2_with fail
  obtain ⟨⟨o0, o1, o2, o3⟩, _, _, _, _⟩ := HRR.out
  exact bodyPost_ret (v := .tuple #[.agg #[.int .i64 0, .int .i64 0, .int .i64 0, .int .i64 0], .iface T x]) (by simp [results, Tryz.results22, go_sem, o0, o1, o2, o3]) rfl ⟨_, rfl, HU.out, HB.out⟩
end

end Go.Proofs.YtoggbmfjjenbaaaGreatDoor
