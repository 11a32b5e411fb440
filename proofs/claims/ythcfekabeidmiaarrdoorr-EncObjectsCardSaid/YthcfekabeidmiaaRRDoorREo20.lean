/- rel.wrap, verts, box, interval, check, Check of any object. rel.bounds, Bounds; pergolaref3.Check, Bounds: of any object. rel.Bounds; pergolaref3.Check, Bounds: of any object. -/
import Derived.Test.YthcfekabeidmiaaRRDoorREo16
import Derived.Test.YthcfekabeidmiaaRRDoorREo19
import Derived.Deep.RegionHeld3
import Derived.RegionTactic
import Derived.ChangeAlike
import Derived.Outline
import Derived.Deep.Cut
set_option linter.unusedSimpArgs false
set_option linter.unusedVariables false
namespace Go.Proofs.YthcfekabeidmiaaRRDoorR
/-! Rel1 -/
section
open Go.RowKit

theorem bel_drewN' {B : Nat} {a w : World} (h : Below B a w) (n : Nat) : Below B a (w.drewN n) := ⟨h.os, h.tape, h.output, h.size, h.block⟩
/-- an error by its number -/
def ofC (k : Int) : Er := if k = 0 then .none else .num k
/-- why an object may not be, as the document numbers it -/
def objCode (kind : Int) (l : List Pt) : Int :=
  if kind = 1 ∨ kind = 2 then (if l.length ≠ 1 then 3 else if okP (pt l 0) = false then 2 else if kind = 2 ∧ (pt l 0).2 < (pt l 0).1 then 1 else 0)
  else if kind = 3 then (if l.length ≠ 2 then 3 else boxCode (pt l 0).1 (pt l 0).2 (pt l 1).1 (pt l 1).2)
  else if kind = 4 then (ringRes l).1 else 5
/-- why an object may not be -/
def objEr (kind : Int) (l : List Pt) : Er := if kind = 4 then ringEr l else ofC (objCode kind l)
theorem objCode_1 (l : List Pt) : objCode 1 l = if l.length ≠ 1 then 3 else if okP (pt l 0) = false then 2 else 0 := by
  unfold objCode
  rw [if_pos (Or.inl rfl)]
  split
  · rfl
  · split
    · rfl
    · rw [if_neg (by omega)]
theorem objCode_2 (l : List Pt) : objCode 2 l = if l.length ≠ 1 then 3 else if okP (pt l 0) = false then 2 else if (pt l 0).2 < (pt l 0).1 then 1 else 0 := by
  unfold objCode
  rw [if_pos (Or.inr rfl)]
  split
  · rfl
  · split
    · rfl
    · simp only [true_and]
theorem objCode_3 (l : List Pt) : objCode 3 l = if l.length ≠ 2 then 3 else boxCode (pt l 0).1 (pt l 0).2 (pt l 1).1 (pt l 1).2 := by
  unfold objCode
  rw [if_neg (by omega), if_pos rfl]
theorem objCode_4 (l : List Pt) : objCode 4 l = (ringRes l).1 := by
  unfold objCode
  rw [if_neg (by omega), if_neg (by omega), if_pos rfl]
theorem objCode_else (kind : Int) (l : List Pt) (h : kind ≠ 1 ∧ kind ≠ 2 ∧ kind ≠ 3 ∧ kind ≠ 4) : objCode kind l = 5 := by
  unfold objCode
  rw [if_neg (by omega), if_neg (by omega), if_neg (by omega)]

theorem relWrap_nil (op : ByteArray) (id : Int) (w : World) :
    Calls Tryd.prog 26 #[.string op, .int .i64 id, .nilIface] w (ErRet w .none) := by
  go_enter Tryd.func26, Tryd.ntmps26
  go_wp2
  go_ret
  exact ⟨_, rfl, rfl, Below.refl _ _⟩
theorem relWrap_er (op : ByteArray) (id : Int) (E : Er) (v : Value) (w : World) (hv : E.Is w v) :
    Calls Tryd.prog 26 #[.string op, .int .i64 id, v] w (ErRet w (E.wrap op id)) := by
  by_cases hE : E = .none
  · subst hE
    obtain rfl : v = .nilIface := hv
    exact relWrap_nil op id w
  · obtain ⟨T, x, rfl⟩ : ∃ T x, v = .iface T x := by
      cases E with
      | none => exact absurd rfl hE
      | num j => exact ⟨_, _, hv⟩
      | fault a b c => obtain ⟨b, u, h, _⟩ := hv; exact ⟨_, _, h⟩
    have hw : E.wrap op id = .fault op id E := by cases E <;> first | rfl | exact absurd rfl hE
    rw [hw]
    have HE := Lib.hid hE; clear hE
    have hb : Below w.heap.size w (w.alloc (.cells #[.string op, .int .i64 id, .iface T x] 65)) := (Below.refl _ _).alloc (Nat.le_refl _) _
    have hv' := Er.Is.below hb hv
    go_enter Tryd.func26, Tryd.ntmps26
    go_wp2
    go_ret
    exact ⟨_, rfl, ⟨_, _, rfl, by simp, by simp, by simp, by simp, hv'⟩, hb⟩

theorem relVerts_3 (w : World) : Calls Tryd.prog 39 #[.int .i64 3] w fun e w' => e = .returned (.int .i64 2) ∧ w = w' := by
  go_enter Tryd.func39, Tryd.ntmps39
  go_wp2
  go_ret
  exact ⟨rfl, rfl⟩
theorem relVerts_else (k : Int) (h : k ≠ 3) (w : World) : Calls Tryd.prog 39 #[.int .i64 k] w fun e w' => e = .returned (.int .i64 1) ∧ w = w' := by
  have t : (k == 3) = false := by simpa using h
  clear h
  go_enter Tryd.func39, Tryd.ntmps39
  go_wp2
  go_ret
  exact ⟨rfl, rfl⟩

/-- rel.box hands back a box and whether it is one. -/
def BoxTold (w : World) (b : Int × Int × Int × Int) (ok : Bool) (e : Ending) (w' : World) : Prop := e = .returned (.tuple #[bxAgg b, .bool ok]) ∧ Below w.heap.size w w'

set_option maxRecDepth 100000 in
theorem relBox_1 (v : Value) (x y : Int) (w : World) (hv : Pts w v [(x, y)]) :
    Calls Tryd.prog 41 #[.agg #[.int .i64 1, v]] w (BoxTold w (x, y, x, y) true) := by
  obtain ⟨ao, c, rfl, h1, h2, h0, h3⟩ := hv.open
  obtain ⟨b, off, rfl, hb, hc0, hc1⟩ := h3 0 (by simp)
  simp only [Nat.zero_mul, Nat.add_zero, List.getElem_cons_zero] at hc0 hc1
  simp only [List.length_singleton] at h1 ⊢
  clear h3 h0
  unfold maxLen at h2
  unfold BoxTold bxAgg
  go_enter Tryd.func41, Tryd.ntmps41
  go_wp2
  go_region
  go_wp2
  exact bodyPost_ret (v := .tuple #[.agg #[.int .i64 x, .int .i64 y, .int .i64 x, .int .i64 y], .bool true]) (by simp [results, Tryd.results41, go_sem]) rfl ⟨rfl, (((Below.refl _ _).alloc (Nat.le_refl _) _).alloc (by simp) _).drew⟩
set_option maxRecDepth 100000 in
theorem relBox_2 (v : Value) (x y : Int) (w : World) (hv : Pts w v [(x, y)]) :
    Calls Tryd.prog 41 #[.agg #[.int .i64 2, v]] w (BoxTold w (x, 0, y, 0) true) := by
  obtain ⟨ao, c, rfl, h1, h2, h0, h3⟩ := hv.open
  obtain ⟨b, off, rfl, hb, hc0, hc1⟩ := h3 0 (by simp)
  simp only [Nat.zero_mul, Nat.add_zero, List.getElem_cons_zero] at hc0 hc1
  simp only [List.length_singleton] at h1 ⊢
  clear h3 h0
  unfold maxLen at h2
  unfold BoxTold bxAgg
  go_enter Tryd.func41, Tryd.ntmps41
  go_wp2
  go_region
  go_wp2
  exact bodyPost_ret (v := .tuple #[.agg #[.int .i64 x, .int .i64 0, .int .i64 y, .int .i64 0], .bool true]) (by simp [results, Tryd.results41, go_sem]) rfl ⟨rfl, (((Below.refl _ _).alloc (Nat.le_refl _) _).alloc (by simp) _).drew⟩
set_option maxRecDepth 100000 in
theorem relBox_3 (v : Value) (x y x2 y2 : Int) (w : World) (hv : Pts w v [(x, y), (x2, y2)]) :
    Calls Tryd.prog 41 #[.agg #[.int .i64 3, v]] w (BoxTold w (x, y, x2, y2) true) := by
  obtain ⟨ao, c, rfl, h1, h2, h0, h3⟩ := hv.open
  obtain ⟨b, off, rfl, hb, hc0, hc1⟩ := h3 0 (by simp)
  obtain ⟨b', off', e', hb', hd0, hd1⟩ := h3 1 (by simp)
  simp only [Option.some.injEq, Addr.mk.injEq, and_true] at e'
  obtain ⟨rfl, rfl⟩ := e'
  simp only [Nat.zero_mul, Nat.add_zero, List.getElem_cons_zero, List.getElem_cons_succ, Nat.one_mul] at hc0 hc1 hd0 hd1
  simp only [List.length_cons, List.length_nil, Nat.zero_add, Nat.reduceAdd] at h1 ⊢
  clear h3 h0
  unfold maxLen at h2
  unfold BoxTold bxAgg
  go_enter Tryd.func41, Tryd.ntmps41
  go_wp2
  go_region
  go_wp2
  exact bodyPost_ret (v := .tuple #[.agg #[.int .i64 x, .int .i64 y, .int .i64 x2, .int .i64 y2], .bool true]) (by simp [results, Tryd.results41, go_sem]) rfl ⟨rfl, (((Below.refl _ _).alloc (Nat.le_refl _) _).alloc (by simp) _).drew⟩
set_option maxRecDepth 100000 in
theorem relBox_no (kind : Int) (ao : Option Addr) (n c : Nat) (w : World) (h : kind ≠ 1 ∧ kind ≠ 2 ∧ kind ≠ 3) :
    Calls Tryd.prog 41 #[.agg #[.int .i64 kind, .slice ao n c]] w (BoxTold w (0, 0, 0, 0) false) := by
  have k1 : (kind == 1) = false := by simpa using h.1
  have k2 : (kind == 2) = false := by simpa using h.2.1
  have k3 : (kind == 3) = false := by simpa using h.2.2
  clear h
  unfold BoxTold bxAgg
  go_enter Tryd.func41, Tryd.ntmps41
  go_wp2
  exact bodyPost_ret (v := .tuple #[.agg #[.int .i64 0, .int .i64 0, .int .i64 0, .int .i64 0], .bool false]) (by simp [results, Tryd.results41, go_sem]) rfl ⟨rfl, (((Below.refl _ _).alloc (Nat.le_refl _) _).alloc (by simp) _)⟩

theorem interval_any (x y : Int) (w : World) : Calls Tryd.prog 40 #[.agg #[.int .i64 x, .int .i64 y]] w (ErRet w (ofC (if okP (x, y) = false then 2 else if y < x then 1 else 0))) := by
  have B0 : Below w.heap.size w (w.alloc (.cells #[.int .i64 x, .int .i64 y] 43)) := (Below.refl _ _).alloc (Nat.le_refl _) _
  have P := Lib.hid (ckPoint_any x y (w.alloc (.cells #[.int .i64 x, .int .i64 y] 43)))
  have Q0 := Lib.hid (pair_alloc w x y 43 w.heap.size rfl)
  cases hok : okP (x, y) with
  | false =>
    rw [hok] at P
    simp only [if_true]
    clear hok
    go_enter Tryd.func40, Tryd.ntmps40
    go_wp2_with fail
    refine P.out.mono ?_
    rintro e w1 ⟨u, rfl, hu, b1⟩
    obtain rfl : u = .iface 54 (.int .i64 2) := hu
    go_wp2_with fail
    go_ret
    exact ⟨_, rfl, rfl, B0.trans (b1.mono B0.size)⟩
  | true =>
    rw [hok] at P
    simp only [Bool.true_eq_false, if_false]
    clear hok
    by_cases hlt : y < x
    · have t : decide (y < x) = true := decide_eq_true hlt
      rw [if_pos hlt]
      clear hlt
      go_enter Tryd.func40, Tryd.ntmps40
      go_wp2_with fail
      refine P.out.mono ?_
      rintro e w1 ⟨u, rfl, hu, b1⟩
      obtain rfl : u = .nilIface := hu
      obtain ⟨c0, c1⟩ := Q0.out.below b1
      go_wp2_with fail
      go_ret
      exact ⟨_, rfl, rfl, B0.trans (b1.mono B0.size)⟩
    · have t : decide (y < x) = false := decide_eq_false hlt
      rw [if_neg hlt]
      clear hlt
      go_enter Tryd.func40, Tryd.ntmps40
      go_wp2_with fail
      refine P.out.mono ?_
      rintro e w1 ⟨u, rfl, hu, b1⟩
      obtain rfl : u = .nilIface := hu
      obtain ⟨c0, c1⟩ := Q0.out.below b1
      go_wp2_with fail
      go_ret
      exact ⟨_, rfl, rfl, B0.trans (b1.mono B0.size)⟩
theorem ckBox_any (a b c d : Int) (w : World) : Calls Tryd.prog 42 #[.agg #[.int .i64 a, .int .i64 b, .int .i64 c, .int .i64 d]] w (ErRet w (ofC (boxCode a b c d))) := Cv.CheckBox_any a b c d w

/-- rel.check where the number of points is not the kind's -/
theorem relCheck_verts (kind : Int) (m : Int) (ao : Option Addr) (n c : Nat) (w : World) (hk : kind = 1 ∨ kind = 2 ∨ kind = 3) (hm : m = if kind = 3 then 2 else 1) (hn : (n : Int) ≠ m) :
    Calls Tryd.prog 27 #[.agg #[.int .i64 kind, .slice ao n c]] w (ErRet w (.num 3)) := by
  have t : ((n : Int) != m) = true := by simpa using hn
  have V : ∀ w, Calls Tryd.prog 39 #[.int .i64 kind] w fun e w' => e = .returned (.int .i64 m) ∧ w = w' := by
    intro w
    by_cases h3 : kind = 3
    · rw [if_pos h3] at hm
      subst h3 hm
      exact relVerts_3 w
    · rw [if_neg h3] at hm
      subst hm
      exact relVerts_else kind h3 w
  have B0 : Below w.heap.size w (w.alloc (.cells #[.int .i64 kind, .slice ao n c] 24)) := (Below.refl _ _).alloc (Nat.le_refl _) _
  have HV := Lib.hid V
  clear V hm hn
  rcases hk with rfl | rfl | rfl
  all_goals
    go_enter Tryd.func27, Tryd.ntmps27
    go_wp2
    go_quiet ((go_at_call 39; refine Calls.quiet_of_same ((HV.out _).mono fun e w' ⟨h, k⟩ => ⟨h, k.symm⟩)))
    go_wp2_with fail
    go_ret
    exact ⟨_, rfl, rfl, bel_drewN' B0 _⟩

set_option maxRecDepth 100000 in
theorem relCheck_1 (v : Value) (x y : Int) (w : World) (hv : Pts w v [(x, y)]) :
    Calls Tryd.prog 27 #[.agg #[.int .i64 1, v]] w (ErRet w (ofC (boxCode x y x y))) := by
  have V := Lib.hid (fun w => relVerts_else 1 (by decide) w)
  have C := Lib.hid (fun w => ckBox_any x y x y w)
  have hv0 := hv
  obtain ⟨ao, c, rfl, h1, h2, h0, h3⟩ := hv.open
  simp only [List.length_singleton] at h1 hv0 ⊢
  clear h3 h0 hv
  unfold maxLen at h2
  have B0 : Below w.heap.size w (w.alloc (.cells #[.int .i64 1, .slice ao 1 c] 24)) := (Below.refl _ _).alloc (Nat.le_refl _) _
  have X := Lib.hid (fun n => relBox_1 _ x y _ ((hv0.below B0).drewN n))
  clear hv0
  go_enter Tryd.func27, Tryd.ntmps27
  go_wp2
  go_quiet ((go_at_call 39; refine Calls.quiet_of_same ((V.out _).mono fun e w' ⟨h, k⟩ => ⟨h, k.symm⟩)))
  go_wp2_with fail
  refine (X.out _).mono ?_
  rintro e w1 ⟨rfl, b1⟩
  have B1 := (bel_drewN' B0 nq).trans (b1.mono (bel_drewN' B0 nq).size)
  unfold bxAgg
  go_wp2_with fail
  refine (C.out _).mono ?_
  rintro e w2 ⟨u, rfl, hu, b2⟩
  have B2 := (B1.alloc B1.size (.cells #[.int .i64 x, .int .i64 y, .int .i64 x, .int .i64 y] 70))
  go_wp2_with fail
  go_ret
  exact ⟨_, rfl, hu, B2.trans (b2.mono B2.size)⟩
set_option maxRecDepth 100000 in
theorem relCheck_2 (v : Value) (x y : Int) (w : World) (hv : Pts w v [(x, y)]) :
    Calls Tryd.prog 27 #[.agg #[.int .i64 2, v]] w (ErRet w (ofC (if okP (x, y) = false then 2 else if y < x then 1 else 0))) := by
  have V := Lib.hid (fun w => relVerts_else 2 (by decide) w)
  have C := Lib.hid (fun w => interval_any x y w)
  have hv0 := hv
  obtain ⟨ao, c, rfl, h1, h2, h0, h3⟩ := hv.open
  obtain ⟨b, off, rfl, hb, hc0, hc1⟩ := h3 0 (by simp)
  simp only [Nat.zero_mul, Nat.add_zero, List.getElem_cons_zero] at hc0 hc1
  simp only [List.length_singleton] at h1 hv0 ⊢
  generalize ofC (if okP (x, y) = false then 2 else if y < x then 1 else 0) = E at *
  clear h3 h0 hv
  unfold maxLen at h2
  have B0 : Below w.heap.size w (w.alloc (.cells #[.int .i64 2, .slice (some ⟨b, off, none⟩) 1 c] 24)) := (Below.refl _ _).alloc (Nat.le_refl _) _
  clear hv0
  go_enter Tryd.func27, Tryd.ntmps27
  go_wp2
  go_quiet ((go_at_call 39; refine Calls.quiet_of_same ((V.out _).mono fun e w' ⟨h, k⟩ => ⟨h, k.symm⟩)))
  go_wp2_with fail
  refine (C.out _).mono ?_
  rintro e w2 ⟨u, rfl, hu, b2⟩
  have B2 := bel_drewN' B0 nq
  go_wp2_with fail
  go_ret
  exact ⟨_, rfl, hu, B2.trans (b2.mono B2.size)⟩
set_option maxRecDepth 100000 in
theorem relCheck_3 (v : Value) (x y x2 y2 : Int) (w : World) (hv : Pts w v [(x, y), (x2, y2)]) :
    Calls Tryd.prog 27 #[.agg #[.int .i64 3, v]] w (ErRet w (ofC (boxCode x y x2 y2))) := by
  have V := Lib.hid (fun w => relVerts_3 w)
  have C := Lib.hid (fun w => ckBox_any x y x2 y2 w)
  have hv0 := hv
  obtain ⟨ao, c, rfl, h1, h2, h0, h3⟩ := hv.open
  simp only [List.length_cons, List.length_nil, Nat.zero_add, Nat.reduceAdd] at h1 hv0 ⊢
  clear h3 h0 hv
  unfold maxLen at h2
  have B0 : Below w.heap.size w (w.alloc (.cells #[.int .i64 3, .slice ao 2 c] 24)) := (Below.refl _ _).alloc (Nat.le_refl _) _
  have X := Lib.hid (fun n => relBox_3 _ x y x2 y2 _ ((hv0.below B0).drewN n))
  clear hv0
  go_enter Tryd.func27, Tryd.ntmps27
  go_wp2
  go_quiet ((go_at_call 39; refine Calls.quiet_of_same ((V.out _).mono fun e w' ⟨h, k⟩ => ⟨h, k.symm⟩)))
  go_wp2_with fail
  refine (X.out _).mono ?_
  rintro e w1 ⟨rfl, b1⟩
  have B1 := (bel_drewN' B0 nq).trans (b1.mono (bel_drewN' B0 nq).size)
  unfold bxAgg
  go_wp2_with fail
  refine (C.out _).mono ?_
  rintro e w2 ⟨u, rfl, hu, b2⟩
  have B2 := (B1.alloc B1.size (.cells #[.int .i64 x, .int .i64 y, .int .i64 x2, .int .i64 y2] 70))
  go_wp2_with fail
  go_ret
  exact ⟨_, rfl, hu, B2.trans (b2.mono B2.size)⟩
theorem relCheck_4 (v : Value) (l : List Pt) (w : World) (hv : Pts w v l) :
    Calls Tryd.prog 27 #[.agg #[.int .i64 4, v]] w (ErRet w (ringEr l)) := by
  have hv0 := hv
  obtain ⟨ao, c, rfl, h1, h2, h0, h3⟩ := hv.open
  have B0 : Below w.heap.size w (w.alloc (.cells #[.int .i64 4, .slice ao l.length c] 24)) := (Below.refl _ _).alloc (Nat.le_refl _) _
  have C := Lib.hid (Check_any _ l _ (hv0.below B0))
  clear h3 h0 hv hv0
  unfold maxLen at h2
  go_enter Tryd.func27, Tryd.ntmps27
  go_wp2_with fail
  refine C.out.mono ?_
  rintro e w2 ⟨u, rfl, hu, b2⟩
  go_wp2_with fail
  go_ret
  exact ⟨_, rfl, hu, B0.trans (b2.mono B0.size)⟩
theorem relCheck_else (kind : Int) (ao : Option Addr) (n c : Nat) (w : World) (h : kind ≠ 1 ∧ kind ≠ 2 ∧ kind ≠ 3 ∧ kind ≠ 4) :
    Calls Tryd.prog 27 #[.agg #[.int .i64 kind, .slice ao n c]] w (ErRet w (.num 5)) := by
  have k1 : (kind == 1) = false := by simpa using h.1
  have k2 : (kind == 2) = false := by simpa using h.2.1
  have k3 : (kind == 3) = false := by simpa using h.2.2.1
  have k4 : (kind == 4) = false := by simpa using h.2.2.2
  clear h
  go_enter Tryd.func27, Tryd.ntmps27
  go_wp2_with fail
  go_ret
  exact ⟨_, rfl, rfl, (Below.refl _ _).alloc (Nat.le_refl _) _⟩

theorem boxCode_pt (x y : Int) : boxCode x y x y = if okP (x, y) = false then 2 else 0 := by
  unfold boxCode okP
  by_cases h : inP x y
  · rw [if_pos ⟨h, h⟩, if_neg (by omega)]
    simp [h]
  · rw [if_neg fun q => h q.1]
    simp [h]
theorem len_one {l : List Pt} (h : l.length = 1) : ∃ x y, l = [(x, y)] := by
  match l, h with
  | [(x, y)], _ => exact ⟨x, y, rfl⟩
theorem len_two {l : List Pt} (h : l.length = 2) : ∃ x y x2 y2, l = [(x, y), (x2, y2)] := by
  match l, h with
  | [(x, y), (x2, y2)], _ => exact ⟨x, y, x2, y2, rfl⟩
/-- rel.check of any object -/
theorem relCheck_any (kind : Int) (v : Value) (l : List Pt) (w : World) (hv : Pts w v l) :
    Calls Tryd.prog 27 #[.agg #[.int .i64 kind, v]] w (ErRet w (objEr kind l)) := by
  unfold objEr
  by_cases h4 : kind = 4
  · rw [if_pos h4]
    subst h4
    exact relCheck_4 v l w hv
  rw [if_neg h4]
  by_cases h1 : kind = 1
  · subst h1
    rw [objCode_1]
    by_cases hl : l.length = 1
    · obtain ⟨x, y, rfl⟩ := len_one hl
      rw [if_neg (by simp)]
      have := relCheck_1 v x y w hv
      rw [boxCode_pt] at this
      exact this
    · rw [if_pos hl]
      obtain ⟨ao, c, rfl, _⟩ := hv.open
      exact relCheck_verts 1 1 ao _ c w (Or.inl rfl) rfl (by omega)
  by_cases h2 : kind = 2
  · subst h2
    rw [objCode_2]
    by_cases hl : l.length = 1
    · obtain ⟨x, y, rfl⟩ := len_one hl
      rw [if_neg (by simp)]
      exact relCheck_2 v x y w hv
    · rw [if_pos hl]
      obtain ⟨ao, c, rfl, _⟩ := hv.open
      exact relCheck_verts 2 1 ao _ c w (Or.inr (Or.inl rfl)) rfl (by omega)
  by_cases h3 : kind = 3
  · subst h3
    rw [objCode_3]
    by_cases hl : l.length = 2
    · obtain ⟨x, y, x2, y2, rfl⟩ := len_two hl
      rw [if_neg (by simp)]
      exact relCheck_3 v x y x2 y2 w hv
    · rw [if_pos hl]
      obtain ⟨ao, c, rfl, _⟩ := hv.open
      exact relCheck_verts 3 2 ao _ c w (Or.inr (Or.inr rfl)) rfl (by omega)
  rw [objCode_else _ _ ⟨h1, h2, h3, h4⟩]
  obtain ⟨ao, c, rfl, _⟩ := hv.open
  exact relCheck_else kind ao _ c w ⟨h1, h2, h3, h4⟩

def strObj : ByteArray := ⟨#[111, 98, 106, 101, 99, 116]⟩
set_option maxRecDepth 100000 in
theorem relCheck_of (kind : Int) (ao : Option Addr) (n c : Nat) (E : Er) (w : World) (hC : ∀ w', Below w.heap.size w w' → Calls Tryd.prog 27 #[.agg #[.int .i64 kind, .slice ao n c]] w' (ErRet w' E)) :
    Calls Tryd.prog 14 #[.agg #[.int .i64 kind, .slice ao n c]] w (ErRet w (E.wrap strObj kind)) := by
  have B0 : Below w.heap.size w (w.alloc (.cells #[.int .i64 kind, .slice ao n c] 24)) := (Below.refl _ _).alloc (Nat.le_refl _) _
  have HB := Lib.hid B0
  have HC := Lib.hid (show ∀ k, _ from fun k => hC _ (bel_drewN' B0 k))
  have HK := Lib.hid (show ∀ k w1, Below (w.alloc (.cells #[.int .i64 kind, .slice ao n c] 24)).heap.size ((w.alloc (.cells #[.int .i64 kind, .slice ao n c] 24)).drewN k) w1 → w1.cell? ⟨w.heap.size, 0, none⟩ = some (.int .i64 kind) ∧ w1.cell? ⟨w.heap.size, 1, none⟩ = some (.slice ao n c) from
    fun k w1 h => ⟨(h.cell (p := ⟨w.heap.size, 0, none⟩) (by simp)).trans (by simp), (h.cell (p := ⟨w.heap.size, 1, none⟩) (by simp)).trans (by simp)⟩)
  clear hC B0
  go_enter Tryd.func14, Tryd.ntmps14
  go_wp2
  go_region_held3 (fun w' => w'.cell? ⟨w.heap.size, 0, none⟩ = some (.int .i64 kind) ∧ w'.cell? ⟨w.heap.size, 1, none⟩ = some (.slice ao n c)) (first | go_keep | exact HK.out _ _ b1 | exact HK.out _ _ (b1.trans (b2.mono b1.size)))
    (first | (go_at_call 27; refine (HC.out _).mono ?_; rintro e w1 ⟨u, rfl, hu, b1⟩) | (go_at_call 26; refine (relWrap_er _ _ _ _ _ hu).mono ?_; rintro e w2 ⟨u2, rfl, hu2, b2⟩))
  go_wp2
  go_ret
  have b12 := b1.trans (b2.mono b1.size)
  exact ⟨_, rfl, hu2, (bel_drewN' HB.out _).trans (b12.mono (bel_drewN' HB.out _).size)⟩
/-- rel.Check of any object -/
theorem relChk_any (kind : Int) (v : Value) (l : List Pt) (w : World) (hv : Pts w v l) :
    Calls Tryd.prog 14 #[.agg #[.int .i64 kind, v]] w (ErRet w ((objEr kind l).wrap strObj kind)) := by
  have hv0 := hv
  obtain ⟨ao, c, rfl, _⟩ := hv.open
  exact relCheck_of kind ao _ c _ w fun w' hb => relCheck_any kind _ l w' (hv0.below hb)
end

/-! Rel2 -/
section
open Go.RowKit

/-- the least box that has an object that may be -/
def oBox (kind : Int) (l : List Pt) : Int × Int × Int × Int :=
  if kind = 1 then ((pt l 0).1, (pt l 0).2, (pt l 0).1, (pt l 0).2) else if kind = 2 then ((pt l 0).1, 0, (pt l 0).2, 0)
  else if kind = 3 then ((pt l 0).1, (pt l 0).2, (pt l 1).1, (pt l 1).2) else bbE l
def isBox (kind : Int) : Bool := kind == 1 || kind == 2 || kind == 3
theorem objCode_kind {kind : Int} {l : List Pt} (h : objCode kind l = 0) : kind = 1 ∨ kind = 2 ∨ kind = 3 ∨ kind = 4 := by
  by_cases h1 : kind ≠ 1 ∧ kind ≠ 2 ∧ kind ≠ 3 ∧ kind ≠ 4
  · rw [objCode_else _ _ h1] at h; cases h
  · omega
/-- rel.box of an object that may be -/
theorem relBox_ok (kind : Int) (v : Value) (l : List Pt) (w : World) (hv : Pts w v l) (h : objCode kind l = 0) :
    Calls Tryd.prog 41 #[.agg #[.int .i64 kind, v]] w (BoxTold w (if kind = 4 then (0, 0, 0, 0) else oBox kind l) (isBox kind)) := by
  rcases objCode_kind h with rfl | rfl | rfl | rfl
  · rw [objCode_1] at h
    by_cases hl : l.length = 1
    · obtain ⟨x, y, rfl⟩ := len_one hl
      exact relBox_1 v x y w hv
    · rw [if_pos hl] at h; cases h
  · rw [objCode_2] at h
    by_cases hl : l.length = 1
    · obtain ⟨x, y, rfl⟩ := len_one hl
      exact relBox_2 v x y w hv
    · rw [if_pos hl] at h; cases h
  · rw [objCode_3] at h
    by_cases hl : l.length = 2
    · obtain ⟨x, y, x2, y2, rfl⟩ := len_two hl
      exact relBox_3 v x y x2 y2 w hv
    · rw [if_pos hl] at h; cases h
  · obtain ⟨ao, c, rfl, _⟩ := hv.open
    exact relBox_no 4 ao _ c w (by decide)
theorem objEr_none {kind : Int} {l : List Pt} : objEr kind l = .none ↔ objCode kind l = 0 := by
  unfold objEr
  by_cases h4 : kind = 4
  · rw [if_pos h4]
    subst h4
    rw [objCode_4]
    exact ringRes_zero.symm
  · rw [if_neg h4]
    unfold ofC
    by_cases h : objCode kind l = 0
    · rw [if_pos h]; simp [h]
    · rw [if_neg h]; simp [h]

/-- The call hands back a box. -/
def BoxRet (w : World) (b : Int × Int × Int × Int) (e : Ending) (w' : World) : Prop := e = .returned (bxAgg b) ∧ Below w.heap.size w w'
end

/-! Rel3 -/
section
open Go.RowKit

theorem set4_cell (w : World) (g : Nat) (x y z t : Value) (b j : Nat) (h : b ≠ g) : ((((w.setCell ⟨g, 0, none⟩ x).setCell ⟨g, 1, none⟩ y).setCell ⟨g, 2, none⟩ z).setCell ⟨g, 3, none⟩ t).cell? ⟨b, j, none⟩ = w.cell? ⟨b, j, none⟩ := by
  have hne : g ≠ b := fun e => h e.symm
  rw [World.cell?_setCell_far _ _ _ _ (by simpa using hne), World.cell?_setCell_far _ _ _ _ (by simpa using hne), World.cell?_setCell_far _ _ _ _ (by simpa using hne), World.cell?_setCell_far _ _ _ _ (by simpa using hne)]
/-- an error stays where a box is written -/
theorem Er.Is.set4 {w : World} {g : Nat} {z0 : Int} (hz : w.cell? ⟨g, 0, Option.none⟩ = some (.int .i64 z0)) (x y z t : Value) : ∀ {E : Er} {v : Value}, E.Is w v → E.Is ((((w.setCell ⟨g, 0, Option.none⟩ x).setCell ⟨g, 1, Option.none⟩ y).setCell ⟨g, 2, Option.none⟩ z).setCell ⟨g, 3, Option.none⟩ t) v
  | .none, _, h => h
  | .num _, _, h => h
  | .fault _ _ _, _, ⟨b, u, h1, h2, h3, h4, h5, h6⟩ => by
    have hne : b ≠ g := fun e => by
      rw [e, hz] at h3
      simp at h3
    exact ⟨b, u, h1, by simpa using h2, by rw [set4_cell _ _ _ _ _ _ _ _ hne]; exact h3, by rw [set4_cell _ _ _ _ _ _ _ _ hne]; exact h4, by rw [set4_cell _ _ _ _ _ _ _ _ hne]; exact h5, Er.Is.set4 hz x y z t h6⟩

theorem wrap_none {op : ByteArray} {id : Int} {E : Er} : E.wrap op id = .none ↔ E = .none := by cases E <;> simp [Er.wrap]
theorem Er.Is.iface {w : World} {E : Er} {v : Value} (h : E.Is w v) (hE : E ≠ .none) : ∃ T x, v = .iface T x := by
  cases E with
  | none => exact absurd rfl hE
  | num j => exact ⟨_, _, h⟩
  | fault a b c => obtain ⟨b, u, h, _⟩ := h; exact ⟨_, _, h⟩

end

end Go.Proofs.YthcfekabeidmiaaRRDoorR
