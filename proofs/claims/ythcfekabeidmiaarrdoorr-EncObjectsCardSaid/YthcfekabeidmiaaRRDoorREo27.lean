/- From a row's list to what errors.errorType holds; a world that meets the list. From the readings of the arguments to what the walks are told of them. From the reading of a []api.Point to points. EncObjects: whatever object and whatever bytes, both answer alike. -/
import Derived.Test.YthcfekabeidmiaaRRDoorRRows
import Derived.Test.YthcfekabeidmiaaRRDoorREo18
import Derived.ChangeSame
import Derived.ChangeVars
import Derived.JoinedOf
import Derived.RowKit
import Derived.RowKitTokens
import Derived.LaidLaws
import Derived.LaidHandle
import Derived.Stop.Joined
import Derived.Test.YthcfekabeidmiaaRRDoorREo21
import Derived.Test.YthcfekabeidmiaaRRDoorREo1
import Derived.Test.YthcfekabeidmiaaRRDoorREo25
import Derived.Test.YthcfekabeidmiaaRRDoorREo26
set_option linter.unusedSimpArgs false
set_option linter.unusedVariables false
namespace Go.Proofs.YthcfekabeidmiaaRRDoorR
/-! ErrLaid -/
section
open Go.ChangeShapes Go.WideShapes Go.RowKit

def errList : List (String × DataW Unit) := [("errors.errorType", Rows.laid_errors_errorType)]
theorem et_named : Tryd.prog.globalNamed "errors.errorType" = some 0 := by kernel_rfl
theorem rt_named : (Tryd.prog.cutTypes.find? (·.1 == "internal/reflectlite.rtype")).map (·.2) = some 97 := by kernel_rfl
theorem oneRow : ((List.range 153).filter fun t => Tryd.prog.rowNamed t [101, 114, 114, 111, 114]) = [28] := by kernel_rfl
theorem types_size : Tryd.prog.types.size = 153 := by kernel_rfl

theorem errT_of_laid {W : World} (h : laidMetH Tryd.prog errList W) : ErrT W := by
  have h' : laidMet Tryd.prog [] W ∧ handlesMet Tryd.prog errList W := h
  obtain ⟨name, u, ty, e1, e2, e3, e4, e5⟩ := h'.2 _ (List.mem_singleton.2 rfl)
  have en : name = [101, 114, 114, 111, 114] := (Option.some.inj e1).symm
  subst en
  obtain rfl := Option.some.inj (rt_named.symm.trans e2)
  have hm : ty ∈ (List.range 153).filter fun t => Tryd.prog.rowNamed t [101, 114, 114, 111, 114] := List.mem_filter.2 ⟨List.mem_range.2 (by rw [← types_size]; exact e3), e4⟩
  rw [oneRow] at hm
  obtain rfl := List.mem_singleton.1 hm
  have hh : typeHandle Tryd.prog 28 = .pointer (some ⟨1, 28, none⟩) := by kernel_rfl
  rw [hh] at e5
  unfold ErrT
  simpa using World.var?_cell et_named e5 0

/-- A world that meets the list: the settled one, the variable's cell laid. -/
noncomputable def laidWorld (os : Os) : World :=
  let w0 := World.holding Tryd.prog os ⟨#[], #[], []⟩
  { w0 with heap := w0.heap.modify 0 fun
      | .cells _ t frozen => .cells #[.iface 97 (.agg #[.pointer (some ⟨1, 28, none⟩)])] t frozen
      | o => o }
theorem laidWorld_met (os : Os) (args : Array Value) : laidMetH Tryd.prog errList ((laidWorld os).forCall (fun _ _ => 0) ⟨#[], args, []⟩).memory :=
  laidMetH_of_parts (laidMet_nil _ _) (by kernel_rfl)
end

/-! View -/
section
open Go.ChangeShapes Go.WideShapes Go.ChangeAt Go.RowKit
open Go.ChangeMaps (open_string shut_string)

section
variable {H : Type} {enc : TypeId × Value → H} {W : World} {base : Nat} {v : Value} {d : DataW H} {p : List MemPlace}

/-- numbers that fit u8, as bytes -/
def toBytes (zs : List Int) : List UInt8 := zs.map fun z => UInt8.ofNat z.toNat

set_option maxRecDepth 100000 in
theorem view_bytes (o : Value.okWide Tryd.prog W .any base 25 v) (h : DataW.Trod enc Tryd.prog W 0 (fun _ => true) true 25 v d p) : ∃ l, Byt W v l := by
  obtain ⟨a0, len, cap, rfl⟩ := okWide_slice Tryd.underlying25 o
  obtain ⟨fuel, hf⟩ := h
  rcases open_ints Tryd.underlying25 Tryd.underlying5 (by kernel_rfl) hf with ⟨hcs, _⟩ | ⟨x, l, c, zs, hcs, _, hl, hm, hz, _, hcell, hwz⟩
  · simp [Value.cells] at hcs
    obtain ⟨rfl, rfl, rfl⟩ := hcs
    exact ⟨[], Rd.nil W⟩
  · simp [Value.cells] at hcs
    obtain ⟨rfl, rfl, rfl⟩ := hcs
    have hz' : zs.length = cap := by simpa using hz
    refine ⟨toBytes (zs.take len), ?_⟩
    have hlen : (toBytes (zs.take len)).length = len := by simp [toBytes]; omega
    refine ⟨_, _, by rw [hlen], by omega, hm, (fun h => by cases h), fun i hi => ?_⟩
    rw [bytesV_length, hlen] at hi
    have hc := hcell i (by omega)
    obtain ⟨b, off, spot⟩ := x
    have hspot : spot = none := by simpa [Addr.add] using World.cell?_spot (hcell 0 (by omega))
    subst hspot
    rw [Addr.add_lit] at hc
    refine ⟨b, off, rfl, World.block_lt_of_cell? W _ hc, ?_⟩
    rw [hc]
    have hw := hwz (zs.getD i 0) (by simp [List.getD_eq_getElem?_getD, show i < zs.length by omega])
    have e : (bytesV (toBytes (zs.take len)))[i]'(by rw [bytesV_length, hlen]; exact hi) = .int .u8 (zs.getD i 0) := by
      have hb := bounds_u8 hw
      simp [bytesV, toBytes, List.getD_eq_getElem?_getD, show i < zs.length by omega]
      simp [List.getD_eq_getElem?_getD, show i < zs.length by omega] at hb
      omega
    rw [e]
end
end

/-! ViewPts -/
section
open Go.ChangeShapes Go.WideShapes Go.ChangeAt Go.RowKit

theorem i64B_of_wf {a : Int} (h : (Lit.int .i64 a).wf = true) : i64B a := by
  have := bounds_i64 h
  unfold i64B
  omega
section
variable {H : Type} {enc : TypeId × Value → H} {W : World} {base : Nat} {v : Value} {d : DataW H} {p : List MemPlace}

set_option maxRecDepth 100000 in
/-- one cell of a []api.Point, out of its reading -/
theorem cell_points {fuel : Nat} {cs : List Value} {x : DataW H × List MemPlace} (hf : DataW.trod enc Tryd.prog W 0 (fun _ => true) true fuel 22 cs = some x) : ∃ u l, cs = [u] ∧ Pts W u l ∧ PtsB l := by
  rcases DataW.trod_slice Tryd.underlying22 hf with ⟨hcs, _⟩ | ⟨x, len, cap, elems, rest, n, _, hcs, _, _, hl, hm, hlen, hel, _, _⟩
  · exact ⟨_, [], hcs, Pts.nil W, fun q hq => by cases hq⟩
  · have each : ∀ i, i < len → ∃ q : Int × Int, W.cell? ((x.add (i * 2)).add 0) = some (.int .i64 q.1) ∧ W.cell? ((x.add (i * 2)).add 1) = some (.int .i64 q.2) ∧ i64B q.1 ∧ i64B q.2 := by
      intro i hi
      have hi' : i < elems.length := by omega
      have h1 := hel i hi
      rw [List.getElem?_eq_getElem hi', pt_size] at h1
      obtain ⟨cs, h2, h3⟩ := Option.bind_eq_some_iff.1 h1
      obtain ⟨a, b, rfl, wa, wb⟩ := cells_pt h3
      obtain ⟨_, g3, g4⟩ := World.cells?_some h2
      exact ⟨(a, b), g4 0 (by omega), g4 1 (by omega), i64B_of_wf wa, i64B_of_wf wb⟩
    let qs : List (Int × Int) := List.ofFn (n := len) fun i => (each i.1 i.2).choose
    have hq : qs.length = len := by simp [qs]
    have hqi : ∀ i (h : i < qs.length), W.cell? ((x.add (i * 2)).add 0) = some (.int .i64 qs[i].1) ∧ W.cell? ((x.add (i * 2)).add 1) = some (.int .i64 qs[i].2) ∧ i64B qs[i].1 ∧ i64B qs[i].2 := by
      intro i h
      have hh := (each i (by omega)).choose_spec
      simpa [qs] using hh
    clear_value qs
    refine ⟨_, qs, hcs, ?_, fun q hm => ?_⟩
    · refine ⟨_, _, by rw [hq], by omega, hm, (fun h => by cases h), fun i hi => ?_⟩
      rw [ptsV_length] at hi
      obtain ⟨c0, c1, _⟩ := hqi (i / 2) (by omega)
      obtain ⟨b, off, spot⟩ := x
      have hspot : spot = none := by simpa [Addr.add] using World.cell?_spot (hqi 0 (by omega)).1
      subst hspot
      rw [Addr.add_lit, Addr.add_lit] at c0 c1
      refine ⟨b, off, rfl, World.block_lt_of_cell? W _ c0, ?_⟩
      rcases Nat.mod_two_eq_zero_or_one i with e | e
      · have e2 : i = i / 2 * 2 := by omega
        have := ptsV_get0 qs (i / 2) (by omega) (by rw [ptsV_length]; omega)
        rw [show off + i = off + i / 2 * 2 + 0 by omega, c0]
        simp only [← e2] at this
        rw [this]
      · have e2 : i = i / 2 * 2 + 1 := by omega
        have := ptsV_get1 qs (i / 2) (by omega) (by rw [ptsV_length]; omega)
        rw [show off + i = off + i / 2 * 2 + 1 by omega, c1]
        simp only [← e2] at this
        rw [this]
    · obtain ⟨i, hi, rfl⟩ := List.getElem_of_mem hm
      exact (hqi i hi).2.2

set_option maxRecDepth 100000 in
theorem view_pts (o : Value.okWide Tryd.prog W .any base 22 v) (h : DataW.Trod enc Tryd.prog W 0 (fun _ => true) true 22 v d p) : ∃ l, Pts W v l ∧ PtsB l := by
  obtain ⟨a0, len, cap, rfl⟩ := okWide_slice Tryd.underlying22 o
  obtain ⟨fuel, hf⟩ := h
  obtain ⟨u, l, hcs, h1, h2⟩ := cell_points hf
  simp only [Value.cells, List.cons.injEq, and_true] at hcs
  subst hcs
  exact ⟨l, h1, h2⟩
end
end

/-! EncObjects -/
section
open Go.RowKit Go.ChangeShapes Go.WideShapes

theorem obj_size : Tryd.prog.cellsOf 24 = 2 := by kernel_rfl
theorem ptsl_size : Tryd.prog.cellsOf 22 = 1 := by kernel_rfl
section
variable {H : Type} {enc : TypeId × Value → H} {W : World} {base : Nat} {v : Value} {d : DataW H} {p : List MemPlace}
set_option maxRecDepth 100000 in
theorem cells_obj {fuel : Nat} {cs : List Value} {x : DataW H × List MemPlace} (h : DataW.trod enc Tryd.prog W 0 (fun _ => true) true fuel 24 cs = some x) :
    ∃ (k : Int) (u : Value) (l : List (Int × Int)), cs = [.int .i64 k, u] ∧ Pts W u l ∧ PtsB l ∧ i64B k := by
  obtain ⟨xs, n, rfl, hx, hl, hlen, hfs⟩ := DataW.trod_struct Tryd.underlying24 h
  rw [obj_size] at hl
  match cs, hl with
  | [c0, c1], _ =>
    have hl2 : xs.length = 2 := hlen
    have h0 : DataW.trod enc Tryd.prog W 0 (fun _ => true) true n 3 (([c0, c1].drop 0).take (Tryd.prog.cellsOf 3)) = xs[0]? := hfs 0 _ rfl
    have h1 : DataW.trod enc Tryd.prog W 0 (fun _ => true) true n 22 (([c0, c1].drop 1).take (Tryd.prog.cellsOf 22)) = xs[1]? := hfs 1 _ rfl
    rw [int_size] at h0
    rw [ptsl_size] at h1
    rw [List.getElem?_eq_getElem (by omega)] at h0 h1
    simp only [List.drop_zero, List.take_succ_cons, List.take_zero, List.drop_succ_cons] at h0 h1
    obtain ⟨k, e0, _, w0⟩ := DataW.trod_int Tryd.underlying3 h0
    obtain ⟨u, l, e1, hu, hb⟩ := cell_points h1
    simp only [List.cons.injEq, and_true] at e0 e1
    subst e0 e1
    exact ⟨k, _, l, rfl, hu, hb, i64B_of_wf w0⟩
set_option maxRecDepth 100000 in
theorem view_obj (o : Value.okWide Tryd.prog W .any base 24 v) (h : DataW.Trod enc Tryd.prog W 0 (fun _ => true) true 24 v d p) :
    ∃ (k : Int) (u : Value) (l : List (Int × Int)), v = .agg #[.int .i64 k, u] ∧ Pts W u l ∧ PtsB l ∧ i64B k := by
  obtain ⟨cs, rfl, hsz⟩ := okWide_struct Tryd.underlying24 o
  obtain ⟨fuel, hf⟩ := h
  obtain ⟨k, u, l, hcs, hu, hb, hk⟩ := cells_obj hf
  refine ⟨k, u, l, ?_, hu, hb, hk⟩
  obtain ⟨q⟩ := cs
  simp [Value.cells] at hcs
  rw [hcs]
end

/-- the bytes of an object, or none -/
def objOut (kind : Int) (l : List (Int × Int)) : List UInt8 := if objCode kind l = 0 then objB kind.toNat l else []
theorem Obj_enc (kind : Int) (v : Value) (l : List (Int × Int)) (w : World) (hv : Pts w v l) (hl : PtsB l) (hn : l.length ≤ 1000) :
    Calls Tryd.prog 5 #[.agg #[.int .i64 kind, v]] w fun e w' => ∃ u er, e = .returned (.tuple #[u, er]) ∧ Byt w' u (objOut kind l) ∧ ((objEr kind l).wrap strObj kind).Is w' er ∧ Below w.heap.size w w' := by
  by_cases h : objCode kind l = 0
  · obtain ⟨k, rfl, hk⟩ : ∃ k : Nat, kind = (k : Int) ∧ k ≤ 4 := by
      rcases objCode_kind h with rfl | rfl | rfl | rfl
      · exact ⟨1, rfl, by omega⟩
      · exact ⟨2, rfl, by omega⟩
      · exact ⟨3, rfl, by omega⟩
      · exact ⟨4, rfl, by omega⟩
    have hO : objOut (k : Int) l = objB k l := by unfold objOut; rw [if_pos h]; rfl
    have hE : (objEr (k : Int) l).wrap strObj (k : Int) = .none := wrap_none.2 (objEr_none.2 h)
    rw [hO, hE]
    refine (Object_ok k v l w hv hl hk hn ?_).mono ?_
    · intro w' hb
      have := relChk_any (k : Int) v l w' (hv.below hb)
      rw [hE] at this
      exact this
    · rintro e w' ⟨u, rfl, ho, hb⟩
      exact ⟨_, _, rfl, ho.byt, rfl, hb⟩
  · have hO : objOut kind l = [] := by unfold objOut; rw [if_neg h]
    rw [hO]
    refine (Object_no kind v l w hv h).mono ?_
    rintro e w' ⟨u, rfl, ho, hb⟩
    exact ⟨_, _, rfl, Rd.nil _, ho, hb⟩
theorem Obj_ref (kind : Int) (v : Value) (l : List (Int × Int)) (w : World) (hv : Pts w v l) (hl : PtsB l) (hn : l.length ≤ 1000) :
    Calls Tryd.prog 6 #[.agg #[.int .i64 kind, v]] w fun e w' => ∃ u, e = .returned (.tuple #[u, .int .i64 (objCode kind l)]) ∧ Byt w' u (objOut kind l) ∧ Below w.heap.size w w' := by
  by_cases h : objCode kind l = 0
  · obtain ⟨k, rfl, hk⟩ : ∃ k : Nat, kind = (k : Int) ∧ k ≤ 4 := by
      rcases objCode_kind h with rfl | rfl | rfl | rfl
      · exact ⟨1, rfl, by omega⟩
      · exact ⟨2, rfl, by omega⟩
      · exact ⟨3, rfl, by omega⟩
      · exact ⟨4, rfl, by omega⟩
    have hO : objOut (k : Int) l = objB k l := by unfold objOut; rw [if_pos h]; rfl
    rw [hO, h]
    refine (ObjectR_ok k v l w hv hl hk hn h).mono ?_
    rintro e w' ⟨u, rfl, ho, hb⟩
    exact ⟨_, rfl, ho.byt, hb⟩
  · have hO : objOut kind l = [] := by unfold objOut; rw [if_neg h]
    rw [hO]
    refine (ObjectR_no kind v l w hv h).mono ?_
    rintro e w' ⟨rfl, hb⟩
    exact ⟨_, rfl, Rd.nil _, hb⟩
theorem un_isB (b : List UInt8) : (unEr b).isB (unC b) strObj 0 = true := by
  unfold unEr unC
  cases unobj b with
  | none => decide
  | some x => obtain ⟨k, l, n⟩ := x; exact (show (Er.none).isB 0 strObj 0 = true by decide)

set_option maxRecDepth 100000 in
theorem objects_long (kind : Int) (u vb : Value) (l : List (Int × Int)) (b : List UInt8) (w : World) (hu : Pts w u l) (hb : Byt w vb b) (h : 80 < l.length ∨ 1000 < b.length) :
    Calls Tryd.prog 3 #[.agg #[.int .i64 kind, u], vb] w fun e w' => e = .returned (.bool true) ∧ Below w.heap.size w w' := by
  obtain ⟨ao, cp, rfl, _⟩ := hb.open
  obtain ⟨ao', cp', rfl, _⟩ := hu.open
  have B0 : Below w.heap.size w (w.alloc (.cells #[.int .i64 kind, .slice ao' l.length cp'] 24)) := (Below.refl _ _).alloc (Nat.le_refl _) _
  by_cases h1 : 80 < l.length
  · have t1 : decide ((80 : Int) < (l.length : Int)) = true := decide_eq_true (by omega)
    clear h h1
    go_enter Tryd.func3, Tryd.ntmps3
    go_wp2_with fail
    refine (awake_any _).mono ?_
    rintro e w' ⟨rfl, b1⟩
    go_wp2_with fail
    go_ret
    exact ⟨rfl, B0.trans (b1.mono B0.size)⟩
  · have t1 : decide ((80 : Int) < (l.length : Int)) = false := decide_eq_false (by omega)
    have t2 : decide ((1000 : Int) < (b.length : Int)) = true := decide_eq_true (by omega)
    clear h h1
    go_enter Tryd.func3, Tryd.ntmps3
    go_wp2_with fail
    refine (awake_any _).mono ?_
    rintro e w' ⟨rfl, b1⟩
    go_wp2_with fail
    go_ret
    exact ⟨rfl, B0.trans (b1.mono B0.size)⟩

set_option maxRecDepth 100000 in
set_option maxHeartbeats 2000000 in
theorem objects_short (kind : Int) (u vb : Value) (l : List (Int × Int)) (b : List UInt8) (w : World) (hg : ErrT w) (hu : Pts w u l) (hl : PtsB l) (hb : Byt w vb b) (h1 : ¬ 80 < l.length) (h2 : ¬ 1000 < b.length) :
    Calls Tryd.prog 3 #[.agg #[.int .i64 kind, u], vb] w fun e w' => e = .returned (.bool true) ∧ Below w.heap.size w w' := by
  have hb0 := hb
  have hu0 := hu
  obtain ⟨ao, cp, rfl, _⟩ := hb.open
  obtain ⟨ao', cp', rfl, _⟩ := hu.open
  have B0 : Below w.heap.size w (w.alloc (.cells #[.int .i64 kind, .slice ao' l.length cp'] 24)) := (Below.refl _ _).alloc (Nat.le_refl _) _
  have k0 : (w.alloc (.cells #[.int .i64 kind, .slice ao' l.length cp'] 24)).cell? ⟨w.heap.size, 0, none⟩ = some (.int .i64 kind) := by simp
  have k1 : (w.alloc (.cells #[.int .i64 kind, .slice ao' l.length cp'] 24)).cell? ⟨w.heap.size, 1, none⟩ = some (.slice ao' l.length cp') := by simp
  have hs0 : w.heap.size < (w.alloc (.cells #[.int .i64 kind, .slice ao' l.length cp'] 24)).heap.size := by simp
  have t1 : decide ((80 : Int) < (l.length : Int)) = false := decide_eq_false (by omega)
  have t2 : decide ((1000 : Int) < (b.length : Int)) = false := decide_eq_false (by omega)
  have C1 := Lib.hid (fun w' (q : Below w.heap.size w w') => Obj_enc kind _ l w' (hu0.below q) hl (by omega))
  have C2 := Lib.hid (fun w' (q : Below w.heap.size w w') => Obj_ref kind _ l w' (hu0.below q) hl (by omega))
  have C3 := Lib.hid (fun w' (q : Below w.heap.size w w') => Unobject_any _ b w' (hb0.below q) (by omega))
  have C4 := Lib.hid (fun w' (q : Below w.heap.size w w') => UnobjectR_any _ b w' (hb0.below q) (by omega))
  have HC := Lib.hid (obj_code kind l)
  have HI := Lib.hid (un_isB b)
  have HG := Lib.hid hg
  generalize objOut kind l = OB at *
  generalize (objEr kind l).wrap strObj kind = OE at *
  generalize objCode kind l = OC at *
  generalize unK b = UK at *
  generalize unL b = UL at *
  generalize unN b = UN at *
  generalize unEr b = UE at *
  generalize unC b = UC at *
  clear hb hu hb0 hu0 h1 h2 hl hg
  go_enter Tryd.func3, Tryd.ntmps3
  go_wp2_with fail
  generalize w.alloc (.cells #[.int .i64 kind, .slice ao' l.length cp'] 24) = w0 at *
  refine (C1.out _ B0).mono ?_
  rintro e w1 ⟨u1, r1, rfl, y1, e1, b1⟩
  have B1 := B0.trans (b1.mono B0.size)
  replace k0 := (b1.cell (p := ⟨w.heap.size, 0, none⟩) hs0).trans k0
  replace k1 := (b1.cell (p := ⟨w.heap.size, 1, none⟩) hs0).trans k1
  go_wp2_with fail
  refine (C2.out _ B1).mono ?_
  rintro e w2 ⟨u2, rfl, y2, b2⟩
  have B2 := B1.trans (b2.mono B1.size)
  have Y1 := y1.below b2
  have E1 := Er.Is.below b2 e1
  clear y1 e1 k0 k1 b1 hs0
  go_wp2_with fail
  refine (C3.out _ B2).mono ?_
  rintro e w3 ⟨vo, r3, rfl, p3, e3, b3⟩
  have B3 := B2.trans (b3.mono B2.size)
  have Y1' := Y1.below b3
  have Y2 := y2.below b3
  have E1' := Er.Is.below b3 E1
  obtain ⟨a3, c3, rfl, _⟩ := Rd.of_own p3
  have P3 : Pts w3 (.slice a3 UL.length c3) UL := Rd.of_own p3
  clear Y1 y2 E1 p3 b2 b3
  go_wp2_with fail
  have bA : Below w3.heap.size w3 (w3.alloc (.cells #[.int .i64 UK, .slice a3 UL.length c3] 24)) := (Below.refl _ _).alloc (Nat.le_refl _) _
  have BA := B3.trans (bA.mono B3.size)
  have s0 : (w3.alloc (.cells #[.int .i64 UK, .slice a3 UL.length c3] 24)).cell? ⟨w3.heap.size, 0, none⟩ = some (.int .i64 UK) := by simp
  have s1 : (w3.alloc (.cells #[.int .i64 UK, .slice a3 UL.length c3] 24)).cell? ⟨w3.heap.size, 1, none⟩ = some (.slice a3 UL.length c3) := by simp
  have hsA : w3.heap.size < (w3.alloc (.cells #[.int .i64 UK, .slice a3 UL.length c3] 24)).heap.size := by simp
  have Y1a := Y1'.below bA
  have Y2a := Y2.below bA
  have E1a := Er.Is.below bA E1'
  have E3a := Er.Is.below bA e3
  have P3a := P3.below bA
  clear Y1' Y2 E1' e3 P3 bA
  generalize w3.alloc (.cells #[.int .i64 UK, .slice a3 UL.length c3] 24) = w4 at *
  generalize w3.heap.size = g9 at *
  refine (C4.out _ BA).mono ?_
  rintro e w5 ⟨vp, rfl, p5, b5⟩
  have B5 := BA.trans (b5.mono BA.size)
  replace s0 := (b5.cell (p := ⟨g9, 0, none⟩) hsA).trans s0
  replace s1 := (b5.cell (p := ⟨g9, 1, none⟩) hsA).trans s1
  have hs5 := Nat.lt_of_lt_of_le hsA b5.size
  have Y1b := Y1a.below b5
  have Y2b := Y2a.below b5
  have E1b := Er.Is.below b5 E1a
  have E3b := Er.Is.below b5 E3a
  have P3b := P3a.below b5
  obtain ⟨a5, c5, rfl, _⟩ := Rd.of_own p5
  have P5 : Pts w5 (.slice a5 UL.length c5) UL := Rd.of_own p5
  clear Y1a Y2a E1a E3a P3a p5 b5 hsA
  go_wp2_with fail
  have bB : Below w5.heap.size w5 (w5.alloc (.cells #[.int .i64 UK, .slice a5 UL.length c5] 24)) := (Below.refl _ _).alloc (Nat.le_refl _) _
  have B6 := B5.trans (bB.mono B5.size)
  have x0 : (w5.alloc (.cells #[.int .i64 UK, .slice a5 UL.length c5] 24)).cell? ⟨w5.heap.size, 0, none⟩ = some (.int .i64 UK) := by simp
  have x1 : (w5.alloc (.cells #[.int .i64 UK, .slice a5 UL.length c5] 24)).cell? ⟨w5.heap.size, 1, none⟩ = some (.slice a5 UL.length c5) := by simp
  replace s0 := (bB.cell (p := ⟨g9, 0, none⟩) hs5).trans s0
  replace s1 := (bB.cell (p := ⟨g9, 1, none⟩) hs5).trans s1
  have Y1c := Y1b.below bB
  have Y2c := Y2b.below bB
  have E1c := Er.Is.below bB E1b
  have E3c := Er.Is.below bB E3b
  have P3c := P3b.below bB
  have P5c := P5.below bB
  clear Y1b Y2b E1b E3b P3b P5 bB hs5
  generalize w5.alloc (.cells #[.int .i64 UK, .slice a5 UL.length c5] 24) = w6 at *
  generalize w5.heap.size = g12 at *
  refine (Bytes_any _ _ _ _ _ Y1c Y2c).mono ?_
  rintro e w7 ⟨rfl, k, rfl⟩
  rw [decide_eq_true (rfl : OB = OB)]
  have CD := Lib.hid (Code_er OE r1 (w6.drewN k) (Er.Is.below (below_drewN (Below.refl _ _) k) E1c))
  rw [HC.out] at CD
  have SM := Lib.hid (SameR_eq _ _ UK UL (w6.drewN k) (P3c.drewN k) (P5c.drewN k))
  have B7 := below_drewN B6 k
  have z0 : (w6.drewN k).cell? ⟨g9, 0, none⟩ = some (.int .i64 UK) := s0
  have z1 : (w6.drewN k).cell? ⟨g9, 1, none⟩ = some (.slice a3 UL.length c3) := s1
  have z2 : (w6.drewN k).cell? ⟨g12, 0, none⟩ = some (.int .i64 UK) := x0
  have z3 : (w6.drewN k).cell? ⟨g12, 1, none⟩ = some (.slice a5 UL.length c5) := x1
  have E3d : UE.Is (w6.drewN k) r3 := Er.Is.below (below_drewN (Below.refl _ _) k) E3c
  clear s0 s1 x0 x1 Y1c Y2c E1c E3c P3c P5c B6 
  generalize w6.drewN k = w8 at *
  go_wp2_with fail
  refine CD.out.mono ?_
  rintro e w9 ⟨rfl, rfl⟩
  have t3 : (OC == OC) = true := by simp
  go_wp2_with fail
  refine SM.out.mono ?_
  rintro e w10 ⟨rfl, b10⟩
  have B10 := B7.trans (b10.mono B7.size)
  have E10 := Er.Is.below b10 E3d
  have t4 : ((UN : Int) == (UN : Int)) = true := by simp
  clear z0 z1 z2 z3 CD SM
  go_wp2_with fail
  refine (IsA_any UE UC strObj 0 r3 w10 E10 (HG.out.below B10 HG.out.lt)).mono ?_
  rintro e w11 ⟨rfl, b11⟩
  rw [HI.out]
  have B11 := B10.trans (b11.mono B10.size)
  clear E10 E3d
  go_wp2_with fail
  refine (awake_any _).mono ?_
  rintro e w12 ⟨rfl, b12⟩
  go_wp2_with fail
  go_ret
  exact ⟨rfl, B11.trans (b12.mono B11.size)⟩

set_option maxRecDepth 100000 in
theorem encObjects_calls {H : Type} {enc : TypeId × Value → H} {W : World} (hg : ErrT W) {base : Nat} {v0 v1 : Value} {d0 d1 : DataW H} {p0 p1 : List MemPlace}
    (o0 : Value.okWide Tryd.prog W .any base 24 v0) (h0 : DataW.Trod enc Tryd.prog W 0 (fun _ => true) true 24 v0 d0 p0)
    (o1 : Value.okWide Tryd.prog W .any base 25 v1) (h1 : DataW.Trod enc Tryd.prog W 0 (fun _ => true) true 25 v1 d1 p1) :
    Calls Tryd.prog 3 #[v0, v1] W fun e w' => e = .returned (.bool true) ∧ Below W.heap.size W w' := by
  obtain ⟨kind, u, l, rfl, hu, hl, _⟩ := view_obj o0 h0
  obtain ⟨b, hb⟩ := view_bytes o1 h1
  by_cases h : 80 < l.length ∨ 1000 < b.length
  · exact objects_long kind u v1 l b W hu hb h
  · exact objects_short kind u v1 l b W hg hu hl hb (fun q => h (.inl q)) (fun q => h (.inr q))
end

end Go.Proofs.YthcfekabeidmiaaRRDoorR
