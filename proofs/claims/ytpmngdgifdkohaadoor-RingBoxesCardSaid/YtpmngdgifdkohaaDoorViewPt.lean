/- From the readings of points and boxes to their numbers. -/
import Derived.Test.YtpmngdgifdkohaaDoorViewBase
import Derived.Lib.SmallJoins
namespace Go.Proofs.YtpmngdgifdkohaaDoor
open Go.ChangeShapes Go.WideShapes Go.ChangeAt Go.RowKit

theorem pt_size : Tryd.prog.cellsOf 24 = 2 := by kernel_rfl
theorem box_size : Tryd.prog.cellsOf 39 = 4 := by kernel_rfl
theorem int_size : Tryd.prog.cellsOf 3 = 1 := by kernel_rfl

section
variable {H : Type} {enc : TypeId × Value → H} {W : World} {base : Nat} {v : Value} {d : DataW H} {p : List MemPlace}

set_option maxRecDepth 100000 in
theorem cells_pt {fuel : Nat} {cs : List Value} {x : DataW H × List MemPlace} (h : DataW.trod enc Tryd.prog W 0 (fun _ => true) true fuel 24 cs = some x) :
    ∃ a b : Int, cs = [.int .i64 a, .int .i64 b] ∧ (Lit.int .i64 a).wf = true ∧ (Lit.int .i64 b).wf = true := by
  obtain ⟨xs, n, rfl, hx, hl, hlen, hfs⟩ := DataW.trod_struct Tryd.underlying24 h
  rw [pt_size] at hl
  match cs, hl with
  | [c0, c1], _ =>
    have hl2 : xs.length = 2 := hlen
    have h0 : DataW.trod enc Tryd.prog W 0 (fun _ => true) true n 3 (([c0, c1].drop 0).take (Tryd.prog.cellsOf 3)) = xs[0]? := hfs 0 _ rfl
    have h1 : DataW.trod enc Tryd.prog W 0 (fun _ => true) true n 3 (([c0, c1].drop 1).take (Tryd.prog.cellsOf 3)) = xs[1]? := hfs 1 _ rfl
    rw [int_size] at h0 h1
    rw [List.getElem?_eq_getElem (by omega)] at h0 h1
    simp only [List.drop_zero, List.take_succ_cons, List.take_zero, List.drop_succ_cons] at h0 h1
    obtain ⟨k, e0, _, w0⟩ := DataW.trod_int Tryd.underlying3 h0
    obtain ⟨m, e1, _, w1⟩ := DataW.trod_int Tryd.underlying3 h1
    simp only [List.cons.injEq, and_true] at e0 e1
    subst e0 e1
    exact ⟨k, m, rfl, w0, w1⟩

set_option maxRecDepth 100000 in
theorem cells_box {fuel : Nat} {cs : List Value} {x : DataW H × List MemPlace} (h : DataW.trod enc Tryd.prog W 0 (fun _ => true) true fuel 39 cs = some x) :
    ∃ a b c d : Int, cs = [.int .i64 a, .int .i64 b, .int .i64 c, .int .i64 d] := by
  obtain ⟨xs, n, rfl, hx, hl, hlen, hfs⟩ := DataW.trod_struct Tryd.underlying39 h
  rw [box_size] at hl
  match cs, hl with
  | [c0, c1, c2, c3], _ =>
    have hl2 : xs.length = 2 := hlen
    have h0 : DataW.trod enc Tryd.prog W 0 (fun _ => true) true n 24 (([c0, c1, c2, c3].drop 0).take (Tryd.prog.cellsOf 24)) = xs[0]? := hfs 0 _ rfl
    have h1 : DataW.trod enc Tryd.prog W 0 (fun _ => true) true n 24 (([c0, c1, c2, c3].drop 2).take (Tryd.prog.cellsOf 24)) = xs[1]? := hfs 1 _ rfl
    rw [pt_size] at h0 h1
    rw [List.getElem?_eq_getElem (by omega)] at h0 h1
    simp only [List.drop_zero, List.take_succ_cons, List.take_zero, List.drop_succ_cons] at h0 h1
    obtain ⟨a, b, e0, _⟩ := cells_pt h0
    obtain ⟨a', b', e1, _⟩ := cells_pt h1
    simp only [List.cons.injEq, and_true] at e0 e1
    obtain ⟨rfl, rfl⟩ := e0
    obtain ⟨rfl, rfl⟩ := e1
    exact ⟨_, _, _, _, rfl⟩

set_option maxRecDepth 100000 in
theorem view_pt (o : Value.okWide Tryd.prog W .any base 24 v) (h : DataW.Trod enc Tryd.prog W 0 (fun _ => true) true 24 v d p) :
    ∃ a b : Int, v = .agg #[.int .i64 a, .int .i64 b] ∧ (Lit.int .i64 a).wf = true ∧ (Lit.int .i64 b).wf = true := by
  obtain ⟨cs, rfl, hsz⟩ := okWide_struct Tryd.underlying24 o
  obtain ⟨fuel, hf⟩ := h
  obtain ⟨a, b, hcs, w0, w1⟩ := cells_pt hf
  refine ⟨a, b, ?_, w0, w1⟩
  obtain ⟨l⟩ := cs
  simp [Value.cells] at hcs
  rw [hcs]
set_option maxRecDepth 100000 in
theorem view_box (o : Value.okWide Tryd.prog W .any base 39 v) (h : DataW.Trod enc Tryd.prog W 0 (fun _ => true) true 39 v d p) :
    ∃ a b c d : Int, v = .agg #[.int .i64 a, .int .i64 b, .int .i64 c, .int .i64 d] := by
  obtain ⟨cs, rfl, hsz⟩ := okWide_struct Tryd.underlying39 o
  obtain ⟨fuel, hf⟩ := h
  obtain ⟨a, b, c, d, hcs⟩ := cells_box hf
  refine ⟨a, b, c, d, ?_⟩
  obtain ⟨l⟩ := cs
  simp [Value.cells] at hcs
  rw [hcs]
end
end Go.Proofs.YtpmngdgifdkohaaDoor
