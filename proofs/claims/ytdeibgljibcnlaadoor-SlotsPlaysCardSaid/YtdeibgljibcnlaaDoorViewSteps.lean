/- From the reading of a []Step to steps. -/
import Derived.Test.YtdeibgljibcnlaaDoorViewBase
import Derived.Test.YtdeibgljibcnlaaDoorMem
import Derived.Lib.SmallJoins
namespace Go.Proofs.YtdeibgljibcnlaaDoor
open Go.ChangeShapes Go.WideShapes Go.ChangeAt Go.RowKit

theorem step_size : Tryd.prog.cellsOf 42 = 3 := by kernel_rfl
theorem int_size : Tryd.prog.cellsOf 3 = 1 := by kernel_rfl
/-- kind, slot, size -/
structure StepL where
  kind : Int
  slot : Int
  size : Int
/-- In world w the value v is a []Step that reads as l. -/
def Steps (w : World) (v : Value) (l : List StepL) : Prop :=
  ∃ ao c, v = .slice ao l.length c ∧ l.length ≤ c ∧ c ≤ maxLen ∧ ∀ i (h : i < l.length), ∃ b off, ao = some ⟨b, off, none⟩ ∧ b < w.heap.size ∧
    w.cell? ⟨b, off + i * 3, none⟩ = some (.int .i64 l[i].kind) ∧ w.cell? ⟨b, off + i * 3 + 1, none⟩ = some (.int .i64 l[i].slot) ∧ w.cell? ⟨b, off + i * 3 + 2, none⟩ = some (.int .i64 l[i].size)

section
variable {H : Type} {enc : TypeId × Value → H} {W : World} {base : Nat} {v : Value} {d : DataW H} {p : List MemPlace}

set_option maxRecDepth 100000 in
theorem cells_step {fuel : Nat} {cs : List Value} {x : DataW H × List MemPlace} (h : DataW.trod enc Tryd.prog W 0 (fun _ => true) true fuel 42 cs = some x) :
    ∃ a b c : Int, cs = [.int .i64 a, .int .i64 b, .int .i64 c] := by
  obtain ⟨xs, n, rfl, hx, hl, hlen, hfs⟩ := DataW.trod_struct Tryd.underlying42 h
  rw [step_size] at hl
  match cs, hl with
  | [c0, c1, c2], _ =>
    have hl2 : xs.length = 3 := hlen
    have h0 : DataW.trod enc Tryd.prog W 0 (fun _ => true) true n 3 (([c0, c1, c2].drop 0).take (Tryd.prog.cellsOf 3)) = xs[0]? := hfs 0 _ rfl
    have h1 : DataW.trod enc Tryd.prog W 0 (fun _ => true) true n 3 (([c0, c1, c2].drop 1).take (Tryd.prog.cellsOf 3)) = xs[1]? := hfs 1 _ rfl
    have h2 : DataW.trod enc Tryd.prog W 0 (fun _ => true) true n 3 (([c0, c1, c2].drop 2).take (Tryd.prog.cellsOf 3)) = xs[2]? := hfs 2 _ rfl
    rw [int_size] at h0 h1 h2
    rw [List.getElem?_eq_getElem (by omega)] at h0 h1 h2
    simp only [List.drop_zero, List.take_succ_cons, List.take_zero, List.drop_succ_cons] at h0 h1 h2
    obtain ⟨k, e0, _, _⟩ := DataW.trod_int Tryd.underlying3 h0
    obtain ⟨m, e1, _, _⟩ := DataW.trod_int Tryd.underlying3 h1
    obtain ⟨q, e2, _, _⟩ := DataW.trod_int Tryd.underlying3 h2
    simp only [List.cons.injEq, and_true] at e0 e1 e2
    subst e0 e1 e2
    exact ⟨k, m, q, rfl⟩

set_option maxRecDepth 100000 in
theorem cell_steps {fuel : Nat} {cs : List Value} {x : DataW H × List MemPlace} (hf : DataW.trod enc Tryd.prog W 0 (fun _ => true) true fuel 37 cs = some x) : ∃ u l, cs = [u] ∧ Steps W u l := by
  rcases DataW.trod_slice Tryd.underlying37 hf with ⟨hcs, _⟩ | ⟨x, len, cap, elems, rest, n, _, hcs, _, _, hl, hm, hlen, hel, _, _⟩
  · exact ⟨_, [], hcs, none, 0, rfl, Nat.le_refl _, by simp [maxLen], fun i h => by simp at h⟩
  · have each : ∀ i, i < len → ∃ q : StepL, W.cell? ((x.add (i * 3)).add 0) = some (.int .i64 q.kind) ∧ W.cell? ((x.add (i * 3)).add 1) = some (.int .i64 q.slot) ∧ W.cell? ((x.add (i * 3)).add 2) = some (.int .i64 q.size) := by
      intro i hi
      have hi' : i < elems.length := by omega
      have h1 := hel i hi
      rw [List.getElem?_eq_getElem hi', step_size] at h1
      obtain ⟨cs, h2, h3⟩ := Option.bind_eq_some_iff.1 h1
      obtain ⟨a, b, c, rfl⟩ := cells_step h3
      obtain ⟨_, g3, g4⟩ := World.cells?_some h2
      exact ⟨⟨a, b, c⟩, g4 0 (by omega), g4 1 (by omega), g4 2 (by omega)⟩
    let qs : List StepL := List.ofFn (n := len) fun i => (each i.1 i.2).choose
    have hq : qs.length = len := by simp [qs]
    have hqi : ∀ i (h : i < qs.length), W.cell? ((x.add (i * 3)).add 0) = some (.int .i64 qs[i].kind) ∧ W.cell? ((x.add (i * 3)).add 1) = some (.int .i64 qs[i].slot) ∧ W.cell? ((x.add (i * 3)).add 2) = some (.int .i64 qs[i].size) := by
      intro i h
      have hh := (each i (by omega)).choose_spec
      simpa [qs] using hh
    clear_value qs
    refine ⟨_, qs, hcs, _, _, by rw [hq], by omega, hm, fun i hi => ?_⟩
    obtain ⟨c0, c1, c2⟩ := hqi i hi
    obtain ⟨b, off, spot⟩ := x
    have hspot : spot = none := by simpa [Addr.add] using World.cell?_spot (hqi 0 (by omega)).1
    subst hspot
    rw [Addr.add_lit, Addr.add_lit] at c0 c1 c2
    exact ⟨b, off, rfl, World.block_lt_of_cell? W _ c0, c0, c1, c2⟩

set_option maxRecDepth 100000 in
theorem view_steps (o : Value.okWide Tryd.prog W .any base 37 v) (h : DataW.Trod enc Tryd.prog W 0 (fun _ => true) true 37 v d p) : ∃ l, Steps W v l := by
  obtain ⟨a0, len, cap, rfl⟩ := okWide_slice Tryd.underlying37 o
  obtain ⟨fuel, hf⟩ := h
  obtain ⟨u, l, hcs, h1⟩ := cell_steps hf
  simp only [Value.cells, List.cons.injEq, and_true] at hcs
  subst hcs
  exact ⟨l, h1⟩
end
end Go.Proofs.YtdeibgljibcnlaaDoor
