/- From the reading of a Node to a node. -/
import Derived.Test.YthijffpackkcnaaViewBase
import Derived.Test.YthijffpackkcnaaNd
import Derived.Lib.SmallJoins
namespace Go.Proofs.Ythijffpackkcnaa
open Go.ChangeShapes Go.WideShapes Go.ChangeAt Go.RowKit

theorem nd_cells : Try.prog.cellsOf 24 = 4 := by kernel_rfl
theorem nd_c0 : Try.prog.cellsOf 3 = 1 := by kernel_rfl
theorem nd_c2 : Try.prog.cellsOf 9 = 1 := by kernel_rfl
theorem nd_c3 : Try.prog.cellsOf 22 = 1 := by kernel_rfl

theorem ndsIs_mk (w : World) (ao : Option Addr) : ∀ (n i : Nat), (∀ k, k < n → ∃ b off c0 c1 c2 c3, ∃ d : Nd, ao = some ⟨b, off, none⟩ ∧ b < w.heap.size ∧ w.cell? ⟨b, off + (i + k) * 4, none⟩ = some c0 ∧ w.cell? ⟨b, off + (i + k) * 4 + 1, none⟩ = some c1 ∧ w.cell? ⟨b, off + (i + k) * 4 + 2, none⟩ = some c2 ∧ w.cell? ⟨b, off + (i + k) * 4 + 3, none⟩ = some c3 ∧ d.Is w c0 c1 c2 c3) →
    ∃ l : List Nd, l.length = n ∧ NdsIs w ao i l
  | 0, i, _ => ⟨[], rfl, trivial⟩
  | n + 1, i, h => by
    obtain ⟨l, hl, hn⟩ := ndsIs_mk w ao n (i + 1) (fun k hk => by
      have := h (k + 1) (by omega)
      rw [show i + (k + 1) = i + 1 + k from by omega] at this
      exact this)
    obtain ⟨b, off, c0, c1, c2, c3, d, h0⟩ := h 0 (by omega)
    exact ⟨d :: l, by simp [hl], ⟨b, off, c0, c1, c2, c3, h0⟩, hn⟩

section
variable {H : Type} {enc : TypeId × Value → H} {W : World} {base : Nat} {v : Value} {d : DataW H} {p : List MemPlace}

set_option maxRecDepth 100000 in
theorem cells_node : ∀ (N fuel : Nat), fuel ≤ N → ∀ (cs : List Value) (x : DataW H × List MemPlace), DataW.trod enc Try.prog W 0 (fun _ => true) true fuel 24 cs = some x →
    ∃ (d : Nd) (c0 c1 c2 c3 : Value), cs = [c0, c1, c2, c3] ∧ d.Is W c0 c1 c2 c3 := by
  intro N
  induction N with
  | zero =>
    intro fuel hf cs x h
    obtain rfl : fuel = 0 := by omega
    simp [DataW.trod] at h
  | succ N ih =>
    intro fuel hf cs x h
    obtain ⟨xs, n, rfl, hx, hl, hlen, hfs⟩ := DataW.trod_struct Try.underlying24 h
    rw [nd_cells] at hl
    match cs, hl with
    | [c0, c1, c2, c3], _ =>
      have hl4 : xs.length = 4 := hlen
      have h0 : DataW.trod enc Try.prog W 0 (fun _ => true) true n 3 (([c0, c1, c2, c3].drop 0).take (Try.prog.cellsOf 3)) = xs[0]? := hfs 0 _ rfl
      have h1 : DataW.trod enc Try.prog W 0 (fun _ => true) true n 3 (([c0, c1, c2, c3].drop 1).take (Try.prog.cellsOf 3)) = xs[1]? := hfs 1 _ rfl
      have h2 : DataW.trod enc Try.prog W 0 (fun _ => true) true n 9 (([c0, c1, c2, c3].drop 2).take (Try.prog.cellsOf 9)) = xs[2]? := hfs 2 _ rfl
      have h3 : DataW.trod enc Try.prog W 0 (fun _ => true) true n 22 (([c0, c1, c2, c3].drop 3).take (Try.prog.cellsOf 22)) = xs[3]? := hfs 3 _ rfl
      rw [nd_c0] at h0 h1
      rw [nd_c2] at h2
      rw [nd_c3] at h3
      rw [List.getElem?_eq_getElem (by omega)] at h0 h1 h2 h3
      simp only [List.drop_zero, List.take_succ_cons, List.take_zero, List.drop_succ_cons] at h0 h1 h2 h3
      obtain ⟨k, e0, _, _⟩ := DataW.trod_int Try.underlying3 h0
      obtain ⟨m, e1, _, _⟩ := DataW.trod_int Try.underlying3 h1
      obtain ⟨s, e2, _, hs⟩ := DataW.trod_string Try.underlying9 h2
      simp only [List.cons.injEq, and_true] at e0 e1 e2
      subst e0 e1 e2
      rcases DataW.trod_slice Try.underlying22 h3 with ⟨hcs, _⟩ | ⟨a, len, cap, elems, rest, n', hn', hcs, _, _, hlc, hm, hel, helem, _, _⟩
      · simp only [List.cons.injEq, and_true] at hcs
        subst hcs
        exact ⟨.mk k m s [], _, _, _, _, rfl, rfl, rfl, rfl, hs, none, 0, rfl, Nat.le_refl _, by simp [maxLen], trivial⟩
      · simp only [List.cons.injEq, and_true] at hcs
        subst hcs
        obtain ⟨l, hl, hnd⟩ := ndsIs_mk W (some a) len 0 (fun j hj => by
          have hq := helem j hj
          rw [List.getElem?_eq_getElem (by omega), nd_cells] at hq
          obtain ⟨cs', g1, g2⟩ := Option.bind_eq_some_iff.1 hq
          obtain ⟨d, c0, c1, c2, c3, rfl, hd⟩ := ih n' (by omega) cs' _ g2
          obtain ⟨_, g3, g4⟩ := World.cells?_some g1
          obtain ⟨b, off, spot⟩ := a
          have hq0 := helem 0 (by omega)
          rw [List.getElem?_eq_getElem (by omega), nd_cells] at hq0
          obtain ⟨cs0, r1, r2⟩ := Option.bind_eq_some_iff.1 hq0
          obtain ⟨_, r3, r4⟩ := World.cells?_some r1
          have hsp : W.cell? (((⟨b, off, spot⟩ : Addr).add (0 * 4)).add 0) = some (cs0[0]'(by omega)) := by rw [r4 0 (by omega), List.getElem?_eq_getElem (by omega)]
          have hspot : spot = none := by simpa [Addr.add] using World.cell?_spot hsp
          subst hspot
          have k0 := g4 0 (by omega)
          have k1 := g4 1 (by omega)
          have k2 := g4 2 (by omega)
          have k3 := g4 3 (by omega)
          rw [Addr.add_lit, Addr.add_lit] at k0 k1 k2 k3
          refine ⟨b, off, c0, c1, c2, c3, d, rfl, World.block_lt_of_cell? W _ k0, ?_, ?_, ?_, ?_, hd⟩
          · rw [Nat.zero_add]; exact k0
          · rw [Nat.zero_add]; exact k1
          · rw [Nat.zero_add]; exact k2
          · rw [Nat.zero_add]; exact k3)
        subst hl
        exact ⟨.mk k m s l, _, _, _, _, rfl, rfl, rfl, rfl, hs, some a, cap, rfl, hlc, hm, hnd⟩

set_option maxRecDepth 100000 in
theorem view_node (o : Value.okWide Try.prog W .any base 24 v) (h : DataW.Trod enc Try.prog W 0 (fun _ => true) true 24 v d p) :
    ∃ (x : Nd) (c0 c1 c2 c3 : Value), v = .agg #[c0, c1, c2, c3] ∧ x.Is W c0 c1 c2 c3 := by
  obtain ⟨cs, rfl, hsz⟩ := okWide_struct Try.underlying24 o
  obtain ⟨fuel, hf⟩ := h
  obtain ⟨x, c0, c1, c2, c3, hcs, hx⟩ := cells_node fuel fuel (Nat.le_refl _) _ _ hf
  refine ⟨x, c0, c1, c2, c3, ?_, hx⟩
  obtain ⟨l⟩ := cs
  simp [Value.cells] at hcs
  rw [hcs]
end
end Go.Proofs.Ythijffpackkcnaa
