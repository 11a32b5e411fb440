/- Rows of rows of bytes: read, owned, grown by one. -/
import Derived.Test.YtbllooaalodhaaaDoorAlike
import Derived.Maps.AppendAt
namespace Go.Proofs.YtbllooaalodhaaaDoor
open Go.RowKit

/-- Behind writes to another row a slice reads as it did. -/
theorem Rd.grown {w w' : World} {row : Option Nat} {v : Value} {n : Nat} {xs : List Value} (h : Rd w v n xs) (hg : w.grownBy w' row) (hne : ∀ g, v.ownBlock = some g → row ≠ some g) : Rd w' v n xs := by
  obtain ⟨ao, c, rfl, h1, h2, h0, h3⟩ := h
  refine ⟨ao, c, rfl, h1, h2, h0, fun i hi => ?_⟩
  obtain ⟨b, off, e, hb, hc⟩ := h3 i hi
  refine ⟨b, off, e, Nat.lt_of_lt_of_le hb hg.size, ?_⟩
  have hk := hg.block b hb (fun h => hne b (by rw [e]; rfl) h.symm)
  exact (World.cell?_of_block (w := w) hk).trans hc

/-- v is a [][]byte that reads as ls. -/
def Rws (w : World) (v : Value) (ls : List (List UInt8)) : Prop :=
  ∃ vs : List Value, vs.length = ls.length ∧ Rd w v ls.length vs ∧ ∀ i (h : i < vs.length) (h' : i < ls.length), Byt w vs[i] ls[i]

theorem Rws.below {w w' : World} {v : Value} {ls : List (List UInt8)} (h : Rws w v ls) (hb : Below w.heap.size w w') : Rws w' v ls := by
  obtain ⟨vs, h1, h2, h3⟩ := h
  exact ⟨vs, h1, h2.below hb, fun i h h' => (h3 i h h').below hb⟩

/-- v is a [][]byte of the call's own; its rows lie elsewhere. -/
def OwnRws (w : World) (base : Nat) (v : Value) (ls : List (List UInt8)) : Prop :=
  ∃ vs : List Value, vs.length = ls.length ∧ w.ownsRow base 22 1 v ls.length vs ∧
    ∀ i (h : i < vs.length) (h' : i < ls.length), Byt w vs[i] ls[i] ∧ ∀ g, vs[i].ownBlock = some g → g < w.heap.size ∧ v.ownBlock ≠ some g

theorem OwnRws.nil (w : World) (base : Nat) : OwnRws w base (.slice none 0 0) [] := ⟨[], rfl, World.ownsRow_nil _ _ _ _, fun i h => by simp at h⟩
theorem OwnRws.rws {w : World} {base : Nat} {v : Value} {ls : List (List UInt8)} (h : OwnRws w base v ls) : Rws w v ls := by
  obtain ⟨vs, h1, h2, h3⟩ := h
  exact ⟨vs, h1, Rd.of_own h2, fun i h h' => (h3 i h h').1⟩
theorem OwnRws.below {w w' : World} {base : Nat} {v : Value} {ls : List (List UInt8)} (h : OwnRws w base v ls) (hb : Below w.heap.size w w') : OwnRws w' base v ls := by
  obtain ⟨vs, h1, h2, h3⟩ := h
  exact ⟨vs, h1, own_below' h2 hb, fun i h h' => ⟨(h3 i h h').1.below hb, fun g hg => ⟨Nat.lt_of_lt_of_le ((h3 i h h').2 g hg).1 hb.size, ((h3 i h h').2 g hg).2⟩⟩⟩
theorem OwnRws.base {w : World} {base base' : Nat} {v : Value} {ls : List (List UInt8)} (h : OwnRws w base v ls) (hb : base' ≤ base) : OwnRws w base' v ls := by
  obtain ⟨vs, h1, h2, h3⟩ := h
  exact ⟨vs, h1, own_base h2 hb, h3⟩

theorem info_bytes : (Tryd.prog.info? 22).map (fun i => (i.zero, i.size, i.bytes)) = some (some (.slice none 0 0), 1, 24) := by kernel_rfl

/-- append(v, p): one row more. -/
theorem wpList_append_row {w : World} {ops : Array Oper} {rest : List Oper} {o : Oper} {a : Act} {Q : Exit → Act → World → Prop} (hgd : o.guard = none) (s x : Operand)
    (ho : o.op = .call { callee := .builtin .append, args := #[s, x], argTypes := #[33, 33] })
    (base : Nat) (v p : Value) (ls : List (List UInt8)) (lp : List UInt8) (hs : a.eval s = v) (hown : OwnRws w base v ls) (hx : a.eval x = .slice (some ⟨w.heap.size, 0, none⟩) 1 1)
    (hp : Byt w p lp) (hfar : ∀ g, p.ownBlock = some g → g < w.heap.size ∧ v.ownBlock ≠ some g)
    (h63 : ls.length ≤ 1000000) (hbase : base ≤ w.heap.size)
    (h : ∀ v' w', OwnRws w' base v' (ls ++ [lp]) → Below base w w' → wpList Tryd.prog ops Q rest (a.put o.dst v') w') : wpList Tryd.prog ops Q (o :: rest) a (w.alloc (.cells #[p] 22)) := by
  obtain ⟨vs, h1, h2, h3⟩ := hown
  obtain ⟨i, hi, hz, hsz, hby⟩ := info_parts info_bytes
  have hnews : ∀ (j : Nat) (u : Value), [p][j]? = some u → (w.alloc (.cells #[p] 22)).cell? ((⟨w.heap.size, 0, none⟩ : Addr).add j) = some u := by
    intro j u hu
    rw [Addr.add_lit]
    match j, hu with
    | 0, hu => simp at hu; subst hu; simp
  have hp1 : p.oneCell' = true := by
    obtain ⟨ao, c, rfl, _⟩ := hp; rfl
  obtain ⟨v', w', hr, r1, r2, _, r4⟩ := run_append_own_at (P := Tryd.prog) (w.alloc (.cells #[p] 22)) base 33 o.type 22 i _ 1 24 Tryd.underlying33 hi hz hsz hby rfl (by decide) v ls.length vs (h2.alloc _)
    ⟨w.heap.size, 0, none⟩ 1 1 [p] (by simp) hnews (by simpa using hp1) (by unfold maxLen; omega) (by omega) (by simp; omega)
  refine wpList_plain hgd fun K hK => ?_
  unfold Oper.wp
  simp [execOp, ho, resolve, invoke, builtin, hs, hx, hr, Result.andThen]
  refine hK _ _ (h v' w' ?_ ?_)
  · refine ⟨vs ++ [p], by simp [h1], by simpa using r1, fun j hj hj' => ?_⟩
    have hsize : (w.alloc (.cells #[p] 22)).heap.size = w.heap.size + 1 := by simp
    have key : ∀ (u : Value) (l : List UInt8), Byt w u l → (∀ g, u.ownBlock = some g → g < w.heap.size ∧ v.ownBlock ≠ some g) → Byt w' u l ∧ ∀ g, u.ownBlock = some g → g < w'.heap.size ∧ v'.ownBlock ≠ some g := by
      intro u l hu hf
      refine ⟨Rd.grown (Rd.alloc hu _) r2 (fun g hg => (hf g hg).2), fun g hg => ⟨?_, ?_⟩⟩
      · have := r2.size; have := (hf g hg).1; omega
      · rcases r4 with r4 | r4
        · rw [r4]; exact (hf g hg).2
        · rw [r4, hsize]; have := (hf g hg).1; intro e; simp at e; omega
    by_cases hjl : j < vs.length
    · have := key vs[j] (ls[j]'(by omega)) (h3 j hjl (by omega)).1 (h3 j hjl (by omega)).2
      rw [List.getElem_append_left hjl, List.getElem_append_left (by omega)]
      exact this
    · have ej : j = vs.length := by simp at hj; omega
      subst ej
      have := key p lp hp hfar
      simpa [h1] using this
  · exact ((Below.refl _ _).alloc hbase _).grown r2 (by simp; omega) (fun k hk => (h2.lt k hk).1)
end Go.Proofs.YtbllooaalodhaaaDoor
