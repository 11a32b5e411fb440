/- Slices that are only read ('Rd'), rows that the call itself owns, and append of any source onto such a row. -/
import Derived.Test.YtdeibgljibcnlaaDoorChecked
import Derived.WalkKit
import Derived.ProofKit
import Derived.Lib.Hide
import Derived.Laws.AppendOwnNone
import Derived.Deep.Draws
import Derived.WalkSpells
namespace Go.Proofs.YtdeibgljibcnlaaDoor
open Go.RowKit

/-- In world w the value v is a slice of n elements whose cells, one behind the other, read as xs. -/
def Rd (w : World) (v : Value) (n : Nat) (xs : List Value) : Prop :=
  ∃ ao c, v = .slice ao n c ∧ n ≤ c ∧ c ≤ maxLen ∧ (ao = none → c = 0) ∧
    ∀ i (h : i < xs.length), ∃ b off, ao = some ⟨b, off, none⟩ ∧ b < w.heap.size ∧ w.cell? ⟨b, off + i, none⟩ = some xs[i]

theorem Rd.below {w w' : World} {v : Value} {n : Nat} {xs : List Value} (h : Rd w v n xs) (hb : Below w.heap.size w w') : Rd w' v n xs := by
  obtain ⟨ao, c, hv, h1, h2, h0, h3⟩ := h
  refine ⟨ao, c, hv, h1, h2, h0, fun i hi => ?_⟩
  obtain ⟨b, off, e, hlt, hc⟩ := h3 i hi
  exact ⟨b, off, e, Nat.lt_of_lt_of_le hlt hb.size, (hb.cell (p := ⟨b, off + i, none⟩) hlt).trans hc⟩

theorem Rd.nil (w : World) : Rd w (.slice none 0 0) 0 [] := ⟨none, 0, rfl, Nat.le_refl _, by simp [maxLen], fun _ => rfl, fun i h => by simp at h⟩

theorem Rd.alloc {w : World} {v : Value} {n : Nat} {xs : List Value} (h : Rd w v n xs) (o : Obj) : Rd (w.alloc o) v n xs :=
  h.below ((Below.refl _ _).alloc (Nat.le_refl _) _)

/-- What is owned can be read. -/
theorem Rd.of_own {w : World} {base : Nat} {e : TypeId} {size n : Nat} {v : Value} {xs : List Value} (h : w.ownsRow base e size v n xs) : Rd w v n xs := by
  obtain ⟨h1, ⟨rfl, rfl⟩ | ⟨g, cap, cur, rfl, hb, hg, hn, hm, hs, ht⟩⟩ := h
  · obtain rfl : xs = [] := List.eq_nil_of_length_eq_zero (by simpa using h1)
    exact Rd.nil w
  · refine ⟨some ⟨g, 0, none⟩, cap, rfl, hn, hm, (fun h => by cases h), fun i hi => ⟨g, 0, rfl, (Array.getElem?_eq_some_iff.1 hg).1, ?_⟩⟩
    have hown : w.ownsRow base e size (.slice (some ⟨g, 0, none⟩) n cap) n xs := ⟨h1, .inr ⟨g, cap, cur, rfl, hb, hg, hn, hm, hs, ht⟩⟩
    have := hown.cellAt i (by omega)
    rw [Nat.zero_add, this, List.getElem?_eq_getElem hi]

/-- What is owned stays owned where nothing below the heap's size turns. -/
theorem own_below {w w' : World} {base : Nat} {e : TypeId} {size n : Nat} {v : Value} {xs : List Value} (h : w.ownsRow base e size v n xs) {B : Nat} (hb : Below B w w') (hB : ∀ k, v.ownBlock = some k → k < B) : w'.ownsRow base e size v n xs := by
  refine ⟨h.1, ?_⟩
  rcases h.2 with hn | ⟨g, cap, cur, rfl, hbg, hg, r⟩
  · exact .inl hn
  · exact .inr ⟨g, cap, cur, rfl, hbg, by rw [hb.block g (hB g (by simp [Value.ownBlock]))]; exact hg, r⟩

theorem own_below' {w w' : World} {base : Nat} {e : TypeId} {size n : Nat} {v : Value} {xs : List Value} (h : w.ownsRow base e size v n xs) (hb : Below w.heap.size w w') : w'.ownsRow base e size v n xs :=
  own_below h hb fun k hk => (h.lt k hk).2

theorem own_base {w : World} {base base' : Nat} {e : TypeId} {size n : Nat} {v : Value} {xs : List Value} (h : w.ownsRow base e size v n xs) (hb : base' ≤ base) : w.ownsRow base' e size v n xs := by
  refine ⟨h.1, ?_⟩
  rcases h.2 with hn | ⟨g, cap, cur, hv, hbg, r⟩
  · exact .inl hn
  · exact .inr ⟨g, cap, cur, hv, Nat.le_trans hb hbg, r⟩

theorem below_grown {B : Nat} {w w' : World} {base : Nat} {e : TypeId} {size n : Nat} {v : Value} {xs : List Value} (h : w.ownsRow base e size v n xs) (hg : w.grownBy w' v.ownBlock) (hB : B ≤ base) (hs : B ≤ w.heap.size) : Below B w w' :=
  (Below.refl B w).grown hg hs fun k hk => Nat.le_trans hB (h.lt k hk).1

/-- append(v, x...): v owned, x whatever can be read. -/
theorem wp_append_rd {P : Program} {w : World} {o : Oper} {a : Act} {K : Act → World → Prop} {Q : Exit → Act → World → Prop} (s x : Operand) (t : TypeId)
    (ho : o.op = .call { callee := .builtin .append, args := #[s, x], argTypes := #[t, t] })
    (base : Nat) (e : TypeId) (z : Value) (size bytes : Nat) (ht : P.underlying t = some (.slice e)) (hi : (P.info? e).map (fun i => (i.zero, i.size, i.bytes)) = some (some z, size, bytes))
    (hzs : z.cells.size = size) (hsz : 0 < size)
    (v : Value) (n : Nat) (xs : List Value) (hs : a.eval s = v) (hown : w.ownsRow base e size v n xs)
    (y : Value) (m : Nat) (news : List Value) (hx : a.eval x = y) (hy : Rd w y m news) (hl : news.length = m * size) (h1 : ∀ u ∈ news, u.oneCell' = true)
    (h63 : n + m ≤ maxLen) (hbytes : (n + m) * bytes ≤ 140737488355328) (hbase : base ≤ w.heap.size)
    (h : ∀ v' w', w'.ownsRow base e size v' (n + m) (xs ++ news) → Below base w w' → (v' = .slice none 0 0 ↔ v = .slice none 0 0 ∧ m = 0) → K (a.put o.dst v') w') : o.wp P a w K Q := by
  obtain ⟨i, hi, hz, hsize, hby⟩ := info_parts hi
  obtain ⟨ao, c, rfl, h2, h3, h0, h4⟩ := hy
  cases ao with
  | none =>
    obtain rfl := h0 rfl
    obtain rfl : m = 0 := by omega
    obtain rfl : news = [] := List.eq_nil_of_length_eq_zero (by simpa using hl)
    have hrun := run_append_owned_none (P := P) (w := w) base t o.type e i size ht hi v n xs hown
    unfold Oper.wp
    simp [execOp, ho, resolve, invoke, builtin, hs, hx, hrun, Result.andThen]
    exact h v w (by simpa using hown) (Below.refl _ _) (by simp)
  | some ad =>
    refine wp_append_own w s x t ho base e i z size bytes ht hi hz hsize hby hzs hsz v n xs hs hown ad m c news hx hl ?_ h1 h63 hbytes hbase ?_
    · intro j u hu
      obtain ⟨hj, rfl⟩ := List.getElem?_eq_some_iff.1 hu
      obtain ⟨b, off, e, hlt, hc⟩ := h4 j hj
      obtain rfl := Option.some.inj e
      rw [Addr.add_lit]
      exact hc
    · intro v' w' h5 h6 h7
      exact h v' w' h5 (below_grown hown h6 (Nat.le_refl _) hbase) h7

theorem wpList_append_rd {P : Program} {w : World} {ops : Array Oper} {rest : List Oper} {o : Oper} {a : Act} {Q : Exit → Act → World → Prop} (hgd : o.guard = none) (s x : Operand) (t : TypeId)
    (ho : o.op = .call { callee := .builtin .append, args := #[s, x], argTypes := #[t, t] })
    (base : Nat) (e : TypeId) (z : Value) (size bytes : Nat) (ht : P.underlying t = some (.slice e)) (hi : (P.info? e).map (fun i => (i.zero, i.size, i.bytes)) = some (some z, size, bytes))
    (hzs : z.cells.size = size) (hsz : 0 < size)
    (v : Value) (n : Nat) (xs : List Value) (hs : a.eval s = v) (hown : w.ownsRow base e size v n xs)
    (y : Value) (m : Nat) (news : List Value) (hx : a.eval x = y) (hy : Rd w y m news) (hl : news.length = m * size) (h1 : ∀ u ∈ news, u.oneCell' = true)
    (h63 : n + m ≤ maxLen) (hbytes : (n + m) * bytes ≤ 140737488355328) (hbase : base ≤ w.heap.size)
    (h : ∀ v' w', w'.ownsRow base e size v' (n + m) (xs ++ news) → Below base w w' → (v' = .slice none 0 0 ↔ v = .slice none 0 0 ∧ m = 0) → wpList P ops Q rest (a.put o.dst v') w') : wpList P ops Q (o :: rest) a w :=
  wpList_plain hgd fun _ hK => wp_append_rd s x t ho base e z size bytes ht hi hzs hsz v n xs hs hown y m news hx hy hl h1 h63 hbytes hbase fun v' w' h2 h3 h4 => hK _ _ (h v' w' h2 h3 h4)

/-- the same at a step of a region that draws its order -/
theorem step_append_rd {P : Program} {w : World} {ops : Array Oper} {o : Oper} {a : Act} {K : Act → World → Prop} {Q : Exit → Act → World → Prop} {E : Prop} (hgd : o.guard = none) (s x : Operand) (t : TypeId)
    (ho : o.op = .call { callee := .builtin .append, args := #[s, x], argTypes := #[t, t] })
    (base : Nat) (e : TypeId) (z : Value) (size bytes : Nat) (ht : P.underlying t = some (.slice e)) (hi : (P.info? e).map (fun i => (i.zero, i.size, i.bytes)) = some (some z, size, bytes))
    (hzs : z.cells.size = size) (hsz : 0 < size)
    (v : Value) (n : Nat) (xs : List Value) (hs : a.eval s = v) (hown : w.ownsRow base e size v n xs)
    (y : Value) (m : Nat) (news : List Value) (hx : a.eval x = y) (hy : Rd w y m news) (hl : news.length = m * size) (h1 : ∀ u ∈ news, u.oneCell' = true)
    (h63 : n + m ≤ maxLen) (hbytes : (n + m) * bytes ≤ 140737488355328) (hbase : base ≤ w.heap.size)
    (h : ∀ v' w', w'.ownsRow base e size v' (n + m) (xs ++ news) → Below base w w' → (v' = .slice none 0 0 ↔ v = .slice none 0 0 ∧ m = 0) → K (a.put o.dst v') w') :
    if Region.wanted o (yielded ops a.tmps) = true then Oper.wp P o a w K Q else E := by
  have hw : Region.wanted o (yielded ops a.tmps) = true := by simp [Region.wanted, hgd]
  rw [if_pos hw]
  exact wp_append_rd s x t ho base e z size bytes ht hi hzs hsz v n xs hs hown y m news hx hy hl h1 h63 hbytes hbase h

/-- A new block of one row of cells can be read whole. -/
theorem rd_alloc (w : World) (cs : Array Value) (e : TypeId) (m : Nat × Nat) (n : Nat) (hn : n ≤ maxLen) : Rd (w.alloc (.cells cs e m)) (.slice (some ⟨w.heap.size, 0, none⟩) n n) n cs.toList := by
  refine ⟨_, _, rfl, Nat.le_refl _, hn, (fun h => by cases h), fun i hi => ⟨_, _, rfl, by simp, ?_⟩⟩
  have e : (w.alloc (.cells cs e m)).heap[w.heap.size]? = some (.cells cs e m) := by
    show (w.heap.push _)[w.heap.size]? = _
    simp
  rw [Nat.zero_add, cell_of_row _ _ _ _ _ _ e]
  simp at hi
  simp [hi]

theorem Rd.take {w : World} {ao : Option Addr} {n c : Nat} {xs : List Value} (h : Rd w (.slice ao n c) n xs) {m k : Nat} (hm : m ≤ n) : Rd w (.slice ao m c) m (xs.take k) := by
  obtain ⟨ao', c', hv, h1, h2, h0, h3⟩ := h
  simp only [Value.slice.injEq, true_and] at hv
  obtain ⟨rfl, rfl⟩ := hv
  refine ⟨_, _, rfl, by omega, h2, h0, fun i hi => ?_⟩
  simp only [List.length_take] at hi
  obtain ⟨b, off, e, hb, hc⟩ := h3 i (by omega)
  exact ⟨b, off, e, hb, by rw [List.getElem_take]; exact hc⟩

theorem Rd.drop {w : World} {b off n c : Nat} {xs : List Value} (h : Rd w (.slice (some ⟨b, off, none⟩) n c) n xs) {m k : Nat} (hm : m ≤ n) : Rd w (.slice (some ⟨b, off + k, none⟩) (n - m) (c - m)) (n - m) (xs.drop k) := by
  obtain ⟨ao', c', hv, h1, h2, h0, h3⟩ := h
  simp only [Value.slice.injEq, true_and] at hv
  obtain ⟨rfl, rfl⟩ := hv
  refine ⟨_, _, rfl, by omega, by omega, (fun h => by cases h), fun i hi => ?_⟩
  simp only [List.length_drop] at hi
  obtain ⟨b', off', e, hb, hc⟩ := h3 (k + i) (by omega)
  cases e
  exact ⟨b, off + k, rfl, hb, by rw [List.getElem_drop, Nat.add_assoc]; exact hc⟩

theorem Rd.drew {w : World} {v : Value} {n : Nat} {xs : List Value} (h : Rd w v n xs) : Rd w.drew v n xs := h

/-- x[lo:hi] with numbers that are known to fit. -/
theorem wpList_slice_lh {P : Program} {w : World} {ops : Array Oper} {rest : List Oper} {o : Oper} {a : Act} {Q : Exit → Act → World → Prop} (hgd : o.guard = none) (x lo hi : Operand) (t e : TypeId)
    (ho : o.op = .slice t x (some lo) (some hi) none) (ht : P.underlying t = some (.slice e)) (size : Nat) (hsz : (sizeOf e).run P w = .ok size w)
    (b off n c : Nat) (hx : a.eval x = .slice (some ⟨b, off, none⟩) n c) (kl kh : IntKind) (l h : Int) (hl : a.eval lo = .int kl l) (hh : a.eval hi = .int kh h) (L H : Nat) (eL : l = (L : Int)) (eH : h = (H : Int))
    (h1 : L ≤ H) (h2 : H ≤ c) (h3 : L < c) (next : wpList P ops Q rest (a.put o.dst (.slice (some ⟨b, off + L * size, none⟩) (H - L) (c - L))) w) : wpList P ops Q (o :: rest) a w := by
  refine wpList_plain hgd fun K hK => ?_
  subst eL eH
  have he : P.elem t = e := by simp [Program.elem, ht]
  have ht' : P.underlying t = some (.slice (P.elem t)) := by rw [he]; exact ht
  have hrun := run_slice_lh (P := P) w t (some ⟨b, off, none⟩) n c ht' kl kh (L : Int) (H : Int) (by omega) (by omega) (by omega)
  have hat := run_sliceAt_slice (P := P) w t (.slice (some ⟨b, off, none⟩) n c) (some (.int kl (L : Int))) (some (.int kh (H : Int))) none ht'
  rw [hrun, he, hsz] at hat
  have hv : sliced (some ⟨b, off, none⟩) (L : Int).toNat (H : Int).toNat c size = .slice (some ⟨b, off + L * size, none⟩) (H - L) (c - L) := by
    simp only [sliced, Int.toNat_natCast]
    rw [if_neg (by omega)]
    simp [Addr.add_lit]
  simp only [Result.andThen, hv] at hat
  unfold Oper.wp
  simp [execOp, ho, hx, hl, hh, hat, Result.andThen]
  exact hK _ _ next

/-- The cells of bytes. -/
def bytesV (l : List UInt8) : List Value := l.map fun c => Value.int .u8 (c.toNat : Int)
theorem bytesV_length (l : List UInt8) : (bytesV l).length = l.length := by simp [bytesV]
theorem bytesV_append (l m : List UInt8) : bytesV (l ++ m) = bytesV l ++ bytesV m := by simp [bytesV]
theorem bytesV_one (l : List UInt8) : ∀ u ∈ bytesV l, u.oneCell' = true := by
  intro u hu
  obtain ⟨c, _, rfl⟩ := List.mem_map.1 hu
  rfl
end Go.Proofs.YtdeibgljibcnlaaDoor
