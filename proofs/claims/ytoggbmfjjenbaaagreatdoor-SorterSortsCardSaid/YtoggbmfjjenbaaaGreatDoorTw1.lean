/- Slices that are only read ('Rd'), rows that the call itself owns, and append of any source onto such a row. Errors: none, a number, a Fault. Coordinates and points that may be; plane.far. Segments and rings in plain Lean. A stable sort in plain Lean: the order by key, id and rank; what is in order. Slices of points that can be read; objects. -/
import Derived.Test.YtoggbmfjjenbaaaGreatDoorChecked
import Derived.WalkKit
import Derived.ProofKit
import Derived.Lib.Hide
import Derived.Laws.AppendOwnNone
import Derived.Deep.Draws
import Derived.WalkSpells
set_option linter.unusedSimpArgs false
set_option linter.unusedVariables false
namespace Go.Proofs.YtoggbmfjjenbaaaGreatDoor
/-! Mem -/
section
open Go.RowKit

/-- In world w the value v is a slice of n elements whose cells, one behind the other, read as xs. -/
def Rd (w : World) (v : Value) (n : Nat) (xs : List Value) : Prop :=
  ∃ ao c, v = .slice ao n c ∧ n ≤ c ∧ c ≤ maxLen ∧ (ao = none → c = 0) ∧
    ∀ i (h : i < xs.length), ∃ b off, ao = some ⟨b, off, none⟩ ∧ b < w.heap.size ∧ w.cell? ⟨b, off + i, none⟩ = some xs[i]

theorem Rd.below {w w' : World} {v : Value} {n : Nat} {xs : List Value} (h : Rd w v n xs) (hb : Below w.heap.size w w') : Rd w' v n xs := by
  obtain ⟨ao, c, hv, h1, h2, h0, h3⟩ := h
  refine ⟨ao, c, hv, h1, h2, h0, fun i hi => ?_⟩
  obtain ⟨b, off, e, hlt, hc⟩ := h3 i hi
  exact ⟨b, off, e, Nat.lt_of_lt_of_le hlt hb.size, (hb.cell (p := ⟨b, off + i, none⟩) hlt).trans hc⟩

theorem Rd.nil (w : World) : Rd w (.slice none 0 0) 0 [] := ⟨none, 0, rfl, Nat.le_refl _, by simp [maxLen], fun _ => rfl, fun i h => by simp at h⟩

theorem Rd.alloc {w : World} {v : Value} {n : Nat} {xs : List Value} (h : Rd w v n xs) (o : Obj) : Rd (w.alloc o) v n xs :=
  h.below ((Below.refl _ _).alloc (Nat.le_refl _) _)

/-- What is owned can be read. -/
theorem Rd.of_own {w : World} {base : Nat} {e : TypeId} {size n : Nat} {v : Value} {xs : List Value} (h : w.ownsRow base e size v n xs) : Rd w v n xs := by
  obtain ⟨h1, ⟨rfl, rfl⟩ | ⟨g, cap, cur, rfl, hb, hg, hn, hm, hs, ht⟩⟩ := h
  · obtain rfl : xs = [] := List.eq_nil_of_length_eq_zero (by simpa using h1)
    exact Rd.nil w
  · refine ⟨some ⟨g, 0, none⟩, cap, rfl, hn, hm, (fun h => by cases h), fun i hi => ⟨g, 0, rfl, (Array.getElem?_eq_some_iff.1 hg).1, ?_⟩⟩
    have hown : w.ownsRow base e size (.slice (some ⟨g, 0, none⟩) n cap) n xs := ⟨h1, .inr ⟨g, cap, cur, rfl, hb, hg, hn, hm, hs, ht⟩⟩
    have := hown.cellAt i (by omega)
    rw [Nat.zero_add, this, List.getElem?_eq_getElem hi]

/-- What is owned stays owned where nothing below the heap's size turns. -/
theorem own_below {w w' : World} {base : Nat} {e : TypeId} {size n : Nat} {v : Value} {xs : List Value} (h : w.ownsRow base e size v n xs) {B : Nat} (hb : Below B w w') (hB : ∀ k, v.ownBlock = some k → k < B) : w'.ownsRow base e size v n xs := by
  refine ⟨h.1, ?_⟩
  rcases h.2 with hn | ⟨g, cap, cur, rfl, hbg, hg, r⟩
  · exact .inl hn
  · exact .inr ⟨g, cap, cur, rfl, hbg, by rw [hb.block g (hB g (by simp [Value.ownBlock]))]; exact hg, r⟩

theorem own_below' {w w' : World} {base : Nat} {e : TypeId} {size n : Nat} {v : Value} {xs : List Value} (h : w.ownsRow base e size v n xs) (hb : Below w.heap.size w w') : w'.ownsRow base e size v n xs :=
  own_below h hb fun k hk => (h.lt k hk).2

theorem own_base {w : World} {base base' : Nat} {e : TypeId} {size n : Nat} {v : Value} {xs : List Value} (h : w.ownsRow base e size v n xs) (hb : base' ≤ base) : w.ownsRow base' e size v n xs := by
  refine ⟨h.1, ?_⟩
  rcases h.2 with hn | ⟨g, cap, cur, hv, hbg, r⟩
  · exact .inl hn
  · exact .inr ⟨g, cap, cur, hv, Nat.le_trans hb hbg, r⟩

theorem below_grown {B : Nat} {w w' : World} {base : Nat} {e : TypeId} {size n : Nat} {v : Value} {xs : List Value} (h : w.ownsRow base e size v n xs) (hg : w.grownBy w' v.ownBlock) (hB : B ≤ base) (hs : B ≤ w.heap.size) : Below B w w' :=
  (Below.refl B w).grown hg hs fun k hk => Nat.le_trans hB (h.lt k hk).1

/-- append(v, x...): v owned, x whatever can be read. -/
theorem wp_append_rd {P : Program} {w : World} {o : Oper} {a : Act} {K : Act → World → Prop} {Q : Exit → Act → World → Prop} (s x : Operand) (t : TypeId)
    (ho : o.op = .call { callee := .builtin .append, args := #[s, x], argTypes := #[t, t] })
    (base : Nat) (e : TypeId) (z : Value) (size bytes : Nat) (ht : P.underlying t = some (.slice e)) (hi : (P.info? e).map (fun i => (i.zero, i.size, i.bytes)) = some (some z, size, bytes))
    (hzs : z.cells.size = size) (hsz : 0 < size)
    (v : Value) (n : Nat) (xs : List Value) (hs : a.eval s = v) (hown : w.ownsRow base e size v n xs)
    (y : Value) (m : Nat) (news : List Value) (hx : a.eval x = y) (hy : Rd w y m news) (hl : news.length = m * size) (h1 : ∀ u ∈ news, u.oneCell' = true)
    (h63 : n + m ≤ maxLen) (hbytes : (n + m) * bytes ≤ 140737488355328) (hbase : base ≤ w.heap.size)
    (h : ∀ v' w', w'.ownsRow base e size v' (n + m) (xs ++ news) → Below base w w' → (v' = .slice none 0 0 ↔ v = .slice none 0 0 ∧ m = 0) → K (a.put o.dst v') w') : o.wp P a w K Q := by
  obtain ⟨i, hi, hz, hsize, hby⟩ := info_parts hi
  obtain ⟨ao, c, rfl, h2, h3, h0, h4⟩ := hy
  cases ao with
  | none =>
    obtain rfl := h0 rfl
    obtain rfl : m = 0 := by omega
    obtain rfl : news = [] := List.eq_nil_of_length_eq_zero (by simpa using hl)
    have hrun := run_append_owned_none (P := P) (w := w) base t o.type e i size ht hi v n xs hown
    unfold Oper.wp
    simp [execOp, ho, resolve, invoke, builtin, hs, hx, hrun, Result.andThen]
    exact h v w (by simpa using hown) (Below.refl _ _) (by simp)
  | some ad =>
    refine wp_append_own w s x t ho base e i z size bytes ht hi hz hsize hby hzs hsz v n xs hs hown ad m c news hx hl ?_ h1 h63 hbytes hbase ?_
    · intro j u hu
      obtain ⟨hj, rfl⟩ := List.getElem?_eq_some_iff.1 hu
      obtain ⟨b, off, e, hlt, hc⟩ := h4 j hj
      obtain rfl := Option.some.inj e
      rw [Addr.add_lit]
      exact hc
    · intro v' w' h5 h6 h7
      exact h v' w' h5 (below_grown hown h6 (Nat.le_refl _) hbase) h7

theorem wpList_append_rd {P : Program} {w : World} {ops : Array Oper} {rest : List Oper} {o : Oper} {a : Act} {Q : Exit → Act → World → Prop} (hgd : o.guard = none) (s x : Operand) (t : TypeId)
    (ho : o.op = .call { callee := .builtin .append, args := #[s, x], argTypes := #[t, t] })
    (base : Nat) (e : TypeId) (z : Value) (size bytes : Nat) (ht : P.underlying t = some (.slice e)) (hi : (P.info? e).map (fun i => (i.zero, i.size, i.bytes)) = some (some z, size, bytes))
    (hzs : z.cells.size = size) (hsz : 0 < size)
    (v : Value) (n : Nat) (xs : List Value) (hs : a.eval s = v) (hown : w.ownsRow base e size v n xs)
    (y : Value) (m : Nat) (news : List Value) (hx : a.eval x = y) (hy : Rd w y m news) (hl : news.length = m * size) (h1 : ∀ u ∈ news, u.oneCell' = true)
    (h63 : n + m ≤ maxLen) (hbytes : (n + m) * bytes ≤ 140737488355328) (hbase : base ≤ w.heap.size)
    (h : ∀ v' w', w'.ownsRow base e size v' (n + m) (xs ++ news) → Below base w w' → (v' = .slice none 0 0 ↔ v = .slice none 0 0 ∧ m = 0) → wpList P ops Q rest (a.put o.dst v') w') : wpList P ops Q (o :: rest) a w :=
  wpList_plain hgd fun _ hK => wp_append_rd s x t ho base e z size bytes ht hi hzs hsz v n xs hs hown y m news hx hy hl h1 h63 hbytes hbase fun v' w' h2 h3 h4 => hK _ _ (h v' w' h2 h3 h4)

/-- the same at a step of a region that draws its order -/
theorem step_append_rd {P : Program} {w : World} {ops : Array Oper} {o : Oper} {a : Act} {K : Act → World → Prop} {Q : Exit → Act → World → Prop} {E : Prop} (hgd : o.guard = none) (s x : Operand) (t : TypeId)
    (ho : o.op = .call { callee := .builtin .append, args := #[s, x], argTypes := #[t, t] })
    (base : Nat) (e : TypeId) (z : Value) (size bytes : Nat) (ht : P.underlying t = some (.slice e)) (hi : (P.info? e).map (fun i => (i.zero, i.size, i.bytes)) = some (some z, size, bytes))
    (hzs : z.cells.size = size) (hsz : 0 < size)
    (v : Value) (n : Nat) (xs : List Value) (hs : a.eval s = v) (hown : w.ownsRow base e size v n xs)
    (y : Value) (m : Nat) (news : List Value) (hx : a.eval x = y) (hy : Rd w y m news) (hl : news.length = m * size) (h1 : ∀ u ∈ news, u.oneCell' = true)
    (h63 : n + m ≤ maxLen) (hbytes : (n + m) * bytes ≤ 140737488355328) (hbase : base ≤ w.heap.size)
    (h : ∀ v' w', w'.ownsRow base e size v' (n + m) (xs ++ news) → Below base w w' → (v' = .slice none 0 0 ↔ v = .slice none 0 0 ∧ m = 0) → K (a.put o.dst v') w') :
    if Region.wanted o (yielded ops a.tmps) = true then Oper.wp P o a w K Q else E := by
  have hw : Region.wanted o (yielded ops a.tmps) = true := by simp [Region.wanted, hgd]
  rw [if_pos hw]
  exact wp_append_rd s x t ho base e z size bytes ht hi hzs hsz v n xs hs hown y m news hx hy hl h1 h63 hbytes hbase h

/-- A new block of one row of cells can be read whole. -/
theorem rd_alloc (w : World) (cs : Array Value) (e : TypeId) (m : Nat × Nat) (n : Nat) (hn : n ≤ maxLen) : Rd (w.alloc (.cells cs e m)) (.slice (some ⟨w.heap.size, 0, none⟩) n n) n cs.toList := by
  refine ⟨_, _, rfl, Nat.le_refl _, hn, (fun h => by cases h), fun i hi => ⟨_, _, rfl, by simp, ?_⟩⟩
  have e : (w.alloc (.cells cs e m)).heap[w.heap.size]? = some (.cells cs e m) := by
    show (w.heap.push _)[w.heap.size]? = _
    simp
  rw [Nat.zero_add, cell_of_row _ _ _ _ _ _ e]
  simp at hi
  simp [hi]

theorem Rd.take {w : World} {ao : Option Addr} {n c : Nat} {xs : List Value} (h : Rd w (.slice ao n c) n xs) {m k : Nat} (hm : m ≤ n) : Rd w (.slice ao m c) m (xs.take k) := by
  obtain ⟨ao', c', hv, h1, h2, h0, h3⟩ := h
  simp only [Value.slice.injEq, true_and] at hv
  obtain ⟨rfl, rfl⟩ := hv
  refine ⟨_, _, rfl, by omega, h2, h0, fun i hi => ?_⟩
  simp only [List.length_take] at hi
  obtain ⟨b, off, e, hb, hc⟩ := h3 i (by omega)
  exact ⟨b, off, e, hb, by rw [List.getElem_take]; exact hc⟩

theorem Rd.drop {w : World} {b off n c : Nat} {xs : List Value} (h : Rd w (.slice (some ⟨b, off, none⟩) n c) n xs) {m k : Nat} (hm : m ≤ n) : Rd w (.slice (some ⟨b, off + k, none⟩) (n - m) (c - m)) (n - m) (xs.drop k) := by
  obtain ⟨ao', c', hv, h1, h2, h0, h3⟩ := h
  simp only [Value.slice.injEq, true_and] at hv
  obtain ⟨rfl, rfl⟩ := hv
  refine ⟨_, _, rfl, by omega, by omega, (fun h => by cases h), fun i hi => ?_⟩
  simp only [List.length_drop] at hi
  obtain ⟨b', off', e, hb, hc⟩ := h3 (k + i) (by omega)
  cases e
  exact ⟨b, off + k, rfl, hb, by rw [List.getElem_drop, Nat.add_assoc]; exact hc⟩

theorem Rd.drew {w : World} {v : Value} {n : Nat} {xs : List Value} (h : Rd w v n xs) : Rd w.drew v n xs := h

/-- x[lo:hi] with numbers that are known to fit. -/
theorem wpList_slice_lh {P : Program} {w : World} {ops : Array Oper} {rest : List Oper} {o : Oper} {a : Act} {Q : Exit → Act → World → Prop} (hgd : o.guard = none) (x lo hi : Operand) (t e : TypeId)
    (ho : o.op = .slice t x (some lo) (some hi) none) (ht : P.underlying t = some (.slice e)) (size : Nat) (hsz : (sizeOf e).run P w = .ok size w)
    (b off n c : Nat) (hx : a.eval x = .slice (some ⟨b, off, none⟩) n c) (kl kh : IntKind) (l h : Int) (hl : a.eval lo = .int kl l) (hh : a.eval hi = .int kh h) (L H : Nat) (eL : l = (L : Int)) (eH : h = (H : Int))
    (h1 : L ≤ H) (h2 : H ≤ c) (h3 : L < c) (next : wpList P ops Q rest (a.put o.dst (.slice (some ⟨b, off + L * size, none⟩) (H - L) (c - L))) w) : wpList P ops Q (o :: rest) a w := by
  refine wpList_plain hgd fun K hK => ?_
  subst eL eH
  have he : P.elem t = e := by simp [Program.elem, ht]
  have ht' : P.underlying t = some (.slice (P.elem t)) := by rw [he]; exact ht
  have hrun := run_slice_lh (P := P) w t (some ⟨b, off, none⟩) n c ht' kl kh (L : Int) (H : Int) (by omega) (by omega) (by omega)
  have hat := run_sliceAt_slice (P := P) w t (.slice (some ⟨b, off, none⟩) n c) (some (.int kl (L : Int))) (some (.int kh (H : Int))) none ht'
  rw [hrun, he, hsz] at hat
  have hv : sliced (some ⟨b, off, none⟩) (L : Int).toNat (H : Int).toNat c size = .slice (some ⟨b, off + L * size, none⟩) (H - L) (c - L) := by
    simp only [sliced, Int.toNat_natCast]
    rw [if_neg (by omega)]
    simp [Addr.add_lit]
  simp only [Result.andThen, hv] at hat
  unfold Oper.wp
  simp [execOp, ho, hx, hl, hh, hat, Result.andThen]
  exact hK _ _ next

/-- The cells of bytes. -/
def bytesV (l : List UInt8) : List Value := l.map fun c => Value.int .u8 (c.toNat : Int)
theorem bytesV_length (l : List UInt8) : (bytesV l).length = l.length := by simp [bytesV]
theorem bytesV_append (l m : List UInt8) : bytesV (l ++ m) = bytesV l ++ bytesV m := by simp [bytesV]
theorem bytesV_one (l : List UInt8) : ∀ u ∈ bytesV l, u.oneCell' = true := by
  intro u hu
  obtain ⟨c, _, rfl⟩ := List.mem_map.1 hu
  rfl
end

/-! Er -/
section
open Go.RowKit

/-! ### errors -/
/-- an error: none; a number; a Fault -/
inductive Er where
  | none
  | num (k : Int)
  | fault (op : ByteArray) (id : Int) (inner : Er)

/-- In world w the value v of type error is so. -/
def Er.Is (w : World) : Er → Value → Prop
  | .none, v => v = .nilIface
  | .num k, v => v = .iface 60 (.int .i64 k)
  | .fault op id inner, v => ∃ b u, v = .iface 61 (.pointer (some ⟨b, 0, Option.none⟩)) ∧ b < w.heap.size ∧ w.cell? ⟨b, 0, Option.none⟩ = some (.string op) ∧ w.cell? ⟨b, 1, Option.none⟩ = some (.int .i64 id) ∧ w.cell? ⟨b, 2, Option.none⟩ = some u ∧ inner.Is w u

theorem Er.Is.below {w w' : World} (hb : Below w.heap.size w w') : ∀ {e : Er} {v : Value}, e.Is w v → e.Is w' v
  | .none, _, h => h
  | .num _, _, h => h
  | .fault _ _ _, _, ⟨b, u, h1, h2, h3, h4, h5, h6⟩ => ⟨b, u, h1, Nat.lt_of_lt_of_le h2 hb.size, (hb.cell (p := ⟨b, 0, Option.none⟩) h2).trans h3, (hb.cell (p := ⟨b, 1, Option.none⟩) h2).trans h4, (hb.cell (p := ⟨b, 2, Option.none⟩) h2).trans h5, Er.Is.below hb h6⟩

/-- The call hands back an error. -/
def ErRet (w : World) (x : Er) (e : Ending) (w' : World) : Prop := ∃ v, e = .returned v ∧ x.Is w' v ∧ Below w.heap.size w w'

/-- what fault.New makes of an error -/
def Er.wrap (op : ByteArray) (id : Int) : Er → Er
  | .none => .none
  | e => .fault op id e
end

/-! InP -/
section
open Go.RowKit

/-- may a coordinate be? -/
def inC (n : Int) : Prop := -1073741823 ≤ n ∧ n ≤ 1073741823
instance (n : Int) : Decidable (inC n) := inferInstanceAs (Decidable (_ ∧ _))
/-- may a point be? -/
def inP (x y : Int) : Prop := inC x ∧ inC y
instance (x y : Int) : Decidable (inP x y) := inferInstanceAs (Decidable (_ ∧ _))

theorem far_no (n : Int) (w : World) (h : inC n) : Calls Tryz.prog 73 #[.int .i64 n] w fun e w' => e = .returned (.bool false) ∧ w = w' := by
  obtain ⟨h1, h2⟩ := h
  have t1 : decide (n < -1073741823) = false := by simp; omega
  have t2 : decide (1073741823 < n) = false := by simp; omega
  go_enter Tryz.func73, Tryz.ntmps73
  go_wp2
  go_ret
  exact ⟨rfl, rfl⟩
theorem far_yes (n : Int) (w : World) (h : ¬ inC n) : Calls Tryz.prog 73 #[.int .i64 n] w fun e w' => e = .returned (.bool true) ∧ w = w' := by
  by_cases h1 : n < -1073741823
  · have t1 : decide (n < -1073741823) = true := by simp; omega
    clear h
    go_enter Tryz.func73, Tryz.ntmps73
    go_wp2
    go_ret
    exact ⟨rfl, rfl⟩
  · have t1 : decide (n < -1073741823) = false := by simp; omega
    have t2 : decide (1073741823 < n) = true := by unfold inC at h; simp; omega
    clear h
    go_enter Tryz.func73, Tryz.ntmps73
    go_wp2
    go_ret
    exact ⟨rfl, rfl⟩
end

/-! Geo -/
section
abbrev Pt := Int × Int
/-- may a point be? -/
def okP (p : Pt) : Bool := decide (inP p.1 p.2)
def allP (l : List Pt) : Bool := l.all okP
theorem allP_snoc (l : List Pt) (k : Nat) (h : k < l.length) : allP (l.take (k + 1)) = (allP (l.take k) && okP l[k]) := by
  unfold allP
  rw [List.take_succ_eq_append_getElem h, List.all_append]
  simp
theorem allP_false (l : List Pt) (k : Nat) (h : k < l.length) (hf : okP l[k] = false) : allP l = false := by
  unfold allP
  rw [List.all_eq_false]
  exact ⟨l[k], List.getElem_mem h, by simp [hf]⟩
theorem okP_inP {p : Pt} (h : okP p = true) : inP p.1 p.2 := of_decide_eq_true h

theorem mul_bd (u v M : Int) (h1 : -M ≤ u) (h2 : u ≤ M) (h3 : -M ≤ v) (h4 : v ≤ M) : -(M * M) ≤ u * v ∧ u * v ≤ M * M := by
  have a1 : 0 ≤ (M - u) * (M + v) := Int.mul_nonneg (by omega) (by omega)
  have a2 : 0 ≤ (M + u) * (M - v) := Int.mul_nonneg (by omega) (by omega)
  have a3 : 0 ≤ (M - u) * (M - v) := Int.mul_nonneg (by omega) (by omega)
  have a4 : 0 ≤ (M + u) * (M + v) := Int.mul_nonneg (by omega) (by omega)
  simp only [Int.sub_mul, Int.add_mul, Int.mul_sub, Int.mul_add] at a1 a2 a3 a4
  have e : M * u = u * M := Int.mul_comm _ _
  have e2 : M * v = v * M := Int.mul_comm _ _
  omega

/-- twice the area of three points, with its sign -/
def crs (a b c : Pt) : Int := (b.1 - a.1) * (c.2 - a.2) - (b.2 - a.2) * (c.1 - a.1)
theorem inP_diff {a b : Pt} (ha : inP a.1 a.2) (hb : inP b.1 b.2) : -2147483646 ≤ b.1 - a.1 ∧ b.1 - a.1 ≤ 2147483646 ∧ -2147483646 ≤ b.2 - a.2 ∧ b.2 - a.2 ≤ 2147483646 := by
  obtain ⟨⟨_, _⟩, _, _⟩ := ha
  obtain ⟨⟨_, _⟩, _, _⟩ := hb
  omega
theorem crs_parts {a b c : Pt} (ha : inP a.1 a.2) (hb : inP b.1 b.2) (hc : inP c.1 c.2) :
    (-4611686009837453316 ≤ (b.1 - a.1) * (c.2 - a.2) ∧ (b.1 - a.1) * (c.2 - a.2) ≤ 4611686009837453316) ∧ (-4611686009837453316 ≤ (b.2 - a.2) * (c.1 - a.1) ∧ (b.2 - a.2) * (c.1 - a.1) ≤ 4611686009837453316) := by
  obtain ⟨h1, h2, h3, h4⟩ := inP_diff ha hb
  obtain ⟨k1, k2, k3, k4⟩ := inP_diff ha hc
  have p := mul_bd (b.1 - a.1) (c.2 - a.2) 2147483646 h1 h2 k3 k4
  have q := mul_bd (b.2 - a.2) (c.1 - a.1) 2147483646 h3 h4 k1 k2
  omega
/-- a number's sign -/
def sgn (x : Int) : Int := if x < 0 then -1 else if x = 0 then 0 else 1
theorem sgn_zero {x : Int} : sgn x = 0 ↔ x = 0 := by unfold sgn; split <;> (try split) <;> omega
theorem sgn_pos {x : Int} : 0 < sgn x ↔ 0 < x := by unfold sgn; split <;> (try split) <;> omega
theorem sgn_bd (x : Int) : -1 ≤ sgn x ∧ sgn x ≤ 1 := by unfold sgn; split <;> (try split) <;> omega
/-- is p in the least box that has a and b? -/
def boxB (a b p : Pt) : Bool := decide (min a.1 b.1 ≤ p.1 ∧ p.1 ≤ max a.1 b.1 ∧ min a.2 b.2 ≤ p.2 ∧ p.2 ≤ max a.2 b.2)
/-- is p on the segment from a to b? -/
def onB (a b p : Pt) : Bool := okP a && okP b && okP p && decide (crs a b p = 0) && boxB a b p
def properB (a b c d : Pt) : Bool := decide (sgn (crs a b c) * sgn (crs a b d) < 0) && decide (sgn (crs c d a) * sgn (crs c d b) < 0)
def meetB (a b c d : Pt) : Bool := properB a b c d || onB a b c || onB a b d || onB c d a || onB c d b
theorem properB_comm (a b c d : Pt) : properB a b c d = properB c d a b := by unfold properB; rw [Bool.and_comm]
theorem meetB_comm (a b c d : Pt) : meetB a b c d = meetB c d a b := by
  unfold meetB
  rw [properB_comm]
  cases properB c d a b <;> cases onB a b c <;> cases onB a b d <;> cases onB c d a <;> cases onB c d b <;> rfl

/-- the i-th corner -/
def pt (l : List Pt) (i : Nat) : Pt := l.getD i (0, 0)
theorem pt_get (l : List Pt) (i : Nat) (h : i < l.length) : pt l i = l[i] := by simp [pt, List.getD_eq_getElem?_getD, h]
theorem pt_ok {l : List Pt} (h : allP l = true) {i : Nat} (hi : i < l.length) : okP (pt l i) = true := by
  rw [pt_get l i hi]
  exact List.all_eq_true.1 h _ (List.getElem_mem hi)
/-- the program's test of two edges -/
def spoilB (l : List Pt) (i k : Nat) : Bool :=
  let a := pt l i; let b := pt l ((i + 1) % l.length); let c := pt l k; let d := pt l ((k + 1) % l.length)
  if a = c then true
  else if (i + 1) % l.length = k then onB a b d || onB c d a
  else if (k + 1) % l.length = i then onB c d b || onB a b c
  else meetB a b c d
/-- the first number below n for which f is so -/
def first (f : Nat → Bool) (n : Nat) : Option Nat := (List.range n).find? f
theorem first_some {f : Nat → Bool} {n i : Nat} (hi : i < n) (hf : f i = true) (hb : ∀ j, j < i → f j = false) : first f n = some i := by
  unfold first
  rw [List.find?_range_eq_some]
  refine ⟨hf, by simpa using hi, fun j hj => ?_⟩
  simp [hb j hj]
theorem first_none {f : Nat → Bool} {n : Nat} (hb : ∀ j, j < n → f j = false) : first f n = none := by
  unfold first
  rw [List.find?_range_eq_none]
  intro j hj
  simp [hb j hj]
/-- is there a number below n for which f is so? -/
def anyB (f : Nat → Bool) (n : Nat) : Bool := (List.range n).any f
theorem anyB_true {f : Nat → Bool} {n i : Nat} (hi : i < n) (hf : f i = true) : anyB f n = true := List.any_eq_true.2 ⟨i, by simpa using hi, hf⟩
theorem anyB_false {f : Nat → Bool} {n : Nat} (h : ∀ i, i < n → f i = false) : anyB f n = false := by
  unfold anyB
  rw [List.any_eq_false]
  intro i hi
  simp [h i (by simpa using hi)]
theorem anyB_get {f : Nat → Bool} {n : Nat} (h : anyB f n = true) : ∃ i, i < n ∧ f i = true := by
  obtain ⟨i, hi, hf⟩ := List.any_eq_true.1 h
  exact ⟨i, by simpa using hi, hf⟩
theorem anyB_none {f : Nat → Bool} {n : Nat} (h : anyB f n = false) {i : Nat} (hi : i < n) : f i = false := by
  cases hf : f i with
  | false => rfl
  | true => rw [anyB_true hi hf] at h; cases h

/-- does the program blame the corner i? -/
def badI (l : List Pt) (i : Nat) : Bool := anyB (fun k => decide (k ≠ i) && spoilB l i k) l.length
def strRing : ByteArray := ⟨#[114, 105, 110, 103]⟩
/-- why a ring may not be: what the program says -/
def ringEr (l : List Pt) : Er :=
  if l.length < 3 ∨ 64 < l.length then .fault strRing l.length (.num 3)
  else match first (fun i => !okP (pt l i)) l.length with
    | some i => .fault strRing i (.num 2)
    | none => match first (badI l) l.length with
      | some i => .fault strRing i (.num 4)
      | none => .none
end

/-! SortMath -/
section
/-- an item and its key -/
structure KdL where
  key : Nat
  id : Int
  kind : Int
  pts : List Pt
/-- .. with the slice that holds its points -/
abbrev KdV := KdL × Value
def ltK (x y : KdL) : Bool := decide (x.key < y.key ∨ (x.key = y.key ∧ x.id < y.id))
theorem ltK_iff {x y : KdL} : ltK x y = true ↔ x.key < y.key ∨ (x.key = y.key ∧ x.id < y.id) := by simp [ltK]
theorem ltK_no {x y : KdL} : ltK x y = false ↔ ¬ (x.key < y.key ∨ (x.key = y.key ∧ x.id < y.id)) := by simp [ltK]
/-- what compare says -/
def cmpK (x y : KdL) : Int := if (x.key : Int) - y.key = 0 then sgn (x.id - y.id) else sgn ((x.key : Int) - y.key)
theorem cmpK_neg (x y : KdL) : decide (cmpK x y < 0) = ltK x y := by
  unfold cmpK ltK sgn
  by_cases h : (x.key : Int) - y.key = 0
  · rw [if_pos h]
    split <;> (try split) <;> simp <;> omega
  · rw [if_neg h]
    split <;> (try split) <;> simp <;> omega
def leV (x y : KdV) : Bool := !ltK y.1 x.1
def leK (x y : KdL) : Bool := !ltK y x
abbrev Rk := KdV × Nat
/-- the order in which a stable sort leaves them: by key, id, and where they stood -/
def tle (x y : Rk) : Prop := x.1.1.key < y.1.1.key ∨ (x.1.1.key = y.1.1.key ∧ (x.1.1.id < y.1.1.id ∨ (x.1.1.id = y.1.1.id ∧ x.2 ≤ y.2)))
theorem tle_zip (x y : Rk) : List.zipIdxLE leV x y = true ↔ tle x y := by
  unfold List.zipIdxLE leV tle ltK
  split <;> (try split) <;> simp_all <;> omega
abbrev Srt (l : List Rk) : Prop := l.Pairwise tle
theorem tle_trans {x y z : Rk} (h1 : tle x y) (h2 : tle y z) : tle x z := by unfold tle at *; omega
theorem tle_lt {x y z : Rk} (h1 : tle x y) (h2 : ltK y.1.1 z.1.1 = true) : ltK x.1.1 z.1.1 = true := by rw [ltK_iff] at *; unfold tle at h1; omega
theorem lt_tle' {x y z : Rk} (h1 : ltK x.1.1 y.1.1 = true) (h2 : tle y z) : ltK x.1.1 z.1.1 = true := by rw [ltK_iff] at *; unfold tle at h2; omega
theorem lt_tle {x y : Rk} (h : ltK x.1.1 y.1.1 = true) : tle x y := by rw [ltK_iff] at h; unfold tle; omega
theorem no_tle {x y : Rk} (h : ltK y.1.1 x.1.1 = false) (hr : x.2 ≤ y.2) : tle x y := by rw [ltK_no] at h; unfold tle; omega
theorem no_tle' {x y z : Rk} (h1 : tle x y) (h2 : ltK z.1.1 y.1.1 = false) : ltK z.1.1 x.1.1 = false := by rw [ltK_no] at *; unfold tle at h1; omega
theorem no_tle2 {x y z : Rk} (h1 : ltK y.1.1 x.1.1 = false) (h2 : tle y z) : ltK z.1.1 x.1.1 = false := by rw [ltK_no] at *; unfold tle at h2; omega

/-! ### the one list that is in order -/
theorem srt_unique (l : List KdV) (s : List Rk) (hp : s.Perm l.zipIdx) (hs : Srt s) : s.map Prod.fst = l.mergeSort leV := by
  rw [← List.mergeSort_zipIdx]
  congr 1
  have h2 : (l.zipIdx.mergeSort (List.zipIdxLE leV)).Pairwise (fun x y => tle x y) := by
    have := List.pairwise_mergeSort (le := List.zipIdxLE leV) (fun a b c h1 h2 => by
      rw [tle_zip] at *
      exact tle_trans h1 h2) (fun a b => by
      rw [Bool.or_eq_true, tle_zip, tle_zip]
      unfold tle
      omega) l.zipIdx
    exact this.imp fun h => (tle_zip _ _).1 h
  refine List.Perm.eq_of_pairwise (le := tle) (fun a b ha hb h1 h2 => ?_) hs h2 (hp.trans (List.mergeSort_perm _ _).symm)
  have ha' : a ∈ l.zipIdx := hp.mem_iff.1 ha
  have hb' : b ∈ l.zipIdx := (List.mergeSort_perm _ _).mem_iff.1 hb
  have hr : a.2 = b.2 := by unfold tle at h1 h2; omega
  obtain ⟨i, hi⟩ := List.mem_iff_getElem.1 ha'
  obtain ⟨j, hj⟩ := List.mem_iff_getElem.1 hb'
  obtain ⟨hi1, rfl⟩ := hi
  obtain ⟨hj1, rfl⟩ := hj
  simp only [List.getElem_zipIdx, Nat.zero_add] at hr ⊢
  subst hr
  rfl
/-- ranks rise -/
abbrev Rise (l : List Rk) : Prop := l.Pairwise fun x y => x.2 < y.2
theorem rise_zipIdx (l : List KdV) : Rise l.zipIdx := by
  unfold Rise
  rw [List.pairwise_iff_getElem]
  intro i j hi hj hij
  simp only [List.getElem_zipIdx]
  omega
/-- content alone -/
theorem srt_content (l : List KdV) : (l.mergeSort leV).map Prod.fst = (l.map Prod.fst).mergeSort leK :=
  List.map_mergeSort fun _ _ _ _ => rfl

/-! ### one that is put in its place -/
theorem srt_in {L R : List Rk} {x : Rk} (hs : Srt (L ++ R)) (h1 : ∀ y ∈ L, tle y x) (h2 : ∀ z ∈ R, tle x z) : Srt (L ++ x :: R) := by
  rw [Srt, List.pairwise_append] at hs
  rw [Srt, List.pairwise_append, List.pairwise_cons]
  refine ⟨hs.1, ⟨h2, hs.2.1⟩, fun a ha b hb => ?_⟩
  rcases List.mem_cons.1 hb with rfl | hb
  · exact h1 a ha
  · exact hs.2.2 a ha b hb
theorem srt_last {L : List Rk} {y x : Rk} (hs : Srt (L ++ [y])) (h : ltK x.1.1 y.1.1 = false) (hr : ∀ z ∈ L ++ [y], z.2 < x.2) : ∀ z ∈ L ++ [y], tle z x := by
  intro z hz
  rw [Srt, List.pairwise_append] at hs
  rcases List.mem_append.1 hz with hz' | hz'
  · exact tle_trans (hs.2.2 z hz' y (by simp)) (no_tle h (Nat.le_of_lt (hr y (by simp))))
  · obtain rfl : z = y := by simpa using hz'
    exact no_tle h (Nat.le_of_lt (hr z (by simp)))

/-! ### two sorted rows -/
theorem getElem?_mid {α : Type} (A : List α) (x : α) (B : List α) : (A ++ x :: B)[A.length]? = some x := by simp
theorem srt_get {L : List Rk} (hs : Srt L) {i j : Nat} (hi : i < j) {x y : Rk} (hx : L[i]? = some x) (hy : L[j]? = some y) : tle x y := by
  obtain ⟨hi', rfl⟩ := List.getElem?_eq_some_iff.1 hx
  obtain ⟨hj', rfl⟩ := List.getElem?_eq_some_iff.1 hy
  exact List.pairwise_iff_getElem.1 hs i j hi' hj' hi
theorem srt_take {L : List Rk} (hs : Srt L) (k : Nat) : Srt (L.take k) := List.Pairwise.sublist (List.take_sublist k L) hs
theorem srt_drop {L : List Rk} (hs : Srt L) (k : Nat) : Srt (L.drop k) := List.Pairwise.sublist (List.drop_sublist k L) hs
theorem mem_take_get {α : Type} {L : List α} {k : Nat} {x : α} (h : x ∈ L.take k) : ∃ i, i < k ∧ L[i]? = some x := by
  obtain ⟨i, hi, rfl⟩ := List.mem_iff_getElem.1 h
  rw [List.length_take] at hi
  exact ⟨i, by omega, by rw [List.getElem_take, List.getElem?_eq_getElem]⟩
theorem mem_drop_get {α : Type} {L : List α} {k : Nat} {x : α} (h : x ∈ L.drop k) : ∃ i, k ≤ i ∧ L[i]? = some x := by
  obtain ⟨i, hi, rfl⟩ := List.mem_iff_getElem.1 h
  rw [List.length_drop] at hi
  exact ⟨k + i, by omega, by rw [List.getElem_drop, List.getElem?_eq_getElem]⟩
theorem srt_le {L : List Rk} (hs : Srt L) {i j : Nat} (hi : i ≤ j) {x y : Rk} (hx : L[i]? = some x) (hy : L[j]? = some y) : tle x y := by
  rcases Nat.eq_or_lt_of_le hi with rfl | h
  · obtain rfl : x = y := by rw [hx] at hy; exact Option.some.inj hy
    unfold tle; omega
  · exact srt_get hs h hx hy

/-- one ahead of a sorted row: where it goes -/
theorem sym_one {x : Rk} {R : List Rk} {k : Nat} (hk : k ≤ R.length) (hR : Srt R) (hr : ∀ y ∈ R, x.2 < y.2) (h1 : ∀ y, 0 < k → R[k - 1]? = some y → ltK y.1.1 x.1.1 = true) (h2 : ∀ y, R[k]? = some y → ltK y.1.1 x.1.1 = false) : Srt (R.take k ++ x :: R.drop k) := by
  refine srt_in (by rw [List.take_append_drop]; exact hR) (fun y hy => ?_) (fun z hz => ?_)
  · obtain ⟨i, hi, hy'⟩ := mem_take_get hy
    have hlen := (List.getElem?_eq_some_iff.1 hy').1
    exact lt_tle (tle_lt (srt_le hR (show i ≤ k - 1 by omega) hy' (List.getElem?_eq_getElem (show k - 1 < R.length by omega))) (h1 _ (by omega) (List.getElem?_eq_getElem (show k - 1 < R.length by omega))))
  · obtain ⟨i, hi, hz'⟩ := mem_drop_get hz
    have hlen := (List.getElem?_eq_some_iff.1 hz').1
    have hzR : z ∈ R := List.mem_of_getElem? hz'
    refine no_tle ?_ (Nat.le_of_lt (hr z hzR))
    exact no_tle2 (h2 _ (List.getElem?_eq_getElem (show k < R.length by omega))) (srt_le hR hi (List.getElem?_eq_getElem (show k < R.length by omega)) hz')
/-- one behind a sorted row: where it goes -/
theorem sym_back {x : Rk} {L : List Rk} {k : Nat} (hk : k ≤ L.length) (hL : Srt L) (hr : ∀ y ∈ L, y.2 < x.2) (h1 : ∀ y, 0 < k → L[k - 1]? = some y → ltK x.1.1 y.1.1 = false) (h2 : ∀ y, L[k]? = some y → ltK x.1.1 y.1.1 = true) : Srt (L.take k ++ x :: L.drop k) := by
  refine srt_in (by rw [List.take_append_drop]; exact hL) (fun y hy => ?_) (fun z hz => ?_)
  · obtain ⟨i, hi, hy'⟩ := mem_take_get hy
    have hlen := (List.getElem?_eq_some_iff.1 hy').1
    have hyL : y ∈ L := List.mem_of_getElem? hy'
    refine no_tle ?_ (Nat.le_of_lt (hr y hyL))
    exact no_tle' (srt_le hL (show i ≤ k - 1 by omega) hy' (List.getElem?_eq_getElem (show k - 1 < L.length by omega))) (h1 _ (by omega) (List.getElem?_eq_getElem (show k - 1 < L.length by omega)))
  · obtain ⟨i, hi, hz'⟩ := mem_drop_get hz
    have hlen := (List.getElem?_eq_some_iff.1 hz').1
    exact lt_tle (lt_tle' (h2 _ (List.getElem?_eq_getElem (show k < L.length by omega))) (srt_le hL hi (List.getElem?_eq_getElem (show k < L.length by omega)) hz'))
/-- the cut of two sorted rows: what goes ahead is not behind what goes behind. u of L and v of R go ahead. -/
theorem sym_cut {L R : List Rk} {u v : Nat} (hu : u ≤ L.length) (hv : v ≤ R.length) (hL : Srt L) (hR : Srt R) (hr : ∀ x ∈ L, ∀ y ∈ R, x.2 < y.2)
    (h1 : ∀ x y, 0 < u → L[u - 1]? = some x → R[v]? = some y → ltK y.1.1 x.1.1 = false) (h2 : ∀ x y, 0 < v → R[v - 1]? = some x → L[u]? = some y → ltK x.1.1 y.1.1 = true) :
    ∀ x ∈ L.take u ++ R.take v, ∀ y ∈ L.drop u ++ R.drop v, tle x y := by
  intro x hx y hy
  rcases List.mem_append.1 hx with hx | hx <;> rcases List.mem_append.1 hy with hy | hy
  · obtain ⟨i, hi, hx'⟩ := mem_take_get hx
    obtain ⟨j, hj, hy'⟩ := mem_drop_get hy
    exact srt_get hL (by omega) hx' hy'
  · obtain ⟨i, hi, hx'⟩ := mem_take_get hx
    obtain ⟨j, hj, hy'⟩ := mem_drop_get hy
    have l1 := (List.getElem?_eq_some_iff.1 hx').1
    have l2 := (List.getElem?_eq_some_iff.1 hy').1
    have q := h1 _ _ (by omega) (List.getElem?_eq_getElem (show u - 1 < L.length by omega)) (List.getElem?_eq_getElem (show v < R.length by omega))
    have q1 := no_tle2 q (srt_le hR hj (List.getElem?_eq_getElem (show v < R.length by omega)) hy')
    exact no_tle (no_tle' (srt_le hL (show i ≤ u - 1 by omega) hx' (List.getElem?_eq_getElem (show u - 1 < L.length by omega))) q1) (Nat.le_of_lt (hr x (List.mem_of_getElem? hx') y (List.mem_of_getElem? hy')))
  · obtain ⟨i, hi, hx'⟩ := mem_take_get hx
    obtain ⟨j, hj, hy'⟩ := mem_drop_get hy
    have l1 := (List.getElem?_eq_some_iff.1 hx').1
    have l2 := (List.getElem?_eq_some_iff.1 hy').1
    have q := h2 _ _ (by omega) (List.getElem?_eq_getElem (show v - 1 < R.length by omega)) (List.getElem?_eq_getElem (show u < L.length by omega))
    exact lt_tle (lt_tle' (tle_lt (srt_le hR (show i ≤ v - 1 by omega) hx' (List.getElem?_eq_getElem (show v - 1 < R.length by omega))) q) (srt_le hL hj (List.getElem?_eq_getElem (show u < L.length by omega)) hy'))
  · obtain ⟨i, hi, hx'⟩ := mem_take_get hx
    obtain ⟨j, hj, hy'⟩ := mem_drop_get hy
    exact srt_get hR (by omega) hx' hy'
theorem srt_join {M N : List Rk} (hM : Srt M) (hN : Srt N) (h : ∀ x ∈ M, ∀ y ∈ N, tle x y) : Srt (M ++ N) := List.pairwise_append.2 ⟨hM, hN, h⟩
end

/-! Pts -/
section
open Go.RowKit

/-- the cells of points, one behind the other -/
def ptsV : List (Int × Int) → List Value
  | [] => []
  | p :: l => .int .i64 p.1 :: .int .i64 p.2 :: ptsV l
theorem ptsV_length : ∀ l, (ptsV l).length = l.length * 2
  | [] => rfl
  | p :: l => by simp [ptsV, ptsV_length l]; omega
theorem ptsV_append : ∀ l m, ptsV (l ++ m) = ptsV l ++ ptsV m
  | [], _ => rfl
  | p :: l, m => by simp [ptsV, ptsV_append l m]
theorem ptsV_get0 : ∀ (l : List (Int × Int)) (i : Nat) (h : i < l.length) (h' : i * 2 < (ptsV l).length), (ptsV l)[i * 2] = .int .i64 (l[i]).1
  | p :: l, 0, _, _ => rfl
  | p :: l, i + 1, h, h' => by
    have e : (ptsV (p :: l))[(i + 1) * 2] = (ptsV l)[i * 2]'(by rw [ptsV_length]; simp at h; omega) := by
      simp only [ptsV, show (i + 1) * 2 = i * 2 + 1 + 1 by omega, List.getElem_cons_succ]
    rw [e, ptsV_get0 l i (by simpa using h) _]
    rfl
theorem ptsV_get1 : ∀ (l : List (Int × Int)) (i : Nat) (h : i < l.length) (h' : i * 2 + 1 < (ptsV l).length), (ptsV l)[i * 2 + 1] = .int .i64 (l[i]).2
  | p :: l, 0, _, _ => rfl
  | p :: l, i + 1, h, h' => by
    have e : (ptsV (p :: l))[(i + 1) * 2 + 1] = (ptsV l)[i * 2 + 1]'(by rw [ptsV_length]; simp at h; omega) := by
      simp only [ptsV, show (i + 1) * 2 + 1 = i * 2 + 1 + 1 + 1 by omega, List.getElem_cons_succ]
    rw [e, ptsV_get1 l i (by simpa using h) _]
    rfl
theorem ptsV_one (l : List (Int × Int)) : ∀ u ∈ ptsV l, u.oneCell' = true := by
  induction l with
  | nil => intro u hu; cases hu
  | cons p l ih =>
    intro u hu
    simp only [ptsV, List.mem_cons] at hu
    rcases hu with rfl | rfl | hu
    · rfl
    · rfl
    · exact ih u hu

/-- In world w the value v is a []api.Point that reads as l. -/
def Pts (w : World) (v : Value) (l : List (Int × Int)) : Prop := Rd w v l.length (ptsV l)
/-- every coordinate is an int -/
def i64B (n : Int) : Prop := -9223372036854775808 ≤ n ∧ n ≤ 9223372036854775807
def PtsB (l : List (Int × Int)) : Prop := ∀ p ∈ l, i64B p.1 ∧ i64B p.2

theorem Pts.open {w : World} {v : Value} {l : List (Int × Int)} (h : Pts w v l) :
    ∃ ao c, v = .slice ao l.length c ∧ l.length ≤ c ∧ c ≤ maxLen ∧ (ao = none → c = 0) ∧
      ∀ i (h : i < l.length), ∃ b off, ao = some ⟨b, off, none⟩ ∧ b < w.heap.size ∧ w.cell? ⟨b, off + i * 2, none⟩ = some (.int .i64 l[i].1) ∧ w.cell? ⟨b, off + i * 2 + 1, none⟩ = some (.int .i64 l[i].2) := by
  obtain ⟨ao, c, hv, h1, h2, h0, h3⟩ := h
  refine ⟨ao, c, hv, h1, h2, h0, fun i hi => ?_⟩
  have hl := ptsV_length l
  obtain ⟨b, off, e, hlt, hc⟩ := h3 (i * 2) (by omega)
  obtain ⟨b', off', e', _, hc'⟩ := h3 (i * 2 + 1) (by omega)
  rw [e] at e'
  cases e'
  exact ⟨b, off, e, hlt, by rw [hc, ptsV_get0 l i hi], by rw [Nat.add_assoc, hc', ptsV_get1 l i hi]⟩
theorem Pts.below {w w' : World} {v : Value} {l : List (Int × Int)} (h : Pts w v l) (hb : Below w.heap.size w w') : Pts w' v l := Rd.below h hb
theorem Pts.alloc {w : World} {v : Value} {l : List (Int × Int)} (h : Pts w v l) (o : Obj) : Pts (w.alloc o) v l := Rd.alloc h o
theorem Pts.drewN {w : World} {v : Value} {l : List (Int × Int)} (h : Pts w v l) (n : Nat) : Pts (w.drewN n) v l := h
theorem Pts.drew {w : World} {v : Value} {l : List (Int × Int)} (h : Pts w v l) : Pts w.drew v l := h
theorem Pts.nil (w : World) : Pts w (.slice none 0 0) [] := Rd.nil w

/-- a new block of points -/
theorem pts_lit (w : World) (l : List (Int × Int)) (T : TypeId) (m : Nat × Nat) (hl : l.length ≤ maxLen) : Pts (w.alloc (.cells (ptsV l).toArray T m)) (.slice (some ⟨w.heap.size, 0, none⟩) l.length l.length) l := by
  refine ⟨_, _, rfl, Nat.le_refl _, hl, (fun h => by cases h), fun i hi => ⟨_, _, rfl, by simp, ?_⟩⟩
  have e : (w.alloc (.cells (ptsV l).toArray T m)).heap[w.heap.size]? = some (.cells (ptsV l).toArray T m) := by
    show (w.heap.push _)[w.heap.size]? = _
    simp
  rw [Nat.zero_add, cell_of_row _ _ _ _ _ _ e]
  simp [hi]
end

end Go.Proofs.YtoggbmfjjenbaaaGreatDoor
