/- Numbers as bytes in plain Lean: groups of seven digits; numbers with signs. Reading an object out of bytes, in plain Lean. Slices that are only read ('Rd'), rows that the call itself owns, and append of any source onto such a row. Errors: none, a number, a Fault. Coordinates and points that may be; plane.far. Segments and rings in plain Lean. Slices of points that can be read; objects. -/
import Derived.Test.YthcfekabeidmiaaRRDoorRChecked
import Derived.WalkKit
import Derived.ProofKit
import Derived.Lib.Hide
import Derived.Laws.AppendOwnNone
import Derived.Deep.Draws
import Derived.WalkSpells
set_option linter.unusedSimpArgs false
set_option linter.unusedVariables false
namespace Go.Proofs.YthcfekabeidmiaaRRDoorR
/-! EncMath -/
section
/-- a number in groups of seven digits, the least first -/
def vint (v : Nat) : List UInt8 :=
  if h : v < 128 then [UInt8.ofNat v] else UInt8.ofNat (v % 128 + 128) :: vint (v / 128)
termination_by v
decreasing_by omega
theorem vint_small {v : Nat} (h : v < 128) : vint v = [UInt8.ofNat v] := by rw [vint, dif_pos h]
theorem vint_big {v : Nat} (h : ¬ v < 128) : vint v = UInt8.ofNat (v % 128 + 128) :: vint (v / 128) := by rw [vint, dif_neg h]
theorem vint_len : ∀ (k v : Nat), v < 128 ^ (k + 1) → (vint v).length ≤ k + 1
  | 0, v, h => by rw [vint_small (by simpa using h)]; simp
  | k + 1, v, h => by
    by_cases hv : v < 128
    · rw [vint_small hv]; simp
    · rw [vint_big hv, List.length_cons]
      have := vint_len k (v / 128) (by rw [Nat.div_lt_iff_lt_mul (by omega)]; rwa [Nat.pow_succ] at h)
      omega
theorem vint_len64 (v : Nat) (h : v < 18446744073709551616) : (vint v).length ≤ 10 := vint_len 9 v (by omega)
theorem vint_pos (v : Nat) : 1 ≤ (vint v).length := by
  by_cases hv : v < 128
  · rw [vint_small hv]; simp
  · rw [vint_big hv]; simp
theorem vint_mono (v : Nat) : ∀ w, v ≤ w → (vint v).length ≤ (vint w).length := by
  induction v using Nat.strongRecOn with
  | _ v ih =>
    intro w h
    by_cases hv : v < 128
    · rw [vint_small hv]; simp only [List.length_singleton]; exact vint_pos w
    · rw [vint_big hv, vint_big (show ¬ w < 128 by omega), List.length_cons, List.length_cons]
      have := ih (v / 128) (by omega) (w / 128) (Nat.div_le_div_right h)
      omega

/-- the number that bytes begin with, from the byte 10 - k on -/
def unvAt (b : List UInt8) : Nat → Nat → Nat × Nat
  | 0, _ => (0, 0)
  | k + 1, v =>
    match b[9 - k]? with
    | none => (0, 0)
    | some c =>
      if c.toNat < 128 then (if (k = 0 ∧ 1 < c.toNat) ∨ (k < 9 ∧ c.toNat = 0) then (0, 0) else (v + c.toNat * 128 ^ (9 - k), 10 - k))
      else unvAt b k (v + c.toNat % 128 * 128 ^ (9 - k))
/-- the number that bytes begin with, and of how many bytes it is -/
def unv (b : List UInt8) : Nat × Nat := unvAt b 10 0

/-- there and back -/
theorem unvAt_vint (z : Nat) : ∀ (p q : List UInt8) (k v : Nat), p.length + k = 10 → z * 128 ^ p.length < 18446744073709551616 → (1 ≤ p.length → z ≠ 0) → unvAt (p ++ (vint z ++ q)) k v = (v + z * 128 ^ p.length, p.length + (vint z).length) := by
  induction z using Nat.strongRecOn with
  | _ z ih =>
    intro p q k v hk hz h0
    cases k with
    | zero =>
      have hp : p.length = 10 := by omega
      rw [hp] at hz
      have := h0 (by omega)
      omega
    | succ k =>
      have hp : 9 - k = p.length := by omega
      unfold unvAt
      rw [hp]
      by_cases hv : z < 128
      · rw [vint_small hv]
        have e : (p ++ ([UInt8.ofNat z] ++ q))[p.length]? = some (UInt8.ofNat z) := by simp
        rw [e]
        have et : (UInt8.ofNat z).toNat = z := by simp; omega
        simp only [et]
        rw [if_pos hv, if_neg]
        · rw [show 10 - k = p.length + [UInt8.ofNat z].length by simp; omega]
        · rintro (⟨rfl, h2⟩ | ⟨h1, h2⟩)
          · have hp9 : p.length = 9 := by omega
            rw [hp9] at hz
            omega
          · exact h0 (by omega) h2
      · rw [vint_big hv]
        have e : (p ++ (UInt8.ofNat (z % 128 + 128) :: vint (z / 128) ++ q))[p.length]? = some (UInt8.ofNat (z % 128 + 128)) := by simp
        rw [e]
        have et : (UInt8.ofNat (z % 128 + 128)).toNat = z % 128 + 128 := by simp; omega
        simp only [et]
        rw [if_neg (by omega), show (z % 128 + 128) % 128 = z % 128 by omega]
        have e2 : p ++ (UInt8.ofNat (z % 128 + 128) :: vint (z / 128) ++ q) = (p ++ [UInt8.ofNat (z % 128 + 128)]) ++ (vint (z / 128) ++ q) := by simp
        have hm : z / 128 * 128 ^ (p.length + 1) + z % 128 * 128 ^ p.length = z * 128 ^ p.length := by
          rw [Nat.pow_succ, Nat.mul_comm (128 ^ p.length) 128, ← Nat.mul_assoc, ← Nat.add_mul]
          congr 1; omega
        have hl : (p ++ [UInt8.ofNat (z % 128 + 128)]).length = p.length + 1 := by simp
        rw [e2, ih (z / 128) (by omega) _ q k _ (by rw [hl]; omega) (by rw [hl]; omega) (fun _ => by omega), hl, List.length_cons]
        refine Prod.ext ?_ ?_
        · simp only; omega
        · simp only; omega
theorem unv_vint (z : Nat) (q : List UInt8) (h : z < 18446744073709551616) : unv (vint z ++ q) = (z, (vint z).length) := by
  have := unvAt_vint z [] q 10 0 (by simp) (by simpa using h) (by simp)
  simpa [unv] using this
theorem vint_inj {a b : Nat} (ha : a < 18446744073709551616) (hb : b < 18446744073709551616) (h : vint a = vint b) : a = b := by
  have h1 := unv_vint a [] ha
  have h2 := unv_vint b [] hb
  rw [h, h2] at h1
  exact (congrArg Prod.fst h1).symm
theorem unvAt_le (b : List UInt8) : ∀ (k v : Nat), k ≤ 10 → (unvAt b k v).2 ≤ 10 ∧ (unvAt b k v).2 ≤ b.length ∧ (v < 128 ^ (10 - k) → (unvAt b k v).1 < 18446744073709551616)
  | 0, v, _ => by simp [unvAt]
  | k + 1, v, hk => by
    unfold unvAt
    cases hb : b[9 - k]? with
    | none => simp
    | some c =>
      have hlt : 9 - k < b.length := by
        have := List.getElem?_eq_some_iff.1 hb
        exact this.1
      have ih := unvAt_le b k (v + c.toNat % 128 * 128 ^ (9 - k)) (by omega)
      simp only
      have hpow : 128 ^ (10 - k) = 128 ^ (9 - k) * 128 := by rw [← Nat.pow_succ]; congr 1; omega
      split
      · rename_i hc
        split
        · simp
        · rename_i hn
          refine ⟨by simp, by simp; omega, fun hv => ?_⟩
          simp only
          have e9 : 10 - (k + 1) = 9 - k := by omega
          rw [e9] at hv
          by_cases hk0 : k = 0
          · subst hk0
            have hc1 : c.toNat ≤ 1 := by omega
            have : c.toNat * 128 ^ (9 - 0) ≤ 1 * 128 ^ (9 - 0) := Nat.mul_le_mul_right _ hc1
            omega
          · have hle : 128 ^ (10 - k) ≤ 128 ^ 9 := Nat.pow_le_pow_right (by omega) (by omega)
            have : c.toNat * 128 ^ (9 - k) ≤ 127 * 128 ^ (9 - k) := Nat.mul_le_mul_right _ (by omega)
            omega
      · refine ⟨ih.1, ih.2.1, fun hv => ih.2.2 ?_⟩
        have e9 : 10 - (k + 1) = 9 - k := by omega
        rw [e9] at hv
        have hm : c.toNat % 128 * 128 ^ (9 - k) ≤ 127 * 128 ^ (9 - k) := Nat.mul_le_mul_right _ (by omega)
        omega
theorem unv_le (b : List UInt8) : (unv b).2 ≤ 10 ∧ (unv b).2 ≤ b.length ∧ (unv b).1 < 18446744073709551616 := by
  obtain ⟨h1, h2, h3⟩ := unvAt_le b 10 0 (by omega)
  exact ⟨h1, h2, h3 (by omega)⟩

/-- a number with a sign, without one -/
def zig (n : Int) : Nat := if n < 0 then (2 * (-(n + 1)) + 1).toNat else (2 * n).toNat
/-- a number without a sign, with one -/
def zag (v : Nat) : Int := if v % 2 = 1 then -((v / 2 : Nat) : Int) - 1 else ((v / 2 : Nat) : Int)
theorem zag_zig (n : Int) : zag (zig n) = n := by
  unfold zag zig
  split <;> split <;> omega
theorem zig_lt (n : Int) (h : -9223372036854775808 ≤ n ∧ n ≤ 9223372036854775807) : zig n < 18446744073709551616 := by
  unfold zig
  split <;> omega
/-- the number with a sign that bytes begin with -/
def unsg (b : List UInt8) : Int × Nat × Bool := if (unv b).2 = 0 then (0, 0, false) else (zag (unv b).1, (unv b).2, true)
end

/-! UnobMath -/
section
/-- points read one by one: what is read, where the next one begins, and whether one was none -/
def rdAt (b : List UInt8) (at0 : Nat) (bad0 : Bool) : Nat → List (Int × Int) × Nat × Bool
  | 0 => ([], at0, bad0)
  | i + 1 =>
    let s := rdAt b at0 bad0 i
    let x := unsg (b.drop s.2.1)
    let y := unsg (b.drop (s.2.1 + x.2.1))
    (s.1 ++ [(x.1, y.1)], s.2.1 + x.2.1 + y.2.1, s.2.2 || !x.2.2 || !y.2.2)
theorem rdAt_bad {b : List UInt8} {a : Nat} {bad : Bool} {i : Nat} (h : (rdAt b a bad i).2.2 = true) : ∀ k, (rdAt b a bad (i + k)).2.2 = true
  | 0 => h
  | k + 1 => by
    have := rdAt_bad h k
    rw [← Nat.add_assoc]
    simp [rdAt, this]
theorem rdAt_bad' {b : List UInt8} {a : Nat} {bad : Bool} {i j : Nat} (h : (rdAt b a bad i).2.2 = true) (hij : i ≤ j) : (rdAt b a bad j).2.2 = true := by
  have := rdAt_bad h (j - i)
  rwa [Nat.add_sub_cancel' hij] at this
theorem rdAt_len (b : List UInt8) (a : Nat) (bad : Bool) : ∀ i, (rdAt b a bad i).1.length = i
  | 0 => rfl
  | i + 1 => by
    have := rdAt_len b a bad i
    simp [rdAt, this]
theorem unsg_le (b : List UInt8) : (unsg b).2.1 ≤ 10 ∧ (unsg b).2.1 ≤ b.length := by
  have h := unv_le b
  unfold unsg
  split
  · exact ⟨Nat.zero_le _, Nat.zero_le _⟩
  · exact ⟨h.1, h.2.1⟩
theorem unsg_range (b : List UInt8) : -9223372036854775808 ≤ (unsg b).1 ∧ (unsg b).1 ≤ 9223372036854775807 := by
  have h := (unv_le b).2.2
  unfold unsg
  split
  · exact ⟨by decide, by decide⟩
  · unfold zag
    split <;> (simp only; omega)
theorem rdAt_le {b : List UInt8} {a : Nat} {bad : Bool} (h : a ≤ b.length) : ∀ i, (rdAt b a bad i).2.1 ≤ b.length
  | 0 => h
  | i + 1 => by
    have h0 := rdAt_le (bad := bad) h i
    have h1 := (unsg_le (b.drop (rdAt b a bad i).2.1)).2
    have h2 := (unsg_le (b.drop ((rdAt b a bad i).2.1 + (unsg (b.drop (rdAt b a bad i).2.1)).2.1))).2
    rw [List.length_drop] at h1 h2
    simp only [rdAt]
    omega
end

/-! Mem -/
section
open Go.RowKit

/-- In world w the value v is a slice of n elements whose cells, one behind the other, read as xs. -/
def Rd (w : World) (v : Value) (n : Nat) (xs : List Value) : Prop :=
  ∃ ao c, v = .slice ao n c ∧ n ≤ c ∧ c ≤ maxLen ∧ (ao = none → c = 0) ∧
    ∀ i (h : i < xs.length), ∃ b off, ao = some ⟨b, off, none⟩ ∧ b < w.heap.size ∧ w.cell? ⟨b, off + i, none⟩ = some xs[i]

theorem Rd.below {w w' : World} {v : Value} {n : Nat} {xs : List Value} (h : Rd w v n xs) (hb : Below w.heap.size w w') : Rd w' v n xs := by
  obtain ⟨ao, c, hv, h1, h2, h0, h3⟩ := h
  refine ⟨ao, c, hv, h1, h2, h0, fun i hi => ?_⟩
  obtain ⟨b, off, e, hlt, hc⟩ := h3 i hi
  exact ⟨b, off, e, Nat.lt_of_lt_of_le hlt hb.size, (hb.cell (p := ⟨b, off + i, none⟩) hlt).trans hc⟩

theorem Rd.nil (w : World) : Rd w (.slice none 0 0) 0 [] := ⟨none, 0, rfl, Nat.le_refl _, by simp [maxLen], fun _ => rfl, fun i h => by simp at h⟩

theorem Rd.alloc {w : World} {v : Value} {n : Nat} {xs : List Value} (h : Rd w v n xs) (o : Obj) : Rd (w.alloc o) v n xs :=
  h.below ((Below.refl _ _).alloc (Nat.le_refl _) _)

/-- What is owned can be read. -/
theorem Rd.of_own {w : World} {base : Nat} {e : TypeId} {size n : Nat} {v : Value} {xs : List Value} (h : w.ownsRow base e size v n xs) : Rd w v n xs := by
  obtain ⟨h1, ⟨rfl, rfl⟩ | ⟨g, cap, cur, rfl, hb, hg, hn, hm, hs, ht⟩⟩ := h
  · obtain rfl : xs = [] := List.eq_nil_of_length_eq_zero (by simpa using h1)
    exact Rd.nil w
  · refine ⟨some ⟨g, 0, none⟩, cap, rfl, hn, hm, (fun h => by cases h), fun i hi => ⟨g, 0, rfl, (Array.getElem?_eq_some_iff.1 hg).1, ?_⟩⟩
    have hown : w.ownsRow base e size (.slice (some ⟨g, 0, none⟩) n cap) n xs := ⟨h1, .inr ⟨g, cap, cur, rfl, hb, hg, hn, hm, hs, ht⟩⟩
    have := hown.cellAt i (by omega)
    rw [Nat.zero_add, this, List.getElem?_eq_getElem hi]

/-- What is owned stays owned where nothing below the heap's size turns. -/
theorem own_below {w w' : World} {base : Nat} {e : TypeId} {size n : Nat} {v : Value} {xs : List Value} (h : w.ownsRow base e size v n xs) {B : Nat} (hb : Below B w w') (hB : ∀ k, v.ownBlock = some k → k < B) : w'.ownsRow base e size v n xs := by
  refine ⟨h.1, ?_⟩
  rcases h.2 with hn | ⟨g, cap, cur, rfl, hbg, hg, r⟩
  · exact .inl hn
  · exact .inr ⟨g, cap, cur, rfl, hbg, by rw [hb.block g (hB g (by simp [Value.ownBlock]))]; exact hg, r⟩

theorem own_below' {w w' : World} {base : Nat} {e : TypeId} {size n : Nat} {v : Value} {xs : List Value} (h : w.ownsRow base e size v n xs) (hb : Below w.heap.size w w') : w'.ownsRow base e size v n xs :=
  own_below h hb fun k hk => (h.lt k hk).2

theorem own_base {w : World} {base base' : Nat} {e : TypeId} {size n : Nat} {v : Value} {xs : List Value} (h : w.ownsRow base e size v n xs) (hb : base' ≤ base) : w.ownsRow base' e size v n xs := by
  refine ⟨h.1, ?_⟩
  rcases h.2 with hn | ⟨g, cap, cur, hv, hbg, r⟩
  · exact .inl hn
  · exact .inr ⟨g, cap, cur, hv, Nat.le_trans hb hbg, r⟩

theorem below_grown {B : Nat} {w w' : World} {base : Nat} {e : TypeId} {size n : Nat} {v : Value} {xs : List Value} (h : w.ownsRow base e size v n xs) (hg : w.grownBy w' v.ownBlock) (hB : B ≤ base) (hs : B ≤ w.heap.size) : Below B w w' :=
  (Below.refl B w).grown hg hs fun k hk => Nat.le_trans hB (h.lt k hk).1

/-- append(v, x...): v owned, x whatever can be read. -/
theorem wp_append_rd {P : Program} {w : World} {o : Oper} {a : Act} {K : Act → World → Prop} {Q : Exit → Act → World → Prop} (s x : Operand) (t : TypeId)
    (ho : o.op = .call { callee := .builtin .append, args := #[s, x], argTypes := #[t, t] })
    (base : Nat) (e : TypeId) (z : Value) (size bytes : Nat) (ht : P.underlying t = some (.slice e)) (hi : (P.info? e).map (fun i => (i.zero, i.size, i.bytes)) = some (some z, size, bytes))
    (hzs : z.cells.size = size) (hsz : 0 < size)
    (v : Value) (n : Nat) (xs : List Value) (hs : a.eval s = v) (hown : w.ownsRow base e size v n xs)
    (y : Value) (m : Nat) (news : List Value) (hx : a.eval x = y) (hy : Rd w y m news) (hl : news.length = m * size) (h1 : ∀ u ∈ news, u.oneCell' = true)
    (h63 : n + m ≤ maxLen) (hbytes : (n + m) * bytes ≤ 140737488355328) (hbase : base ≤ w.heap.size)
    (h : ∀ v' w', w'.ownsRow base e size v' (n + m) (xs ++ news) → Below base w w' → (v' = .slice none 0 0 ↔ v = .slice none 0 0 ∧ m = 0) → K (a.put o.dst v') w') : o.wp P a w K Q := by
  obtain ⟨i, hi, hz, hsize, hby⟩ := info_parts hi
  obtain ⟨ao, c, rfl, h2, h3, h0, h4⟩ := hy
  cases ao with
  | none =>
    obtain rfl := h0 rfl
    obtain rfl : m = 0 := by omega
    obtain rfl : news = [] := List.eq_nil_of_length_eq_zero (by simpa using hl)
    have hrun := run_append_owned_none (P := P) (w := w) base t o.type e i size ht hi v n xs hown
    unfold Oper.wp
    simp [execOp, ho, resolve, invoke, builtin, hs, hx, hrun, Result.andThen]
    exact h v w (by simpa using hown) (Below.refl _ _) (by simp)
  | some ad =>
    refine wp_append_own w s x t ho base e i z size bytes ht hi hz hsize hby hzs hsz v n xs hs hown ad m c news hx hl ?_ h1 h63 hbytes hbase ?_
    · intro j u hu
      obtain ⟨hj, rfl⟩ := List.getElem?_eq_some_iff.1 hu
      obtain ⟨b, off, e, hlt, hc⟩ := h4 j hj
      obtain rfl := Option.some.inj e
      rw [Addr.add_lit]
      exact hc
    · intro v' w' h5 h6 h7
      exact h v' w' h5 (below_grown hown h6 (Nat.le_refl _) hbase) h7

theorem wpList_append_rd {P : Program} {w : World} {ops : Array Oper} {rest : List Oper} {o : Oper} {a : Act} {Q : Exit → Act → World → Prop} (hgd : o.guard = none) (s x : Operand) (t : TypeId)
    (ho : o.op = .call { callee := .builtin .append, args := #[s, x], argTypes := #[t, t] })
    (base : Nat) (e : TypeId) (z : Value) (size bytes : Nat) (ht : P.underlying t = some (.slice e)) (hi : (P.info? e).map (fun i => (i.zero, i.size, i.bytes)) = some (some z, size, bytes))
    (hzs : z.cells.size = size) (hsz : 0 < size)
    (v : Value) (n : Nat) (xs : List Value) (hs : a.eval s = v) (hown : w.ownsRow base e size v n xs)
    (y : Value) (m : Nat) (news : List Value) (hx : a.eval x = y) (hy : Rd w y m news) (hl : news.length = m * size) (h1 : ∀ u ∈ news, u.oneCell' = true)
    (h63 : n + m ≤ maxLen) (hbytes : (n + m) * bytes ≤ 140737488355328) (hbase : base ≤ w.heap.size)
    (h : ∀ v' w', w'.ownsRow base e size v' (n + m) (xs ++ news) → Below base w w' → (v' = .slice none 0 0 ↔ v = .slice none 0 0 ∧ m = 0) → wpList P ops Q rest (a.put o.dst v') w') : wpList P ops Q (o :: rest) a w :=
  wpList_plain hgd fun _ hK => wp_append_rd s x t ho base e z size bytes ht hi hzs hsz v n xs hs hown y m news hx hy hl h1 h63 hbytes hbase fun v' w' h2 h3 h4 => hK _ _ (h v' w' h2 h3 h4)

/-- the same at a step of a region that draws its order -/
theorem step_append_rd {P : Program} {w : World} {ops : Array Oper} {o : Oper} {a : Act} {K : Act → World → Prop} {Q : Exit → Act → World → Prop} {E : Prop} (hgd : o.guard = none) (s x : Operand) (t : TypeId)
    (ho : o.op = .call { callee := .builtin .append, args := #[s, x], argTypes := #[t, t] })
    (base : Nat) (e : TypeId) (z : Value) (size bytes : Nat) (ht : P.underlying t = some (.slice e)) (hi : (P.info? e).map (fun i => (i.zero, i.size, i.bytes)) = some (some z, size, bytes))
    (hzs : z.cells.size = size) (hsz : 0 < size)
    (v : Value) (n : Nat) (xs : List Value) (hs : a.eval s = v) (hown : w.ownsRow base e size v n xs)
    (y : Value) (m : Nat) (news : List Value) (hx : a.eval x = y) (hy : Rd w y m news) (hl : news.length = m * size) (h1 : ∀ u ∈ news, u.oneCell' = true)
    (h63 : n + m ≤ maxLen) (hbytes : (n + m) * bytes ≤ 140737488355328) (hbase : base ≤ w.heap.size)
    (h : ∀ v' w', w'.ownsRow base e size v' (n + m) (xs ++ news) → Below base w w' → (v' = .slice none 0 0 ↔ v = .slice none 0 0 ∧ m = 0) → K (a.put o.dst v') w') :
    if Region.wanted o (yielded ops a.tmps) = true then Oper.wp P o a w K Q else E := by
  have hw : Region.wanted o (yielded ops a.tmps) = true := by simp [Region.wanted, hgd]
  rw [if_pos hw]
  exact wp_append_rd s x t ho base e z size bytes ht hi hzs hsz v n xs hs hown y m news hx hy hl h1 h63 hbytes hbase h

/-- A new block of one row of cells can be read whole. -/
theorem rd_alloc (w : World) (cs : Array Value) (e : TypeId) (m : Nat × Nat) (n : Nat) (hn : n ≤ maxLen) : Rd (w.alloc (.cells cs e m)) (.slice (some ⟨w.heap.size, 0, none⟩) n n) n cs.toList := by
  refine ⟨_, _, rfl, Nat.le_refl _, hn, (fun h => by cases h), fun i hi => ⟨_, _, rfl, by simp, ?_⟩⟩
  have e : (w.alloc (.cells cs e m)).heap[w.heap.size]? = some (.cells cs e m) := by
    show (w.heap.push _)[w.heap.size]? = _
    simp
  rw [Nat.zero_add, cell_of_row _ _ _ _ _ _ e]
  simp at hi
  simp [hi]

theorem Rd.take {w : World} {ao : Option Addr} {n c : Nat} {xs : List Value} (h : Rd w (.slice ao n c) n xs) {m k : Nat} (hm : m ≤ n) : Rd w (.slice ao m c) m (xs.take k) := by
  obtain ⟨ao', c', hv, h1, h2, h0, h3⟩ := h
  simp only [Value.slice.injEq, true_and] at hv
  obtain ⟨rfl, rfl⟩ := hv
  refine ⟨_, _, rfl, by omega, h2, h0, fun i hi => ?_⟩
  simp only [List.length_take] at hi
  obtain ⟨b, off, e, hb, hc⟩ := h3 i (by omega)
  exact ⟨b, off, e, hb, by rw [List.getElem_take]; exact hc⟩

theorem Rd.drop {w : World} {b off n c : Nat} {xs : List Value} (h : Rd w (.slice (some ⟨b, off, none⟩) n c) n xs) {m k : Nat} (hm : m ≤ n) : Rd w (.slice (some ⟨b, off + k, none⟩) (n - m) (c - m)) (n - m) (xs.drop k) := by
  obtain ⟨ao', c', hv, h1, h2, h0, h3⟩ := h
  simp only [Value.slice.injEq, true_and] at hv
  obtain ⟨rfl, rfl⟩ := hv
  refine ⟨_, _, rfl, by omega, by omega, (fun h => by cases h), fun i hi => ?_⟩
  simp only [List.length_drop] at hi
  obtain ⟨b', off', e, hb, hc⟩ := h3 (k + i) (by omega)
  cases e
  exact ⟨b, off + k, rfl, hb, by rw [List.getElem_drop, Nat.add_assoc]; exact hc⟩

theorem Rd.drew {w : World} {v : Value} {n : Nat} {xs : List Value} (h : Rd w v n xs) : Rd w.drew v n xs := h

/-- x[lo:hi] with numbers that are known to fit. -/
theorem wpList_slice_lh {P : Program} {w : World} {ops : Array Oper} {rest : List Oper} {o : Oper} {a : Act} {Q : Exit → Act → World → Prop} (hgd : o.guard = none) (x lo hi : Operand) (t e : TypeId)
    (ho : o.op = .slice t x (some lo) (some hi) none) (ht : P.underlying t = some (.slice e)) (size : Nat) (hsz : (sizeOf e).run P w = .ok size w)
    (b off n c : Nat) (hx : a.eval x = .slice (some ⟨b, off, none⟩) n c) (kl kh : IntKind) (l h : Int) (hl : a.eval lo = .int kl l) (hh : a.eval hi = .int kh h) (L H : Nat) (eL : l = (L : Int)) (eH : h = (H : Int))
    (h1 : L ≤ H) (h2 : H ≤ c) (h3 : L < c) (next : wpList P ops Q rest (a.put o.dst (.slice (some ⟨b, off + L * size, none⟩) (H - L) (c - L))) w) : wpList P ops Q (o :: rest) a w := by
  refine wpList_plain hgd fun K hK => ?_
  subst eL eH
  have he : P.elem t = e := by simp [Program.elem, ht]
  have ht' : P.underlying t = some (.slice (P.elem t)) := by rw [he]; exact ht
  have hrun := run_slice_lh (P := P) w t (some ⟨b, off, none⟩) n c ht' kl kh (L : Int) (H : Int) (by omega) (by omega) (by omega)
  have hat := run_sliceAt_slice (P := P) w t (.slice (some ⟨b, off, none⟩) n c) (some (.int kl (L : Int))) (some (.int kh (H : Int))) none ht'
  rw [hrun, he, hsz] at hat
  have hv : sliced (some ⟨b, off, none⟩) (L : Int).toNat (H : Int).toNat c size = .slice (some ⟨b, off + L * size, none⟩) (H - L) (c - L) := by
    simp only [sliced, Int.toNat_natCast]
    rw [if_neg (by omega)]
    simp [Addr.add_lit]
  simp only [Result.andThen, hv] at hat
  unfold Oper.wp
  simp [execOp, ho, hx, hl, hh, hat, Result.andThen]
  exact hK _ _ next

/-- The cells of bytes. -/
def bytesV (l : List UInt8) : List Value := l.map fun c => Value.int .u8 (c.toNat : Int)
theorem bytesV_length (l : List UInt8) : (bytesV l).length = l.length := by simp [bytesV]
theorem bytesV_append (l m : List UInt8) : bytesV (l ++ m) = bytesV l ++ bytesV m := by simp [bytesV]
theorem bytesV_one (l : List UInt8) : ∀ u ∈ bytesV l, u.oneCell' = true := by
  intro u hu
  obtain ⟨c, _, rfl⟩ := List.mem_map.1 hu
  rfl
end

/-! Er -/
section
open Go.RowKit

/-! ### errors -/
/-- an error: none; a number; a Fault -/
inductive Er where
  | none
  | num (k : Int)
  | fault (op : ByteArray) (id : Int) (inner : Er)

/-- In world w the value v of type error is so. -/
def Er.Is (w : World) : Er → Value → Prop
  | .none, v => v = .nilIface
  | .num k, v => v = .iface 54 (.int .i64 k)
  | .fault op id inner, v => ∃ b u, v = .iface 61 (.pointer (some ⟨b, 0, Option.none⟩)) ∧ b < w.heap.size ∧ w.cell? ⟨b, 0, Option.none⟩ = some (.string op) ∧ w.cell? ⟨b, 1, Option.none⟩ = some (.int .i64 id) ∧ w.cell? ⟨b, 2, Option.none⟩ = some u ∧ inner.Is w u

theorem Er.Is.below {w w' : World} (hb : Below w.heap.size w w') : ∀ {e : Er} {v : Value}, e.Is w v → e.Is w' v
  | .none, _, h => h
  | .num _, _, h => h
  | .fault _ _ _, _, ⟨b, u, h1, h2, h3, h4, h5, h6⟩ => ⟨b, u, h1, Nat.lt_of_lt_of_le h2 hb.size, (hb.cell (p := ⟨b, 0, Option.none⟩) h2).trans h3, (hb.cell (p := ⟨b, 1, Option.none⟩) h2).trans h4, (hb.cell (p := ⟨b, 2, Option.none⟩) h2).trans h5, Er.Is.below hb h6⟩

/-- The call hands back an error. -/
def ErRet (w : World) (x : Er) (e : Ending) (w' : World) : Prop := ∃ v, e = .returned v ∧ x.Is w' v ∧ Below w.heap.size w w'

/-- what fault.New makes of an error -/
def Er.wrap (op : ByteArray) (id : Int) : Er → Er
  | .none => .none
  | e => .fault op id e
end

/-! InP -/
section
open Go.RowKit

/-- may a coordinate be? -/
def inC (n : Int) : Prop := -1073741823 ≤ n ∧ n ≤ 1073741823
instance (n : Int) : Decidable (inC n) := inferInstanceAs (Decidable (_ ∧ _))
/-- may a point be? -/
def inP (x y : Int) : Prop := inC x ∧ inC y
instance (x y : Int) : Decidable (inP x y) := inferInstanceAs (Decidable (_ ∧ _))

theorem far_no (n : Int) (w : World) (h : inC n) : Calls Tryd.prog 55 #[.int .i64 n] w fun e w' => e = .returned (.bool false) ∧ w = w' := by
  obtain ⟨h1, h2⟩ := h
  have t1 : decide (n < -1073741823) = false := by simp; omega
  have t2 : decide (1073741823 < n) = false := by simp; omega
  go_enter Tryd.func55, Tryd.ntmps55
  go_wp2
  go_ret
  exact ⟨rfl, rfl⟩
theorem far_yes (n : Int) (w : World) (h : ¬ inC n) : Calls Tryd.prog 55 #[.int .i64 n] w fun e w' => e = .returned (.bool true) ∧ w = w' := by
  by_cases h1 : n < -1073741823
  · have t1 : decide (n < -1073741823) = true := by simp; omega
    clear h
    go_enter Tryd.func55, Tryd.ntmps55
    go_wp2
    go_ret
    exact ⟨rfl, rfl⟩
  · have t1 : decide (n < -1073741823) = false := by simp; omega
    have t2 : decide (1073741823 < n) = true := by unfold inC at h; simp; omega
    clear h
    go_enter Tryd.func55, Tryd.ntmps55
    go_wp2
    go_ret
    exact ⟨rfl, rfl⟩
end

/-! Geo -/
section
abbrev Pt := Int × Int
/-- may a point be? -/
def okP (p : Pt) : Bool := decide (inP p.1 p.2)
def allP (l : List Pt) : Bool := l.all okP
theorem allP_snoc (l : List Pt) (k : Nat) (h : k < l.length) : allP (l.take (k + 1)) = (allP (l.take k) && okP l[k]) := by
  unfold allP
  rw [List.take_succ_eq_append_getElem h, List.all_append]
  simp
theorem allP_false (l : List Pt) (k : Nat) (h : k < l.length) (hf : okP l[k] = false) : allP l = false := by
  unfold allP
  rw [List.all_eq_false]
  exact ⟨l[k], List.getElem_mem h, by simp [hf]⟩
theorem okP_inP {p : Pt} (h : okP p = true) : inP p.1 p.2 := of_decide_eq_true h

theorem mul_bd (u v M : Int) (h1 : -M ≤ u) (h2 : u ≤ M) (h3 : -M ≤ v) (h4 : v ≤ M) : -(M * M) ≤ u * v ∧ u * v ≤ M * M := by
  have a1 : 0 ≤ (M - u) * (M + v) := Int.mul_nonneg (by omega) (by omega)
  have a2 : 0 ≤ (M + u) * (M - v) := Int.mul_nonneg (by omega) (by omega)
  have a3 : 0 ≤ (M - u) * (M - v) := Int.mul_nonneg (by omega) (by omega)
  have a4 : 0 ≤ (M + u) * (M + v) := Int.mul_nonneg (by omega) (by omega)
  simp only [Int.sub_mul, Int.add_mul, Int.mul_sub, Int.mul_add] at a1 a2 a3 a4
  have e : M * u = u * M := Int.mul_comm _ _
  have e2 : M * v = v * M := Int.mul_comm _ _
  omega

/-- twice the area of three points, with its sign -/
def crs (a b c : Pt) : Int := (b.1 - a.1) * (c.2 - a.2) - (b.2 - a.2) * (c.1 - a.1)
theorem inP_diff {a b : Pt} (ha : inP a.1 a.2) (hb : inP b.1 b.2) : -2147483646 ≤ b.1 - a.1 ∧ b.1 - a.1 ≤ 2147483646 ∧ -2147483646 ≤ b.2 - a.2 ∧ b.2 - a.2 ≤ 2147483646 := by
  obtain ⟨⟨_, _⟩, _, _⟩ := ha
  obtain ⟨⟨_, _⟩, _, _⟩ := hb
  omega
theorem crs_parts {a b c : Pt} (ha : inP a.1 a.2) (hb : inP b.1 b.2) (hc : inP c.1 c.2) :
    (-4611686009837453316 ≤ (b.1 - a.1) * (c.2 - a.2) ∧ (b.1 - a.1) * (c.2 - a.2) ≤ 4611686009837453316) ∧ (-4611686009837453316 ≤ (b.2 - a.2) * (c.1 - a.1) ∧ (b.2 - a.2) * (c.1 - a.1) ≤ 4611686009837453316) := by
  obtain ⟨h1, h2, h3, h4⟩ := inP_diff ha hb
  obtain ⟨k1, k2, k3, k4⟩ := inP_diff ha hc
  have p := mul_bd (b.1 - a.1) (c.2 - a.2) 2147483646 h1 h2 k3 k4
  have q := mul_bd (b.2 - a.2) (c.1 - a.1) 2147483646 h3 h4 k1 k2
  omega
/-- a number's sign -/
def sgn (x : Int) : Int := if x < 0 then -1 else if x = 0 then 0 else 1
theorem sgn_zero {x : Int} : sgn x = 0 ↔ x = 0 := by unfold sgn; split <;> (try split) <;> omega
theorem sgn_pos {x : Int} : 0 < sgn x ↔ 0 < x := by unfold sgn; split <;> (try split) <;> omega
theorem sgn_bd (x : Int) : -1 ≤ sgn x ∧ sgn x ≤ 1 := by unfold sgn; split <;> (try split) <;> omega
/-- is p in the least box that has a and b? -/
def boxB (a b p : Pt) : Bool := decide (min a.1 b.1 ≤ p.1 ∧ p.1 ≤ max a.1 b.1 ∧ min a.2 b.2 ≤ p.2 ∧ p.2 ≤ max a.2 b.2)
/-- is p on the segment from a to b? -/
def onB (a b p : Pt) : Bool := okP a && okP b && okP p && decide (crs a b p = 0) && boxB a b p
def properB (a b c d : Pt) : Bool := decide (sgn (crs a b c) * sgn (crs a b d) < 0) && decide (sgn (crs c d a) * sgn (crs c d b) < 0)
def meetB (a b c d : Pt) : Bool := properB a b c d || onB a b c || onB a b d || onB c d a || onB c d b
theorem properB_comm (a b c d : Pt) : properB a b c d = properB c d a b := by unfold properB; rw [Bool.and_comm]
theorem meetB_comm (a b c d : Pt) : meetB a b c d = meetB c d a b := by
  unfold meetB
  rw [properB_comm]
  cases properB c d a b <;> cases onB a b c <;> cases onB a b d <;> cases onB c d a <;> cases onB c d b <;> rfl

/-- the i-th corner -/
def pt (l : List Pt) (i : Nat) : Pt := l.getD i (0, 0)
theorem pt_get (l : List Pt) (i : Nat) (h : i < l.length) : pt l i = l[i] := by simp [pt, List.getD_eq_getElem?_getD, h]
theorem pt_ok {l : List Pt} (h : allP l = true) {i : Nat} (hi : i < l.length) : okP (pt l i) = true := by
  rw [pt_get l i hi]
  exact List.all_eq_true.1 h _ (List.getElem_mem hi)
/-- the program's test of two edges -/
def spoilB (l : List Pt) (i k : Nat) : Bool :=
  let a := pt l i; let b := pt l ((i + 1) % l.length); let c := pt l k; let d := pt l ((k + 1) % l.length)
  if a = c then true
  else if (i + 1) % l.length = k then onB a b d || onB c d a
  else if (k + 1) % l.length = i then onB c d b || onB a b c
  else meetB a b c d
/-- the first number below n for which f is so -/
def first (f : Nat → Bool) (n : Nat) : Option Nat := (List.range n).find? f
theorem first_some {f : Nat → Bool} {n i : Nat} (hi : i < n) (hf : f i = true) (hb : ∀ j, j < i → f j = false) : first f n = some i := by
  unfold first
  rw [List.find?_range_eq_some]
  refine ⟨hf, by simpa using hi, fun j hj => ?_⟩
  simp [hb j hj]
theorem first_none {f : Nat → Bool} {n : Nat} (hb : ∀ j, j < n → f j = false) : first f n = none := by
  unfold first
  rw [List.find?_range_eq_none]
  intro j hj
  simp [hb j hj]
/-- is there a number below n for which f is so? -/
def anyB (f : Nat → Bool) (n : Nat) : Bool := (List.range n).any f
theorem anyB_true {f : Nat → Bool} {n i : Nat} (hi : i < n) (hf : f i = true) : anyB f n = true := List.any_eq_true.2 ⟨i, by simpa using hi, hf⟩
theorem anyB_false {f : Nat → Bool} {n : Nat} (h : ∀ i, i < n → f i = false) : anyB f n = false := by
  unfold anyB
  rw [List.any_eq_false]
  intro i hi
  simp [h i (by simpa using hi)]
theorem anyB_get {f : Nat → Bool} {n : Nat} (h : anyB f n = true) : ∃ i, i < n ∧ f i = true := by
  obtain ⟨i, hi, hf⟩ := List.any_eq_true.1 h
  exact ⟨i, by simpa using hi, hf⟩
theorem anyB_none {f : Nat → Bool} {n : Nat} (h : anyB f n = false) {i : Nat} (hi : i < n) : f i = false := by
  cases hf : f i with
  | false => rfl
  | true => rw [anyB_true hi hf] at h; cases h

/-- does the program blame the corner i? -/
def badI (l : List Pt) (i : Nat) : Bool := anyB (fun k => decide (k ≠ i) && spoilB l i k) l.length
def strRing : ByteArray := ⟨#[114, 105, 110, 103]⟩
/-- why a ring may not be: what the program says -/
def ringEr (l : List Pt) : Er :=
  if l.length < 3 ∨ 64 < l.length then .fault strRing l.length (.num 3)
  else match first (fun i => !okP (pt l i)) l.length with
    | some i => .fault strRing i (.num 2)
    | none => match first (badI l) l.length with
      | some i => .fault strRing i (.num 4)
      | none => .none
end

/-! Pts -/
section
open Go.RowKit

/-- the cells of points, one behind the other -/
def ptsV : List (Int × Int) → List Value
  | [] => []
  | p :: l => .int .i64 p.1 :: .int .i64 p.2 :: ptsV l
theorem ptsV_length : ∀ l, (ptsV l).length = l.length * 2
  | [] => rfl
  | p :: l => by simp [ptsV, ptsV_length l]; omega
theorem ptsV_append : ∀ l m, ptsV (l ++ m) = ptsV l ++ ptsV m
  | [], _ => rfl
  | p :: l, m => by simp [ptsV, ptsV_append l m]
theorem ptsV_get0 : ∀ (l : List (Int × Int)) (i : Nat) (h : i < l.length) (h' : i * 2 < (ptsV l).length), (ptsV l)[i * 2] = .int .i64 (l[i]).1
  | p :: l, 0, _, _ => rfl
  | p :: l, i + 1, h, h' => by
    have e : (ptsV (p :: l))[(i + 1) * 2] = (ptsV l)[i * 2]'(by rw [ptsV_length]; simp at h; omega) := by
      simp only [ptsV, show (i + 1) * 2 = i * 2 + 1 + 1 by omega, List.getElem_cons_succ]
    rw [e, ptsV_get0 l i (by simpa using h) _]
    rfl
theorem ptsV_get1 : ∀ (l : List (Int × Int)) (i : Nat) (h : i < l.length) (h' : i * 2 + 1 < (ptsV l).length), (ptsV l)[i * 2 + 1] = .int .i64 (l[i]).2
  | p :: l, 0, _, _ => rfl
  | p :: l, i + 1, h, h' => by
    have e : (ptsV (p :: l))[(i + 1) * 2 + 1] = (ptsV l)[i * 2 + 1]'(by rw [ptsV_length]; simp at h; omega) := by
      simp only [ptsV, show (i + 1) * 2 + 1 = i * 2 + 1 + 1 + 1 by omega, List.getElem_cons_succ]
    rw [e, ptsV_get1 l i (by simpa using h) _]
    rfl
theorem ptsV_one (l : List (Int × Int)) : ∀ u ∈ ptsV l, u.oneCell' = true := by
  induction l with
  | nil => intro u hu; cases hu
  | cons p l ih =>
    intro u hu
    simp only [ptsV, List.mem_cons] at hu
    rcases hu with rfl | rfl | hu
    · rfl
    · rfl
    · exact ih u hu

/-- In world w the value v is a []api.Point that reads as l. -/
def Pts (w : World) (v : Value) (l : List (Int × Int)) : Prop := Rd w v l.length (ptsV l)
/-- every coordinate is an int -/
def i64B (n : Int) : Prop := -9223372036854775808 ≤ n ∧ n ≤ 9223372036854775807
def PtsB (l : List (Int × Int)) : Prop := ∀ p ∈ l, i64B p.1 ∧ i64B p.2

theorem Pts.open {w : World} {v : Value} {l : List (Int × Int)} (h : Pts w v l) :
    ∃ ao c, v = .slice ao l.length c ∧ l.length ≤ c ∧ c ≤ maxLen ∧ (ao = none → c = 0) ∧
      ∀ i (h : i < l.length), ∃ b off, ao = some ⟨b, off, none⟩ ∧ b < w.heap.size ∧ w.cell? ⟨b, off + i * 2, none⟩ = some (.int .i64 l[i].1) ∧ w.cell? ⟨b, off + i * 2 + 1, none⟩ = some (.int .i64 l[i].2) := by
  obtain ⟨ao, c, hv, h1, h2, h0, h3⟩ := h
  refine ⟨ao, c, hv, h1, h2, h0, fun i hi => ?_⟩
  have hl := ptsV_length l
  obtain ⟨b, off, e, hlt, hc⟩ := h3 (i * 2) (by omega)
  obtain ⟨b', off', e', _, hc'⟩ := h3 (i * 2 + 1) (by omega)
  rw [e] at e'
  cases e'
  exact ⟨b, off, e, hlt, by rw [hc, ptsV_get0 l i hi], by rw [Nat.add_assoc, hc', ptsV_get1 l i hi]⟩
theorem Pts.below {w w' : World} {v : Value} {l : List (Int × Int)} (h : Pts w v l) (hb : Below w.heap.size w w') : Pts w' v l := Rd.below h hb
theorem Pts.alloc {w : World} {v : Value} {l : List (Int × Int)} (h : Pts w v l) (o : Obj) : Pts (w.alloc o) v l := Rd.alloc h o
theorem Pts.drewN {w : World} {v : Value} {l : List (Int × Int)} (h : Pts w v l) (n : Nat) : Pts (w.drewN n) v l := h
theorem Pts.drew {w : World} {v : Value} {l : List (Int × Int)} (h : Pts w v l) : Pts w.drew v l := h
theorem Pts.nil (w : World) : Pts w (.slice none 0 0) [] := Rd.nil w

/-- a new block of points -/
theorem pts_lit (w : World) (l : List (Int × Int)) (T : TypeId) (m : Nat × Nat) (hl : l.length ≤ maxLen) : Pts (w.alloc (.cells (ptsV l).toArray T m)) (.slice (some ⟨w.heap.size, 0, none⟩) l.length l.length) l := by
  refine ⟨_, _, rfl, Nat.le_refl _, hl, (fun h => by cases h), fun i hi => ⟨_, _, rfl, by simp, ?_⟩⟩
  have e : (w.alloc (.cells (ptsV l).toArray T m)).heap[w.heap.size]? = some (.cells (ptsV l).toArray T m) := by
    show (w.heap.push _)[w.heap.size]? = _
    simp
  rw [Nat.zero_add, cell_of_row _ _ _ _ _ _ e]
  simp [hi]
end

end Go.Proofs.YthcfekabeidmiaaRRDoorR
