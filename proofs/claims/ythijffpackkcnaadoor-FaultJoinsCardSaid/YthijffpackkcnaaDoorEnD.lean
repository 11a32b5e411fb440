/- Errors of every make that the statements of chapter 7 build; what of them is met, in order. -/
import Derived.Test.YthijffpackkcnaaDoorMem
import Derived.Stop.Asserts
import Derived.RowKitTokens
namespace Go.Proofs.YthijffpackkcnaaDoor
open Go.RowKit Go.Extern.Stop Go.Stop Go.Extern

theorem Below.drewN' {B : Nat} {a w : World} (h : Below B a w) (n : Nat) : Below B a (w.drewN n) := ⟨h.os, h.tape, h.output, h.size, h.block⟩

/-- An error: none; a number; a Fault; one that wraps many (joined, or not); one that wraps none; a Fault that is nil; one that wraps one. -/
inductive En where
  | none
  | num (k : Int)
  | fault (op : ByteArray) (id : Int) (e : En)
  | many (j : Bool) (l : List En)
  | plain (s : ByteArray)
  | nilf
  | cover (e : En)

/-- the type of one that wraps many -/
def manyT (j : Bool) : TypeId := if j then 81 else 0

mutual
/-- In world w the value v of type error is so. -/
def En.Is (w : World) : En → Value → Prop
  | .none, v => v = .nilIface
  | .num k, v => v = .iface 25 (.int .i64 k)
  | .fault op id e, v => ∃ b u, v = .iface 29 (.pointer (some ⟨b, 0, Option.none⟩)) ∧ b < w.heap.size ∧ w.cell? ⟨b, 0, Option.none⟩ = some (.string op) ∧ w.cell? ⟨b, 1, Option.none⟩ = some (.int .i64 id) ∧ w.cell? ⟨b, 2, Option.none⟩ = some u ∧ e.Is w u
  | .many j l, v => j = true ∧ ∃ b s vs, v = .iface (manyT j) (.pointer (some ⟨b, 0, Option.none⟩)) ∧ b < w.heap.size ∧ w.cell? ⟨b, 0, Option.none⟩ = some s ∧ Rd w s l.length vs ∧ EnsIs w l vs
  | .plain _, _ => False
  | .nilf, v => v = .iface 29 (.pointer Option.none)
  | .cover _, _ => False
/-- The values are these errors, one by one. -/
def EnsIs (w : World) : List En → List Value → Prop
  | [], vs => vs = []
  | e :: l, vs => ∃ v vs', vs = v :: vs' ∧ e.Is w v ∧ EnsIs w l vs'
end

mutual
theorem En.Is.below {w w' : World} (hb : Below w.heap.size w w') : ∀ {e : En} {v : Value}, e.Is w v → e.Is w' v
  | .none, _, h => h
  | .num _, _, h => h
  | .fault _ _ _, _, ⟨b, u, h1, h2, h3, h4, h5, h6⟩ => ⟨b, u, h1, Nat.lt_of_lt_of_le h2 hb.size, (hb.cell (p := ⟨b, 0, Option.none⟩) h2).trans h3, (hb.cell (p := ⟨b, 1, Option.none⟩) h2).trans h4, (hb.cell (p := ⟨b, 2, Option.none⟩) h2).trans h5, En.Is.below hb h6⟩
  | .many _ _, _, ⟨hj, b, s, vs, h1, h2, h3, h4, h5⟩ => ⟨hj, b, s, vs, h1, Nat.lt_of_lt_of_le h2 hb.size, (hb.cell (p := ⟨b, 0, Option.none⟩) h2).trans h3, h4.below hb, EnsIs.below hb h5⟩
  | .plain _, _, h => h
  | .nilf, _, h => h
  | .cover _, _, h => h
theorem EnsIs.below {w w' : World} (hb : Below w.heap.size w w') : ∀ {l : List En} {vs : List Value}, EnsIs w l vs → EnsIs w' l vs
  | [], _, h => h
  | _ :: _, _, ⟨v, vs', h1, h2, h3⟩ => ⟨v, vs', h1, En.Is.below hb h2, EnsIs.below hb h3⟩
end

theorem EnsIs.length {w : World} : ∀ {l : List En} {vs : List Value}, EnsIs w l vs → vs.length = l.length
  | [], vs, h => by have h : vs = [] := h; simp [h]
  | _ :: l, vs, h => by
    obtain ⟨v, vs', rfl, _, h2⟩ := h
    simp [EnsIs.length h2]
theorem EnsIs.get {w : World} : ∀ {l : List En} {vs : List Value}, EnsIs w l vs → ∀ i (h : i < l.length) (h' : i < vs.length), l[i].Is w vs[i]
  | [], vs, h, i, hi, _ => by simp at hi
  | e :: l, vs, h, i, hi, hi' => by
    obtain ⟨v, vs', rfl, h1, h2⟩ := h
    cases i with
    | zero => exact h1
    | succ i => exact EnsIs.get h2 i (by simpa using hi) (by simpa using hi')
theorem EnsIs.snoc {w : World} : ∀ {l : List En} {vs : List Value} {e : En} {v : Value}, EnsIs w l vs → e.Is w v → EnsIs w (l ++ [e]) (vs ++ [v])
  | [], vs, e, v, h, he => by
    have h : vs = [] := h
    subst h
    exact ⟨v, [], rfl, he, rfl⟩
  | _ :: l, vs, e, v, h, he => by
    obtain ⟨u, vs', rfl, h1, h2⟩ := h
    exact ⟨u, vs' ++ [v], rfl, h1, EnsIs.snoc h2 he⟩

/-- what an error wraps -/
def En.kids : En → List En
  | .fault _ _ e => [e]
  | .many _ l => l
  | .cover e => [e]
  | .nilf => [.none]
  | _ => []
mutual
/-- what is met within an error, in order -/
def En.pre : En → List En
  | .none => []
  | .num k => [.num k]
  | .fault op id e => .fault op id e :: e.pre
  | .many j l => .many j l :: pres l
  | .plain s => [.plain s]
  | .nilf => [.nilf]
  | .cover e => .cover e :: e.pre
def pres : List En → List En
  | [] => []
  | e :: l => e.pre ++ pres l
end
theorem En.pre_kids (e : En) (h : e ≠ .none) : e.pre = e :: pres e.kids := by
  cases e <;> simp [En.pre, pres, En.kids] at h ⊢
theorem pres_append : ∀ l m : List En, pres (l ++ m) = pres l ++ pres m
  | [], m => by simp [pres]
  | e :: l, m => by simp [pres, pres_append l m]
mutual
def En.sz : En → Nat
  | .none => 1
  | .num _ => 1
  | .fault _ _ e => e.sz + 1
  | .many _ l => szs l + 1
  | .plain _ => 1
  | .nilf => 2
  | .cover e => e.sz + 1
def szs : List En → Nat
  | [] => 0
  | e :: l => e.sz + szs l
end
theorem En.sz_kids (e : En) (h : e ≠ .none) : e.sz = szs e.kids + 1 := by
  cases e <;> simp [En.sz, szs, En.kids] at h ⊢
theorem szs_mem {e : En} : ∀ {l : List En}, e ∈ l → e.sz ≤ szs l
  | [], h => by simp at h
  | x :: l, h => by
    rcases List.mem_cons.1 h with rfl | h
    · simp only [szs]; omega
    · have := szs_mem h; simp only [szs]; omega

/-- A function is called of each, in order, until it tells that it is enough. -/
def runs {σ : Type} (stop : σ → En → Bool) (next : σ → En → σ) : σ → List En → Bool × σ
  | s, [] => (false, s)
  | s, e :: l => if stop s e = true then (true, next s e) else runs stop next (next s e) l
theorem runs_append {σ : Type} (stop : σ → En → Bool) (next : σ → En → σ) : ∀ (s : σ) (l m : List En), runs stop next s (l ++ m) = if (runs stop next s l).1 = true then runs stop next s l else runs stop next (runs stop next s l).2 m
  | s, [], m => by simp [runs]
  | s, e :: l, m => by
    have ih := runs_append stop next (next s e) l m
    cases h : stop s e
    · simpa [runs, h] using ih
    · simp [runs, h]
end Go.Proofs.YthijffpackkcnaaDoor
