/- What FaultJoins joins, in plain words. -/
import Derived.Test.YthijffpackkcnaaDoorIsJ
import Derived.Test.YthijffpackkcnaaDoorIsA
import Derived.Test.YthijffpackkcnaaDoorCodeD
namespace Go.Proofs.YthijffpackkcnaaDoor
open Go.RowKit

def strX : ByteArray := ⟨#[120]⟩
/-- the error of a number that may be -/
def fl (c : Int) : Er := .fault strX c (.num c)
def eltE (c : Int) : En := if 1 ≤ c ∧ c ≤ 15 then .fault strX c (.num c) else .none
/-- the first number that may be; 0: none -/
def firstC : List Int → Int
  | [] => 0
  | c :: l => if 1 ≤ c ∧ c ≤ 15 then c else firstC l
def okC (l : List Int) : List Int := l.filter fun c => decide (1 ≤ c ∧ c ≤ 15)
theorem firstC_snoc (c : Int) : ∀ l : List Int, firstC (l ++ [c]) = if firstC l = 0 then (if 1 ≤ c ∧ c ≤ 15 then c else 0) else firstC l
  | [] => by simp [firstC]
  | x :: l => by
    rw [List.cons_append, firstC, firstC]
    by_cases hx : 1 ≤ x ∧ x ≤ 15
    · rw [if_pos hx, if_pos hx, if_neg (by omega)]
    · rw [if_neg hx, if_neg hx]; exact firstC_snoc c l
theorem nn_elt : ∀ l : List Int, nn (l.map eltE) = ((okC l).map fl).map Er.en
  | [] => rfl
  | x :: l => by
    have ih := nn_elt l
    unfold nn okC at ih ⊢
    by_cases hx : 1 ≤ x ∧ x ≤ 15
    · rw [List.map_cons, List.filter_cons_of_pos (by unfold eltE; rw [if_pos hx]; rfl), ih, List.filter_cons_of_pos (by simpa using hx), List.map_cons, List.map_cons]
      unfold eltE; rw [if_pos hx]; rfl
    · rw [List.map_cons, List.filter_cons_of_neg (by unfold eltE; rw [if_neg hx]; simp [En.isNone]), ih, List.filter_cons_of_neg (by simpa using hx)]
theorem ok_first : ∀ l : List Int, (firstC l = 0 ∧ okC l = []) ∨ (firstC l ≠ 0 ∧ ∃ r, okC l = firstC l :: r)
  | [] => .inl ⟨rfl, rfl⟩
  | x :: l => by
    by_cases hx : 1 ≤ x ∧ x ≤ 15
    · right
      unfold firstC okC
      rw [if_pos hx, List.filter_cons_of_pos (by simpa using hx)]
      exact ⟨by omega, _, rfl⟩
    · have ih := ok_first l
      unfold firstC okC
      rw [if_neg hx, List.filter_cons_of_neg (by simpa using hx)]
      exact ih
theorem firstC_ok : ∀ l : List Int, firstC l ≠ 0 → 1 ≤ firstC l ∧ firstC l ≤ 15
  | [], h => absurd rfl h
  | x :: l, h => by
    unfold firstC at h ⊢
    by_cases hx : 1 ≤ x ∧ x ≤ 15
    · rw [if_pos hx]; exact hx
    · rw [if_neg hx] at h ⊢; exact firstC_ok l h
theorem join_elt_none {l : List Int} (h : firstC l = 0) : joinE (l.map eltE) = .none := by
  unfold joinE
  rw [nn_elt]
  rcases ok_first l with ⟨_, h2⟩ | ⟨h1, _⟩
  · rw [h2]; rfl
  · exact absurd h h1
theorem join_elt_some {l : List Int} (h : firstC l ≠ 0) : joinE (l.map eltE) = .many true (((okC l).map fl).map Er.en) := by
  unfold joinE
  rw [nn_elt]
  rcases ok_first l with ⟨h1, _⟩ | ⟨_, r, h2⟩
  · exact absurd h1 h
  · rw [if_neg (by rw [h2]; simp)]
theorem firstE_elt : ∀ l : List Int, firstE (l.map eltE) = if firstC l = 0 then .none else (fl (firstC l)).en
  | [] => rfl
  | x :: l => by
    rw [List.map_cons, firstE, firstC]
    by_cases hx : 1 ≤ x ∧ x ≤ 15
    · have e : eltE x = .fault strX x (.num x) := by unfold eltE; rw [if_pos hx]
      have h0 : x ≠ 0 := by omega
      rw [if_pos hx, e]
      show En.fault strX x (En.num x) = _
      rw [if_neg h0]; rfl
    · have e : eltE x = .none := by unfold eltE; rw [if_neg hx]
      rw [if_neg hx, e]
      exact firstE_elt l
theorem any_ok {k : Int} (h1 : 1 ≤ k) (h2 : k ≤ 15) : ∀ l : List Int, ((okC l).map fl).any (fun e => e.has k) = l.any fun c => c == k
  | [] => rfl
  | x :: l => by
    have ih := any_ok h1 h2 l
    unfold okC at ih ⊢
    by_cases hx : 1 ≤ x ∧ x ≤ 15
    · rw [List.filter_cons_of_pos (by simpa using hx), List.map_cons, List.any_cons, List.any_cons, ih]
      rfl
    · rw [List.filter_cons_of_neg (by simpa using hx), ih, List.any_cons, show (x == k) = false from beq_eq_false_iff_ne.2 (by omega), Bool.false_or]
theorem first_join {l : List Int} (h : firstC l ≠ 0) : (En.many true (((okC l).map fl).map Er.en)).first = firstC l := by
  rcases ok_first l with ⟨h1, _⟩ | ⟨_, r, h2⟩
  · exact absurd h1 h
  · rw [h2]
    simp [En.first, En.pre, pres, fl, Er.en, runs, stopC, nextC]
theorem fl_some (l : List Int) : ∀ e ∈ (okC l).map fl, e ≠ .none := by
  intro e he
  obtain ⟨c, _, rfl⟩ := List.mem_map.1 he
  intro h; cases h
theorem fl_isB (c : Int) (h : 1 ≤ c ∧ c ≤ 15) : (fl c).isB c strX c = true := by simp [fl, Er.isB, Er.code, Er.root, h.1, h.2]

/-! ### the errors in memory -/
def EltIs (w : World) (c : Int) (u : Value) : Prop :=
  if 1 ≤ c ∧ c ≤ 15 then ∃ b, u = .iface 29 (.pointer (some ⟨b, 0, none⟩)) ∧ w.heap[b]? = some (.cells #[.string strX, .int .i64 c, .iface 25 (.int .i64 c)] 33 (0, 0)) else u = .nilIface
def EltsIs (w : World) : List Int → List Value → Prop
  | [], us => us = []
  | c :: l, us => ∃ v vs, us = v :: vs ∧ EltIs w c v ∧ EltsIs w l vs
theorem EltsIs.imp {w w' : World} (h : ∀ c u, EltIs w c u → EltIs w' c u) : ∀ {l : List Int} {us : List Value}, EltsIs w l us → EltsIs w' l us
  | [], _, e => e
  | _ :: _, _, ⟨v, vs, h1, h2, h3⟩ => ⟨v, vs, h1, h _ _ h2, EltsIs.imp h h3⟩
theorem EltsIs.snoc {w : World} {c : Int} {u : Value} (hu : EltIs w c u) : ∀ {l : List Int} {us : List Value}, EltsIs w l us → EltsIs w (l ++ [c]) (us ++ [u])
  | [], us, e => by
    obtain rfl : us = [] := e
    exact ⟨u, [], rfl, hu, rfl⟩
  | _ :: _, _, ⟨v, vs, h1, h2, h3⟩ => ⟨v, vs ++ [u], by rw [h1]; rfl, h2, EltsIs.snoc hu h3⟩
theorem EltIs.block {w w' : World} (h : ∀ (b : Nat) (c : Array Value) (m : Nat × Nat), w.heap[b]? = some (Obj.cells c 33 m) → w'.heap[b]? = w.heap[b]?) (c : Int) (u : Value) (e : EltIs w c u) : EltIs w' c u := by
  unfold EltIs at e ⊢
  by_cases hc : 1 ≤ c ∧ c ≤ 15
  · rw [if_pos hc] at e ⊢
    obtain ⟨b, h1, h2⟩ := e
    exact ⟨b, h1, (h _ _ _ h2).trans h2⟩
  · rw [if_neg hc] at e ⊢
    exact e
theorem EltsIs.below {w w' : World} {l : List Int} {us : List Value} (h : EltsIs w l us) (hb : Below w.heap.size w w') : EltsIs w' l us :=
  h.imp (EltIs.block fun b _ _ e => hb.block b (lt_of_block e))
theorem EltsIs.grown {w w' : World} {l : List Int} {us : List Value} (h : EltsIs w l us) {base : Nat} {v : Value} {xs : List Value} (ho : OwnE w base v xs) (hg : w.grownBy w' v.ownBlock) : EltsIs w' l us :=
  h.imp (EltIs.block fun b _ _ e => hg.block b (lt_of_block e) (fun q => ownE_ne ho e (by decide) q.symm))
theorem EltIs.en {w : World} {c : Int} {u : Value} (h : EltIs w c u) : (eltE c).Is w u := by
  unfold EltIs at h
  unfold eltE
  by_cases hc : 1 ≤ c ∧ c ≤ 15
  · rw [if_pos hc] at h ⊢
    obtain ⟨b, rfl, h2⟩ := h
    exact ⟨b, _, rfl, lt_of_block h2, by simp [World.cell?, h2], by simp [World.cell?, h2], by simp [World.cell?, h2], rfl⟩
  · rw [if_neg hc] at h ⊢
    exact h
theorem EltsIs.ens {w : World} : ∀ {l : List Int} {us : List Value}, EltsIs w l us → EnsIs w (l.map eltE) us
  | [], _, e => e
  | _ :: _, _, ⟨v, vs, h1, h2, h3⟩ => ⟨v, vs, h1, h2.en, EltsIs.ens h3⟩

/-- fault.New of a number that may be -/
theorem New_elt (c : Int) (hc : 1 ≤ c ∧ c ≤ 15) (w : World) :
    Calls Tryd.prog 6 #[.string strX, .int .i64 c, .iface 25 (.int .i64 c)] w fun e w' => ∃ b, e = .returned (.iface 29 (.pointer (some ⟨b, 0, none⟩))) ∧ EltIs w' c (.iface 29 (.pointer (some ⟨b, 0, none⟩))) ∧ Below w.heap.size w w' := by
  have HC := Lib.hid hc
  clear hc
  go_enter Tryd.func6, Tryd.ntmps6
  go_wp2
  go_ret
  exact ⟨_, rfl, by unfold EltIs; rw [if_pos HC.out]; exact ⟨_, rfl, heap_alloc_new _ _⟩, (Below.refl _ _).alloc (Nat.le_refl _) _⟩

/-- append(v, x) of an error, as a step of a region that draws its order -/
theorem step_append_err {w : World} {ops : Array Oper} {o : Oper} {a : Act} {K : Act → World → Prop} {Q : Exit → Act → World → Prop} {E : Prop} (hgd : o.guard = none) (s x : Operand)
    (ho : o.op = .call { callee := .builtin .append, args := #[s, x], argTypes := #[40, 40] })
    (base : Nat) (v : Value) (us : List Value) (hs : a.eval s = v) (hown : OwnE w base v us) (ad : Addr) (u : Value) (hx : a.eval x = .slice (some ad) 1 1) (hu : w.cell? ad = some u) (hone : u.oneCell' = true)
    (h63 : us.length + 1 ≤ 1000000) (hbase : base ≤ w.heap.size)
    (h : ∀ v' w', OwnE w' base v' (us ++ [u]) → w.grownBy w' v.ownBlock → K (a.put o.dst v') w') :
    if Region.wanted o (yielded ops a.tmps) = true then Oper.wp Tryd.prog o a w K Q else E := by
  have hw : Region.wanted o (yielded ops a.tmps) = true := by simp [Region.wanted, hgd]
  rw [if_pos hw]
  obtain ⟨i, hi, hz, hsize, hby⟩ := info_parts info_err
  refine wp_append_own w s x 40 ho base 27 i _ 1 16 Tryd.underlying40 hi hz hsize hby rfl (by decide) v _ us hs hown ad 1 1 [u] hx rfl ?_ ?_ (by unfold maxLen; omega) (by omega) hbase ?_
  · intro j y hj
    cases j with
    | zero => simp at hj; subst hj; obtain ⟨b, off, sp⟩ := ad; simpa [Addr.add] using hu
    | succ j => simp at hj
  · intro y hy; simp at hy; subst hy; exact hone
  · intro v' w' h5 h6 _
    exact h v' w' (by unfold OwnE; rw [List.length_append]; exact h5) h6
end Go.Proofs.YthijffpackkcnaaDoor
