/- A region that draws its order: a condition that is held till an operation has come up. append with its frame; rows of points of the call's own. enc.reader: object. -/
import Derived.Test.YthcfekabeidmiaaRRDoorREo2
import Derived.Test.YthcfekabeidmiaaRRDoorREo1
import Derived.WalkSpells
import Derived.Test.YthcfekabeidmiaaRRDoorREo21
import Derived.Test.YthcfekabeidmiaaRRDoorREo23
import Derived.Test.YthcfekabeidmiaaRRDoorREo20
set_option linter.unusedSimpArgs false
set_option linter.unusedVariables false
namespace Go.Proofs.YthcfekabeidmiaaRRDoorR
/-! Till -/
section
open Go Go.RowKit

section
variable {P : Program} {ops : Array Oper} {Q : Exit → Act → World → Prop} {md : Region.Mode}

/-- T always; U as long as number 'stop' has not come up -/
def TillS (stop : Nat) (T U : World → Prop) (listed : Array Bool) (w : World) : Prop := T w ∧ (listed.getD stop false = false → U w)

/-- whatever order is picked: behind each operation S of what has come up by then -/
def wpAnyL (P : Program) (md : Region.Mode) (ops : Array Oper) (Q : Exit → Act → World → Prop) (S : Array Bool → World → Prop) : Nat → Array Bool → Act → World → Prop
  | 0, listed, a, w => Region.ready md ops listed = [] ∧ Q .normal a w
  | fuel + 1, listed, a, w =>
    (Region.ready md ops listed = [] → Q .normal a w) ∧
    ∀ i ∈ Region.ready md ops listed, wpOp P ops Q i (fun a' w' => S (listed.setIfInBounds i true) w' ∧ wpAnyL P md ops Q S fuel (listed.setIfInBounds i true) a' w') a w

theorem wpAny_of_till {S : Array Bool → World → Prop} : ∀ (fuel : Nat) (listed : Array Bool) (a : Act) (w : World), wpAnyL P md ops Q S fuel listed a w → wpAny P md ops Q fuel listed a w
  | 0, _, _, _, h => h
  | fuel + 1, _, _, _, h => ⟨h.1, fun i hi => wpOp_mono (fun a' w' h' => wpAny_of_till fuel _ a' w' h'.2) (h.2 i hi)⟩

theorem wpAnyL_first {S : Array Bool → World → Prop} {V : World → Prop} {C : Array Bool → Prop} {i : Nat} {oi : Oper} {v : Value} (hi : ops[i]? = some oi)
    (hsel : ∀ (j : Nat) (o : Oper) cs b, ops[j]? = some o → o.op ≠ .select cs b)
    (hQ : ∀ c a w, Q (.panic c) (a.put oi.dst v) w → Q (.panic c) a w)
    (hup : ∀ listed w, S listed w → S (listed.setIfInBounds i true) w) (hmono : ∀ listed w, S (listed.setIfInBounds i true) w → S listed w)
    (hC : ∀ listed j, C listed → i ∈ Region.ready md ops listed → j ∈ Region.ready md ops listed → j ≠ i → C (listed.setIfInBounds j true))
    (hV : ∀ listed w, C listed → S listed w → V w) :
    ∀ (fuel : Nat) (listed : Array Bool) (a : Act) (w : World), C listed →
      (∀ j oj, ops[j]? = some oj → j ≠ i → listed.getD j true = false → (∀ e ∈ oj.after, Region.binds md e = true → e.on ≠ i) → oi.apart ops oj = true) →
      i ∈ Region.ready md ops listed → YieldsIf P ops V oi v a → S listed w →
      wpAnyL P md ops Q S fuel (listed.setIfInBounds i true) (a.put oi.dst v) w → wpAnyL P md ops Q S (fuel + 1) listed a w := by
  intro fuel
  induction fuel with
  | zero =>
    intro listed a w hc _ hr hy hS H
    refine ⟨fun h => (by rw [h] at hr; cases hr), fun j hj => ?_⟩
    by_cases hji : j = i
    · subst hji
      refine hy.wpOp hi (hV _ _ hc hS) ⟨hup _ _ hS, H⟩
    · have := ready_mono hj hji
      rw [H.1] at this
      cases this
  | succ fuel ih =>
    intro listed a w hc hfree hr hy hS H
    refine ⟨fun h => (by rw [h] at hr; cases hr), fun j hj => ?_⟩
    by_cases hji : j = i
    · subst hji
      refine hy.wpOp hi (hV _ _ hc hS) ⟨hup _ _ hS, H⟩
    · have h1 := H.2 j (ready_mono hj hji)
      obtain ⟨hjun, oj, hoj, hall⟩ := mem_ready.1 hj
      have hnot : ∀ e ∈ oj.after, Region.binds md e = true → e.on ≠ i := fun e he hb heq => by
        have h1 := hall e he hb
        have h0 := (mem_ready.1 hr).1
        rw [heq] at h1
        rcases Nat.lt_or_ge i listed.size with h' | h'
        · simp [h'] at h0 h1; rw [h0] at h1; cases h1
        · simp [Array.getElem?_eq_none h'] at h1
      have h2 := wpOp_putIf hoj (hfree j oj hoj hji hjun hnot) (fun cs b => hsel i oi cs b hi) (fun cs b => hsel j oj cs b hoj) hQ hy h1
      have hfree' : ∀ k ok, ops[k]? = some ok → k ≠ i → (listed.setIfInBounds j true).getD k true = false →
          (∀ e ∈ ok.after, Region.binds md e = true → e.on ≠ i) → oi.apart ops ok = true := fun k ok hk hki hun hno => by
        refine hfree k ok hk hki ?_ hno
        by_cases hjk : j = k
        · subst hjk; exact hjun
        · rw [getD_set_ne true hjk] at hun; exact hun
      refine wpOp_mono (fun a' w' h3 => ?_) h2
      obtain ⟨h3y, h3S, h3w⟩ := h3
      rw [Array.setIfInBounds_comm _ _ (Ne.symm hji)] at h3S h3w
      have hS' := hmono _ _ h3S
      exact ⟨hS', ih (listed.setIfInBounds j true) a' w' (hC _ _ hc hr hj hji) hfree' (ready_mono hr (Ne.symm hji)) h3y hS' h3w⟩

theorem till_up {stop i : Nat} {T U : World → Prop} (h : i ≠ stop) (listed : Array Bool) (w : World) (hs : TillS stop T U listed w) : TillS stop T U (listed.setIfInBounds i true) w :=
  ⟨hs.1, fun q => hs.2 (by rwa [getD_set_ne false h] at q)⟩
theorem till_down {stop i : Nat} {T U : World → Prop} (h : i ≠ stop) (listed : Array Bool) (w : World) (hs : TillS stop T U (listed.setIfInBounds i true) w) : TillS stop T U listed w :=
  ⟨hs.1, fun q => hs.2 (by rwa [getD_set_ne false h])⟩

theorem till_re {stop : Nat} {T U : World → Prop} {l l' : Array Bool} {w : World} (h : TillS stop T U l w) (e : (l'.getD stop false || !l.getD stop false) = true) : TillS stop T U l' w :=
  ⟨h.1, fun q => h.2 (by rw [q] at e; simpa using e)⟩

/-- taken first; it yields its value wherever T holds -/
theorem wpAnyL_take {stop : Nat} {T U : World → Prop} {i : Nat} {oi : Oper} {v : Value} {fuel : Nat} {listed : Array Bool} {a : Act} {w : World} (hi : ops[i]? = some oi)
    (hs : Region.noSelect ops = true) (hf : Region.free md ops listed i = true) (hr : (Region.ready md ops listed).contains i = true)
    (hQ : ∀ c a w, Q (.panic c) (a.put oi.dst v) w → Q (.panic c) a w) (hne : i ≠ stop) (hy : YieldsIf P ops T oi v a) (hS : TillS stop T U listed w)
    (h : wpAnyL P md ops Q (TillS stop T U) fuel (listed.setIfInBounds i true) (a.put oi.dst v) w) : wpAnyL P md ops Q (TillS stop T U) (fuel + 1) listed a w :=
  wpAnyL_first (C := fun _ => True) hi (Region.noSelect_spec hs) hQ (till_up hne) (till_down hne) (fun _ _ _ _ _ _ => trivial) (fun _ _ _ h => h.1) fuel listed a w trivial (Region.free_spec hi hf) (by simpa using hr) hy hS h

/-- taken first; it yields its value wherever U holds, and number 'stop' waits for it -/
theorem wpAnyL_takeU {stop : Nat} {T U : World → Prop} {i : Nat} {oi : Oper} {v : Value} {fuel : Nat} {listed : Array Bool} {a : Act} {w : World} (hi : ops[i]? = some oi)
    (hs : Region.noSelect ops = true) (hf : Region.free md ops listed i = true) (hr : (Region.ready md ops listed).contains i = true)
    (hQ : ∀ c a w, Q (.panic c) (a.put oi.dst v) w → Q (.panic c) a w) (hne : i ≠ stop)
    (hd : (match ops[stop]? with | some o => o.after.any (fun e => Region.binds md e && e.on == i) | none => false) = true) (hc : listed.getD stop false = false)
    (hy : YieldsIf P ops U oi v a) (hS : TillS stop T U listed w)
    (h : wpAnyL P md ops Q (TillS stop T U) fuel (listed.setIfInBounds i true) (a.put oi.dst v) w) : wpAnyL P md ops Q (TillS stop T U) (fuel + 1) listed a w := by
  refine wpAnyL_first (C := fun l => l.getD stop false = false) hi (Region.noSelect_spec hs) hQ (till_up hne) (till_down hne) ?_ (fun _ _ q h => h.2 q) fuel listed a w hc (Region.free_spec hi hf) (by simpa using hr) hy hS h
  intro l j hl hir hjr hji
  have hjs : j ≠ stop := by
    intro e
    subst e
    obtain ⟨hjun, oj, hoj, hall⟩ := mem_ready.1 hjr
    rw [hoj] at hd
    simp only [Array.any_eq_true, Bool.and_eq_true, beq_iff_eq] at hd
    obtain ⟨k, hk, hb, he⟩ := hd
    have h1 := hall _ (Array.getElem_mem hk) hb
    have h0 := (mem_ready.1 hir).1
    rw [he] at h1
    rcases Nat.lt_or_ge i l.size with h' | h'
    · simp [h'] at h0 h1; rw [h0] at h1; cases h1
    · simp [Array.getElem?_eq_none h'] at h1
  rw [getD_set_ne false hjs]
  exact hl

/-- each of 'rs' comes up next -/
def AllReadyL (P : Program) (md : Region.Mode) (ops : Array Oper) (Q : Exit → Act → World → Prop) (S : Array Bool → World → Prop) (fuel : Nat) (listed : Array Bool) (a : Act) (w : World) (rs : List Nat) : Prop :=
  ∀ i ∈ rs, wpOp P ops Q i (fun a' w' => S (listed.setIfInBounds i true) w' ∧ wpAnyL P md ops Q S fuel (listed.setIfInBounds i true) a' w') a w
theorem AllReadyL.nil {S : Array Bool → World → Prop} {fuel : Nat} {listed : Array Bool} {a : Act} {w : World} : AllReadyL P md ops Q S fuel listed a w [] := fun _ h => by cases h
theorem AllReadyL.cons {S : Array Bool → World → Prop} {fuel : Nat} {listed : Array Bool} {a : Act} {w : World} {i : Nat} {o : Oper} {rs : List Nat} (ho : ops[i]? = some o)
    (h : ∀ K' : Act → World → Prop, Shut (∀ a w, S (listed.setIfInBounds i true) w → (S (listed.setIfInBounds i true) w → wpAnyL P md ops Q S fuel (listed.setIfInBounds i true) a w) → K' a w) → if Region.wanted o (yielded ops a.tmps) = true then Oper.wp P o a w K' Q else K' (a.put o.dst undef) w)
    (hs : AllReadyL P md ops Q S fuel listed a w rs) : AllReadyL P md ops Q S fuel listed a w (i :: rs) := fun j hj => by
  rcases List.mem_cons.1 hj with rfl | hj
  · exact wpOp_step ho (fun K' hK => h K' (fun a w hS hW => hK a w ⟨hS, hW hS⟩))
  · exact hs j hj
theorem wpAnyL_ready {S : Array Bool → World → Prop} {rs : List Nat} {fuel : Nat} {listed : Array Bool} {a : Act} {w : World} (hr : Region.ready md ops listed = rs) (hne : rs ≠ [])
    (h : AllReadyL P md ops Q S fuel listed a w rs) : wpAnyL P md ops Q S (fuel + 1) listed a w := ⟨fun h0 => absurd (hr ▸ h0) hne, hr ▸ h⟩
theorem wpAnyL_done {S : Array Bool → World → Prop} {listed : Array Bool} {a : Act} {w : World} (hr : Region.ready md ops listed = []) (h : Q .normal a w) : ∀ fuel, wpAnyL P md ops Q S fuel listed a w
  | 0 => ⟨hr, h⟩
  | _ + 1 => ⟨fun _ => h, by rw [hr]; simp⟩
theorem wp_region_till {stop : Nat} {T U : World → Prop} {id : Nat} {a : Act} {w : World} (hm : P.follows .mixedOrders = true) (hT : T w.drew) (hU : U w.drew)
    (h : TillS stop T U (Array.replicate ops.size false) w.drew → wpAnyL P .any ops Q (TillS stop T U) ops.size (Array.replicate ops.size false) a w.drew) : (Code.region id ops true).wp P Q a w :=
  wp_region_any hm (wpAny_of_till _ _ _ _ (h ⟨hT, fun _ => hU⟩))
end
end

/-! GrowPt -/
section
open Go.RowKit

/-- the block of the row v alone, and new ones, turn -/
structure FrmG (v : Value) (B : Nat) (w w' : World) : Prop where
  below : Below B w w'
  kept : ∀ k, k < w.heap.size → v.ownBlock ≠ some k → w'.heap[k]? = w.heap[k]?
theorem FrmG.own {v0 : Value} {B : Nat} {w w' : World} (h : FrmG v0 B w w') {b s n : Nat} {e : TypeId} {v : Value} {xs : List Value} (hne : ∀ k, v.ownBlock = some k → v0.ownBlock ≠ some k) (ho : w.ownsRow b e s v n xs) : w'.ownsRow b e s v n xs := by
  refine ⟨ho.1, ?_⟩
  rcases ho.2 with hn | ⟨g, cap, cur, rfl, hbg, hg, q⟩
  · exact .inl hn
  · exact .inr ⟨g, cap, cur, rfl, hbg, (h.kept g (lt_of_block hg) (hne g (by simp [Value.ownBlock]))).trans hg, q⟩
/-- append(v, x...): v owned, x whatever can be read; all else stays. -/
theorem wp_append_g {P : Program} {w : World} {o : Oper} {a : Act} {K : Act → World → Prop} {Q : Exit → Act → World → Prop} (s x : Operand) (t : TypeId)
    (ho : o.op = .call { callee := .builtin .append, args := #[s, x], argTypes := #[t, t] })
    (base : Nat) (e : TypeId) (z : Value) (size bytes : Nat) (ht : P.underlying t = some (.slice e)) (hi : (P.info? e).map (fun i => (i.zero, i.size, i.bytes)) = some (some z, size, bytes))
    (hzs : z.cells.size = size) (hsz : 0 < size)
    (v : Value) (n : Nat) (xs : List Value) (hs : a.eval s = v) (hown : w.ownsRow base e size v n xs)
    (y : Value) (m : Nat) (news : List Value) (hx : a.eval x = y) (hy : Rd w y m news) (hl : news.length = m * size) (h1 : ∀ u ∈ news, u.oneCell' = true)
    (h63 : n + m ≤ maxLen) (hbytes : (n + m) * bytes ≤ 140737488355328) (hbase : base ≤ w.heap.size)
    (h : ∀ v' w', w'.ownsRow base e size v' (n + m) (xs ++ news) → FrmG v base w w' → K (a.put o.dst v') w') : o.wp P a w K Q := by
  obtain ⟨i, hi, hz, hsize, hby⟩ := info_parts hi
  obtain ⟨ao, c, rfl, h2, h3, h0, h4⟩ := hy
  cases ao with
  | none =>
    obtain rfl := h0 rfl
    obtain rfl : m = 0 := by omega
    obtain rfl : news = [] := List.eq_nil_of_length_eq_zero (by simpa using hl)
    have hrun := run_append_owned_none (P := P) (w := w) base t o.type e i size ht hi v n xs hown
    unfold Oper.wp
    simp [execOp, ho, resolve, invoke, builtin, hs, hx, hrun, Result.andThen]
    exact h v w (by simpa using hown) ⟨Below.refl _ _, fun _ _ _ => rfl⟩
  | some ad =>
    refine wp_append_own w s x t ho base e i z size bytes ht hi hz hsize hby hzs hsz v n xs hs hown ad m c news hx hl ?_ h1 h63 hbytes hbase ?_
    · intro j u hu
      obtain ⟨hj, rfl⟩ := List.getElem?_eq_some_iff.1 hu
      obtain ⟨b, off, e, hlt, hc⟩ := h4 j hj
      obtain rfl := Option.some.inj e
      rw [Addr.add_lit]
      exact hc
    · intro v' w' h5 h6 h7
      exact h v' w' h5 ⟨below_grown hown h6 (Nat.le_refl _) hbase, fun k hk hne => h6.block k hk (fun q => hne q.symm)⟩
theorem wpList_append_g {P : Program} {w : World} {ops : Array Oper} {rest : List Oper} {o : Oper} {a : Act} {Q : Exit → Act → World → Prop} (hgd : o.guard = none) (s x : Operand) (t : TypeId)
    (ho : o.op = .call { callee := .builtin .append, args := #[s, x], argTypes := #[t, t] })
    (base : Nat) (e : TypeId) (z : Value) (size bytes : Nat) (ht : P.underlying t = some (.slice e)) (hi : (P.info? e).map (fun i => (i.zero, i.size, i.bytes)) = some (some z, size, bytes))
    (hzs : z.cells.size = size) (hsz : 0 < size)
    (v : Value) (n : Nat) (xs : List Value) (hs : a.eval s = v) (hown : w.ownsRow base e size v n xs)
    (y : Value) (m : Nat) (news : List Value) (hx : a.eval x = y) (hy : Rd w y m news) (hl : news.length = m * size) (h1 : ∀ u ∈ news, u.oneCell' = true)
    (h63 : n + m ≤ maxLen) (hbytes : (n + m) * bytes ≤ 140737488355328) (hbase : base ≤ w.heap.size)
    (h : ∀ v' w', w'.ownsRow base e size v' (n + m) (xs ++ news) → FrmG v base w w' → wpList P ops Q rest (a.put o.dst v') w') : wpList P ops Q (o :: rest) a w :=
  wpList_plain hgd fun _ hK => wp_append_g s x t ho base e z size bytes ht hi hzs hsz v n xs hs hown y m news hx hy hl h1 h63 hbytes hbase fun v' w' h2 h3 => hK _ _ (h v' w' h2 h3)
theorem step_append_g {P : Program} {w : World} {ops : Array Oper} {o : Oper} {a : Act} {K : Act → World → Prop} {Q : Exit → Act → World → Prop} {E : Prop} (hgd : o.guard = none) (s x : Operand) (t : TypeId)
    (ho : o.op = .call { callee := .builtin .append, args := #[s, x], argTypes := #[t, t] })
    (base : Nat) (e : TypeId) (z : Value) (size bytes : Nat) (ht : P.underlying t = some (.slice e)) (hi : (P.info? e).map (fun i => (i.zero, i.size, i.bytes)) = some (some z, size, bytes))
    (hzs : z.cells.size = size) (hsz : 0 < size)
    (v : Value) (n : Nat) (xs : List Value) (hs : a.eval s = v) (hown : w.ownsRow base e size v n xs)
    (y : Value) (m : Nat) (news : List Value) (hx : a.eval x = y) (hy : Rd w y m news) (hl : news.length = m * size) (h1 : ∀ u ∈ news, u.oneCell' = true)
    (h63 : n + m ≤ maxLen) (hbytes : (n + m) * bytes ≤ 140737488355328) (hbase : base ≤ w.heap.size)
    (h : ∀ v' w', w'.ownsRow base e size v' (n + m) (xs ++ news) → FrmG v base w w' → K (a.put o.dst v') w') :
    if Region.wanted o (yielded ops a.tmps) = true then Oper.wp P o a w K Q else E := by
  have hw : Region.wanted o (yielded ops a.tmps) = true := by simp [Region.wanted, hgd]
  rw [if_pos hw]
  exact wp_append_g s x t ho base e z size bytes ht hi hzs hsz v n xs hs hown y m news hx hy hl h1 h63 hbytes hbase h

/-- a store below the rows that the call owns -/
theorem own_setLow {w : World} {base : Nat} {e : TypeId} {size n : Nat} {v : Value} {xs : List Value} (h : w.ownsRow base e size v n xs) {g : Nat} (hg : g < base) (j : Nat) (u : Value) : (w.setCell ⟨g, j, none⟩ u).ownsRow base e size v n xs := by
  refine ⟨h.1, ?_⟩
  rcases h.2 with hn | ⟨g', cap, cur, rfl, hbg, hg', q⟩
  · exact .inl hn
  · exact .inr ⟨g', cap, cur, rfl, hbg, (Below.heap_setCell _ _ _ _ (fun q => by simp at q; omega)).trans hg', q⟩

/-! ### points -/
theorem info_ptS : (Tryd.prog.info? 43).map (fun i => (i.zero, i.size, i.bytes)) = some (some (.agg #[.int .i64 0, .int .i64 0]), 2, 16) := by kernel_rfl
/-- v is a row of points of the call's own, from block 'base' on. -/
def OwnPt (w : World) (base : Nat) (v : Value) (l : List (Int × Int)) : Prop := w.ownsRow base 43 2 v l.length (ptsV l)
theorem OwnPt.pts {w : World} {base : Nat} {v : Value} {l : List (Int × Int)} (h : OwnPt w base v l) : Pts w v l := Rd.of_own h
theorem OwnPt.below {w w' : World} {base : Nat} {v : Value} {l : List (Int × Int)} (h : OwnPt w base v l) (hb : Below w.heap.size w w') : OwnPt w' base v l := own_below' h hb
end

/-! ObjRd -/
section
open Go.RowKit

theorem OnlB.cell {g : Nat} {w w' : World} (h : OnlB g w w') {p : Addr} (hp : p.block ≠ g) (hl : p.block < w.heap.size) : w'.cell? p = w.cell? p := by
  unfold World.cell?
  rw [h.kept _ hp hl]
theorem OnlB.frozen {g : Nat} {w w' : World} (h : OnlB g w w') {p : Addr} (hp : p.block ≠ g) (hl : p.block < w.heap.size) : w'.frozen? p = w.frozen? p := by
  unfold World.frozen?
  rw [h.kept _ hp hl]
theorem OnlB.own {g : Nat} {w w' : World} (h : OnlB g w w') {base : Nat} {e : TypeId} {size n : Nat} {v : Value} {xs : List Value} (ho : w.ownsRow base e size v n xs) (hb : g < base) : w'.ownsRow base e size v n xs := by
  refine ⟨ho.1, ?_⟩
  rcases ho.2 with hn | ⟨g', cap, cur, rfl, hbg, hg, r⟩
  · exact .inl hn
  · refine .inr ⟨g', cap, cur, rfl, hbg, ?_, r⟩
    rw [h.kept g' (by omega) (Array.getElem?_eq_some_iff.1 hg).1]
    exact hg
/-- the object that is read, in memory -/
structure ObS (w : World) (g : Nat) (k : Int) (v : Value) : Prop where
  c0 : w.cell? ⟨g, 0, none⟩ = some (.int .i64 k)
  c1 : w.cell? ⟨g, 1, none⟩ = some v
  f0 : w.frozen? ⟨g, 0, none⟩ = false
  f1 : w.frozen? ⟨g, 1, none⟩ = false
theorem ObS.lt {w : World} {g : Nat} {k : Int} {v : Value} (h : ObS w g k v) : g < w.heap.size := World.block_lt_of_cell? w ⟨g, 0, none⟩ h.c0
theorem ObS.onl {w w' : World} {g g' : Nat} {k : Int} {v : Value} (h : ObS w g k v) (f : OnlB g' w w') (hne : g ≠ g') : ObS w' g k v :=
  ⟨(f.cell (p := ⟨g, 0, none⟩) hne h.lt).trans h.c0, (f.cell (p := ⟨g, 1, none⟩) hne h.lt).trans h.c1, (f.frozen (p := ⟨g, 0, none⟩) hne h.lt).trans h.f0, (f.frozen (p := ⟨g, 1, none⟩) hne h.lt).trans h.f1⟩
theorem ObS.alloc (w : World) (T : TypeId) : ObS (w.alloc (.cells #[.int .i64 0, .slice none 0 0] T)) w.heap.size 0 (.slice none 0 0) := ⟨by simp, by simp, by simp, by simp⟩
theorem RdS.onl {w w' : World} {g g' : Nat} {v : Value} {n : Nat} {bad : Bool} (h : RdS w g v n bad) (f : OnlB g' w w') (hne : g ≠ g') : RdS w' g v n bad :=
  ⟨(f.cell (p := ⟨g, 0, none⟩) hne h.lt).trans h.c0, (f.cell (p := ⟨g, 1, none⟩) hne h.lt).trans h.c1, (f.cell (p := ⟨g, 2, none⟩) hne h.lt).trans h.c2, (f.frozen (p := ⟨g, 1, none⟩) hne h.lt).trans h.f1, (f.frozen (p := ⟨g, 2, none⟩) hne h.lt).trans h.f2⟩
theorem RdS.flag {w : World} {g : Nat} {v : Value} {n : Nat} {bad : Bool} (h : RdS w g v n bad) (q : Bool) : RdS (w.setCell ⟨g, 2, none⟩ (.bool q)) g v n q := by
  have n20 : (⟨g, 2, none⟩ : Addr) ≠ ⟨g, 0, none⟩ := by simp
  have n21 : (⟨g, 2, none⟩ : Addr) ≠ ⟨g, 1, none⟩ := by simp
  refine ⟨?_, ?_, World.cell?_setCell_same _ _ _ h.c2, ?_, ?_⟩
  · rw [World.cell?_setCell_other (h := n20), h.c0]
  · rw [World.cell?_setCell_other (h := n21), h.c1]
  · simp; exact h.f1
  · simp; exact h.f2
theorem ObS.far {w : World} {g g' : Nat} {k : Int} {v : Value} (h : ObS w g k v) (hne : g ≠ g') (j : Nat) (x : Value) : ObS (w.setCell ⟨g', j, none⟩ x) g k v := h.onl ((OnlB.refl g' w).setCell j x) hne
theorem OnlB.setHigh {g : Nat} {w w' : World} (h : OnlB g w w') {p : Addr} (hg : g ≤ p.block) (hw : w.heap.size ≤ p.block) (u : Value) : OnlB g w (w'.setCell p u) :=
  ⟨h.below.setCell hg u, fun k hk hl => (Below.heap_setCell _ _ _ _ (fun q => by omega)).trans (h.kept k hk hl)⟩
theorem OnlB.frm {g : Nat} {w w1 w' : World} (h : OnlB g w w1) {v : Value} {B : Nat} (f : FrmG v B w1 w') (hB : g ≤ B) (hv : ∀ k, v.ownBlock = some k → w.heap.size ≤ k) : OnlB g w w' :=
  ⟨h.below.trans (f.below.mono hB), fun k hk hl => (f.kept k (Nat.lt_of_lt_of_le hl h.size) (fun q => by have := hv k q; omega)).trans (h.kept k hk hl)⟩
theorem cell_kept {w w' : World} {p : Addr} (h : w'.heap[p.block]? = w.heap[p.block]?) : w'.cell? p = w.cell? p := by
  unfold World.cell?
  rw [h]
theorem frozen_kept {w w' : World} {p : Addr} (h : w'.heap[p.block]? = w.heap[p.block]?) : w'.frozen? p = w.frozen? p := by
  unfold World.frozen?
  rw [h]
theorem RdS.stay {w w' : World} {g : Nat} {v : Value} {n : Nat} {bad : Bool} (r : RdS w g v n bad) (h : w'.heap[g]? = w.heap[g]?) : RdS w' g v n bad :=
  ⟨(cell_kept (p := ⟨g, 0, none⟩) h).trans r.c0, (cell_kept (p := ⟨g, 1, none⟩) h).trans r.c1, (cell_kept (p := ⟨g, 2, none⟩) h).trans r.c2, (frozen_kept (p := ⟨g, 1, none⟩) h).trans r.f1, (frozen_kept (p := ⟨g, 2, none⟩) h).trans r.f2⟩
theorem ObS.stay {w w' : World} {g : Nat} {k : Int} {v : Value} (r : ObS w g k v) (h : w'.heap[g]? = w.heap[g]?) : ObS w' g k v :=
  ⟨(cell_kept (p := ⟨g, 0, none⟩) h).trans r.c0, (cell_kept (p := ⟨g, 1, none⟩) h).trans r.c1, (frozen_kept (p := ⟨g, 0, none⟩) h).trans r.f0, (frozen_kept (p := ⟨g, 1, none⟩) h).trans r.f1⟩
theorem ObS.pts {w : World} {g : Nat} {k : Int} {v : Value} (h : ObS w g k v) (u : Value) : ObS (w.setCell ⟨g, 1, none⟩ u) g k u := by
  have n10 : (⟨g, 1, none⟩ : Addr) ≠ ⟨g, 0, none⟩ := by simp
  exact ⟨by rw [World.cell?_setCell_other (h := n10)]; exact h.c0, World.cell?_setCell_same _ _ _ h.c1, by simp; exact h.f0, by simp; exact h.f1⟩
theorem ObS.kind {w : World} {g : Nat} {k : Int} {v : Value} (h : ObS w g k v) (j : Int) : ObS (w.setCell ⟨g, 0, none⟩ (.int .i64 j)) g j v := by
  have n01 : (⟨g, 0, none⟩ : Addr) ≠ ⟨g, 1, none⟩ := by simp
  exact ⟨World.cell?_setCell_same _ _ _ h.c0, by rw [World.cell?_setCell_other (h := n01)]; exact h.c1, by simp; exact h.f0, by simp; exact h.f1⟩
/-- what reader.object hands back -/
def ObjRet (w : World) (g : Nat) (v : Value) (b : List UInt8) (e : Ending) (w' : World) : Prop :=
  ∃ (ko : Int) (vo : Value) (lo : List (Int × Int)) (bad : Bool) (n : Nat), e = .returned (.agg #[.int .i64 ko, vo]) ∧ OwnPt w' w.heap.size vo lo ∧ RdS w' g v n bad ∧ (bad = true → unobj b = none) ∧ (bad = false → ∃ k, unobj b = some (k, lo, n) ∧ ko = (k : Int)) ∧ OnlB g w w'

set_option maxRecDepth 100000 in
set_option maxHeartbeats 4000000 in
theorem object_any (g : Nat) (v : Value) (b : List UInt8) (w : World) (hv : ∀ w', Below g w w' → Byt w' v b) (hl : b.length ≤ 1000) (hr : RdS w g v 0 false) :
    Calls Tryd.prog 19 #[.pointer (some ⟨g, 0, none⟩)] w (ObjRet w g v b) := by
  have bA : Below w.heap.size w (w.alloc (.cells #[.int .i64 0, .slice none 0 0] 24)) := (Below.refl _ _).alloc (Nat.le_refl _) _
  have O0 := ObS.alloc w 24
  have R0 := hr.below bA
  have hgl := hr.lt
  have hs0 : (w.alloc (.cells #[.int .i64 0, .slice none 0 0] 24)).heap.size = w.heap.size + 1 := by simp
  have F0 : OnlB g w (w.alloc (.cells #[.int .i64 0, .slice none 0 0] 24)) := .of_below bA (Nat.le_of_lt hgl)
  have BV := Lib.hid (show ∀ w', OnlB g w w' → Byt w' v b from fun w' h => hv w' h.below)
  have HL := Lib.hid (head_le b)
  have N1 := num_any g v b 0 false _ (BV.out _ F0) (Nat.zero_le _) hl R0
  rw [List.drop_zero] at N1
  have HN1 := Lib.hid N1
  have HUB := Lib.hid (show unobj b = unobj b from rfl)
  have U1 := (unv_le b).2.1
  have U3 := (unv_le b).2.2
  have U2 := (unv_le (b.drop (unv b).2)).2.1
  have U4 := (unv_le (b.drop (unv b).2)).2.2
  rw [List.length_drop] at U2
  clear N1 hv hr bA R0
  have hne : w.heap.size ≠ g := by omega
  go_enter Tryd.func19, Tryd.ntmps19
  go_wp2_with fail
  refine HN1.out.mono ?_
  rintro e w1 ⟨rfl, r1, f1⟩
  rw [Nat.zero_add] at r1
  have O1 := O0.onl f1 hne
  have F1 := F0.trans f1
  have N2 := Lib.hid (num_any g v b (unv b).2 (false || (unv b).2 == 0) w1 (BV.out _ F1) U1 hl r1)
  have HO1 := Lib.hid O1
  clear HN1 O0 r1 O1
  go_wp2_with fail
  refine N2.out.mono ?_
  rintro e w2 ⟨rfl, r2, f2⟩
  have O2 := HO1.out.onl f2 hne
  have F2 := F1.trans f2
  have hcb : (false || (unv b).2 == 0 || (unv (b.drop (unv b).2)).2 == 0 || decide (4 < (unv b).1) || decide (64 < (unv (b.drop (unv b).2)).1)) = headBad b := by
    unfold headBad
    cases ((unv b).2 == 0) <;> cases decide (4 < (unv b).1) <;> cases ((unv (b.drop (unv b).2)).2 == 0) <;> cases decide (64 < (unv (b.drop (unv b).2)).1) <;> rfl
  have HCB := Lib.hid hcb
  have HR2 := Lib.hid r2
  have HO2 := Lib.hid O2
  have HF2 := Lib.hid F2
  obtain ⟨c0, c1, c2, g1, g2⟩ := r2
  obtain ⟨o0, o1, k0, k1⟩ := O2
  have hgl2 := HR2.out.lt
  have hol2 := HO2.out.lt
  clear hcb
  obtain ⟨B, hB⟩ : ∃ B, (false || (unv b).2 == 0 || (unv (b.drop (unv b).2)).2 == 0) = B := ⟨_, rfl⟩
  obtain ⟨p4, h4⟩ : ∃ q, decide (4 < (unv b).1) = q := ⟨_, rfl⟩
  obtain ⟨p6, h6⟩ : ∃ q, decide (64 < (unv (b.drop (unv b).2)).1) = q := ⟨_, rfl⟩
  have hall : (B || p4 || p6) = headBad b := by rw [← hB, ← h4, ← h6]; exact HCB.out
  have h4i : decide ((4 : Int) < ((unv b).1 : Int)) = p4 := by rw [← h4]; exact decide_eq_decide.2 (by omega)
  have h6i : decide ((64 : Int) < ((unv (b.drop (unv b).2)).1 : Int)) = p6 := by rw [← h6]; exact decide_eq_decide.2 (by omega)
  rw [hB] at c2 HR2
  have HN2 := Lib.hid hB
  clear hB
  cases hH : headBad b with
  | true =>
    rw [hH] at hall
    have hnone : unobj b = Option.none := by unfold unobj; rw [if_pos hH]
    generalize (unv b).1 = K at *
    generalize (unv (b.drop (unv b).2)).1 = C at *
    generalize (unv b).2 + (unv (b.drop (unv b).2)).2 = M at *
    have FIN := Lib.hid (show ObjRet w g v b (.returned (.agg #[.int .i64 0, .slice none 0 0])) (((w2.setCell ⟨g, 2, none⟩ (.bool true)).setCell ⟨w.heap.size, 0, none⟩ (.int .i64 0)).setCell ⟨w.heap.size, 1, none⟩ (.slice none 0 0)) from by
      refine ⟨0, _, [], true, M, rfl, World.ownsRow_nil _ _ _ _, ?_, (fun _ => hnone), (fun h => by cases h), ?_⟩
      · exact ((HR2.out.flag true).onl ((OnlB.refl w.heap.size _).setCell 0 (.int .i64 0)) (fun e => hne e.symm)).onl ((OnlB.refl w.heap.size _).setCell 1 (.slice none 0 0)) (fun e => hne e.symm)
      · exact ((HF2.out.setCell 2 (.bool true)).setHigh (p := ⟨w.heap.size, 0, none⟩) (Nat.le_of_lt hgl) (Nat.le_refl _) _).setHigh (p := ⟨w.heap.size, 1, none⟩) (Nat.le_of_lt hgl) (Nat.le_refl _) _)
    have OF := Lib.hid (((HO2.out.far hne 2 (.bool true)).kind 0).pts (.slice none 0 0))
    cases B <;> cases p4 <;> cases p6
    case false.false.false => cases hall
    all_goals
      go_wp2_with fail
      obtain ⟨y0, y1, -, -⟩ := OF.out
      exact bodyPost_ret (v := .agg #[.int .i64 0, .slice none 0 0]) (by simp [results, Tryd.results19, go_sem, y0, y1]) rfl FIN.out
  | false =>
    rw [hH] at hall
    have UNB := show unobj b = if (ptsAt b (cntAt b)).2.2 = true then Option.none else if objCode ((unv b).1 : Int) (ptsAt b (cntAt b)).1 = 0 then some ((unv b).1, (ptsAt b (cntAt b)).1, (ptsAt b (cntAt b)).2.1) else Option.none from by
      unfold unobj
      rw [if_neg (by rw [hH]; simp)]
    have PT0 : ptsAt b 0 = ([], (unv b).2 + (unv (b.drop (unv b).2)).2, false) := rfl
    rw [show cntAt b = (unv (b.drop (unv b).2)).1 from rfl] at UNB
    generalize (unv b).1 = K at *
    generalize (unv (b.drop (unv b).2)).1 = C at *
    generalize (unv b).2 + (unv (b.drop (unv b).2)).2 = M at *
    obtain ⟨rfl, rfl, rfl⟩ : B = false ∧ p4 = false ∧ p6 = false := by
      cases B <;> cases p4 <;> cases p6 <;> simp_all
    have hk4 : K ≤ 4 := by have := of_decide_eq_false h4; omega
    have hc64 : C ≤ 64 := by have := of_decide_eq_false h6; omega
    have HUNB := Lib.hid UNB
    have HPT0 := Lib.hid PT0
    have hkc : ((K : Nat) : Int) ≤ 4 := by omega
    have OS := Lib.hid ((HO2.out.far hne 2 (.bool false)).kind (K : Int))
    have RS := Lib.hid (((HR2.out.flag false)).onl ((OnlB.refl w.heap.size _).setCell 0 (.int .i64 (K : Int))) (fun e => hne e.symm))
    have FS := Lib.hid ((HF2.out.setCell 2 (.bool false)).setHigh (p := ⟨w.heap.size, 0, none⟩) (Nat.le_of_lt hgl) (Nat.le_refl _) (.int .i64 (K : Int)))
    clear UNB PT0 HCB HUB HL HN2 h4 h6 HO2 HR2 HF2 U1 U2 U3 U4 N2 F0 F1 F2 f1 f2
    go_wp2_with fail
    clear c0 c1 c2 g1 g2 o0 o1 k0 k1 hol2 hgl2
    go_loopw [34] (fun i wr => ∃ (k : Nat) (vi : Value), k ≤ C ∧ i = .int .u64 k ∧ ObS wr w.heap.size (K : Int) vi ∧ OwnPt wr (w.heap.size + 1) vi (ptsAt b k).1 ∧ RdS wr g v (ptsAt b k).2.1 (ptsAt b k).2.2 ∧ OnlB g w wr) (fun i _ => C - (intOf i).toNat)
    case atStart =>
      refine ⟨0, _, Nat.zero_le _, rfl, OS.out, ?_, ?_, FS.out⟩
      · rw [HPT0.out]; exact World.ownsRow_nil _ _ _ _
      · rw [HPT0.out]; exact RS.out
    case round =>
      obtain ⟨k, vi, hk, rfl, ho, hp, hr, hf⟩ := hrel
      have leA := ptsAt_le b k
      have len := ptsAt_len b k
      by_cases hlt : k < C
      · have t1 : decide ((k : Int) < (C : Int)) = true := decide_eq_true (Int.ofNat_lt.2 hlt)
        have NX : ptsAt b (k + 1) = ((ptsAt b k).1 ++ [((unsg (b.drop (ptsAt b k).2.1)).1, (unsg (b.drop ((ptsAt b k).2.1 + (unsg (b.drop (ptsAt b k).2.1)).2.1))).1)], (ptsAt b k).2.1 + (unsg (b.drop (ptsAt b k).2.1)).2.1 + (unsg (b.drop ((ptsAt b k).2.1 + (unsg (b.drop (ptsAt b k).2.1)).2.1))).2.1, (ptsAt b k).2.2 || !(unsg (b.drop (ptsAt b k).2.1)).2.2 || !(unsg (b.drop ((ptsAt b k).2.1 + (unsg (b.drop (ptsAt b k).2.1)).2.1))).2.2) := rfl
        generalize ptsAt b k = s at *
        obtain ⟨L, A, bd⟩ := s
        simp only at hp hr leA len NX
        have HLN := Lib.hid (show L.length ≤ 64 by omega)
        clear len
        have leX := (unsg_le (b.drop A)).2
        rw [List.length_drop] at leX
        have S1 := signed_any g v b A bd wr (BV.out _ hf) leA hl hr
        have S2 := fun w' (hw : OnlB g w w') (n : Nat) (q : Bool) (h1 : n ≤ b.length) (h2 : RdS w' g v n q) => signed_any g v b n q w' (BV.out _ hw) h1 hl h2
        generalize hxe : unsg (b.drop A) = x at *
        obtain ⟨X, dx, okx⟩ := x
        simp only at leX NX S1
        have leB : A + dx ≤ b.length := by omega
        have S2 := fun w' (hw : OnlB g w w') (q : Bool) => S2 w' hw (A + dx) q leB
        generalize hye : unsg (b.drop (A + dx)) = y at *
        obtain ⟨Y, dy, oky⟩ := y
        simp only at NX S2
        have HNX := Lib.hid NX
        have HS1 := Lib.hid S1
        have HS2 := Lib.hid S2
        have HLE := Lib.hid (And.intro leA (And.intro leX leB))
        have HRR := Lib.hid (And.intro hr (And.intro hf (And.intro ho hp)))
        obtain ⟨ai, ci, rfl, _⟩ := Rd.of_own hp
        clear NX S1 S2 hxe hye leA leX leB hr hf ho hp
        go_wp2_with fail
        refine HS1.out.mono ?_
        rintro e w1 ⟨rfl, r1, f1⟩
        obtain ⟨-, hf, ho, hp⟩ := HRR.out
        have o1 := ho.onl f1 hne
        have p1 : OwnPt w1 (w.heap.size + 1) _ L := f1.own hp (by omega)
        have F1 := hf.trans f1
        have carry : RdS w1.drew g v (A + dx) (bd || !okx) ∧ ObS w1.drew w.heap.size (K : Int) (.slice ai L.length ci) ∧ OwnPt w1.drew (w.heap.size + 1) (.slice ai L.length ci) L ∧ OnlB g w w1.drew := ⟨r1.stay rfl, o1.stay rfl, World.ownsRow.drew p1, ⟨F1.below.drew, F1.kept⟩⟩
        have HC1 := Lib.hid o1.c1
        clear HS1 hf ho hp r1 f1 o1 p1 F1 HRR
        go_wp2_with fail
        refine wp_region_noPanic ?_
        refine wp_region_till (stop := 7) (T := fun _ => True) (U := fun w' => w'.cell? ⟨w.heap.size, 1, none⟩ = some (.slice ai L.length ci)) (by kernel_rfl) (trivial) (HC1.out) (fun hHeld => ?_)
        generalize w1.drew = D at hHeld carry ⊢
        have kb := hHeld.1
        refine wpAnyL_take (i := 0) (oi := ⟨some 38, _, _, _, _, _⟩) (v := ?qv0ob) rfl (by kernel_rfl) (by kernel_rfl) (by kernel_rfl) (fun _ _ _ h => h) (by decide) (Or.inl ⟨by rfl, ?qy0ob⟩) (till_re hHeld (by rfl)) ?qr0ob
        case qy0ob => (intro w' hSw; go_simp; try with_reducible rfl)
        try simp only [Act.put, List.setIfInBounds_toArray, List.set_cons_zero, List.set_cons_succ]
        refine wpAnyL_takeU (i := 1) (oi := ⟨some 39, _, _, _, _, _⟩) (v := ?qv1ob) rfl (by kernel_rfl) (by kernel_rfl) (by kernel_rfl) (fun _ _ _ h => h) (by decide) (by kernel_rfl) (by rfl) (Or.inl ⟨by rfl, ?qy1ob⟩) (till_re hHeld (by rfl)) ?qr1ob
        case qy1ob => (intro w' hSw; have q1 := hSw; go_simp; try with_reducible rfl)
        try simp only [Act.put, List.setIfInBounds_toArray, List.set_cons_zero, List.set_cons_succ]
        refine wpAnyL_take (i := 2) (oi := ⟨some 40, _, _, _, _, _⟩) (v := ?qv2ob) rfl (by kernel_rfl) (by kernel_rfl) (by kernel_rfl) (fun _ _ _ h => h) (by decide) (Or.inl ⟨by rfl, ?qy2ob⟩) (till_re hHeld (by rfl)) ?qr2ob
        case qy2ob => (intro w' hSw; go_simp; try with_reducible rfl)
        try simp only [Act.put, List.setIfInBounds_toArray, List.set_cons_zero, List.set_cons_succ]
        refine wpAnyL_take (i := 3) (oi := ⟨some 41, _, _, _, _, _⟩) (v := ?qv3ob) rfl (by kernel_rfl) (by kernel_rfl) (by kernel_rfl) (fun _ _ _ h => h) (by decide) (Or.inl ⟨by rfl, ?qy3ob⟩) (till_re hHeld (by rfl)) ?qr3ob
        case qy3ob => (intro w' hSw; go_simp; try with_reducible rfl)
        try simp only [Act.put, List.setIfInBounds_toArray, List.set_cons_zero, List.set_cons_succ]
        refine wpAnyL_ready (rs := [4]) (by kernel_rfl) (by simp) ?_
        refine AllReadyL.cons (o := ⟨some 42, _, _, _, _, _⟩) rfl (fun K hK => ?_) AllReadyL.nil
        refine step_go (by rfl) 32 _ _ (by rfl) (fun _ _ => by kernel_rfl) _ (by rfl) (HS2.out _ carry.2.2.2 _ carry.1) ?_
        rintro e w4 ⟨rfl, r4, f4⟩
        refine ⟨_, rfl, ?_⟩
        have o4 := carry.2.1.onl f4 hne
        refine hK.out _ _ (⟨trivial, fun _ => o4.c1⟩) (fun hHeld => ?_)
        clear hK K
        try simp only [Act.put, List.setIfInBounds_toArray, List.set_cons_zero, List.set_cons_succ]
        refine wpAnyL_take (i := 5) (oi := ⟨some 43, _, _, _, _, _⟩) (v := ?qv5ob) rfl (by kernel_rfl) (by kernel_rfl) (by kernel_rfl) (fun _ _ _ h => h) (by decide) (Or.inl ⟨by rfl, ?qy5ob⟩) (till_re hHeld (by rfl)) ?qr5ob
        case qy5ob => (intro w' hSw; go_simp; try with_reducible rfl)
        try simp only [Act.put, List.setIfInBounds_toArray, List.set_cons_zero, List.set_cons_succ]
        refine wpAnyL_ready (rs := [6]) (by kernel_rfl) (by simp) ?_
        refine AllReadyL.cons (o := ⟨some 44, _, _, _, _, _⟩) rfl (fun K hK => ?_) AllReadyL.nil
        have b5 : Below w4.heap.size w4 (w4.alloc (.cells #[.int .i64 X, .int .i64 Y] 43)) := (Below.refl _ _).alloc (Nat.le_refl _) _
        have p4 : OwnPt w4 (w.heap.size + 1) _ L := f4.own carry.2.2.1 (by omega)
        have F4 := carry.2.2.2.trans f4
        have o5 := o4.stay (b5.block _ o4.lt)
        have p5 := p4.below b5
        have r5 := r4.below b5
        have F5 := F4.trans (OnlB.of_below b5 (Nat.le_of_lt r4.lt))
        have LIT : Rd (w4.alloc (.cells #[.int .i64 X, .int .i64 Y] 43)) (.slice (some ⟨w4.heap.size, 0, none⟩) 1 1) 1 (ptsV [(X, Y)]) := pts_lit w4 [(X, Y)] _ (0, 0) (by simp [maxLen])
        go_simp
        refine hK.out _ _ ⟨trivial, fun _ => o5.c1⟩ (fun hHeld => ?_)
        clear hK K
        try simp only [Act.put, List.setIfInBounds_toArray, List.set_cons_zero, List.set_cons_succ]
        refine wpAnyL_ready (rs := [7]) (by kernel_rfl) (by simp) ?_
        refine AllReadyL.cons (o := ⟨some 45, _, _, _, _, _⟩) rfl (fun K hK => ?_) AllReadyL.nil
        refine step_append_g (by rfl) _ _ 22 (by rfl) (w.heap.size + 1) 43 _ 2 16 Tryd.underlying22 info_ptS rfl (by decide) _ L.length (ptsV L) (by rfl) p5 _ 1 (ptsV [(X, Y)]) (by rfl) LIT rfl (ptsV_one _) (by unfold maxLen; have := HLN.out; omega) (by have := HLN.out; omega) (Nat.le_trans (Nat.succ_le_of_lt o4.lt) b5.size) ?_
        intro v6 w6 p6 f6
        have hb6 := World.ownsRow.lt p5
        have F6 := F5.frm f6 (by omega) (fun k hk => by have := (hb6 k hk).1; omega)
        have r6 := r5.stay (f6.kept g r5.lt (fun e => by have := (hb6 _ e).1; omega))
        have o6 := o5.stay (f6.kept _ o5.lt (fun e => by have := (hb6 _ e).1; omega))
        rw [← ptsV_append] at p6
        obtain ⟨a6, c6, rfl, _⟩ := Rd.of_own p6
        refine hK.out _ _ ⟨trivial, fun h => absurd h (by decide)⟩ (fun hHeld => ?_)
        clear hK K
        try simp only [Act.put, List.setIfInBounds_toArray, List.set_cons_zero, List.set_cons_succ]
        refine wpAnyL_take (i := 8) (oi := ⟨some 46, _, _, _, _, _⟩) (v := ?qv8ob) rfl (by kernel_rfl) (by kernel_rfl) (by kernel_rfl) (fun _ _ _ h => h) (by decide) (Or.inl ⟨by rfl, ?qy8ob⟩) (till_re hHeld (by rfl)) ?qr8ob
        case qy8ob => (intro w' hSw; go_simp; try with_reducible rfl)
        try simp only [Act.put, List.setIfInBounds_toArray, List.set_cons_zero, List.set_cons_succ]
        refine wpAnyL_ready (rs := [9]) (by kernel_rfl) (by simp) ?_
        refine AllReadyL.cons (o := ⟨none, _, _, _, _, _⟩) rfl (fun K hK => ?_) AllReadyL.nil
        obtain ⟨z0, z1, z2, z3⟩ := id o6
        go_simp
        refine hK.out _ _ ⟨trivial, fun h => absurd h (by decide)⟩ (fun hHeld => ?_)
        clear hK K
        try simp only [Act.put, List.setIfInBounds_toArray, List.set_cons_zero, List.set_cons_succ]
        refine wpAnyL_done (by kernel_rfl) ?_ _
        refine NoPanic.normal ?_
        have O7 := Lib.hid (o6.pts (.slice a6 (L.length + 1) c6))
        have P7 : OwnPt (w6.setCell ⟨w.heap.size, 1, none⟩ (.slice a6 (L.length + 1) c6)) (w.heap.size + 1) (.slice a6 (L.length + 1) c6) (L ++ [(X, Y)]) := by
          unfold OwnPt
          rw [List.length_append]
          exact own_setLow p6 (Nat.lt_succ_self _) _ _
        have HP7 := Lib.hid P7
        have R7 := Lib.hid (r6.onl ((OnlB.refl w.heap.size _).setCell 1 (.slice a6 (L.length + 1) c6)) (fun e => hne e.symm))
        have F7 := Lib.hid (F6.setHigh (p := ⟨w.heap.size, 1, none⟩) (Nat.le_of_lt hgl) (Nat.le_refl _) (.slice a6 (L.length + 1) c6))
        clear hHeld kb LIT P7 p6 f6 o6 r6 F6 F5 r5 p5 o5 b5 p4 F4 o4 r4 f4 hb6 z0 z1 z2 z3 carry
        go_wp2_with fail
        go_roundw
        case rel => exact ⟨k + 1, _, by omega, by go_num, O7.out, by rw [HNX.out]; exact HP7.out, by rw [HNX.out]; exact R7.out, F7.out⟩
        case measure => simp [intOf]; omega
      · obtain rfl : k = C := by omega
        have t1 : decide ((k : Int) < (k : Int)) = false := by simp
        generalize ptsAt b k = s at *
        obtain ⟨L, A, bd⟩ := s
        simp only at hp hr leA len
        clear len
        have hp0 := hp
        obtain ⟨ai, ci, rfl, _⟩ := Rd.of_own hp0
        have UN := HUNB.out
        simp only at UN
        cases bd with
        | true =>
          rw [if_pos rfl] at UN
          have FIN := Lib.hid (show ObjRet w g v b (.returned (.agg #[.int .i64 (K : Int), .slice ai L.length ci])) (((wr.setCell ⟨g, 2, none⟩ (.bool true)).setCell ⟨w.heap.size, 0, none⟩ (.int .i64 (K : Int))).setCell ⟨w.heap.size, 1, none⟩ (.slice ai L.length ci)) from by
            refine ⟨K, _, L, true, A, rfl, ?_, ?_, (fun _ => UN), (fun h => by cases h), ?_⟩
            · exact own_base (own_setLow (own_setLow (own_setLow hp (by omega) _ _) (Nat.lt_succ_self _) _ _) (Nat.lt_succ_self _) _ _) (Nat.le_succ _)
            · exact ((hr.flag true).onl ((OnlB.refl w.heap.size _).setCell 0 _) (fun e => hne e.symm)).onl ((OnlB.refl w.heap.size _).setCell 1 _) (fun e => hne e.symm)
            · exact ((hf.setCell 2 (.bool true)).setHigh (p := ⟨w.heap.size, 0, none⟩) (Nat.le_of_lt hgl) (Nat.le_refl _) _).setHigh (p := ⟨w.heap.size, 1, none⟩) (Nat.le_of_lt hgl) (Nat.le_refl _) _)
          have OF := Lib.hid (((ho.far hne 2 (.bool true)).kind (K : Int)).pts (.slice ai L.length ci))
          obtain ⟨c0, c1, c2, g1, g2⟩ := hr
          obtain ⟨o0, o1, k0, k1⟩ := ho
          clear hp hp0 hf UN
          go_wp2_with fail
          obtain ⟨y0, y1, -, -⟩ := OF.out
          exact bodyPost_ret (v := .agg #[.int .i64 (K : Int), .slice ai L.length ci]) (by simp [results, Tryd.results19, go_sem, y0, y1]) rfl FIN.out
        | false =>
          rw [if_neg (by simp)] at UN
          have RC := relChk_any (K : Int) _ L wr (OwnPt.pts hp)
          obtain ⟨z, hz⟩ : ∃ z, z = !decide (objCode (K : Int) L = 0) := ⟨_, rfl⟩
          have FIN := fun w3 (b3 : Below wr.heap.size wr w3) => (show ObjRet w g v b (.returned (.agg #[.int .i64 (K : Int), .slice ai L.length ci])) (((w3.setCell ⟨g, 2, none⟩ (.bool z)).setCell ⟨w.heap.size, 0, none⟩ (.int .i64 (K : Int))).setCell ⟨w.heap.size, 1, none⟩ (.slice ai L.length ci)) from by
            refine ⟨K, _, L, z, A, rfl, ?_, ?_, (fun h => ?_), (fun h => ⟨K, ?_, rfl⟩), ?_⟩
            · exact own_base (own_setLow (own_setLow (own_setLow (own_below' hp b3) (by omega) _ _) (Nat.lt_succ_self _) _ _) (Nat.lt_succ_self _) _ _) (Nat.le_succ _)
            · exact (((hr.below b3).flag z).onl ((OnlB.refl w.heap.size _).setCell 0 _) (fun e => hne e.symm)).onl ((OnlB.refl w.heap.size _).setCell 1 _) (fun e => hne e.symm)
            · rw [UN, if_neg (by rw [h] at hz; simpa using hz.symm)]
            · rw [UN, if_pos (by rw [h] at hz; simpa using hz.symm)]
            · exact (((hf.trans (OnlB.of_below b3 (Nat.le_of_lt hr.lt))).setCell 2 (.bool z)).setHigh (p := ⟨w.heap.size, 0, none⟩) (Nat.le_of_lt hgl) (Nat.le_refl _) _).setHigh (p := ⟨w.heap.size, 1, none⟩) (Nat.le_of_lt hgl) (Nat.le_refl _) _)
          have HFIN := Lib.hid FIN
          have OF := Lib.hid (fun w3 (b3 : Below wr.heap.size wr w3) => (((ho.stay (b3.block _ ho.lt)).far hne 2 (.bool z)).kind (K : Int)).pts (.slice ai L.length ci))
          have HX := Lib.hid (fun w3 (b3 : Below wr.heap.size wr w3) => And.intro (hr.below b3) (ho.stay (b3.block _ ho.lt)))
          obtain ⟨c0, c1, c2, g1, g2⟩ := hr
          obtain ⟨o0, o1, k0, k1⟩ := ho
          clear hp hp0 hf UN FIN
          by_cases hcode : objCode (K : Int) L = 0
          · rw [objEr_none.2 hcode] at RC
            obtain rfl : z = false := by rw [hz, hcode]; simp
            have HRC := Lib.hid RC
            clear RC hz hcode
            go_wp2_with fail
            refine HRC.out.mono ?_
            rintro e w3 ⟨u, rfl, rfl, b3⟩
            obtain ⟨⟨d0, d1, d2, h1, h2⟩, ⟨p0, p1, l0, l1⟩⟩ := HX.out w3 b3
            have FN := Lib.hid (HFIN.out w3 b3)
            have OO := Lib.hid (OF.out w3 b3)
            clear b3 c0 c1 c2 g1 g2 o0 o1 k0 k1
            go_wp2_with fail
            obtain ⟨y0, y1, -, -⟩ := OO.out
            exact bodyPost_ret (v := .agg #[.int .i64 (K : Int), .slice ai L.length ci]) (by simp [results, Tryd.results19, go_sem, y0, y1]) rfl FN.out
          · have hE : (objEr (K : Int) L).wrap strObj (K : Int) ≠ .none := fun q => hcode (objEr_none.1 (wrap_none.1 q))
            obtain rfl : z = true := by rw [hz]; simp [hcode]
            have HRC := Lib.hid RC
            clear RC hz hcode
            generalize (objEr (K : Int) L).wrap strObj (K : Int) = E at *
            go_wp2_with fail
            refine HRC.out.mono ?_
            rintro e w3 ⟨u, rfl, hu, b3⟩
            obtain ⟨T, y, rfl⟩ := hu.iface hE
            obtain ⟨⟨d0, d1, d2, h1, h2⟩, ⟨p0, p1, l0, l1⟩⟩ := HX.out w3 b3
            have FN := Lib.hid (HFIN.out w3 b3)
            have OO := Lib.hid (OF.out w3 b3)
            clear b3 hu c0 c1 c2 g1 g2 o0 o1 k0 k1
            go_wp2_with fail
            obtain ⟨y0, y1, -, -⟩ := OO.out
            exact bodyPost_ret (v := .agg #[.int .i64 (K : Int), .slice ai L.length ci]) (by simp [results, Tryd.results19, go_sem, y0, y1]) rfl FN.out
end

end Go.Proofs.YthcfekabeidmiaaRRDoorR
