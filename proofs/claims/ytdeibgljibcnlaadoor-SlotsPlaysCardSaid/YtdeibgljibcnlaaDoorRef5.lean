/- pergolaref8's page, its two rows apart; append with its frame. -/
import Derived.Test.YtdeibgljibcnlaaDoorRef4
import Derived.Test.YtdeibgljibcnlaaDoorKeepMath
namespace Go.Proofs.YtdeibgljibcnlaaDoor
open Go.RowKit

/-- of blocks of one type, and of new ones, alone something has turned -/
structure FrmT (e : TypeId) (base : Nat) (w w' : World) : Prop where
  below : Below base w w'
  kept : ∀ (k : Nat) (c : Array Value) (t : TypeId) (m : Nat × Nat), w.heap[k]? = some (.cells c t m) → t ≠ e → w'.heap[k]? = w.heap[k]?
theorem FrmT.own {e0 : TypeId} {base : Nat} {w w' : World} (h : FrmT e0 base w w') {b s n : Nat} {e : TypeId} {v : Value} {xs : List Value} (h1 : e ≠ e0) (ho : w.ownsRow b e s v n xs) : w'.ownsRow b e s v n xs := by
  refine ⟨ho.1, ?_⟩
  rcases ho.2 with hn | ⟨g, cap, cur, rfl, hbg, hg, q⟩
  · exact .inl hn
  · exact .inr ⟨g, cap, cur, rfl, hbg, (h.kept _ _ _ _ hg h1).trans hg, q⟩
theorem FrmT.frmR {e : TypeId} {base : Nat} {w w' : World} (h : FrmT e base w w') (he : e = 4 ∨ e = 30) : FrmR base w w' :=
  ⟨h.below, fun k c t m hk t1 t2 _ => h.kept k c t m hk (by rcases he with rfl | rfl <;> assumption)⟩

/-- append onto a row of the call's own, of cells of one word: what else is there stays -/
theorem wp_append_fr {w : World} {o : Oper} {a : Act} {K : Act → World → Prop} {Q : Exit → Act → World → Prop} (s x : Operand) (t e : TypeId)
    (ho : o.op = .call { callee := .builtin .append, args := #[s, x], argTypes := #[t, t] })
    (base : Nat) (z : Value) (bytes : Nat) (ht : Tryd.prog.underlying t = some (.slice e)) (hi : (Tryd.prog.info? e).map (fun i => (i.zero, i.size, i.bytes)) = some (some z, 1, bytes)) (hz1 : z.cells.size = 1) (hby0 : bytes ≤ 24)
    (v : Value) (n : Nat) (xs : List Value) (hs : a.eval s = v) (hown : w.ownsRow base e 1 v n xs) (y : Value) (u : Value) (hx : a.eval x = y) (hy : Rd w y 1 [u]) (hu1 : u.oneCell' = true)
    (h63 : n ≤ 1000000) (hbase : base ≤ w.heap.size)
    (h : ∀ v' w', w'.ownsRow base e 1 v' (n + 1) (xs ++ [u]) → FrmT e base w w' → K (a.put o.dst v') w') : o.wp Tryd.prog a w K Q := by
  obtain ⟨i, hi, hz, hsize, hby⟩ := info_parts hi
  obtain ⟨ao, c, rfl, h2, h3, h0, h4⟩ := hy
  cases ao with
  | none =>
    have := h0 rfl
    omega
  | some ad =>
    refine wp_append_own w s x t ho base e i z 1 bytes ht hi hz hsize hby hz1 (by decide) v n xs hs hown ad 1 c [u] hx rfl ?_ (by simpa using hu1) (by unfold maxLen; omega) (by
      have : (n + 1) * bytes ≤ 1000001 * 24 := Nat.mul_le_mul (by omega) hby0
      omega) hbase ?_
    · intro j u' hu
      obtain ⟨hj, rfl⟩ := List.getElem?_eq_some_iff.1 hu
      obtain ⟨b, off, e, hlt, hc⟩ := h4 j hj
      obtain rfl := Option.some.inj e
      rw [Addr.add_lit]
      exact hc
    · intro v' w' h5 h6 h7
      refine h v' w' h5 ⟨below_grown hown h6 (Nat.le_refl _) hbase, fun k c t fm hk ht => ?_⟩
      refine h6.block k (lt_of_block hk) (fun q => ?_)
      obtain ⟨c', fz, h8⟩ := Go.Lib.ownsRow_kind hown k q.symm
      rw [hk] at h8
      simp at h8
      exact ht h8.2.1
theorem wpList_append_fr {w : World} {ops : Array Oper} {rest : List Oper} {o : Oper} {a : Act} {Q : Exit → Act → World → Prop} (hgd : o.guard = none) (s x : Operand) (t e : TypeId)
    (ho : o.op = .call { callee := .builtin .append, args := #[s, x], argTypes := #[t, t] })
    (base : Nat) (z : Value) (bytes : Nat) (ht : Tryd.prog.underlying t = some (.slice e)) (hi : (Tryd.prog.info? e).map (fun i => (i.zero, i.size, i.bytes)) = some (some z, 1, bytes)) (hz1 : z.cells.size = 1) (hby0 : bytes ≤ 24)
    (v : Value) (n : Nat) (xs : List Value) (hs : a.eval s = v) (hown : w.ownsRow base e 1 v n xs) (y : Value) (u : Value) (hx : a.eval x = y) (hy : Rd w y 1 [u]) (hu1 : u.oneCell' = true)
    (h63 : n ≤ 1000000) (hbase : base ≤ w.heap.size)
    (h : ∀ v' w', w'.ownsRow base e 1 v' (n + 1) (xs ++ [u]) → FrmT e base w w' → wpList Tryd.prog ops Q rest (a.put o.dst v') w') : wpList Tryd.prog ops Q (o :: rest) a w :=
  wpList_plain hgd fun _ hK => wp_append_fr s x t e ho base z bytes ht hi hz1 hby0 v n xs hs hown y u hx hy hu1 h63 hbase fun v' w' h2 h3 => hK _ _ (h v' w' h2 h3)
theorem info_bool2 : (Tryd.prog.info? 4).map (fun i => (i.zero, i.size, i.bytes)) = some (some (.bool false), 1, 1) := by kernel_rfl
theorem info_bytes2 : (Tryd.prog.info? 30).map (fun i => (i.zero, i.size, i.bytes)) = some (some (.slice none 0 0), 1, 24) := by kernel_rfl

/-- the reference's page by its two rows' cells -/
def RefG (w : World) (B q : Nat) (kind id : Int) (VB VH : Value) (vs hs : List Value) : Prop :=
  B ≤ q ∧ w.heap[q]? = some (.cells #[.int .i64 kind, .int .i64 id, VB, VH] 77 (0, 0)) ∧ w.ownsRow B 30 1 VB vs.length vs ∧ w.ownsRow B 4 1 VH hs.length hs
theorem RefIs.g {w : World} {B q : Nat} {kind id : Int} {r : List SlotV} (h : RefIs w B q kind id r) : (∃ VB VH, RefG w B q kind id VB VH (bytV r) (hasV r)) ∧ ∀ x ∈ r, SlotIs w B x := by
  obtain ⟨h0, VB, VH, h1, h2, h3, h4⟩ := h
  exact ⟨⟨VB, VH, h0, h1, by rw [bytV_length]; exact h2, by rw [hasV_length]; exact h3⟩, h4⟩
theorem RefG.is {w : World} {B q : Nat} {kind id : Int} {VB VH : Value} {r : List SlotV} (h : RefG w B q kind id VB VH (bytV r) (hasV r)) (h4 : ∀ x ∈ r, SlotIs w B x) : RefIs w B q kind id r := by
  obtain ⟨h0, h1, h2, h3⟩ := h
  rw [bytV_length] at h2
  rw [hasV_length] at h3
  exact ⟨h0, VB, VH, h1, h2, h3, h4⟩
theorem RefG.below {w w' : World} {B q : Nat} {kind id : Int} {VB VH : Value} {vs hs : List Value} (h : RefG w B q kind id VB VH vs hs) (hb : Below w.heap.size w w') : RefG w' B q kind id VB VH vs hs :=
  ⟨h.1, (hb.block _ (lt_of_block h.2.1)).trans h.2.1, own_below' h.2.2.1 hb, own_below' h.2.2.2 hb⟩
theorem RefG.appHas {w w' : World} {B q : Nat} {kind id : Int} {VB VH V : Value} {vs hs : List Value} {u : Value} (h : RefG w B q kind id VB VH vs hs) (hf : FrmT 4 B w w') (ho : w'.ownsRow B 4 1 V (hs.length + 1) (hs ++ [u])) :
    RefG (w'.setCell ⟨q, 3, none⟩ V) B q kind id VB V vs (hs ++ [u]) ∧ FrmR B w (w'.setCell ⟨q, 3, none⟩ V) ∧ w'.cell? ⟨q, 3, none⟩ = some VH ∧ w'.frozen? ⟨q, 3, none⟩ = false := by
  obtain ⟨h0, h1, h2, h3⟩ := h
  have h1' := (hf.kept _ _ _ _ h1 (by decide)).trans h1
  refine ⟨⟨h0, page_setCell h1', own_setOther' (hf.own (by decide) h2) h1' (by decide) _ _, ?_⟩, (hf.frmR (.inl rfl)).setPage h1' h0 _ _, by simp [World.cell?, h1'], free_page4 h1' 3⟩
  rw [List.length_append]
  exact own_setOther' ho h1' (by decide) _ _
theorem RefG.appB {w w' : World} {B q : Nat} {kind id : Int} {VB VH V : Value} {vs hs : List Value} {u : Value} (h : RefG w B q kind id VB VH vs hs) (hf : FrmT 30 B w w') (ho : w'.ownsRow B 30 1 V (vs.length + 1) (vs ++ [u])) :
    RefG (w'.setCell ⟨q, 2, none⟩ V) B q kind id V VH (vs ++ [u]) hs ∧ FrmR B w (w'.setCell ⟨q, 2, none⟩ V) ∧ w'.cell? ⟨q, 2, none⟩ = some VB ∧ w'.frozen? ⟨q, 2, none⟩ = false := by
  obtain ⟨h0, h1, h2, h3⟩ := h
  have h1' := (hf.kept _ _ _ _ h1 (by decide)).trans h1
  refine ⟨⟨h0, page_setCell2 h1', ?_, own_setOther' (hf.own (by decide) h3) h1' (by decide) _ _⟩, (hf.frmR (.inr rfl)).setPage h1' h0 _ _, by simp [World.cell?, h1'], free_page4 h1' 2⟩
  rw [List.length_append]
  exact own_setOther' ho h1' (by decide) _ _
theorem FrmT.setRow {e : TypeId} {B g : Nat} {w : World} {c : Array Value} {m : Nat × Nat} (hg : w.heap[g]? = some (.cells c e m)) (hB : B ≤ g) (j : Nat) (u : Value) : FrmT e B w (w.setCell ⟨g, j, none⟩ u) :=
  ⟨(Below.refl _ _).setCell (p := ⟨g, j, none⟩) hB _, fun k c' t m' hk ht => by
    have hne : k ≠ g := fun q => by subst q; rw [hg] at hk; simp at hk; exact ht hk.2.1.symm
    rw [Below.heap_setCell _ _ _ _ (fun q => hne (by simpa using q))]⟩
theorem RefG.setHas {w : World} {B q g n c : Nat} {kind id : Int} {VB : Value} {vs hs : List Value} (h : RefG w B q kind id VB (.slice (some ⟨g, 0, none⟩) n c) vs hs) (hn : n = hs.length) (k : Nat) (u : Value) :
    RefG (w.setCell ⟨g, k, none⟩ u) B q kind id VB (.slice (some ⟨g, 0, none⟩) n c) vs (hs.set k u) ∧ FrmR B w (w.setCell ⟨g, k, none⟩ u) := by
  subst hn
  obtain ⟨h0, h1, h2, h3⟩ := h
  obtain ⟨_, _, hg⟩ := Go.Lib.ownsRow_kind h3 g rfl
  have f := FrmT.setRow (j := k) (u := u) hg (World.ownsRow.lt h3 g rfl).1
  refine ⟨⟨h0, (f.kept _ _ _ _ h1 (by decide)).trans h1, f.own (by decide) h2, ?_⟩, f.frmR (.inl rfl)⟩
  rw [List.length_set]
  exact (World.ownsRow.stored h3 k u).1
theorem RefG.setB {w : World} {B q g n c : Nat} {kind id : Int} {VH : Value} {vs hs : List Value} (h : RefG w B q kind id (.slice (some ⟨g, 0, none⟩) n c) VH vs hs) (hn : n = vs.length) (k : Nat) (u : Value) :
    RefG (w.setCell ⟨g, k, none⟩ u) B q kind id (.slice (some ⟨g, 0, none⟩) n c) VH (vs.set k u) hs ∧ FrmR B w (w.setCell ⟨g, k, none⟩ u) := by
  subst hn
  obtain ⟨h0, h1, h2, h3⟩ := h
  obtain ⟨_, _, hg⟩ := Go.Lib.ownsRow_kind h2 g rfl
  have f := FrmT.setRow (j := k) (u := u) hg (World.ownsRow.lt h2 g rfl).1
  refine ⟨⟨h0, (f.kept _ _ _ _ h1 (by decide)).trans h1, ?_, f.own (by decide) h3⟩, f.frmR (.inr rfl)⟩
  rw [List.length_set]
  exact (World.ownsRow.stored h2 k u).1

/-- which error Insert tells, by numbers -/
theorem putE_ix (st : List SlotL) (b : List UInt8) : putE st (ixS st) b = if 400 < b.length then 13 else if 512 < sizeS st + b.length + (if ixS st = st.length then 4 else 0) ∨ 60 ≤ ixS st then 8 else 0 := by
  have hle := ixS_le st
  unfold putE
  by_cases h4 : 400 < b.length
  · rw [if_pos h4, if_pos h4]
  · rw [if_neg h4, if_neg h4]
    have hz : sizeS (putS st (ixS st) b) = sizeS st + b.length + (if ixS st = st.length then 4 else 0) := by
      rcases Nat.lt_or_ge (ixS st) st.length with h | h
      · have h1 := sizeS_put h b
        have h2 := atS_ix st
        rw [atS_in h] at h2
        rw [h2] at h1
        rw [if_neg (by omega)]
        simp only [blen] at h1
        omega
      · rw [if_pos (by omega)]
        unfold putS sizeS
        rw [if_neg (by omega), List.length_append, List.map_append, List.sum_append]
        simp [blen]
        omega
    rw [hz]
    by_cases h6 : 60 ≤ ixS st
    · rw [if_pos h6, if_pos (.inr h6)]
    · rw [if_neg h6]
      by_cases h5 : 512 < sizeS st + b.length + (if ixS st = st.length then 4 else 0)
      · rw [if_pos h5, if_pos (.inl h5)]
      · rw [if_neg h5, if_neg (by omega)]
end Go.Proofs.YtdeibgljibcnlaaDoor
