/- pergolalaw7.made at one that wraps many; at any node. -/
import Derived.Test.YthijffpackkcnaaMade
import Derived.Test.YthijffpackkcnaaCode
import Derived.Deep.RegionLaw
namespace Go.Proofs.Ythijffpackkcnaa
open Go.RowKit

theorem info_err : (Try.prog.info? 28).map (fun i => (i.zero, i.size, i.bytes)) = some (some .nilIface, 1, 16) := by kernel_rfl

theorem step_append_at {P : Program} {w : World} {ops : Array Oper} {o : Oper} {a : Act} {K : Act → World → Prop} {Q : Exit → Act → World → Prop} {E : Prop} (hgd : o.guard = none) (s x : Operand) (t : TypeId)
    (ho : o.op = .call { callee := .builtin .append, args := #[s, x], argTypes := #[t, t] })
    (base : Nat) (e : TypeId) (z : Value) (size bytes : Nat) (ht : P.underlying t = some (.slice e)) (hi : (P.info? e).map (fun i => (i.zero, i.size, i.bytes)) = some (some z, size, bytes))
    (hzs : z.cells.size = size) (hsz : 0 < size)
    (v : Value) (n : Nat) (xs : List Value) (hs : a.eval s = v) (hown : w.ownsRow base e size v n xs)
    (y : Value) (m : Nat) (news : List Value) (hx : a.eval x = y) (hy : Rd w y m news) (hl : news.length = m * size) (h1 : ∀ u ∈ news, u.oneCell' = true)
    (h63 : n + m ≤ maxLen) (hbytes : (n + m) * bytes ≤ 140737488355328) (hbase : base ≤ w.heap.size)
    (h : ∀ v' w', w'.ownsRow base e size v' (n + m) (xs ++ news) → w.grownBy w' v.ownBlock → (v'.ownBlock = v.ownBlock ∨ v'.ownBlock = some w.heap.size) → K (a.put o.dst v') w') :
    if Region.wanted o (yielded ops a.tmps) = true then Oper.wp P o a w K Q else E := by
  have hw : Region.wanted o (yielded ops a.tmps) = true := by simp [Region.wanted, hgd]
  rw [if_pos hw]
  exact wp_append_at s x t ho base e z size bytes ht hi hzs hsz v n xs hs hown y m news hx hy hl h1 h63 hbytes hbase h

/-- A call of a Go function of one argument, as one step of a region that draws. -/
theorem step_call1 {P : Program} {w : World} {ops : Array Oper} {o : Oper} {a : Act} {K : Act → World → Prop} {Q : Exit → Act → World → Prop} {E : Prop} (hgd : o.guard = none) (f : FuncId) (x : Operand) (t : TypeId)
    (ho : o.op = .call { callee := .value (.func f), args := #[x], argTypes := #[t] }) (hent : ∀ (args : Array Value) (w : World), (callFunc f args).run P w = .ok (.enter f args) w) (y : Value) (hx : a.eval x = y)
    {R : Ending → World → Prop} (hc : Calls P f #[y] w R) (h : ∀ e w', R e w' → ∃ v, e = .returned v ∧ K (a.put o.dst v) w') :
    if Region.wanted o (yielded ops a.tmps) = true then Oper.wp P o a w K Q else E := by
  have hw : Region.wanted o (yielded ops a.tmps) = true := by simp [Region.wanted, hgd]
  rw [if_pos hw]
  have hrun : (execOp a.eval o).run P w = .ok (.enter f #[y]) w := by
    simp [execOp, ho, resolve, Deferred.ofValue, invoke, Act.eval, hent]
    simpa [Act.eval] using hx
  unfold Oper.wp
  rw [hrun, Oper.upon_enter]
  exact hc.mono fun e w' hr => by
    obtain ⟨v, rfl, hk⟩ := h e w' hr
    exact hk

/-- what is known of a joined error's row, in the loop that fills it -/
structure Row (w0 : World) (M : Nat) (l : List En) (wr : World) (v : Value) (vs : List Value) : Prop where
  cell : wr.heap[M]? = some (.cells #[v] 58 (0, 0))
  own : wr.ownsRow (M + 1) 28 1 v l.length vs
  on : EnsOn (fun b => M < b ∧ v.ownBlock ≠ some b) wr l vs
  base : w0.heap.size ≤ M

theorem RdOn.of_own {w : World} {base : Nat} {e : TypeId} {size n : Nat} {v : Value} {xs : List Value} (h : w.ownsRow base e size v n xs) : RdOn (fun b => base ≤ b) w v n xs := by
  obtain ⟨ao, c, hv, h1, h2, h3, h4⟩ := Rd.of_own h
  refine ⟨ao, c, hv, h1, h2, h3, fun i hi => ?_⟩
  obtain ⟨b, off, e, hlt, hc⟩ := h4 i hi
  exact ⟨b, off, e, (h.lt b (by rw [hv, e]; rfl)).1, hlt, hc⟩

/-- one more error in the row -/
theorem row_step {w0 wr w2 w4 : World} {M : Nat} {l : List En} {x : En} {v v4 u : Value} {vs : List Value} {o : Obj} (hrow : Row w0 M l wr v vs) (b2 : Below wr.heap.size wr w2) (hx : x.On (fun b => wr.heap.size ≤ b) w2 u)
    (ho4 : w4.ownsRow (M + 1) 28 1 v4 (l.length + 1) (vs ++ [u])) (hg4 : (w2.alloc o).grownBy w4 v.ownBlock) (hat4 : v4.ownBlock = v.ownBlock ∨ v4.ownBlock = some (w2.alloc o).heap.size) (hv4 : w4.heap[M]? = some (.cells #[v] 58 (0, 0))) :
    Row w0 M (l ++ [x]) (w4.setCell ⟨M, 0, none⟩ v4) v4 (vs ++ [u]) := by
  have hM := lt_of_block hrow.cell
  have hown := fun g h => World.ownsRow.lt hrow.own g h
  have hz : (w2.alloc o).heap.size = w2.heap.size + 1 := by simp
  have hs2 := b2.size
  have same4 : ∀ b, b < w2.heap.size → some b ≠ v.ownBlock → b ≠ M → ∀ off, (w4.setCell ⟨M, 0, none⟩ v4).cell? ⟨b, off, none⟩ = w2.cell? ⟨b, off, none⟩ := fun b h1 h2 h3 off => by
    have e1 : (w4.setCell ⟨M, 0, none⟩ v4).heap[b]? = w2.heap[b]? := (Below.heap_setCell _ _ _ _ h3).trans ((hg4.block b (by omega) h2).trans (Below.heap_alloc _ _ _ h1))
    exact World.cell?_of_block (a := ⟨b, off, none⟩) e1
  have hsz : w2.heap.size ≤ (w4.setCell ⟨M, 0, none⟩ v4).heap.size := by have := hg4.size; simp at this ⊢; omega
  refine ⟨one_setCell hv4, ?_, ?_, hrow.base⟩
  · rw [List.length_append]
    exact ownsRow_setCell_other ho4 (fun h => by have := (World.ownsRow.lt ho4 _ h).1; simp at this; omega) v4
  · have A : SameOn (fun b => M < b ∧ v.ownBlock ≠ some b) wr (w4.setCell ⟨M, 0, none⟩ v4) := ⟨Nat.le_trans hs2 hsz, fun b hb hl off =>
      (same4 b (by omega) (fun e => hb.2 e.symm) (by omega) off).trans (b2.cell (p := ⟨b, off, none⟩) hl)⟩
    have A2 : ∀ b, (M < b ∧ v.ownBlock ≠ some b) → b < wr.heap.size → (M < b ∧ v4.ownBlock ≠ some b) := fun b hb hl => ⟨hb.1, by
      rcases hat4 with h | h <;> rw [h]
      · exact hb.2
      · rw [hz]; simp; omega⟩
    have B : SameOn (fun b => wr.heap.size ≤ b) w2 (w4.setCell ⟨M, 0, none⟩ v4) := ⟨hsz, fun b hb hl off =>
      same4 b hl (fun e => by have := (hown b e.symm).2; omega) (by omega) off⟩
    have B2 : ∀ b, wr.heap.size ≤ b → b < w2.heap.size → (M < b ∧ v4.ownBlock ≠ some b) := fun b hb hl => ⟨by omega, by
      rcases hat4 with h | h <;> rw [h]
      · intro e; have := (hown b e).2; omega
      · rw [hz]; simp; omega⟩
    exact EnsOn.snoc (EnsOn.same A A2 hrow.on) (En.On.same B B2 hx)

set_option maxRecDepth 100000 in
set_option maxHeartbeats 1000000 in
theorem made_many (n : Int) (op : ByteArray) (ao : Option Addr) (c : Nat) (l : List Nd) (w : World) (hl3 : l.length ≤ 1000000) (hl : NdsIs w ao 0 l)
    (ih : ∀ k (h : k < l.length) w' d0 d1 d2 d3, Below w.heap.size w w' → l[k].Is w' d0 d1 d2 d3 → Calls Try.prog 8 #[.agg #[d0, d1, d2, d3]] w' (MadeRet w' l[k].en)) :
    Calls Try.prog 8 #[.agg #[.int .i64 3, .int .i64 n, .string op, .slice ao l.length c]] w (MadeRet w (.many false (ens l))) := by
  have IH := Lib.hid ih
  have HL := Lib.hid hl
  have hb1 : Below w.heap.size w (w.alloc (.cells #[.int .i64 3, .int .i64 n, .string op, .slice ao l.length c] 24)) := (Below.refl _ _).alloc (Nat.le_refl _) _
  have HB := Lib.hid (show ∀ wr, Below (w.heap.size + 1) (w.alloc (.cells #[.int .i64 3, .int .i64 n, .string op, .slice ao l.length c] 24)) wr → wr.cell? ⟨w.heap.size, 3, none⟩ = some (.slice ao l.length c) from fun wr h => (h.cell (p := ⟨w.heap.size, 3, none⟩) (by simp)).trans (by simp))
  clear ih hl
  go_enter Try.func8, Try.ntmps8
  go_wp2_with fail
  go_loopw [5] (fun i wr => ∃ (k : Nat) (v : Value) (vs : List Value), k ≤ l.length ∧ i = .int .i64 k ∧ Hid (Row w (w.heap.size + 1) (ens (l.take k)) wr v vs) ∧ Below (w.heap.size + 1) (w.alloc (.cells #[.int .i64 3, .int .i64 n, .string op, .slice ao l.length c] 24)) wr) (fun i _ => l.length - (intOf i).toNat)
  case atStart =>
    refine ⟨0, .slice none 0 0, [], Nat.zero_le _, rfl, ⟨?_, World.ownsRow_nil _ _ _ _, rfl, Nat.le_succ _⟩, (Below.refl _ _).alloc (by simp) _⟩
    have := heap_alloc_new (w.alloc (.cells #[.int .i64 3, .int .i64 n, .string op, .slice ao l.length c] 24)) (.cells #[.slice none 0 0] 58)
    simpa using this
  case round =>
    obtain ⟨k, v, vs, hk, rfl, hrow, hbel⟩ := hrel
    have hkc := HB.out _ hbel
    have hW := hb1.trans (hbel.mono (Nat.le_succ _))
    have hM := cell_of_one hrow.out.cell
    have hMf := free_of_one hrow.out.cell
    by_cases hlt : k < l.length
    · obtain ⟨b, off, d0, d1, d2, d3, rfl, hb0, q0, q1, q2, q3, hd⟩ := HL.out.get k hlt
      rw [Nat.zero_add] at q0 q1 q2 q3
      replace q0 := (hW.cell (p := ⟨b, off + k * 4, none⟩) hb0).trans q0
      replace q1 := (hW.cell (p := ⟨b, off + k * 4 + 1, none⟩) hb0).trans q1
      replace q2 := (hW.cell (p := ⟨b, off + k * 4 + 2, none⟩) hb0).trans q2
      replace q3 := (hW.cell (p := ⟨b, off + k * 4 + 3, none⟩) hb0).trans q3
      have i0 : (0 : Int) ≤ (k : Int) := by omega
      have i1 : (k : Int) < (l.length : Int) := by omega
      have hens := ens_take l k hlt
      have CALL := Lib.hid (show Calls Try.prog 8 #[.agg #[d0, d1, d2, d3]] wr.drew (MadeRet wr.drew l[k].en) from IH.out k hlt _ d0 d1 d2 d3 hW.drew (Nd.Is.below hW.drew hd))
      have KEEP := Lib.hid (show ∀ w', Below (w.heap.size + 1) wr w' → w'.cell? ⟨w.heap.size, 3, none⟩ = some (.slice (some ⟨b, off, none⟩) l.length c) ∧ w'.cell? ⟨b, off + k * 4, none⟩ = some d0 ∧ w'.cell? ⟨b, off + k * 4 + 1, none⟩ = some d1 ∧ w'.cell? ⟨b, off + k * 4 + 2, none⟩ = some d2 ∧ w'.cell? ⟨b, off + k * 4 + 3, none⟩ = some d3 from fun w' h =>
        ⟨(h.cell (p := ⟨w.heap.size, 3, none⟩) (Nat.lt_succ_self _)).trans hkc, (h.cell (p := ⟨b, off + k * 4, none⟩) (Nat.lt_succ_of_lt hb0)).trans q0, (h.cell (p := ⟨b, off + k * 4 + 1, none⟩) (Nat.lt_succ_of_lt hb0)).trans q1, (h.cell (p := ⟨b, off + k * 4 + 2, none⟩) (Nat.lt_succ_of_lt hb0)).trans q2, (h.cell (p := ⟨b, off + k * 4 + 3, none⟩) (Nat.lt_succ_of_lt hb0)).trans q3⟩)
      have hsz : w.heap.size + 1 < wr.heap.size := lt_of_block hrow.out.cell
      have ENT := Lib.hid (show Enters 8 from enters_of Try.func8 (by kernel_rfl) (by kernel_rfl))
      have NE := Lib.hid (show some (w.heap.size + 1) ≠ v.ownBlock from fun e => by have := (World.ownsRow.lt hrow.out.own _ e.symm).1; omega)
      have OWN := Lib.hid (show ∀ w2 o, Below wr.drew.heap.size wr.drew w2 → (w2.alloc o).ownsRow (w.heap.size + 1 + 1) 28 1 v k vs from fun w2 o hb => by
        have := hrow.out.own
        rw [ens_length, List.length_take, Nat.min_eq_left hk] at this
        exact World.ownsRow.alloc (own_below' (World.ownsRow.drew this) hb) _)
      clear hd
      generalize hx : l[k].en = x at *
      by_cases hn : x = .none
      · subst hn
        go_wp2_with fail
        go_region_law (first
          | (refine step_call1 (by rfl) 8 _ 24 (by rfl) ENT.out _ (by rfl) CALL.out ?_; rintro e w2 ⟨u, rfl, rfl, b2⟩; refine ⟨_, rfl, ?_⟩; have M2 : w2.cell? ⟨w.heap.size + 1, 0, none⟩ = some v := (b2.cell (p := ⟨w.heap.size + 1, 0, none⟩) hsz).trans hM; have z2 : w.heap.size + 1 < w2.heap.size := Nat.lt_of_lt_of_le hsz b2.size)
          | (refine step_append_at (by rfl) _ _ 56 (by rfl) (w.heap.size + 1 + 1) 28 _ 1 16 Try.underlying56 info_err rfl (by decide) v k vs (by rfl) (OWN.out _ _ b2) _ 1 [.nilIface] (by rfl) (rd_one _ _ _ _) rfl (by simp [Value.oneCell']) (by unfold maxLen; omega) (by omega) (by simp; omega) ?_; intro v4 w4 ho4 hg4 hat4; have hv4 := (hg4.block (w.heap.size + 1) (by simp; omega) NE.out).trans ((Below.heap_alloc w2 _ _ z2).trans ((b2.block _ hsz).trans hrow.out.cell)); have k1 := cell_of_one hv4; have k2 := free_of_one hv4; clear hM hMf M2; obtain ⟨ao4, c4, rfl, _⟩ := Rd.of_own ho4))
        all_goals
          have hbel4 : Below (w.heap.size + 1) (w.alloc (.cells #[.int .i64 3, .int .i64 n, .string op, .slice (some ⟨b, off, none⟩) l.length c] 24)) (w4.setCell ⟨w.heap.size + 1, 0, none⟩ (.slice ao4 (k + 1) c4)) := (((hbel.trans ((Below.refl _ wr).drew.trans (b2.mono (by simp; omega)))).alloc (by omega) _).grown hg4 (by simp; omega) (fun g hg => by have := (World.ownsRow.lt hrow.out.own g hg).1; omega)).setCell (Nat.le_refl _) _
          have ho4' : w4.ownsRow (w.heap.size + 1 + 1) 28 1 (.slice ao4 (k + 1) c4) ((ens (l.take k)).length + 1) (vs ++ [.nilIface]) := by rw [ens_length, List.length_take, Nat.min_eq_left hk]; exact ho4
          have hst := row_step (x := .none) hrow.out ((Below.refl _ wr).drew.trans b2) rfl ho4' hg4 hat4 hv4
          rw [← hens] at hst
          have HST := Lib.hid hst
          clear hst ho4 ho4' hv4 hg4 hat4 b2 k1 k2
          go_wp2_with fail
          go_roundw
          case rel => exact ⟨k + 1, _, _, by omega, by go_num, HST, hbel4⟩
          case measure => simp [intOf]; omega
      · have HN := Lib.hid hn
        clear hn
        go_wp2_with fail
        go_region_law (first
          | (refine step_call1 (by rfl) 8 _ 24 (by rfl) ENT.out _ (by rfl) CALL.out ?_; rintro e w2 ⟨u, rfl, on2, b2⟩; obtain ⟨T, y, rfl⟩ := on2.is.some HN.out; refine ⟨_, rfl, ?_⟩; have M2 : w2.cell? ⟨w.heap.size + 1, 0, none⟩ = some v := (b2.cell (p := ⟨w.heap.size + 1, 0, none⟩) hsz).trans hM; have z2 : w.heap.size + 1 < w2.heap.size := Nat.lt_of_lt_of_le hsz b2.size)
          | (refine step_append_at (by rfl) _ _ 56 (by rfl) (w.heap.size + 1 + 1) 28 _ 1 16 Try.underlying56 info_err rfl (by decide) v k vs (by rfl) (OWN.out _ _ b2) _ 1 [.iface T y] (by rfl) (rd_one _ _ _ _) rfl (by simp [Value.oneCell']) (by unfold maxLen; omega) (by omega) (by simp; omega) ?_; intro v4 w4 ho4 hg4 hat4; have hv4 := (hg4.block (w.heap.size + 1) (by simp; omega) NE.out).trans ((Below.heap_alloc w2 _ _ z2).trans ((b2.block _ hsz).trans hrow.out.cell)); have k1 := cell_of_one hv4; have k2 := free_of_one hv4; clear hM hMf M2; obtain ⟨ao4, c4, rfl, _⟩ := Rd.of_own ho4))
        all_goals
          have hbel4 : Below (w.heap.size + 1) (w.alloc (.cells #[.int .i64 3, .int .i64 n, .string op, .slice (some ⟨b, off, none⟩) l.length c] 24)) (w4.setCell ⟨w.heap.size + 1, 0, none⟩ (.slice ao4 (k + 1) c4)) := (((hbel.trans ((Below.refl _ wr).drew.trans (b2.mono (by simp; omega)))).alloc (by omega) _).grown hg4 (by simp; omega) (fun g hg => by have := (World.ownsRow.lt hrow.out.own g hg).1; omega)).setCell (Nat.le_refl _) _
          have ho4' : w4.ownsRow (w.heap.size + 1 + 1) 28 1 (.slice ao4 (k + 1) c4) ((ens (l.take k)).length + 1) (vs ++ [.iface T y]) := by rw [ens_length, List.length_take, Nat.min_eq_left hk]; exact ho4
          have hst := row_step (x := x) hrow.out ((Below.refl _ wr).drew.trans b2) on2 ho4' hg4 hat4 hv4
          rw [← hens] at hst
          have HST := Lib.hid hst
          clear hst on2 ho4 ho4' hv4 hg4 hat4 b2 k1 k2
          go_wp2_with fail
          go_roundw
          case rel => exact ⟨k + 1, _, _, by omega, by go_num, HST, hbel4⟩
          case measure => simp [intOf]; omega
    · obtain rfl : k = l.length := by omega
      have hr := hrow.out
      rw [List.take_length] at hr
      have hlt := lt_of_block hr.cell
      have hown := RdOn.of_own hr.own
      have hon := EnsOn.same (T := fun b => w.heap.size ≤ b) (SameOn.below (Below.refl _ _)) (fun b h _ => by omega) hr.on
      have OWN := Lib.hid hown
      have ON := Lib.hid hon
      clear hr hown hon
      go_wp2_with fail
      go_ret
      exact ⟨_, rfl, ⟨_, v, vs, rfl, Nat.le_succ _, hlt, hM, OWN.out.same (SameOn.below (Below.refl _ _)) (fun b h _ => by omega), ON.out⟩, hW⟩

theorem wts_len : ∀ l : List Nd, l.length ≤ wts l
  | [] => Nat.zero_le _
  | d :: l => by
    have := wts_len l
    have h : 1 ≤ d.wt := by cases d; simp only [Nd.wt]; omega
    simp only [List.length_cons, wts]; omega

theorem made_any : ∀ (n : Nat), n ≤ 1000000 → ∀ (d : Nd) (c0 c1 c2 c3 : Value) (w : World), d.wt ≤ n → d.Is w c0 c1 c2 c3 →
    Calls Try.prog 8 #[.agg #[c0, c1, c2, c3]] w (MadeRet w d.en) := by
  intro n
  induction n with
  | zero =>
    intro _ d c0 c1 c2 c3 w hn
    cases d; simp [Nd.wt] at hn
  | succ n ih =>
    intro hN d c0 c1 c2 c3 w hn hd
    obtain ⟨k, m, op, l⟩ := d
    obtain ⟨rfl, rfl, rfl, hop, ao, c, rfl, hc1, hc2, hl⟩ := hd
    unfold maxLen at hc2
    have hw : wts l ≤ n := by simp only [Nd.wt] at hn; omega
    have hlen := wts_len l
    have kid : ∀ (h : 0 < l.length), ∃ b off d0 d1 d2 d3, ao = some ⟨b, off, none⟩ ∧ Kid w b off d0 d1 d2 d3 ∧ ∀ w', Below w.heap.size w w' → Calls Try.prog 8 #[.agg #[d0, d1, d2, d3]] w' (MadeRet w' (enHead l)) := fun h => by
      obtain ⟨b, off, d0, d1, d2, d3, e, hb0, q0, q1, q2, q3, hd⟩ := hl.get 0 h
      refine ⟨b, off, d0, d1, d2, d3, e, ⟨hb0, by simpa using q0, by simpa using q1, by simpa using q2, by simpa using q3⟩, fun w' hb => ?_⟩
      have he : enHead l = l[0].en := by cases l with
        | nil => simp at h
        | cons x xs => rfl
      rw [he]
      exact ih (by omega) l[0] d0 d1 d2 d3 w' (by have := wts_mem (List.getElem_mem h); omega) (Nd.Is.below hb hd)
    by_cases h1 : k = 1
    · subst h1; exact made_num m op _ w
    · by_cases h2 : k = 2
      · subst h2
        show Calls _ _ _ _ (MadeRet w (.fault op m (enHead l)))
        by_cases h0 : 0 < l.length
        · obtain ⟨b, off, d0, d1, d2, d3, rfl, hk, hi⟩ := kid h0
          exact made_fault1 m op b off l.length c d0 d1 d2 d3 _ w h0 (by omega) hk hi
        · obtain rfl : l = [] := List.eq_nil_of_length_eq_zero (by omega)
          exact made_fault0 m op ao c w
      · by_cases h3 : k = 3
        · subst h3
          exact made_many m op ao c l w (by omega) hl fun j hj w' d0 d1 d2 d3 hb hd => ih (by omega) l[j] d0 d1 d2 d3 w' (by have := wts_mem (List.getElem_mem hj); omega) hd
        · by_cases h4 : k = 4
          · subst h4; exact made_plain m op _ w
          · by_cases h5 : k = 5
            · subst h5; exact made_nilf m op _ w
            · by_cases h6 : k = 6
              · subst h6
                show Calls _ _ _ _ (MadeRet w (.cover (enHead l)))
                by_cases h0 : 0 < l.length
                · obtain ⟨b, off, d0, d1, d2, d3, rfl, hk, hi⟩ := kid h0
                  exact made_cover1 m op b off l.length c d0 d1 d2 d3 _ w h0 (by omega) hk hi
                · obtain rfl : l = [] := List.eq_nil_of_length_eq_zero (by omega)
                  exact made_cover0 m op ao c w
              · have he : (Nd.mk k m op l).en = .none := by simp only [Nd.en, if_neg h1, if_neg h2, if_neg h3, if_neg h4, if_neg h5, if_neg h6]
                rw [he]
                exact made_other k m op _ w (by omega)
end Go.Proofs.Ythijffpackkcnaa
