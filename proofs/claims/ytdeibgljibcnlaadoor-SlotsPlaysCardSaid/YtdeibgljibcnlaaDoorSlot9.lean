/- Slots. -/
import Derived.Test.YtdeibgljibcnlaaDoorSlot8
namespace Go.Proofs.YtdeibgljibcnlaaDoor
open Go.RowKit

theorem info_int : (Tryd.prog.info? 3).map (fun i => (i.zero, i.size, i.bytes)) = some (some (.int .i64 0), 1, 8) := by kernel_rfl
/-- the cells of ints -/
def numsV (l : List Int) : List Value := l.map fun n : Int => .int .i64 n
theorem numsV_one (l : List Int) : ∀ u ∈ numsV l, u.oneCell' = true := by
  intro u hu
  obtain ⟨c, _, rfl⟩ := List.mem_map.1 hu
  rfl
theorem numsV_append (l m : List Int) : numsV (l ++ m) = numsV l ++ numsV m := by simp [numsV]
/-- v is a row of ints of the call's own -/
def OwnN (w : World) (base : Nat) (v : Value) (l : List Int) : Prop := w.ownsRow base 3 1 v l.length (numsV l)
theorem OwnN.form {w : World} {base : Nat} {v : Value} {l : List Int} (h : OwnN w base v l) : ∃ ao c, v = .slice ao l.length c := by
  obtain ⟨ao, c, h, _⟩ := Rd.of_own h
  exact ⟨ao, c, h⟩
theorem wpList_append_num {w : World} {ops : Array Oper} {rest : List Oper} {o : Oper} {a : Act} {Q : Exit → Act → World → Prop} (hgd : o.guard = none) (s x : Operand)
    (ho : o.op = .call { callee := .builtin .append, args := #[s, x], argTypes := #[81, 81] })
    (base : Nat) (v : Value) (l : List Int) (hs : a.eval s = v) (hown : OwnN w base v l) (y : Value) (m : List Int) (hx : a.eval x = y) (hy : Rd w y m.length (numsV m))
    (h63 : l.length + m.length ≤ 1000000) (hbase : base ≤ w.heap.size)
    (h : ∀ v' w', OwnN w' base v' (l ++ m) → Below base w w' → wpList Tryd.prog ops Q rest (a.put o.dst v') w') : wpList Tryd.prog ops Q (o :: rest) a w :=
  wpList_append_rd hgd s x 81 ho base 3 _ 1 8 Tryd.underlying81 info_int rfl (by decide) v _ _ hs hown y _ _ hx hy (by simp [numsV]) (numsV_one _) (by unfold maxLen; omega) (by omega) hbase
    fun v' w' h1 h2 _ => h v' w' (by unfold OwnN; rw [numsV_append, List.length_append]; exact h1) h2

/-- the slots that are not free -/
def fullS (st : List SlotL) : List Int := ((List.range st.length).filter fun j => (st.getD j none).isSome).map fun j : Nat => (j : Int)
def fullR (r : List SlotV) (k : Nat) : List Int := ((List.range k).filter fun j => ((snds r).getD j none).isSome).map fun j : Nat => (j : Int)
theorem fullR_succ (r : List SlotV) (k : Nat) (h : k < r.length) : fullR r (k + 1) = if r[k].2.isSome = true then fullR r k ++ [(k : Int)] else fullR r k := by
  have hg : (snds r).getD k none = r[k].2 := by
    rw [List.getD_eq_getElem?_getD, List.getElem?_eq_getElem (by simpa [snds] using h)]
    simp [snds]
  unfold fullR
  rw [List.range_succ, List.filter_append, List.map_append]
  cases hs : r[k].2.isSome with
  | true => rw [if_pos rfl, List.filter_cons_of_pos (by rw [hg]; exact hs)]; rfl
  | false => rw [if_neg (by decide), List.filter_cons_of_neg (by rw [hg, hs]; decide)]; simp
theorem fullR_le (r : List SlotV) (k : Nat) : (fullR r k).length ≤ k := by
  unfold fullR
  rw [List.length_map]
  have := List.length_filter_le (fun j => ((snds r).getD j none).isSome) (List.range k)
  simpa using this

set_option maxHeartbeats 1000000 in
theorem Slots_any {w : World} {base p : Nat} {kind id : Int} {st : List SlotL} (h : PageS w base p kind id st) :
    Calls Tryd.prog 42 #[.pointer (some ⟨p, 0, none⟩)] w fun e w' => ∃ v, e = .returned v ∧ OwnN w' w.heap.size v (fullS st) ∧ Below w.heap.size w w' := by
  obtain ⟨hs, hl, r, rfl, hp⟩ := h
  have hsl : (snds r).length = r.length := by simp [snds]
  have HT := Lib.hid (show fullS (snds r) = fullR r r.length by unfold fullS fullR; rw [hsl])
  obtain ⟨ao, c, h1, h2⟩ := hp.row
  have G := Lib.hid (gone_page h1)
  have c3 : w.cell? ⟨p, 3, none⟩ = some (.slice ao r.length c) := by simp [World.cell?, h1]
  obtain ⟨ao', c', e1, q1, q2, q3⟩ := h2.open
  simp only [Value.slice.injEq, true_and] at e1
  obtain ⟨rfl, rfl⟩ := e1
  have HC := Lib.hid q3
  have hr := h2.2
  have HF := Lib.hid (show ∀ i (h : i < r.length), ∃ ao n c, r[i].1 = .slice ao n c from fun i h => by
    obtain ⟨ao, c, e, _⟩ := (hr _ (List.getElem_mem h)).form
    exact ⟨ao, _, c, e⟩)
  unfold maxLen at q2
  clear hp h1 h2 q3 hs hr
  go_enter Tryd.func42, Tryd.ntmps42
  go_wp2_with fail
  refine G.out.mono ?_
  rintro e w1 ⟨rfl, rfl⟩
  go_wp2_with fail
  go_loopw [2, 12] (fun v i wr => ∃ k : Nat, k ≤ r.length ∧ i = .int .i64 k ∧ OwnN wr w.heap.size v (fullR r k) ∧ Below w.heap.size w wr) (fun _ i _ => r.length - (intOf i).toNat)
  case atStart => exact ⟨0, Nat.zero_le _, rfl, World.ownsRow_nil _ _ _ _, Below.refl _ _⟩
  case round =>
    obtain ⟨k, hk, rfl, ho, hb⟩ := hrel
    by_cases hlt : k < r.length
    · obtain ⟨b, off, rfl, hbl, x0, x1⟩ := HC.out k hlt
      have hx0 := (hb.cell (p := ⟨b, off + k * 2, none⟩) hbl).trans x0
      have hx1 := (hb.cell (p := ⟨b, off + k * 2 + 1, none⟩) hbl).trans x1
      have FS := Lib.hid (fullR_succ r k hlt)
      have hfl := fullR_le r k
      have i0 : (0 : Int) ≤ (k : Int) := by omega
      have i1 : (k : Int) < (r.length : Int) := by omega
      obtain ⟨ab, nb, cb, e1⟩ := HF.out k hlt
      rw [e1] at hx0
      have hA : ∀ o, Below wr.heap.size wr (wr.alloc o) := fun o => (Below.refl _ _).alloc (Nat.le_refl _) o
      have OW := Lib.hid ho
      obtain ⟨av, cv, rfl⟩ := ho.form
      clear ho x0 x1 e1
      cases hf : r[k].2.isSome with
      | true =>
        rw [hf] at hx1
        rw [hf, if_pos rfl] at FS
        have hB : Below wr.heap.size wr ((wr.alloc (.cells #[.slice ab nb cb, .bool true] 64)).alloc (.cells #[.int .i64 k] 3)) := (hA _).alloc (by simp) _
        have LIT := Lib.hid (show Rd ((wr.alloc (.cells #[.slice ab nb cb, .bool true] 64)).alloc (.cells #[.int .i64 k] 3)) (.slice (some ⟨wr.heap.size + 1, 0, none⟩) 1 1) 1 (numsV [(k : Int)]) from by
          have h := rd_alloc (wr.alloc (.cells #[.slice ab nb cb, .bool true] 64)) #[.int .i64 k] 3 (0, 0) 1 (by simp [maxLen])
          rw [show (wr.alloc (.cells #[.slice ab nb cb, .bool true] 64)).heap.size = wr.heap.size + 1 by simp] at h
          exact h)
        have OW2 := Lib.hid (show OwnN ((wr.alloc (.cells #[.slice ab nb cb, .bool true] 64)).alloc (.cells #[.int .i64 k] 3)) w.heap.size _ (fullR r k) from own_below' OW.out hB)
        have B2 := hb.trans (hB.mono hb.size)
        have h63 : (fullR r k).length + [(k : Int)].length ≤ 1000000 := by simp; omega
        clear hf hB hA OW
        go_wp2_with (at_builtin; refine wpList_append_num rfl _ _ rfl w.heap.size _ _ rfl OW2.out _ [(k : Int)] rfl LIT.out h63 B2.size ?_)
        intro v3 w3 ho3 hb3
        have B3 := B2.trans hb3
        have HO3 := Lib.hid ho3
        clear ho3 hb3
        go_wp2_with fail
        go_roundw
        case rel => exact ⟨k + 1, hlt, by go_num, by rw [FS.out]; exact HO3.out, B3⟩
        case measure => simp [intOf]; omega
      | false =>
        rw [hf] at hx1
        rw [hf, if_neg (by decide)] at FS
        have OW1 := Lib.hid (show OwnN (wr.alloc (.cells #[.slice ab nb cb, .bool false] 64)) w.heap.size _ (fullR r k) from own_below' OW.out (hA _))
        have B1 := hb.trans ((hA (.cells #[.slice ab nb cb, .bool false] 64)).mono hb.size)
        clear hf hA OW
        go_wp2_with fail
        go_roundw
        case rel => exact ⟨k + 1, hlt, by go_num, by rw [FS.out]; exact OW1.out, B1⟩
        case measure => simp [intOf]; omega
    · obtain rfl : k = r.length := by omega
      have HO := Lib.hid ho
      obtain ⟨av, cv, rfl⟩ := ho.form
      clear ho
      go_wp2_with fail
      go_ret
      exact ⟨_, rfl, by rw [HT.out]; exact HO.out, hb⟩
end Go.Proofs.YtdeibgljibcnlaaDoor
