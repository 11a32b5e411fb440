/- errors.Join, fault.Join, fault.First of errors; errors.Is of what is joined. -/
import Derived.Test.YthijffpackkcnaaDoorDownD
import Derived.Test.YthijffpackkcnaaDoorIs
import Derived.OneCell
import Derived.Laws.MakeOwn
import Derived.Lib.OwnKind
namespace Go.Proofs.YthijffpackkcnaaDoor
open Go.RowKit

theorem info_err : (Tryd.prog.info? 27).map (fun i => (i.zero, i.size, i.bytes)) = some (some .nilIface, 1, 16) := by kernel_rfl
/-- those that are errors -/
def nn (l : List En) : List En := l.filter fun e => !e.isNone
def joinE (l : List En) : En := if (nn l).length = 0 then .none else .many true (nn l)
theorem nn_none {l : List En} {k : Nat} (h : k < l.length) (e : l[k] = .none) : nn (l.take (k + 1)) = nn (l.take k) := by
  rw [List.take_succ_eq_append_getElem h]
  unfold nn
  rw [List.filter_append, e]
  show _ ++ [] = _
  rw [List.append_nil]
theorem nn_some {l : List En} {k : Nat} (h : k < l.length) (e : l[k] ≠ .none) : nn (l.take (k + 1)) = nn (l.take k) ++ [l[k]] := by
  have e' : l[k].isNone = false := by
    cases hh : l[k].isNone with
    | false => rfl
    | true => exact absurd (En.isNone_iff.1 hh) e
  rw [List.take_succ_eq_append_getElem h]
  unfold nn
  rw [List.filter_append, List.filter_cons_of_pos (by simp [e']), List.filter_nil]
theorem nn_le (l : List En) : (nn l).length ≤ l.length := List.length_filter_le ..

/-- v is a row of errors of the call's own -/
def OwnE (w : World) (base : Nat) (v : Value) (us : List Value) : Prop := w.ownsRow base 27 1 v us.length us
theorem OwnE.form {w : World} {base : Nat} {v : Value} {us : List Value} (h : OwnE w base v us) : ∃ ao c, v = .slice ao us.length c := by
  obtain ⟨ao, c, h, _⟩ := Rd.of_own h
  exact ⟨ao, c, h⟩
/-- append(v, x) of an error -/
theorem wpList_append_err {w : World} {ops : Array Oper} {rest : List Oper} {o : Oper} {a : Act} {Q : Exit → Act → World → Prop} (hgd : o.guard = none) (s x : Operand)
    (ho : o.op = .call { callee := .builtin .append, args := #[s, x], argTypes := #[40, 40] })
    (base : Nat) (v : Value) (us : List Value) (hs : a.eval s = v) (hown : OwnE w base v us) (ad : Addr) (u : Value) (hx : a.eval x = .slice (some ad) 1 1) (hu : w.cell? ad = some u) (hone : u.oneCell' = true)
    (h63 : us.length + 1 ≤ 1000000) (hbase : base ≤ w.heap.size)
    (h : ∀ v' w', OwnE w' base v' (us ++ [u]) → w.grownBy w' v.ownBlock → wpList Tryd.prog ops Q rest (a.put o.dst v') w') : wpList Tryd.prog ops Q (o :: rest) a w := by
  obtain ⟨i, hi, hz, hsize, hby⟩ := info_parts info_err
  refine wpList_append_own w hgd s x 40 ho base 27 i _ 1 16 Tryd.underlying40 hi hz hsize hby rfl (by decide) v _ us hs hown ad 1 1 [u] hx rfl ?_ ?_ (by unfold maxLen; omega) (by omega) hbase ?_
  · intro j y hj
    cases j with
    | zero => simp at hj; subst hj; obtain ⟨b, off, sp⟩ := ad; simpa [Addr.add] using hu
    | succ j => simp at hj
  · intro y hy; simp at hy; subst hy; exact hone
  · intro v' w' h5 h6 _
    exact h v' w' (by unfold OwnE; rw [List.length_append]; exact h5) h6
theorem ownE_ne {w : World} {base : Nat} {v : Value} {us : List Value} (h : OwnE w base v us) {b : Nat} {c : Array Value} {t : TypeId} {m : Nat × Nat} (hb : w.heap[b]? = some (.cells c t m)) (ht : t ≠ 27) : v.ownBlock ≠ some b := by
  intro hg
  obtain ⟨c', fz, h2⟩ := Go.Lib.ownsRow_kind h b hg
  rw [hb] at h2
  simp at h2
  exact ht h2.2.1

/-- one more is joined -/
theorem join_store {w w' : World} {B base : Nat} {s v' : Value} {us : List Value} {x : Value} (hv : w.heap[B]? = some (.cells #[s] 83 (0, 0))) (ho : OwnE w base s us)
    (ho' : OwnE w' base v' (us ++ [x])) (hg : w.grownBy w' s.ownBlock) :
    w'.cell? ⟨B, 0, none⟩ = some s ∧ w'.frozen? ⟨B, 0, none⟩ = false ∧ (w'.setCell ⟨B, 0, none⟩ v').heap[B]? = some (.cells #[v'] 83 (0, 0)) ∧ OwnE (w'.setCell ⟨B, 0, none⟩ v') base v' (us ++ [x]) := by
  have h1 : w'.heap[B]? = some (.cells #[s] 83 (0, 0)) := by
    rw [hg.block B (lt_of_block hv) (fun e => ownE_ne ho hv (by decide) e.symm)]; exact hv
  exact ⟨cell_of_one h1, free_of_one h1, one_setCell h1, ownsRow_setCell_other ho' (ownE_ne ho' h1 (by decide)) _⟩

set_option maxHeartbeats 2000000 in
set_option maxRecDepth 100000 in
theorem EJoin_any (l : List En) (v : Value) (vs : List Value) (w : World) (hv : Rd w v l.length vs) (he : EnsIs w l vs) (hl : l.length ≤ 1000) :
    Calls Tryd.prog 27 #[v] w (EnRet w (joinE l)) := by
  obtain ⟨ao, c, rfl, h1, h2, h0, h3⟩ := hv
  have hlen := he.length
  have HE := Lib.hid he
  have HL := Lib.hid hlen
  have HC := Lib.hid h3
  unfold maxLen at h2
  clear h0 h3 he hlen
  go_enter Tryd.func27, Tryd.ntmps27
  go_wp2_with fail
  go_loopw [3, 11] (fun n i wr => ∃ k q : Nat, k ≤ l.length ∧ i = .int .i64 k ∧ n = .int .i64 q ∧ q ≤ k ∧ Hid (q = (nn (l.take k)).length) ∧ w = wr) (fun _ i _ => l.length - (intOf i).toNat)
  case atStart => exact ⟨0, 0, Nat.zero_le _, rfl, rfl, Nat.le_refl _, Lib.hid rfl, rfl⟩
  case round =>
    obtain ⟨k, q, hk, rfl, rfl, hq, hn, rfl⟩ := hrel
    by_cases hlt : k < l.length
    · have hlt' : k < vs.length := by rw [HL.out]; exact hlt
      obtain ⟨b, off, rfl, hbl, hc⟩ := HC.out k hlt'
      have hi := HE.out.get k hlt hlt'
      have i0 : (0 : Int) ≤ (k : Int) := by omega
      have i1 : (k : Int) < (l.length : Int) := by omega
      by_cases hno : l[k] = .none
      · have hx : vs[k] = .nilIface := by rw [hno] at hi; exact hi
        rw [hx] at hc
        have HN := Lib.hid (hn.out.trans (congrArg List.length (nn_none hlt hno)).symm)
        clear hno hx hi hn
        go_wp2_with fail
        go_roundw
        case rel => exact ⟨k + 1, q, hlt, by go_num, rfl, by omega, HN, trivial⟩
        case measure => simp [intOf]; omega
      · obtain ⟨T, x, hx⟩ := hi.some hno
        rw [hx] at hc
        have HN := Lib.hid (show q + 1 = (nn (l.take (k + 1))).length by rw [nn_some hlt hno, List.length_append, ← hn.out]; rfl)
        clear hno hx hi hn
        go_wp2_with fail
        go_roundw
        case rel => exact ⟨k + 1, q + 1, hlt, by go_num, by go_num, by omega, HN, trivial⟩
        case measure => simp [intOf]; omega
    · obtain rfl : k = l.length := by omega
      have hn' := hn.out
      rw [List.take_length] at hn'
      clear hn
      by_cases h0 : q = 0
      · subst h0
        have HJ := Lib.hid (show joinE l = .none by unfold joinE; rw [if_pos hn'.symm])
        clear hn'
        go_wp2_with fail
        go_ret
        exact ⟨_, rfl, by rw [HJ.out]; rfl, Below.refl _ _⟩
      · have HJ := Lib.hid (show joinE l = .many true (nn l) by unfold joinE; rw [if_neg (by omega)])
        have t1 : ((q : Int) == 0) = false := by simp; omega
        obtain ⟨ie, hie, hz, hsize, hby⟩ := info_parts info_err
        have hmk : ∀ w : World, (Instr.makeSlice 40 (.int .i64 0) (.int .i64 q)).run Tryd.prog w = .ok (.slice (some ⟨w.heap.size, 0, none⟩) 0 q) (w.alloc (.cells (madeCells #[.nilIface] q) 27)) := fun w => by
          have h := run_make (P := Tryd.prog) w 40 27 ie .nilIface Tryd.underlying40 hie hz .i64 .i64 0 q (Int.le_refl _) (by omega) (by rw [hby]; omega) (by omega)
          rw [hsize] at h
          simpa [Value.cells] using h
        have OW := Lib.hid (show OwnE (w.alloc (.cells (madeCells #[.nilIface] q) 27)) w.heap.size (.slice (some ⟨w.heap.size, 0, none⟩) 0 q) [] from World.ownsRow_made (base := w.heap.size) (e := 27) (size := 1) w (madeCells #[.nilIface] q) q (Nat.le_refl _) (by unfold maxLen; omega) (by simp [size_madeCells]))
        have HB0 := Lib.hid (show ((w.alloc (.cells (madeCells #[.nilIface] q) 27)).alloc (.cells #[.slice (some ⟨w.heap.size, 0, none⟩) 0 q] 83)).heap[w.heap.size + 1]? = some (.cells #[.slice (some ⟨w.heap.size, 0, none⟩) 0 q] 83 (0, 0)) by simpa using heap_alloc_new (w.alloc (.cells (madeCells #[.nilIface] q) 27)) (.cells #[.slice (some ⟨w.heap.size, 0, none⟩) 0 q] 83))
        clear hie hz hsize hby hn'
        go_wp2_with fail
        go_loopw [28] (fun i wr => ∃ (k : Nat) (s : Value) (us : List Value), k ≤ l.length ∧ i = .int .i64 k ∧ wr.heap[w.heap.size + 1]? = some (.cells #[s] 83 (0, 0)) ∧ OwnE wr w.heap.size s us ∧ Hid (EnsIs w (nn (l.take k)) us) ∧ Below w.heap.size w wr) (fun i _ => l.length - (intOf i).toNat)
        case atStart => exact ⟨0, _, [], Nat.zero_le _, rfl, HB0.out, own_below' OW.out ((Below.refl _ _).alloc (Nat.le_refl _) _), Lib.hid rfl, ((Below.refl _ _).alloc (Nat.le_refl _) _).alloc (by simp) _⟩
        case round =>
          obtain ⟨k, s, us, hk, rfl, hB, hown, hes, hb⟩ := hrel
          by_cases hlt : k < l.length
          · have hlt' : k < vs.length := by rw [HL.out]; exact hlt
            obtain ⟨b, off, rfl, hbl, hc0⟩ := HC.out k hlt'
            have hc := (hb.cell (p := ⟨b, off + k, none⟩) hbl).trans hc0
            have hi := HE.out.get k hlt hlt'
            have i0 : (0 : Int) ≤ (k : Int) := by omega
            have i1 : (k : Int) < (l.length : Int) := by omega
            clear hc0
            by_cases hno : l[k] = .none
            · have hx : vs[k] = .nilIface := by rw [hno] at hi; exact hi
              rw [hx] at hc
              have HN := Lib.hid (show EnsIs w (nn (l.take (k + 1))) us by rw [nn_none hlt hno]; exact hes.out)
              clear hno hx hi hes
              go_wp2_with fail
              go_roundw
              case rel => exact ⟨k + 1, s, us, hlt, by go_num, hB, hown, HN, hb⟩
              case measure => simp [intOf]; omega
            · obtain ⟨T, x, hx⟩ := hi.some hno
              have HI := Lib.hid (show EnsIs w (nn (l.take (k + 1))) (us ++ [.iface T x]) by rw [nn_some hlt hno, ← hx]; exact hes.out.snoc hi)
              rw [hx] at hc
              have hul : us.length ≤ 1000 := by
                have a1 := hes.out.length
                have a2 := nn_le (l.take k)
                have a3 := List.length_take_le k l
                omega
              have hc1 := cell_of_one hB
              have hf1 := free_of_one hB
              obtain ⟨aa, ca, hs⟩ := hown.form
              have hA : Below wr.heap.size wr (wr.alloc (.cells #[.iface T x] 27)) := (Below.refl _ _).alloc (Nat.le_refl _) _
              have OW1 := Lib.hid (show OwnE (wr.alloc (.cells #[.iface T x] 27)) w.heap.size s us from own_below' hown hA)
              have HB1 := Lib.hid (show (wr.alloc (.cells #[.iface T x] 27)).heap[w.heap.size + 1]? = some (.cells #[s] 83 (0, 0)) from (hA.block _ (lt_of_block hB)).trans hB)
              have B1 := hb.trans (hA.mono hb.size)
              subst hs
              clear hno hx hi hes hown hB hA
              go_wp2_with (at_builtin; refine wpList_append_err rfl _ _ rfl w.heap.size _ us rfl OW1.out ⟨wr.heap.size, 0, none⟩ (.iface T x) rfl (by simp) rfl (by omega) B1.size ?_)
              intro v3 w3 ho3 hg3
              obtain ⟨a3, c3, hs3⟩ := ho3.form
              rw [List.length_append, show [Value.iface T x].length = 1 from rfl] at hs3
              subst hs3
              obtain ⟨q1, q2, q3, q4⟩ := join_store HB1.out OW1.out ho3 hg3
              have b3 := B1.trans (below_grown OW1.out hg3 (Nat.le_refl _) B1.size)
              have b4 := b3.setCell (p := ⟨w.heap.size + 1, 0, none⟩) (Nat.le_succ _) (.slice a3 (us.length + 1) c3)
              have Q3 := Lib.hid q3
              have Q4 := Lib.hid q4
              clear q3 q4 ho3 hg3 hc1 hf1 hc
              go_wp2_with fail
              go_roundw
              case rel => exact ⟨k + 1, _, us ++ [.iface T x], hlt, by go_num, Q3.out, Q4.out, HI, b4⟩
              case measure => simp [intOf]; omega
          · obtain rfl : k = l.length := by omega
            have hes' := hes.out
            rw [List.take_length] at hes'
            have HF := Lib.hid (show (joinE l).Is wr (.iface 81 (.pointer (some ⟨w.heap.size + 1, 0, none⟩))) by
              rw [HJ.out]
              exact ⟨rfl, _, s, us, rfl, lt_of_block hB, cell_of_one hB, by have h := Rd.of_own hown; rw [hes'.length] at h; exact h, hes'.below hb⟩)
            clear hes' hes hown hB
            go_wp2_with fail
            go_ret
            exact ⟨_, rfl, HF.out, hb⟩

theorem FJoin_any (l : List En) (v : Value) (vs : List Value) (w : World) (hv : Rd w v l.length vs) (he : EnsIs w l vs) (hl : l.length ≤ 1000) :
    Calls Tryd.prog 13 #[v] w (EnRet w (joinE l)) := by
  have HJ := Lib.hid (EJoin_any l v vs w hv he hl)
  clear hv he
  go_enter Tryd.func13, Tryd.ntmps13
  go_wp2_with fail
  refine HJ.out.mono ?_
  rintro e w1 ⟨u, rfl, h1, h2⟩
  go_wp2_with fail
  go_ret
  exact ⟨_, rfl, h1, h2⟩

/-- the first that is one -/
def firstE : List En → En
  | [] => .none
  | e :: l => if e.isNone then firstE l else e
theorem firstE_drop_none {l : List En} {k : Nat} (h : k < l.length) (e : l[k] = .none) : firstE (l.drop k) = firstE (l.drop (k + 1)) := by
  rw [List.drop_eq_getElem_cons h, firstE, e]; rfl
theorem firstE_drop_some {l : List En} {k : Nat} (h : k < l.length) (e : l[k] ≠ .none) : firstE (l.drop k) = l[k] := by
  have e' : l[k].isNone = false := by
    cases hh : l[k].isNone with
    | false => rfl
    | true => exact absurd (En.isNone_iff.1 hh) e
  rw [List.drop_eq_getElem_cons h, firstE, e']; rfl

set_option maxRecDepth 100000 in
theorem First_any (l : List En) (v : Value) (vs : List Value) (w : World) (hv : Rd w v l.length vs) (he : EnsIs w l vs) :
    Calls Tryd.prog 14 #[v] w fun e w' => ∃ u, e = .returned u ∧ (firstE l).Is w u ∧ w = w' := by
  obtain ⟨ao, c, rfl, h1, h2, h0, h3⟩ := hv
  have HE := Lib.hid he
  have HL := Lib.hid he.length
  have HC := Lib.hid h3
  unfold maxLen at h2
  clear h0 h3 he
  go_enter Tryd.func14, Tryd.ntmps14
  go_wp2_with fail
  go_loopw [7] (fun i wr => ∃ k : Nat, k ≤ l.length ∧ i = .int .i64 k ∧ Hid (firstE l = firstE (l.drop k)) ∧ w = wr) (fun i _ => l.length - (intOf i).toNat)
  case atStart => exact ⟨0, Nat.zero_le _, rfl, Lib.hid rfl, rfl⟩
  case round =>
    obtain ⟨k, hk, rfl, hn, rfl⟩ := hrel
    by_cases hlt : k < l.length
    · have hlt' : k < vs.length := by rw [HL.out]; exact hlt
      obtain ⟨b, off, rfl, hbl, hc⟩ := HC.out k hlt'
      have hi := HE.out.get k hlt hlt'
      have i0 : (0 : Int) ≤ (k : Int) := by omega
      have i1 : (k : Int) < (l.length : Int) := by omega
      by_cases hno : l[k] = .none
      · have hx : vs[k] = .nilIface := by rw [hno] at hi; exact hi
        rw [hx] at hc
        have HN := Lib.hid (hn.out.trans (firstE_drop_none hlt hno))
        clear hno hx hi hn
        go_wp2_with fail
        go_roundw
        case rel => exact ⟨k + 1, hlt, by go_num, HN, trivial⟩
        case measure => simp [intOf]; omega
      · obtain ⟨T, x, hx⟩ := hi.some hno
        rw [hx] at hc hi
        have HN := Lib.hid (hn.out.trans (firstE_drop_some hlt hno))
        have HI := Lib.hid hi
        clear hno hx hi hn
        go_wp2_with fail
        go_ret
        exact ⟨_, rfl, by rw [HN.out]; exact HI.out, rfl⟩
    · obtain rfl : k = l.length := by omega
      have HN := Lib.hid (show firstE l = .none by rw [hn.out, List.drop_length]; rfl)
      clear hn
      go_wp2_with fail
      go_ret
      exact ⟨_, rfl, by rw [HN.out]; rfl, rfl⟩
end Go.Proofs.YthijffpackkcnaaDoor
