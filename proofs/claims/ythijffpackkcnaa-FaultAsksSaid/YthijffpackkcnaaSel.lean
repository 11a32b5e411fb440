/- pergolalaw7.within: all nodes of a kind that are within, in order. -/
import Derived.Test.YthijffpackkcnaaNd
import Derived.Deep.CutRange
import Derived.OneCell
namespace Go.Proofs.Ythijffpackkcnaa
open Go.RowKit

/-- itself, if it is of that kind -/
def Nd.self (q : Int) (d : Nd) : List Nd := if d.kind = q then [d] else []
mutual
/-- all of a kind that are within -/
def Nd.sel (q : Int) : Nd → List Nd
  | .mk k n op l => (if k = q then [.mk k n op l] else []) ++ (if k = 2 ∨ k = 6 then selHead q l else if k = 3 then sels q l else [])
def selHead (q : Int) : List Nd → List Nd
  | [] => []
  | d :: _ => d.sel q
def sels (q : Int) : List Nd → List Nd
  | [] => []
  | d :: l => d.sel q ++ sels q l
end
mutual
theorem sel_len (q : Int) : ∀ d : Nd, (d.sel q).length ≤ d.wt
  | .mk k n op l => by
    have h1 := selHead_len q l
    have h2 := sels_len q l
    simp only [Nd.sel, Nd.wt, List.length_append]
    split <;> split <;> (try split) <;> simp <;> omega
theorem selHead_len (q : Int) : ∀ l : List Nd, (selHead q l).length ≤ wts l
  | [] => by simp [selHead]
  | d :: l => by
    have := sel_len q d
    simp only [selHead, wts]; omega
theorem sels_len (q : Int) : ∀ l : List Nd, (sels q l).length ≤ wts l
  | [] => by simp [sels]
  | d :: l => by
    have := sel_len q d
    have := sels_len q l
    simp only [sels, wts, List.length_append]; omega
end
theorem sels_take (q : Int) (l : List Nd) (k : Nat) (h : k < l.length) : sels q (l.take (k + 1)) = sels q (l.take k) ++ l[k].sel q := by
  induction l generalizing k with
  | nil => simp at h
  | cons d l ih =>
    cases k with
    | zero => simp [sels]
    | succ k =>
      have := ih k (by simpa using h)
      simp only [List.take_succ_cons, sels, List.getElem_cons_succ, this, List.append_assoc]

/-- The cells of nodes, one by one. -/
def NCells : List Nd → List Value → Prop
  | [], cs => cs = []
  | d :: l, cs => ∃ ao n c cs', cs = .int .i64 d.kind :: .int .i64 d.num :: .string d.op :: .slice ao n c :: cs' ∧ NCells l cs'
theorem NCells.length : ∀ {l : List Nd} {cs : List Value}, NCells l cs → cs.length = l.length * 4
  | [], _, h => by have h : _ = [] := h; simp [h]
  | _ :: l, _, ⟨ao, n, c, cs', h1, h2⟩ => by rw [h1]; simp [h2.length]; omega
theorem NCells.one : ∀ {l : List Nd} {cs : List Value}, NCells l cs → ∀ u ∈ cs, u.oneCell' = true
  | [], _, h, u, hu => by have h : _ = [] := h; simp [h] at hu
  | _ :: l, _, ⟨ao, n, c, cs', h1, h2⟩, u, hu => by
    rw [h1] at hu
    simp only [List.mem_cons] at hu
    rcases hu with rfl | rfl | rfl | rfl | hu
    · rfl
    · rfl
    · rfl
    · rfl
    · exact h2.one u hu
theorem NCells.append : ∀ {l m : List Nd} {cs cs' : List Value}, NCells l cs → NCells m cs' → NCells (l ++ m) (cs ++ cs')
  | [], m, cs, cs', h, h' => by have h : cs = [] := h; subst h; exact h'
  | _ :: l, m, _, cs', ⟨ao, n, c, cs1, h1, h2⟩, h' => by subst h1; exact ⟨ao, n, c, cs1 ++ cs', rfl, h2.append h'⟩
theorem NCells.get : ∀ {l : List Nd} {cs : List Value}, NCells l cs → ∀ i (h : i < l.length), cs[i * 4]? = some (.int .i64 l[i].kind) ∧ cs[i * 4 + 1]? = some (.int .i64 l[i].num) ∧ cs[i * 4 + 2]? = some (.string l[i].op)
  | [], _, _, i, hi => by simp at hi
  | _ :: l, _, ⟨ao, n, c, cs', h1, h2⟩, i, hi => by
    subst h1
    cases i with
    | zero => simp
    | succ i =>
      have := h2.get i (by simpa using hi)
      simp only [List.getElem_cons_succ]
      rw [show (i + 1) * 4 = i * 4 + 4 from by omega]
      simpa using this

theorem info_nd : (Try.prog.info? 24).map (fun i => (i.zero, i.size, i.bytes)) = some (some (.agg #[.int .i64 0, .int .i64 0, .string ByteArray.empty, .slice none 0 0]), 4, 56) := by kernel_rfl

/-- a row of nodes of the call's own -/
def OwnN (w : World) (base : Nat) (v : Value) (l : List Nd) : Prop := ∃ cs, w.ownsRow base 24 4 v l.length cs ∧ NCells l cs
theorem OwnN.below {w w' : World} {base : Nat} {v : Value} {l : List Nd} (h : OwnN w base v l) (hb : Below w.heap.size w w') : OwnN w' base v l := by
  obtain ⟨cs, h1, h2⟩ := h
  exact ⟨cs, own_below' h1 hb, h2⟩
theorem OwnN.form {w : World} {base : Nat} {v : Value} {l : List Nd} (h : OwnN w base v l) : ∃ ao c, v = .slice ao l.length c := by
  obtain ⟨cs, h1, _⟩ := h
  obtain ⟨ao, c, h, _⟩ := Rd.of_own h1
  exact ⟨ao, c, h⟩

theorem OwnN.base {w : World} {base base' : Nat} {v : Value} {l : List Nd} (h : OwnN w base v l) (hb : base' ≤ base) : OwnN w base' v l := by
  obtain ⟨cs, h1, h2⟩ := h
  exact ⟨cs, own_base h1 hb, h2⟩

/-- append(v, y...) on nodes. -/
theorem wpList_append_nd {w : World} {ops : Array Oper} {rest : List Oper} {o : Oper} {a : Act} {Q : Exit → Act → World → Prop} (hgd : o.guard = none) (s x : Operand)
    (ho : o.op = .call { callee := .builtin .append, args := #[s, x], argTypes := #[22, 22] })
    (base : Nat) (v : Value) (l : List Nd) (hs : a.eval s = v) (hown : OwnN w base v l) (y : Value) (m : List Nd) (cs : List Value) (hx : a.eval x = y) (hy : Rd w y m.length cs) (hm : NCells m cs)
    (h63 : l.length + m.length ≤ 1000000) (hbase : base ≤ w.heap.size)
    (h : ∀ v' w', OwnN w' base v' (l ++ m) → Below base w w' → wpList Try.prog ops Q rest (a.put o.dst v') w') : wpList Try.prog ops Q (o :: rest) a w := by
  obtain ⟨cs0, hown, h0⟩ := hown
  exact wpList_append_rd hgd s x 22 ho base 24 _ 4 56 Try.underlying22 info_nd rfl (by decide) v _ _ hs hown y _ _ hx hy hm.length hm.one (by unfold maxLen; omega) (by omega) hbase
    fun v' w' h1 h2 _ => h v' w' ⟨cs0 ++ cs, by rw [List.length_append]; exact h1, h0.append hm⟩ h2

/-- The call hands back nodes of its own. -/
def SelRet (w : World) (l : List Nd) (e : Ending) (w' : World) : Prop := ∃ v, e = .returned v ∧ OwnN w' w.heap.size v l ∧ Below w.heap.size w w'

set_option maxHeartbeats 1000000 in
theorem sel_any (q : Int) : ∀ (n : Nat), n ≤ 500 → ∀ (d : Nd) (c0 c1 c2 c3 : Value) (w : World), d.wt ≤ n → d.Is w c0 c1 c2 c3 →
    Calls Try.prog 11 #[.agg #[c0, c1, c2, c3], .int .i64 q] w (SelRet w (d.sel q)) := by
  intro n
  induction n with
  | zero =>
    intro _ d c0 c1 c2 c3 w hn
    cases d; simp [Nd.wt] at hn
  | succ n ih =>
    intro hN d c0 c1 c2 c3 w hn hd
    obtain ⟨k, m, op, l⟩ := d
    have hsl := sel_len q (Nd.mk k m op l)
    have IH := Lib.hid (ih (by omega))
    obtain ⟨rfl, rfl, rfl, hop, ao, c, rfl, hc1, hc2, hl⟩ := hd
    unfold maxLen at hc2
    have hw : wts l ≤ n := by simp only [Nd.wt] at hn; omega
    have hlen : l.length ≤ 500 := by
      have : ∀ l : List Nd, l.length ≤ wts l := fun l => by
        induction l with
        | nil => exact Nat.zero_le _
        | cons d l ih =>
          have h : 1 ≤ d.wt := by cases d; simp only [Nd.wt]; omega
          simp only [List.length_cons, wts]; omega
      have := this l
      omega
    have b1 : Below w.heap.size w (w.alloc (.cells #[.int .i64 k, .int .i64 m, .string op, .slice ao l.length c] 24)) := (Below.refl _ _).alloc (Nat.le_refl _) _
    have HB := Lib.hid (show ∀ wr, Below (w.heap.size + 1) (w.alloc (.cells #[.int .i64 k, .int .i64 m, .string op, .slice ao l.length c] 24)) wr → wr.cell? ⟨w.heap.size, 0, none⟩ = some (.int .i64 k) ∧ wr.cell? ⟨w.heap.size, 3, none⟩ = some (.slice ao l.length c) from fun wr h => ⟨(h.cell (p := ⟨w.heap.size, 0, none⟩) (by simp)).trans (by simp), (h.cell (p := ⟨w.heap.size, 3, none⟩) (by simp)).trans (by simp)⟩)
    have HL := Lib.hid hl
    obtain ⟨bq, hbq⟩ : ∃ bq, (k == q) = bq := ⟨_, rfl⟩
    have HQ := Lib.hid hbq
    obtain ⟨S0, hS0⟩ : ∃ S0, (if k = q then [Nd.mk k m op l] else []) = S0 := ⟨_, rfl⟩
    have HS0 := Lib.hid hS0
    have hS0l : S0.length ≤ 1 := by rw [← hS0]; split <;> simp
    clear ih hl hS0
    go_enter Try.func11, Try.ntmps11
    go_upto_if 10 with fail
    go_cut [5] from 11 to 14 (fun s wx => OwnN wx (w.heap.size + 1) s S0 ∧ Below (w.heap.size + 1) (w.alloc (.cells #[.int .i64 k, .int .i64 m, .string op, .slice ao l.length c] 24)) wx)
    case first =>
      cases bq with
      | true =>
        have hk : k = q := by simpa using HQ.out
        have hS : S0 = [Nd.mk k m op l] := by rw [← HS0.out, if_pos hk]
        have HS := Lib.hid hS
        have hB : Below (w.heap.size + 1) (w.alloc (.cells #[.int .i64 k, .int .i64 m, .string op, .slice ao l.length c] 24)) ((w.alloc (.cells #[.int .i64 k, .int .i64 m, .string op, .slice ao l.length c] 24)).alloc (.cells #[.int .i64 k, .int .i64 m, .string op, .slice ao l.length c] 24)) := (Below.refl _ _).alloc (by simp) _
        have HRD := Lib.hid (rd_alloc (w.alloc (.cells #[.int .i64 k, .int .i64 m, .string op, .slice ao l.length c] 24)) #[.int .i64 k, .int .i64 m, .string op, .slice ao l.length c] 24 (0, 0) 1 (by simp [maxLen]))
        clear hk hS hbq
        go_wp2_with (at_builtin; refine wpList_append_nd rfl _ _ rfl (w.heap.size + 1) (.slice none 0 0) [] rfl ⟨[], World.ownsRow_nil _ _ _ _, rfl⟩ (.slice (some ⟨w.heap.size + 1, 0, none⟩) 1 1) [Nd.mk k m op l] [.int .i64 k, .int .i64 m, .string op, .slice ao l.length c] rfl (by have := HRD.out; simpa using this) ⟨ao, _, c, [], rfl, rfl⟩ (by simp) (by simp) ?_; intro v2 w2 ho2 hb2)
        go_meet
        exact ⟨by rw [HS.out]; exact ho2, hB.trans hb2⟩
      | false =>
        have hk : ¬ k = q := by simpa using HQ.out
        have hS : S0 = [] := by rw [← HS0.out, if_neg hk]
        have HS := Lib.hid hS
        clear hk hS hbq
        go_wp2_with fail
        go_meet
        exact ⟨⟨[], by rw [HS.out]; exact World.ownsRow_nil _ _ _ _, by rw [HS.out]; rfl⟩, (Below.refl _ _)⟩
    case rest =>
      obtain ⟨hown, hbel⟩ := hcut
      obtain ⟨y0, y3⟩ := HB.out _ hbel
      have hW := b1.trans (hbel.mono (Nat.le_succ _))
      obtain ⟨ao5, c5, rfl⟩ := hown.form
      clear hbq
      by_cases hk2 : k = 2 ∨ k = 6
      · have hsel : (Nd.mk k m op l).sel q = S0 ++ selHead q l := by simp only [Nd.sel, HS0.out, if_pos hk2]
        rw [hsel] at hsl
        have HSEL := Lib.hid hsel
        clear hsel
        cases l with
        | nil =>
          rcases hk2 with rfl | rfl
          all_goals
            have HO := Lib.hid hown
            clear hown
            go_wp2_with fail
            go_ret
            exact ⟨_, rfl, by rw [HSEL.out]; simpa [selHead] using HO.out.base (Nat.le_succ _), hW⟩
        | cons x xs =>
          obtain ⟨b, off, d0, d1, d2, d3, rfl, hb0, q0, q1, q2, q3, hd⟩ := HL.out.get 0 (by simp)
          rw [Nat.zero_add, Nat.zero_mul, Nat.add_zero] at q0 q1 q2 q3
          replace q0 := (hW.cell (p := ⟨b, off, none⟩) hb0).trans q0
          replace q1 := (hW.cell (p := ⟨b, off + 1, none⟩) hb0).trans q1
          replace q2 := (hW.cell (p := ⟨b, off + 2, none⟩) hb0).trans q2
          replace q3 := (hW.cell (p := ⟨b, off + 3, none⟩) hb0).trans q3
          have CALL := Lib.hid (IH.out x d0 d1 d2 d3 wc (by simp only [wts] at hw; omega) (Nd.Is.below hW hd))
          have hx : (x.sel q).length ≤ 500 := by have := sel_len q x; simp only [wts] at hw; omega
          have hlen0 : 0 < (x :: xs).length := by simp
          have hse : selHead q (x :: xs) = x.sel q := rfl
          rw [hse] at HSEL
          clear hd hse hsl
          generalize hX : x.sel q = X at *
          obtain ⟨D, hD⟩ : ∃ D, Nd.mk k m op (x :: xs) = D := ⟨_, rfl⟩
          rw [hD] at HSEL
          have HDD := Lib.hid hD
          clear hX hD
          generalize (x :: xs).length = len at *
          have t0 : decide ((0 : Int) < (len : Int)) = true := by simp; omega
          have i0 : (0 : Int) < (len : Int) := by omega
          have HO := Lib.hid hown
          clear hown
          rcases hk2 with rfl | rfl
          all_goals
            go_wp2_with (first
              | (go_at_call 11; refine CALL.out.mono ?_; rintro e w2 ⟨v2, rfl, ⟨cs2, own2, nc2⟩, b2⟩; have z2 := b2.size; have z1 := hbel.size; have o2 := HO.out.below b2)
              | (at_builtin; refine wpList_append_nd rfl _ _ rfl (w.heap.size + 1) (.slice ao5 S0.length c5) S0 rfl o2 v2 X cs2 rfl (Rd.of_own own2) nc2 (by omega) (by simp at z1; omega) ?_; intro v3 w3 ho3 hb3))
            go_ret
            exact ⟨_, rfl, by rw [HDD.out, HSEL.out]; exact ho3.base (Nat.le_succ _), (hW.trans (b2.mono hW.size)).trans (hb3.mono (Nat.le_succ _))⟩
      · by_cases hk3 : k = 3
        · have hsel : (Nd.mk k m op l).sel q = S0 ++ sels q l := by simp only [Nd.sel, HS0.out, if_neg hk2, if_pos hk3]
          rw [hsel] at hsl
          have HSEL := Lib.hid hsel
          have hwl : S0.length + (sels q l).length ≤ 501 := by rw [List.length_append] at hsl; omega
          clear hsel hsl hk2
          subst hk3
          have HO := Lib.hid hown
          clear hown
          go_wp2_with fail
          go_loopw [5, 6] (fun s i wr => ∃ j : Nat, j ≤ l.length ∧ i = .int .i64 j ∧ Hid (OwnN wr (w.heap.size + 1) s (S0 ++ sels q (l.take j))) ∧ Below (w.heap.size + 1) (w.alloc (.cells #[.int .i64 3, .int .i64 m, .string op, .slice ao l.length c] 24)) wr) (fun _ i _ => l.length - (intOf i).toNat)
          case atStart => exact ⟨0, Nat.zero_le _, rfl, by simpa [sels] using HO, hbel⟩
          case round =>
            obtain ⟨j, hj, rfl, hs, hbr⟩ := hrel
            obtain ⟨yr0, yr3⟩ := HB.out _ hbr
            have hWr := b1.trans (hbr.mono (Nat.le_succ _))
            obtain ⟨ao6, c6, e6⟩ := hs.out.form
            subst e6
            clear y0 y3
            by_cases hlt : j < l.length
            · obtain ⟨b, off, d0, d1, d2, d3, rfl, hb0, q0, q1, q2, q3, hd⟩ := HL.out.get j hlt
              rw [Nat.zero_add] at q0 q1 q2 q3
              replace q0 := (hWr.cell (p := ⟨b, off + j * 4, none⟩) hb0).trans q0
              replace q1 := (hWr.cell (p := ⟨b, off + j * 4 + 1, none⟩) hb0).trans q1
              replace q2 := (hWr.cell (p := ⟨b, off + j * 4 + 2, none⟩) hb0).trans q2
              replace q3 := (hWr.cell (p := ⟨b, off + j * 4 + 3, none⟩) hb0).trans q3
              have CALL := Lib.hid (IH.out l[j] d0 d1 d2 d3 wr (by have := wts_mem (List.getElem_mem hlt); omega) (Nd.Is.below hWr hd))
              have hst := sels_take q l j hlt
              have hx1 : (S0 ++ sels q (l.take j)).length ≤ 1000 ∧ (l[j].sel q).length ≤ 500 := by
                have h1 := sels_len q (l.take j)
                have h2 := wts_take l j hlt
                have h3 := sel_len q l[j]
                have h4 : wts (l.take (j + 1)) ≤ wts l := by
                  have : ∀ (a b : List Nd), wts a ≤ wts (a ++ b) := fun a b => by
                    induction a with
                    | nil => simp [wts]
                    | cons d a ih => simp only [List.cons_append, wts]; omega
                  have h := this (l.take (j + 1)) (l.drop (j + 1))
                  rwa [List.take_append_drop] at h
                rw [List.length_append]; omega
              have HST := Lib.hid (show (S0 ++ sels q (l.take j)) ++ l[j].sel q = S0 ++ sels q (l.take (j + 1)) by rw [hst, List.append_assoc])
              clear hd hst
              generalize l[j].sel q = X at *
              generalize hP : S0 ++ sels q (l.take j) = P at *
              clear hP
              obtain ⟨hx2, hx3⟩ := hx1
              go_wp2_with (first
                | (go_at_call 11; refine CALL.out.mono ?_; rintro e w2 ⟨v2, rfl, ⟨cs2, own2, nc2⟩, b2⟩; have z2 := b2.size; have z1 := hbr.size; have o2 := hs.out.below b2)
                | (at_builtin; refine wpList_append_nd rfl _ _ rfl (w.heap.size + 1) (.slice ao6 P.length c6) P rfl o2 v2 X cs2 rfl (Rd.of_own own2) nc2 (by omega) (by simp at z1; omega) ?_; intro v3 w3 ho3 hb3))
              have ho4 : OwnN w3 (w.heap.size + 1) v3 (S0 ++ sels q (l.take (j + 1))) := by rw [← HST.out]; exact ho3
              have HO4 := Lib.hid ho4
              have hb4 := (hbr.trans (b2.mono (by simp at z1; omega))).trans hb3
              clear ho3 ho4 o2 nc2 own2
              go_roundw
              case rel => exact ⟨j + 1, by omega, by go_num, HO4, hb4⟩
              case measure => simp [intOf]; omega
            · obtain rfl : j = l.length := by omega
              have hP0 : S0 ++ sels q (l.take l.length) = (Nd.mk 3 m op l).sel q := by rw [List.take_length, HSEL.out]
              have HS2 := Lib.hid (hs.out.base (Nat.le_succ w.heap.size))
              generalize S0 ++ sels q (l.take l.length) = P at *
              have HP := Lib.hid hP0
              clear hP0 hs
              go_wp2_with fail
              go_ret
              exact ⟨_, rfl, by rw [← HP.out]; exact HS2.out, hWr⟩
        · have hsel : (Nd.mk k m op l).sel q = S0 := by simp only [Nd.sel, HS0.out, if_neg hk2, if_neg hk3, List.append_nil]
          have HSEL := Lib.hid hsel
          have t2 : (k == 2) = false := by simp; omega
          have t3 : (k == 3) = false := by simp; omega
          have t6 : (k == 6) = false := by simp; omega
          have HO := Lib.hid hown
          clear hsel hk2 hk3 hown
          by_cases hl0 : 0 < l.length
          · have t0 : decide ((0 : Int) < (l.length : Int)) = true := by simp; omega
            go_wp2_with fail
            refine wp_loop_rounds 1 ?_
            rw [rounds_succ]
            go_wp2_with fail
            go_ret
            exact ⟨_, rfl, by rw [HSEL.out]; exact HO.out.base (Nat.le_succ _), hW⟩
          · have t0 : decide ((0 : Int) < (l.length : Int)) = false := decide_eq_false (by omega)
            go_wp2_with fail
            refine wp_loop_rounds 1 ?_
            rw [rounds_succ]
            go_wp2_with fail
            go_ret
            exact ⟨_, rfl, by rw [HSEL.out]; exact HO.out.base (Nat.le_succ _), hW⟩
end Go.Proofs.Ythijffpackkcnaa
