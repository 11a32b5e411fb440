/- FaultAsks answers true, whatever it is given. -/
import Derived.Test.YthijffpackkcnaaFaultRoots
import Derived.Test.YthijffpackkcnaaAsksFacts
namespace Go.Proofs.Ythijffpackkcnaa
open Go.RowKit Go.ChangeShapes
open Go.ChangeMaps (open_string)

theorem wpList_append_str {w : World} {ops : Array Oper} {rest : List Oper} {o : Oper} {a : Act} {Q : Exit → Act → World → Prop} (hgd : o.guard = none) (s x : Operand)
    (ho : o.op = .call { callee := .builtin .append, args := #[s, x], argTypes := #[40, 40] })
    (base : Nat) (v : Value) (l : List ByteArray) (hs : a.eval s = v) (hown : OwnS w base v l) (y : Value) (m : List ByteArray) (hx : a.eval x = y) (hy : Str w y m)
    (h63 : l.length + m.length ≤ 1000000) (hbase : base ≤ w.heap.size)
    (h : ∀ v' w', OwnS w' base v' (l ++ m) → Below base w w' → wpList Try.prog ops Q rest (a.put o.dst v') w') : wpList Try.prog ops Q (o :: rest) a w :=
  wpList_append_rd hgd s x 40 ho base 9 _ 1 16 Try.underlying40 info_str rfl (by decide) v _ _ hs hown y _ _ hx hy (by simp [strsV]) (strsV_one _) (by unfold maxLen; omega) (by omega) hbase
    fun v' w' h1 h2 _ => h v' w' (by unfold OwnS; rw [List.length_append, show strsV (l ++ m) = strsV l ++ strsV m from List.map_append]; exact h1) h2
/-- a node's cells in a row of the call's own -/
theorem OwnN.cells {w : World} {base : Nat} {v : Value} {l : List Nd} (h : OwnN w base v l) (h0 : 0 < l.length) : ∃ g c, v = .slice (some ⟨g, 0, none⟩) l.length c ∧ g < w.heap.size ∧
    ∀ i (hi : i < l.length), w.cell? ⟨g, i * 4 + 1, none⟩ = some (.int .i64 l[i].num) ∧ w.cell? ⟨g, i * 4 + 2, none⟩ = some (.string l[i].op) := by
  obtain ⟨cs, h1, h2⟩ := h
  rcases h1.2 with ⟨_, hn⟩ | ⟨g, cap, cur, rfl, hb, hg, _⟩
  · have := h2.length
    rw [hn] at this
    simp at this; omega
  · refine ⟨g, cap, rfl, (Array.getElem?_eq_some_iff.1 hg).1, fun i hi => ?_⟩
    obtain ⟨_, a1, a2⟩ := h2.get i hi
    have hl := h2.length
    have b1 := World.ownsRow.cellAt h1 (i * 4 + 1) (by omega)
    have b2 := World.ownsRow.cellAt h1 (i * 4 + 2) (by omega)
    exact ⟨b1.trans a1, b2.trans a2⟩

mutual
theorem En.pre_len : ∀ e : En, e.pre.length ≤ e.sz
  | .none => by simp [En.pre]
  | .num _ => by simp [En.pre, En.sz]
  | .fault _ _ x => by have := En.pre_len x; simp [En.pre, En.sz]; omega
  | .many _ l => by have := pres_len l; simp [En.pre, En.sz]; omega
  | .plain _ => by simp [En.pre, En.sz]
  | .nilf => by simp [En.pre, En.sz]
  | .cover x => by have := En.pre_len x; simp [En.pre, En.sz]; omega
theorem pres_len : ∀ l : List En, (pres l).length ≤ szs l
  | [] => by simp [pres]
  | e :: l => by
    have := En.pre_len e
    have := pres_len l
    simp [pres, szs]; omega
end
/-- the number of the first one, or 0 -/
def idOf : Option Nd → Int | none => 0 | some d => d.num

set_option maxRecDepth 100000 in
set_option maxHeartbeats 1000000 in
theorem asks_any (d : Nd) (c0 c1 c2 c3 : Value) (o : ByteArray) (w : World) (hd : d.Is w c0 c1 c2 c3) (ho : o.size ≤ maxLen) :
    Calls Try.prog 4 #[.agg #[c0, c1, c2, c3], .string o] w fun e w' => e = .returned (.bool true) ∧ Below w.heap.size w w' := by
  unfold maxLen at ho
  have b0 : Below w.heap.size w (w.alloc (.cells #[c0, c1, c2, c3] 24)) := (Below.refl _ _).alloc (Nat.le_refl _) _
  have HW := Lib.hid (weight_any d.wt d c0 c1 c2 c3 0 _ (Nat.le_refl _) (Nd.Is.below b0 hd) (by omega) (by omega))
  have HD := Lib.hid hd
  obtain ⟨kd, nm, op, kl⟩ := d
  obtain ⟨rfl, rfl, rfl, _, ao, c, rfl, _⟩ := hd
  go_enter Try.func4, Try.ntmps4
  go_wp2_with fail
  refine HW.out.mono ?_
  rintro e w1 ⟨r, rfl, hr0, hr1, hr2, b1⟩
  have B1 := b0.trans (b1.mono b0.size)
  by_cases hr : r ≤ 500
  case neg =>
    have t1 : decide (500 < r) = true := by simp; omega
    clear hr2
    go_wp2_with (go_at_call 7; refine (awake7_any _).mono ?_; rintro e w' ⟨rfl, hb5⟩)
    go_ret
    exact ⟨rfl, B1.trans (hb5.mono B1.size)⟩
  have hwt := hr2 hr
  have t1 : decide (500 < r) = false := by simp; omega
  by_cases hos : o.size ≤ 100
  case neg =>
    have t2 : decide ((100 : Int) < (o.size : Int)) = true := by simp; omega
    clear hr2
    go_wp2_with (go_at_call 7; refine (awake7_any _).mono ?_; rintro e w' ⟨rfl, hb5⟩)
    go_ret
    exact ⟨rfl, B1.trans (hb5.mono B1.size)⟩
  have t2 : decide ((100 : Int) < (o.size : Int)) = false := by simp; omega
  have HB := Lib.hid (show ∀ wr, Below (w.heap.size + 1) (w.alloc (.cells #[.int .i64 kd, .int .i64 nm, .string op, .slice ao kl.length c] 24)) wr →
      wr.cell? ⟨w.heap.size, 0, none⟩ = some (.int .i64 kd) ∧ wr.cell? ⟨w.heap.size, 1, none⟩ = some (.int .i64 nm) ∧ wr.cell? ⟨w.heap.size, 2, none⟩ = some (.string op) ∧ wr.cell? ⟨w.heap.size, 3, none⟩ = some (.slice ao kl.length c) from fun wr h =>
    ⟨(h.cell (p := ⟨w.heap.size, 0, none⟩) (by simp)).trans (by simp), (h.cell (p := ⟨w.heap.size, 1, none⟩) (by simp)).trans (by simp), (h.cell (p := ⟨w.heap.size, 2, none⟩) (by simp)).trans (by simp), (h.cell (p := ⟨w.heap.size, 3, none⟩) (by simp)).trans (by simp)⟩)
  have wt5 : (Nd.mk kd nm op kl).wt ≤ 500 := by omega
  have C1 : Below (w.heap.size + 1) (w.alloc (.cells #[.int .i64 kd, .int .i64 nm, .string op, .slice ao kl.length c] 24)) w1 := b1.mono (by simp)
  obtain ⟨x0, x1, x2, x3⟩ := HB.out _ C1
  have hz : (Nd.mk kd nm op kl).en.sz ≤ 1000000 := by have := en_sz (Nd.mk kd nm op kl); omega
  have MADE := Lib.hid (made_any 500 (by omega) (Nd.mk kd nm op kl) _ _ _ _ w1 (by omega) (Nd.Is.below B1 HD.out))
  obtain ⟨D, hDe⟩ : ∃ D, Nd.mk kd nm op kl = D := ⟨_, rfl⟩
  have HDe := Lib.hid hDe
  rw [hDe] at HD MADE wt5 hz
  clear hr2 b1 hDe hwt
  go_wp2_with fail
  refine MADE.out.mono ?_
  rintro e w2 ⟨v, rfl, hon, b2⟩
  have e2 := Lib.hid hon.is
  have B2 := B1.trans (b2.mono B1.size)
  have s1 := C1.size
  have C2 := C1.trans (b2.mono (by simpa using s1))
  obtain ⟨y0, y1, y2, y3⟩ := HB.out _ C2
  have SEL1 := Lib.hid (sel_any 1 500 (Nat.le_refl _) D _ _ _ _ w2 wt5 (Nd.Is.below B2 HD.out))
  clear x0 x1 x2 x3 hon
  go_wp2_with fail
  refine SEL1.out.mono ?_
  rintro e w3 ⟨kv, rfl, ok, b3⟩
  have e3 := Lib.hid (En.Is.below b3 e2.out)
  have B3 := B2.trans (b3.mono B2.size)
  have s2 := C2.size
  have C3 := C2.trans (b3.mono (by simpa using s2))
  obtain ⟨z0, z1, z2, z3⟩ := HB.out _ C3
  have SEL2 := Lib.hid (sel_any 2 500 (Nat.le_refl _) D _ _ _ _ w3 wt5 (Nd.Is.below B3 HD.out))
  have l1 := sel_len 1 D
  have l2 := sel_len 2 D
  have FIRST := Lib.hid (first_en D)
  have CHAIN := Lib.hid (chain_en D)
  have FIND := Lib.hid (find_en o D)
  obtain ⟨K1, hK1⟩ : ∃ K1, D.sel 1 = K1 := ⟨_, rfl⟩
  obtain ⟨K2, hK2⟩ : ∃ K2, D.sel 2 = K2 := ⟨_, rfl⟩
  rw [hK1] at ok l1 FIRST
  rw [hK2] at SEL2 l2 CHAIN FIND
  obtain ⟨aok, ck, rfl⟩ := ok.form
  have OK := Lib.hid ok
  obtain ⟨bk, hbk⟩ : ∃ bk, decide (0 < K1.length) = bk := ⟨_, rfl⟩
  have HBK := Lib.hid hbk
  clear hK1 hK2 y0 y1 y2 y3 ok
  go_upto_if 30 with fail
  go_cut [6] from 31 to 34 (fun s wx => s = .int .i64 (codeOf K1) ∧ wx = w3)
  case first =>
    cases bk with
    | false =>
      have h0 : K1 = [] := by have := HBK.out; simpa using this
      have H0 := Lib.hid h0
      clear h0 hbk
      go_wp2_with fail
      go_meet
      exact ⟨by rw [H0.out]; rfl, rfl⟩
    | true =>
      have hl0 : 0 < K1.length := by have := HBK.out; simpa using this
      obtain ⟨g, c, e1, hg, hc⟩ := OK.out.cells hl0
      obtain ⟨q1, _⟩ := hc 0 hl0
      simp only [Value.slice.injEq, true_and] at e1
      obtain ⟨rfl, rfl⟩ := e1
      rw [Nat.zero_mul, Nat.zero_add] at q1
      have hcd : codeOf K1 = K1[0].num := by cases K1 with
        | nil => simp at hl0
        | cons x xs => rfl
      rw [← hcd] at q1
      have i0 : (0 : Int) < (K1.length : Int) := by omega
      clear hc hcd hbk
      go_wp2_with fail
      go_meet
      exact ⟨rfl, rfl⟩
  case rest =>
    obtain ⟨rfl, rfl⟩ := hcut
    clear hbk
    generalize hcode : codeOf K1 = code at *
    have HCODE := Lib.hid hcode
    clear hcode
    go_wp2_with fail
    refine SEL2.out.mono ?_
    rintro e w4 ⟨fv, rfl, of, b4⟩
    have e4 := Lib.hid (En.Is.below b4 e3.out)
    have B4 := B3.trans (b4.mono B3.size)
    obtain ⟨aof, cf, rfl⟩ := of.form
    have OF := Lib.hid of
    clear of z0 z1 z2 z3
    go_wp2_with fail
    go_loopw [8, 10, 11, 12] (fun ov idv mv i wr => ∃ (j : Nat), j ≤ K2.length ∧ i = .int .i64 j ∧ Hid (OwnS wr w4.heap.size ov ((K2.take j).map Nd.op)) ∧ mv = .bool (firstOp o (K2.take j)).isSome ∧ idv = .int .i64 (idOf (firstOp o (K2.take j))) ∧ Below w4.heap.size w4 wr) (fun _ _ _ i _ => K2.length - (intOf i).toNat)
    case atStart => exact ⟨0, Nat.zero_le _, rfl, World.ownsRow_nil _ _ _ _, rfl, rfl, Below.refl _ _⟩
    case round =>
      obtain ⟨j, hj, rfl, hs, rfl, rfl, hb⟩ := hrel
      obtain ⟨ao8, c8, e8, _⟩ := (OwnS.str hs.out).open
      subst e8
      by_cases hlt : j < K2.length
      · obtain ⟨g, cg, e9, hg, hcs⟩ := OF.out.cells (by omega)
        simp only [Value.slice.injEq, true_and] at e9
        obtain ⟨rfl, rfl⟩ := e9
        obtain ⟨q1, q2⟩ := hcs j hlt
        have r1 := (hb.cell (p := ⟨g, j * 4 + 1, none⟩) hg).trans q1
        have r2 := (hb.cell (p := ⟨g, j * 4 + 2, none⟩) hg).trans q2
        have hft := firstOp_take o K2 j hlt
        have hmap : (K2.take (j + 1)).map Nd.op = (K2.take j).map Nd.op ++ [K2[j].op] := by rw [List.take_succ_eq_append_getElem hlt, List.map_append]; rfl
        have hpl : ((K2.take j).map Nd.op).length ≤ 500 := by simp; omega
        have hm2 : (K2.take j).length ≤ 500 := by simp; omega
        have HFT := Lib.hid hft
        have HMAP := Lib.hid hmap
        have HX := Lib.hid (show K2[j] = K2[j] from rfl)
        have hzs := hb.size
        have o8 := Lib.hid (show OwnS (wr.alloc (.cells #[.string K2[j].op] 9)) w4.heap.size (.slice ao8 ((K2.take j).map Nd.op).length c8) ((K2.take j).map Nd.op) from World.ownsRow.alloc hs.out _)
        have s8 := Lib.hid (show Str (wr.alloc (.cells #[.string K2[j].op] 9)) (.slice (some ⟨wr.heap.size, 0, none⟩) 1 1) [K2[j].op] from rd_alloc wr #[.string K2[j].op] 9 (0, 0) 1 (by simp [maxLen]))
        clear q1 q2 hcs hft hmap
        generalize K2[j] = x at *
        generalize hP : (K2.take j).map Nd.op = P at *
        generalize hF : firstOp o (K2.take j) = F at *
        clear hP hF
        obtain ⟨xk, xn, xo, xl⟩ := x
        have hx1 : (Nd.mk xk xn xo xl).op = xo := rfl
        have hx2 : (Nd.mk xk xn xo xl).num = xn := rfl
        rw [hx1] at r2 o8 s8 HMAP HFT
        rw [hx2] at r1
        clear hx1 hx2
        have i0 : (0 : Int) ≤ (j : Int) := by omega
        have i1 : (j : Int) < (K2.length : Int) := by omega
        by_cases hxo : xo = o
        · subst hxo
          cases F with
          | none =>
            go_wp2_with (at_builtin; refine wpList_append_str rfl _ _ rfl w4.heap.size (.slice ao8 P.length c8) P rfl o8.out (.slice (some ⟨wr.heap.size, 0, none⟩) 1 1) [xo] rfl s8.out (by simp; omega) (by simp; omega) ?_; intro v5 w5 ho5 hb5; have k1 := (hb5.cell (p := ⟨g, j * 4 + 1, none⟩) hg).trans ((World.cell?_alloc_lt _ _ ⟨g, j * 4 + 1, none⟩ (Nat.lt_of_lt_of_le hg hzs)).trans r1); have k2 := (hb5.cell (p := ⟨g, j * 4 + 2, none⟩) hg).trans ((World.cell?_alloc_lt _ _ ⟨g, j * 4 + 2, none⟩ (Nat.lt_of_lt_of_le hg hzs)).trans r2))
            have hb6 := (hb.alloc hzs (.cells #[.string xo] 9)).trans hb5
            go_roundw
            case rel => exact ⟨j + 1, by omega, by go_num, by rw [HMAP.out]; exact ho5, by rw [HFT.out]; simp, by rw [HFT.out]; simp [idOf, Nd.num], hb6⟩
            case measure => simp [intOf]; omega
          | some m =>
            go_wp2_with (at_builtin; refine wpList_append_str rfl _ _ rfl w4.heap.size (.slice ao8 P.length c8) P rfl o8.out (.slice (some ⟨wr.heap.size, 0, none⟩) 1 1) [xo] rfl s8.out (by simp; omega) (by simp; omega) ?_; intro v5 w5 ho5 hb5; have k1 := (hb5.cell (p := ⟨g, j * 4 + 1, none⟩) hg).trans ((World.cell?_alloc_lt _ _ ⟨g, j * 4 + 1, none⟩ (Nat.lt_of_lt_of_le hg hzs)).trans r1); have k2 := (hb5.cell (p := ⟨g, j * 4 + 2, none⟩) hg).trans ((World.cell?_alloc_lt _ _ ⟨g, j * 4 + 2, none⟩ (Nat.lt_of_lt_of_le hg hzs)).trans r2))
            have hb6 := (hb.alloc hzs (.cells #[.string xo] 9)).trans hb5
            go_roundw
            case rel => exact ⟨j + 1, by omega, by go_num, by rw [HMAP.out]; exact ho5, by rw [HFT.out]; simp, by rw [HFT.out]; simp [idOf], hb6⟩
            case measure => simp [intOf]; omega
        · have bo : (xo.toList == o.toList) = false := by simpa using fun h => hxo (toList_inj h)
          have hif : (if (Nd.mk xk xn xo xl).op = o then some (Nd.mk xk xn xo xl) else none) = none := if_neg hxo
          rw [if_neg hxo] at HFT
          clear hif hxo
          go_wp2_with (at_builtin; refine wpList_append_str rfl _ _ rfl w4.heap.size (.slice ao8 P.length c8) P rfl o8.out (.slice (some ⟨wr.heap.size, 0, none⟩) 1 1) [xo] rfl s8.out (by simp; omega) (by simp; omega) ?_; intro v5 w5 ho5 hb5; have k1 := (hb5.cell (p := ⟨g, j * 4 + 1, none⟩) hg).trans ((World.cell?_alloc_lt _ _ ⟨g, j * 4 + 1, none⟩ (Nat.lt_of_lt_of_le hg hzs)).trans r1); have k2 := (hb5.cell (p := ⟨g, j * 4 + 2, none⟩) hg).trans ((World.cell?_alloc_lt _ _ ⟨g, j * 4 + 2, none⟩ (Nat.lt_of_lt_of_le hg hzs)).trans r2))
          have hb6 := (hb.alloc hzs (.cells #[.string xo] 9)).trans hb5
          go_roundw
          case rel => exact ⟨j + 1, by omega, by go_num, by rw [HMAP.out]; exact ho5, by rw [HFT.out]; simp, by rw [HFT.out]; simp, hb6⟩
          case measure => simp [intOf]; omega
      · obtain rfl : j = K2.length := by omega
        have hs2 := hs.out
        rw [List.take_length] at hs2
        rw [List.take_length]
        have HS2 := Lib.hid hs2
        clear hs hs2
        obtain ⟨F, hF⟩ : ∃ F, firstOp o K2 = F := ⟨_, rfl⟩
        rw [hF]
        rw [hF] at FIND
        have er := Lib.hid (En.Is.below hb e4.out)
        have BR := B4.trans (hb.mono B4.size)
        have hpl : D.en.pre.length ≤ 1000000 := Nat.le_trans D.en.pre_len hz
        generalize hP : K2.map Nd.op = P at *
        clear hF hP
        rcases FIND.out with ⟨rfl, hf⟩ | ⟨m, x, rfl, hf⟩
        · have FI := Lib.hid (show Calls Try.prog 12 #[v, .string o] wr (FindRet wr none) by have := Find_any o D.en v wr er.out; rw [hf] at this; exact this)
          clear hf
          go_wp2_with fail
          refine FI.out.mono ?_
          rintro e w5 ⟨p, rfl, rfl, b5⟩
          have e5 := Lib.hid (En.Is.below b5 er.out)
          have B5 := BR.trans (b5.mono BR.size)
          have o5 := Lib.hid (own_below' HS2.out b5)
          have CD := Lib.hid (show Calls Try.prog 13 #[v] w5 fun ev w' => ev = .returned (.int .i64 code) ∧ Below w5.heap.size w5 w' by have := Code_any D.en v w5 e5.out; rw [FIRST.out] at this; exact this)
          go_wp2_with fail
          refine CD.out.mono ?_
          rintro e w6 ⟨rfl, b6⟩
          have e6 := Lib.hid (En.Is.below b6 e5.out)
          have B6 := B5.trans (b6.mono B5.size)
          have o6 := Lib.hid (own_below' o5.out b6)
          have CH := Lib.hid (show Calls Try.prog 15 #[v] w6 (StrsRet w6 P) by have := Chain_any D.en v w6 e6.out hpl; rw [CHAIN.out] at this; exact this)
          go_wp2_with fail
          refine CH.out.mono ?_
          rintro e w7 ⟨v7, rfl, o7, b7⟩
          have B7 := B6.trans (b7.mono B6.size)
          have s7 := Lib.hid (OwnS.str (own_below' o6.out b7))
          have s8 := Lib.hid (OwnS.str o7)
          clear o7
          go_wp2_with fail
          refine (Texts_any _ _ _ _ _ s8.out s7.out).mono ?_
          rw [decide_eq_true (rfl : P = P)]
          rintro e w8 ⟨rfl, n8, rfl⟩
          have B8 := Below.drewN' B7 n8
          go_wp2_with fail
          refine (awake7_any _).mono ?_
          rintro e w9 ⟨rfl, b9⟩
          go_wp2_with fail
          go_ret
          exact ⟨rfl, B8.trans (b9.mono B8.size)⟩
        · have FI := Lib.hid (show Calls Try.prog 12 #[v, .string o] wr (FindRet wr (some (.fault o m.num x))) by have := Find_any o D.en v wr er.out; rw [hf] at this; exact this)
          clear hf
          rw [show idOf (some m) = m.num from rfl]
          generalize m.num = mn at *
          go_wp2_with fail
          refine FI.out.mono ?_
          rintro e w5 ⟨p, rfl, ⟨pb, rfl, hp⟩, b5⟩
          obtain ⟨pb', pu, hpe, hpl2, p1, p2, _⟩ := hp
          simp only [Value.iface.injEq, Value.pointer.injEq, Option.some.injEq, Addr.mk.injEq, true_and, and_true] at hpe
          subst hpe
          replace p1 := (b5.cell (p := ⟨pb, 0, none⟩) hpl2).trans p1
          replace p2 := (b5.cell (p := ⟨pb, 1, none⟩) hpl2).trans p2
          have e5 := Lib.hid (En.Is.below b5 er.out)
          have B5 := BR.trans (b5.mono BR.size)
          have o5 := Lib.hid (own_below' HS2.out b5)
          have CD := Lib.hid (show Calls Try.prog 13 #[v] w5 fun ev w' => ev = .returned (.int .i64 code) ∧ Below w5.heap.size w5 w' by have := Code_any D.en v w5 e5.out; rw [FIRST.out] at this; exact this)
          go_wp2_with fail
          refine CD.out.mono ?_
          rintro e w6 ⟨rfl, b6⟩
          have e6 := Lib.hid (En.Is.below b6 e5.out)
          have B6 := B5.trans (b6.mono B5.size)
          have o6 := Lib.hid (own_below' o5.out b6)
          have CH := Lib.hid (show Calls Try.prog 15 #[v] w6 (StrsRet w6 P) by have := Chain_any D.en v w6 e6.out hpl; rw [CHAIN.out] at this; exact this)
          go_wp2_with fail
          refine CH.out.mono ?_
          rintro e w7 ⟨v7, rfl, o7, b7⟩
          have B7 := B6.trans (b7.mono B6.size)
          have s7 := Lib.hid (OwnS.str (own_below' o6.out b7))
          have s8 := Lib.hid (OwnS.str o7)
          clear o7
          go_wp2_with fail
          refine (Texts_any _ _ _ _ _ s8.out s7.out).mono ?_
          rw [decide_eq_true (rfl : P = P)]
          rintro e w8 ⟨rfl, n8, rfl⟩
          have B8 := Below.drewN' B7 n8
          go_wp2_with fail
          refine (awake7_any _).mono ?_
          rintro e w9 ⟨rfl, b9⟩
          go_wp2_with fail
          go_ret
          exact ⟨rfl, B8.trans (b9.mono B8.size)⟩

theorem faultAsks_calls {H : Type} {enc : TypeId × Value → H} {W : World} {base : Nat} {v0 v1 : Value} {d0 d1 : DataW H} {p0 p1 : List MemPlace}
    (o0 : Value.okWide Try.prog W .any base 24 v0) (h0 : DataW.Trod enc Try.prog W 0 (fun _ => true) true 24 v0 d0 p0)
    (o1 : Value.okWide Try.prog W .any base 9 v1) (h1 : DataW.Trod enc Try.prog W 0 (fun _ => true) true 9 v1 d1 p1) :
    Calls Try.prog 4 #[v0, v1] W fun e w' => e = .returned (.bool true) ∧ Below W.heap.size W w' := by
  obtain ⟨x, c0, c1, c2, c3, rfl, hx⟩ := view_node o0 h0
  obtain ⟨s, rfl, rfl, rfl, hs⟩ := open_string Try.underlying9 o1 h1
  exact asks_any x c0 c1 c2 c3 s W hx hs
end Go.Proofs.Ythijffpackkcnaa
