/- FaultWraps answers true, whatever it is given. -/
import Derived.Test.YthijffpackkcnaaDoorAwake7D
import Derived.Test.YthijffpackkcnaaDoorIsA
import Derived.Test.YthijffpackkcnaaDoorViewSI
import Derived.Test.YthijffpackkcnaaDoorErrLaid
import Derived.Deep.RegionWith
namespace Go.Proofs.YthijffpackkcnaaDoor
open Go.RowKit Go.ChangeShapes Go.WideShapes

/-- the i-th op, the i-th id -/
def opK (ops : List ByteArray) (i : Nat) : ByteArray := ops.getD i ByteArray.empty
def idK (ids : List Int) (i : Nat) : Int := ids.getD i 0
/-- wrapped k times -/
def wrapE (code : Int) (ops : List ByteArray) (ids : List Int) : Nat → En
  | 0 => .num code
  | k + 1 => .fault (opK ops k) (idK ids k) (wrapE code ops ids k)
def wrapR (code : Int) (ops : List ByteArray) (ids : List Int) : Nat → Er
  | 0 => .num code
  | k + 1 => .fault (opK ops k) (idK ids k) (wrapR code ops ids k)
def opsTo (ops : List ByteArray) : Nat → List ByteArray
  | 0 => []
  | k + 1 => opK ops k :: opsTo ops k
section
variable {code : Int} {ops : List ByteArray} {ids : List Int}
theorem wrapE_some : ∀ k, wrapE code ops ids k ≠ .none
  | 0 => fun h => by cases h
  | _ + 1 => fun h => by cases h
theorem wrapE_wrap (k : Nat) : (wrapE code ops ids k).wrap (opK ops k) (idK ids k) = wrapE code ops ids (k + 1) := by
  cases k with
  | zero => rfl
  | succ k => rfl
theorem wrap_er {w : World} : ∀ (k : Nat) {v : Value}, (wrapE code ops ids k).Is w v → (wrapR code ops ids k).Is w v
  | 0, v, h => h
  | k + 1, v, h => by
    obtain ⟨b, u, h1, h2, h3, h4, h5, h6⟩ := h
    exact ⟨b, u, h1, h2, h3, h4, h5, wrap_er k h6⟩
theorem wrapR_has (c : Int) : ∀ k, (wrapR code ops ids k).has c = (code == c)
  | 0 => rfl
  | k + 1 => wrapR_has c k
theorem wrapE_first : ∀ k, (wrapE code ops ids k).first = code
  | 0 => rfl
  | k + 1 => by
    have ih := wrapE_first k
    unfold En.first at ih ⊢
    unfold wrapE En.pre
    unfold runs
    rw [if_neg (by unfold stopC; simp)]
    exact ih
theorem runsH (l : List ByteArray) : ∀ k, (runs stopH nextH l (wrapE code ops ids k).pre).2 = l ++ opsTo ops k
  | 0 => by simp [wrapE, En.pre, runs, stopH, nextH, opsTo]
  | k + 1 => by
    unfold wrapE En.pre
    unfold runs
    rw [if_neg (by unfold stopH; simp), runsH]
    simp [nextH, opsTo]
theorem wrapE_chain (k : Nat) : (wrapE code ops ids k).chain = opsTo ops k := by
  unfold En.chain
  rw [runsH]; rfl
theorem wrapE_pre : ∀ k, (wrapE code ops ids k).pre.length = k + 1
  | 0 => rfl
  | k + 1 => by
    unfold wrapE En.pre
    rw [List.length_cons, wrapE_pre k]
theorem wrapE_sz : ∀ k, (wrapE code ops ids k).sz = k + 1
  | 0 => rfl
  | k + 1 => by
    unfold wrapE En.sz
    rw [wrapE_sz k]
theorem wrapE_one : ∀ k, (wrapE code ops ids k).isNone = false
  | 0 => rfl
  | _ + 1 => rfl
theorem wrapE_down : ∀ k, (wrapE code ops ids k).down.2 = k
  | 0 => rfl
  | k + 1 => by
    rw [En.down_one]
    rw [show (wrapE code ops ids (k + 1)).one = wrapE code ops ids k from rfl, wrapE_one k]
    simp only [Bool.false_eq_true, if_false]
    rw [wrapE_down k]
theorem opsTo_len (ops : List ByteArray) : ∀ k, (opsTo ops k).length = k
  | 0 => rfl
  | k + 1 => by unfold opsTo; rw [List.length_cons, opsTo_len ops k]
end
theorem strsV_append (l m : List ByteArray) : strsV (l ++ m) = strsV l ++ strsV m := by simp [strsV]
/-- append(v, s..) of strings -/
theorem wpList_append_str {w : World} {ops : Array Oper} {rest : List Oper} {o : Oper} {a : Act} {Q : Exit → Act → World → Prop} (hgd : o.guard = none) (s x : Operand)
    (ho : o.op = .call { callee := .builtin .append, args := #[s, x], argTypes := #[22, 22] })
    (base : Nat) (v : Value) (l : List ByteArray) (hs : a.eval s = v) (hown : OwnS w base v l) (y : Value) (m : List ByteArray) (hx : a.eval x = y) (hy : Str w y m)
    (h63 : l.length + m.length ≤ 1000000) (hbase : base ≤ w.heap.size)
    (h : ∀ v' w', OwnS w' base v' (l ++ m) → Below base w w' → wpList Tryd.prog ops Q rest (a.put o.dst v') w') : wpList Tryd.prog ops Q (o :: rest) a w :=
  wpList_append_rd hgd s x 22 ho base 9 _ 1 16 Tryd.underlying22 info_str rfl (by decide) v _ _ hs hown y _ _ hx hy (by simp [strsV]) (strsV_one _) (by unfold maxLen; omega) (by omega) hbase
    fun v' w' h1 h2 _ => h v' w' (by unfold OwnS; rw [strsV_append, List.length_append]; exact h1) h2

set_option maxRecDepth 100000 in
theorem wraps_out (code : Int) (vo vi : Value) (ops : List ByteArray) (ids : List Int) (w : World) (ho : Str w vo ops) (hi : Ints w vi ids) (h : ¬ (1 ≤ code ∧ code ≤ 15 ∧ ops.length ≤ 20 ∧ ids.length ≤ 20)) :
    Calls Tryd.prog 3 #[.int .i64 code, vo, vi] w fun e w' => e = .returned (.bool true) ∧ Below w.heap.size w w' := by
  obtain ⟨ao, co, rfl, h1, h2, _⟩ := ho.open
  obtain ⟨ai, ci, rfl, k1, k2, _⟩ := hi.open
  unfold maxLen at h2 k2
  have T : decide (code < 1) = true ∨ (decide (code < 1) = false ∧ (decide (15 < code) = true ∨ (decide (15 < code) = false ∧ (decide ((20 : Int) < (ops.length : Int)) = true ∨ (decide ((20 : Int) < (ops.length : Int)) = false ∧ decide ((20 : Int) < (ids.length : Int)) = true))))) := by
    simp only [decide_eq_true_eq, decide_eq_false_iff_not]
    omega
  clear h ho hi
  rcases T with t1 | ⟨t1, t2 | ⟨t2, t3 | ⟨t3, t4⟩⟩⟩
  all_goals
    go_enter Tryd.func3, Tryd.ntmps3
    go_wp2_with fail
    refine (awake7_any _).mono ?_
    rintro e w1 ⟨rfl, b1⟩
    go_wp2_with fail
    go_ret
    exact ⟨rfl, b1⟩

set_option maxRecDepth 100000 in
set_option maxHeartbeats 4000000 in
theorem wraps_in (code : Int) (vo vi : Value) (ops : List ByteArray) (ids : List Int) (w : World) (hg : ErrT w) (ho : Str w vo ops) (hi : Ints w vi ids) (hs : ∀ s ∈ ops, s.size ≤ maxLen) (c1 : 1 ≤ code) (c2 : code ≤ 15) (n1 : ops.length ≤ 20) (n2 : ids.length ≤ 20) :
    Calls Tryd.prog 3 #[.int .i64 code, vo, vi] w fun e w' => e = .returned (.bool true) ∧ Below w.heap.size w w' := by
  obtain ⟨ao, co, rfl, h1, h2, h3⟩ := ho.open
  obtain ⟨ai, ci, rfl, k1, k2, k3⟩ := hi.open
  have HO := Lib.hid h3
  have HI := Lib.hid k3
  unfold maxLen at h2 k2 hs
  have HS := Lib.hid (show ∀ k (h : k < ops.length), ops[k].size ≤ 9223372036854775807 from fun k h => by have := hs _ (List.getElem_mem h); omega)
  have GT := Lib.hid (fun w' (h : Below w.heap.size w w') => hg.below h hg.lt)
  have t1 : decide (code < 1) = false := decide_eq_false (by omega)
  have t2 : decide (15 < code) = false := decide_eq_false (by omega)
  have t3 : decide ((20 : Int) < (ops.length : Int)) = false := decide_eq_false (by omega)
  have t4 : decide ((20 : Int) < (ids.length : Int)) = false := decide_eq_false (by omega)
  have hE0 := Lib.hid (show (wrapE code ops ids 0).Is w (.iface 25 (.int .i64 code)) from rfl)
  clear h3 k3 ho hi hs hg
  go_enter Tryd.func3, Tryd.ntmps3
  go_wp2_with fail
  go_loopw [7, 8, 9, 10] (fun e nn a i wr => ∃ k : Nat, k ≤ ops.length ∧ i = .int .i64 k ∧ nn = .nilIface ∧ (wrapE code ops ids k).Is wr e ∧ OwnS wr w.heap.size a (opsTo ops k) ∧ Below w.heap.size w wr) (fun _ _ _ i _ => ops.length - (intOf i).toNat)
  case atStart => exact ⟨0, Nat.zero_le _, rfl, rfl, hE0.out, World.ownsRow_nil _ _ _ _, Below.refl _ _⟩
  case round =>
    obtain ⟨k, hk, rfl, rfl, he, hown, hb⟩ := hrel
    by_cases hlt : k < ops.length
    · have t5 : decide ((k : Int) < (ops.length : Int)) = true := by simp; omega
      obtain ⟨g, off, rfl, hg0, hx⟩ := HO.out k hlt
      have j0 : (0 : Int) ≤ (k : Int) := by omega
      have j1 : (k : Int) < (ops.length : Int) := by omega
      have XO := Lib.hid (show ∀ w', Below w.heap.size w w' → w'.cell? ⟨g, off + k, none⟩ = some (.string ops[k]) from fun w' h => (h.cell (p := ⟨g, off + k, none⟩) hg0).trans hx)
      have xc := XO.out _ hb
      have hsz := HS.out k hlt
      have hop : opK ops k = ops[k] := by unfold opK; rw [List.getD_eq_getElem?_getD, List.getElem?_eq_getElem hlt]; rfl
      have HOP := Lib.hid hop
      clear hx hop
      generalize ops[k] = op at *
      by_cases h100 : op.size ≤ 100
      · have t6 : decide ((100 : Int) < (op.size : Int)) = false := decide_eq_false (by omega)
        have EN := Lib.hid he
        have NW := Lib.hid (fun (x : Value) w' (h : (wrapE code ops ids k).Is w' x) => New_en (opK ops k) (idK ids k) _ x w' h)
        rw [wrapE_wrap, HOP.out] at NW
        have NN := Lib.hid (fun w' => New_en op (idK ids k) .none .nilIface w' rfl)
        rw [show En.wrap op (idK ids k) .none = .none from rfl] at NN
        have OWN := Lib.hid hown
        have OT := Lib.hid (show opsTo ops (k + 1) = [op] ++ opsTo ops k by rw [show opsTo ops (k + 1) = opK ops k :: opsTo ops k from rfl, HOP.out]; rfl)
        have OL := opsTo_len ops k
        have i1 : k < ops.length := hlt
        clear he hown
        by_cases hid : k < ids.length
        · have t7 : decide ((k : Int) < (ids.length : Int)) = true := by simp; omega
          have j2 : (k : Int) < (ids.length : Int) := by omega
          obtain ⟨gi, offi, rfl, hgi, hxi⟩ := HI.out k hid
          have hik : idK ids k = ids[k] := by unfold idK; rw [List.getD_eq_getElem?_getD, List.getElem?_eq_getElem hid]; rfl
          have HIK := Lib.hid hik
          have xi := (hb.cell (p := ⟨gi, offi + k, none⟩) hgi).trans hxi
          rw [hik] at NW NN
          clear hxi hik
          generalize ids[k] = ident at *
          go_wp2_with fail
          refine (NW.out _ _ EN.out).mono ?_
          rintro e w1 ⟨v1, rfl, e1, b1⟩
          have B1 := hb.trans (b1.mono hb.size)
          have E1 := Lib.hid e1
          obtain ⟨fb, fu, rfl, hfl, q0, q1, _, _⟩ := e1
          rw [HOP.out] at q0
          rw [HIK.out] at q1
          have x1 := XO.out _ B1
          have OW1 := Lib.hid (Rd.below OWN.out.str b1)
          go_wp2_with fail
          refine (NN.out _).mono ?_
          rintro e w2 ⟨v2, rfl, e2, b2⟩
          obtain rfl : v2 = .nilIface := e2
          have B2 := B1.trans (b2.mono B1.size)
          have x2 := XO.out _ B2
          have E2 := Lib.hid (En.Is.below b2 E1.out)
          have OW2 := Lib.hid (Rd.below OW1.out b2)
          have p0 := (b2.cell (p := ⟨fb, 0, none⟩) hfl).trans q0
          have p1 := (b2.cell (p := ⟨fb, 1, none⟩) hfl).trans q1
          have hfl2 := Nat.lt_of_lt_of_le hfl b2.size
          have LIT := Lib.hid (show OwnS (w2.alloc (.cells #[.string op] 9)) w2.heap.size (.slice (some ⟨w2.heap.size, 0, none⟩) 1 1) [op] from World.ownsRow_lit (base := w2.heap.size) (e := 9) (size := 1) w2 #[.string op] 1 (Nat.le_refl _) (by simp [maxLen]) rfl)
          have a23 : Below w2.heap.size w2 (w2.alloc (.cells #[.string op] 9)) := (Below.refl _ _).alloc (Nat.le_refl _) _
          have OW3 := Lib.hid (Rd.below OW2.out a23)
          have hlen : [op].length + (opsTo ops k).length ≤ 1000000 := by rw [OL]; simp; omega
          clear q0 q1 x1 xc b1 b2
          go_wp2_with (at_builtin; refine wpList_append_str rfl _ _ rfl w2.heap.size _ [op] rfl LIT.out _ (opsTo ops k) rfl OW3.out hlen a23.size ?_)
          intro v3 w3 ho3 hb3
          have b23 := a23.trans hb3
          have B3 := B2.trans (b23.mono B2.size)
          have OW4 := Lib.hid (own_base ho3 B2.size)
          have E3 := Lib.hid (En.Is.below b23 E2.out)
          have x3 := XO.out _ B3
          have p03 := (b23.cell (p := ⟨fb, 0, none⟩) hfl2).trans p0
          have p13 := (b23.cell (p := ⟨fb, 1, none⟩) hfl2).trans p1
          have hfl3 := Nat.lt_of_lt_of_le hfl2 b23.size
          have b34 : Below w3.heap.size w3 (w3.alloc (.cells #[.pointer none] 29)) := (Below.refl _ _).alloc (Nat.le_refl _) _
          have B4 := B3.trans (b34.mono B3.size)
          have HX := Lib.hid (show ∀ w', Below w3.heap.size w3 w' → (w'.cell? ⟨g, off + k, none⟩ = some (.string op)) ∧ w'.cell? ⟨fb, 0, none⟩ = some (.string op) ∧ w'.cell? ⟨fb, 1, none⟩ = some (.int .i64 ident) from fun w' h =>
            ⟨XO.out _ (B3.trans (h.mono B3.size)), (h.cell (p := ⟨fb, 0, none⟩) hfl3).trans p03, (h.cell (p := ⟨fb, 1, none⟩) hfl3).trans p13⟩)
          have HA := Lib.hid (show ∀ n, Calls Tryd.prog 7 #[.iface 29 (.pointer (some ⟨fb, 0, none⟩)), .iface 31 (.pointer (some ⟨w3.heap.size, 0, none⟩))] ((w3.alloc (.cells #[.pointer none] 29)).drewN n) fun ev w' => ev = .returned (.bool true) ∧ w'.cell? ⟨w3.heap.size, 0, none⟩ = some (.pointer (some ⟨fb, 0, none⟩)) ∧ Below w3.heap.size w3 w' from fun n =>
            (As_fault fb ⟨w3.heap.size, 0, none⟩ (.pointer none) _ (GT.out _ (Below.drewN' B4 n)) (by show (w3.alloc _).cell? _ = _; simp) (by show (w3.alloc _).frozen? _ = _; simp)).mono fun e w' h => ⟨h.1, h.2.1, (Below.drewN' b34 n).trans (h.2.2)⟩)
          have OW5 := Lib.hid (show ∀ w', Below w3.heap.size w3 w' → OwnS w' w.heap.size v3 ([op] ++ opsTo ops k) from fun w' h => own_below' OW4.out h)
          clear p0 p1 x2 x3 p03 p13 ho3 hb3 a23 b23
          go_wp2_with fail
          go_region_with (go_at_call 7; refine (HA.out _).mono ?_; rintro e w5 ⟨rfl, r1, b5⟩; obtain ⟨r2, r3, r4⟩ := HX.out _ b5)
          all_goals
            go_wp2_with fail
            go_roundw
            case rel => exact ⟨k + 1, hlt, by go_num, rfl, En.Is.below b5 E3.out, by rw [OT.out]; exact OW5.out _ b5, B3.trans (b5.mono B3.size)⟩
            case measure => simp [intOf]; omega
        · have t7 : decide ((k : Int) < (ids.length : Int)) = false := by simp; omega
          have hik : idK ids k = 0 := by unfold idK; rw [List.getD_eq_getElem?_getD, List.getElem?_eq_none (by omega)]; rfl
          have HIK := Lib.hid hik
          rw [hik] at NW NN
          clear hik
          go_wp2_with fail
          refine (NW.out _ _ EN.out).mono ?_
          rintro e w1 ⟨v1, rfl, e1, b1⟩
          have B1 := hb.trans (b1.mono hb.size)
          have E1 := Lib.hid e1
          obtain ⟨fb, fu, rfl, hfl, q0, q1, _, _⟩ := e1
          rw [HOP.out] at q0
          rw [HIK.out] at q1
          have x1 := XO.out _ B1
          have OW1 := Lib.hid (Rd.below OWN.out.str b1)
          go_wp2_with fail
          refine (NN.out _).mono ?_
          rintro e w2 ⟨v2, rfl, e2, b2⟩
          obtain rfl : v2 = .nilIface := e2
          have B2 := B1.trans (b2.mono B1.size)
          have x2 := XO.out _ B2
          have E2 := Lib.hid (En.Is.below b2 E1.out)
          have OW2 := Lib.hid (Rd.below OW1.out b2)
          have p0 := (b2.cell (p := ⟨fb, 0, none⟩) hfl).trans q0
          have p1 := (b2.cell (p := ⟨fb, 1, none⟩) hfl).trans q1
          have hfl2 := Nat.lt_of_lt_of_le hfl b2.size
          have LIT := Lib.hid (show OwnS (w2.alloc (.cells #[.string op] 9)) w2.heap.size (.slice (some ⟨w2.heap.size, 0, none⟩) 1 1) [op] from World.ownsRow_lit (base := w2.heap.size) (e := 9) (size := 1) w2 #[.string op] 1 (Nat.le_refl _) (by simp [maxLen]) rfl)
          have a23 : Below w2.heap.size w2 (w2.alloc (.cells #[.string op] 9)) := (Below.refl _ _).alloc (Nat.le_refl _) _
          have OW3 := Lib.hid (Rd.below OW2.out a23)
          have hlen : [op].length + (opsTo ops k).length ≤ 1000000 := by rw [OL]; simp; omega
          clear q0 q1 x1 xc b1 b2
          go_wp2_with (at_builtin; refine wpList_append_str rfl _ _ rfl w2.heap.size _ [op] rfl LIT.out _ (opsTo ops k) rfl OW3.out hlen a23.size ?_)
          intro v3 w3 ho3 hb3
          have b23 := a23.trans hb3
          have B3 := B2.trans (b23.mono B2.size)
          have OW4 := Lib.hid (own_base ho3 B2.size)
          have E3 := Lib.hid (En.Is.below b23 E2.out)
          have x3 := XO.out _ B3
          have p03 := (b23.cell (p := ⟨fb, 0, none⟩) hfl2).trans p0
          have p13 := (b23.cell (p := ⟨fb, 1, none⟩) hfl2).trans p1
          have hfl3 := Nat.lt_of_lt_of_le hfl2 b23.size
          have b34 : Below w3.heap.size w3 (w3.alloc (.cells #[.pointer none] 29)) := (Below.refl _ _).alloc (Nat.le_refl _) _
          have B4 := B3.trans (b34.mono B3.size)
          have HX := Lib.hid (show ∀ w', Below w3.heap.size w3 w' → (w'.cell? ⟨g, off + k, none⟩ = some (.string op)) ∧ w'.cell? ⟨fb, 0, none⟩ = some (.string op) ∧ w'.cell? ⟨fb, 1, none⟩ = some (.int .i64 0) from fun w' h =>
            ⟨XO.out _ (B3.trans (h.mono B3.size)), (h.cell (p := ⟨fb, 0, none⟩) hfl3).trans p03, (h.cell (p := ⟨fb, 1, none⟩) hfl3).trans p13⟩)
          have HA := Lib.hid (show ∀ n, Calls Tryd.prog 7 #[.iface 29 (.pointer (some ⟨fb, 0, none⟩)), .iface 31 (.pointer (some ⟨w3.heap.size, 0, none⟩))] ((w3.alloc (.cells #[.pointer none] 29)).drewN n) fun ev w' => ev = .returned (.bool true) ∧ w'.cell? ⟨w3.heap.size, 0, none⟩ = some (.pointer (some ⟨fb, 0, none⟩)) ∧ Below w3.heap.size w3 w' from fun n =>
            (As_fault fb ⟨w3.heap.size, 0, none⟩ (.pointer none) _ (GT.out _ (Below.drewN' B4 n)) (by show (w3.alloc _).cell? _ = _; simp) (by show (w3.alloc _).frozen? _ = _; simp)).mono fun e w' h => ⟨h.1, h.2.1, (Below.drewN' b34 n).trans (h.2.2)⟩)
          have OW5 := Lib.hid (show ∀ w', Below w3.heap.size w3 w' → OwnS w' w.heap.size v3 ([op] ++ opsTo ops k) from fun w' h => own_below' OW4.out h)
          clear p0 p1 x2 x3 p03 p13 ho3 hb3 a23 b23
          go_wp2_with fail
          go_region_with (go_at_call 7; refine (HA.out _).mono ?_; rintro e w5 ⟨rfl, r1, b5⟩; obtain ⟨r2, r3, r4⟩ := HX.out _ b5)
          all_goals
            go_wp2_with fail
            go_roundw
            case rel => exact ⟨k + 1, hlt, by go_num, rfl, En.Is.below b5 E3.out, by rw [OT.out]; exact OW5.out _ b5, B3.trans (b5.mono B3.size)⟩
            case measure => simp [intOf]; omega
      · have t6 : decide ((100 : Int) < (op.size : Int)) = true := decide_eq_true (by omega)
        clear he hown
        go_wp2_with fail
        refine (awake7_any _).mono ?_
        rintro e w1 ⟨rfl, b1⟩
        go_wp2_with fail
        go_ret
        exact ⟨rfl, hb.trans (b1.mono hb.size)⟩
    · have t5 : decide ((k : Int) < (ops.length : Int)) = false := by simp; omega
      obtain rfl : k = ops.length := by omega
      have EN := Lib.hid he
      have ER := Lib.hid (wrap_er _ he)
      have I1 := Lib.hid (Is_er _ code _ _ ER.out)
      have I2 := Lib.hid (Is_er _ (code + 1) _ _ ER.out)
      rw [wrapR_has] at I1 I2
      have z1 : (code == code) = true := by simp
      have z2 : (code == code + 1) = false := beq_eq_false_iff_ne.2 (by omega)
      rw [z1] at I1
      rw [z2] at I2
      have e1 : IntKind.i64.wrap (code + 1) = code + 1 := by rw [IntWalk.i64_in _ (by omega)]
      have CD := Lib.hid (Code_any _ _ _ EN.out)
      rw [wrapE_first] at CD
      have DP := Lib.hid (fun (x : Value) w' (h : (wrapE code ops ids ops.length).Is w' x) => Deep_any _ _ w' h (by rw [wrapE_sz]; omega))
      rw [wrapE_down] at DP
      have CH := Lib.hid (fun (x : Value) w' (h : (wrapE code ops ids ops.length).Is w' x) => Chain_any _ _ w' h (by rw [wrapE_pre]; omega))
      rw [wrapE_chain] at CH
      have OW := Lib.hid hown.str
      have z3 : ((ops.length : Int) == (ops.length : Int)) = true := by simp
      clear he hown
      obtain ⟨T, vv, rfl⟩ := EN.out.some (wrapE_some _)
      go_wp2_with fail
      refine I1.out.mono ?_
      rintro e w1 ⟨rfl, rfl⟩
      go_wp2_with fail
      refine I2.out.mono ?_
      rintro e w1 ⟨rfl, rfl⟩
      go_wp2_with fail
      refine CD.out.mono ?_
      rintro e w1 ⟨rfl, b1⟩
      have B1 := hb.trans (b1.mono hb.size)
      have EN1 := Lib.hid (En.Is.below b1 EN.out)
      go_wp2_with fail
      refine (DP.out _ _ EN1.out).mono ?_
      rintro e w2 ⟨rfl, rfl⟩
      go_wp2_with fail
      refine (CH.out _ _ EN1.out).mono ?_
      rintro e w3 ⟨v3, rfl, o3, b3⟩
      have B3 := B1.trans (b3.mono B1.size)
      have S3 := Lib.hid o3.str
      have S3' := Lib.hid ((Rd.below OW.out b1).below b3)
      clear o3
      go_wp2_with fail
      refine (Texts_any _ _ _ _ _ S3.out S3'.out).mono ?_
      rw [decide_eq_true (rfl : opsTo ops ops.length = opsTo ops ops.length)]
      rintro e w4 ⟨rfl, n4, rfl⟩
      have B4 := Below.drewN' B3 n4
      go_wp2_with fail
      refine (awake7_any _).mono ?_
      rintro e w5 ⟨rfl, b5⟩
      go_wp2_with fail
      go_ret
      exact ⟨rfl, B4.trans (b5.mono B4.size)⟩

set_option maxRecDepth 100000 in
theorem faultWraps_calls {H : Type} {enc : TypeId × Value → H} {W : World} {base : Nat} {v0 v1 v2 : Value} {d0 d1 d2 : DataW H} {p0 p1 p2 : List MemPlace} (hg : ErrT W)
    (o0 : Value.okWide Tryd.prog W .any base 3 v0) (h0 : DataW.Trod enc Tryd.prog W 0 (fun _ => true) true 3 v0 d0 p0)
    (o1 : Value.okWide Tryd.prog W .any base 22 v1) (h1 : DataW.Trod enc Tryd.prog W 0 (fun _ => true) true 22 v1 d1 p1)
    (o2 : Value.okWide Tryd.prog W .any base 23 v2) (h2 : DataW.Trod enc Tryd.prog W 0 (fun _ => true) true 23 v2 d2 p2) :
    Calls Tryd.prog 3 #[v0, v1, v2] W fun e w' => e = .returned (.bool true) ∧ Below W.heap.size W w' := by
  obtain ⟨code, rfl, rfl, rfl, hc⟩ := open_int Tryd.underlying3 o0 h0
  obtain ⟨ops, ho, hs⟩ := view_strs o1 h1
  obtain ⟨ids, hi, _⟩ := view_ints o2 h2
  by_cases h : 1 ≤ code ∧ code ≤ 15 ∧ ops.length ≤ 20 ∧ ids.length ≤ 20
  · exact wraps_in code v1 v2 ops ids W hg ho hi hs h.1 h.2.1 h.2.2.1 h.2.2.2
  · exact wraps_out code v1 v2 ops ids W ho hi h
end Go.Proofs.YthijffpackkcnaaDoor
