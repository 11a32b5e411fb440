/- enc.Unobject. pergolaref8.Unobject. append onto an owned row, with where the new row lies: for several owned rows at once. Rows of ints. A call of a Go function, and an append of bytes, as one step of a region that draws its order. -/
import Derived.Test.YthcfekabeidmiaaRRDoorREo24
import Derived.Test.YthcfekabeidmiaaRRDoorREo17
import Derived.Test.YthcfekabeidmiaaRRDoorREo1
import Derived.Maps.AppendAt
import Derived.Test.YthcfekabeidmiaaRRDoorREo21
import Derived.Deep.RegionLaw
import Derived.Deep.RegionHeld3
set_option linter.unusedSimpArgs false
set_option linter.unusedVariables false
namespace Go.Proofs.YthcfekabeidmiaaRRDoorR
/-! UnobE -/
section
open Go.RowKit

/-- what bytes begin with, as Unobject tells it -/
def unK (b : List UInt8) : Int := match unobj b with | some (k, _, _) => (k : Int) | Option.none => 0
def unL (b : List UInt8) : List (Int × Int) := match unobj b with | some (_, l, _) => l | Option.none => []
def unN (b : List UInt8) : Nat := match unobj b with | some (_, _, n) => n | Option.none => 0
def unEr (b : List UInt8) : Er := match unobj b with | some _ => .none | Option.none => .fault strObj 0 (.num 10)

theorem New_lit (op : ByteArray) (id : Int) (k : Int) (w : World) :
    Calls Tryd.prog 20 #[.string op, .int .i64 id, .iface 54 (.int .i64 k)] w fun e w' => e = .returned (.iface 61 (.pointer (some ⟨w.heap.size, 0, none⟩))) ∧ w' = w.alloc (.cells #[.string op, .int .i64 id, .iface 54 (.int .i64 k)] 65) := by
  go_enter Tryd.func20, Tryd.ntmps20
  go_wp2
  go_ret
  exact ⟨rfl, rfl⟩
/-- a Fault that was made behind block g stays, whatever is laid there -/
theorem fault_far (W : World) (g : Nat) (hg : g < W.heap.size) (op : ByteArray) (id k : Int) (x y : Value) :
    (Er.fault op id (.num k)).Is (((W.alloc (.cells #[.string op, .int .i64 id, .iface 54 (.int .i64 k)] 65)).setCell ⟨g, 0, none⟩ x).setCell ⟨g, 1, none⟩ y) (.iface 61 (.pointer (some ⟨W.heap.size, 0, none⟩))) := by
  have h0 : ∀ i j, (⟨g, i, none⟩ : Addr) ≠ ⟨W.heap.size, j, none⟩ := fun i j e => Nat.ne_of_lt hg (congrArg Addr.block e)
  refine ⟨_, .iface 54 (.int .i64 k), rfl, (by simp), ?_, ?_, ?_, rfl⟩
  · rw [World.cell?_setCell_other (h := h0 _ _), World.cell?_setCell_other (h := h0 _ _)]; simp
  · rw [World.cell?_setCell_other (h := h0 _ _), World.cell?_setCell_other (h := h0 _ _)]; simp
  · rw [World.cell?_setCell_other (h := h0 _ _), World.cell?_setCell_other (h := h0 _ _)]; simp

set_option maxRecDepth 100000 in
set_option maxHeartbeats 2000000 in
theorem Unobject_any (v : Value) (b : List UInt8) (w : World) (hv : Byt w v b) (hl : b.length ≤ 1000) :
    Calls Tryd.prog 7 #[v] w fun e w' => ∃ vo u, e = .returned (.tuple #[.agg #[.int .i64 (unK b), vo], .int .i64 (unN b : Int), u]) ∧ OwnPt w' w.heap.size vo (unL b) ∧ (unEr b).Is w' u ∧ Below w.heap.size w w' := by
  have hv0 := hv
  obtain ⟨ao, c, rfl, _⟩ := hv0.open
  have B1 : Below w.heap.size w (w.alloc (.cells #[.int .i64 0, .slice none 0 0] 24)) := (Below.refl _ _).alloc (Nat.le_refl _) _
  have B2 : Below w.heap.size w ((w.alloc (.cells #[.int .i64 0, .slice none 0 0] 24)).alloc (.cells #[.slice ao b.length c, .int .i64 0, .bool false] 51)) := B1.alloc B1.size _
  have s1 : (w.alloc (.cells #[.int .i64 0, .slice none 0 0] 24)).heap.size = w.heap.size + 1 := by simp
  have s2 : ((w.alloc (.cells #[.int .i64 0, .slice none 0 0] 24)).alloc (.cells #[.slice ao b.length c, .int .i64 0, .bool false] 51)).heap.size = w.heap.size + 1 + 1 := by simp
  have O1 := ObS.alloc w 24
  have O2 := O1.stay ((Below.alloc (Below.refl _ _) (Nat.le_refl _) (.cells #[.slice ao b.length c, .int .i64 0, .bool false] 51)).block _ O1.lt)
  have R2 : RdS ((w.alloc (.cells #[.int .i64 0, .slice none 0 0] 24)).alloc (.cells #[.slice ao b.length c, .int .i64 0, .bool false] 51)) (w.heap.size + 1) (.slice ao b.length c) 0 false := by
    rw [← s1]
    exact ⟨by simp, by simp, by simp, by simp, by simp⟩
  have OC := Lib.hid (object_any (w.heap.size + 1) _ b _ (fun w' h => hv.below (B2.trans (h.mono (Nat.le_succ _)))) hl R2)
  have HB2 := Lib.hid B2
  have HO2 := Lib.hid O2
  clear B1 B2 O1 O2 R2 hv
  go_enter Tryd.func7, Tryd.ntmps7
  go_wp2_with fail
  refine OC.out.mono ?_
  rintro e w1 ⟨ko, vo, lo, bad, n, rfl, hp, hr, hb1, hb2, hf⟩
  rw [s2] at hp
  have o1 := HO2.out.stay (hf.kept _ (by omega) (by omega))
  have F1 := HB2.out.trans (hf.below.mono (Nat.le_succ _))
  have hlt := o1.lt
  obtain ⟨av, cv, rfl, _⟩ := Rd.of_own hp
  clear OC HO2 HB2 hf s1 s2
  have O3 := Lib.hid ((o1.kind ko).pts (.slice av lo.length cv))
  have R3 := Lib.hid ((hr.onl ((OnlB.refl w.heap.size _).setCell 0 (.int .i64 ko)) (by omega)).onl ((OnlB.refl w.heap.size _).setCell 1 (.slice av lo.length cv)) (by omega))
  have P3 := Lib.hid (own_setLow (own_setLow hp (show w.heap.size < _ by omega) 0 (.int .i64 ko)) (show w.heap.size < _ by omega) 1 (.slice av lo.length cv))
  have F3 := Lib.hid ((F1.setCell (p := ⟨w.heap.size, 0, none⟩) (Nat.le_refl _) (.int .i64 ko)).setCell (p := ⟨w.heap.size, 1, none⟩) (Nat.le_refl _) (.slice av lo.length cv))
  have hlt3 : w.heap.size < ((w1.setCell ⟨w.heap.size, 0, none⟩ (.int .i64 ko)).setCell ⟨w.heap.size, 1, none⟩ (.slice av lo.length cv)).heap.size := by simpa using hlt
  clear hp F1
  obtain ⟨c0, c1, c2, g1, g2⟩ := hr
  obtain ⟨o0, o1, k0, k1⟩ := o1
  cases bad with
  | true =>
    have hno := hb1 rfl
    have E0 : unK b = 0 ∧ unL b = [] ∧ unN b = 0 ∧ unEr b = .fault strObj 0 (.num 10) := by
      unfold unK unL unN unEr
      rw [hno]
      exact ⟨rfl, rfl, rfl, rfl⟩
    have HE := Lib.hid E0
    clear E0
    have NL := Lib.hid (fun W => New_lit strObj 0 10 W)
    clear hb1 hb2 hno
    go_wp2_with fail
    have OO := O3.out
    have FF := F3.out
    generalize (w1.setCell ⟨w.heap.size, 0, none⟩ (.int .i64 ko)).setCell ⟨w.heap.size, 1, none⟩ (.slice av lo.length cv) = W3 at *
    clear c0 c1 c2 g1 g2 o0 o1 k0 k1
    refine (NL.out W3).mono ?_
    rintro e w4 ⟨rfl, rfl⟩
    have FX := Lib.hid (fault_far W3 w.heap.size hlt3 strObj 0 10 (.int .i64 0) (.slice none 0 0))
    have O4 := OO.stay ((Below.alloc (Below.refl _ _) (Nat.le_refl _) (.cells #[.string strObj, .int .i64 0, .iface 54 (.int .i64 10)] 65)).block _ OO.lt)
    have O5 := Lib.hid ((O4.kind 0).pts (.slice none 0 0))
    have B5 := Lib.hid (((FF.alloc FF.size (.cells #[.string strObj, .int .i64 0, .iface 54 (.int .i64 10)] 65)).setCell (p := ⟨w.heap.size, 0, none⟩) (Nat.le_refl _) (.int .i64 0)).setCell (p := ⟨w.heap.size, 1, none⟩) (Nat.le_refl _) (.slice none 0 0))
    obtain ⟨o0, o1, k0, k1⟩ := O4
    clear OO FF O3 R3 P3 F3
    generalize W3.alloc (.cells #[.string strObj, .int .i64 0, .iface 54 (.int .i64 10)] 65) = W4 at *
    generalize W3.heap.size = S3 at *
    go_wp2_with fail
    obtain ⟨y0, y1, -, -⟩ := O5.out
    exact bodyPost_ret (v := .tuple #[.agg #[.int .i64 0, .slice none 0 0], .int .i64 0, .iface 61 (.pointer (some ⟨S3, 0, none⟩))]) (by simp [results, Tryd.results7, go_sem, y0, y1]) rfl (by obtain ⟨e1, e2, e3, e4⟩ := HE.out; rw [e1, e2, e3, e4]; exact ⟨_, _, rfl, World.ownsRow_nil _ _ _ _, FX.out, B5.out⟩)
  | false =>
    obtain ⟨k, hs, rfl⟩ := hb2 rfl
    have E0 : unK b = (k : Int) ∧ unL b = lo ∧ unN b = n ∧ unEr b = .none := by
      unfold unK unL unN unEr
      rw [hs]
      exact ⟨rfl, rfl, rfl, rfl⟩
    have HE := Lib.hid E0
    clear E0
    clear hb1 hb2 hs
    go_wp2_with fail
    have held := Lib.hid (And.intro (O3.out.stay (w' := ((w1.setCell ⟨w.heap.size, 0, none⟩ (.int .i64 (k : Int))).setCell ⟨w.heap.size, 1, none⟩ (.slice av lo.length cv)).drew) rfl) (And.intro (R3.out.stay (w' := ((w1.setCell ⟨w.heap.size, 0, none⟩ (.int .i64 (k : Int))).setCell ⟨w.heap.size, 1, none⟩ (.slice av lo.length cv)).drew) rfl) (And.intro (World.ownsRow.drew P3.out) F3.out.drew)))
    clear c0 c1 c2 g1 g2 o0 o1 k0 k1 O3 R3 P3 F3 hlt3
    refine wp_region_noPanic ?_
    refine wp_region_held_drew (S := fun w' => ObS w' w.heap.size (k : Int) (.slice av lo.length cv) ∧ RdS w' (w.heap.size + 1) (.slice ao b.length c) n false ∧ w'.ownsRow (w.heap.size + 1 + 1) 43 2 (.slice av lo.length cv) lo.length (ptsV lo) ∧ Below w.heap.size w w') (by kernel_rfl) (held.out) (fun hHeld => ?_)
    generalize ((w1.setCell ⟨w.heap.size, 0, none⟩ (.int .i64 (k : Int))).setCell ⟨w.heap.size, 1, none⟩ (.slice av lo.length cv)).drew = D at hHeld ⊢
    have kb := hHeld
    refine wpAnyH_take (i := 0) (oi := ⟨some 18, _, _, _, _, _⟩) (v := ?qv0ue) rfl (by kernel_rfl) (by kernel_rfl) (by kernel_rfl) (fun _ _ _ h => h) (Or.inl ⟨by rfl, ?qy0ue⟩) hHeld ?qr0ue
    case qy0ue => (intro w' hSw; obtain ⟨⟨q0, q1, -, -⟩, ⟨-, q2, -, -, -⟩, -, -⟩ := hSw; go_simp; try with_reducible rfl)
    try simp only [Act.put, List.setIfInBounds_toArray, List.set_cons_zero, List.set_cons_succ]
    refine wpAnyH_take (i := 1) (oi := ⟨some 19, _, _, _, _, _⟩) (v := ?qv1ue) rfl (by kernel_rfl) (by kernel_rfl) (by kernel_rfl) (fun _ _ _ h => h) (Or.inl ⟨by rfl, ?qy1ue⟩) hHeld ?qr1ue
    case qy1ue => (intro w' hSw; go_simp; try with_reducible rfl)
    try simp only [Act.put, List.setIfInBounds_toArray, List.set_cons_zero, List.set_cons_succ]
    refine wpAnyH_take (i := 2) (oi := ⟨some 20, _, _, _, _, _⟩) (v := ?qv2ue) rfl (by kernel_rfl) (by kernel_rfl) (by kernel_rfl) (fun _ _ _ h => h) (Or.inl ⟨by rfl, ?qy2ue⟩) hHeld ?qr2ue
    case qy2ue => (intro w' hSw; go_simp; try with_reducible rfl)
    try simp only [Act.put, List.setIfInBounds_toArray, List.set_cons_zero, List.set_cons_succ]
    refine wpAnyH_take (i := 3) (oi := ⟨some 21, _, _, _, _, _⟩) (v := ?qv3ue) rfl (by kernel_rfl) (by kernel_rfl) (by kernel_rfl) (fun _ _ _ h => h) (Or.inl ⟨by rfl, ?qy3ue⟩) hHeld ?qr3ue
    case qy3ue => (intro w' hSw; go_simp; try with_reducible rfl)
    try simp only [Act.put, List.setIfInBounds_toArray, List.set_cons_zero, List.set_cons_succ]
    refine wpAnyH_take (i := 4) (oi := ⟨some 22, _, _, _, _, _⟩) (v := ?qv4ue) rfl (by kernel_rfl) (by kernel_rfl) (by kernel_rfl) (fun _ _ _ h => h) (Or.inl ⟨by rfl, ?qy4ue⟩) hHeld ?qr4ue
    case qy4ue => (intro w' hSw; obtain ⟨⟨q0, q1, -, -⟩, ⟨-, q2, -, -, -⟩, -, -⟩ := hSw; go_simp; try with_reducible rfl)
    try simp only [Act.put, List.setIfInBounds_toArray, List.set_cons_zero, List.set_cons_succ]
    refine wpAnyH_ready (rs := [5]) (by kernel_rfl) (by simp) ?_
    refine AllReadyH.cons (o := ⟨none, _, _, _, _, _⟩) rfl (fun K hK => ?_) AllReadyH.nil
    obtain ⟨⟨q0, q1, q2, q3⟩, hR, hP, hB⟩ := id hHeld
    go_simp
    refine hK.out _ _ ⟨(hHeld.1.kind _).pts _, (hR.onl ((OnlB.refl w.heap.size _).setCell 0 _) (by omega)).onl ((OnlB.refl w.heap.size _).setCell 1 _) (by omega), own_setLow (own_setLow hP (show w.heap.size < _ by omega) 0 _) (show w.heap.size < _ by omega) 1 _, (hB.setCell (p := ⟨w.heap.size, 0, none⟩) (Nat.le_refl _) _).setCell (p := ⟨w.heap.size, 1, none⟩) (Nat.le_refl _) _⟩ (fun hHeld => ?_)
    clear hK K
    try simp only [Act.put, List.setIfInBounds_toArray, List.set_cons_zero, List.set_cons_succ]
    refine wpAnyH_take (i := 6) (oi := ⟨some 3, _, _, _, _, _⟩) (v := ?qv6ue) rfl (by kernel_rfl) (by kernel_rfl) (by kernel_rfl) (fun _ _ _ h => h) (Or.inl ⟨by rfl, ?qy6ue⟩) hHeld ?qr6ue
    case qy6ue => (intro w' hSw; go_simp; try with_reducible rfl)
    try simp only [Act.put, List.setIfInBounds_toArray, List.set_cons_zero, List.set_cons_succ]
    refine wpAnyH_take (i := 7) (oi := ⟨some 4, _, _, _, _, _⟩) (v := ?qv7ue) rfl (by kernel_rfl) (by kernel_rfl) (by kernel_rfl) (fun _ _ _ h => h) (Or.inl ⟨by rfl, ?qy7ue⟩) hHeld ?qr7ue
    case qy7ue => (intro w' hSw; go_simp; try with_reducible rfl)
    try simp only [Act.put, List.setIfInBounds_toArray, List.set_cons_zero, List.set_cons_succ]
    refine wpAnyH_done (by kernel_rfl) ?_ _
    refine NoPanic.normal ?_
    go_wp2_with fail
    obtain ⟨⟨y0, y1, -, -⟩, -, hP, hB⟩ := hHeld
    have PP : OwnPt _ w.heap.size _ lo := own_base hP (by omega)
    exact bodyPost_ret (v := .tuple #[.agg #[.int .i64 (k : Int), .slice av lo.length cv], .int .i64 (n : Int), .nilIface]) (by simp [results, Tryd.results7, go_sem, y0, y1]) rfl (by obtain ⟨e1, e2, e3, e4⟩ := HE.out; rw [e1, e2, e3, e4]; exact ⟨_, _, rfl, PP, rfl, hB⟩)
end

/-! UnobR -/
section
open Go.RowKit

/-- v[L:] of bytes -/
theorem wpList_slice_from {P : Program} {w : World} {ops : Array Oper} {rest : List Oper} {o : Oper} {a : Act} {Q : Exit → Act → World → Prop} (hgd : o.guard = none) (x lo : Operand) (t e : TypeId)
    (ho : o.op = .slice t x (some lo) none none) (ht : P.underlying t = some (.slice e)) (hsz : (sizeOf e).run P w = .ok 1 w)
    (v : Value) (l : List UInt8) (hv : Byt w v l) (hx : a.eval x = v) (L : Nat) (hl : a.eval lo = .int .i64 (L : Int)) (hL : L ≤ l.length)
    (next : wpList P ops Q rest (a.put o.dst (cutV v L)) w) : wpList P ops Q (o :: rest) a w := by
  refine wpList_plain hgd fun K hK => ?_
  obtain ⟨ao, c, rfl, h1, h2, h0, _⟩ := hv.open
  have he : P.elem t = e := by simp [Program.elem, ht]
  have ht' : P.underlying t = some (.slice (P.elem t)) := by rw [he]; exact ht
  have hrun := run_slice_l (P := P) w t ao l.length c ht' .i64 (L : Int) (by omega) (by omega)
  have hat := run_sliceAt_slice (P := P) w t (.slice ao l.length c) (some (.int .i64 (L : Int))) none none ht'
  rw [hrun, he, hsz] at hat
  have hv' : sliced ao (L : Int).toNat l.length c 1 = cutV (.slice ao l.length c) L := by
    cases ao with
    | none =>
      have hc := h0 rfl
      have hl0 : l.length = 0 := by omega
      have : L = 0 := by omega
      subst hc this
      simp [sliced, cutV, hl0]
    | some p =>
      simp only [sliced, cutV, Int.toNat_natCast, Nat.mul_one, Option.map_some]
  simp only [Result.andThen, hv'] at hat
  unfold Oper.wp
  simp [execOp, ho, hx, hl, hat, Result.andThen]
  exact hK _ _ next

def unC (b : List UInt8) : Int := match unobj b with | some _ => 0 | Option.none => 10
theorem un_no {b : List UInt8} (h : unobj b = Option.none) : unK b = 0 ∧ unL b = [] ∧ unN b = 0 ∧ unC b = 10 := by
  unfold unK unL unN unC
  rw [h]
  exact ⟨rfl, rfl, rfl, rfl⟩
theorem un_yes {b : List UInt8} {k : Nat} {l : List (Int × Int)} {n : Nat} (h : unobj b = some (k, l, n)) : unK b = (k : Int) ∧ unL b = l ∧ unN b = n ∧ unC b = 0 := by
  unfold unK unL unN unC
  rw [h]
  exact ⟨rfl, rfl, rfl, rfl⟩
theorem unobj_bad {b : List UInt8} (h : headBad b = true) : unobj b = Option.none := by
  unfold unobj
  rw [if_pos h]
theorem headBad_1 {b : List UInt8} (h : (unv b).2 = 0) : headBad b = true := by unfold headBad; simp [h]
theorem headBad_2 {b : List UInt8} (h : 4 < (unv b).1) : headBad b = true := by unfold headBad; simp [h]
theorem headBad_3 {b : List UInt8} (h : (unv (b.drop (unv b).2)).2 = 0) : headBad b = true := by unfold headBad; simp [h]
theorem headBad_4 {b : List UInt8} (h : 64 < (unv (b.drop (unv b).2)).1) : headBad b = true := by unfold headBad; simp [h]
theorem headBad_no {b : List UInt8} (h1 : (unv b).2 ≠ 0) (h2 : ¬ 4 < (unv b).1) (h3 : (unv (b.drop (unv b).2)).2 ≠ 0) (h4 : ¬ 64 < (unv (b.drop (unv b).2)).1) : headBad b = false := by
  unfold headBad
  simp [h1, h2, h3, h4]

theorem ptsAt_bad {b : List UInt8} {i j : Nat} (h : (ptsAt b i).2.2 = true) (hij : i ≤ j) : (ptsAt b j).2.2 = true := rdAt_bad' h hij

set_option maxRecDepth 100000 in
set_option maxHeartbeats 4000000 in
theorem UnobjectR_any (v : Value) (b : List UInt8) (w : World) (hv : Byt w v b) (hl : b.length ≤ 1000) :
    Calls Tryd.prog 8 #[v] w fun e w' => ∃ vo, e = .returned (.tuple #[.agg #[.int .i64 (unK b), vo], .int .i64 (unN b : Int), .int .i64 (unC b)]) ∧ OwnPt w' w.heap.size vo (unL b) ∧ Below w.heap.size w w' := by
  have B1 : Below w.heap.size w (w.alloc (.cells #[.int .i64 0, .slice none 0 0] 24)) := (Below.refl _ _).alloc (Nat.le_refl _) _
  have O1 := ObS.alloc w 24
  have HN := Lib.hid (fun h => un_no (b := b) h)
  have HB := Lib.hid (fun h => unobj_bad (b := b) h)
  have BV := Lib.hid (fun w' (h : Below w.heap.size w w') => hv.below h)
  have EB := Lib.hid (fun W (o : ObS W w.heap.size 0 (.slice none 0 0)) (hb : Below w.heap.size w W) => And.intro ((o.kind 0).pts (.slice none 0 0)) ((hb.setCell (p := ⟨w.heap.size, 0, none⟩) (Nat.le_refl _) (.int .i64 0)).setCell (p := ⟨w.heap.size, 1, none⟩) (Nat.le_refl _) (.slice none 0 0)))
  have U1 := UnvarintR_any v b _ (hv.below B1)
  have U2 := UnvarintR_any (cutV v (unv b).2) (b.drop (unv b).2) _ ((hv.below B1).cut (unv_le b).2.1)
  have L1 := (unv_le b).2.1
  have L2 := (unv_le (b.drop (unv b).2)).2.1
  rw [List.length_drop] at L2
  have h1 := fun h => headBad_1 (b := b) h
  have h2 := fun h => headBad_2 (b := b) h
  have h3 := fun h => headBad_3 (b := b) h
  have h4 := fun h => headBad_4 (b := b) h
  have h5 := fun a1 a2 a3 a4 => headBad_no (b := b) a1 a2 a3 a4
  have UNB := fun (h : headBad b = false) => show unobj b = if (ptsAt b (cntAt b)).2.2 = true then Option.none else if objCode ((unv b).1 : Int) (ptsAt b (cntAt b)).1 = 0 then some ((unv b).1, (ptsAt b (cntAt b)).1, (ptsAt b (cntAt b)).2.1) else Option.none from by
    unfold unobj
    rw [if_neg (by rw [h]; simp)]
  have PT0 : ptsAt b 0 = ([], (unv b).2 + (unv (b.drop (unv b).2)).2, false) := rfl
  rw [show cntAt b = (unv (b.drop (unv b).2)).1 from rfl] at UNB
  generalize unv (b.drop (unv b).2) = cm at *
  obtain ⟨C, M⟩ := cm
  generalize unv b = kn at *
  obtain ⟨K, N⟩ := kn
  simp only at *
  have HU1 := Lib.hid U1
  have HU2 := Lib.hid U2
  have H1 := Lib.hid (And.intro h1 (And.intro h2 (And.intro h3 (And.intro h4 h5))))
  have HUNB := Lib.hid UNB
  have HPT0 := Lib.hid PT0
  have HB1 := Lib.hid B1
  have HO1 := Lib.hid O1
  clear U1 U2 h1 h2 h3 h4 h5 UNB PT0 B1 O1 hv
  go_enter Tryd.func8, Tryd.ntmps8
  go_wp2_with fail
  have OO := HO1.out
  have BB := HB1.out
  have hW1 := OO.lt
  have hs1 : (w.alloc (.cells #[.int .i64 0, .slice none 0 0] 24)).heap.size = w.heap.size + 1 := by simp
  generalize w.alloc (.cells #[.int .i64 0, .slice none 0 0] 24) = W1 at *
  refine HU1.out.mono ?_
  rintro e w' ⟨rfl, rfl⟩
  by_cases a1 : N = 0
  · have hno := HB.out (H1.out.1 a1)
    have t1 : ((N : Int) == 0) = true := by simp; omega
    clear HU1 HU2 a1
    obtain ⟨o0, o1, k0, k1⟩ := id OO
    go_wp2_with fail
    obtain ⟨⟨y0, y1, -, -⟩, yb⟩ := EB.out _ OO BB
    exact bodyPost_ret (v := .tuple #[.agg #[.int .i64 0, .slice none 0 0], .int .i64 0, .int .i64 10]) (by simp [results, Tryd.results8, go_sem, y0, y1]) rfl (by obtain ⟨e1, e2, e3, e4⟩ := HN.out hno; rw [e1, e2, e3, e4]; exact ⟨_, rfl, World.ownsRow_nil _ _ _ _, yb⟩)
  have t1 : ((N : Int) == 0) = false := by simp; omega
  by_cases a2 : 4 < K
  · have hno := HB.out (H1.out.2.1 a2)
    have t2 : decide ((4 : Int) < (K : Int)) = true := decide_eq_true (by omega)
    clear HU1 HU2 a1
    obtain ⟨o0, o1, k0, k1⟩ := id OO
    go_wp2_with fail
    obtain ⟨⟨y0, y1, -, -⟩, yb⟩ := EB.out _ OO BB
    exact bodyPost_ret (v := .tuple #[.agg #[.int .i64 0, .slice none 0 0], .int .i64 0, .int .i64 10]) (by simp [results, Tryd.results8, go_sem, y0, y1]) rfl (by obtain ⟨e1, e2, e3, e4⟩ := HN.out hno; rw [e1, e2, e3, e4]; exact ⟨_, rfl, World.ownsRow_nil _ _ _ _, yb⟩)
  have t2 : decide ((4 : Int) < (K : Int)) = false := decide_eq_false (by omega)
  have VW1 := BV.out _ BB
  go_wp2_with (first
    | (refine wpList_slice_from (o := ⟨some 33, _, _, _, _, _⟩) rfl _ _ 25 5 rfl Tryd.underlying25 (by kernel_rfl) v b VW1 rfl N rfl L1 ?_)
    | fail)
  refine HU2.out.mono ?_
  rintro e w' ⟨rfl, rfl⟩
  by_cases a3 : M = 0
  · have hno := HB.out (H1.out.2.2.1 a3)
    have t3 : ((M : Int) == 0) = true := by simp; omega
    clear HU1 HU2 a1 a2
    obtain ⟨o0, o1, k0, k1⟩ := id OO
    go_wp2_with fail
    obtain ⟨⟨y0, y1, -, -⟩, yb⟩ := EB.out _ OO BB
    exact bodyPost_ret (v := .tuple #[.agg #[.int .i64 0, .slice none 0 0], .int .i64 0, .int .i64 10]) (by simp [results, Tryd.results8, go_sem, y0, y1]) rfl (by obtain ⟨e1, e2, e3, e4⟩ := HN.out hno; rw [e1, e2, e3, e4]; exact ⟨_, rfl, World.ownsRow_nil _ _ _ _, yb⟩)
  have t3 : ((M : Int) == 0) = false := by simp; omega
  by_cases a4 : 64 < C
  · have hno := HB.out (H1.out.2.2.2.1 a4)
    have t4 : decide ((64 : Int) < (C : Int)) = true := decide_eq_true (by omega)
    clear HU1 HU2 a1 a2 a3
    obtain ⟨o0, o1, k0, k1⟩ := id OO
    go_wp2_with fail
    obtain ⟨⟨y0, y1, -, -⟩, yb⟩ := EB.out _ OO BB
    exact bodyPost_ret (v := .tuple #[.agg #[.int .i64 0, .slice none 0 0], .int .i64 0, .int .i64 10]) (by simp [results, Tryd.results8, go_sem, y0, y1]) rfl (by obtain ⟨e1, e2, e3, e4⟩ := HN.out hno; rw [e1, e2, e3, e4]; exact ⟨_, rfl, World.ownsRow_nil _ _ _ _, yb⟩)
  have t4 : decide ((64 : Int) < (C : Int)) = false := decide_eq_false (by omega)
  have UN := HUNB.out (H1.out.2.2.2.2 a1 a2 a3 a4)
  have HUN := Lib.hid UN
  have kc : ((K : Nat) : Int) ≤ 4 := by omega
  have cc : ((C : Nat) : Int) ≤ 64 := by omega
  have nc : ((N : Nat) : Int) ≤ 1000 := by omega
  have mc : ((M : Nat) : Int) ≤ 1000 := by omega
  have B9 : Below w.heap.size w (W1.alloc (.cells #[.int .i64 (K : Int), .slice none 0 0] 24)) := BB.alloc BB.size _
  have O9 := OO.stay ((Below.alloc (Below.refl _ _) (Nat.le_refl _) (.cells #[.int .i64 (K : Int), .slice none 0 0] 24)).block _ OO.lt)
  have P9 : ObS (W1.alloc (.cells #[.int .i64 (K : Int), .slice none 0 0] 24)) (w.heap.size + 1) (K : Int) (.slice none 0 0) := by
    rw [← hs1]
    exact ⟨by simp, by simp, by simp, by simp⟩
  have HB9 := Lib.hid B9
  have HO9 := Lib.hid O9
  have HP9 := Lib.hid P9
  clear HU1 HU2 UN B9 O9 P9 HUNB H1 a1 a2 a3 a4 HB1 HO1 VW1 OO BB
  go_wp2_with fail
  go_loopw [10, 11] (fun q i wr => ∃ (k : Nat) (vi : Value), k ≤ C ∧ q = .int .i64 ((ptsAt b k).2.1 : Int) ∧ i = .int .i64 k ∧ (ptsAt b k).2.2 = false ∧ ObS wr (w.heap.size + 1) (K : Int) vi ∧ OwnPt wr (w.heap.size + 1 + 1) vi (ptsAt b k).1 ∧ ObS wr w.heap.size 0 (.slice none 0 0) ∧ Below w.heap.size w wr) (fun _ i _ => C - (intOf i).toNat)
  case atStart =>
    refine ⟨0, _, Nat.zero_le _, ?_, rfl, ?_, HP9.out, ?_, HO9.out, HB9.out⟩
    · rw [HPT0.out]; go_num
    · rw [HPT0.out]
    · rw [HPT0.out]; exact World.ownsRow_nil _ _ _ _
  case round =>
    obtain ⟨k, vi, hk, rfl, rfl, hbad, ho, hp, hr, hb⟩ := hrel
    have leA := ptsAt_le b k
    have len := ptsAt_len b k
    by_cases hlt : k < C
    · have tt : decide ((k : Int) < (C : Int)) = true := decide_eq_true (Int.ofNat_lt.2 hlt)
      have NX : ptsAt b (k + 1) = ((ptsAt b k).1 ++ [((unsg (b.drop (ptsAt b k).2.1)).1, (unsg (b.drop ((ptsAt b k).2.1 + (unsg (b.drop (ptsAt b k).2.1)).2.1))).1)], (ptsAt b k).2.1 + (unsg (b.drop (ptsAt b k).2.1)).2.1 + (unsg (b.drop ((ptsAt b k).2.1 + (unsg (b.drop (ptsAt b k).2.1)).2.1))).2.1, (ptsAt b k).2.2 || !(unsg (b.drop (ptsAt b k).2.1)).2.2 || !(unsg (b.drop ((ptsAt b k).2.1 + (unsg (b.drop (ptsAt b k).2.1)).2.1))).2.2) := rfl
      generalize ptsAt b k = s at *
      obtain ⟨L, A, bd⟩ := s
      simp only at hp leA len NX hbad ⊢
      subst hbad
      have HLN := Lib.hid (show L.length ≤ 64 by omega)
      clear len
      have leX := (unsg_le (b.drop A)).2
      rw [List.length_drop] at leX
      have S1 := UnsignedR_any (cutV v A) (b.drop A) wr ((BV.out _ hb).cut leA)
      unfold UnsRet at S1
      generalize hxe : unsg (b.drop A) = x at *
      obtain ⟨X, dx, okx⟩ := x
      simp only at leX NX S1
      have leB : A + dx ≤ b.length := by omega
      have leY := (unsg_le (b.drop (A + dx))).2
      rw [List.length_drop] at leY
      have S2 := UnsignedR_any (cutV v (A + dx)) (b.drop (A + dx)) wr ((BV.out _ hb).cut leB)
      unfold UnsRet at S2
      generalize hye : unsg (b.drop (A + dx)) = y at *
      obtain ⟨Y, dy, oky⟩ := y
      simp only at NX S2 leY
      have HNX := Lib.hid NX
      have HS1 := Lib.hid S1
      have HS2 := Lib.hid S2
      have VW := Lib.hid (BV.out _ hb)
      have HRR := Lib.hid (And.intro hr (And.intro hb (And.intro ho hp)))
      obtain ⟨ai, ci, rfl, _⟩ := Rd.of_own hp
      have i1 : (A : Int) ≤ 1000 := by omega
      have i2 : (dx : Int) ≤ 1000 := by omega
      have i3 : (dy : Int) ≤ 1000 := by omega
      clear NX S1 S2 hxe hye hr hb ho hp
      go_wp2_with (first
        | (refine wpList_slice_from (o := ⟨some 59, _, _, _, _, _⟩) rfl _ _ 25 5 rfl Tryd.underlying25 (by kernel_rfl) v b VW.out rfl A rfl leA ?_)
        | fail)
      refine HS1.out.mono ?_
      rintro e w' ⟨rfl, rfl⟩
      go_wp2_with (first
        | (refine wpList_slice_from (o := ⟨some 69, _, _, _, _, _⟩) rfl _ _ 25 5 rfl Tryd.underlying25 (by kernel_rfl) v b VW.out rfl (A + dx) rfl leB ?_)
        | fail)
      refine HS2.out.mono ?_
      rintro e w' ⟨rfl, rfl⟩
      obtain ⟨hr, hb, ho, hp⟩ := HRR.out
      by_cases hok : okx = true ∧ oky = true
      · obtain ⟨rfl, rfl⟩ := hok
        have b5 : Below wr.heap.size wr (wr.alloc (.cells #[.int .i64 X, .int .i64 Y] 43)) := (Below.refl _ _).alloc (Nat.le_refl _) _
        have p5 := hp.below b5
        have o5 := ho.stay (b5.block _ ho.lt)
        have r5 := hr.stay (b5.block _ hr.lt)
        have B5 := hb.trans (b5.mono hb.size)
        have LIT : Rd (wr.alloc (.cells #[.int .i64 X, .int .i64 Y] 43)) (.slice (some ⟨wr.heap.size, 0, none⟩) 1 1) 1 (ptsV [(X, Y)]) := pts_lit wr [(X, Y)] _ (0, 0) (by simp [maxLen])
        have hgt : w.heap.size + 1 + 1 ≤ (wr.alloc (.cells #[.int .i64 X, .int .i64 Y] 43)).heap.size := Nat.le_trans (Nat.succ_le_of_lt ho.lt) b5.size
        have HO := Lib.hid ho
        have k5 : World.ownsRow (wr.alloc (.cells #[.int .i64 X, .int .i64 Y] 43)) (w.heap.size + 1 + 1) 43 2 (.slice ai L.length ci) L.length (ptsV L) := p5
        have HB5 := Lib.hid (And.intro o5 (And.intro r5 (And.intro B5 k5)))
        obtain ⟨z0, z1, z2, z3⟩ := ho
        clear hr hb hp b5 p5 o5 r5 B5 HS1 HS2 HRR
        go_wp2_with (first
          | (at_builtin; refine wpList_append_g rfl _ _ 22 rfl (w.heap.size + 1 + 1) 43 _ 2 16 Tryd.underlying22 info_ptS rfl (by decide) (.slice ai L.length ci) L.length (ptsV L) rfl k5 _ 1 (ptsV [(X, Y)]) rfl LIT rfl (ptsV_one _) (by unfold maxLen; have := HLN.out; omega) (by have := HLN.out; omega) hgt ?_; intro v6 w6 p6 f6; have hb6 := World.ownsRow.lt HB5.out.2.2.2; have o6 := HB5.out.1.stay (f6.kept _ HB5.out.1.lt (fun e => by have := (hb6 _ e).1; omega)); have r6 := HB5.out.2.1.stay (f6.kept _ HB5.out.2.1.lt (fun e => by have := (hb6 _ e).1; omega)); have B6 := HB5.out.2.2.1.trans (f6.below.mono (Nat.le_trans (Nat.le_succ _) (Nat.le_succ _))); rw [← ptsV_append] at p6; obtain ⟨a6, c6, rfl, _⟩ := Rd.of_own p6; have HX6 := Lib.hid (And.intro (o6.pts (.slice a6 (L.length + 1) c6)) (And.intro (r6.far (show w.heap.size ≠ w.heap.size + 1 by omega) 1 (.slice a6 (L.length + 1) c6)) (And.intro (own_setLow p6 (Nat.lt_succ_self _) 1 (.slice a6 (L.length + 1) c6)) (B6.setCell (p := ⟨w.heap.size + 1, 1, none⟩) (Nat.le_succ _) (.slice a6 (L.length + 1) c6))))); obtain ⟨x0, x1, x2, x3⟩ := o6; clear p6 f6 hb6 r6 B6 LIT k5 hgt z0 z1 z2 z3)
          | fail)
        go_roundw
        case rel =>
          obtain ⟨q1, q2, q3, q4⟩ := HX6.out
          refine ⟨k + 1, _, hlt, ?_, by go_num, ?_, q1, ?_, q2, q4⟩
          · rw [HNX.out]; go_num
          · rw [HNX.out]; rfl
          · rw [HNX.out]
            unfold OwnPt
            rw [List.length_append]
            exact q3
        case measure => simp [intOf]; omega
      · have hno : unobj b = Option.none := by
          rw [HUN.out, if_pos (ptsAt_bad (i := k + 1) (by
            rw [HNX.out]
            show (false || !okx || !oky) = true
            cases okx <;> cases oky <;> simp_all) hlt)]
        obtain ⟨⟨y0, y1, -, -⟩, yb⟩ := EB.out _ hr hb
        obtain ⟨o0, o1, k0, k1⟩ := hr
        cases okx <;> cases oky
        case true.true => exact absurd ⟨rfl, rfl⟩ hok
        all_goals
          go_wp2_with fail
          exact bodyPost_ret (v := .tuple #[.agg #[.int .i64 0, .slice none 0 0], .int .i64 0, .int .i64 10]) (by simp [results, Tryd.results8, go_sem, y0, y1]) rfl (by obtain ⟨e1, e2, e3, e4⟩ := HN.out hno; rw [e1, e2, e3, e4]; exact ⟨_, rfl, World.ownsRow_nil _ _ _ _, yb⟩)
    · obtain rfl : k = C := by omega
      have tt : decide ((k : Int) < (k : Int)) = false := by simp
      have UN := HUN.out
      generalize ptsAt b k = s at *
      obtain ⟨L, A, bd⟩ := s
      simp only at hp leA len hbad UN ⊢
      subst hbad
      clear len
      rw [if_neg (by simp)] at UN
      have hp0 := hp
      obtain ⟨ai, ci, rfl, _⟩ := Rd.of_own hp0
      have RC := Lib.hid (refChk_any (K : Int) _ L wr (OwnPt.pts hp))
      have HX := Lib.hid (fun w3 (b3 : Below wr.heap.size wr w3) => And.intro (ho.stay (b3.block _ ho.lt)) (And.intro (hr.stay (b3.block _ hr.lt)) (And.intro (own_below' hp b3) (hb.trans (b3.mono hb.size)))))
      obtain ⟨z0, z1, -, -⟩ := ho
      clear hp hp0 hr hb
      go_wp2_with fail
      refine RC.out.mono ?_
      rintro e w3 ⟨rfl, b3⟩
      obtain ⟨ho, hr, hp, hb⟩ := HX.out w3 b3
      clear HX RC b3 z0 z1
      by_cases hcode : objCode (K : Int) L = 0
      · have hyes : unobj b = some (K, L, A) := by rw [UN, if_pos hcode]
        rw [hcode]
        have o9 := (hr.kind (K : Int)).pts (.slice ai L.length ci)
        have P9 := own_base (own_setLow (own_setLow hp (show w.heap.size < _ by omega) 0 (.int .i64 (K : Int))) (show w.heap.size < _ by omega) 1 (.slice ai L.length ci)) (show w.heap.size ≤ _ by omega)
        have B9 := (hb.setCell (p := ⟨w.heap.size, 0, none⟩) (Nat.le_refl _) (.int .i64 (K : Int))).setCell (p := ⟨w.heap.size, 1, none⟩) (Nat.le_refl _) (.slice ai L.length ci)
        have HF := Lib.hid (And.intro o9 (And.intro P9 B9))
        obtain ⟨o0, o1, k0, k1⟩ := hr
        obtain ⟨z0, z1, -, -⟩ := ho
        clear o9 P9 B9 hp hb UN hcode
        go_wp2_with fail
        obtain ⟨⟨y0, y1, -, -⟩, yp, yb⟩ := HF.out
        exact bodyPost_ret (v := .tuple #[.agg #[.int .i64 (K : Int), .slice ai L.length ci], .int .i64 (A : Int), .int .i64 0]) (by simp [results, Tryd.results8, go_sem, y0, y1]) rfl (by obtain ⟨e1, e2, e3, e4⟩ := un_yes hyes; rw [e1, e2, e3, e4]; exact ⟨_, rfl, yp, yb⟩)
      · have hno : unobj b = Option.none := by rw [UN, if_neg hcode]
        have t9 : (objCode (K : Int) L != 0) = true := by simpa using hcode
        generalize objCode (K : Int) L = Z at *
        obtain ⟨⟨y0, y1, -, -⟩, yb⟩ := EB.out _ hr hb
        obtain ⟨o0, o1, k0, k1⟩ := hr
        clear hcode UN ho hp hb
        go_wp2_with fail
        exact bodyPost_ret (v := .tuple #[.agg #[.int .i64 0, .slice none 0 0], .int .i64 0, .int .i64 10]) (by simp [results, Tryd.results8, go_sem, y0, y1]) rfl (by obtain ⟨e1, e2, e3, e4⟩ := HN.out hno; rw [e1, e2, e3, e4]; exact ⟨_, rfl, World.ownsRow_nil _ _ _ _, yb⟩)
end

/-! App -/
section
open Go.RowKit

theorem wp_append_at {P : Program} {w : World} {o : Oper} {a : Act} {K : Act → World → Prop} {Q : Exit → Act → World → Prop} (s x : Operand) (t : TypeId)
    (ho : o.op = .call { callee := .builtin .append, args := #[s, x], argTypes := #[t, t] })
    (base : Nat) (e : TypeId) (z : Value) (size bytes : Nat) (ht : P.underlying t = some (.slice e)) (hi : (P.info? e).map (fun i => (i.zero, i.size, i.bytes)) = some (some z, size, bytes))
    (hzs : z.cells.size = size) (hsz : 0 < size)
    (v : Value) (n : Nat) (xs : List Value) (hs : a.eval s = v) (hown : w.ownsRow base e size v n xs)
    (y : Value) (m : Nat) (news : List Value) (hx : a.eval x = y) (hy : Rd w y m news) (hl : news.length = m * size) (h1 : ∀ u ∈ news, u.oneCell' = true)
    (h63 : n + m ≤ maxLen) (hbytes : (n + m) * bytes ≤ 140737488355328) (hbase : base ≤ w.heap.size)
    (h : ∀ v' w', w'.ownsRow base e size v' (n + m) (xs ++ news) → w.grownBy w' v.ownBlock → (v'.ownBlock = v.ownBlock ∨ v'.ownBlock = some w.heap.size) → K (a.put o.dst v') w') : o.wp P a w K Q := by
  obtain ⟨i, hi, hz, hsize, hby⟩ := info_parts hi
  obtain ⟨ao, c, rfl, h2, h3, h0, h4⟩ := hy
  cases ao with
  | none =>
    obtain rfl := h0 rfl
    obtain rfl : m = 0 := by omega
    obtain rfl : news = [] := List.eq_nil_of_length_eq_zero (by simpa using hl)
    have hrun := run_append_owned_none (P := P) (w := w) base t o.type e i size ht hi v n xs hown
    unfold Oper.wp
    simp [execOp, ho, resolve, invoke, builtin, hs, hx, hrun, Result.andThen]
    exact h v w (by simpa using hown) (World.grownBy.refl _ _) (.inl rfl)
  | some ad =>
    have hnews : ∀ (j : Nat) (u : Value), news[j]? = some u → w.cell? (ad.add j) = some u := by
      intro j u hu
      obtain ⟨hj, rfl⟩ := List.getElem?_eq_some_iff.1 hu
      obtain ⟨b, off, e, hlt, hc⟩ := h4 j hj
      obtain rfl := Option.some.inj e
      rw [Addr.add_lit]
      exact hc
    obtain ⟨v', w', hr, r1, r2, _, r4⟩ := run_append_own_at (P := P) w base t o.type e i z size bytes ht hi hz hsize hby hzs hsz v n xs hown ad m c news hl hnews h1 h63 hbytes hbase
    unfold Oper.wp
    simp [execOp, ho, resolve, invoke, builtin, hs, hx, hr, Result.andThen]
    exact h v' w' r1 r2 r4

theorem wpList_append_at {P : Program} {w : World} {ops : Array Oper} {rest : List Oper} {o : Oper} {a : Act} {Q : Exit → Act → World → Prop} (hgd : o.guard = none) (s x : Operand) (t : TypeId)
    (ho : o.op = .call { callee := .builtin .append, args := #[s, x], argTypes := #[t, t] })
    (base : Nat) (e : TypeId) (z : Value) (size bytes : Nat) (ht : P.underlying t = some (.slice e)) (hi : (P.info? e).map (fun i => (i.zero, i.size, i.bytes)) = some (some z, size, bytes))
    (hzs : z.cells.size = size) (hsz : 0 < size)
    (v : Value) (n : Nat) (xs : List Value) (hs : a.eval s = v) (hown : w.ownsRow base e size v n xs)
    (y : Value) (m : Nat) (news : List Value) (hx : a.eval x = y) (hy : Rd w y m news) (hl : news.length = m * size) (h1 : ∀ u ∈ news, u.oneCell' = true)
    (h63 : n + m ≤ maxLen) (hbytes : (n + m) * bytes ≤ 140737488355328) (hbase : base ≤ w.heap.size)
    (h : ∀ v' w', w'.ownsRow base e size v' (n + m) (xs ++ news) → w.grownBy w' v.ownBlock → (v'.ownBlock = v.ownBlock ∨ v'.ownBlock = some w.heap.size) → wpList P ops Q rest (a.put o.dst v') w') : wpList P ops Q (o :: rest) a w :=
  wpList_plain hgd fun _ hK => wp_append_at s x t ho base e z size bytes ht hi hzs hsz v n xs hs hown y m news hx hy hl h1 h63 hbytes hbase fun v' w' h2 h3 h4 => hK _ _ (h v' w' h2 h3 h4)

/-- two values that lie in no common block -/
def Apart (v u : Value) : Prop := ∀ g, v.ownBlock = some g → u.ownBlock ≠ some g
theorem Apart.symm {v u : Value} (h : Apart v u) : Apart u v := fun g hg hv => h g hv hg

/-- what an append onto v leaves of another owned row -/
theorem own_grown {w w' : World} {base : Nat} {e : TypeId} {size n : Nat} {v u : Value} {xs : List Value} (h : w.ownsRow base e size u n xs) (hg : w.grownBy w' v.ownBlock) (ha : Apart v u) : w'.ownsRow base e size u n xs :=
  h.kept hg (by
    cases hu : u.ownBlock with
    | none => exact .inl rfl
    | some g => exact .inr fun e => ha g e.symm hu)
theorem apart_grown {w : World} {base : Nat} {e : TypeId} {size n : Nat} {v v' u : Value} {xs : List Value} (h : w.ownsRow base e size u n xs) (ha : Apart v u) (hat : v'.ownBlock = v.ownBlock ∨ v'.ownBlock = some w.heap.size) : Apart v' u := by
  intro g hg hu
  rcases hat with hat | hat
  · exact ha g (hat ▸ hg) hu
  · rw [hat] at hg
    have := (h.lt g hu).2
    simp at hg; omega

/-- the cells of ints -/
def intsV (l : List Int) : List Value := l.map fun n => Value.int .i64 n
theorem intsV_length (l : List Int) : (intsV l).length = l.length := by simp [intsV]
theorem intsV_append (l m : List Int) : intsV (l ++ m) = intsV l ++ intsV m := by simp [intsV]
theorem intsV_one (l : List Int) : ∀ u ∈ intsV l, u.oneCell' = true := by
  intro u hu
  obtain ⟨c, _, rfl⟩ := List.mem_map.1 hu
  rfl
theorem info_int : (Tryd.prog.info? 3).map (fun i => (i.zero, i.size, i.bytes)) = some (some (.int .i64 0), 1, 8) := by kernel_rfl
def OwnI (w : World) (base : Nat) (v : Value) (l : List Int) : Prop := w.ownsRow base 3 1 v l.length (intsV l)
theorem OwnI.cell {w : World} {base : Nat} {v : Value} {l : List Int} (h : OwnI w base v l) (hl : 0 < l.length) : ∃ g cap, v = .slice (some ⟨g, 0, none⟩) l.length cap ∧ base ≤ g ∧ g < w.heap.size ∧ ∀ i (hi : i < l.length), w.cell? ⟨g, i, none⟩ = some (.int .i64 l[i]) := by
  rcases h.2 with ⟨_, h0⟩ | ⟨g, cap, cur, rfl, hb, hg, _⟩
  · omega
  · refine ⟨g, cap, rfl, hb, (Array.getElem?_eq_some_iff.1 hg).1, fun i hi => ?_⟩
    have := World.ownsRow.cellAt h i (by omega)
    rw [this]
    simp [intsV, hi]
end

/-! StepCall -/
section
open Go.RowKit

/-- A call of a Go function of one argument, as one step of a region that draws. -/
theorem step_go1 {P : Program} {w : World} {ops : Array Oper} {o : Oper} {a : Act} {K : Act → World → Prop} {Q : Exit → Act → World → Prop} {E : Prop} (hgd : o.guard = none) (f : FuncId) (x : Operand) (t : TypeId)
    (ho : o.op = .call { callee := .value (.func f), args := #[x], argTypes := #[t] }) (hent : ∀ (args : Array Value) (w : World), (callFunc f args).run P w = .ok (.enter f args) w) (y : Value) (hx : a.eval x = y)
    {R : Ending → World → Prop} (hc : Calls P f #[y] w R) (h : ∀ e w', R e w' → ∃ v, e = .returned v ∧ K (a.put o.dst v) w') :
    if Region.wanted o (yielded ops a.tmps) = true then Oper.wp P o a w K Q else E := by
  have hw : Region.wanted o (yielded ops a.tmps) = true := by simp [Region.wanted, hgd]
  rw [if_pos hw]
  have hrun : (execOp a.eval o).run P w = .ok (.enter f #[y]) w := by
    simp [execOp, ho, resolve, Deferred.ofValue, invoke, Act.eval, hent]
    simpa [Act.eval] using hx
  unfold Oper.wp
  rw [hrun, Oper.upon_enter]
  exact hc.mono fun e w' hr => by
    obtain ⟨v, rfl, hk⟩ := h e w' hr
    exact hk

/-- An append of bytes as one step, with where the new row lies. -/
theorem step_append_lie {w : World} {ops : Array Oper} {o : Oper} {a : Act} {K : Act → World → Prop} {Q : Exit → Act → World → Prop} {E : Prop} (hgd : o.guard = none) (s x : Operand)
    (ho : o.op = .call { callee := .builtin .append, args := #[s, x], argTypes := #[25, 25] })
    (base : Nat) (v : Value) (l : List UInt8) (hs : a.eval s = v) (hown : Own w base v l) (y : Value) (m : List UInt8) (hx : a.eval x = y) (hy : Byt w y m)
    (h63 : l.length + m.length ≤ 140737488355328) (hbase : base ≤ w.heap.size)
    (h : ∀ v' w', Own w' base v' (l ++ m) → w.grownBy w' v.ownBlock → (v'.ownBlock = v.ownBlock ∨ v'.ownBlock = some w.heap.size) → K (a.put o.dst v') w') : if Region.wanted o (yielded ops a.tmps) = true then Oper.wp Tryd.prog o a w K Q else E := by
  have hw : Region.wanted o (yielded ops a.tmps) = true := by simp [Region.wanted, hgd]
  rw [if_pos hw]
  exact wp_append_at s x 25 ho base 5 _ 1 1 Tryd.underlying25 info_u8 rfl (by decide) v _ _ hs hown y _ _ hx hy (by simp [bytesV]) (bytesV_one _) (by unfold maxLen; omega) (by omega) hbase
    fun v' w' h1 h2 h3 => h v' w' (by unfold Own; rw [bytesV_append, List.length_append]; exact h1) h2 h3
theorem Own.lt {w : World} {base : Nat} {v : Value} {l : List UInt8} (h : Own w base v l) : ∀ g, v.ownBlock = some g → base ≤ g ∧ g < w.heap.size := World.ownsRow.lt h
theorem Own.grown {B : Nat} {w w' : World} {base : Nat} {v : Value} {l : List UInt8} (h : Own w base v l) (hg : w.grownBy w' v.ownBlock) (hB : B ≤ base) (hs : B ≤ w.heap.size) : Below B w w' := below_grown h hg hB hs
theorem ne_lie {b s : Nat} {v u : Value} (h : some b ≠ v.ownBlock) (hlt : b < s) (ha : u.ownBlock = v.ownBlock ∨ u.ownBlock = some s) : some b ≠ u.ownBlock := by
  rcases ha with ha | ha
  · rwa [ha]
  · rw [ha]; intro e; cases e; omega
end

end Go.Proofs.YthcfekabeidmiaaRRDoorR
