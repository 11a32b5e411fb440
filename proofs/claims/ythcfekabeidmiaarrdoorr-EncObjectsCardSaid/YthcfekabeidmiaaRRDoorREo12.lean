/- One call and two new variables, in whatever order a region brings them. ring.Has. (printed by wip/gen_has.py) ring.Twice; ring.Has at any input. Moved together a ring is as before: plain Lean. -/
import Derived.Test.YthcfekabeidmiaaRRDoorREo7
import Derived.Test.YthcfekabeidmiaaRRDoorREo11
set_option linter.unusedSimpArgs false
set_option linter.unusedVariables false
namespace Go.Proofs.YthcfekabeidmiaaRRDoorR
/-! Vars3 -/
section
open Go.RowKit

/-- One call and two new variables, in whatever order. -/
structure VT (W w : World) (b1 b2 b3 : Bool) (u1 u2 u3 v1 : Value) (g2 g3 : Nat) : Prop where
  bel : Below W.heap.size W w
  e1 : b1 = true → u1 = v1
  c2 : b2 = true → u2 = .pointer (some ⟨g2, 0, none⟩) ∧ W.heap.size ≤ g2 ∧ NewV w g2
  c3 : b3 = true → u3 = .pointer (some ⟨g3, 0, none⟩) ∧ W.heap.size ≤ g3 ∧ NewV w g3
  d23 : b2 = true → b3 = true → g2 ≠ g3
theorem VT.grow {W w w' : World} {b1 b2 b3 : Bool} {u1 u2 u3 v1 : Value} {g2 g3 : Nat} (h : VT W w b1 b2 b3 u1 u2 u3 v1 g2 g3) (hb : Below w.heap.size w w') : VT W w' b1 b2 b3 u1 u2 u3 v1 g2 g3 :=
  { bel := h.bel.trans (hb.mono h.bel.size), e1 := h.e1, c2 := fun q => ⟨(h.c2 q).1, (h.c2 q).2.1, (h.c2 q).2.2.below hb⟩, c3 := fun q => ⟨(h.c3 q).1, (h.c3 q).2.1, (h.c3 q).2.2.below hb⟩, d23 := h.d23 }
theorem wpAnyH_vars12 {P : Program} {ops : Array Oper} {Q : Exit → Act → World → Prop} (W : World) (v1 : Value) (act : Value → Value → Value → Act) (lst : Bool → Bool → Bool → Array Bool) (i1 i2 i3 m : Nat)
    (hready : ∀ b1 b2 b3, (b1 && b2 && b3) = false → Region.ready .any ops (lst b1 b2 b3) = (if b1 then [] else [i1]) ++ (if b2 then [] else [i2]) ++ (if b3 then [] else [i3]))
    (hs1 : ∀ b1 b2 b3, (lst b1 b2 b3).setIfInBounds i1 true = lst true b2 b3) (hs2 : ∀ b1 b2 b3, (lst b1 b2 b3).setIfInBounds i2 true = lst b1 true b3) (hs3 : ∀ b1 b2 b3, (lst b1 b2 b3).setIfInBounds i3 true = lst b1 b2 true)
    (hc1 : ∀ u1 u2 u3 w K, Below W.heap.size W w → (∀ w', Below w.heap.size w w' → K (act v1 u2 u3) w') → wpOp P ops Q i1 K (act u1 u2 u3) w)
    (ha2 : ∀ u1 u2 u3 (w : World) K, K (act u1 (.pointer (some ⟨w.heap.size, 0, none⟩)) u3) (w.alloc (.cells #[.int .i64 0, .int .i64 0] 43)) → wpOp P ops Q i2 K (act u1 u2 u3) w)
    (ha3 : ∀ u1 u2 u3 (w : World) K, K (act u1 u2 (.pointer (some ⟨w.heap.size, 0, none⟩))) (w.alloc (.cells #[.int .i64 0, .int .i64 0] 43)) → wpOp P ops Q i3 K (act u1 u2 u3) w)
    (fin : ∀ u1 u2 u3 g2 g3 w, VT W w true true true u1 u2 u3 v1 g2 g3 → wpAnyH P .any ops Q (fun w' => Below W.heap.size W w') m (lst true true true) (act u1 u2 u3) w) :
    ∀ n b1 b2 b3 u1 u2 u3 g2 g3 w, (if b1 then 0 else 1) + (if b2 then 0 else 1) + (if b3 then 0 else 1) = n → VT W w b1 b2 b3 u1 u2 u3 v1 g2 g3 → wpAnyH P .any ops Q (fun w' => Below W.heap.size W w') (n + m) (lst b1 b2 b3) (act u1 u2 u3) w := by
  intro n
  induction n with
  | zero =>
    intro b1 b2 b3 u1 u2 u3 g2 g3 w hn hv
    obtain rfl : b1 = true := by cases b1 <;> simp at hn ⊢
    obtain rfl : b2 = true := by cases b2 <;> simp at hn ⊢
    obtain rfl : b3 = true := by cases b3 <;> simp at hn ⊢
    rw [Nat.zero_add]
    exact fin _ _ _ _ _ w hv
  | succ n ih =>
    intro b1 b2 b3 u1 u2 u3 g2 g3 w hn hv
    have hnt : (b1 && b2 && b3) = false := by
      cases hq : (b1 && b2 && b3) with
      | false => rfl
      | true =>
        simp only [Bool.and_eq_true] at hq
        obtain ⟨⟨rfl, rfl⟩, rfl⟩ := hq
        simp at hn
    rw [show n + 1 + m = (n + m) + 1 by omega]
    refine ⟨fun h0 => ?_, fun i hi => ?_⟩
    · rw [hready _ _ _ hnt] at h0
      exfalso
      clear hv ih hn
      revert h0 hnt
      cases b1 <;> cases b2 <;> cases b3 <;> simp
    · rw [hready _ _ _ hnt] at hi
      simp only [List.mem_append] at hi
      rcases hi with (hi | hi) | hi
      · cases b1 with
        | true => simp at hi
        | false =>
          simp at hi
          subst hi
          refine hc1 _ _ _ _ _ hv.bel fun w' hb => ⟨hv.bel.trans (hb.mono hv.bel.size), ?_⟩
          rw [hs1]
          exact ih _ _ _ _ _ _ _ _ _ (by simp at hn ⊢; omega) { hv.grow hb with e1 := fun _ => rfl }
      · cases b2 with
        | true => simp at hi
        | false =>
          simp at hi
          subst hi
          refine ha2 _ _ _ _ _ ⟨hv.bel.alloc hv.bel.size _, ?_⟩
          rw [hs2]
          exact ih _ _ _ _ _ _ _ _ _ (by simp at hn ⊢; omega) { hv.grow ((Below.refl _ _).alloc (Nat.le_refl _) _) with c2 := fun _ => ⟨rfl, hv.bel.size, newV_alloc w⟩, d23 := fun _ q e => absurd (hv.c3 q).2.2.lt (by omega) }
      · cases b3 with
        | true => simp at hi
        | false =>
          simp at hi
          subst hi
          refine ha3 _ _ _ _ _ ⟨hv.bel.alloc hv.bel.size _, ?_⟩
          rw [hs3]
          exact ih _ _ _ _ _ _ _ _ _ (by simp at hn ⊢; omega) { hv.grow ((Below.refl _ _).alloc (Nat.le_refl _) _) with c3 := fun _ => ⟨rfl, hv.bel.size, newV_alloc w⟩, d23 := fun q _ e => absurd (hv.c2 q).2.2.lt (by omega) }
end

/-! Has -/
section
open Go.RowKit

/-- does a ray from p cross the i-th edge? -/
def crossAt (l : List Pt) (p : Pt) (i : Nat) : Bool :=
  let a := pt l i; let b := pt l ((i + 1) % l.length)
  if b.2 < a.2 then decide (b.2 ≤ p.2) && (decide (p.2 < a.2) && decide (0 < crs b a p))
  else decide (a.2 ≤ p.2) && (decide (p.2 < b.2) && decide (0 < crs a b p))
/-- is the number of crossings of the first k edges odd? -/
def crossTo (l : List Pt) (p : Pt) : Nat → Bool
  | 0 => false
  | k + 1 => if crossAt l p k then !crossTo l p k else crossTo l p k
def hasE (l : List Pt) (p : Pt) : Bool := ringOk l && (okP p && (edgeB l p || crossTo l p l.length))

end

/-! Twice -/
section
open Go.RowKit

/-- twice the area, as a number without a sign -/
def absU (n : Int) : Int := if n < 0 then -n else n
def twiceE (l : List Pt) : Int := if ringOk l then absU (areaV l) else 0
theorem areaV_bd (l : List Pt) : -9223372036854775808 ≤ areaV l ∧ areaV l ≤ 9223372036854775807 := by
  unfold areaV
  simp only [IntKind.wrap, IntKind.bits, IntKind.signed]
  simp
  split <;> omega

theorem twice_val (s : Int) (h1 : -9223372036854775808 ≤ s) (h2 : s ≤ 9223372036854775807) : (s ≤ wrap64 (-s) → IntKind.u64.wrap (wrap64 (-s)) = absU s) ∧ (wrap64 (-s) ≤ s → IntKind.u64.wrap s = absU s) := by
  have e : ∀ x : Int, IntKind.u64.wrap x = x % 18446744073709551616 := fun x => by simp [IntKind.wrap, IntKind.bits, IntKind.signed]
  rw [e, e]
  by_cases hm : s = -9223372036854775808
  · subst hm
    have : wrap64 (-(-9223372036854775808)) = -9223372036854775808 := by simp [wrap64]
    rw [this]
    unfold absU
    simp
  · have : wrap64 (-s) = -s := by simp [wrap64]; omega
    rw [this]
    unfold absU
    split <;> constructor <;> intro h <;> omega
theorem two_cells {w : World} {g : Nat} {a b : Value} (h0 : w.cell? ⟨g, 0, none⟩ = some a) (h1 : w.cell? ⟨g, 1, none⟩ = some b) (f0 : w.frozen? ⟨g, 0, none⟩ = false) (f1 : w.frozen? ⟨g, 1, none⟩ = false) (x y : Value) :
    ((w.setCell ⟨g, 0, none⟩ x).setCell ⟨g, 1, none⟩ y).cell? ⟨g, 0, none⟩ = some x ∧ ((w.setCell ⟨g, 0, none⟩ x).setCell ⟨g, 1, none⟩ y).cell? ⟨g, 1, none⟩ = some y := by
  have ht : w.there g 0 2 := fun j hj => by
    match j, hj with
    | 0, _ => exact ⟨by rw [h0]; rfl, f0⟩
    | 1, _ => exact ⟨by rw [h1]; rfl, f1⟩
  have r := World.rangeAt_setCells_same w g 0 [x, y] ht
  exact ⟨r 0 _ rfl, r 1 _ rfl⟩

end

/-! MoveMath -/
section
theorem anyB_congr {f g : Nat → Bool} {n : Nat} (h : ∀ i, i < n → f i = g i) : anyB f n = anyB g n := by
  cases hg : anyB g n with
  | true =>
    obtain ⟨i, hi, hx⟩ := anyB_get hg
    exact anyB_true hi (by rw [h i hi, hx])
  | false => exact anyB_false fun i hi => by rw [h i hi]; exact anyB_none hg hi

/-- a point that is moved -/
def mv (x y : Int) (p : Pt) : Pt := (p.1 + x, p.2 + y)
theorem crs_mv (x y : Int) (a b c : Pt) : crs (mv x y a) (mv x y b) (mv x y c) = crs a b c := by
  unfold crs mv
  simp only
  rw [show b.1 + x - (a.1 + x) = b.1 - a.1 by omega, show c.2 + y - (a.2 + y) = c.2 - a.2 by omega, show b.2 + y - (a.2 + y) = b.2 - a.2 by omega, show c.1 + x - (a.1 + x) = c.1 - a.1 by omega]
theorem boxB_mv (x y : Int) (a b p : Pt) : boxB (mv x y a) (mv x y b) (mv x y p) = boxB a b p := by
  unfold boxB mv
  exact decide_eq_decide.2 (by simp only; omega)
theorem mv_inj {x y : Int} {a b : Pt} : mv x y a = mv x y b ↔ a = b := by
  constructor
  · intro h
    have h1 := congrArg Prod.fst h
    have h2 := congrArg Prod.snd h
    simp only [mv] at h1 h2
    exact Prod.ext (by omega) (by omega)
  · intro h; rw [h]
theorem onB_mv {x y : Int} {a b p : Pt} (ha : okP a = true) (hb : okP b = true) (hp : okP p = true) (ha' : okP (mv x y a) = true) (hb' : okP (mv x y b) = true) (hp' : okP (mv x y p) = true) :
    onB (mv x y a) (mv x y b) (mv x y p) = onB a b p := by
  unfold onB
  rw [ha, hb, hp, ha', hb', hp', crs_mv, boxB_mv]
theorem properB_mv (x y : Int) (a b c d : Pt) : properB (mv x y a) (mv x y b) (mv x y c) (mv x y d) = properB a b c d := by
  unfold properB
  rw [crs_mv, crs_mv, crs_mv, crs_mv]
theorem pt_map (x y : Int) (l : List Pt) {i : Nat} (h : i < l.length) : pt (l.map (mv x y)) i = mv x y (pt l i) := by
  rw [pt_get _ _ (by rw [List.length_map]; exact h), pt_get _ _ h, List.getElem_map]
theorem spoil_mv {x y : Int} {l : List Pt} (hl : allP l = true) (hm : allP (l.map (mv x y)) = true) {i k : Nat} (hi : i < l.length) (hk : k < l.length) :
    spoilB (l.map (mv x y)) i k = spoilB l i k := by
  have h0 : 0 < l.length := by omega
  have ni : (i + 1) % l.length < l.length := Nat.mod_lt _ h0
  have nk : (k + 1) % l.length < l.length := Nat.mod_lt _ h0
  have ok := fun j (hj : j < l.length) => pt_ok hl hj
  have ok' := fun j (hj : j < l.length) => by
    have := pt_ok hm (i := j) (by rw [List.length_map]; exact hj)
    rw [pt_map x y l hj] at this
    exact this
  unfold spoilB
  simp only [List.length_map]
  rw [pt_map x y l hi, pt_map x y l hk, pt_map x y l ni, pt_map x y l nk]
  have a1 := ok _ hi
  have a2 := ok _ hk
  have a3 := ok _ ni
  have a4 := ok _ nk
  have b1 := ok' _ hi
  have b2 := ok' _ hk
  have b3 := ok' _ ni
  have b4 := ok' _ nk
  by_cases h : pt l i = pt l k
  · rw [if_pos h, if_pos (mv_inj.2 h)]
  · rw [if_neg h, if_neg (fun h' => h (mv_inj.1 h'))]
    by_cases h1 : (i + 1) % l.length = k
    · rw [if_pos h1, if_pos h1, onB_mv a1 a3 a4 b1 b3 b4, onB_mv a2 a4 a1 b2 b4 b1]
    · rw [if_neg h1, if_neg h1]
      by_cases h2 : (k + 1) % l.length = i
      · rw [if_pos h2, if_pos h2, onB_mv a2 a4 a3 b2 b4 b3, onB_mv a1 a3 a2 b1 b3 b2]
      · rw [if_neg h2, if_neg h2]
        unfold meetB
        rw [properB_mv, onB_mv a1 a3 a2 b1 b3 b2, onB_mv a1 a3 a4 b1 b3 b4, onB_mv a2 a4 a1 b2 b4 b1, onB_mv a2 a4 a3 b2 b4 b3]
theorem badI_mv {x y : Int} {l : List Pt} (hl : allP l = true) (hm : allP (l.map (mv x y)) = true) {i : Nat} (hi : i < l.length) : badI (l.map (mv x y)) i = badI l i := by
  unfold badI
  rw [List.length_map]
  exact anyB_congr fun k hk => by rw [spoil_mv hl hm hi hk]
theorem ringEr_mv {x y : Int} {l : List Pt} (hl : allP l = true) (hm : allP (l.map (mv x y)) = true) : ringEr (l.map (mv x y)) = ringEr l := by
  unfold ringEr
  have h1 := first_ok hl
  have h2 := first_ok hm
  rw [h1, h2]
  simp only [List.length_map]
  rw [first_congr (f := badI (l.map (mv x y))) (g := badI l) (n := l.length) (fun i hi _ _ => badI_mv hl hm hi)]
theorem areaTo_mv (x y : Int) (l : List Pt) : ∀ k, k ≤ l.length → areaTo (l.map (mv x y)) k = areaTo l k
  | 0, _ => rfl
  | k + 1, h => by
    unfold areaTo
    rw [areaTo_mv x y l k (by omega), List.length_map, pt_map x y l (by omega), pt_map x y l (by omega), pt_map x y l (Nat.mod_lt _ (by omega)), crs_mv]
theorem areaV_mv (x y : Int) (l : List Pt) : areaV (l.map (mv x y)) = areaV l := by
  unfold areaV
  rw [List.length_map, areaTo_mv x y l _ (Nat.le_refl _)]
theorem ringOk_mv {x y : Int} {l : List Pt} (hl : allP l = true) (hm : allP (l.map (mv x y)) = true) : ringOk (l.map (mv x y)) = ringOk l := by
  unfold ringOk
  rw [ringEr_mv hl hm]
theorem left_mv {x y : Int} {l : List Pt} (hl : allP l = true) (hm : allP (l.map (mv x y)) = true) : leftE (l.map (mv x y)) = leftE l := by
  unfold leftE
  rw [ringOk_mv hl hm, areaV_mv]
theorem twice_mv {x y : Int} {l : List Pt} (hl : allP l = true) (hm : allP (l.map (mv x y)) = true) : twiceE (l.map (mv x y)) = twiceE l := by
  unfold twiceE
  rw [ringOk_mv hl hm, areaV_mv]
theorem edgeB_mv {x y : Int} {l : List Pt} (hl : allP l = true) (hm : allP (l.map (mv x y)) = true) {p : Pt} (hp : okP p = true) (hp' : okP (mv x y p) = true) : edgeB (l.map (mv x y)) (mv x y p) = edgeB l p := by
  unfold edgeB
  rw [List.length_map]
  refine anyB_congr fun i hi => ?_
  have ni : (i + 1) % l.length < l.length := Nat.mod_lt _ (by omega)
  have b1 := pt_ok hm (i := i) (by rw [List.length_map]; exact hi)
  have b2 := pt_ok hm (i := (i + 1) % l.length) (by rw [List.length_map]; exact ni)
  rw [pt_map x y l hi] at b1
  rw [pt_map x y l ni] at b2
  unfold edgeAt
  rw [List.length_map, pt_map x y l hi, pt_map x y l ni, onB_mv (pt_ok hl hi) (pt_ok hl ni) hp b1 b2 hp']
theorem crossAt_mv (x y : Int) {l : List Pt} {p : Pt} {i : Nat} (hi : i < l.length) : crossAt (l.map (mv x y)) (mv x y p) i = crossAt l p i := by
  have ni : (i + 1) % l.length < l.length := Nat.mod_lt _ (by omega)
  unfold crossAt
  simp only [List.length_map]
  rw [pt_map x y l hi, pt_map x y l ni, crs_mv, crs_mv]
  have e1 : ((mv x y (pt l ((i + 1) % l.length))).2 < (mv x y (pt l i)).2) ↔ (pt l ((i + 1) % l.length)).2 < (pt l i).2 := by unfold mv; simp only; omega
  have e2 : ∀ a b : Pt, decide ((mv x y a).2 ≤ (mv x y b).2) = decide (a.2 ≤ b.2) := fun a b => decide_eq_decide.2 (by unfold mv; simp only; omega)
  have e3 : ∀ a b : Pt, decide ((mv x y a).2 < (mv x y b).2) = decide (a.2 < b.2) := fun a b => decide_eq_decide.2 (by unfold mv; simp only; omega)
  rw [e2, e2, e3, e3]
  by_cases h : (pt l ((i + 1) % l.length)).2 < (pt l i).2
  · rw [if_pos h, if_pos (e1.2 h)]
  · rw [if_neg h, if_neg (fun h' => h (e1.1 h'))]
theorem crossTo_mv (x y : Int) {l : List Pt} {p : Pt} : ∀ k, k ≤ l.length → crossTo (l.map (mv x y)) (mv x y p) k = crossTo l p k
  | 0, _ => rfl
  | k + 1, h => by
    unfold crossTo
    rw [crossTo_mv x y k (by omega), crossAt_mv x y (by omega)]
theorem has_mv {x y : Int} {l : List Pt} (hl : allP l = true) (hm : allP (l.map (mv x y)) = true) {p : Pt} (hp : okP p = true) (hp' : okP (mv x y p) = true) : hasE (l.map (mv x y)) (mv x y p) = hasE l p := by
  unfold hasE
  rw [ringOk_mv hl hm, hp, hp', edgeB_mv hl hm hp hp', List.length_map, crossTo_mv x y _ (Nat.le_refl _)]
end

end Go.Proofs.YthcfekabeidmiaaRRDoorR
