/- put, Insert; what a page is, its bytes alone. -/
import Derived.Test.YtdeibgljibcnlaaDoorSlot4
namespace Go.Proofs.YtdeibgljibcnlaaDoor
open Go.RowKit

abbrev SlotL := Option (List UInt8)
def sizeS (st : List SlotL) : Nat := 16 + 4 * st.length + (st.map blen).sum
def putS (st : List SlotL) (i : Nat) (b : List UInt8) : List SlotL := if i < st.length then st.set i (some b) else st ++ [some b]
def ixS (st : List SlotL) : Nat := st.findIdx Option.isNone
/-- why bytes are not put; 0: they are -/
def putE (st : List SlotL) (i : Nat) (b : List UInt8) : Int := if 400 < b.length then 13 else if 60 ≤ i then 8 else if 512 < sizeS (putS st i b) then 8 else 0
def snds (r : List SlotV) : List SlotL := r.map Prod.snd
theorem sizeR_snds (r : List SlotV) : sizeR r = sizeS (snds r) := by simp [sizeR, sizeS, sumR, snds, Function.comp_def]
theorem putR_snds (r : List SlotV) (i : Nat) (v : Value) (b : List UInt8) : snds (putR r i (v, some b)) = putS (snds r) i b := by
  unfold putR putS snds
  rw [List.length_map]
  by_cases h : i < r.length
  · rw [if_pos h, if_pos h, List.map_set]
  · rw [if_neg h, if_neg h, List.map_append]; rfl
theorem ixR_snds (r : List SlotV) : ixR r = ixS (snds r) := by
  unfold ixR ixS snds
  rw [List.findIdx_map]; rfl
theorem ixS_le (st : List SlotL) : ixS st ≤ st.length := List.findIdx_le_length
theorem putS_length (st : List SlotL) (i : Nat) (b : List UInt8) (hi : i ≤ st.length) : (putS st i b).length ≤ st.length + 1 ∧ (i < 60 → st.length ≤ 60 → (putS st i b).length ≤ 60) := by
  unfold putS
  by_cases h : i < st.length
  · rw [if_pos h, List.length_set]; omega
  · rw [if_neg h, List.length_append]; simp; omega
theorem sum_set : ∀ (l : List Nat) (i x : Nat), (l.set i x).sum ≤ l.sum + x
  | [], _, _ => by simp
  | y :: l, 0, x => by simp; omega
  | y :: l, i + 1, x => by
    have ih := sum_set l i x
    simp [List.set_cons_succ]; omega
theorem putS_size (st : List SlotL) (i : Nat) (b : List UInt8) : sizeS (putS st i b) ≤ sizeS st + 4 + b.length := by
  unfold putS
  by_cases h : i < st.length
  · rw [if_pos h]
    have := sum_set (st.map blen) i b.length
    unfold sizeS
    rw [List.length_set, List.map_set, show blen (some b) = b.length from rfl]
    omega
  · rw [if_neg h]
    unfold sizeS
    rw [List.length_append, List.map_append, List.sum_append]
    simp [blen]; omega

/-- In world w the page at block p has these slots. -/
def PageS (w : World) (base : Nat) (p : Nat) (kind id : Int) (st : List SlotL) : Prop :=
  sizeS st ≤ 512 ∧ st.length ≤ 60 ∧ ∃ r, snds r = st ∧ PageIs w base p kind id r

/-- What is of no page, and is there, stays. -/
structure Frm (base : Nat) (w w' : World) : Prop where
  below : Below base w w'
  kept : ∀ (k : Nat) (c : Array Value) (t : TypeId) (m : Nat × Nat), w.heap[k]? = some (.cells c t m) → t ≠ 64 → t ≠ 61 → w'.heap[k]? = w.heap[k]?
theorem Frm.of_below {base : Nat} {w w' : World} (h : Below w.heap.size w w') (hb : base ≤ w.heap.size) : Frm base w w' :=
  ⟨h.mono hb, fun k _ _ _ e _ _ => h.block k (lt_of_block e)⟩
theorem Frm.trans {base : Nat} {w w' w'' : World} (h : Frm base w w') (h' : Frm base w' w'') : Frm base w w'' :=
  ⟨h.below.trans h'.below, fun k c t m e h1 h2 => (h'.kept k c t m ((h.kept k c t m e h1 h2).trans e) h1 h2).trans (h.kept k c t m e h1 h2)⟩
theorem Frm.own {base : Nat} {w w' : World} (h : Frm base w w') {b s n : Nat} {e : TypeId} {v : Value} {xs : List Value} (h1 : e ≠ 64) (h2 : e ≠ 61) (ho : w.ownsRow b e s v n xs) : w'.ownsRow b e s v n xs := by
  refine ⟨ho.1, ?_⟩
  rcases ho.2 with hn | ⟨g, cap, cur, rfl, hbg, hg, q⟩
  · exact .inl hn
  · exact .inr ⟨g, cap, cur, rfl, hbg, (h.kept _ _ _ _ hg h1 h2).trans hg, q⟩

theorem SlotIs.below {w w' : World} {base : Nat} {x : SlotV} (h : SlotIs w base x) (hb : Below w.heap.size w w') : SlotIs w' base x := by
  obtain ⟨v, o⟩ := x
  cases o with
  | none => exact h
  | some l => exact own_below' (show Own w base v l from h) hb
theorem RowIs.below {w w' : World} {base : Nat} {L : Value} {r : List SlotV} (h : RowIs w base L r) (hb : Below w.heap.size w w') : RowIs w' base L r :=
  ⟨own_below' h.1 hb, fun x hx => (h.2 x hx).below hb⟩
theorem PageIs.below {w w' : World} {base p : Nat} {kind id : Int} {r : List SlotV} (h : PageIs w base p kind id r) (hb : Below w.heap.size w w') : PageIs w' base p kind id r := by
  obtain ⟨h0, L, h1, h2⟩ := h
  exact ⟨h0, L, (hb.block _ (lt_of_block h1)).trans h1, h2.below hb⟩
theorem PageS.below {w w' : World} {base p : Nat} {kind id : Int} {st : List SlotL} (h : PageS w base p kind id st) (hb : Below w.heap.size w w') : PageS w' base p kind id st := by
  obtain ⟨h0, h1, r, h2, h3⟩ := h
  exact ⟨h0, h1, r, h2, h3.below hb⟩
theorem PageIs.size {w : World} {base p : Nat} {kind id : Int} {r : List SlotV} (h : PageIs w base p kind id r) : base ≤ w.heap.size ∧ base ≤ p := by
  obtain ⟨h0, L, h1, _⟩ := h
  have := lt_of_block h1
  omega
/-- a cell of a block of another type is written -/
theorem SlotIs.setOther {w : World} {base : Nat} {x : SlotV} (h : SlotIs w base x) {p : Nat} {c : Array Value} {t : TypeId} {m : Nat × Nat} (hp : w.heap[p]? = some (.cells c t m)) (ht : t ≠ 5) (j : Nat) (u : Value) : SlotIs (w.setCell ⟨p, j, none⟩ u) base x := by
  obtain ⟨v, o⟩ := x
  cases o with
  | none => exact h
  | some l =>
    refine ownsRow_setCell_other (show Own w base v l from h) (fun q => ?_) u
    obtain ⟨c', fz, h2⟩ := Go.Lib.ownsRow_kind (show Own w base v l from h) p q
    rw [hp] at h2
    simp at h2
    exact ht h2.2.1
theorem RowIs.setPage {w : World} {base : Nat} {L : Value} {r : List SlotV} (h : RowIs w base L r) {p : Nat} {c : Array Value} {m : Nat × Nat} (hp : w.heap[p]? = some (.cells c 61 m)) (j : Nat) (u : Value) : RowIs (w.setCell ⟨p, j, none⟩ u) base L r := by
  refine ⟨ownsRow_setCell_other h.1 (fun q => ?_) u, fun x hx => (h.2 x hx).setOther hp (by decide) j u⟩
  obtain ⟨c', fz, h2⟩ := Go.Lib.ownsRow_kind h.1 p q
  rw [hp] at h2
  simp at h2
theorem page_setCell {w : World} {p : Nat} {a b c d x : Value} {t : TypeId} (h : w.heap[p]? = some (.cells #[a, b, c, d] t (0, 0))) : (w.setCell ⟨p, 3, none⟩ x).heap[p]? = some (.cells #[a, b, c, x] t (0, 0)) := by
  have hlt := lt_of_block h
  have h' : w.heap[p] = .cells #[a, b, c, d] t (0, 0) := by simpa [Array.getElem?_eq_getElem hlt] using h
  show (w.heap.modify p _)[p]? = _
  rw [Array.getElem?_eq_getElem (by simpa using hlt), Array.getElem_modify_self, h']
  rfl
theorem Frm.setPage {base : Nat} {w w' : World} (h : Frm base w w') {p : Nat} {c : Array Value} {m : Nat × Nat} (hp : w'.heap[p]? = some (.cells c 61 m)) (hb : base ≤ p) (j : Nat) (u : Value) : Frm base w (w'.setCell ⟨p, j, none⟩ u) :=
  ⟨h.below.setCell (p := ⟨p, j, none⟩) hb u, fun k c' t m' e h1 h2 => by
    have hk := (h.kept k c' t m' e h1 h2).trans e
    have hne : k ≠ p := fun q => by
      subst q
      rw [hp] at hk
      simp at hk
      exact h2 hk.2.1.symm
    rw [Below.heap_setCell _ _ _ _ (fun q => hne (by simpa using q)), hk, e]⟩

def strPage : ByteArray := ⟨#[112, 97, 103, 101]⟩
def erOf (i : Int) (k : Int) : Er := if k = 0 then .none else .fault strPage i (.num k)

/-- What a call that may change a page hands back. -/
def PutRet (base p : Nat) (kind id : Int) (w : World) (i : Int) (k : Int) (st st' : List SlotL) (e : Ending) (w' : World) : Prop :=
  ∃ u, e = .returned u ∧ (erOf i k).Is w' u ∧ PageS w' base p kind id (if k = 0 then st' else st) ∧ Frm base w w'

set_option maxHeartbeats 1000000 in
theorem put_any {w : World} {base p : Nat} {kind id : Int} {st : List SlotL} (h : PageS w base p kind id st) (i : Nat) (hi : i ≤ st.length) (v : Value) (b : List UInt8) (hb : Byt w v b) (hlen : b.length ≤ 1000000) :
    Calls Tryd.prog 27 #[.pointer (some ⟨p, 0, none⟩), .int .i64 i, v] w (PutRet base p kind id w i (putE st i b) st (putS st i b)) := by
  obtain ⟨hs, hl, r, rfl, hp⟩ := h
  obtain ⟨ao, c, h1, h2⟩ := hp.row
  have hbs := hp.size.1
  have hbp := hp.size.2
  have G := Lib.hid (gone_page h1)
  have c3 : w.cell? ⟨p, 3, none⟩ = some (.slice ao r.length c) := by simp [World.cell?, h1]
  have hpl := lt_of_block h1
  have hrl : (snds r).length = r.length := by simp [snds]
  have BL := Lib.hid (fun (k : Int) w' => blame_any i k w')
  have PB := Lib.hid (show ∀ w', Below w.heap.size w w' → PageS w' base p kind id (snds r) from fun w' h => ⟨hs, hl, r, rfl, hp.below h⟩)
  have FB := Lib.hid (show ∀ w', Below w.heap.size w w' → Frm base w w' from fun w' h => .of_below h hbs)
  obtain ⟨av, cv, rfl, _⟩ := hb.open
  by_cases h400 : 400 < b.length
  · have HE := Lib.hid (show putE (snds r) i b = 13 by unfold putE; rw [if_pos h400])
    have t1 : decide ((400 : Int) < (b.length : Int)) = true := by simp; omega
    rw [HE.out]
    clear h1 h2 hp c3 hb
    go_enter Tryd.func27, Tryd.ntmps27
    go_wp2_with fail
    refine (BL.out _ _).mono ?_
    rintro e w1 ⟨u, rfl, hu, b1⟩
    go_wp2_with fail
    go_ret
    exact ⟨_, rfl, hu, PB.out _ b1, FB.out _ b1⟩
  · have t1 : decide ((400 : Int) < (b.length : Int)) = false := by simp; omega
    by_cases h60 : 60 ≤ i
    · have HE := Lib.hid (show putE (snds r) i b = 8 by unfold putE; rw [if_neg h400, if_pos h60])
      have t2 : decide ((60 : Int) ≤ (i : Int)) = true := by simp; omega
      rw [HE.out]
      clear h1 h2 hp c3 hb
      go_enter Tryd.func27, Tryd.ntmps27
      go_wp2_with fail
      refine G.out.mono ?_
      rintro e w1 ⟨rfl, rfl⟩
      go_wp2_with fail
      refine (BL.out _ _).mono ?_
      rintro e w1 ⟨u, rfl, hu, b1⟩
      go_wp2_with fail
      go_ret
      exact ⟨_, rfl, hu, PB.out _ b1, FB.out _ b1⟩
    · have t2 : decide ((60 : Int) ≤ (i : Int)) = false := by simp; omega
      have W := Lib.hid (with_any h2 i (by omega) _ b hb hlen (by omega))
      have HX := Lib.hid (show ∀ w1 L' v', Below w.heap.size w w1 → OwnR w1 w.heap.size L' (putR r i (v', some b)) → Own w1 w.heap.size v' b → RowIs w1 base L' (putR r i (v', some b)) from fun w1 L' v' hb1 q1 q2 => by
        refine ⟨own_base q1 hbs, fun x hx => ?_⟩
        have hx' : x ∈ r ∨ x = (v', some b) := by
          unfold putR at hx
          split at hx
          · exact List.mem_or_eq_of_mem_set hx
          · simpa using hx
        rcases hx' with hx' | rfl
        · exact (h2.2 x hx').below hb1
        · exact own_base q2 hbs)
      have hsz := putS_size (snds r) i b
      have HP1 := Lib.hid h1
      clear h2 hb h1
      by_cases h512 : 512 < sizeS (putS (snds r) i b)
      · have HE := Lib.hid (show putE (snds r) i b = 8 by unfold putE; rw [if_neg h400, if_neg h60, if_pos h512])
        have t3 : decide ((512 : Int) < (sizeS (putS (snds r) i b) : Int)) = true := by simp; omega
        rw [HE.out]
        clear hp
        go_enter Tryd.func27, Tryd.ntmps27
        go_wp2_with fail
        refine G.out.mono ?_
        rintro e w1 ⟨rfl, rfl⟩
        go_wp2_with fail
        refine W.out.mono ?_
        rintro e w1 ⟨L', v', rfl, q1, q2, b1⟩
        have US := used_any (HX.out _ _ _ b1 q1 q2) (by rw [sizeR_snds, putR_snds]; omega)
        rw [sizeR_snds, putR_snds] at US
        go_wp2_with fail
        refine US.mono ?_
        rintro e w2 ⟨rfl, b2⟩
        have B2 := b1.trans (b2.mono b1.size)
        go_wp2_with fail
        refine (BL.out _ _).mono ?_
        rintro e w3 ⟨u, rfl, hu, b3⟩
        have B3 := B2.trans (b3.mono B2.size)
        go_wp2_with fail
        go_ret
        exact ⟨_, rfl, hu, PB.out _ B3, FB.out _ B3⟩
      · have HE := Lib.hid (show putE (snds r) i b = 0 by unfold putE; rw [if_neg h400, if_neg h60, if_neg h512])
        have t3 : decide ((512 : Int) < (sizeS (putS (snds r) i b) : Int)) = false := by simp; omega
        have hpl2 := (putS_length (snds r) i b (by omega)).2 (by omega) (by omega)
        rw [HE.out]
        clear hp
        go_enter Tryd.func27, Tryd.ntmps27
        go_wp2_with fail
        refine G.out.mono ?_
        rintro e w1 ⟨rfl, rfl⟩
        go_wp2_with fail
        refine W.out.mono ?_
        rintro e w1 ⟨L', v', rfl, q1, q2, b1⟩
        obtain ⟨al, cl, rfl⟩ := q1.form
        have RW := HX.out _ _ _ b1 q1 q2
        have US := used_any RW (by rw [sizeR_snds, putR_snds]; omega)
        rw [sizeR_snds, putR_snds] at US
        clear q1 q2
        go_wp2_with fail
        refine US.mono ?_
        rintro e w2 ⟨rfl, b2⟩
        have B2 := b1.trans (b2.mono b1.size)
        have RW2 := RW.below b2
        have hp2 := (B2.block p hpl).trans HP1.out
        have d3 : w2.cell? ⟨p, 3, none⟩ = some (.slice ao r.length c) := by simp [World.cell?, hp2]
        have f3 : w2.frozen? ⟨p, 3, none⟩ = false := by simp [World.frozen?, hp2]
        have PF := Lib.hid (show PageS (w2.setCell ⟨p, 3, none⟩ (.slice al (putR r i (v', some b)).length cl)) base p kind id (putS (snds r) i b) from
          ⟨by omega, hpl2, _, putR_snds r i v' b, hbp, _, page_setCell hp2, RW2.setPage hp2 3 _⟩)
        have FF := Lib.hid ((FB.out _ B2).setPage hp2 hbp 3 (.slice al (putR r i (v', some b)).length cl))
        clear RW US RW2 hp2 b2 c3
        go_wp2_with fail
        go_ret
        exact ⟨_, rfl, rfl, PF.out, FF.out⟩
end Go.Proofs.YtdeibgljibcnlaaDoor
