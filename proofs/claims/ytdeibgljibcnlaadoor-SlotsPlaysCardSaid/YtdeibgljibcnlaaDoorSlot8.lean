/- Delete. -/
import Derived.Test.YtdeibgljibcnlaaDoorSlot7
import Derived.Test.YtdeibgljibcnlaaDoorReg
import Derived.Deep.LoopGhost
namespace Go.Proofs.YtdeibgljibcnlaaDoor
open Go.RowKit

/-- without the free slots at its end -/
def trimS (st : List SlotL) : List SlotL := (st.reverse.dropWhile Option.isNone).reverse
def delS (st : List SlotL) (i : Nat) : List SlotL := trimS (st.set i none)
theorem trimS_nil : trimS [] = [] := rfl
theorem trimS_none (st : List SlotL) : trimS (st ++ [none]) = trimS st := by simp [trimS]
theorem trimS_some (st : List SlotL) (l : List UInt8) : trimS (st ++ [some l]) = st ++ [some l] := by simp [trimS]
theorem sizeS_none (st : List SlotL) : sizeS st ≤ sizeS (st ++ [none]) := by simp [sizeS, blen]; omega
theorem sizeS_set (st : List SlotL) (i : Nat) : sizeS (st.set i none) ≤ sizeS st := by
  have := sum_set (st.map blen) i 0
  unfold sizeS
  rw [List.length_set, List.map_set, show blen none = 0 from rfl]
  omega

theorem Frm.setRow {base : Nat} {w w' : World} (h : Frm base w w') {g : Nat} {c : Array Value} {m : Nat × Nat} (hp : w'.heap[g]? = some (.cells c 64 m)) (hb : base ≤ g) (j : Nat) (u : Value) : Frm base w (w'.setCell ⟨g, j, none⟩ u) :=
  ⟨h.below.setCell (p := ⟨g, j, none⟩) hb u, fun k c' t m' e h1 h2 => by
    have hk := (h.kept k c' t m' e h1 h2).trans e
    have hne : k ≠ g := fun q => by
      subst q
      rw [hp] at hk
      simp at hk
      exact h1 hk.2.1.symm
    rw [Below.heap_setCell _ _ _ _ (fun q => hne (by simpa using q)), hk, e]⟩
/-- a slot is freed -/
theorem row_clear {w w0 : World} {base p g cap : Nat} {a b c : Value} {r : List SlotV} (h1 : w.heap[p]? = some (.cells #[a, b, c, .slice (some ⟨g, 0, none⟩) r.length cap] 61 (0, 0))) (h2 : RowIs w base (.slice (some ⟨g, 0, none⟩) r.length cap) r) (hf : Frm base w0 w) (k : Nat) :
    ((w.setCell ⟨g, k * 2, none⟩ (.slice none 0 0)).setCell ⟨g, k * 2 + 1, none⟩ (.bool false)).heap[p]? = some (.cells #[a, b, c, .slice (some ⟨g, 0, none⟩) r.length cap] 61 (0, 0)) ∧
    RowIs ((w.setCell ⟨g, k * 2, none⟩ (.slice none 0 0)).setCell ⟨g, k * 2 + 1, none⟩ (.bool false)) base (.slice (some ⟨g, 0, none⟩) r.length cap) (r.set k (.slice none 0 0, none)) ∧
    Frm base w0 ((w.setCell ⟨g, k * 2, none⟩ (.slice none 0 0)).setCell ⟨g, k * 2 + 1, none⟩ (.bool false)) := by
  obtain ⟨q1, q2⟩ := Go.Lib.ownsRow_kind h2.1 g rfl
  obtain ⟨q2, hg⟩ := q2
  have s1 := (World.ownsRow.stored h2.1 (k * 2) (.slice none 0 0)).1
  obtain ⟨q3, q4, hg1⟩ := Go.Lib.ownsRow_kind s1 g rfl
  have hbg := (World.ownsRow.lt h2.1 g rfl).1
  have hne : p ≠ g := fun q => by
    subst q
    rw [hg] at h1
    simp at h1
  refine ⟨?_, ⟨?_, ?_⟩, (hf.setRow hg hbg _ _).setRow hg1 hbg _ _⟩
  · rw [Below.heap_setCell _ _ _ _ (fun q => hne (by simpa using q)), Below.heap_setCell _ _ _ _ (fun q => hne (by simpa using q))]
    exact h1
  · have := OwnR.stored (show OwnR w base (.slice (some ⟨g, 0, none⟩) r.length cap) r from h2.1) k (.slice none 0 0, none)
    unfold OwnR at this
    rw [List.length_set] at this ⊢
    exact this
  · intro x hx
    rcases List.mem_or_eq_of_mem_set hx with hx | rfl
    · exact ((h2.2 x hx).setOther hg (by decide) _ _).setOther hg1 (by decide) _ _
    · exact rfl
/-- the last slot is let go -/
theorem row_pop {w : World} {base g cap : Nat} {r : List SlotV} {x : SlotV} (h : RowIs w base (.slice (some ⟨g, 0, none⟩) (r.length + 1) cap) (r ++ [x])) : RowIs w base (.slice (some ⟨g, 0, none⟩) r.length cap) r := by
  refine ⟨⟨rowV_length r, ?_⟩, fun y hy => h.2 y (List.mem_append_left _ hy)⟩
  rcases h.1.2 with ⟨q, _⟩ | ⟨g', cap', cur, e, hb, hg, hn, hm, hs, ht⟩
  · simp at q
  · simp only [Value.slice.injEq, Option.some.injEq, Addr.mk.injEq, and_true] at e
    obtain ⟨rfl, _, rfl⟩ := e
    rw [List.length_append] at hn ht
    refine .inr ⟨g, cap, cur, rfl, hb, hg, by omega, hm, hs, ?_⟩
    have := congrArg (List.take (r.length * 2)) ht
    rw [List.take_take, rowV_append, List.take_left' (rowV_length r)] at this
    rw [← this]
    congr 1
    omega

theorem free_page {w : World} {p : Nat} {a b c d : Value} {t : TypeId} (h : w.heap[p]? = some (.cells #[a, b, c, d] t (0, 0))) : w.frozen? ⟨p, 3, none⟩ = false := by simp [World.frozen?, h]
theorem bel_drewN {B : Nat} {a w : World} (h : Below B a w) (n : Nat) : Below B a (w.drewN n) := ⟨h.os, h.tape, h.output, h.size, h.block⟩
/-- What the loop of Delete keeps. -/
def DelInv (base p : Nat) (kind id : Int) (w : World) (T : List SlotL) (n : Nat) (wr : World) : Prop :=
  ∃ (r : List SlotV) (g cap : Nat), r.length ≤ n ∧ wr.heap[p]? = some (.cells #[.bool true, .int .i64 kind, .int .i64 id, .slice (some ⟨g, 0, none⟩) r.length cap] 61 (0, 0)) ∧
    RowIs wr base (.slice (some ⟨g, 0, none⟩) r.length cap) r ∧ Frm base w wr ∧ r.length ≤ 60 ∧ sizeS (snds r) ≤ 512 ∧ trimS (snds r) = T

set_option maxHeartbeats 2000000 in
set_option maxRecDepth 100000 in
theorem Delete_has {w : World} {base p : Nat} {kind id : Int} {st : List SlotL} (h : PageS w base p kind id st) (k : Nat) (hk : hasS st k = true) :
    Calls Tryd.prog 17 #[.pointer (some ⟨p, 0, none⟩), .int .i64 k] w (PutRet base p kind id w k 0 st (delS st k)) := by
  have HH := Lib.hid (has_any h k)
  rw [hk] at HH
  obtain ⟨hs, hl, r, rfl, hp⟩ := h
  have hrl : (snds r).length = r.length := by simp [snds]
  unfold hasS at hk
  rw [Bool.and_eq_true, Int.toNat_natCast] at hk
  have hkl : k < r.length := by
    rcases Nat.lt_or_ge k r.length with hk' | hk'
    · exact hk'
    · have := hk.2
      rw [List.getD_eq_getElem?_getD, List.getElem?_eq_none (by omega)] at this
      simp at this
  have hbs := hp.size.1
  have hbp := hp.size.2
  obtain ⟨_, L, h1, h2⟩ := hp
  rcases h2.1.2 with ⟨_, q⟩ | ⟨g, cap, cur, rfl, hbg, hgh, hncap, hcm, _⟩
  · omega
  · have hc3 : w.cell? ⟨p, 3, none⟩ = some (.slice (some ⟨g, 0, none⟩) r.length cap) := by simp [World.cell?, h1]
    have hpl := lt_of_block h1
    obtain ⟨hgl, x0, x1, f0, f1⟩ := OwnR.cells (show OwnR w base _ r from h2.1) k hkl
    unfold maxLen at hcm
    have hne : p ≠ g := fun q => by
      subst q
      rw [hgh] at h1
      simp at h1
    have RC := Lib.hid (row_clear h1 h2 (Frm.of_below (Below.refl _ w) hbs) k)
    have i0 : (0 : Int) ≤ (k : Int) := by omega
    have i1 : (k : Int) < (r.length : Int) := by omega
    have hsz2 := sizeS_set (snds r) k
    have hst : snds (r.set k (.slice none 0 0, none)) = (snds r).set k none := by simp [snds, List.map_set]
    have carry : (w.drew.cell? ⟨g, k * 2, none⟩ = some r[k].1 ∧ w.drew.frozen? ⟨g, k * 2, none⟩ = false ∧ w.drew.cell? ⟨g, k * 2 + 1, none⟩ = some (.bool r[k].2.isSome) ∧ w.drew.frozen? ⟨g, k * 2 + 1, none⟩ = false) ∧ DelInv base p kind id w (delS (snds r) k) r.length ((w.drew.setCell ⟨g, k * 2, none⟩ (.slice none 0 0)).setCell ⟨g, k * 2 + 1, none⟩ (.bool false)) :=
      ⟨⟨x0, f0, x1, f1⟩, by
        obtain ⟨y1, y2, y3⟩ := row_clear (w := w.drew) h1 (h2.below (Below.refl _ _).drew) (Frm.of_below (Below.refl _ w).drew hbs) k
        refine ⟨r.set k (.slice none 0 0, none), g, cap, by simp, by rw [List.length_set]; exact y1, by rw [List.length_set]; exact y2, y3, by simp; omega, by rw [hst]; omega, by rw [hst]; rfl⟩⟩
    clear h1 h2 x0 x1 f0 f1 hk hgh RC hs hsz2 hst
    generalize r[k].1 = old0 at *
    generalize r[k].2.isSome = old1 at *
    go_enter Tryd.func17, Tryd.ntmps17
    go_wp2_with fail
    refine HH.out.mono ?_
    rintro e w1 ⟨rfl, rfl⟩
    go_wp2_with fail
    refine wp_region_noPanic ?_
    refine wp_region_held_drew (S := fun w' => w'.cell? ⟨p, 3, none⟩ = some (.slice (some ⟨g, 0, none⟩) r.length cap)) (by kernel_rfl) (hc3) (fun hHeld => ?_)
    generalize w.drew = D at hHeld carry ⊢
    have k1 := hHeld
    refine wpAnyH_take (i := 0) (oi := ⟨some 11, _, _, _, _, _⟩) (v := ?qv0de) rfl (by kernel_rfl) (by kernel_rfl) (by kernel_rfl) (fun _ _ _ h => h) (Or.inl ⟨by rfl, ?qy0de⟩) hHeld ?qr0de
    case qy0de => (intro w' hSw; go_simp; try with_reducible rfl)
    try simp only [Act.put, List.setIfInBounds_toArray, List.set_cons_zero, List.set_cons_succ]
    refine wpAnyH_take (i := 1) (oi := ⟨some 12, _, _, _, _, _⟩) (v := ?qv1de) rfl (by kernel_rfl) (by kernel_rfl) (by kernel_rfl) (fun _ _ _ h => h) (Or.inl ⟨by rfl, ?qy1de⟩) hHeld ?qr1de
    case qy1de => (intro w' hSw; go_simp; try with_reducible rfl)
    try simp only [Act.put, List.setIfInBounds_toArray, List.set_cons_zero, List.set_cons_succ]
    refine wpAnyH_take (i := 2) (oi := ⟨some 13, _, _, _, _, _⟩) (v := ?qv2de) rfl (by kernel_rfl) (by kernel_rfl) (by kernel_rfl) (fun _ _ _ h => h) (Or.inl ⟨by rfl, ?qy2de⟩) hHeld ?qr2de
    case qy2de => (intro w' hSw; go_simp; try with_reducible rfl)
    try simp only [Act.put, List.setIfInBounds_toArray, List.set_cons_zero, List.set_cons_succ]
    refine wpAnyH_take (i := 3) (oi := ⟨some 14, _, _, _, _, _⟩) (v := ?qv3de) rfl (by kernel_rfl) (by kernel_rfl) (by kernel_rfl) (fun _ _ _ h => h) (Or.inl ⟨by rfl, ?qy3de⟩) hHeld ?qr3de
    case qy3de => (intro w' hSw; have z3 := hSw; go_simp; try with_reducible rfl)
    try simp only [Act.put, List.setIfInBounds_toArray, List.set_cons_zero, List.set_cons_succ]
    refine wpAnyH_take (i := 4) (oi := ⟨some 15, _, _, _, _, _⟩) (v := ?qv4de) rfl (by kernel_rfl) (by kernel_rfl) (by kernel_rfl) (fun _ _ _ h => h) (Or.inl ⟨by rfl, ?qy4de⟩) hHeld ?qr4de
    case qy4de => (intro w' hSw; go_simp; try with_reducible rfl)
    try simp only [Act.put, List.setIfInBounds_toArray, List.set_cons_zero, List.set_cons_succ]
    refine wpAnyH_take (i := 5) (oi := ⟨some 16, _, _, _, _, _⟩) (v := ?qv5de) rfl (by kernel_rfl) (by kernel_rfl) (by kernel_rfl) (fun _ _ _ h => h) (Or.inl ⟨by rfl, ?qy5de⟩) hHeld ?qr5de
    case qy5de => (intro w' hSw; go_simp; try with_reducible rfl)
    try simp only [Act.put, List.setIfInBounds_toArray, List.set_cons_zero, List.set_cons_succ]
    refine wpAnyH_take (i := 6) (oi := ⟨some 17, _, _, _, _, _⟩) (v := ?qv6de) rfl (by kernel_rfl) (by kernel_rfl) (by kernel_rfl) (fun _ _ _ h => h) (Or.inl ⟨by rfl, ?qy6de⟩) hHeld ?qr6de
    case qy6de => (intro w' hSw; go_simp; try with_reducible rfl)
    try simp only [Act.put, List.setIfInBounds_toArray, List.set_cons_zero, List.set_cons_succ]
    refine wpAnyH_take (i := 7) (oi := ⟨some 18, _, _, _, _, _⟩) (v := ?qv7de) rfl (by kernel_rfl) (by kernel_rfl) (by kernel_rfl) (fun _ _ _ h => h) (Or.inl ⟨by rfl, ?qy7de⟩) hHeld ?qr7de
    case qy7de => (intro w' hSw; go_simp; try with_reducible rfl)
    try simp only [Act.put, List.setIfInBounds_toArray, List.set_cons_zero, List.set_cons_succ]
    refine wpAnyH_take (i := 8) (oi := ⟨some 19, _, _, _, _, _⟩) (v := ?qv8de) rfl (by kernel_rfl) (by kernel_rfl) (by kernel_rfl) (fun _ _ _ h => h) (Or.inl ⟨by rfl, ?qy8de⟩) hHeld ?qr8de
    case qy8de => (intro w' hSw; have z3 := hSw; go_simp; try with_reducible rfl)
    try simp only [Act.put, List.setIfInBounds_toArray, List.set_cons_zero, List.set_cons_succ]
    refine wpAnyH_take (i := 9) (oi := ⟨some 20, _, _, _, _, _⟩) (v := ?qv9de) rfl (by kernel_rfl) (by kernel_rfl) (by kernel_rfl) (fun _ _ _ h => h) (Or.inl ⟨by rfl, ?qy9de⟩) hHeld ?qr9de
    case qy9de => (intro w' hSw; go_simp; try with_reducible rfl)
    try simp only [Act.put, List.setIfInBounds_toArray, List.set_cons_zero, List.set_cons_succ]
    refine wpAnyH_take (i := 10) (oi := ⟨some 21, _, _, _, _, _⟩) (v := ?qv10de) rfl (by kernel_rfl) (by kernel_rfl) (by kernel_rfl) (fun _ _ _ h => h) (Or.inl ⟨by rfl, ?qy10de⟩) hHeld ?qr10de
    case qy10de => (intro w' hSw; go_simp; try with_reducible rfl)
    try simp only [Act.put, List.setIfInBounds_toArray, List.set_cons_zero, List.set_cons_succ]
    refine wpAnyH_take (i := 11) (oi := ⟨some 22, _, _, _, _, _⟩) (v := ?qv11de) rfl (by kernel_rfl) (by kernel_rfl) (by kernel_rfl) (fun _ _ _ h => h) (Or.inl ⟨by rfl, ?qy11de⟩) hHeld ?qr11de
    case qy11de => (intro w' hSw; go_simp; try with_reducible rfl)
    try simp only [Act.put, List.setIfInBounds_toArray, List.set_cons_zero, List.set_cons_succ]
    refine wpAnyH_ready (rs := [12]) (by kernel_rfl) (by simp) ?_
    refine AllReadyH.cons (o := ⟨none, _, _, _, _, _⟩) rfl (fun K hK => ?_) AllReadyH.nil
    obtain ⟨⟨y0, y1, y2, y3⟩, yi⟩ := carry
    go_simp
    have e3 : (D.setCell ⟨g, k * 2, none⟩ (.slice none 0 0)).cell? ⟨p, 3, none⟩ = some (.slice (some ⟨g, 0, none⟩) r.length cap) := by rw [World.cell?_setCell_other _ _ _ _ (by simp <;> omega)]; exact k1
    refine hK.out _ _ e3 (fun hHeld => ?_)
    clear hK K
    try simp only [Act.put, List.setIfInBounds_toArray, List.set_cons_zero, List.set_cons_succ]
    refine wpAnyH_take (i := 13) (oi := ⟨some 23, _, _, _, _, _⟩) (v := ?qv13de) rfl (by kernel_rfl) (by kernel_rfl) (by kernel_rfl) (fun _ _ _ h => h) (Or.inl ⟨by rfl, ?qy13de⟩) hHeld ?qr13de
    case qy13de => (intro w' hSw; go_simp; try with_reducible rfl)
    try simp only [Act.put, List.setIfInBounds_toArray, List.set_cons_zero, List.set_cons_succ]
    refine wpAnyH_take (i := 14) (oi := ⟨some 24, _, _, _, _, _⟩) (v := ?qv14de) rfl (by kernel_rfl) (by kernel_rfl) (by kernel_rfl) (fun _ _ _ h => h) (Or.inl ⟨by rfl, ?qy14de⟩) hHeld ?qr14de
    case qy14de => (intro w' hSw; go_simp; try with_reducible rfl)
    try simp only [Act.put, List.setIfInBounds_toArray, List.set_cons_zero, List.set_cons_succ]
    refine wpAnyH_ready (rs := [15]) (by kernel_rfl) (by simp) ?_
    refine AllReadyH.cons (o := ⟨none, _, _, _, _, _⟩) rfl (fun K hK => ?_) AllReadyH.nil
    have y4 : (D.setCell ⟨g, k * 2, none⟩ (.slice none 0 0)).cell? ⟨g, k * 2 + 1, none⟩ = some (.bool old1) := by rw [World.cell?_setCell_other _ _ _ _ (by simp)]; exact y2
    have y5 : (D.setCell ⟨g, k * 2, none⟩ (.slice none 0 0)).frozen? ⟨g, k * 2 + 1, none⟩ = false := by rw [World.frozen?_setCell]; exact y3
    go_simp
    have e4 : ((D.setCell ⟨g, k * 2, none⟩ (.slice none 0 0)).setCell ⟨g, k * 2 + 1, none⟩ (.bool false)).cell? ⟨p, 3, none⟩ = some (.slice (some ⟨g, 0, none⟩) r.length cap) := by rw [World.cell?_setCell_other _ _ _ _ (by simp <;> omega)]; exact e3
    refine hK.out _ _ e4 (fun hHeld => ?_)
    clear hK K
    try simp only [Act.put, List.setIfInBounds_toArray, List.set_cons_zero, List.set_cons_succ]
    refine wpAnyH_done (by kernel_rfl) ?_ _
    refine NoPanic.normal ?_
    have YI := Lib.hid yi
    clear yi y0 y1 y2 y3 y4 y5 e3 e4 k1 hHeld
    go_wp2_with fail
    go_loopg [] r.length (fun n wr => DelInv base p kind id w (delS (snds r) k) n wr)
    case atStart => exact YI.out
    case round =>
      obtain ⟨r1, g1, cap1, hn, hp, hrow, hfrm, hlen, hsz, htr⟩ := hrel
      have c3 : wr.cell? ⟨p, 3, none⟩ = some (.slice (some ⟨g1, 0, none⟩) r1.length cap1) := by simp [World.cell?, hp]
      have hcap1 : cap1 ≤ 9223372036854775807 ∧ r1.length ≤ cap1 := by
        obtain ⟨ao, cc, e, q1, q2, _⟩ := hrow.open
        simp only [Value.slice.injEq, true_and] at e
        unfold maxLen at q2
        omega
      have PF := Lib.hid (show ∀ m, trimS (snds r1) = snds r1 → PageS (wr.drewN m) base p kind id (delS (snds r) k) ∧ Frm base w (wr.drewN m) from fun m h => by
        rw [htr] at h
        exact ⟨PageS.below ⟨by rw [h]; exact hsz, by rw [h]; simpa [snds] using hlen, r1, h.symm, hbp, _, hp, hrow⟩ (bel_drewN (Below.refl _ _) m), hfrm.trans (.of_below (bel_drewN (Below.refl _ _) m) (Nat.le_trans hbs hfrm.below.size))⟩)
      rcases List.eq_nil_or_concat r1 with rfl | ⟨r0, x, rfl⟩
      · have F := Lib.hid (fun m => PF.out m rfl)
        clear PF hrow hfrm htr hsz hn hlen hp
        simp only [List.length_nil] at c3
        go_wp2_with fail
        go_quiet (fail)
        go_wp2_with fail
        go_ret
        exact ⟨_, rfl, rfl, (F.out _).1, (F.out _).2⟩
      · rw [List.concat_eq_append] at *
        obtain ⟨xv, xo⟩ := x
        have hl1 : (r0 ++ [((xv, xo) : SlotV)]).length = r0.length + 1 := by simp
        obtain ⟨hgl1, y0, y1, z0, z1⟩ := OwnR.cells (show OwnR wr base _ _ from hrow.1) r0.length (by simp)
        have hx1 : (r0 ++ [((xv, xo) : SlotV)])[r0.length]'(by simp) = (xv, xo) := by simp
        rw [hx1] at y0 y1
        simp only at y0 y1
        rw [hl1] at c3 hcap1 hn hlen hp hrow
        have e1 : IntKind.i64.wrap (((r0.length + 1 : Nat) : Int) - 1) = (r0.length : Int) := by rw [IntWalk.i64_in _ (by omega)]; omega
        cases xo with
        | some l =>
          have F := Lib.hid (fun m => PF.out m (by simp only [snds, List.map_append, List.map_cons, List.map_nil]; exact trimS_some _ _))
          clear PF hrow hfrm htr hsz hn hp
          simp only [Option.isSome_some] at y1
          go_wp2_with fail
          go_quiet (fail)
          go_wp2_with fail
          go_ret
          exact ⟨_, rfl, rfl, (F.out _).1, (F.out _).2⟩
        | none =>
          have hrow' := row_pop hrow
          simp only [Option.isSome_none] at y1
          clear PF
          go_wp2_with fail
          go_quiet (fail)
          go_wp2_with fail
          have hsn : snds (r0 ++ [((xv, none) : SlotV)]) = snds r0 ++ [none] := by simp only [snds, List.map_append, List.map_cons, List.map_nil]
          rw [hsn] at hsz htr
          rw [trimS_none] at htr
          have hsz0 := sizeS_none (snds r0)
          have hp' : (wr.drewN nq).drew.heap[p]? = some (.cells #[.bool true, .int .i64 kind, .int .i64 id, .slice (some ⟨g1, 0, none⟩) (r0.length + 1) cap1] 61 (0, 0)) := hp
          have hbd : Below wr.heap.size wr (wr.drewN nq).drew := (bel_drewN (Below.refl _ _) nq).drew
          have carry : (wr.drewN nq).drew.frozen? ⟨p, 3, none⟩ = false ∧ DelInv base p kind id w (delS (snds r) k) r0.length ((wr.drewN nq).drew.setCell ⟨p, 3, none⟩ (.slice (some ⟨g1, 0, none⟩) r0.length cap1)) :=
            ⟨free_page hp', r0, g1, cap1, Nat.le_refl _, page_setCell hp', (hrow'.below hbd).setPage hp' 3 _, (hfrm.trans (.of_below hbd (Nat.le_trans hbs hfrm.below.size))).setPage hp' hbp 3 _, by omega, by omega, htr⟩
          have hc3 : (wr.drewN nq).drew.cell? ⟨p, 3, none⟩ = some (.slice (some ⟨g1, 0, none⟩) (r0.length + 1) cap1) := c3
          have e2 : (r0.length : Int).toNat = r0.length := by omega
          have e3 : (0 : Int) ≤ (r0.length : Int) := by omega
          have e4 : (r0.length : Int) ≤ (cap1 : Int) := by omega
          have e6 : (cap1 == 0) = false := by simp; omega
          have e7 : ¬ cap1 = 0 := by omega
          have e5 : IntKind.i64.wrap (r0.length : Int) = (r0.length : Int) := by rw [IntWalk.i64_in _ (by omega)]
          have f3 : wr.frozen? ⟨p, 3, none⟩ = false := free_page hp
          clear hsn hsz htr hsz0 hp hp' hbd hrow hrow' hfrm y0 y1 z0 z1 hx1 hc3
          obtain ⟨y0, yi⟩ := carry
          have YI := Lib.hid yi
          clear yi
          go_region
          go_wp2_with fail
          go_roundg r0.length
          case measure => omega
          case rel => exact YI.out

theorem Delete_any {w : World} {base p : Nat} {kind id : Int} {st : List SlotL} (h : PageS w base p kind id st) (i : Int) :
    Calls Tryd.prog 17 #[.pointer (some ⟨p, 0, none⟩), .int .i64 i] w (PutRet base p kind id w i (if hasS st i = true then 0 else 15) st (delS st i.toNat)) := by
  cases hh : hasS st i with
  | true =>
    have hh' := hh
    unfold hasS at hh'
    rw [Bool.and_eq_true, decide_eq_true_eq] at hh'
    obtain ⟨k, rfl⟩ := Int.eq_ofNat_of_zero_le hh'.1
    rw [if_pos rfl, Int.toNat_natCast]
    exact Delete_has h k hh
  | false =>
    have HH := Lib.hid (has_any h i)
    rw [hh] at HH
    have hbs : base ≤ w.heap.size := by obtain ⟨_, _, r, _, hp⟩ := h; exact hp.size.1
    have FB := Lib.hid (show ∀ w', Below w.heap.size w w' → Frm base w w' from fun w' h => .of_below h hbs)
    have PB := Lib.hid (show ∀ w', Below w.heap.size w w' → PageS w' base p kind id st from fun w' hh => h.below hh)
    have BL := Lib.hid (blame_any i 15 w)
    simp only [Bool.false_eq_true, if_false]
    clear h hh
    go_enter Tryd.func17, Tryd.ntmps17
    go_wp2_with fail
    refine HH.out.mono ?_
    rintro e w1 ⟨rfl, rfl⟩
    go_wp2_with fail
    refine BL.out.mono ?_
    rintro e w2 ⟨u, rfl, hu, b2⟩
    go_wp2_with fail
    go_ret
    exact ⟨_, rfl, hu, PB.out _ b2, FB.out _ b2⟩
end Go.Proofs.YtdeibgljibcnlaaDoor
