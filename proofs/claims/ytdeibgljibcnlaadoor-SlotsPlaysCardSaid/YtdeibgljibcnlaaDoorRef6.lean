/- pergolaref8's page: Insert. -/
import Derived.Test.YtdeibgljibcnlaaDoorRef5
namespace Go.Proofs.YtdeibgljibcnlaaDoor
open Go.RowKit

/-- What the reference's Insert hands back. -/
def RInsRet (B q : Nat) (kind id : Int) (w : World) (b : List UInt8) (st : List SlotL) (e : Ending) (w' : World) : Prop :=
  e = .returned (.tuple #[.int .i64 (ixS st), .int .i64 (putE st (ixS st) b)]) ∧ (∃ r', snds r' = (if putE st (ixS st) b = 0 then putS st (ixS st) b else st) ∧ RefIs w' B q kind id r') ∧ FrmR B w w' ∧ (¬ putE st (ixS st) b = 0 → Below w.heap.size w w')

set_option maxRecDepth 100000 in
set_option maxHeartbeats 4000000 in
theorem RInsert_lt {w : World} {B q : Nat} {kind id : Int} {r : List SlotV} (h : RefIs w B q kind id r) (hl : r.length ≤ 60) (hs : sizeR r ≤ 1000000) (v : Value) (b : List UInt8) (hb : Own w B v b) (hlen : b.length ≤ 1000000)
    (hX : ixS (snds r) < r.length) :
    Calls Tryd.prog 14 #[.pointer (some ⟨q, 0, none⟩), v] w (RInsRet B q kind id w b (snds r)) := by
  have hbs : B ≤ w.heap.size := Nat.le_trans h.1 (Nat.le_of_lt (lt_of_block h.2.choose_spec.choose_spec.1))
  have US := Lib.hid (RUsed_any h hs)
  have HR := Lib.hid h
  have FR := Lib.hid (FrmR.of_below (Below.refl _ w) hbs)
  have hsl : (snds r).length = r.length := by simp [snds]
  have hE := putE_ix (snds r) b
  rw [← sizeR_snds, hsl] at hE
  have hal := fun j (hj : j < ixS (snds r)) => atS_lt_ix (st := snds r) hj
  have hax := atS_ix (snds r)
  obtain ⟨⟨VB, VH, hg⟩, h4⟩ := h.g
  have hat : ∀ j (hj : j < r.length), atS (snds r) j = r[j].2 := fun j hj => by rw [atS_in (by omega)]; simp [snds]
  have HCL := Lib.hid (show ∀ j, j < ixS (snds r) → ∃ g off c, VH = .slice (some ⟨g, off, none⟩) r.length c ∧ c ≤ 9223372036854775807 ∧ w.cell? ⟨g, off + j, none⟩ = some (.bool true) from fun j hj => by
    have hle := ixS_le (snds r)
    have hjl : j < r.length := by omega
    obtain ⟨ah, ch, e1, k1, k2, _, k3⟩ := Rd.of_own hg.2.2.2
    rw [hasV_length] at e1
    obtain ⟨g, off, e2, _, hc⟩ := k3 j (by rw [hasV_length]; exact hjl)
    subst e1 e2
    refine ⟨g, off, ch, rfl, k2, ?_⟩
    rw [hc]
    have := hal j hj
    rw [hat j hjl] at this
    simp [hasV, this])
  have c3 : w.cell? ⟨q, 3, none⟩ = some VH := by simp [World.cell?, hg.2.1]
  have c2 : w.cell? ⟨q, 2, none⟩ = some VB := by simp [World.cell?, hg.2.1]
  have hql := lt_of_block hg.2.1
  obtain ⟨ah, ch, eVH, kh1, kh2, _, kh3⟩ := Rd.of_own hg.2.2.2
  rw [hasV_length] at eVH kh1
  obtain ⟨ab, cb, eVB, kb1, kb2, _, kb3⟩ := Rd.of_own hg.2.2.1
  rw [bytV_length] at eVB kb1
  unfold maxLen at kh2 kb2
  subst eVH eVB
  have hfx : r[ixS (snds r)].2 = none := by rw [← hat _ hX]; exact hax
  obtain ⟨gh0, offh, rfl, _, hcx⟩ := kh3 (ixS (snds r)) (by rw [hasV_length]; exact hX)
  obtain ⟨gb0, offb, rfl, _, hcb⟩ := kb3 (ixS (snds r)) (by rw [bytV_length]; exact hX)
  have cx : w.cell? ⟨gh0, offh + ixS (snds r), none⟩ = some (.bool false) := by rw [hcx]; simp [hasV, hfx]
  have zh : offh = 0 := by
    rcases hg.2.2.2.2 with ⟨q0, _⟩ | ⟨_, _, _, q0, _⟩
    · simp at q0
    · simp only [Value.slice.injEq, Option.some.injEq, Addr.mk.injEq] at q0
      exact q0.1.2.1
  have zb : offb = 0 := by
    rcases hg.2.2.1.2 with ⟨q0, _⟩ | ⟨_, _, _, q0, _⟩
    · simp at q0
    · simp only [Value.slice.injEq, Option.some.injEq, Addr.mk.injEq] at q0
      exact q0.1.2.1
  subst zh zb
  rw [Nat.zero_add] at cx
  have HG := Lib.hid hg
  have H4 := Lib.hid h4
  have hput : ∀ v : Value, ∃ r', snds r' = putS (snds r) (ixS (snds r)) b ∧ r' = r.set (ixS (snds r)) (v, some b) := fun v => ⟨_, by
    unfold putS
    rw [if_pos (by omega)]
    simp [snds, List.map_set], rfl⟩
  have HPUT := Lib.hid hput
  unfold RInsRet
  rw [if_neg (show ¬ ixS (snds r) = r.length by omega), Nat.add_zero] at hE
  generalize ixS (snds r) = X at *
  obtain ⟨av, cv, rfl, _, hcv, _⟩ := (Own.byt hb).open
  unfold maxLen at hcv
  have HB := Lib.hid hb
  have NB : ∃ nb, nb = b.length := ⟨_, rfl⟩
  clear h hal hax hg h4 hat hb kh3 kb3 hput NB hcx hcb hfx
  generalize sizeR r = sz at *
  have hE3 : putE (snds r) X b = 13 ∧ 400 < b.length ∨ putE (snds r) X b = 8 ∧ ¬ 400 < b.length ∧ (512 < sz + b.length ∨ 60 ≤ X) ∨ putE (snds r) X b = 0 ∧ ¬ 400 < b.length ∧ ¬ (512 < sz + b.length ∨ 60 ≤ X) := by
    by_cases h1 : 400 < b.length
    · rw [if_pos h1] at hE
      exact .inl ⟨hE, h1⟩
    · rw [if_neg h1] at hE
      by_cases h2 : 512 < sz + b.length ∨ 60 ≤ X
      · rw [if_pos h2] at hE
        exact .inr (.inl ⟨hE, h1, h2⟩)
      · rw [if_neg h2] at hE
        exact .inr (.inr ⟨hE, h1, h2⟩)
  clear hE
  rcases hE3 with ⟨hE, h1⟩ | ⟨hE, h1, h2⟩ | ⟨hE, h1, h2⟩
  · have t1 : decide ((400 : Int) < (b.length : Int)) = true := by simp; omega
    have t2 := t1
    rw [hE]
    have z : ¬ (13 : Int) = 0 := by omega
    simp only [z, if_false]
    clear hE
    go_enter Tryd.func14, Tryd.ntmps14
    go_wp2_with fail
    go_loopw [6] (fun i wr => ∃ k : Nat, k ≤ X ∧ i = .int .i64 k ∧ wr = w) (fun i _ => X - (intOf i).toNat)
    case atStart => exact ⟨0, Nat.zero_le _, rfl, rfl⟩
    case round =>
      obtain ⟨k, hk, rfl, rfl⟩ := hrel
      by_cases hkx : k < X
      · obtain ⟨g1, off1, c1, e1, hc1, hcl⟩ := HCL.out k hkx
        simp only [Value.slice.injEq, true_and] at e1
        have t3 : decide ((k : Int) < (r.length : Int)) = true := by simp; omega
        have i0 : (0 : Int) ≤ (k : Int) := by omega
        have i1 : (k : Int) < (r.length : Int) := by omega
        obtain ⟨e1, rfl⟩ := e1
        cases e1
        rw [Nat.zero_add] at hcl
        clear t1 t2
        go_wp2_with fail
        go_roundw
        case rel => exact ⟨k + 1, hkx, by go_num, trivial⟩
        case measure => simp [intOf]; omega
      · obtain rfl : k = X := by omega
        have t3 : decide ((k : Int) < (r.length : Int)) = true := by simp; omega
        have i0 : (0 : Int) ≤ (k : Int) := by omega
        have i1 : (k : Int) < (r.length : Int) := by omega
        go_wp2_with fail
        go_ret2
        exact ⟨rfl, ⟨r, rfl, HR.out⟩, FR.out, fun _ => Below.refl _ _⟩
  · by_cases h5 : 512 < sz + b.length
    · have t1 : decide ((400 : Int) < (b.length : Int)) = false := by simp; omega
      have t2 : decide ((512 : Int) < (sz : Int) + (b.length : Int)) = true := by simp; omega
      rw [hE]
      have z : ¬ (8 : Int) = 0 := by omega
      simp only [z, if_false]
      clear hE
      go_enter Tryd.func14, Tryd.ntmps14
      go_wp2_with fail
      go_loopw [6] (fun i wr => ∃ k : Nat, k ≤ X ∧ i = .int .i64 k ∧ wr = w) (fun i _ => X - (intOf i).toNat)
      case atStart => exact ⟨0, Nat.zero_le _, rfl, rfl⟩
      case round =>
        obtain ⟨k, hk, rfl, rfl⟩ := hrel
        by_cases hkx : k < X
        · obtain ⟨g1, off1, c1, e1, hc1, hcl⟩ := HCL.out k hkx
          simp only [Value.slice.injEq, true_and] at e1
          have t3 : decide ((k : Int) < (r.length : Int)) = true := by simp; omega
          have i0 : (0 : Int) ≤ (k : Int) := by omega
          have i1 : (k : Int) < (r.length : Int) := by omega
          obtain ⟨e1, rfl⟩ := e1
          cases e1
          rw [Nat.zero_add] at hcl
          clear t1 t2
          go_wp2_with fail
          go_roundw
          case rel => exact ⟨k + 1, hkx, by go_num, trivial⟩
          case measure => simp [intOf]; omega
        · obtain rfl : k = X := by omega
          have t3 : decide ((k : Int) < (r.length : Int)) = true := by simp; omega
          have i0 : (0 : Int) ≤ (k : Int) := by omega
          have i1 : (k : Int) < (r.length : Int) := by omega
          have t7 : ((k : Int) == (r.length : Int)) = false := by simp; omega
          have t8 : ¬ k = r.length := by omega
          go_wp2_with fail
          refine US.out.mono ?_
          rintro e w1 ⟨rfl, rfl⟩
          go_wp2_with fail
          go_ret2
          exact ⟨rfl, ⟨r, rfl, HR.out⟩, FR.out, fun _ => Below.refl _ _⟩
    · exact absurd h2 (by omega)
  · have t1 : decide ((400 : Int) < (b.length : Int)) = false := by simp; omega
    have t2 : decide ((512 : Int) < (sz : Int) + (b.length : Int)) = false := by simp; omega
    have t22 : decide ((60 : Int) ≤ (X : Int)) = false := by simp; omega
    rw [hE]
    simp only [if_true]
    clear hE
    go_enter Tryd.func14, Tryd.ntmps14
    go_wp2_with fail
    go_loopw [6] (fun i wr => ∃ k : Nat, k ≤ X ∧ i = .int .i64 k ∧ wr = w) (fun i _ => X - (intOf i).toNat)
    case atStart => exact ⟨0, Nat.zero_le _, rfl, rfl⟩
    case round =>
      obtain ⟨k, hk, rfl, rfl⟩ := hrel
      by_cases hkx : k < X
      · obtain ⟨g1, off1, c1, e1, hc1, hcl⟩ := HCL.out k hkx
        simp only [Value.slice.injEq, true_and] at e1
        have t3 : decide ((k : Int) < (r.length : Int)) = true := by simp; omega
        have i0 : (0 : Int) ≤ (k : Int) := by omega
        have i1 : (k : Int) < (r.length : Int) := by omega
        obtain ⟨e1, rfl⟩ := e1
        cases e1
        rw [Nat.zero_add] at hcl
        clear t1 t2
        go_wp2_with fail
        go_roundw
        case rel => exact ⟨k + 1, hkx, by go_num, trivial⟩
        case measure => simp [intOf]; omega
      · obtain rfl : k = X := by omega
        have t3 : decide ((k : Int) < (r.length : Int)) = true := by simp; omega
        have i0 : (0 : Int) ≤ (k : Int) := by omega
        have i1 : (k : Int) < (r.length : Int) := by omega
        have t7 : ((k : Int) == (r.length : Int)) = false := by simp; omega
        have t8 : ¬ k = r.length := by omega
        go_wp2_with fail
        refine US.out.mono ?_
        rintro e w1 ⟨rfl, rfl⟩
        have HGo := HG.out
        obtain ⟨G1, F1⟩ := RefG.setHas HGo (hasV_length r).symm k (.bool true)
        have h9 := HGo.2.2.2
        rw [hasV_length] at h9
        have fx := World.ownsRow.frozenAt h9 k
        clear h9
        have O1 := F1.own (by decide) (by decide) (by decide) (show World.ownsRow _ B 5 1 (.slice av b.length cv) b.length (bytesV b) from HB.out)
        have G4 := Lib.hid G1
        have F4 := Lib.hid F1
        have O4 := Lib.hid (show Own _ B (.slice av b.length cv) b from O1)
        clear HGo G1 F1 O1
        go_wp2_with fail
        generalize World.setCell _ ⟨gh0, k, none⟩ (.bool true) = w4 at *
        have hvl : (bytV r).length = r.length := bytV_length r
        obtain ⟨old, hold⟩ : ∃ old, (bytV r)[k]? = some old := ⟨_, List.getElem?_eq_getElem (by rw [hvl]; omega)⟩
        have bA : ∀ D : World, Below D.heap.size D (D.alloc (.cells #[] 5)) := fun D => (Below.refl _ _).alloc (Nat.le_refl _) _
        have OW0 := Lib.hid (fun D : World => (show Own (D.alloc (.cells #[] 5)) D.heap.size (.slice (some ⟨D.heap.size, 0, none⟩) 0 0) [] from World.ownsRow_lit D #[] 0 (Nat.le_refl _) (by simp [maxLen]) rfl))
        have n2 : q ≠ gb0 := fun e => by
          obtain ⟨_, _, hgb⟩ := Go.Lib.ownsRow_kind G4.out.2.2.1 gb0 rfl
          rw [← e, G4.out.2.1] at hgb
          simp at hgb
        have hb4 : B ≤ w4.heap.size := Nat.le_trans G4.out.1 (Nat.le_of_lt (lt_of_block G4.out.2.1))
        have CE := Lib.hid (fun (w6 : World) (b6 : Below w4.heap.size w4 w6) => (show w6.cell? ⟨q, 2, none⟩ = some (.slice (some ⟨gb0, 0, none⟩) r.length cb) ∧ w6.cell? ⟨gb0, k, none⟩ = some old ∧ w6.frozen? ⟨gb0, k, none⟩ = false from by
          have g6 := G4.out.below b6
          have o6 := g6.2.2.1
          rw [hvl] at o6
          refine ⟨by simp [World.cell?, g6.2.1], ?_, World.ownsRow.frozenAt o6 _⟩
          rw [World.ownsRow.cellAt o6 _ (by omega)]
          exact hold))
        have HB4 := Lib.hid (Own.byt O4.out)
        have c2 := (CE.out w4 (Below.refl _ _)).1
        have carry : Below w4.heap.size w4 w4.drew := (Below.refl _ _).drew
        have j0 : (0 : Int) ≤ (k : Int) := by omega
        have j1 : (k : Int) < ((r.length : Nat) : Int) := by omega
        refine wp_region_noPanic ?_
        refine wp_region_held_drew (S := fun w' => w'.cell? ⟨q, 2, none⟩ = some (.slice (some ⟨gb0, 0, none⟩) (r.length) cb)) (by kernel_rfl) (c2) (fun hHeld => ?_)
        generalize w4.drew = D at hHeld carry ⊢
        have k1 := hHeld
        refine wpAnyH_take (i := 0) (oi := ⟨some 82, _, _, _, _, _⟩) (v := ?qv0il) rfl (by kernel_rfl) (by kernel_rfl) (by kernel_rfl) (fun _ _ _ h => h) (Or.inl ⟨by rfl, ?qy0il⟩) hHeld ?qr0il
        case qy0il => (intro w' hSw; go_simp; try with_reducible rfl)
        try simp only [Act.put, List.setIfInBounds_toArray, List.set_cons_zero, List.set_cons_succ]
        refine wpAnyH_take (i := 1) (oi := ⟨some 83, _, _, _, _, _⟩) (v := ?qv1il) rfl (by kernel_rfl) (by kernel_rfl) (by kernel_rfl) (fun _ _ _ h => h) (Or.inl ⟨by rfl, ?qy1il⟩) hHeld ?qr1il
        case qy1il => (intro w' hSw; go_simp; try with_reducible rfl)
        try simp only [Act.put, List.setIfInBounds_toArray, List.set_cons_zero, List.set_cons_succ]
        refine wpAnyH_take (i := 2) (oi := ⟨some 84, _, _, _, _, _⟩) (v := ?qv2il) rfl (by kernel_rfl) (by kernel_rfl) (by kernel_rfl) (fun _ _ _ h => h) (Or.inl ⟨by rfl, ?qy2il⟩) hHeld ?qr2il
        case qy2il => (intro w' hSw; go_simp; try with_reducible rfl)
        try simp only [Act.put, List.setIfInBounds_toArray, List.set_cons_zero, List.set_cons_succ]
        refine wpAnyH_take (i := 3) (oi := ⟨some 85, _, _, _, _, _⟩) (v := ?qv3il) rfl (by kernel_rfl) (by kernel_rfl) (by kernel_rfl) (fun _ _ _ h => h) (Or.inl ⟨by rfl, ?qy3il⟩) hHeld ?qr3il
        case qy3il => (intro w' hSw; have z2 := hSw; go_simp; try with_reducible rfl)
        try simp only [Act.put, List.setIfInBounds_toArray, List.set_cons_zero, List.set_cons_succ]
        refine wpAnyH_take (i := 4) (oi := ⟨some 86, _, _, _, _, _⟩) (v := ?qv4il) rfl (by kernel_rfl) (by kernel_rfl) (by kernel_rfl) (fun _ _ _ h => h) (Or.inl ⟨by rfl, ?qy4il⟩) hHeld ?qr4il
        case qy4il => (intro w' hSw; go_simp; try with_reducible rfl)
        try simp only [Act.put, List.setIfInBounds_toArray, List.set_cons_zero, List.set_cons_succ]
        refine wpAnyH_take (i := 6) (oi := ⟨some 88, _, _, _, _, _⟩) (v := ?qv6il) rfl (by kernel_rfl) (by kernel_rfl) (by kernel_rfl) (fun _ _ _ h => h) (Or.inl ⟨by rfl, ?qy6il⟩) hHeld ?qr6il
        case qy6il => (intro w' hSw; go_simp; try with_reducible rfl)
        try simp only [Act.put, List.setIfInBounds_toArray, List.set_cons_zero, List.set_cons_succ]
        refine wpAnyH_ready (rs := [5]) (by kernel_rfl) (by simp) ?_
        refine AllReadyH.cons (o := ⟨some 87, _, _, _, _, _⟩) rfl (fun K hK => ?_) AllReadyH.nil
        go_simp
        refine hK.out _ _ ((CE.out _ (carry.trans ((bA D).mono carry.size))).1) (fun hHeld => ?_)
        clear hK K
        try simp only [Act.put, List.setIfInBounds_toArray, List.set_cons_zero, List.set_cons_succ]
        refine wpAnyH_ready (rs := [7]) (by kernel_rfl) (by simp) ?_
        refine AllReadyH.cons (o := ⟨some 89, _, _, _, _, _⟩) rfl (fun K hK => ?_) AllReadyH.nil
        refine step_append_byt rfl (.tmp 87) (.tmp 88) rfl D.heap.size (.slice (some ⟨D.heap.size, 0, none⟩) 0 0) [] rfl (OW0.out D) (.slice av b.length cv) b rfl ((HB4.out.below carry).below (bA D)) (by simp; omega) (by simp) ?_
        intro v6 w6 o6 b6
        rw [List.nil_append] at o6
        have B6 : Below w4.heap.size w4 w6 := carry.trans (((bA D).trans b6).mono carry.size)
        obtain ⟨a6, c6, rfl, _⟩ := Rd.of_own o6
        obtain ⟨y2, y3, y4⟩ := CE.out w6 B6
        refine hK.out _ _ y2 (fun hHeld => ?_)
        clear hK K
        try simp only [Act.put, List.setIfInBounds_toArray, List.set_cons_zero, List.set_cons_succ]
        refine wpAnyH_take (i := 8) (oi := ⟨some 90, _, _, _, _, _⟩) (v := ?qv8il) rfl (by kernel_rfl) (by kernel_rfl) (by kernel_rfl) (fun _ _ _ h => h) (Or.inl ⟨by rfl, ?qy8il⟩) hHeld ?qr8il
        case qy8il => (intro w' hSw; go_simp; try with_reducible rfl)
        try simp only [Act.put, List.setIfInBounds_toArray, List.set_cons_zero, List.set_cons_succ]
        refine wpAnyH_ready (rs := [9]) (by kernel_rfl) (by simp) ?_
        refine AllReadyH.cons (o := ⟨none, _, _, _, _, _⟩) rfl (fun K hK => ?_) AllReadyH.nil
        go_simp
        refine hK.out _ _ ((World.cell?_setCell_far _ _ _ _ (by simpa using n2.symm)).trans y2) (fun hHeld => ?_)
        clear hK K
        try simp only [Act.put, List.setIfInBounds_toArray, List.set_cons_zero, List.set_cons_succ]
        refine wpAnyH_done (by kernel_rfl) ?_ _
        refine NoPanic.normal ?_
        obtain ⟨G7, F7⟩ := RefG.setB (G4.out.below B6) hvl.symm (k) (.slice a6 b.length c6)
        have O6 : Own w6 B (.slice a6 b.length c6) b := own_base o6 (Nat.le_trans hb4 carry.size)
        have O7 := F7.own (by decide) (by decide) (by decide) (show w6.ownsRow B 5 1 _ b.length (bytesV b) from O6)
        have F8 := (F4.out.trans (.of_below B6 hb4)).trans F7
        have ZR := Lib.hid (show ∃ r', snds r' = putS (snds r) k b ∧ RefIs (w6.setCell ⟨gb0, k, none⟩ (.slice a6 b.length c6)) B q kind id r' from by
          obtain ⟨r', hr1, hr2⟩ := HPUT.out (.slice a6 b.length c6)
          refine ⟨r', hr1, RefG.is (VB := .slice (some ⟨gb0, 0, none⟩) (r.length) cb) (VH := .slice (some ⟨gh0, 0, none⟩) r.length ch) ?_ (fun x hx => ?_)⟩
          · subst hr2
            have e1 : bytV (r.set k (.slice a6 b.length c6, some b)) = (bytV r).set k (.slice a6 b.length c6) := by simp [bytV, List.map_set]
            have e2 : hasV (r.set k (.slice a6 b.length c6, some b)) = (hasV r).set k (.bool true) := by simp [hasV, List.map_set]
            rw [e1, e2]
            exact G7
          · subst hr2
            rcases List.mem_or_eq_of_mem_set hx with hx | rfl
            · exact (H4.out x hx).frmR F8
            · exact O7
        )
        have Z3 := Lib.hid F8
        clear F8 G7 F7 O6 O7 hHeld y2 y3 y4 k1 b6 o6
        go_wp2_with fail
        go_ret2
        exact ⟨rfl, ZR.out, Z3.out, fun h => by simp at h⟩

set_option maxRecDepth 100000 in
set_option maxHeartbeats 4000000 in
theorem RInsert_eq {w : World} {B q : Nat} {kind id : Int} {r : List SlotV} (h : RefIs w B q kind id r) (hl : r.length ≤ 60) (hs : sizeR r ≤ 1000000) (v : Value) (b : List UInt8) (hb : Own w B v b) (hlen : b.length ≤ 1000000)
    (hX : ixS (snds r) = r.length) :
    Calls Tryd.prog 14 #[.pointer (some ⟨q, 0, none⟩), v] w (RInsRet B q kind id w b (snds r)) := by
  have hbs : B ≤ w.heap.size := Nat.le_trans h.1 (Nat.le_of_lt (lt_of_block h.2.choose_spec.choose_spec.1))
  have US := Lib.hid (RUsed_any h hs)
  have HR := Lib.hid h
  have FR := Lib.hid (FrmR.of_below (Below.refl _ w) hbs)
  have hsl : (snds r).length = r.length := by simp [snds]
  have hE := putE_ix (snds r) b
  rw [← sizeR_snds, hsl] at hE
  have hal := fun j (hj : j < ixS (snds r)) => atS_lt_ix (st := snds r) hj
  have hax := atS_ix (snds r)
  obtain ⟨⟨VB, VH, hg⟩, h4⟩ := h.g
  have hat : ∀ j (hj : j < r.length), atS (snds r) j = r[j].2 := fun j hj => by rw [atS_in (by omega)]; simp [snds]
  have HCL := Lib.hid (show ∀ j, j < ixS (snds r) → ∃ g off c, VH = .slice (some ⟨g, off, none⟩) r.length c ∧ c ≤ 9223372036854775807 ∧ w.cell? ⟨g, off + j, none⟩ = some (.bool true) from fun j hj => by
    have hle := ixS_le (snds r)
    have hjl : j < r.length := by omega
    obtain ⟨ah, ch, e1, k1, k2, _, k3⟩ := Rd.of_own hg.2.2.2
    rw [hasV_length] at e1
    obtain ⟨g, off, e2, _, hc⟩ := k3 j (by rw [hasV_length]; exact hjl)
    subst e1 e2
    refine ⟨g, off, ch, rfl, k2, ?_⟩
    rw [hc]
    have := hal j hj
    rw [hat j hjl] at this
    simp [hasV, this])
  have c3 : w.cell? ⟨q, 3, none⟩ = some VH := by simp [World.cell?, hg.2.1]
  have c2 : w.cell? ⟨q, 2, none⟩ = some VB := by simp [World.cell?, hg.2.1]
  have hql := lt_of_block hg.2.1
  obtain ⟨ah, ch, eVH, kh1, kh2, _, kh3⟩ := Rd.of_own hg.2.2.2
  rw [hasV_length] at eVH kh1
  obtain ⟨ab, cb, eVB, kb1, kb2, _, kb3⟩ := Rd.of_own hg.2.2.1
  rw [bytV_length] at eVB kb1
  unfold maxLen at kh2 kb2
  subst eVH eVB
  have HG := Lib.hid hg
  have H4 := Lib.hid h4
  have hput : ∀ v : Value, ∃ r', snds r' = putS (snds r) (ixS (snds r)) b ∧ r' = r ++ [(v, some b)] := fun v => ⟨_, by
    unfold putS
    rw [if_neg (by omega)]
    simp [snds], rfl⟩
  have HPUT := Lib.hid hput
  have hX60 : (60 ≤ r.length) = (60 ≤ ixS (snds r)) := by rw [hX]
  rw [hX] at hE HPUT HCL
  unfold RInsRet
  rw [hX]
  rw [if_pos rfl] at hE
  have hk60 : 60 ≤ r.length ↔ 60 ≤ r.length := Iff.rfl
  obtain ⟨av, cv, rfl, _, hcv, _⟩ := (Own.byt hb).open
  unfold maxLen at hcv
  have HB := Lib.hid hb
  have NB : ∃ nb, nb = b.length := ⟨_, rfl⟩
  clear h hal hax hg h4 hat hb kh3 kb3 hput NB
  generalize sizeR r = sz at *
  have hE3 : putE (snds r) r.length b = 13 ∧ 400 < b.length ∨ putE (snds r) r.length b = 8 ∧ ¬ 400 < b.length ∧ (512 < sz + b.length + 4 ∨ 60 ≤ r.length) ∨ putE (snds r) r.length b = 0 ∧ ¬ 400 < b.length ∧ ¬ (512 < sz + b.length + 4 ∨ 60 ≤ r.length) := by
    by_cases h1 : 400 < b.length
    · rw [if_pos h1] at hE
      exact .inl ⟨hE, h1⟩
    · rw [if_neg h1] at hE
      by_cases h2 : 512 < sz + b.length + 4 ∨ 60 ≤ r.length
      · rw [if_pos h2] at hE
        exact .inr (.inl ⟨hE, h1, h2⟩)
      · rw [if_neg h2] at hE
        exact .inr (.inr ⟨hE, h1, h2⟩)
  clear hE
  rcases hE3 with ⟨hE, h1⟩ | ⟨hE, h1, h2⟩ | ⟨hE, h1, h2⟩
  · have t1 : decide ((400 : Int) < (b.length : Int)) = true := by simp; omega
    have t2 := t1
    rw [hE]
    have z : ¬ (13 : Int) = 0 := by omega
    simp only [z, if_false]
    clear hE
    go_enter Tryd.func14, Tryd.ntmps14
    go_wp2_with fail
    go_loopw [6] (fun i wr => ∃ k : Nat, k ≤ r.length ∧ i = .int .i64 k ∧ wr = w) (fun i _ => r.length - (intOf i).toNat)
    case atStart => exact ⟨0, Nat.zero_le _, rfl, rfl⟩
    case round =>
      obtain ⟨k, hk, rfl, rfl⟩ := hrel
      by_cases hkx : k < r.length
      · obtain ⟨g1, off1, c1, e1, hc1, hcl⟩ := HCL.out k hkx
        simp only [Value.slice.injEq, true_and] at e1
        have t3 : decide ((k : Int) < (r.length : Int)) = true := by simp; omega
        have i0 : (0 : Int) ≤ (k : Int) := by omega
        have i1 : (k : Int) < (r.length : Int) := by omega
        obtain ⟨rfl, rfl⟩ := e1
        clear t1 t2
        go_wp2_with fail
        go_roundw
        case rel => exact ⟨k + 1, hkx, by go_num, trivial⟩
        case measure => simp [intOf]; omega
      · obtain rfl : k = r.length := by omega
        have t3 : decide ((r.length : Int) < (r.length : Int)) = false := by simp
        go_wp2_with fail
        go_ret2
        exact ⟨rfl, ⟨r, rfl, HR.out⟩, FR.out, fun _ => Below.refl _ _⟩
  · by_cases h5 : 512 < sz + b.length + 4
    · have t1 : decide ((400 : Int) < (b.length : Int)) = false := by simp; omega
      have t2 : decide ((512 : Int) < (sz : Int) + (b.length : Int) + 4) = true := by simp; omega
      rw [hE]
      have z : ¬ (8 : Int) = 0 := by omega
      simp only [z, if_false]
      clear hE
      go_enter Tryd.func14, Tryd.ntmps14
      go_wp2_with fail
      go_loopw [6] (fun i wr => ∃ k : Nat, k ≤ r.length ∧ i = .int .i64 k ∧ wr = w) (fun i _ => r.length - (intOf i).toNat)
      case atStart => exact ⟨0, Nat.zero_le _, rfl, rfl⟩
      case round =>
        obtain ⟨k, hk, rfl, rfl⟩ := hrel
        by_cases hkx : k < r.length
        · obtain ⟨g1, off1, c1, e1, hc1, hcl⟩ := HCL.out k hkx
          simp only [Value.slice.injEq, true_and] at e1
          have t3 : decide ((k : Int) < (r.length : Int)) = true := by simp; omega
          have i0 : (0 : Int) ≤ (k : Int) := by omega
          have i1 : (k : Int) < (r.length : Int) := by omega
          obtain ⟨rfl, rfl⟩ := e1
          clear t1 t2
          go_wp2_with fail
          go_roundw
          case rel => exact ⟨k + 1, hkx, by go_num, trivial⟩
          case measure => simp [intOf]; omega
        · obtain rfl : k = r.length := by omega
          have t3 : decide ((r.length : Int) < (r.length : Int)) = false := by simp
          go_wp2_with fail
          refine US.out.mono ?_
          rintro e w1 ⟨rfl, rfl⟩
          go_wp2_with fail
          go_ret2
          exact ⟨rfl, ⟨r, rfl, HR.out⟩, FR.out, fun _ => Below.refl _ _⟩
    · have t1 : decide ((400 : Int) < (b.length : Int)) = false := by simp; omega
      have t2 : decide ((512 : Int) < (sz : Int) + (b.length : Int) + 4) = false := by simp; omega
      have t22 : decide ((60 : Int) ≤ (r.length : Int)) = true := by simp; omega
      rw [hE]
      have z : ¬ (8 : Int) = 0 := by omega
      simp only [z, if_false]
      clear hE
      go_enter Tryd.func14, Tryd.ntmps14
      go_wp2_with fail
      go_loopw [6] (fun i wr => ∃ k : Nat, k ≤ r.length ∧ i = .int .i64 k ∧ wr = w) (fun i _ => r.length - (intOf i).toNat)
      case atStart => exact ⟨0, Nat.zero_le _, rfl, rfl⟩
      case round =>
        obtain ⟨k, hk, rfl, rfl⟩ := hrel
        by_cases hkx : k < r.length
        · obtain ⟨g1, off1, c1, e1, hc1, hcl⟩ := HCL.out k hkx
          simp only [Value.slice.injEq, true_and] at e1
          have t3 : decide ((k : Int) < (r.length : Int)) = true := by simp; omega
          have i0 : (0 : Int) ≤ (k : Int) := by omega
          have i1 : (k : Int) < (r.length : Int) := by omega
          obtain ⟨rfl, rfl⟩ := e1
          clear t1 t2
          go_wp2_with fail
          go_roundw
          case rel => exact ⟨k + 1, hkx, by go_num, trivial⟩
          case measure => simp [intOf]; omega
        · obtain rfl : k = r.length := by omega
          have t3 : decide ((r.length : Int) < (r.length : Int)) = false := by simp
          go_wp2_with fail
          refine US.out.mono ?_
          rintro e w1 ⟨rfl, rfl⟩
          go_wp2_with fail
          go_ret2
          exact ⟨rfl, ⟨r, rfl, HR.out⟩, FR.out, fun _ => Below.refl _ _⟩
  · have t1 : decide ((400 : Int) < (b.length : Int)) = false := by simp; omega
    have t2 : decide ((512 : Int) < (sz : Int) + (b.length : Int) + 4) = false := by simp; omega
    have t22 : decide ((60 : Int) ≤ (r.length : Int)) = false := by simp; omega
    rw [hE]
    simp only [if_true]
    clear hE
    go_enter Tryd.func14, Tryd.ntmps14
    go_wp2_with fail
    go_loopw [6] (fun i wr => ∃ k : Nat, k ≤ r.length ∧ i = .int .i64 k ∧ wr = w) (fun i _ => r.length - (intOf i).toNat)
    case atStart => exact ⟨0, Nat.zero_le _, rfl, rfl⟩
    case round =>
      obtain ⟨k, hk, rfl, rfl⟩ := hrel
      by_cases hkx : k < r.length
      · obtain ⟨g1, off1, c1, e1, hc1, hcl⟩ := HCL.out k hkx
        simp only [Value.slice.injEq, true_and] at e1
        have t3 : decide ((k : Int) < (r.length : Int)) = true := by simp; omega
        have i0 : (0 : Int) ≤ (k : Int) := by omega
        have i1 : (k : Int) < (r.length : Int) := by omega
        obtain ⟨rfl, rfl⟩ := e1
        clear t1 t2
        go_wp2_with fail
        go_roundw
        case rel => exact ⟨k + 1, hkx, by go_num, trivial⟩
        case measure => simp [intOf]; omega
      · obtain rfl : k = r.length := by omega
        have t3 : decide ((r.length : Int) < (r.length : Int)) = false := by simp
        go_wp2_with fail
        refine US.out.mono ?_
        rintro e w1 ⟨rfl, rfl⟩
        have bA1 : Below wr.heap.size wr (wr.alloc (.cells #[.bool true] 4)) := (Below.refl _ _).alloc (Nat.le_refl _) _
        have GA := Lib.hid (HG.out.below bA1)
        have LIT1 := Lib.hid (show Rd (wr.alloc (.cells #[.bool true] 4)) (.slice (some ⟨wr.heap.size, 0, none⟩) 1 1) 1 [.bool true] from rd_alloc wr #[.bool true] 4 (0, 0) 1 (by simp [maxLen]))
        have hbA := Nat.le_trans hbs bA1.size
        go_wp2_with (at_builtin; refine wpList_append_fr rfl _ _ 75 4 rfl B _ 1 Tryd.underlying75 info_bool2 rfl (by decide) _ (hasV r).length (hasV r) rfl GA.out.2.2.2 _ (.bool true) rfl LIT1.out rfl (by rw [hasV_length]; omega) hbA ?_)
        intro V3 w5 o5 f5
        obtain ⟨G5, F5, y3, z3⟩ := RefG.appHas GA.out f5 o5
        rw [hasV_length] at o5
        rcases o5.2 with ⟨_, h0⟩ | ⟨gh0, c5, _, rfl, _⟩
        · omega
        have bA2 : Below (w5.setCell ⟨q, 3, none⟩ (.slice (some ⟨gh0, 0, none⟩) (r.length + 1) c5)).heap.size (w5.setCell ⟨q, 3, none⟩ (.slice (some ⟨gh0, 0, none⟩) (r.length + 1) c5)) ((w5.setCell ⟨q, 3, none⟩ (.slice (some ⟨gh0, 0, none⟩) (r.length + 1) c5)).alloc (.cells #[.slice none 0 0] 30)) := (Below.refl _ _).alloc (Nat.le_refl _) _
        have GB := Lib.hid (G5.below bA2)
        have lit2 := rd_alloc (w5.setCell ⟨q, 3, none⟩ (.slice (some ⟨gh0, 0, none⟩) (r.length + 1) c5)) #[.slice none 0 0] 30 (0, 0) 1 (by simp [maxLen])
        rw [show (w5.setCell ⟨q, 3, none⟩ (.slice (some ⟨gh0, 0, none⟩) (r.length + 1) c5)).heap.size = w5.heap.size by simp [World.setCell]] at lit2
        have LIT2 := Lib.hid lit2
        have d2 : (w5.setCell ⟨q, 3, none⟩ (.slice (some ⟨gh0, 0, none⟩) (r.length + 1) c5)).cell? ⟨q, 2, none⟩ = some (.slice ab r.length cb) := by simp [World.cell?, G5.2.1]
        have F5H := Lib.hid ((FrmR.of_below bA1 hbs).trans F5)
        have hb5 : B ≤ ((w5.setCell ⟨q, 3, none⟩ (.slice (some ⟨gh0, 0, none⟩) (r.length + 1) c5)).alloc (.cells #[.slice none 0 0] 30)).heap.size := Nat.le_trans G5.1 (Nat.le_trans (Nat.le_of_lt (lt_of_block G5.2.1)) bA2.size)
        have F5B := Lib.hid (FrmR.of_below bA2 (Nat.le_trans G5.1 (Nat.le_of_lt (lt_of_block G5.2.1))))
        clear lit2 G5 F5 o5 f5 bA1 bA2
        go_wp2_with (at_builtin; refine wpList_append_fr rfl _ _ 74 30 rfl B _ 24 Tryd.underlying74 info_bytes2 rfl (by decide) _ (bytV r).length (bytV r) rfl GB.out.2.2.1 _ (.slice none 0 0) rfl LIT2.out rfl (by rw [bytV_length]; omega) hb5 ?_)
        intro V2 w6 o6 f6
        obtain ⟨G6, F6, y2, z2⟩ := RefG.appB GB.out f6 o6
        rw [bytV_length] at o6
        rcases o6.2 with ⟨_, h0⟩ | ⟨gb0, c6, _, rfl, _⟩
        · omega
        have hhl : (hasV r ++ [Value.bool true]).length = r.length + 1 := by simp [hasV]
        obtain ⟨G8, F8'⟩ := RefG.setHas G6 hhl.symm r.length (.bool true)
        have d3 : (w6.setCell ⟨q, 2, none⟩ (.slice (some ⟨gb0, 0, none⟩) (r.length + 1) c6)).cell? ⟨q, 3, none⟩ = some (.slice (some ⟨gh0, 0, none⟩) (r.length + 1) c5) := by simp [World.cell?, G6.2.1]
        have h9 := G6.2.2.2
        rw [hhl] at h9
        have xh := World.ownsRow.cellAt h9 r.length (by omega)
        rw [show (hasV r ++ [Value.bool true])[r.length]? = some (.bool true) by rw [List.getElem?_append_right (by rw [hasV_length]; omega), hasV_length, Nat.sub_self]; rfl] at xh
        have fh := World.ownsRow.frozenAt h9 r.length
        have F4a := ((F5H.out.trans F5B.out).trans F6).trans F8'
        have O1 := F4a.own (by decide) (by decide) (by decide) (show World.ownsRow _ B 5 1 (.slice av b.length cv) b.length (bytesV b) from HB.out)
        have G4 := Lib.hid G8
        have F4 := Lib.hid F4a
        have O4 := Lib.hid (show Own _ B (.slice av b.length cv) b from O1)
        have l0 : (0 : Int) ≤ (r.length : Int) := by omega
        have l2 : (r.length : Int) < (r.length : Int) + 1 := by omega
        have l1 : (r.length : Int) < ((r.length + 1 : Nat) : Int) := by omega
        clear G6 F6 G8 F8' F4a O1 h9 o6 f6 hb5
        go_wp2_with fail
        generalize World.setCell _ ⟨gh0, r.length, none⟩ (.bool true) = w4 at *
        have hvl : (bytV r ++ [Value.slice none 0 0]).length = r.length + 1 := by simp [bytV]
        obtain ⟨old, hold⟩ : ∃ old, (bytV r ++ [Value.slice none 0 0])[r.length]? = some old := ⟨_, List.getElem?_eq_getElem (by rw [hvl]; omega)⟩
        clear c2
        have bA : ∀ D : World, Below D.heap.size D (D.alloc (.cells #[] 5)) := fun D => (Below.refl _ _).alloc (Nat.le_refl _) _
        have OW0 := Lib.hid (fun D : World => (show Own (D.alloc (.cells #[] 5)) D.heap.size (.slice (some ⟨D.heap.size, 0, none⟩) 0 0) [] from World.ownsRow_lit D #[] 0 (Nat.le_refl _) (by simp [maxLen]) rfl))
        have n2 : q ≠ gb0 := fun e => by
          obtain ⟨_, _, hgb⟩ := Go.Lib.ownsRow_kind G4.out.2.2.1 gb0 rfl
          rw [← e, G4.out.2.1] at hgb
          simp at hgb
        have hb4 : B ≤ w4.heap.size := Nat.le_trans G4.out.1 (Nat.le_of_lt (lt_of_block G4.out.2.1))
        have CE := Lib.hid (fun (w6 : World) (b6 : Below w4.heap.size w4 w6) => (show w6.cell? ⟨q, 2, none⟩ = some (.slice (some ⟨gb0, 0, none⟩) (r.length + 1) c6) ∧ w6.cell? ⟨gb0, r.length, none⟩ = some old ∧ w6.frozen? ⟨gb0, r.length, none⟩ = false from by
          have g6 := G4.out.below b6
          have o6 := g6.2.2.1
          rw [hvl] at o6
          refine ⟨by simp [World.cell?, g6.2.1], ?_, World.ownsRow.frozenAt o6 _⟩
          rw [World.ownsRow.cellAt o6 _ (by omega)]
          exact hold))
        have HB4 := Lib.hid (Own.byt O4.out)
        have c2 := (CE.out w4 (Below.refl _ _)).1
        have carry : Below w4.heap.size w4 w4.drew := (Below.refl _ _).drew
        have j0 : (0 : Int) ≤ (r.length : Int) := by omega
        have j1 : (r.length : Int) < ((r.length + 1 : Nat) : Int) := by omega
        refine wp_region_noPanic ?_
        refine wp_region_held_drew (S := fun w' => w'.cell? ⟨q, 2, none⟩ = some (.slice (some ⟨gb0, 0, none⟩) (r.length + 1) c6)) (by kernel_rfl) (c2) (fun hHeld => ?_)
        generalize w4.drew = D at hHeld carry ⊢
        have k1 := hHeld
        refine wpAnyH_take (i := 0) (oi := ⟨some 82, _, _, _, _, _⟩) (v := ?qv0iq) rfl (by kernel_rfl) (by kernel_rfl) (by kernel_rfl) (fun _ _ _ h => h) (Or.inl ⟨by rfl, ?qy0iq⟩) hHeld ?qr0iq
        case qy0iq => (intro w' hSw; go_simp; try with_reducible rfl)
        try simp only [Act.put, List.setIfInBounds_toArray, List.set_cons_zero, List.set_cons_succ]
        refine wpAnyH_take (i := 1) (oi := ⟨some 83, _, _, _, _, _⟩) (v := ?qv1iq) rfl (by kernel_rfl) (by kernel_rfl) (by kernel_rfl) (fun _ _ _ h => h) (Or.inl ⟨by rfl, ?qy1iq⟩) hHeld ?qr1iq
        case qy1iq => (intro w' hSw; go_simp; try with_reducible rfl)
        try simp only [Act.put, List.setIfInBounds_toArray, List.set_cons_zero, List.set_cons_succ]
        refine wpAnyH_take (i := 2) (oi := ⟨some 84, _, _, _, _, _⟩) (v := ?qv2iq) rfl (by kernel_rfl) (by kernel_rfl) (by kernel_rfl) (fun _ _ _ h => h) (Or.inl ⟨by rfl, ?qy2iq⟩) hHeld ?qr2iq
        case qy2iq => (intro w' hSw; go_simp; try with_reducible rfl)
        try simp only [Act.put, List.setIfInBounds_toArray, List.set_cons_zero, List.set_cons_succ]
        refine wpAnyH_take (i := 3) (oi := ⟨some 85, _, _, _, _, _⟩) (v := ?qv3iq) rfl (by kernel_rfl) (by kernel_rfl) (by kernel_rfl) (fun _ _ _ h => h) (Or.inl ⟨by rfl, ?qy3iq⟩) hHeld ?qr3iq
        case qy3iq => (intro w' hSw; have z2 := hSw; go_simp; try with_reducible rfl)
        try simp only [Act.put, List.setIfInBounds_toArray, List.set_cons_zero, List.set_cons_succ]
        refine wpAnyH_take (i := 4) (oi := ⟨some 86, _, _, _, _, _⟩) (v := ?qv4iq) rfl (by kernel_rfl) (by kernel_rfl) (by kernel_rfl) (fun _ _ _ h => h) (Or.inl ⟨by rfl, ?qy4iq⟩) hHeld ?qr4iq
        case qy4iq => (intro w' hSw; go_simp; try with_reducible rfl)
        try simp only [Act.put, List.setIfInBounds_toArray, List.set_cons_zero, List.set_cons_succ]
        refine wpAnyH_take (i := 6) (oi := ⟨some 88, _, _, _, _, _⟩) (v := ?qv6iq) rfl (by kernel_rfl) (by kernel_rfl) (by kernel_rfl) (fun _ _ _ h => h) (Or.inl ⟨by rfl, ?qy6iq⟩) hHeld ?qr6iq
        case qy6iq => (intro w' hSw; go_simp; try with_reducible rfl)
        try simp only [Act.put, List.setIfInBounds_toArray, List.set_cons_zero, List.set_cons_succ]
        refine wpAnyH_ready (rs := [5]) (by kernel_rfl) (by simp) ?_
        refine AllReadyH.cons (o := ⟨some 87, _, _, _, _, _⟩) rfl (fun K hK => ?_) AllReadyH.nil
        go_simp
        refine hK.out _ _ ((CE.out _ (carry.trans ((bA D).mono carry.size))).1) (fun hHeld => ?_)
        clear hK K
        try simp only [Act.put, List.setIfInBounds_toArray, List.set_cons_zero, List.set_cons_succ]
        refine wpAnyH_ready (rs := [7]) (by kernel_rfl) (by simp) ?_
        refine AllReadyH.cons (o := ⟨some 89, _, _, _, _, _⟩) rfl (fun K hK => ?_) AllReadyH.nil
        refine step_append_byt rfl (.tmp 87) (.tmp 88) rfl D.heap.size (.slice (some ⟨D.heap.size, 0, none⟩) 0 0) [] rfl (OW0.out D) (.slice av b.length cv) b rfl ((HB4.out.below carry).below (bA D)) (by simp; omega) (by simp) ?_
        intro v6 w6 o6 b6
        rw [List.nil_append] at o6
        have B6 : Below w4.heap.size w4 w6 := carry.trans (((bA D).trans b6).mono carry.size)
        obtain ⟨a6, c6', rfl, _⟩ := Rd.of_own o6
        obtain ⟨y2, y3, y4⟩ := CE.out w6 B6
        refine hK.out _ _ y2 (fun hHeld => ?_)
        clear hK K
        try simp only [Act.put, List.setIfInBounds_toArray, List.set_cons_zero, List.set_cons_succ]
        refine wpAnyH_take (i := 8) (oi := ⟨some 90, _, _, _, _, _⟩) (v := ?qv8iq) rfl (by kernel_rfl) (by kernel_rfl) (by kernel_rfl) (fun _ _ _ h => h) (Or.inl ⟨by rfl, ?qy8iq⟩) hHeld ?qr8iq
        case qy8iq => (intro w' hSw; go_simp; try with_reducible rfl)
        try simp only [Act.put, List.setIfInBounds_toArray, List.set_cons_zero, List.set_cons_succ]
        refine wpAnyH_ready (rs := [9]) (by kernel_rfl) (by simp) ?_
        refine AllReadyH.cons (o := ⟨none, _, _, _, _, _⟩) rfl (fun K hK => ?_) AllReadyH.nil
        go_simp
        refine hK.out _ _ ((World.cell?_setCell_far _ _ _ _ (by simpa using n2.symm)).trans y2) (fun hHeld => ?_)
        clear hK K
        try simp only [Act.put, List.setIfInBounds_toArray, List.set_cons_zero, List.set_cons_succ]
        refine wpAnyH_done (by kernel_rfl) ?_ _
        refine NoPanic.normal ?_
        obtain ⟨G7, F7⟩ := RefG.setB (G4.out.below B6) hvl.symm (r.length) (.slice a6 b.length c6')
        have O6 : Own w6 B (.slice a6 b.length c6') b := own_base o6 (Nat.le_trans hb4 carry.size)
        have O7 := F7.own (by decide) (by decide) (by decide) (show w6.ownsRow B 5 1 _ b.length (bytesV b) from O6)
        have F8 := (F4.out.trans (.of_below B6 hb4)).trans F7
        have ZR := Lib.hid (show ∃ r', snds r' = putS (snds r) r.length b ∧ RefIs (w6.setCell ⟨gb0, r.length, none⟩ (.slice a6 b.length c6')) B q kind id r' from by
          obtain ⟨r', hr1, hr2⟩ := HPUT.out (.slice a6 b.length c6')
          refine ⟨r', hr1, RefG.is (VB := .slice (some ⟨gb0, 0, none⟩) (r.length + 1) c6) (VH := .slice (some ⟨gh0, 0, none⟩) (r.length + 1) c5) ?_ (fun x hx => ?_)⟩
          · subst hr2
            have e1 : bytV (r ++ [((Value.slice a6 b.length c6', some b) : SlotV)]) = (bytV r ++ [Value.slice none 0 0]).set r.length (.slice a6 b.length c6') := by
              rw [List.set_append_right _ _ (by rw [bytV_length]; omega), bytV_length, Nat.sub_self]
              simp [bytV]
            have e2 : hasV (r ++ [((Value.slice a6 b.length c6', some b) : SlotV)]) = (hasV r ++ [Value.bool true]).set r.length (.bool true) := by
              rw [List.set_append_right _ _ (by rw [hasV_length]; omega), hasV_length, Nat.sub_self]
              simp [hasV]
            rw [e1, e2]
            exact G7
          · subst hr2
            rcases List.mem_append.1 hx with hx | hx
            · exact (H4.out x hx).frmR F8
            · simp at hx
              subst hx
              exact O7
        )
        have Z3 := Lib.hid F8
        clear F8 G7 F7 O6 O7 hHeld y2 y3 y4 k1 b6 o6
        go_wp2_with fail
        go_ret2
        exact ⟨rfl, ZR.out, Z3.out, fun h => by simp at h⟩

/-- Insert -/
theorem RInsert_any {w : World} {B q : Nat} {kind id : Int} {r : List SlotV} (h : RefIs w B q kind id r) (hl : r.length ≤ 60) (hs : sizeR r ≤ 1000000) (v : Value) (b : List UInt8) (hb : Own w B v b) (hlen : b.length ≤ 1000000) :
    Calls Tryd.prog 14 #[.pointer (some ⟨q, 0, none⟩), v] w (RInsRet B q kind id w b (snds r)) := by
  have hle := ixS_le (snds r)
  have hsl : (snds r).length = r.length := by simp [snds]
  rcases Nat.lt_or_ge (ixS (snds r)) r.length with hX | hX
  · exact RInsert_lt h hl hs v b hb hlen hX
  · exact RInsert_eq h hl hs v b hb hlen (by omega)
end Go.Proofs.YtdeibgljibcnlaaDoor
