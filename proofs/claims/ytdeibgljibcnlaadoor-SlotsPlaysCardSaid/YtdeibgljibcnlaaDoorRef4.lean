/- pergolaref8's page: Set. -/
import Derived.Test.YtdeibgljibcnlaaDoorRef3
namespace Go.Proofs.YtdeibgljibcnlaaDoor
open Go.RowKit

theorem sum_set_eq : ∀ (l : List Nat) (i x : Nat) (h : i < l.length), (l.set i x).sum + l[i] = l.sum + x
  | y :: l, 0, x, _ => by simp; omega
  | y :: l, i + 1, x, h => by
    have ih := sum_set_eq l i x (by simpa using h)
    simp [List.set_cons_succ]; omega
theorem sizeS_put {st : List SlotL} {k : Nat} (hk : k < st.length) (b : List UInt8) : sizeS (putS st k b) + blen st[k] = sizeS st + b.length := by
  unfold putS sizeS
  rw [if_pos hk, List.length_set, List.map_set]
  have := sum_set_eq (st.map blen) k (blen (some b)) (by simpa using hk)
  simp only [List.getElem_map] at this
  have e : blen (some b) = b.length := rfl
  omega
theorem putE_in {st : List SlotL} {k : Nat} (hk : k < st.length) (hl : st.length ≤ 60) (b : List UInt8) : putE st k b = if 400 < b.length then 13 else if 512 < sizeS st - blen st[k] + b.length then 8 else 0 := by
  have h := sizeS_put hk b
  have h2 : blen st[k] ≤ sizeS st := by
    have : blen st[k] ≤ (st.map blen).sum := by
      have h3 := sum_set_eq (st.map blen) k 0 (by simpa using hk)
      simp only [List.getElem_map] at h3
      omega
    unfold sizeS
    omega
  unfold putE
  by_cases h4 : 400 < b.length
  · rw [if_pos h4, if_pos h4]
  · rw [if_neg h4, if_neg h4, if_neg (by omega), show sizeS (putS st k b) = sizeS st - blen st[k] + b.length by omega]

/-- other bytes in a slot that is there -/
theorem ref_set {w : World} {B q gb cb : Nat} {kind id : Int} {r : List SlotV} {VH : Value} (hB : B ≤ q)
    (h1 : w.heap[q]? = some (.cells #[.int .i64 kind, .int .i64 id, .slice (some ⟨gb, 0, none⟩) r.length cb, VH] 77 (0, 0)))
    (h2 : w.ownsRow B 30 1 (.slice (some ⟨gb, 0, none⟩) r.length cb) r.length (bytV r)) (h3 : w.ownsRow B 4 1 VH r.length (hasV r))
    (h4 : ∀ y ∈ r, SlotIs w B y) (k : Nat) (hk : k < r.length) {x : SlotV} (hx : SlotIs w B x) (he : x.2.isSome = r[k].2.isSome) :
    RefIs (w.setCell ⟨gb, k, none⟩ x.1) B q kind id (r.set k x) ∧ FrmR B w (w.setCell ⟨gb, k, none⟩ x.1) := by
  obtain ⟨_, _, hgb⟩ := Go.Lib.ownsRow_kind h2 gb rfl
  have s2 := (World.ownsRow.stored h2 k x.1).1
  have s3 := own_setOther' h3 hgb (by decide) k x.1
  have n2 : q ≠ gb := fun e => by subst e; rw [h1] at hgb; simp at hgb
  have bgb := (World.ownsRow.lt h2 gb rfl).1
  refine ⟨⟨hB, .slice (some ⟨gb, 0, none⟩) r.length cb, VH, ?_, ?_, ?_, fun y hy => ?_⟩, (Below.refl _ _).setCell (p := ⟨gb, k, none⟩) bgb _, fun j c t m hj t1 t2 t3 => ?_⟩
  · rw [Below.heap_setCell _ _ _ _ (fun e => n2 (by simpa using e)), h1]
  · rw [List.length_set]
    have e : bytV (r.set k x) = (bytV r).set k x.1 := by simp [bytV, List.map_set]
    rw [e]
    exact s2
  · rw [List.length_set]
    have e : hasV (r.set k x) = hasV r := by
      refine List.ext_getElem (by simp [hasV]) fun j q1 q2 => ?_
      simp only [hasV, List.getElem_map, List.getElem_set]
      by_cases hj : k = j
      · subst hj; simp [he]
      · rw [if_neg hj]
    rw [e]
    exact s3
  · rcases List.mem_or_eq_of_mem_set hy with hy | rfl
    · exact (h4 y hy).setOther hgb (by decide) _ _
    · exact hx.setOther hgb (by decide) _ _
  · have m2 : j ≠ gb := fun e => by subst e; rw [hgb] at hj; simp at hj; exact t2 hj.2.1.symm
    rw [Below.heap_setCell _ _ _ _ (fun e => m2 (by simpa using e))]

set_option maxRecDepth 100000 in
set_option maxHeartbeats 2000000 in
/-- Set, of a slot that is there -/
theorem RSet_has {w : World} {B q : Nat} {kind id : Int} {r : List SlotV} (h : RefIs w B q kind id r) (hl : r.length ≤ 60) (hs : sizeR r ≤ 1000000) (k : Nat) (hkl : k < r.length) (hk : hasS (snds r) (k : Int) = true) (v : Value) (b : List UInt8) (hb : Byt w v b) (hlen : b.length ≤ 1000000) :
    Calls Tryd.prog 16 #[.pointer (some ⟨q, 0, none⟩), .int .i64 k, v] w (RPutRet B q kind id w (putE (snds r) k b) (if putE (snds r) k b = 0 then putS (snds r) k b else snds r)) := by
  have HI := Lib.hid (RIs_any h k)
  rw [hk] at HI
  have hbs : B ≤ w.heap.size := Nat.le_trans h.1 (Nat.le_of_lt (lt_of_block h.2.choose_spec.choose_spec.1))
  have US := Lib.hid (fun m => RUsed_any (h.below (bel_drewN (Below.refl _ w) m)) hs)
  have HR := Lib.hid (fun m => h.below (bel_drewN (Below.refl _ w) m))
  have FR := Lib.hid (fun m => FrmR.of_below (bel_drewN (Below.refl _ w) m) hbs)
  have hsl : (snds r).length = r.length := by simp [snds]
  have hE := putE_in (st := snds r) (k := k) (by omega) (by omega) b
  rw [show (snds r)[k]'(by omega) = r[k].2 by simp [snds], ← sizeR_snds] at hE
  obtain ⟨hB, VB, VH, h1, h2, h3, h4⟩ := h
  have hbn0 : blen r[k].2 ≤ sizeR r := by
    have := sumR_take hkl
    have := sumR_le r (k + 1)
    unfold sizeR
    omega
  obtain ⟨ak, ck, hrk, _⟩ := (h4 _ (List.getElem_mem hkl)).form
  rcases h2.2 with ⟨_, q0⟩ | ⟨gb, cb, cur, rfl, hbg, hgb, hbn, hbm, _⟩
  · omega
  rcases h3.2 with ⟨_, q0⟩ | ⟨gh, ch, cur', rfl, hhg, hgh, hhn, hhm, _⟩
  · omega
  unfold maxLen at hbm hhm
  have c2 : w.cell? ⟨q, 2, none⟩ = some (.slice (some ⟨gb, 0, none⟩) r.length cb) := by simp [World.cell?, h1]
  have x2 := World.ownsRow.cellAt h2 k (by omega)
  rw [List.getElem?_eq_getElem (by rw [bytV_length]; exact hkl), show (bytV r)[k]'(by rw [bytV_length]; exact hkl) = r[k].1 by simp [bytV], hrk] at x2
  have f2 := World.ownsRow.frozenAt h2 k
  have n2 : q ≠ gb := fun e => by subst e; rw [h1] at hgb; simp at hgb
  obtain ⟨ao, c, rfl, hc1, hc2, _⟩ := hb.open
  unfold maxLen at hc2
  have HB := Lib.hid hb
  generalize blen r[k].2 = bl at *
  generalize sizeR r = sz at *
  have i0 : (0 : Int) ≤ (k : Int) := by omega
  have i1 : (k : Int) < (r.length : Int) := by omega
  have hE' := Lib.hid hE
  have e1 : IntKind.i64.wrap ((sz : Int) - (bl : Int)) = ((sz - bl : Nat) : Int) := by rw [IntWalk.i64_in _ (by omega)]; omega
  have e2 : IntKind.i64.wrap (((sz - bl : Nat) : Int) + (b.length : Int)) = ((sz - bl + b.length : Nat) : Int) := by rw [IntWalk.i64_in _ (by omega)]; omega
  unfold RPutRet
  have hkS := Lib.hid hk
  clear hb hk
  by_cases h400 : 400 < b.length
  · have t1 : decide ((400 : Int) < (b.length : Int)) = true := by simp; omega
    rw [if_pos h400] at hE
    rw [hE]
    have z : ¬ (13 : Int) = 0 := by omega
    simp only [z, if_false]
    clear hE hE' h1 h2 h3 h4 hgb hgh
    go_enter Tryd.func16, Tryd.ntmps16
    go_wp2_with fail
    refine HI.out.mono ?_
    rintro e w1 ⟨rfl, rfl⟩
    go_wp2_with fail
    go_ret
    exact ⟨rfl, ⟨r, rfl, HR.out 0⟩, FR.out 0, fun _ => Below.refl _ _⟩
  · have t1 : decide ((400 : Int) < (b.length : Int)) = false := by simp; omega
    rw [if_neg h400] at hE
    have QU : ∀ m, Calls Tryd.prog 35 #[.pointer (some ⟨q, 0, none⟩)] (w.drewN m) fun e w' => e = .returned (.int .i64 (sz : Int)) ∧ ∃ n, w' = (w.drewN m).drewN n := fun m => (US.out m).mono fun e w' h => ⟨h.1, 0, h.2.symm⟩
    have QUH := Lib.hid QU
    clear QU
    by_cases h512 : 512 < sz - bl + b.length
    · have t2 : decide ((512 : Int) < ((sz - bl + b.length : Nat) : Int)) = true := by simp; omega
      rw [if_pos h512] at hE
      rw [hE]
      have z : ¬ (8 : Int) = 0 := by omega
      simp only [z, if_false]
      clear hE hE' h1 h2 h3 h4 hgb hgh
      go_enter Tryd.func16, Tryd.ntmps16
      go_wp2_with fail
      refine HI.out.mono ?_
      rintro e w1 ⟨rfl, rfl⟩
      go_wp2_with fail
      go_quiet ((go_at_call 35; refine Calls.quiet_of (QUH.out _)))
      go_wp2_with fail
      go_ret
      exact ⟨rfl, ⟨r, rfl, HR.out _⟩, FR.out _, fun _ => bel_drewN (Below.refl _ _) _⟩
    · have t2 : decide ((512 : Int) < ((sz - bl + b.length : Nat) : Int)) = false := by simp; omega
      rw [if_neg h512] at hE
      rw [hE]
      simp only [if_true]
      have hql := lt_of_block h1
      have hgbl := lt_of_block hgb
      have hks : r[k].2.isSome = true := by
        have h := hkS.out
        unfold hasS at h
        rw [Int.toNat_natCast, Bool.and_eq_true, List.getD_eq_getElem?_getD, List.getElem?_eq_getElem (by omega)] at h
        simpa [snds] using h.2
      have hpu : ∀ v, putS (snds r) k b = snds (r.set k (v, some b)) := fun v => by
        unfold putS
        rw [if_pos (by omega)]
        simp [snds, List.map_set]
      have FIN := Lib.hid (fun (w6 : World) (b6 : Below w.heap.size w w6) (v : Value) (o : Own w6 B v b) => (show (∃ r', snds r' = putS (snds r) k b ∧ RefIs (w6.setCell ⟨gb, k, none⟩ v) B q kind id r') ∧ FrmR B w (w6.setCell ⟨gb, k, none⟩ v) from by
        obtain ⟨q1, q2⟩ := ref_set hB ((b6.block _ hql).trans h1) (own_below' h2 b6) (own_below' h3 b6) (fun y hy => (h4 y hy).below b6) k hkl (x := (v, some b)) o hks.symm
        exact ⟨⟨_, (hpu v).symm, q1⟩, (FrmR.of_below b6 hbs).trans q2⟩))
      have CE := Lib.hid (fun (w6 : World) (b6 : Below w.heap.size w w6) => (show w6.cell? ⟨q, 2, none⟩ = some (.slice (some ⟨gb, 0, none⟩) r.length cb) ∧ w6.cell? ⟨gb, k, none⟩ = some (.slice ak bl ck) ∧ w6.frozen? ⟨gb, k, none⟩ = false from
        ⟨(b6.cell (p := ⟨q, 2, none⟩) hql).trans c2, (b6.cell (p := ⟨gb, k, none⟩) hgbl).trans x2, World.ownsRow.frozenAt (own_below' h2 b6) k⟩))
      have bA : ∀ D : World, Below D.heap.size D (D.alloc (.cells #[] 5)) := fun D => (Below.refl _ _).alloc (Nat.le_refl _) _
      have OW0 := Lib.hid (fun D : World => (show Own (D.alloc (.cells #[] 5)) D.heap.size (.slice (some ⟨D.heap.size, 0, none⟩) 0 0) [] from World.ownsRow_lit D #[] 0 (Nat.le_refl _) (by simp [maxLen]) rfl))
      clear hE hE' h1 h2 h3 h4 hgb hgh hpu hks c2 x2 f2
      have c2 := (CE.out w (Below.refl _ _)).1
      have x2 := (CE.out w (Below.refl _ _)).2.1
      go_enter Tryd.func16, Tryd.ntmps16
      go_wp2_with fail
      refine HI.out.mono ?_
      rintro e w1 ⟨rfl, rfl⟩
      go_wp2_with fail
      go_quiet ((go_at_call 35; refine Calls.quiet_of (QUH.out _)))
      go_wp2_with fail
      have carry : Below w.heap.size w (w.drewN nq).drew := (bel_drewN (Below.refl _ _) nq).drew
      clear x2
      refine wp_region_noPanic ?_
      refine wp_region_held_drew (S := fun w' => w'.cell? ⟨q, 2, none⟩ = some (.slice (some ⟨gb, 0, none⟩) r.length cb)) (by kernel_rfl) (c2) (fun hHeld => ?_)
      generalize (w.drewN nq).drew = D at hHeld carry ⊢
      have k1 := hHeld
      refine wpAnyH_take (i := 0) (oi := ⟨some 29, _, _, _, _, _⟩) (v := ?qv0rs) rfl (by kernel_rfl) (by kernel_rfl) (by kernel_rfl) (fun _ _ _ h => h) (Or.inl ⟨by rfl, ?qy0rs⟩) hHeld ?qr0rs
      case qy0rs => (intro w' hSw; go_simp; try with_reducible rfl)
      try simp only [Act.put, List.setIfInBounds_toArray, List.set_cons_zero, List.set_cons_succ]
      refine wpAnyH_take (i := 1) (oi := ⟨some 30, _, _, _, _, _⟩) (v := ?qv1rs) rfl (by kernel_rfl) (by kernel_rfl) (by kernel_rfl) (fun _ _ _ h => h) (Or.inl ⟨by rfl, ?qy1rs⟩) hHeld ?qr1rs
      case qy1rs => (intro w' hSw; go_simp; try with_reducible rfl)
      try simp only [Act.put, List.setIfInBounds_toArray, List.set_cons_zero, List.set_cons_succ]
      refine wpAnyH_take (i := 2) (oi := ⟨some 31, _, _, _, _, _⟩) (v := ?qv2rs) rfl (by kernel_rfl) (by kernel_rfl) (by kernel_rfl) (fun _ _ _ h => h) (Or.inl ⟨by rfl, ?qy2rs⟩) hHeld ?qr2rs
      case qy2rs => (intro w' hSw; go_simp; try with_reducible rfl)
      try simp only [Act.put, List.setIfInBounds_toArray, List.set_cons_zero, List.set_cons_succ]
      refine wpAnyH_take (i := 3) (oi := ⟨some 32, _, _, _, _, _⟩) (v := ?qv3rs) rfl (by kernel_rfl) (by kernel_rfl) (by kernel_rfl) (fun _ _ _ h => h) (Or.inl ⟨by rfl, ?qy3rs⟩) hHeld ?qr3rs
      case qy3rs => (intro w' hSw; have z2 := hSw; go_simp; try with_reducible rfl)
      try simp only [Act.put, List.setIfInBounds_toArray, List.set_cons_zero, List.set_cons_succ]
      refine wpAnyH_take (i := 4) (oi := ⟨some 33, _, _, _, _, _⟩) (v := ?qv4rs) rfl (by kernel_rfl) (by kernel_rfl) (by kernel_rfl) (fun _ _ _ h => h) (Or.inl ⟨by rfl, ?qy4rs⟩) hHeld ?qr4rs
      case qy4rs => (intro w' hSw; go_simp; try with_reducible rfl)
      try simp only [Act.put, List.setIfInBounds_toArray, List.set_cons_zero, List.set_cons_succ]
      refine wpAnyH_take (i := 6) (oi := ⟨some 35, _, _, _, _, _⟩) (v := ?qv6rs) rfl (by kernel_rfl) (by kernel_rfl) (by kernel_rfl) (fun _ _ _ h => h) (Or.inl ⟨by rfl, ?qy6rs⟩) hHeld ?qr6rs
      case qy6rs => (intro w' hSw; go_simp; try with_reducible rfl)
      try simp only [Act.put, List.setIfInBounds_toArray, List.set_cons_zero, List.set_cons_succ]
      refine wpAnyH_ready (rs := [5]) (by kernel_rfl) (by simp) ?_
      refine AllReadyH.cons (o := ⟨some 34, _, _, _, _, _⟩) rfl (fun K hK => ?_) AllReadyH.nil
      go_simp
      refine hK.out _ _ ((CE.out _ (carry.trans ((bA D).mono carry.size))).1) (fun hHeld => ?_)
      clear hK K
      try simp only [Act.put, List.setIfInBounds_toArray, List.set_cons_zero, List.set_cons_succ]
      refine wpAnyH_ready (rs := [7]) (by kernel_rfl) (by simp) ?_
      refine AllReadyH.cons (o := ⟨some 36, _, _, _, _, _⟩) rfl (fun K hK => ?_) AllReadyH.nil
      refine step_append_byt rfl (.tmp 34) (.tmp 35) rfl D.heap.size (.slice (some ⟨D.heap.size, 0, none⟩) 0 0) [] rfl (OW0.out D) (.slice ao b.length c) b rfl ((HB.out.below carry).below (bA D)) (by simp; omega) (by simp) ?_
      intro v6 w6 o6 b6
      rw [List.nil_append] at o6
      have B6 : Below w.heap.size w w6 := carry.trans (((bA D).trans b6).mono carry.size)
      obtain ⟨a6, c6, rfl, _⟩ := Rd.of_own o6
      obtain ⟨y2, y3, y4⟩ := CE.out w6 B6
      refine hK.out _ _ y2 (fun hHeld => ?_)
      clear hK K
      try simp only [Act.put, List.setIfInBounds_toArray, List.set_cons_zero, List.set_cons_succ]
      refine wpAnyH_take (i := 8) (oi := ⟨some 37, _, _, _, _, _⟩) (v := ?qv8rs) rfl (by kernel_rfl) (by kernel_rfl) (by kernel_rfl) (fun _ _ _ h => h) (Or.inl ⟨by rfl, ?qy8rs⟩) hHeld ?qr8rs
      case qy8rs => (intro w' hSw; go_simp; try with_reducible rfl)
      try simp only [Act.put, List.setIfInBounds_toArray, List.set_cons_zero, List.set_cons_succ]
      refine wpAnyH_ready (rs := [9]) (by kernel_rfl) (by simp) ?_
      refine AllReadyH.cons (o := ⟨none, _, _, _, _, _⟩) rfl (fun K hK => ?_) AllReadyH.nil
      go_simp
      refine hK.out _ _ ((World.cell?_setCell_far _ _ _ _ (by simpa using n2.symm)).trans y2) (fun hHeld => ?_)
      clear hK K
      try simp only [Act.put, List.setIfInBounds_toArray, List.set_cons_zero, List.set_cons_succ]
      refine wpAnyH_done (by kernel_rfl) ?_ _
      refine NoPanic.normal ?_
      obtain ⟨z1, z3⟩ := FIN.out w6 B6 _ (own_base o6 (Nat.le_trans hbs carry.size))
      have Z1 := Lib.hid z1
      have Z3 := Lib.hid z3
      clear z1 z3 hHeld y2 y3 y4 k1 b6 o6
      go_wp2_with fail
      go_ret
      exact ⟨rfl, Z1.out, Z3.out, fun h => by simp at h⟩

/-- Set -/
theorem RSet_any {w : World} {B q : Nat} {kind id : Int} {r : List SlotV} (h : RefIs w B q kind id r) (hl : r.length ≤ 60) (hs : sizeR r ≤ 1000000) (i : Int) (v : Value) (b : List UInt8) (hb : Byt w v b) (hlen : b.length ≤ 1000000) :
    Calls Tryd.prog 16 #[.pointer (some ⟨q, 0, none⟩), .int .i64 i, v] w (RPutRet B q kind id w (if hasS (snds r) i = true then putE (snds r) i.toNat b else 15) (if hasS (snds r) i = true then (if putE (snds r) i.toNat b = 0 then putS (snds r) i.toNat b else snds r) else snds r)) := by
  cases hh : hasS (snds r) i with
  | true =>
    simp only [if_true]
    have hh' := hh
    unfold hasS at hh'
    rw [Bool.and_eq_true, decide_eq_true_eq] at hh'
    obtain ⟨k, rfl⟩ := Int.eq_ofNat_of_zero_le hh'.1
    rw [Int.toNat_natCast] at hh' ⊢
    have hkl : k < r.length := by
      rcases Nat.lt_or_ge k r.length with hk' | hk'
      · exact hk'
      · have := hh'.2
        rw [List.getD_eq_getElem?_getD, List.getElem?_eq_none (by simp [snds]; omega)] at this
        simp at this
    exact RSet_has h hl hs k hkl hh v b hb hlen
  | false =>
    have HI := Lib.hid (RIs_any h i)
    rw [hh] at HI
    have hbs : B ≤ w.heap.size := Nat.le_trans h.1 (Nat.le_of_lt (lt_of_block h.2.choose_spec.choose_spec.1))
    have HR := Lib.hid h
    simp only [Bool.false_eq_true, if_false]
    unfold RPutRet
    clear h hh hb
    go_enter Tryd.func16, Tryd.ntmps16
    go_wp2_with fail
    refine HI.out.mono ?_
    rintro e w1 ⟨rfl, rfl⟩
    go_wp2_with fail
    go_ret
    exact ⟨rfl, ⟨r, rfl, HR.out⟩, .of_below (Below.refl _ _) hbs, fun _ => Below.refl _ _⟩
end Go.Proofs.YtdeibgljibcnlaaDoor
