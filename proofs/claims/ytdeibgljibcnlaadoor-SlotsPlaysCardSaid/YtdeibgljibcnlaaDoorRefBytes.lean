/- pergolaref8.Page.Bytes. -/
import Derived.Test.YtdeibgljibcnlaaDoorRefPut
import Derived.Test.YtdeibgljibcnlaaDoorPageBy
import Derived.Test.YtdeibgljibcnlaaDoorRef2
namespace Go.Proofs.YtdeibgljibcnlaaDoor
open Go.RowKit

theorem made_two (w : World) (k n : Nat) : Blk (w.alloc (.cells (((madeCells #[.int .u8 0] 512).setIfInBounds 0 (.int .u8 ((UInt8.ofNat k).toNat : Int))).setIfInBounds 1 (.int .u8 ((UInt8.ofNat n).toNat : Int))) 5)) w.heap.size (((List.replicate 512 (0 : UInt8)).set 0 (UInt8.ofNat k)).set 1 (UInt8.ofNat n)) := by
  unfold Blk
  rw [show (w.alloc (.cells (((madeCells #[.int .u8 0] 512).setIfInBounds 0 (.int .u8 ((UInt8.ofNat k).toNat : Int))).setIfInBounds 1 (.int .u8 ((UInt8.ofNat n).toNat : Int))) 5)).heap[w.heap.size]? = some (.cells (((madeCells #[.int .u8 0] 512).setIfInBounds 0 (.int .u8 ((UInt8.ofNat k).toNat : Int))).setIfInBounds 1 (.int .u8 ((UInt8.ofNat n).toNat : Int))) 5 (0, 0)) from heap_alloc_new _ _]
  congr 2
  apply Array.toList_inj.1
  rw [Array.toList_setIfInBounds, Array.toList_setIfInBounds, toList_madeCells_one, List.toList_toArray]
  unfold bytesV
  rw [List.map_set, List.map_set, List.map_replicate]
  rfl

set_option maxRecDepth 100000 in
set_option maxHeartbeats 4000000 in
theorem RBytes_any {w : World} {base q kind id : Nat} {r : List SlotV} (h : RefIs w base q kind id r) (hl : r.length ≤ 60) (hs : sizeS (snds r) ≤ 512) (hk : kind ≤ 255) (hid : id ≤ 4294967295) :
    Calls Tryd.prog 44 #[.pointer (some ⟨q, 0, none⟩)] w fun e w' => ∃ g, e = .returned (.slice (some ⟨g, 0, none⟩) 512 512) ∧ w.heap.size ≤ g ∧ Blk w' g (pageB kind id (snds r)) ∧ Below w.heap.size w w' := by
  have hsl : (snds r).length = r.length := by simp [snds]
  have HF := Lib.hid (show ∀ i (h : i < r.length) w', Below w.heap.size w w' → SlotIs w' base r[i] from fun i hi w' hb => (h.2.choose_spec.choose_spec.2.2.2 _ (List.getElem_mem hi)).below hb)
  have HG := Lib.hid (show ∀ i (h : i < r.length), ∃ ao c, r[i].1 = .slice ao (blen r[i].2) c ∧ c ≤ maxLen from fun i hi => (h.2.choose_spec.choose_spec.2.2.2 _ (List.getElem_mem hi)).form)
  obtain ⟨ab, cb, ah, ch, h1, q1, k0, q2, k2, hbr, hhr⟩ := h.open
  have hql := lt_of_block h1
  have c0 : w.cell? ⟨q, 0, none⟩ = some (.int .i64 kind) := by simp [World.cell?, h1]
  have c1 : w.cell? ⟨q, 1, none⟩ = some (.int .i64 id) := by simp [World.cell?, h1]
  have c2 : w.cell? ⟨q, 2, none⟩ = some (.slice ab r.length cb) := by simp [World.cell?, h1]
  have c3 : w.cell? ⟨q, 3, none⟩ = some (.slice ah r.length ch) := by simp [World.cell?, h1]
  have HB := Lib.hid hbr
  have HH := Lib.hid hhr
  unfold maxLen at q2 k2
  have LO := Lib.hid (layB_ok kind id (snds r) hs)
  have LS := Lib.hid (fun k (hk : k < r.length) => (show layB kind id (snds r) (k + 1) = stepB (layB kind id (snds r) k) r[k].2 by rw [layB_succ _ _ _ _ (by omega)]; simp [snds]))
  have LE := Lib.hid (fun k (hk : k < r.length) => (show ((snds r).take (k + 1)).map blen = ((snds r).take k).map blen ++ [blen r[k].2] by rw [List.take_succ_eq_append_getElem (by omega), List.map_append]; simp [snds]))
  have LT := Lib.hid (fun k => (show ((snds r).take k).map blen ++ ((snds r).drop k).map blen = (snds r).map blen by rw [← List.map_append, List.take_append_drop]))
  have HS := Lib.hid (show 16 + 4 * r.length + ((snds r).map blen).sum ≤ 512 by unfold sizeS at hs; omega)
  rw [hsl] at LO
  have hmk := make_512
  have MK := Lib.hid (made_512 w)
  have BA : Below w.heap.size w (w.alloc (.cells (madeCells #[.int .u8 0] 512) 5)) := (Below.refl _ _).alloc (Nat.le_refl _) _
  have idm : IntKind.u64.wrap (id : Int) = (id : Int) := by show (id : Int) % 18446744073709551616 = _; omega
  clear h h1 hbr hhr
  have er : (UInt8.ofNat r.length).toNat = r.length := by rw [UInt8.toNat_ofNat']; omega
  have ek : (UInt8.ofNat kind).toNat = kind := by rw [UInt8.toNat_ofNat']; omega
  have S2 := Lib.hid (made_two w kind r.length)
  rw [er, ek] at S2
  have B2 := Lib.hid (show Below w.heap.size w (w.alloc (.cells (((madeCells #[.int .u8 0] 512).setIfInBounds 0 (.int .u8 (kind : Int))).setIfInBounds 1 (.int .u8 (r.length : Int))) 5)) from (Below.refl _ _).alloc (Nat.le_refl _) _)
  clear MK BA er ek
  have mc0 : (madeCells #[.int .u8 0] 512)[0]? = some (.int .u8 0) := by
    rw [← Array.getElem?_toList, toList_madeCells_one, List.getElem?_replicate]; rfl
  have mc1 : (madeCells #[.int .u8 0] 512)[1]? = some (.int .u8 0) := by
    rw [← Array.getElem?_toList, toList_madeCells_one, List.getElem?_replicate]; rfl
  go_enter Tryd.func44, Tryd.ntmps44
  go_wp2_with fail
  generalize w.alloc (.cells (((madeCells #[.int .u8 0] 512).setIfInBounds 0 (.int .u8 (kind : Int))).setIfInBounds 1 (.int .u8 (r.length : Int))) 5) = w3 at *
  generalize hgs : w.heap.size = g at *
  have HGS := Lib.hid hgs
  clear hgs hmk mc0 mc1
  have B3 := B2.out
  generalize hZ : ((List.replicate 512 (0 : UInt8)).set 0 (UInt8.ofNat kind)).set 1 (UInt8.ofNat r.length) = Z at *
  have hZl : Z.length = 512 := by rw [← hZ, List.length_set, List.length_set, List.length_replicate]
  have HZ := Lib.hid hZ
  clear hZ
  have carry : Blk w3.drew g Z := S2.out
  refine wp_region_noPanic ?_
  refine wp_region_held_drew (S := fun w' => Below g w w') (by kernel_rfl) (B3.drew) (fun hHeld => ?_)
  generalize w3.drew = D at hHeld carry ⊢
  have k1 := hHeld
  refine wpAnyH_take (i := 0) (oi := ⟨some 22, _, _, _, _, _⟩) (v := ?qv0r4) rfl (by kernel_rfl) (by kernel_rfl) (by kernel_rfl) (fun _ _ _ h => h) (Or.inl ⟨by rfl, ?qy0r4⟩) hHeld ?qr0r4
  case qy0r4 => (intro w' hSw; go_simp; try with_reducible rfl)
  try simp only [Act.put, List.setIfInBounds_toArray, List.set_cons_zero, List.set_cons_succ]
  refine wpAnyH_take (i := 1) (oi := ⟨some 23, _, _, _, _, _⟩) (v := ?qv1r4) rfl (by kernel_rfl) (by kernel_rfl) (by kernel_rfl) (fun _ _ _ h => h) (Or.inl ⟨by rfl, ?qy1r4⟩) hHeld ?qr1r4
  case qy1r4 => (intro w' hSw; have z2 := (hSw.cell (p := ⟨q, 1, none⟩) hql).trans c1; go_simp; try with_reducible rfl)
  try simp only [Act.put, List.setIfInBounds_toArray, List.set_cons_zero, List.set_cons_succ]
  refine wpAnyH_take (i := 2) (oi := ⟨some 24, _, _, _, _, _⟩) (v := ?qv2r4) rfl (by kernel_rfl) (by kernel_rfl) (by kernel_rfl) (fun _ _ _ h => h) (Or.inl ⟨by rfl, ?qy2r4⟩) hHeld ?qr2r4
  case qy2r4 => (intro w' hSw; go_simp; try with_reducible rfl)
  try simp only [Act.put, List.setIfInBounds_toArray, List.set_cons_zero, List.set_cons_succ]
  refine wpAnyH_take (i := 3) (oi := ⟨some 25, _, _, _, _, _⟩) (v := ?qv3r4) rfl (by kernel_rfl) (by kernel_rfl) (by kernel_rfl) (fun _ _ _ h => h) (Or.inl ⟨by rfl, ?qy3r4⟩) hHeld ?qr3r4
  case qy3r4 => (intro w' hSw; go_simp; try with_reducible rfl)
  try simp only [Act.put, List.setIfInBounds_toArray, List.set_cons_zero, List.set_cons_succ]
  refine wpAnyH_take (i := 4) (oi := ⟨some 26, _, _, _, _, _⟩) (v := ?qv4r4) rfl (by kernel_rfl) (by kernel_rfl) (by kernel_rfl) (fun _ _ _ h => h) (Or.inl ⟨by rfl, ?qy4r4⟩) hHeld ?qr4r4
  case qy4r4 => (intro w' hSw; go_simp; try with_reducible rfl)
  try simp only [Act.put, List.setIfInBounds_toArray, List.set_cons_zero, List.set_cons_succ]
  refine wpAnyH_take (i := 5) (oi := ⟨some 27, _, _, _, _, _⟩) (v := ?qv5r4) rfl (by kernel_rfl) (by kernel_rfl) (by kernel_rfl) (fun _ _ _ h => h) (Or.inl ⟨by rfl, ?qy5r4⟩) hHeld ?qr5r4
  case qy5r4 => (intro w' hSw; have z2 := (hSw.cell (p := ⟨q, 1, none⟩) hql).trans c1; go_simp; try with_reducible rfl)
  try simp only [Act.put, List.setIfInBounds_toArray, List.set_cons_zero, List.set_cons_succ]
  refine wpAnyH_take (i := 6) (oi := ⟨some 28, _, _, _, _, _⟩) (v := ?qv6r4) rfl (by kernel_rfl) (by kernel_rfl) (by kernel_rfl) (fun _ _ _ h => h) (Or.inl ⟨by rfl, ?qy6r4⟩) hHeld ?qr6r4
  case qy6r4 => (intro w' hSw; go_simp; try with_reducible rfl)
  try simp only [Act.put, List.setIfInBounds_toArray, List.set_cons_zero, List.set_cons_succ]
  refine wpAnyH_ready (rs := [7]) (by kernel_rfl) (by simp) ?_
  refine AllReadyH.cons (o := ⟨some 29, _, _, _, _, _⟩) rfl (fun K hK => ?_) AllReadyH.nil
  refine step_go (by rfl) 57 _ _ (by rfl) (fun _ _ => by kernel_rfl) _ (by rfl) (putN_any id 4 (by omega) _) ?_
  rintro e w4 ⟨v4, rfl, o4, b4⟩
  refine ⟨_, rfl, ?_⟩
  obtain ⟨a4, c4, rfl, _⟩ := Rd.of_own o4
  refine hK.out _ _ (k1.trans (b4.mono (Nat.le_of_lt carry.lt))) (fun hHeld => ?_)
  clear hK K
  try simp only [Act.put, List.setIfInBounds_toArray, List.set_cons_zero, List.set_cons_succ]
  refine wpAnyH_ready (rs := [8]) (by kernel_rfl) (by simp) ?_
  refine AllReadyH.cons (o := ⟨some 30, _, _, _, _, _⟩) rfl (fun K hK => ?_) AllReadyH.nil
  rw [if_pos (show Region.wanted _ _ = true from rfl)]
  refine wp_copy_blk (.tmp 23) (.tmp 29) _ _ rfl Tryd.underlying30 _ a4 _ _ c4 g 2 Z (leN id 4) rfl rfl (carry.below b4 carry.lt) (Own.byt o4) (fun _ => rfl) (by rw [leN_length]; omega) (by rw [leN_length]; omega) ?_
  intro w5 K5 o5
  refine hK.out _ _ ((k1.trans (b4.mono (Nat.le_of_lt carry.lt))).trans o5.below) (fun hHeld => ?_)
  clear hK K
  try simp only [Act.put, List.setIfInBounds_toArray, List.set_cons_zero, List.set_cons_succ]
  refine wpAnyH_done (by kernel_rfl) ?_ _
  refine NoPanic.normal ?_
  have B4 : Below g w w5 := hHeld
  have K4' : Blk w5 g (layB kind id (snds r) 0).out := by
    unfold layB startB
    rw [List.take_zero, List.foldl_nil, hsl, HZ.out]
    show Blk w5 g (wr4 Z 2 id)
    rw [← splice_four _ _ _ (by omega)]
    exact K5
  have e0 : (layB kind id (snds r) 0).e = 512 := rfl
  have KK := Lib.hid K4'
  clear K5 K4' k1 o5 o4 carry hHeld B3 S2 B2 idm
  go_wp2_with fail
  go_loopw [4, 5] (fun en i wr => ∃ k : Nat, k ≤ r.length ∧ i = .int .i64 k ∧ en = .int .i64 (layB kind id (snds r) k).e ∧ Blk wr g (layB kind id (snds r) k).out ∧ Below g w wr) (fun _ i _ => r.length - (intOf i).toNat)
  case atStart => exact ⟨0, Nat.zero_le _, rfl, rfl, KK.out, B4⟩
  case round =>
    obtain ⟨k, hk, rfl, rfl, hB, hb⟩ := hrel
    have lo := LO.out k hk
    have d3 := (hb.cell (p := ⟨q, 3, none⟩) hql).trans c3
    have d2 := (hb.cell (p := ⟨q, 2, none⟩) hql).trans c2
    by_cases hlt : k < r.length
    · have t0 : decide ((k : Int) < (r.length : Int)) = true := by simp; omega
      obtain ⟨bb, ob, rfl, hbl, x0⟩ := HB.out k hlt
      obtain ⟨bh, oh, rfl, hhl, x1⟩ := HH.out k hlt
      have hx0 := (hb.cell (p := ⟨bb, ob + k, none⟩) hbl).trans x0
      have hx1 := (hb.cell (p := ⟨bh, oh + k, none⟩) hhl).trans x1
      obtain ⟨ap, cp, e1, hcp⟩ := HG.out k hlt
      rw [e1] at hx0 x0
      have i0 : (0 : Int) ≤ (k : Int) := by omega
      have i1 : (k : Int) < (r.length : Int) := by omega
      have SI := HF.out k hlt wr hb
      have st1 := LS.out k hlt
      have hle := LE.out k hlt
      have htt := LT.out (k + 1)
      generalize (layB kind id (snds r) k) = s0 at *
      obtain ⟨si, se, so⟩ := s0
      simp only at lo hB ⊢
      obtain ⟨rfl, l2, l3⟩ := lo
      have hgl := hB.lt
      cases hf : r[si].2 with
      | none =>
        rw [hf] at hx1 hx0 st1
        simp only [Option.isSome_none, blen, stepB] at hx1 hx0 st1
        have ST := Lib.hid st1
        have KF := Lib.hid hB
        clear SI hle htt hB e1 hf st1 x1 x0
        go_wp2_with fail
        go_roundw
        case rel => exact ⟨si + 1, hlt, by go_num, by rw [ST.out], by rw [ST.out]; exact KF.out, hb⟩
        case measure => simp [intOf]; omega
      | some lb =>
        have SB : Byt wr (.slice ap lb.length cp) lb := by
          have h := SI
          unfold SlotIs at h
          rw [hf] at h
          rw [hf] at e1
          exact Own.byt (show Own wr base (.slice ap lb.length cp) lb from e1 ▸ h)
        rw [hf] at hx1 hx0 st1 hle x0 x1
        simp only [Option.isSome_some, blen, stepB] at hx1 hx0 st1 hle x0 x1
        have hsum : (((snds r).take (si + 1)).map blen).sum = (((snds r).take si).map blen).sum + lb.length := by rw [hle, List.sum_append]; simp
        have hsum2 : (((snds r).take (si + 1)).map blen).sum ≤ ((snds r).map blen).sum := by rw [← htt, List.sum_append]; omega
        have hs5 := HS.out
        have hse : 16 + 4 * r.length + lb.length ≤ se := by omega
        have hse2 : se ≤ 512 := by omega
        clear hsum hsum2 htt hle l2 SI
        obtain ⟨A, hA1⟩ : ∃ A : Nat, (16 : Int) + 4 * (si : Int) = (A : Int) ∧ A = 16 + 4 * si := ⟨16 + 4 * si, by omega, rfl⟩
        obtain ⟨A2, hA5⟩ : ∃ A2 : Nat, (18 : Int) + 4 * (si : Int) = (A2 : Int) ∧ A2 = 18 + 4 * si := ⟨18 + 4 * si, by omega, rfl⟩
        obtain ⟨hA2, hA3⟩ := hA1
        obtain ⟨hA6, hA7⟩ := hA5
        rw [show 18 + 4 * si = A2 by omega, show 16 + 4 * si = A by omega] at st1
        have hA4 : A ≤ 252 ∧ 16 ≤ A := by omega
        have hA8 : A2 ≤ 254 ∧ 18 ≤ A2 := by omega
        have w4i : IntKind.i64.wrap (4 * (si : Int)) = 4 * (si : Int) := IntWalk.i64_in _ (by omega)
        have wA : IntKind.i64.wrap (A : Int) = (A : Int) := IntWalk.i64_in _ (by omega)
        have wA2 : IntKind.i64.wrap (A2 : Int) = (A2 : Int) := IntWalk.i64_in _ (by omega)
        obtain ⟨E, hE2, hE3⟩ : ∃ E : Nat, (se : Int) - (lb.length : Int) = (E : Int) ∧ E + lb.length = se := ⟨se - lb.length, by omega, by omega⟩
        have HE := Lib.hid hE3
        rw [show se - lb.length = E by omega] at st1
        have ST := Lib.hid st1
        have hlb : lb.length ≤ 496 := by omega
        clear st1
        have hE4 : E ≤ 512 ∧ 16 ≤ E := by omega
        have wE : IntKind.i64.wrap (E : Int) = (E : Int) := IntWalk.i64_in _ (by omega)
        have wE2 : IntKind.u64.wrap (E : Int) = (E : Int) := by show (E : Int) % 18446744073709551616 = _; omega
        obtain ⟨M, hM1, hM2⟩ : ∃ M : Nat, (lb.length : Int) + 1 = (M : Int) ∧ M = lb.length + 1 := ⟨lb.length + 1, by omega, rfl⟩
        rw [← hM2] at ST
        have HM := Lib.hid hM2
        have hW : IntKind.i64.wrap (M : Int) = (M : Int) := IntWalk.i64_in _ (by omega)
        have hW2 : IntKind.u64.wrap (M : Int) = (M : Int) := by show (M : Int) % 18446744073709551616 = _; omega
        clear hM2
        have hAi : (A : Int) ≤ 512 := by omega
        have hA2i : (A2 : Int) ≤ 512 := by omega
        have hAn : (A == 512) = false := by simp; omega
        have hAn' : (512 == A) = false := by simp; omega
        have hAn1 : ¬ 512 = A := by omega
        have hAn2 : (A2 == 512) = false := by simp; omega
        have hAn3 : (512 == A2) = false := by simp; omega
        have hAn4 : ¬ 512 = A2 := by omega
        clear e1 hf hA3 hA7 hE3
        rcases (show E = 512 ∨ E < 512 by omega) with rfl | hE5
        · skip
          first | (have hE6 : True := trivial) | skip
          first | (have hE7 : ¬ 512 = E := by omega) | skip
          first | (have hE8 : (E : Int) ≤ 512 := by omega) | skip
          go_wp2_with fail
          have carry : Blk wr.drew g so ∧ Byt wr.drew (.slice ap lb.length cp) lb := ⟨hB, SB⟩
          refine wp_region_noPanic ?_
          refine wp_region_held_drew (S := fun w' => Below g w w') (by kernel_rfl) (hb.drew) (fun hHeld => ?_)
          generalize wr.drew = D at hHeld carry ⊢
          have k1 := hHeld
          refine wpAnyH_take (i := 0) (oi := ⟨some 58, _, _, _, _, _⟩) (v := ?qv0r11a) rfl (by kernel_rfl) (by kernel_rfl) (by kernel_rfl) (fun _ _ _ h => h) (Or.inl ⟨by rfl, ?qy0r11a⟩) hHeld ?qr0r11a
          case qy0r11a => (intro w' hSw; go_simp; try with_reducible rfl)
          try simp only [Act.put, List.setIfInBounds_toArray, List.set_cons_zero, List.set_cons_succ]
          refine wpAnyH_take (i := 1) (oi := ⟨some 59, _, _, _, _, _⟩) (v := ?qv1r11a) rfl (by kernel_rfl) (by kernel_rfl) (by kernel_rfl) (fun _ _ _ h => h) (Or.inl ⟨by rfl, ?qy1r11a⟩) hHeld ?qr1r11a
          case qy1r11a => (intro w' hSw; go_simp; try with_reducible rfl)
          try simp only [Act.put, List.setIfInBounds_toArray, List.set_cons_zero, List.set_cons_succ]
          refine wpAnyH_take (i := 2) (oi := ⟨some 60, _, _, _, _, _⟩) (v := ?qv2r11a) rfl (by kernel_rfl) (by kernel_rfl) (by kernel_rfl) (fun _ _ _ h => h) (Or.inl ⟨by rfl, ?qy2r11a⟩) hHeld ?qr2r11a
          case qy2r11a => (intro w' hSw; have z2 := (hSw.cell (p := ⟨q, 2, none⟩) hql).trans c2; have z3 := (hSw.cell (p := ⟨bb, ob + si, none⟩) hbl).trans x0; go_simp; try with_reducible rfl)
          try simp only [Act.put, List.setIfInBounds_toArray, List.set_cons_zero, List.set_cons_succ]
          refine wpAnyH_take (i := 3) (oi := ⟨some 61, _, _, _, _, _⟩) (v := ?qv3r11a) rfl (by kernel_rfl) (by kernel_rfl) (by kernel_rfl) (fun _ _ _ h => h) (Or.inl ⟨by rfl, ?qy3r11a⟩) hHeld ?qr3r11a
          case qy3r11a => (intro w' hSw; go_simp; try with_reducible rfl)
          try simp only [Act.put, List.setIfInBounds_toArray, List.set_cons_zero, List.set_cons_succ]
          refine wpAnyH_take (i := 4) (oi := ⟨some 62, _, _, _, _, _⟩) (v := ?qv4r11a) rfl (by kernel_rfl) (by kernel_rfl) (by kernel_rfl) (fun _ _ _ h => h) (Or.inl ⟨by rfl, ?qy4r11a⟩) hHeld ?qr4r11a
          case qy4r11a => (intro w' hSw; go_simp; try with_reducible rfl)
          try simp only [Act.put, List.setIfInBounds_toArray, List.set_cons_zero, List.set_cons_succ]
          refine wpAnyH_take (i := 5) (oi := ⟨some 63, _, _, _, _, _⟩) (v := ?qv5r11a) rfl (by kernel_rfl) (by kernel_rfl) (by kernel_rfl) (fun _ _ _ h => h) (Or.inl ⟨by rfl, ?qy5r11a⟩) hHeld ?qr5r11a
          case qy5r11a => (intro w' hSw; go_simp; try with_reducible rfl)
          try simp only [Act.put, List.setIfInBounds_toArray, List.set_cons_zero, List.set_cons_succ]
          refine wpAnyH_take (i := 6) (oi := ⟨some 64, _, _, _, _, _⟩) (v := ?qv6r11a) rfl (by kernel_rfl) (by kernel_rfl) (by kernel_rfl) (fun _ _ _ h => h) (Or.inl ⟨by rfl, ?qy6r11a⟩) hHeld ?qr6r11a
          case qy6r11a => (intro w' hSw; have z2 := (hSw.cell (p := ⟨q, 2, none⟩) hql).trans c2; have z3 := (hSw.cell (p := ⟨bb, ob + si, none⟩) hbl).trans x0; go_simp; try with_reducible rfl)
          try simp only [Act.put, List.setIfInBounds_toArray, List.set_cons_zero, List.set_cons_succ]
          refine wpAnyH_take (i := 7) (oi := ⟨some 65, _, _, _, _, _⟩) (v := ?qv7r11a) rfl (by kernel_rfl) (by kernel_rfl) (by kernel_rfl) (fun _ _ _ h => h) (Or.inl ⟨by rfl, ?qy7r11a⟩) hHeld ?qr7r11a
          case qy7r11a => (intro w' hSw; go_simp; try with_reducible rfl)
          try simp only [Act.put, List.setIfInBounds_toArray, List.set_cons_zero, List.set_cons_succ]
          refine wpAnyH_take (i := 8) (oi := ⟨some 66, _, _, _, _, _⟩) (v := ?qv8r11a) rfl (by kernel_rfl) (by kernel_rfl) (by kernel_rfl) (fun _ _ _ h => h) (Or.inl ⟨by rfl, ?qy8r11a⟩) hHeld ?qr8r11a
          case qy8r11a => (intro w' hSw; go_simp; try with_reducible rfl)
          try simp only [Act.put, List.setIfInBounds_toArray, List.set_cons_zero, List.set_cons_succ]
          refine wpAnyH_take (i := 9) (oi := ⟨some 67, _, _, _, _, _⟩) (v := ?qv9r11a) rfl (by kernel_rfl) (by kernel_rfl) (by kernel_rfl) (fun _ _ _ h => h) (Or.inl ⟨by rfl, ?qy9r11a⟩) hHeld ?qr9r11a
          case qy9r11a => (intro w' hSw; have z2 := (hSw.cell (p := ⟨q, 2, none⟩) hql).trans c2; have z3 := (hSw.cell (p := ⟨bb, ob + si, none⟩) hbl).trans x0; go_simp; try with_reducible rfl)
          try simp only [Act.put, List.setIfInBounds_toArray, List.set_cons_zero, List.set_cons_succ]
          refine wpAnyH_ready (rs := [10]) (by kernel_rfl) (by simp) ?_
          refine AllReadyH.cons (o := ⟨some 68, _, _, _, _, _⟩) rfl (fun K hK => ?_) AllReadyH.nil
          rw [if_pos (show Region.wanted _ _ = true from rfl)]
          first | (refine wp_copy_blk (.tmp 60) (.tmp 67) _ _ rfl Tryd.underlying30 _ ap _ _ cp g E so lb rfl rfl carry.1 carry.2 ?zpa ?zfa ?zoa ?zka) | (refine wp_copy_blk (.tmp 60) (.tmp 67) _ _ rfl Tryd.underlying30 _ ap _ _ cp g 512 so lb rfl rfl carry.1 carry.2 ?zpa ?zfa ?zoa ?zka)
          case zpa => first | exact fun h => absurd h (by have := HE.out; omega) | exact fun _ => rfl
          case zfa => (have := HE.out; omega)
          case zoa => (have := HE.out; omega)
          intro w5 K5 o5
          refine hK.out _ _ (k1.trans o5.below) (fun hHeld => ?_)
          clear hK K
          try simp only [Act.put, List.setIfInBounds_toArray, List.set_cons_zero, List.set_cons_succ]
          refine wpAnyH_done (by kernel_rfl) ?_ _
          refine NoPanic.normal ?_
          have b5 : Below g w w5 := hHeld
          obtain ⟨S5, hS5⟩ : ∃ S5, S5 = splice so 512 lb := ⟨_, rfl⟩
          rw [← hS5] at K5 ST
          have HL5 : S5.length = 512 := by rw [hS5, splice_length _ _ _ (by have := HE.out; omega)]; exact l3
          clear hS5
          clear carry hHeld k1 o5
          go_wp2_with fail
          have carry : Blk w5.drew g S5 := K5
          refine wp_region_noPanic ?_
          refine wp_region_held_drew (S := fun w' => Below g w w') (by kernel_rfl) (b5.drew) (fun hHeld => ?_)
          generalize w5.drew = D at hHeld carry ⊢
          have k1 := hHeld
          refine wpAnyH_take (i := 0) (oi := ⟨some 69, _, _, _, _, _⟩) (v := ?qv0r12a) rfl (by kernel_rfl) (by kernel_rfl) (by kernel_rfl) (fun _ _ _ h => h) (Or.inl ⟨by rfl, ?qy0r12a⟩) hHeld ?qr0r12a
          case qy0r12a => (intro w' hSw; go_simp; try with_reducible rfl)
          try simp only [Act.put, List.setIfInBounds_toArray, List.set_cons_zero, List.set_cons_succ]
          refine wpAnyH_take (i := 1) (oi := ⟨some 70, _, _, _, _, _⟩) (v := ?qv1r12a) rfl (by kernel_rfl) (by kernel_rfl) (by kernel_rfl) (fun _ _ _ h => h) (Or.inl ⟨by rfl, ?qy1r12a⟩) hHeld ?qr1r12a
          case qy1r12a => (intro w' hSw; go_simp; try with_reducible rfl)
          try simp only [Act.put, List.setIfInBounds_toArray, List.set_cons_zero, List.set_cons_succ]
          refine wpAnyH_take (i := 2) (oi := ⟨some 71, _, _, _, _, _⟩) (v := ?qv2r12a) rfl (by kernel_rfl) (by kernel_rfl) (by kernel_rfl) (fun _ _ _ h => h) (Or.inl ⟨by rfl, ?qy2r12a⟩) hHeld ?qr2r12a
          case qy2r12a => (intro w' hSw; go_simp; try with_reducible rfl)
          try simp only [Act.put, List.setIfInBounds_toArray, List.set_cons_zero, List.set_cons_succ]
          refine wpAnyH_take (i := 3) (oi := ⟨some 72, _, _, _, _, _⟩) (v := ?qv3r12a) rfl (by kernel_rfl) (by kernel_rfl) (by kernel_rfl) (fun _ _ _ h => h) (Or.inl ⟨by rfl, ?qy3r12a⟩) hHeld ?qr3r12a
          case qy3r12a => (intro w' hSw; go_simp; try with_reducible rfl)
          try simp only [Act.put, List.setIfInBounds_toArray, List.set_cons_zero, List.set_cons_succ]
          refine wpAnyH_take (i := 4) (oi := ⟨some 73, _, _, _, _, _⟩) (v := ?qv4r12a) rfl (by kernel_rfl) (by kernel_rfl) (by kernel_rfl) (fun _ _ _ h => h) (Or.inl ⟨by rfl, ?qy4r12a⟩) hHeld ?qr4r12a
          case qy4r12a => (intro w' hSw; skip; go_simp; try with_reducible rfl)
          try simp only [Act.put, List.setIfInBounds_toArray, List.set_cons_zero, List.set_cons_succ]
          refine wpAnyH_take (i := 5) (oi := ⟨some 74, _, _, _, _, _⟩) (v := ?qv5r12a) rfl (by kernel_rfl) (by kernel_rfl) (by kernel_rfl) (fun _ _ _ h => h) (Or.inl ⟨by rfl, ?qy5r12a⟩) hHeld ?qr5r12a
          case qy5r12a => (intro w' hSw; go_simp; try with_reducible rfl)
          try simp only [Act.put, List.setIfInBounds_toArray, List.set_cons_zero, List.set_cons_succ]
          refine wpAnyH_take (i := 6) (oi := ⟨some 75, _, _, _, _, _⟩) (v := ?qv6r12a) rfl (by kernel_rfl) (by kernel_rfl) (by kernel_rfl) (fun _ _ _ h => h) (Or.inl ⟨by rfl, ?qy6r12a⟩) hHeld ?qr6r12a
          case qy6r12a => (intro w' hSw; go_simp; try with_reducible rfl)
          try simp only [Act.put, List.setIfInBounds_toArray, List.set_cons_zero, List.set_cons_succ]
          refine wpAnyH_ready (rs := [7]) (by kernel_rfl) (by simp) ?_
          refine AllReadyH.cons (o := ⟨some 76, _, _, _, _, _⟩) rfl (fun K hK => ?_) AllReadyH.nil
          refine step_go (by rfl) 57 _ _ (by rfl) (fun _ _ => by kernel_rfl) _ (by rfl) (putN_any 512 2 (by omega) _) ?_
          rintro e w6 ⟨v6, rfl, o6, b6⟩
          refine ⟨_, rfl, ?_⟩
          obtain ⟨a6, c6, rfl, _⟩ := Rd.of_own o6
          refine hK.out _ _ (k1.trans (b6.mono (Nat.le_of_lt carry.lt))) (fun hHeld => ?_)
          clear hK K
          try simp only [Act.put, List.setIfInBounds_toArray, List.set_cons_zero, List.set_cons_succ]
          refine wpAnyH_ready (rs := [8]) (by kernel_rfl) (by simp) ?_
          refine AllReadyH.cons (o := ⟨some 77, _, _, _, _, _⟩) rfl (fun K hK => ?_) AllReadyH.nil
          rw [if_pos (show Region.wanted _ _ = true from rfl)]
          refine wp_copy_blk (.tmp 73) (.tmp 76) _ _ rfl Tryd.underlying30 _ a6 _ _ c6 g A S5 (leN 512 2) rfl rfl (carry.below b6 carry.lt) (Own.byt o6) (fun _ => rfl) (by rw [leN_length]; omega) (by rw [leN_length]; omega) ?_
          intro w7 K7 o7
          refine hK.out _ _ ((k1.trans (b6.mono (Nat.le_of_lt carry.lt))).trans o7.below) (fun hHeld => ?_)
          clear hK K
          try simp only [Act.put, List.setIfInBounds_toArray, List.set_cons_zero, List.set_cons_succ]
          refine wpAnyH_done (by kernel_rfl) ?_ _
          refine NoPanic.normal ?_
          have b7 : Below g w w7 := hHeld
          have hl7 : (splice S5 A (leN 512 2)).length = 512 := by rw [splice_length _ _ _ (by rw [leN_length]; omega)]; exact HL5
          have K7' : Blk w7 g (wr2 S5 A 512) := by rw [← splice_two _ _ _ (by omega)]; exact K7
          have HL7 : (wr2 S5 A 512).length = 512 := by rw [wr2_length]; exact HL5
          clear carry hHeld k1 o7 K7 hl7 o6
          go_wp2_with fail
          have carry : Blk w7.drew g (wr2 S5 A 512) := K7'
          refine wp_region_noPanic ?_
          refine wp_region_held_drew (S := fun w' => Below g w w') (by kernel_rfl) (b7.drew) (fun hHeld => ?_)
          generalize w7.drew = D at hHeld carry ⊢
          have k1 := hHeld
          refine wpAnyH_take (i := 0) (oi := ⟨some 78, _, _, _, _, _⟩) (v := ?qv0r13a) rfl (by kernel_rfl) (by kernel_rfl) (by kernel_rfl) (fun _ _ _ h => h) (Or.inl ⟨by rfl, ?qy0r13a⟩) hHeld ?qr0r13a
          case qy0r13a => (intro w' hSw; go_simp; try with_reducible rfl)
          try simp only [Act.put, List.setIfInBounds_toArray, List.set_cons_zero, List.set_cons_succ]
          refine wpAnyH_take (i := 1) (oi := ⟨some 79, _, _, _, _, _⟩) (v := ?qv1r13a) rfl (by kernel_rfl) (by kernel_rfl) (by kernel_rfl) (fun _ _ _ h => h) (Or.inl ⟨by rfl, ?qy1r13a⟩) hHeld ?qr1r13a
          case qy1r13a => (intro w' hSw; go_simp; try with_reducible rfl)
          try simp only [Act.put, List.setIfInBounds_toArray, List.set_cons_zero, List.set_cons_succ]
          refine wpAnyH_take (i := 2) (oi := ⟨some 80, _, _, _, _, _⟩) (v := ?qv2r13a) rfl (by kernel_rfl) (by kernel_rfl) (by kernel_rfl) (fun _ _ _ h => h) (Or.inl ⟨by rfl, ?qy2r13a⟩) hHeld ?qr2r13a
          case qy2r13a => (intro w' hSw; go_simp; try with_reducible rfl)
          try simp only [Act.put, List.setIfInBounds_toArray, List.set_cons_zero, List.set_cons_succ]
          refine wpAnyH_take (i := 3) (oi := ⟨some 81, _, _, _, _, _⟩) (v := ?qv3r13a) rfl (by kernel_rfl) (by kernel_rfl) (by kernel_rfl) (fun _ _ _ h => h) (Or.inl ⟨by rfl, ?qy3r13a⟩) hHeld ?qr3r13a
          case qy3r13a => (intro w' hSw; go_simp; try with_reducible rfl)
          try simp only [Act.put, List.setIfInBounds_toArray, List.set_cons_zero, List.set_cons_succ]
          refine wpAnyH_take (i := 4) (oi := ⟨some 82, _, _, _, _, _⟩) (v := ?qv4r13a) rfl (by kernel_rfl) (by kernel_rfl) (by kernel_rfl) (fun _ _ _ h => h) (Or.inl ⟨by rfl, ?qy4r13a⟩) hHeld ?qr4r13a
          case qy4r13a => (intro w' hSw; have z2 := (hSw.cell (p := ⟨q, 2, none⟩) hql).trans c2; have z3 := (hSw.cell (p := ⟨bb, ob + si, none⟩) hbl).trans x0; go_simp; try with_reducible rfl)
          try simp only [Act.put, List.setIfInBounds_toArray, List.set_cons_zero, List.set_cons_succ]
          refine wpAnyH_take (i := 5) (oi := ⟨some 83, _, _, _, _, _⟩) (v := ?qv5r13a) rfl (by kernel_rfl) (by kernel_rfl) (by kernel_rfl) (fun _ _ _ h => h) (Or.inl ⟨by rfl, ?qy5r13a⟩) hHeld ?qr5r13a
          case qy5r13a => (intro w' hSw; go_simp; try with_reducible rfl)
          try simp only [Act.put, List.setIfInBounds_toArray, List.set_cons_zero, List.set_cons_succ]
          refine wpAnyH_take (i := 6) (oi := ⟨some 84, _, _, _, _, _⟩) (v := ?qv6r13a) rfl (by kernel_rfl) (by kernel_rfl) (by kernel_rfl) (fun _ _ _ h => h) (Or.inl ⟨by rfl, ?qy6r13a⟩) hHeld ?qr6r13a
          case qy6r13a => (intro w' hSw; go_simp; try with_reducible rfl)
          try simp only [Act.put, List.setIfInBounds_toArray, List.set_cons_zero, List.set_cons_succ]
          refine wpAnyH_take (i := 7) (oi := ⟨some 85, _, _, _, _, _⟩) (v := ?qv7r13a) rfl (by kernel_rfl) (by kernel_rfl) (by kernel_rfl) (fun _ _ _ h => h) (Or.inl ⟨by rfl, ?qy7r13a⟩) hHeld ?qr7r13a
          case qy7r13a => (intro w' hSw; go_simp; try with_reducible rfl)
          try simp only [Act.put, List.setIfInBounds_toArray, List.set_cons_zero, List.set_cons_succ]
          refine wpAnyH_take (i := 8) (oi := ⟨some 86, _, _, _, _, _⟩) (v := ?qv8r13a) rfl (by kernel_rfl) (by kernel_rfl) (by kernel_rfl) (fun _ _ _ h => h) (Or.inl ⟨by rfl, ?qy8r13a⟩) hHeld ?qr8r13a
          case qy8r13a => (intro w' hSw; have z2 := (hSw.cell (p := ⟨q, 2, none⟩) hql).trans c2; have z3 := (hSw.cell (p := ⟨bb, ob + si, none⟩) hbl).trans x0; go_simp; try with_reducible rfl)
          try simp only [Act.put, List.setIfInBounds_toArray, List.set_cons_zero, List.set_cons_succ]
          refine wpAnyH_take (i := 9) (oi := ⟨some 87, _, _, _, _, _⟩) (v := ?qv9r13a) rfl (by kernel_rfl) (by kernel_rfl) (by kernel_rfl) (fun _ _ _ h => h) (Or.inl ⟨by rfl, ?qy9r13a⟩) hHeld ?qr9r13a
          case qy9r13a => (intro w' hSw; go_simp; try with_reducible rfl)
          try simp only [Act.put, List.setIfInBounds_toArray, List.set_cons_zero, List.set_cons_succ]
          refine wpAnyH_take (i := 10) (oi := ⟨some 88, _, _, _, _, _⟩) (v := ?qv10r13a) rfl (by kernel_rfl) (by kernel_rfl) (by kernel_rfl) (fun _ _ _ h => h) (Or.inl ⟨by rfl, ?qy10r13a⟩) hHeld ?qr10r13a
          case qy10r13a => (intro w' hSw; go_simp; try with_reducible rfl)
          try simp only [Act.put, List.setIfInBounds_toArray, List.set_cons_zero, List.set_cons_succ]
          refine wpAnyH_take (i := 11) (oi := ⟨some 89, _, _, _, _, _⟩) (v := ?qv11r13a) rfl (by kernel_rfl) (by kernel_rfl) (by kernel_rfl) (fun _ _ _ h => h) (Or.inl ⟨by rfl, ?qy11r13a⟩) hHeld ?qr11r13a
          case qy11r13a => (intro w' hSw; have z2 := (hSw.cell (p := ⟨q, 2, none⟩) hql).trans c2; have z3 := (hSw.cell (p := ⟨bb, ob + si, none⟩) hbl).trans x0; go_simp; try with_reducible rfl)
          try simp only [Act.put, List.setIfInBounds_toArray, List.set_cons_zero, List.set_cons_succ]
          refine wpAnyH_take (i := 12) (oi := ⟨some 90, _, _, _, _, _⟩) (v := ?qv12r13a) rfl (by kernel_rfl) (by kernel_rfl) (by kernel_rfl) (fun _ _ _ h => h) (Or.inl ⟨by rfl, ?qy12r13a⟩) hHeld ?qr12r13a
          case qy12r13a => (intro w' hSw; go_simp; try with_reducible rfl)
          try simp only [Act.put, List.setIfInBounds_toArray, List.set_cons_zero, List.set_cons_succ]
          refine wpAnyH_take (i := 13) (oi := ⟨some 91, _, _, _, _, _⟩) (v := ?qv13r13a) rfl (by kernel_rfl) (by kernel_rfl) (by kernel_rfl) (fun _ _ _ h => h) (Or.inl ⟨by rfl, ?qy13r13a⟩) hHeld ?qr13r13a
          case qy13r13a => (intro w' hSw; go_simp; try with_reducible rfl)
          try simp only [Act.put, List.setIfInBounds_toArray, List.set_cons_zero, List.set_cons_succ]
          refine wpAnyH_take (i := 14) (oi := ⟨some 92, _, _, _, _, _⟩) (v := ?qv14r13a) rfl (by kernel_rfl) (by kernel_rfl) (by kernel_rfl) (fun _ _ _ h => h) (Or.inl ⟨by rfl, ?qy14r13a⟩) hHeld ?qr14r13a
          case qy14r13a => (intro w' hSw; go_simp; try with_reducible rfl)
          try simp only [Act.put, List.setIfInBounds_toArray, List.set_cons_zero, List.set_cons_succ]
          refine wpAnyH_ready (rs := [15]) (by kernel_rfl) (by simp) ?_
          refine AllReadyH.cons (o := ⟨some 93, _, _, _, _, _⟩) rfl (fun K hK => ?_) AllReadyH.nil
          refine step_go (by rfl) 57 _ _ (by rfl) (fun _ _ => by kernel_rfl) _ (by rfl) (putN_any M 2 (by omega) _) ?_
          rintro e w8 ⟨v8, rfl, o8, b8⟩
          refine ⟨_, rfl, ?_⟩
          obtain ⟨a8, c8, rfl, _⟩ := Rd.of_own o8
          refine hK.out _ _ (k1.trans (b8.mono (Nat.le_of_lt carry.lt))) (fun hHeld => ?_)
          clear hK K
          try simp only [Act.put, List.setIfInBounds_toArray, List.set_cons_zero, List.set_cons_succ]
          refine wpAnyH_ready (rs := [16]) (by kernel_rfl) (by simp) ?_
          refine AllReadyH.cons (o := ⟨some 94, _, _, _, _, _⟩) rfl (fun K hK => ?_) AllReadyH.nil
          rw [if_pos (show Region.wanted _ _ = true from rfl)]
          refine wp_copy_blk (.tmp 82) (.tmp 93) _ _ rfl Tryd.underlying30 _ a8 _ _ c8 g A2 (wr2 S5 A 512) (leN M 2) rfl rfl (carry.below b8 carry.lt) (Own.byt o8) (fun _ => rfl) (by rw [leN_length]; omega) (by rw [leN_length]; omega) ?_
          intro w9 K9 o9
          refine hK.out _ _ ((k1.trans (b8.mono (Nat.le_of_lt carry.lt))).trans o9.below) (fun hHeld => ?_)
          clear hK K
          try simp only [Act.put, List.setIfInBounds_toArray, List.set_cons_zero, List.set_cons_succ]
          refine wpAnyH_done (by kernel_rfl) ?_ _
          refine NoPanic.normal ?_
          have b9 : Below g w w9 := hHeld
          have K9' : Blk w9 g (wr2 (wr2 S5 A 512) A2 M) := by rw [← splice_two _ _ _ (by omega)]; exact K9
          have KF := Lib.hid K9'
          clear carry hHeld k1 o9 K9 K9' o8
          go_wp2_with fail
          go_roundw
          case rel => exact ⟨si + 1, hlt, by go_num, congrArg (fun s : LayB => Value.int .i64 (s.e : Int)) ST.out.symm, by rw [ST.out]; exact KF.out, b9⟩
          case measure => simp [intOf]; omega
        · skip
          first | (have hE6 : (E == 512) = false := by simp; omega) | skip
          first | (have hE7 : ¬ 512 = E := by omega) | skip
          first | (have hE8 : (E : Int) ≤ 512 := by omega) | skip
          go_wp2_with fail
          have carry : Blk wr.drew g so ∧ Byt wr.drew (.slice ap lb.length cp) lb := ⟨hB, SB⟩
          refine wp_region_noPanic ?_
          refine wp_region_held_drew (S := fun w' => Below g w w') (by kernel_rfl) (hb.drew) (fun hHeld => ?_)
          generalize wr.drew = D at hHeld carry ⊢
          have k1 := hHeld
          refine wpAnyH_take (i := 0) (oi := ⟨some 58, _, _, _, _, _⟩) (v := ?qv0r11b) rfl (by kernel_rfl) (by kernel_rfl) (by kernel_rfl) (fun _ _ _ h => h) (Or.inl ⟨by rfl, ?qy0r11b⟩) hHeld ?qr0r11b
          case qy0r11b => (intro w' hSw; go_simp; try with_reducible rfl)
          try simp only [Act.put, List.setIfInBounds_toArray, List.set_cons_zero, List.set_cons_succ]
          refine wpAnyH_take (i := 1) (oi := ⟨some 59, _, _, _, _, _⟩) (v := ?qv1r11b) rfl (by kernel_rfl) (by kernel_rfl) (by kernel_rfl) (fun _ _ _ h => h) (Or.inl ⟨by rfl, ?qy1r11b⟩) hHeld ?qr1r11b
          case qy1r11b => (intro w' hSw; go_simp; try with_reducible rfl)
          try simp only [Act.put, List.setIfInBounds_toArray, List.set_cons_zero, List.set_cons_succ]
          refine wpAnyH_take (i := 2) (oi := ⟨some 60, _, _, _, _, _⟩) (v := ?qv2r11b) rfl (by kernel_rfl) (by kernel_rfl) (by kernel_rfl) (fun _ _ _ h => h) (Or.inl ⟨by rfl, ?qy2r11b⟩) hHeld ?qr2r11b
          case qy2r11b => (intro w' hSw; have z2 := (hSw.cell (p := ⟨q, 2, none⟩) hql).trans c2; have z3 := (hSw.cell (p := ⟨bb, ob + si, none⟩) hbl).trans x0; go_simp; try with_reducible rfl)
          try simp only [Act.put, List.setIfInBounds_toArray, List.set_cons_zero, List.set_cons_succ]
          refine wpAnyH_take (i := 3) (oi := ⟨some 61, _, _, _, _, _⟩) (v := ?qv3r11b) rfl (by kernel_rfl) (by kernel_rfl) (by kernel_rfl) (fun _ _ _ h => h) (Or.inl ⟨by rfl, ?qy3r11b⟩) hHeld ?qr3r11b
          case qy3r11b => (intro w' hSw; go_simp; try with_reducible rfl)
          try simp only [Act.put, List.setIfInBounds_toArray, List.set_cons_zero, List.set_cons_succ]
          refine wpAnyH_take (i := 4) (oi := ⟨some 62, _, _, _, _, _⟩) (v := ?qv4r11b) rfl (by kernel_rfl) (by kernel_rfl) (by kernel_rfl) (fun _ _ _ h => h) (Or.inl ⟨by rfl, ?qy4r11b⟩) hHeld ?qr4r11b
          case qy4r11b => (intro w' hSw; go_simp; try with_reducible rfl)
          try simp only [Act.put, List.setIfInBounds_toArray, List.set_cons_zero, List.set_cons_succ]
          refine wpAnyH_take (i := 5) (oi := ⟨some 63, _, _, _, _, _⟩) (v := ?qv5r11b) rfl (by kernel_rfl) (by kernel_rfl) (by kernel_rfl) (fun _ _ _ h => h) (Or.inl ⟨by rfl, ?qy5r11b⟩) hHeld ?qr5r11b
          case qy5r11b => (intro w' hSw; go_simp; try with_reducible rfl)
          try simp only [Act.put, List.setIfInBounds_toArray, List.set_cons_zero, List.set_cons_succ]
          refine wpAnyH_take (i := 6) (oi := ⟨some 64, _, _, _, _, _⟩) (v := ?qv6r11b) rfl (by kernel_rfl) (by kernel_rfl) (by kernel_rfl) (fun _ _ _ h => h) (Or.inl ⟨by rfl, ?qy6r11b⟩) hHeld ?qr6r11b
          case qy6r11b => (intro w' hSw; have z2 := (hSw.cell (p := ⟨q, 2, none⟩) hql).trans c2; have z3 := (hSw.cell (p := ⟨bb, ob + si, none⟩) hbl).trans x0; go_simp; try with_reducible rfl)
          try simp only [Act.put, List.setIfInBounds_toArray, List.set_cons_zero, List.set_cons_succ]
          refine wpAnyH_take (i := 7) (oi := ⟨some 65, _, _, _, _, _⟩) (v := ?qv7r11b) rfl (by kernel_rfl) (by kernel_rfl) (by kernel_rfl) (fun _ _ _ h => h) (Or.inl ⟨by rfl, ?qy7r11b⟩) hHeld ?qr7r11b
          case qy7r11b => (intro w' hSw; go_simp; try with_reducible rfl)
          try simp only [Act.put, List.setIfInBounds_toArray, List.set_cons_zero, List.set_cons_succ]
          refine wpAnyH_take (i := 8) (oi := ⟨some 66, _, _, _, _, _⟩) (v := ?qv8r11b) rfl (by kernel_rfl) (by kernel_rfl) (by kernel_rfl) (fun _ _ _ h => h) (Or.inl ⟨by rfl, ?qy8r11b⟩) hHeld ?qr8r11b
          case qy8r11b => (intro w' hSw; go_simp; try with_reducible rfl)
          try simp only [Act.put, List.setIfInBounds_toArray, List.set_cons_zero, List.set_cons_succ]
          refine wpAnyH_take (i := 9) (oi := ⟨some 67, _, _, _, _, _⟩) (v := ?qv9r11b) rfl (by kernel_rfl) (by kernel_rfl) (by kernel_rfl) (fun _ _ _ h => h) (Or.inl ⟨by rfl, ?qy9r11b⟩) hHeld ?qr9r11b
          case qy9r11b => (intro w' hSw; have z2 := (hSw.cell (p := ⟨q, 2, none⟩) hql).trans c2; have z3 := (hSw.cell (p := ⟨bb, ob + si, none⟩) hbl).trans x0; go_simp; try with_reducible rfl)
          try simp only [Act.put, List.setIfInBounds_toArray, List.set_cons_zero, List.set_cons_succ]
          refine wpAnyH_ready (rs := [10]) (by kernel_rfl) (by simp) ?_
          refine AllReadyH.cons (o := ⟨some 68, _, _, _, _, _⟩) rfl (fun K hK => ?_) AllReadyH.nil
          rw [if_pos (show Region.wanted _ _ = true from rfl)]
          first | (refine wp_copy_blk (.tmp 60) (.tmp 67) _ _ rfl Tryd.underlying30 _ ap _ _ cp g E so lb rfl rfl carry.1 carry.2 ?zpb ?zfb ?zob ?zkb) | (refine wp_copy_blk (.tmp 60) (.tmp 67) _ _ rfl Tryd.underlying30 _ ap _ _ cp g 512 so lb rfl rfl carry.1 carry.2 ?zpb ?zfb ?zob ?zkb)
          case zpb => first | exact fun h => absurd h (by have := HE.out; omega) | exact fun _ => rfl
          case zfb => (have := HE.out; omega)
          case zob => (have := HE.out; omega)
          intro w5 K5 o5
          refine hK.out _ _ (k1.trans o5.below) (fun hHeld => ?_)
          clear hK K
          try simp only [Act.put, List.setIfInBounds_toArray, List.set_cons_zero, List.set_cons_succ]
          refine wpAnyH_done (by kernel_rfl) ?_ _
          refine NoPanic.normal ?_
          have b5 : Below g w w5 := hHeld
          obtain ⟨S5, hS5⟩ : ∃ S5, S5 = splice so E lb := ⟨_, rfl⟩
          rw [← hS5] at K5 ST
          have HL5 : S5.length = 512 := by rw [hS5, splice_length _ _ _ (by have := HE.out; omega)]; exact l3
          clear hS5
          clear carry hHeld k1 o5
          go_wp2_with fail
          have carry : Blk w5.drew g S5 := K5
          refine wp_region_noPanic ?_
          refine wp_region_held_drew (S := fun w' => Below g w w') (by kernel_rfl) (b5.drew) (fun hHeld => ?_)
          generalize w5.drew = D at hHeld carry ⊢
          have k1 := hHeld
          refine wpAnyH_take (i := 0) (oi := ⟨some 69, _, _, _, _, _⟩) (v := ?qv0r12b) rfl (by kernel_rfl) (by kernel_rfl) (by kernel_rfl) (fun _ _ _ h => h) (Or.inl ⟨by rfl, ?qy0r12b⟩) hHeld ?qr0r12b
          case qy0r12b => (intro w' hSw; go_simp; try with_reducible rfl)
          try simp only [Act.put, List.setIfInBounds_toArray, List.set_cons_zero, List.set_cons_succ]
          refine wpAnyH_take (i := 1) (oi := ⟨some 70, _, _, _, _, _⟩) (v := ?qv1r12b) rfl (by kernel_rfl) (by kernel_rfl) (by kernel_rfl) (fun _ _ _ h => h) (Or.inl ⟨by rfl, ?qy1r12b⟩) hHeld ?qr1r12b
          case qy1r12b => (intro w' hSw; go_simp; try with_reducible rfl)
          try simp only [Act.put, List.setIfInBounds_toArray, List.set_cons_zero, List.set_cons_succ]
          refine wpAnyH_take (i := 2) (oi := ⟨some 71, _, _, _, _, _⟩) (v := ?qv2r12b) rfl (by kernel_rfl) (by kernel_rfl) (by kernel_rfl) (fun _ _ _ h => h) (Or.inl ⟨by rfl, ?qy2r12b⟩) hHeld ?qr2r12b
          case qy2r12b => (intro w' hSw; go_simp; try with_reducible rfl)
          try simp only [Act.put, List.setIfInBounds_toArray, List.set_cons_zero, List.set_cons_succ]
          refine wpAnyH_take (i := 3) (oi := ⟨some 72, _, _, _, _, _⟩) (v := ?qv3r12b) rfl (by kernel_rfl) (by kernel_rfl) (by kernel_rfl) (fun _ _ _ h => h) (Or.inl ⟨by rfl, ?qy3r12b⟩) hHeld ?qr3r12b
          case qy3r12b => (intro w' hSw; go_simp; try with_reducible rfl)
          try simp only [Act.put, List.setIfInBounds_toArray, List.set_cons_zero, List.set_cons_succ]
          refine wpAnyH_take (i := 4) (oi := ⟨some 73, _, _, _, _, _⟩) (v := ?qv4r12b) rfl (by kernel_rfl) (by kernel_rfl) (by kernel_rfl) (fun _ _ _ h => h) (Or.inl ⟨by rfl, ?qy4r12b⟩) hHeld ?qr4r12b
          case qy4r12b => (intro w' hSw; skip; go_simp; try with_reducible rfl)
          try simp only [Act.put, List.setIfInBounds_toArray, List.set_cons_zero, List.set_cons_succ]
          refine wpAnyH_take (i := 5) (oi := ⟨some 74, _, _, _, _, _⟩) (v := ?qv5r12b) rfl (by kernel_rfl) (by kernel_rfl) (by kernel_rfl) (fun _ _ _ h => h) (Or.inl ⟨by rfl, ?qy5r12b⟩) hHeld ?qr5r12b
          case qy5r12b => (intro w' hSw; go_simp; try with_reducible rfl)
          try simp only [Act.put, List.setIfInBounds_toArray, List.set_cons_zero, List.set_cons_succ]
          refine wpAnyH_take (i := 6) (oi := ⟨some 75, _, _, _, _, _⟩) (v := ?qv6r12b) rfl (by kernel_rfl) (by kernel_rfl) (by kernel_rfl) (fun _ _ _ h => h) (Or.inl ⟨by rfl, ?qy6r12b⟩) hHeld ?qr6r12b
          case qy6r12b => (intro w' hSw; go_simp; try with_reducible rfl)
          try simp only [Act.put, List.setIfInBounds_toArray, List.set_cons_zero, List.set_cons_succ]
          refine wpAnyH_ready (rs := [7]) (by kernel_rfl) (by simp) ?_
          refine AllReadyH.cons (o := ⟨some 76, _, _, _, _, _⟩) rfl (fun K hK => ?_) AllReadyH.nil
          refine step_go (by rfl) 57 _ _ (by rfl) (fun _ _ => by kernel_rfl) _ (by rfl) (putN_any E 2 (by omega) _) ?_
          rintro e w6 ⟨v6, rfl, o6, b6⟩
          refine ⟨_, rfl, ?_⟩
          obtain ⟨a6, c6, rfl, _⟩ := Rd.of_own o6
          refine hK.out _ _ (k1.trans (b6.mono (Nat.le_of_lt carry.lt))) (fun hHeld => ?_)
          clear hK K
          try simp only [Act.put, List.setIfInBounds_toArray, List.set_cons_zero, List.set_cons_succ]
          refine wpAnyH_ready (rs := [8]) (by kernel_rfl) (by simp) ?_
          refine AllReadyH.cons (o := ⟨some 77, _, _, _, _, _⟩) rfl (fun K hK => ?_) AllReadyH.nil
          rw [if_pos (show Region.wanted _ _ = true from rfl)]
          refine wp_copy_blk (.tmp 73) (.tmp 76) _ _ rfl Tryd.underlying30 _ a6 _ _ c6 g A S5 (leN E 2) rfl rfl (carry.below b6 carry.lt) (Own.byt o6) (fun _ => rfl) (by rw [leN_length]; omega) (by rw [leN_length]; omega) ?_
          intro w7 K7 o7
          refine hK.out _ _ ((k1.trans (b6.mono (Nat.le_of_lt carry.lt))).trans o7.below) (fun hHeld => ?_)
          clear hK K
          try simp only [Act.put, List.setIfInBounds_toArray, List.set_cons_zero, List.set_cons_succ]
          refine wpAnyH_done (by kernel_rfl) ?_ _
          refine NoPanic.normal ?_
          have b7 : Below g w w7 := hHeld
          have hl7 : (splice S5 A (leN E 2)).length = 512 := by rw [splice_length _ _ _ (by rw [leN_length]; omega)]; exact HL5
          have K7' : Blk w7 g (wr2 S5 A E) := by rw [← splice_two _ _ _ (by omega)]; exact K7
          have HL7 : (wr2 S5 A E).length = 512 := by rw [wr2_length]; exact HL5
          clear carry hHeld k1 o7 K7 hl7 o6
          go_wp2_with fail
          have carry : Blk w7.drew g (wr2 S5 A E) := K7'
          refine wp_region_noPanic ?_
          refine wp_region_held_drew (S := fun w' => Below g w w') (by kernel_rfl) (b7.drew) (fun hHeld => ?_)
          generalize w7.drew = D at hHeld carry ⊢
          have k1 := hHeld
          refine wpAnyH_take (i := 0) (oi := ⟨some 78, _, _, _, _, _⟩) (v := ?qv0r13b) rfl (by kernel_rfl) (by kernel_rfl) (by kernel_rfl) (fun _ _ _ h => h) (Or.inl ⟨by rfl, ?qy0r13b⟩) hHeld ?qr0r13b
          case qy0r13b => (intro w' hSw; go_simp; try with_reducible rfl)
          try simp only [Act.put, List.setIfInBounds_toArray, List.set_cons_zero, List.set_cons_succ]
          refine wpAnyH_take (i := 1) (oi := ⟨some 79, _, _, _, _, _⟩) (v := ?qv1r13b) rfl (by kernel_rfl) (by kernel_rfl) (by kernel_rfl) (fun _ _ _ h => h) (Or.inl ⟨by rfl, ?qy1r13b⟩) hHeld ?qr1r13b
          case qy1r13b => (intro w' hSw; go_simp; try with_reducible rfl)
          try simp only [Act.put, List.setIfInBounds_toArray, List.set_cons_zero, List.set_cons_succ]
          refine wpAnyH_take (i := 2) (oi := ⟨some 80, _, _, _, _, _⟩) (v := ?qv2r13b) rfl (by kernel_rfl) (by kernel_rfl) (by kernel_rfl) (fun _ _ _ h => h) (Or.inl ⟨by rfl, ?qy2r13b⟩) hHeld ?qr2r13b
          case qy2r13b => (intro w' hSw; go_simp; try with_reducible rfl)
          try simp only [Act.put, List.setIfInBounds_toArray, List.set_cons_zero, List.set_cons_succ]
          refine wpAnyH_take (i := 3) (oi := ⟨some 81, _, _, _, _, _⟩) (v := ?qv3r13b) rfl (by kernel_rfl) (by kernel_rfl) (by kernel_rfl) (fun _ _ _ h => h) (Or.inl ⟨by rfl, ?qy3r13b⟩) hHeld ?qr3r13b
          case qy3r13b => (intro w' hSw; go_simp; try with_reducible rfl)
          try simp only [Act.put, List.setIfInBounds_toArray, List.set_cons_zero, List.set_cons_succ]
          refine wpAnyH_take (i := 4) (oi := ⟨some 82, _, _, _, _, _⟩) (v := ?qv4r13b) rfl (by kernel_rfl) (by kernel_rfl) (by kernel_rfl) (fun _ _ _ h => h) (Or.inl ⟨by rfl, ?qy4r13b⟩) hHeld ?qr4r13b
          case qy4r13b => (intro w' hSw; have z2 := (hSw.cell (p := ⟨q, 2, none⟩) hql).trans c2; have z3 := (hSw.cell (p := ⟨bb, ob + si, none⟩) hbl).trans x0; go_simp; try with_reducible rfl)
          try simp only [Act.put, List.setIfInBounds_toArray, List.set_cons_zero, List.set_cons_succ]
          refine wpAnyH_take (i := 5) (oi := ⟨some 83, _, _, _, _, _⟩) (v := ?qv5r13b) rfl (by kernel_rfl) (by kernel_rfl) (by kernel_rfl) (fun _ _ _ h => h) (Or.inl ⟨by rfl, ?qy5r13b⟩) hHeld ?qr5r13b
          case qy5r13b => (intro w' hSw; go_simp; try with_reducible rfl)
          try simp only [Act.put, List.setIfInBounds_toArray, List.set_cons_zero, List.set_cons_succ]
          refine wpAnyH_take (i := 6) (oi := ⟨some 84, _, _, _, _, _⟩) (v := ?qv6r13b) rfl (by kernel_rfl) (by kernel_rfl) (by kernel_rfl) (fun _ _ _ h => h) (Or.inl ⟨by rfl, ?qy6r13b⟩) hHeld ?qr6r13b
          case qy6r13b => (intro w' hSw; go_simp; try with_reducible rfl)
          try simp only [Act.put, List.setIfInBounds_toArray, List.set_cons_zero, List.set_cons_succ]
          refine wpAnyH_take (i := 7) (oi := ⟨some 85, _, _, _, _, _⟩) (v := ?qv7r13b) rfl (by kernel_rfl) (by kernel_rfl) (by kernel_rfl) (fun _ _ _ h => h) (Or.inl ⟨by rfl, ?qy7r13b⟩) hHeld ?qr7r13b
          case qy7r13b => (intro w' hSw; go_simp; try with_reducible rfl)
          try simp only [Act.put, List.setIfInBounds_toArray, List.set_cons_zero, List.set_cons_succ]
          refine wpAnyH_take (i := 8) (oi := ⟨some 86, _, _, _, _, _⟩) (v := ?qv8r13b) rfl (by kernel_rfl) (by kernel_rfl) (by kernel_rfl) (fun _ _ _ h => h) (Or.inl ⟨by rfl, ?qy8r13b⟩) hHeld ?qr8r13b
          case qy8r13b => (intro w' hSw; have z2 := (hSw.cell (p := ⟨q, 2, none⟩) hql).trans c2; have z3 := (hSw.cell (p := ⟨bb, ob + si, none⟩) hbl).trans x0; go_simp; try with_reducible rfl)
          try simp only [Act.put, List.setIfInBounds_toArray, List.set_cons_zero, List.set_cons_succ]
          refine wpAnyH_take (i := 9) (oi := ⟨some 87, _, _, _, _, _⟩) (v := ?qv9r13b) rfl (by kernel_rfl) (by kernel_rfl) (by kernel_rfl) (fun _ _ _ h => h) (Or.inl ⟨by rfl, ?qy9r13b⟩) hHeld ?qr9r13b
          case qy9r13b => (intro w' hSw; go_simp; try with_reducible rfl)
          try simp only [Act.put, List.setIfInBounds_toArray, List.set_cons_zero, List.set_cons_succ]
          refine wpAnyH_take (i := 10) (oi := ⟨some 88, _, _, _, _, _⟩) (v := ?qv10r13b) rfl (by kernel_rfl) (by kernel_rfl) (by kernel_rfl) (fun _ _ _ h => h) (Or.inl ⟨by rfl, ?qy10r13b⟩) hHeld ?qr10r13b
          case qy10r13b => (intro w' hSw; go_simp; try with_reducible rfl)
          try simp only [Act.put, List.setIfInBounds_toArray, List.set_cons_zero, List.set_cons_succ]
          refine wpAnyH_take (i := 11) (oi := ⟨some 89, _, _, _, _, _⟩) (v := ?qv11r13b) rfl (by kernel_rfl) (by kernel_rfl) (by kernel_rfl) (fun _ _ _ h => h) (Or.inl ⟨by rfl, ?qy11r13b⟩) hHeld ?qr11r13b
          case qy11r13b => (intro w' hSw; have z2 := (hSw.cell (p := ⟨q, 2, none⟩) hql).trans c2; have z3 := (hSw.cell (p := ⟨bb, ob + si, none⟩) hbl).trans x0; go_simp; try with_reducible rfl)
          try simp only [Act.put, List.setIfInBounds_toArray, List.set_cons_zero, List.set_cons_succ]
          refine wpAnyH_take (i := 12) (oi := ⟨some 90, _, _, _, _, _⟩) (v := ?qv12r13b) rfl (by kernel_rfl) (by kernel_rfl) (by kernel_rfl) (fun _ _ _ h => h) (Or.inl ⟨by rfl, ?qy12r13b⟩) hHeld ?qr12r13b
          case qy12r13b => (intro w' hSw; go_simp; try with_reducible rfl)
          try simp only [Act.put, List.setIfInBounds_toArray, List.set_cons_zero, List.set_cons_succ]
          refine wpAnyH_take (i := 13) (oi := ⟨some 91, _, _, _, _, _⟩) (v := ?qv13r13b) rfl (by kernel_rfl) (by kernel_rfl) (by kernel_rfl) (fun _ _ _ h => h) (Or.inl ⟨by rfl, ?qy13r13b⟩) hHeld ?qr13r13b
          case qy13r13b => (intro w' hSw; go_simp; try with_reducible rfl)
          try simp only [Act.put, List.setIfInBounds_toArray, List.set_cons_zero, List.set_cons_succ]
          refine wpAnyH_take (i := 14) (oi := ⟨some 92, _, _, _, _, _⟩) (v := ?qv14r13b) rfl (by kernel_rfl) (by kernel_rfl) (by kernel_rfl) (fun _ _ _ h => h) (Or.inl ⟨by rfl, ?qy14r13b⟩) hHeld ?qr14r13b
          case qy14r13b => (intro w' hSw; go_simp; try with_reducible rfl)
          try simp only [Act.put, List.setIfInBounds_toArray, List.set_cons_zero, List.set_cons_succ]
          refine wpAnyH_ready (rs := [15]) (by kernel_rfl) (by simp) ?_
          refine AllReadyH.cons (o := ⟨some 93, _, _, _, _, _⟩) rfl (fun K hK => ?_) AllReadyH.nil
          refine step_go (by rfl) 57 _ _ (by rfl) (fun _ _ => by kernel_rfl) _ (by rfl) (putN_any M 2 (by omega) _) ?_
          rintro e w8 ⟨v8, rfl, o8, b8⟩
          refine ⟨_, rfl, ?_⟩
          obtain ⟨a8, c8, rfl, _⟩ := Rd.of_own o8
          refine hK.out _ _ (k1.trans (b8.mono (Nat.le_of_lt carry.lt))) (fun hHeld => ?_)
          clear hK K
          try simp only [Act.put, List.setIfInBounds_toArray, List.set_cons_zero, List.set_cons_succ]
          refine wpAnyH_ready (rs := [16]) (by kernel_rfl) (by simp) ?_
          refine AllReadyH.cons (o := ⟨some 94, _, _, _, _, _⟩) rfl (fun K hK => ?_) AllReadyH.nil
          rw [if_pos (show Region.wanted _ _ = true from rfl)]
          refine wp_copy_blk (.tmp 82) (.tmp 93) _ _ rfl Tryd.underlying30 _ a8 _ _ c8 g A2 (wr2 S5 A E) (leN M 2) rfl rfl (carry.below b8 carry.lt) (Own.byt o8) (fun _ => rfl) (by rw [leN_length]; omega) (by rw [leN_length]; omega) ?_
          intro w9 K9 o9
          refine hK.out _ _ ((k1.trans (b8.mono (Nat.le_of_lt carry.lt))).trans o9.below) (fun hHeld => ?_)
          clear hK K
          try simp only [Act.put, List.setIfInBounds_toArray, List.set_cons_zero, List.set_cons_succ]
          refine wpAnyH_done (by kernel_rfl) ?_ _
          refine NoPanic.normal ?_
          have b9 : Below g w w9 := hHeld
          have K9' : Blk w9 g (wr2 (wr2 S5 A E) A2 M) := by rw [← splice_two _ _ _ (by omega)]; exact K9
          have KF := Lib.hid K9'
          clear carry hHeld k1 o9 K9 K9' o8
          go_wp2_with fail
          go_roundw
          case rel => exact ⟨si + 1, hlt, by go_num, congrArg (fun s : LayB => Value.int .i64 (s.e : Int)) ST.out.symm, by rw [ST.out]; exact KF.out, b9⟩
          case measure => simp [intOf]; omega
    · obtain rfl : k = r.length := by omega
      have t0 : decide ((r.length : Int) < (r.length : Int)) = false := by simp
      obtain ⟨lo1, lo2, lo3⟩ := lo
      have hpb : pageB kind id (snds r) = wr4 (layB kind id (snds r) r.length).out 12 (crcSum (layB kind id (snds r) r.length).out).toNat := by unfold pageB; rw [hsl]
      have HP := Lib.hid hpb
      have hcr := (crcSum (layB kind id (snds r) r.length).out).isLt
      have carry : Blk wr.drew g (layB kind id (snds r) r.length).out := hB
      have SU := Lib.hid (fun (w' : World) (h' : Blk w' g (layB kind id (snds r) r.length).out) => sumR_any _ _ w' (h'.byt lo3))
      generalize (layB kind id (snds r) r.length).out = out at *
      generalize (layB kind id (snds r) r.length).e = en at *
      have hcn : IntKind.u64.wrap ((crcSum out).toNat : Int) = ((crcSum out).toNat : Int) := by show ((crcSum out).toNat : Int) % 18446744073709551616 = _; omega
      generalize (crcSum out).toNat = S at *
      clear hpb lo1 lo2 hB
      go_wp2_with fail
      refine wp_region_noPanic ?_
      refine wp_region_held_drew (S := fun w' => Below g w w') (by kernel_rfl) (hb.drew) (fun hHeld => ?_)
      generalize wr.drew = D at hHeld carry ⊢
      have k1 := hHeld
      refine wpAnyH_take (i := 0) (oi := ⟨some 95, _, _, _, _, _⟩) (v := ?qv0bw) rfl (by kernel_rfl) (by kernel_rfl) (by kernel_rfl) (fun _ _ _ h => h) (Or.inl ⟨by rfl, ?qy0bw⟩) hHeld ?qr0bw
      case qy0bw => (intro w' hSw; go_simp; try with_reducible rfl)
      try simp only [Act.put, List.setIfInBounds_toArray, List.set_cons_zero, List.set_cons_succ]
      refine wpAnyH_take (i := 1) (oi := ⟨some 96, _, _, _, _, _⟩) (v := ?qv1bw) rfl (by kernel_rfl) (by kernel_rfl) (by kernel_rfl) (fun _ _ _ h => h) (Or.inl ⟨by rfl, ?qy1bw⟩) hHeld ?qr1bw
      case qy1bw => (intro w' hSw; skip; go_simp; try with_reducible rfl)
      try simp only [Act.put, List.setIfInBounds_toArray, List.set_cons_zero, List.set_cons_succ]
      refine wpAnyH_take (i := 2) (oi := ⟨some 97, _, _, _, _, _⟩) (v := ?qv2bw) rfl (by kernel_rfl) (by kernel_rfl) (by kernel_rfl) (fun _ _ _ h => h) (Or.inl ⟨by rfl, ?qy2bw⟩) hHeld ?qr2bw
      case qy2bw => (intro w' hSw; go_simp; try with_reducible rfl)
      try simp only [Act.put, List.setIfInBounds_toArray, List.set_cons_zero, List.set_cons_succ]
      refine wpAnyH_ready (rs := [3]) (by kernel_rfl) (by simp) ?_
      refine AllReadyH.cons (o := ⟨some 98, _, _, _, _, _⟩) rfl (fun K hK => ?_) AllReadyH.nil
      refine step_go (by rfl) 58 _ _ (by rfl) (fun _ _ => by kernel_rfl) _ (by rfl) (SU.out _ carry) ?_
      rintro e w5 ⟨rfl, rfl⟩
      refine ⟨_, rfl, ?_⟩
      refine hK.out _ _ (k1) (fun hHeld => ?_)
      clear hK K
      try simp only [Act.put, List.setIfInBounds_toArray, List.set_cons_zero, List.set_cons_succ]
      refine wpAnyH_take (i := 4) (oi := ⟨some 99, _, _, _, _, _⟩) (v := ?qv4bw) rfl (by kernel_rfl) (by kernel_rfl) (by kernel_rfl) (fun _ _ _ h => h) (Or.inl ⟨by rfl, ?qy4bw⟩) hHeld ?qr4bw
      case qy4bw => (intro w' hSw; go_simp; try with_reducible rfl)
      try simp only [Act.put, List.setIfInBounds_toArray, List.set_cons_zero, List.set_cons_succ]
      refine wpAnyH_ready (rs := [5]) (by kernel_rfl) (by simp) ?_
      refine AllReadyH.cons (o := ⟨some 100, _, _, _, _, _⟩) rfl (fun K hK => ?_) AllReadyH.nil
      refine step_go (by rfl) 57 _ _ (by rfl) (fun _ _ => by kernel_rfl) _ (by rfl) (putN_any S 4 (by omega) _) ?_
      rintro e w6 ⟨v6, rfl, o6, b6⟩
      refine ⟨_, rfl, ?_⟩
      obtain ⟨a6, c6, rfl, _⟩ := Rd.of_own o6
      refine hK.out _ _ (k1.trans (b6.mono (Nat.le_of_lt carry.lt))) (fun hHeld => ?_)
      clear hK K
      try simp only [Act.put, List.setIfInBounds_toArray, List.set_cons_zero, List.set_cons_succ]
      refine wpAnyH_ready (rs := [6]) (by kernel_rfl) (by simp) ?_
      refine AllReadyH.cons (o := ⟨some 101, _, _, _, _, _⟩) rfl (fun K hK => ?_) AllReadyH.nil
      rw [if_pos (show Region.wanted _ _ = true from rfl)]
      refine wp_copy_blk (.tmp 96) (.tmp 100) _ _ rfl Tryd.underlying30 _ a6 _ _ c6 g 12 out (leN S 4) rfl rfl (carry.below b6 carry.lt) (Own.byt o6) (fun _ => rfl) (by rw [leN_length]; omega) (by rw [leN_length]; omega) ?_
      intro w7 K7 o7
      refine hK.out _ _ ((k1.trans (b6.mono (Nat.le_of_lt carry.lt))).trans o7.below) (fun hHeld => ?_)
      clear hK K
      try simp only [Act.put, List.setIfInBounds_toArray, List.set_cons_zero, List.set_cons_succ]
      refine wpAnyH_done (by kernel_rfl) ?_ _
      refine NoPanic.normal ?_
      have B7 : Below g w w7 := hHeld
      have KF := Lib.hid (show Blk w7 g (wr4 out 12 S) by rw [← splice_four _ _ _ (by omega)]; exact K7)
      clear carry hHeld k1 o7 K7 o6
      go_wp2_with fail
      go_ret
      exact ⟨g, rfl, Nat.le_of_eq HGS.out, by rw [HP.out]; exact KF.out, by rw [HGS.out]; exact B7⟩
end Go.Proofs.YtdeibgljibcnlaaDoor
