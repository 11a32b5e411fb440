/- slots.Page.Bytes. -/
import Derived.Test.YtdeibgljibcnlaaDoorPut16
import Derived.Test.YtdeibgljibcnlaaDoorCopyB
import Derived.Test.YtdeibgljibcnlaaDoorSum
import Derived.Test.YtdeibgljibcnlaaDoorReg
namespace Go.Proofs.YtdeibgljibcnlaaDoor
open Go.RowKit

theorem make_512 (w : World) : (Instr.makeSlice 30 (.int .i64 512) (.int .i64 512)).run Tryd.prog w = .ok (.slice (some ⟨w.heap.size, 0, none⟩) 512 512) (w.alloc (.cells (madeCells #[.int .u8 0] 512) 5)) := by
  obtain ⟨i8, hi8, hz, hsize, hby⟩ := info_parts info_u8
  have h := run_make (P := Tryd.prog) w 30 5 i8 (.int .u8 0) Tryd.underlying30 hi8 hz .i64 .i64 512 512 (by omega) (by omega) (by rw [hby]; omega) (by omega)
  rw [hsize] at h
  simpa [Value.cells] using h
theorem made_512 (w : World) : Blk (w.alloc (.cells (madeCells #[.int .u8 0] 512) 5)) w.heap.size (List.replicate 512 0) := by
  have e : (w.alloc (.cells (madeCells #[.int .u8 0] 512) 5)).heap[w.heap.size]? = some (.cells (madeCells #[.int .u8 0] 512) 5 (0, 0)) := heap_alloc_new _ _
  unfold Blk
  rw [e]
  congr 2
  apply Array.toList_inj.1
  rw [toList_madeCells_one, List.toList_toArray]
  unfold bytesV
  rw [List.map_replicate]
  rfl

set_option maxRecDepth 100000 in
set_option maxHeartbeats 4000000 in
theorem PBytes_any {w : World} {base p kind id : Nat} {st : List SlotL} (h : PageS w base p kind id st) :
    Calls Tryd.prog 9 #[.pointer (some ⟨p, 0, none⟩)] w fun e w' => ∃ g, e = .returned (.slice (some ⟨g, 0, none⟩) 512 512) ∧ w.heap.size ≤ g ∧ Blk w' g (pageB kind id st) ∧ Below w.heap.size w w' := by
  obtain ⟨hs, hl, r, rfl, hp⟩ := h
  have hsl : (snds r).length = r.length := by simp [snds]
  have hgk := fun k (hk : k < r.length) => (show (snds r)[k]'(by omega) = r[k].2 by simp [snds])
  obtain ⟨ao, c, h1, h2⟩ := hp.row
  have G := Lib.hid (gone_page h1)
  have hpl := lt_of_block h1
  have c1 : w.cell? ⟨p, 1, none⟩ = some (.int .i64 kind) := by simp [World.cell?, h1]
  have c2 : w.cell? ⟨p, 2, none⟩ = some (.int .i64 id) := by simp [World.cell?, h1]
  have c3 : w.cell? ⟨p, 3, none⟩ = some (.slice ao r.length c) := by simp [World.cell?, h1]
  obtain ⟨ao', c', e1, q1, q2, q3⟩ := h2.open
  simp only [Value.slice.injEq, true_and] at e1
  obtain ⟨rfl, rfl⟩ := e1
  have HC := Lib.hid q3
  have hr := h2.2
  have HF := Lib.hid (show ∀ i (h : i < r.length) w', Below w.heap.size w w' → SlotIs w' base r[i] from fun i h w' hb => (hr _ (List.getElem_mem h)).below hb)
  have HG := Lib.hid (show ∀ i (h : i < r.length), ∃ ao c, r[i].1 = .slice ao (blen r[i].2) c ∧ c ≤ maxLen from fun i h => (hr _ (List.getElem_mem h)).form)
  unfold maxLen at q2
  have LO := Lib.hid (layB_ok kind id (snds r) hs)
  have LS := Lib.hid (fun k (hk : k < r.length) => (show layB kind id (snds r) (k + 1) = stepB (layB kind id (snds r) k) r[k].2 by rw [layB_succ _ _ _ _ (by omega)]; simp [snds]))
  have LE := Lib.hid (fun k (hk : k < r.length) => (show ((snds r).take (k + 1)).map blen = ((snds r).take k).map blen ++ [blen r[k].2] by rw [List.take_succ_eq_append_getElem (by omega), List.map_append]; simp [snds]))
  have LT := Lib.hid (fun k => (show ((snds r).take k).map blen ++ ((snds r).drop k).map blen = (snds r).map blen by rw [← List.map_append, List.take_append_drop]))
  have HS := Lib.hid (show 16 + 4 * r.length + ((snds r).map blen).sum ≤ 512 by unfold sizeS at hs; omega)
  rw [hsl] at LO
  have hmk := make_512
  have MK := Lib.hid (made_512 w)
  have BA : Below w.heap.size w (w.alloc (.cells (madeCells #[.int .u8 0] 512) 5)) := (Below.refl _ _).alloc (Nat.le_refl _) _
  clear hp h1 h2 q3 hr
  go_enter Tryd.func9, Tryd.ntmps9
  go_wp2_with fail
  refine G.out.mono ?_
  rintro e w1 ⟨rfl, rfl⟩
  go_wp2_with fail
  generalize w.alloc (.cells (madeCells #[.int .u8 0] 512) 5) = w2 at *
  generalize hgs : w.heap.size = g at *
  have HGS := Lib.hid hgs
  clear hgs
  obtain ⟨m0, f0⟩ := MK.out.cell (j := 0) (by rw [List.length_replicate]; omega)
  have S0 := MK.out.set 0 (UInt8.ofNat kind)
  obtain ⟨m1, f1⟩ := S0.cell (j := 1) (by rw [List.length_set, List.length_replicate]; omega)
  have er : (UInt8.ofNat r.length).toNat = r.length := by rw [UInt8.toNat_ofNat']; omega
  have S1 := S0.set 1 (UInt8.ofNat r.length)
  have BB := (BA.setCell (p := ⟨g, 0, none⟩) (Nat.le_refl _) (.int .u8 ((UInt8.ofNat kind).toNat : Int))).setCell (p := ⟨g, 1, none⟩) (Nat.le_refl _) (.int .u8 ((UInt8.ofNat r.length).toNat : Int))
  rw [er] at S1 BB
  have S2 := Lib.hid (show Blk (((w2.setCell ⟨g, 0, none⟩ (.int .u8 ((UInt8.ofNat kind).toNat : Int))).setCell ⟨g, 1, none⟩ (.int .u8 (r.length : Int))).drew) g _ from S1)
  have B2 := Lib.hid BB.drew
  have d1 := (BA.cell (p := ⟨p, 1, none⟩) hpl).trans c1
  have d3 := (BA.cell (p := ⟨p, 3, none⟩) hpl).trans c3
  have e1 := byte_of kind
  generalize (UInt8.ofNat kind).toNat = x1 at *
  generalize ((List.replicate 512 (0 : UInt8))[0]'(by rw [List.length_replicate]; omega)) = y1 at *
  generalize ((List.replicate 512 (0 : UInt8)).set 0 (UInt8.ofNat kind))[1]'(by rw [List.length_set, List.length_replicate]; omega) = y2 at *
  clear S0 S1 MK hmk BB er
  go_region
  go_wp2_with fail
  generalize ((w2.setCell ⟨g, 0, none⟩ (.int .u8 (x1 : Int))).setCell ⟨g, 1, none⟩ (.int .u8 (r.length : Int))).drew = w3 at *
  clear f0 m0 f1 m1 d1 d3 BA e1
  have B3 := B2.out
  have carry : Blk w3.drew g (((List.replicate 512 (0 : UInt8)).set 0 (UInt8.ofNat kind)).set 1 (UInt8.ofNat r.length)) := S2.out
  refine wp_region_noPanic ?_
  refine wp_region_held_drew (S := fun w' => Below g w w') (by kernel_rfl) (B3.drew) (fun hHeld => ?_)
  generalize w3.drew = D at hHeld carry ⊢
  have k1 := hHeld
  refine wpAnyH_take (i := 0) (oi := ⟨some 26, _, _, _, _, _⟩) (v := ?qv0by) rfl (by kernel_rfl) (by kernel_rfl) (by kernel_rfl) (fun _ _ _ h => h) (Or.inl ⟨by rfl, ?qy0by⟩) hHeld ?qr0by
  case qy0by => (intro w' hSw; go_simp; try with_reducible rfl)
  try simp only [Act.put, List.setIfInBounds_toArray, List.set_cons_zero, List.set_cons_succ]
  refine wpAnyH_take (i := 1) (oi := ⟨some 27, _, _, _, _, _⟩) (v := ?qv1by) rfl (by kernel_rfl) (by kernel_rfl) (by kernel_rfl) (fun _ _ _ h => h) (Or.inl ⟨by rfl, ?qy1by⟩) hHeld ?qr1by
  case qy1by => (intro w' hSw; have z2 := (hSw.cell (p := ⟨p, 2, none⟩) hpl).trans c2; go_simp; try with_reducible rfl)
  try simp only [Act.put, List.setIfInBounds_toArray, List.set_cons_zero, List.set_cons_succ]
  refine wpAnyH_take (i := 2) (oi := ⟨some 28, _, _, _, _, _⟩) (v := ?qv2by) rfl (by kernel_rfl) (by kernel_rfl) (by kernel_rfl) (fun _ _ _ h => h) (Or.inl ⟨by rfl, ?qy2by⟩) hHeld ?qr2by
  case qy2by => (intro w' hSw; go_simp; try with_reducible rfl)
  try simp only [Act.put, List.setIfInBounds_toArray, List.set_cons_zero, List.set_cons_succ]
  refine wpAnyH_take (i := 3) (oi := ⟨some 29, _, _, _, _, _⟩) (v := ?qv3by) rfl (by kernel_rfl) (by kernel_rfl) (by kernel_rfl) (fun _ _ _ h => h) (Or.inl ⟨by rfl, ?qy3by⟩) hHeld ?qr3by
  case qy3by => (intro w' hSw; go_simp; try with_reducible rfl)
  try simp only [Act.put, List.setIfInBounds_toArray, List.set_cons_zero, List.set_cons_succ]
  refine wpAnyH_take (i := 4) (oi := ⟨some 30, _, _, _, _, _⟩) (v := ?qv4by) rfl (by kernel_rfl) (by kernel_rfl) (by kernel_rfl) (fun _ _ _ h => h) (Or.inl ⟨by rfl, ?qy4by⟩) hHeld ?qr4by
  case qy4by => (intro w' hSw; go_simp; try with_reducible rfl)
  try simp only [Act.put, List.setIfInBounds_toArray, List.set_cons_zero, List.set_cons_succ]
  refine wpAnyH_take (i := 5) (oi := ⟨some 31, _, _, _, _, _⟩) (v := ?qv5by) rfl (by kernel_rfl) (by kernel_rfl) (by kernel_rfl) (fun _ _ _ h => h) (Or.inl ⟨by rfl, ?qy5by⟩) hHeld ?qr5by
  case qy5by => (intro w' hSw; have z2 := (hSw.cell (p := ⟨p, 2, none⟩) hpl).trans c2; go_simp; try with_reducible rfl)
  try simp only [Act.put, List.setIfInBounds_toArray, List.set_cons_zero, List.set_cons_succ]
  refine wpAnyH_ready (rs := [6]) (by kernel_rfl) (by simp) ?_
  refine AllReadyH.cons (o := ⟨some 32, _, _, _, _, _⟩) rfl (fun K hK => ?_) AllReadyH.nil
  refine step_go (by rfl) 29 _ _ (by rfl) (fun _ _ => by kernel_rfl) _ (by rfl) (put32_any carry 2 510 510 id (by simp) (by omega) (by omega)) ?_
  rintro e w4 ⟨rfl, K4, b4⟩
  refine ⟨_, rfl, ?_⟩
  refine hK.out _ _ (k1.trans b4.below) (fun hHeld => ?_)
  clear hK K
  try simp only [Act.put, List.setIfInBounds_toArray, List.set_cons_zero, List.set_cons_succ]
  refine wpAnyH_done (by kernel_rfl) ?_ _
  refine NoPanic.normal ?_
  have B4 : Below g w w4 := k1.trans b4.below
  have K4' : Blk w4 g (layB kind id (snds r) 0).out := by
    unfold layB
    rw [List.take_zero, List.foldl_nil, hsl]
    exact K4
  have e0 : (layB kind id (snds r) 0).e = 512 := rfl
  have KK := Lib.hid K4'
  clear K4 K4' k1 b4 carry hHeld B3 S2 B2 c1 c2
  have d3 := (B4.cell (p := ⟨p, 3, none⟩) hpl).trans c3
  go_wp2_with fail
  go_loopw [38, 4] (fun i en wr => ∃ k : Nat, k ≤ r.length ∧ i = .int .i64 k ∧ en = .int .i64 (layB kind id (snds r) k).e ∧ Blk wr g (layB kind id (snds r) k).out ∧ Below g w wr) (fun i _ _ => r.length - (intOf i).toNat)
  case atStart => exact ⟨0, Nat.zero_le _, rfl, rfl, KK.out, B4⟩
  case round =>
    obtain ⟨k, hk, rfl, rfl, hB, hb⟩ := hrel
    have lo := LO.out k hk
    by_cases hlt : k < r.length
    · obtain ⟨b, off, rfl, hbl, x0, x1⟩ := HC.out k hlt
      have hx0 := (hb.cell (p := ⟨b, off + k * 2, none⟩) hbl).trans x0
      have hx1 := (hb.cell (p := ⟨b, off + k * 2 + 1, none⟩) hbl).trans x1
      obtain ⟨ab, cb, e1, hcb⟩ := HG.out k hlt
      rw [e1] at hx0
      have hA : ∀ o, Below wr.heap.size wr (wr.alloc o) := fun o => (Below.refl _ _).alloc (Nat.le_refl _) o
      have i0 : (0 : Int) ≤ (k : Int) := by omega
      have i1 : (k : Int) < (r.length : Int) := by omega
      have SI := HF.out k hlt wr hb
      have st1 := LS.out k hlt
      have hle := LE.out k hlt
      have htt := LT.out (k + 1)
      generalize (layB kind id (snds r) k) = s0 at *
      obtain ⟨si, se, so⟩ := s0
      simp only at lo hB ⊢
      obtain ⟨rfl, l2, l3⟩ := lo
      have hgl := hB.lt
      clear x0 x1 d3
      cases hf : r[si].2 with
      | none =>
        rw [hf] at hx1 hx0 st1
        simp only [Option.isSome_none, blen, stepB] at hx1 hx0 st1
        have ST := Lib.hid st1
        have KF := Lib.hid (hB.below (hA (.cells #[.slice ab 0 cb, .bool false] 64)) hgl)
        have BF := Lib.hid (hb.trans ((hA (.cells #[.slice ab 0 cb, .bool false] 64)).mono (Nat.le_of_lt hgl)))
        clear hA SI hle htt hB e1 hf st1
        go_wp2_with fail
        go_roundw
        case rel => exact ⟨si + 1, hlt, by go_num, by rw [ST.out], by rw [ST.out]; exact KF.out, BF.out⟩
        case measure => simp [intOf]; omega
      | some lb =>
        have SJ : Own wr base (.slice ab lb.length cb) lb := by
          have h := SI
          unfold SlotIs at h
          rw [hf] at h
          rw [hf] at e1
          exact e1 ▸ h
        clear SI
        rw [hf] at hx1 hx0 st1 hle
        simp only [Option.isSome_some, blen, stepB] at hx1 hx0 st1 hle
        have hsum : (((snds r).take (si + 1)).map blen).sum = (((snds r).take si).map blen).sum + lb.length := by rw [hle, List.sum_append]; simp
        have hsum2 : (((snds r).take (si + 1)).map blen).sum ≤ ((snds r).map blen).sum := by rw [← htt, List.sum_append]; omega
        have hs5 := HS.out
        have hse : 16 + 4 * r.length + lb.length ≤ se := by omega
        have hse2 : se ≤ 512 := by omega
        clear hsum hsum2 htt hle l2
        obtain ⟨A, hA1⟩ : ∃ A : Nat, (16 : Int) + 4 * (si : Int) = (A : Int) ∧ A = 16 + 4 * si := ⟨16 + 4 * si, by omega, rfl⟩
        obtain ⟨hA2, hA3⟩ := hA1
        rw [show 18 + 4 * si = A + 2 by omega, show 16 + 4 * si = A by omega] at st1
        have hsi := Lib.hid hA3
        have hA4 : A ≤ 252 ∧ 16 ≤ A := by omega
        obtain ⟨E, hE2, hE3⟩ : ∃ E : Nat, (se : Int) - (lb.length : Int) = (E : Int) ∧ E + lb.length = se := ⟨se - lb.length, by omega, by omega⟩
        have HE := Lib.hid hE3
        rw [show se - lb.length = E by omega] at st1
        have ST := Lib.hid st1
        have hlb : lb.length ≤ 496 := by omega
        clear st1
        have hE4 : E ≤ 512 ∧ 16 ≤ E := by omega
        have hAn : (A == 512) = false := by simp; omega
        have hAn' : (512 == A) = false := by simp; omega
        have hB1 := hB.below (hA (.cells #[.slice ab lb.length cb, .bool true] 64)) hgl
        have BF1 := hb.trans ((hA (.cells #[.slice ab lb.length cb, .bool true] 64)).mono (Nat.le_of_lt hgl))
        have SB1 : Byt (wr.alloc (.cells #[.slice ab lb.length cb, .bool true] 64)) (.slice ab lb.length cb) lb := (Own.byt SJ).below (hA _)
        have sc1 : (wr.alloc (.cells #[.slice ab lb.length cb, .bool true] 64)).cell? ⟨wr.heap.size, 0, none⟩ = some (.slice ab lb.length cb) := by simp
        have sl1 : wr.heap.size < (wr.alloc (.cells #[.slice ab lb.length cb, .bool true] 64)).heap.size := by simp
        clear hA hB e1 hf hA3 hE3 SJ
        rcases (show E = 512 ∨ E < 512 by omega) with rfl | hE5
        · first | (have hE6 : (E == 512) = false := by simp; omega) | skip
          first | (have hE7 : ¬ 512 = E := by omega) | skip
          first | (have hE8 : (E : Int) ≤ 512 := by omega) | skip
          go_wp2_with fail
          generalize wr.alloc (.cells #[.slice ab lb.length cb, .bool true] 64) = wa at *
          generalize wr.heap.size = N at *
          have carry : Blk wa.drew g so ∧ Below g w wa.drew ∧ Byt wa.drew (.slice ab lb.length cb) lb ∧ wa.drew.cell? ⟨N, 0, none⟩ = some (.slice ab lb.length cb) ∧ N < wa.drew.heap.size := ⟨hB1, BF1.drew, SB1, sc1, sl1⟩
          clear hB1 BF1 SB1 sl1
          refine wp_region_noPanic ?_
          refine wp_region_held_drew (S := fun w' => w'.cell? ⟨N, 0, none⟩ = some (.slice ab lb.length cb)) (by kernel_rfl) (sc1) (fun hHeld => ?_)
          generalize wa.drew = D at hHeld carry ⊢
          have k1 := hHeld
          refine wpAnyH_take (i := 0) (oi := ⟨some 56, _, _, _, _, _⟩) (v := ?qv0bz1) rfl (by kernel_rfl) (by kernel_rfl) (by kernel_rfl) (fun _ _ _ h => h) (Or.inl ⟨by rfl, ?qy0bz1⟩) hHeld ?qr0bz1
          case qy0bz1 => (intro w' hSw; go_simp; try with_reducible rfl)
          try simp only [Act.put, List.setIfInBounds_toArray, List.set_cons_zero, List.set_cons_succ]
          refine wpAnyH_take (i := 1) (oi := ⟨some 57, _, _, _, _, _⟩) (v := ?qv1bz1) rfl (by kernel_rfl) (by kernel_rfl) (by kernel_rfl) (fun _ _ _ h => h) (Or.inl ⟨by rfl, ?qy1bz1⟩) hHeld ?qr1bz1
          case qy1bz1 => (intro w' hSw; go_simp; try with_reducible rfl)
          try simp only [Act.put, List.setIfInBounds_toArray, List.set_cons_zero, List.set_cons_succ]
          refine wpAnyH_take (i := 2) (oi := ⟨some 58, _, _, _, _, _⟩) (v := ?qv2bz1) rfl (by kernel_rfl) (by kernel_rfl) (by kernel_rfl) (fun _ _ _ h => h) (Or.inl ⟨by rfl, ?qy2bz1⟩) hHeld ?qr2bz1
          case qy2bz1 => (intro w' hSw; have z2 := hSw; go_simp; try with_reducible rfl)
          try simp only [Act.put, List.setIfInBounds_toArray, List.set_cons_zero, List.set_cons_succ]
          refine wpAnyH_take (i := 3) (oi := ⟨some 59, _, _, _, _, _⟩) (v := ?qv3bz1) rfl (by kernel_rfl) (by kernel_rfl) (by kernel_rfl) (fun _ _ _ h => h) (Or.inl ⟨by rfl, ?qy3bz1⟩) hHeld ?qr3bz1
          case qy3bz1 => (intro w' hSw; go_simp; try with_reducible rfl)
          try simp only [Act.put, List.setIfInBounds_toArray, List.set_cons_zero, List.set_cons_succ]
          refine wpAnyH_take (i := 4) (oi := ⟨some 60, _, _, _, _, _⟩) (v := ?qv4bz1) rfl (by kernel_rfl) (by kernel_rfl) (by kernel_rfl) (fun _ _ _ h => h) (Or.inl ⟨by rfl, ?qy4bz1⟩) hHeld ?qr4bz1
          case qy4bz1 => (intro w' hSw; have z2 := hSw; go_simp; try with_reducible rfl)
          try simp only [Act.put, List.setIfInBounds_toArray, List.set_cons_zero, List.set_cons_succ]
          refine wpAnyH_ready (rs := [5]) (by kernel_rfl) (by simp) ?_
          refine AllReadyH.cons (o := ⟨some 61, _, _, _, _, _⟩) rfl (fun K hK => ?_) AllReadyH.nil
          rw [if_pos (show Region.wanted _ _ = true from rfl)]
          first | (refine wp_copy_blk (.tmp 58) (.tmp 60) _ _ rfl Tryd.underlying30 _ ab _ _ cb g E so lb rfl rfl carry.1 carry.2.2.1 ?zp1 ?zf1 ?zo1 ?zk1) | (refine wp_copy_blk (.tmp 58) (.tmp 60) _ _ rfl Tryd.underlying30 _ ab _ _ cb g 512 so lb rfl rfl carry.1 carry.2.2.1 ?zp1 ?zf1 ?zo1 ?zk1)
          case zp1 => first | exact fun h => absurd h (by have := HE.out; omega) | exact fun _ => rfl
          case zf1 => (have := HE.out; omega)
          case zo1 => (have := HE.out; omega)
          intro w5 K5 o5
          refine hK.out _ _ ((o5.cell (j := 0) (by omega) carry.2.2.2.2).trans k1) (fun hHeld => ?_)
          clear hK K
          try simp only [Act.put, List.setIfInBounds_toArray, List.set_cons_zero, List.set_cons_succ]
          refine wpAnyH_done (by kernel_rfl) ?_ _
          refine NoPanic.normal ?_
          have hNl := carry.2.2.2.2
          have B5 : Below g w w5 := carry.2.1.trans o5.below
          have z5 : w5.cell? ⟨N, 0, none⟩ = some (.slice ab lb.length cb) := hHeld
          have hN5 := Nat.lt_of_lt_of_le hNl o5.size
          first | (have P6 := Lib.hid (put16_any K5 A (512 - A) (512 - A) E (by rw [splice_length _ _ _ (by have := HE.out; omega)]; omega) (by omega))) | (have P6 := Lib.hid (put16_any K5 A (512 - A) (512 - A) 512 (by rw [splice_length _ _ _ (by have := HE.out; omega)]; omega) (by omega)))
          clear carry hHeld sc1 k1 o5 hNl
          go_wp2_with fail
          refine (P6.out).mono ?_
          rintro e w6 ⟨rfl, K6, o6⟩
          have B6 : Below g w w6.drew := (B5.trans o6.below).drew
          have z6 : w6.drew.cell? ⟨N, 0, none⟩ = some (.slice ab lb.length cb) := (o6.cell (j := 0) (by omega) hN5).trans z5
          have hN6 := Nat.lt_of_lt_of_le hN5 o6.size
          have carry : Blk w6.drew g _ ∧ Below g w w6.drew ∧ N < w6.drew.heap.size := ⟨K6, B6, hN6⟩
          have hA5 : ¬ 512 - A = 2 := by omega
          have hW : IntKind.i64.wrap ((lb.length : Int) + 1) = (lb.length : Int) + 1 := IntWalk.i64_in _ (by omega)
          have hA6 : (2 : Int) ≤ ((512 - A : Nat) : Int) := by omega
          have hA7 : (512 - A == 2) = false := by simp; omega
          clear P6 K5 K6 z5 B5 o6 hN5 hN6 B6
          go_wp2_with fail
          refine wp_region_noPanic ?_
          refine wp_region_held_drew (S := fun w' => w'.cell? ⟨N, 0, none⟩ = some (.slice ab lb.length cb)) (by kernel_rfl) (z6) (fun hHeld => ?_)
          generalize w6.drew = D at hHeld carry ⊢
          have k1 := hHeld
          refine wpAnyH_take (i := 0) (oi := ⟨some 65, _, _, _, _, _⟩) (v := ?qv0bx1) rfl (by kernel_rfl) (by kernel_rfl) (by kernel_rfl) (fun _ _ _ h => h) (Or.inl ⟨by rfl, ?qy0bx1⟩) hHeld ?qr0bx1
          case qy0bx1 => (intro w' hSw; go_simp; try with_reducible rfl)
          try simp only [Act.put, List.setIfInBounds_toArray, List.set_cons_zero, List.set_cons_succ]
          refine wpAnyH_take (i := 1) (oi := ⟨some 66, _, _, _, _, _⟩) (v := ?qv1bx1) rfl (by kernel_rfl) (by kernel_rfl) (by kernel_rfl) (fun _ _ _ h => h) (Or.inl ⟨by rfl, ?qy1bx1⟩) hHeld ?qr1bx1
          case qy1bx1 => (intro w' hSw; have z2 := hSw; go_simp; try with_reducible rfl)
          try simp only [Act.put, List.setIfInBounds_toArray, List.set_cons_zero, List.set_cons_succ]
          refine wpAnyH_take (i := 2) (oi := ⟨some 67, _, _, _, _, _⟩) (v := ?qv2bx1) rfl (by kernel_rfl) (by kernel_rfl) (by kernel_rfl) (fun _ _ _ h => h) (Or.inl ⟨by rfl, ?qy2bx1⟩) hHeld ?qr2bx1
          case qy2bx1 => (intro w' hSw; go_simp; try with_reducible rfl)
          try simp only [Act.put, List.setIfInBounds_toArray, List.set_cons_zero, List.set_cons_succ]
          refine wpAnyH_take (i := 3) (oi := ⟨some 68, _, _, _, _, _⟩) (v := ?qv3bx1) rfl (by kernel_rfl) (by kernel_rfl) (by kernel_rfl) (fun _ _ _ h => h) (Or.inl ⟨by rfl, ?qy3bx1⟩) hHeld ?qr3bx1
          case qy3bx1 => (intro w' hSw; have z2 := hSw; go_simp; try with_reducible rfl)
          try simp only [Act.put, List.setIfInBounds_toArray, List.set_cons_zero, List.set_cons_succ]
          refine wpAnyH_take (i := 4) (oi := ⟨some 69, _, _, _, _, _⟩) (v := ?qv4bx1) rfl (by kernel_rfl) (by kernel_rfl) (by kernel_rfl) (fun _ _ _ h => h) (Or.inl ⟨by rfl, ?qy4bx1⟩) hHeld ?qr4bx1
          case qy4bx1 => (intro w' hSw; go_simp; try with_reducible rfl)
          try simp only [Act.put, List.setIfInBounds_toArray, List.set_cons_zero, List.set_cons_succ]
          refine wpAnyH_take (i := 5) (oi := ⟨some 70, _, _, _, _, _⟩) (v := ?qv5bx1) rfl (by kernel_rfl) (by kernel_rfl) (by kernel_rfl) (fun _ _ _ h => h) (Or.inl ⟨by rfl, ?qy5bx1⟩) hHeld ?qr5bx1
          case qy5bx1 => (intro w' hSw; go_simp; try with_reducible rfl)
          try simp only [Act.put, List.setIfInBounds_toArray, List.set_cons_zero, List.set_cons_succ]
          refine wpAnyH_ready (rs := [6]) (by kernel_rfl) (by simp) ?_
          refine AllReadyH.cons (o := ⟨some 71, _, _, _, _, _⟩) rfl (fun K hK => ?_) AllReadyH.nil
          refine step_go (by rfl) 30 _ _ (by rfl) (fun _ _ => by kernel_rfl) _ (by rfl) (put16_any carry.1 (A + 2) (512 - A - 2) (512 - A - 2) (lb.length + 1) (by rw [wr2_length, splice_length _ _ _ (by have := HE.out; omega)]; omega) (by omega)) ?_
          rintro e w7 ⟨rfl, K7, o7⟩
          refine ⟨_, rfl, ?_⟩
          refine hK.out _ _ ((o7.cell (j := 0) (by omega) carry.2.2).trans k1) (fun hHeld => ?_)
          clear hK K
          try simp only [Act.put, List.setIfInBounds_toArray, List.set_cons_zero, List.set_cons_succ]
          refine wpAnyH_done (by kernel_rfl) ?_ _
          refine NoPanic.normal ?_
          have B7 : Below g w w7 := carry.2.1.trans o7.below
          have KF := Lib.hid K7
          clear carry hHeld z6 k1 o7 K7
          go_wp2_with fail
          go_roundw
          case rel => exact ⟨si + 1, hlt, by go_num, congrArg (fun s : LayB => Value.int .i64 (s.e : Int)) ST.out.symm, by rw [ST.out]; exact KF.out, B7⟩
          case measure => simp [intOf]; omega
        · first | (have hE6 : (E == 512) = false := by simp; omega) | skip
          first | (have hE7 : ¬ 512 = E := by omega) | skip
          first | (have hE8 : (E : Int) ≤ 512 := by omega) | skip
          go_wp2_with fail
          generalize wr.alloc (.cells #[.slice ab lb.length cb, .bool true] 64) = wa at *
          generalize wr.heap.size = N at *
          have carry : Blk wa.drew g so ∧ Below g w wa.drew ∧ Byt wa.drew (.slice ab lb.length cb) lb ∧ wa.drew.cell? ⟨N, 0, none⟩ = some (.slice ab lb.length cb) ∧ N < wa.drew.heap.size := ⟨hB1, BF1.drew, SB1, sc1, sl1⟩
          clear hB1 BF1 SB1 sl1
          refine wp_region_noPanic ?_
          refine wp_region_held_drew (S := fun w' => w'.cell? ⟨N, 0, none⟩ = some (.slice ab lb.length cb)) (by kernel_rfl) (sc1) (fun hHeld => ?_)
          generalize wa.drew = D at hHeld carry ⊢
          have k1 := hHeld
          refine wpAnyH_take (i := 0) (oi := ⟨some 56, _, _, _, _, _⟩) (v := ?qv0bz2) rfl (by kernel_rfl) (by kernel_rfl) (by kernel_rfl) (fun _ _ _ h => h) (Or.inl ⟨by rfl, ?qy0bz2⟩) hHeld ?qr0bz2
          case qy0bz2 => (intro w' hSw; go_simp; try with_reducible rfl)
          try simp only [Act.put, List.setIfInBounds_toArray, List.set_cons_zero, List.set_cons_succ]
          refine wpAnyH_take (i := 1) (oi := ⟨some 57, _, _, _, _, _⟩) (v := ?qv1bz2) rfl (by kernel_rfl) (by kernel_rfl) (by kernel_rfl) (fun _ _ _ h => h) (Or.inl ⟨by rfl, ?qy1bz2⟩) hHeld ?qr1bz2
          case qy1bz2 => (intro w' hSw; go_simp; try with_reducible rfl)
          try simp only [Act.put, List.setIfInBounds_toArray, List.set_cons_zero, List.set_cons_succ]
          refine wpAnyH_take (i := 2) (oi := ⟨some 58, _, _, _, _, _⟩) (v := ?qv2bz2) rfl (by kernel_rfl) (by kernel_rfl) (by kernel_rfl) (fun _ _ _ h => h) (Or.inl ⟨by rfl, ?qy2bz2⟩) hHeld ?qr2bz2
          case qy2bz2 => (intro w' hSw; have z2 := hSw; go_simp; try with_reducible rfl)
          try simp only [Act.put, List.setIfInBounds_toArray, List.set_cons_zero, List.set_cons_succ]
          refine wpAnyH_take (i := 3) (oi := ⟨some 59, _, _, _, _, _⟩) (v := ?qv3bz2) rfl (by kernel_rfl) (by kernel_rfl) (by kernel_rfl) (fun _ _ _ h => h) (Or.inl ⟨by rfl, ?qy3bz2⟩) hHeld ?qr3bz2
          case qy3bz2 => (intro w' hSw; go_simp; try with_reducible rfl)
          try simp only [Act.put, List.setIfInBounds_toArray, List.set_cons_zero, List.set_cons_succ]
          refine wpAnyH_take (i := 4) (oi := ⟨some 60, _, _, _, _, _⟩) (v := ?qv4bz2) rfl (by kernel_rfl) (by kernel_rfl) (by kernel_rfl) (fun _ _ _ h => h) (Or.inl ⟨by rfl, ?qy4bz2⟩) hHeld ?qr4bz2
          case qy4bz2 => (intro w' hSw; have z2 := hSw; go_simp; try with_reducible rfl)
          try simp only [Act.put, List.setIfInBounds_toArray, List.set_cons_zero, List.set_cons_succ]
          refine wpAnyH_ready (rs := [5]) (by kernel_rfl) (by simp) ?_
          refine AllReadyH.cons (o := ⟨some 61, _, _, _, _, _⟩) rfl (fun K hK => ?_) AllReadyH.nil
          rw [if_pos (show Region.wanted _ _ = true from rfl)]
          first | (refine wp_copy_blk (.tmp 58) (.tmp 60) _ _ rfl Tryd.underlying30 _ ab _ _ cb g E so lb rfl rfl carry.1 carry.2.2.1 ?zp2 ?zf2 ?zo2 ?zk2) | (refine wp_copy_blk (.tmp 58) (.tmp 60) _ _ rfl Tryd.underlying30 _ ab _ _ cb g 512 so lb rfl rfl carry.1 carry.2.2.1 ?zp2 ?zf2 ?zo2 ?zk2)
          case zp2 => first | exact fun h => absurd h (by have := HE.out; omega) | exact fun _ => rfl
          case zf2 => (have := HE.out; omega)
          case zo2 => (have := HE.out; omega)
          intro w5 K5 o5
          refine hK.out _ _ ((o5.cell (j := 0) (by omega) carry.2.2.2.2).trans k1) (fun hHeld => ?_)
          clear hK K
          try simp only [Act.put, List.setIfInBounds_toArray, List.set_cons_zero, List.set_cons_succ]
          refine wpAnyH_done (by kernel_rfl) ?_ _
          refine NoPanic.normal ?_
          have hNl := carry.2.2.2.2
          have B5 : Below g w w5 := carry.2.1.trans o5.below
          have z5 : w5.cell? ⟨N, 0, none⟩ = some (.slice ab lb.length cb) := hHeld
          have hN5 := Nat.lt_of_lt_of_le hNl o5.size
          first | (have P6 := Lib.hid (put16_any K5 A (512 - A) (512 - A) E (by rw [splice_length _ _ _ (by have := HE.out; omega)]; omega) (by omega))) | (have P6 := Lib.hid (put16_any K5 A (512 - A) (512 - A) 512 (by rw [splice_length _ _ _ (by have := HE.out; omega)]; omega) (by omega)))
          clear carry hHeld sc1 k1 o5 hNl
          go_wp2_with fail
          refine (P6.out).mono ?_
          rintro e w6 ⟨rfl, K6, o6⟩
          have B6 : Below g w w6.drew := (B5.trans o6.below).drew
          have z6 : w6.drew.cell? ⟨N, 0, none⟩ = some (.slice ab lb.length cb) := (o6.cell (j := 0) (by omega) hN5).trans z5
          have hN6 := Nat.lt_of_lt_of_le hN5 o6.size
          have carry : Blk w6.drew g _ ∧ Below g w w6.drew ∧ N < w6.drew.heap.size := ⟨K6, B6, hN6⟩
          have hA5 : ¬ 512 - A = 2 := by omega
          have hW : IntKind.i64.wrap ((lb.length : Int) + 1) = (lb.length : Int) + 1 := IntWalk.i64_in _ (by omega)
          have hA6 : (2 : Int) ≤ ((512 - A : Nat) : Int) := by omega
          have hA7 : (512 - A == 2) = false := by simp; omega
          clear P6 K5 K6 z5 B5 o6 hN5 hN6 B6
          go_wp2_with fail
          refine wp_region_noPanic ?_
          refine wp_region_held_drew (S := fun w' => w'.cell? ⟨N, 0, none⟩ = some (.slice ab lb.length cb)) (by kernel_rfl) (z6) (fun hHeld => ?_)
          generalize w6.drew = D at hHeld carry ⊢
          have k1 := hHeld
          refine wpAnyH_take (i := 0) (oi := ⟨some 65, _, _, _, _, _⟩) (v := ?qv0bx2) rfl (by kernel_rfl) (by kernel_rfl) (by kernel_rfl) (fun _ _ _ h => h) (Or.inl ⟨by rfl, ?qy0bx2⟩) hHeld ?qr0bx2
          case qy0bx2 => (intro w' hSw; go_simp; try with_reducible rfl)
          try simp only [Act.put, List.setIfInBounds_toArray, List.set_cons_zero, List.set_cons_succ]
          refine wpAnyH_take (i := 1) (oi := ⟨some 66, _, _, _, _, _⟩) (v := ?qv1bx2) rfl (by kernel_rfl) (by kernel_rfl) (by kernel_rfl) (fun _ _ _ h => h) (Or.inl ⟨by rfl, ?qy1bx2⟩) hHeld ?qr1bx2
          case qy1bx2 => (intro w' hSw; have z2 := hSw; go_simp; try with_reducible rfl)
          try simp only [Act.put, List.setIfInBounds_toArray, List.set_cons_zero, List.set_cons_succ]
          refine wpAnyH_take (i := 2) (oi := ⟨some 67, _, _, _, _, _⟩) (v := ?qv2bx2) rfl (by kernel_rfl) (by kernel_rfl) (by kernel_rfl) (fun _ _ _ h => h) (Or.inl ⟨by rfl, ?qy2bx2⟩) hHeld ?qr2bx2
          case qy2bx2 => (intro w' hSw; go_simp; try with_reducible rfl)
          try simp only [Act.put, List.setIfInBounds_toArray, List.set_cons_zero, List.set_cons_succ]
          refine wpAnyH_take (i := 3) (oi := ⟨some 68, _, _, _, _, _⟩) (v := ?qv3bx2) rfl (by kernel_rfl) (by kernel_rfl) (by kernel_rfl) (fun _ _ _ h => h) (Or.inl ⟨by rfl, ?qy3bx2⟩) hHeld ?qr3bx2
          case qy3bx2 => (intro w' hSw; have z2 := hSw; go_simp; try with_reducible rfl)
          try simp only [Act.put, List.setIfInBounds_toArray, List.set_cons_zero, List.set_cons_succ]
          refine wpAnyH_take (i := 4) (oi := ⟨some 69, _, _, _, _, _⟩) (v := ?qv4bx2) rfl (by kernel_rfl) (by kernel_rfl) (by kernel_rfl) (fun _ _ _ h => h) (Or.inl ⟨by rfl, ?qy4bx2⟩) hHeld ?qr4bx2
          case qy4bx2 => (intro w' hSw; go_simp; try with_reducible rfl)
          try simp only [Act.put, List.setIfInBounds_toArray, List.set_cons_zero, List.set_cons_succ]
          refine wpAnyH_take (i := 5) (oi := ⟨some 70, _, _, _, _, _⟩) (v := ?qv5bx2) rfl (by kernel_rfl) (by kernel_rfl) (by kernel_rfl) (fun _ _ _ h => h) (Or.inl ⟨by rfl, ?qy5bx2⟩) hHeld ?qr5bx2
          case qy5bx2 => (intro w' hSw; go_simp; try with_reducible rfl)
          try simp only [Act.put, List.setIfInBounds_toArray, List.set_cons_zero, List.set_cons_succ]
          refine wpAnyH_ready (rs := [6]) (by kernel_rfl) (by simp) ?_
          refine AllReadyH.cons (o := ⟨some 71, _, _, _, _, _⟩) rfl (fun K hK => ?_) AllReadyH.nil
          refine step_go (by rfl) 30 _ _ (by rfl) (fun _ _ => by kernel_rfl) _ (by rfl) (put16_any carry.1 (A + 2) (512 - A - 2) (512 - A - 2) (lb.length + 1) (by rw [wr2_length, splice_length _ _ _ (by have := HE.out; omega)]; omega) (by omega)) ?_
          rintro e w7 ⟨rfl, K7, o7⟩
          refine ⟨_, rfl, ?_⟩
          refine hK.out _ _ ((o7.cell (j := 0) (by omega) carry.2.2).trans k1) (fun hHeld => ?_)
          clear hK K
          try simp only [Act.put, List.setIfInBounds_toArray, List.set_cons_zero, List.set_cons_succ]
          refine wpAnyH_done (by kernel_rfl) ?_ _
          refine NoPanic.normal ?_
          have B7 : Below g w w7 := carry.2.1.trans o7.below
          have KF := Lib.hid K7
          clear carry hHeld z6 k1 o7 K7
          go_wp2_with fail
          go_roundw
          case rel => exact ⟨si + 1, hlt, by go_num, congrArg (fun s : LayB => Value.int .i64 (s.e : Int)) ST.out.symm, by rw [ST.out]; exact KF.out, B7⟩
          case measure => simp [intOf]; omega
    · obtain rfl : k = r.length := by omega
      obtain ⟨lo1, lo2, lo3⟩ := lo
      have hpb : pageB kind id (snds r) = wr4 (layB kind id (snds r) r.length).out 12 (crcSum (layB kind id (snds r) r.length).out).toNat := by unfold pageB; rw [hsl]
      have HP := Lib.hid hpb
      have hcr := (crcSum (layB kind id (snds r) r.length).out).isLt
      have carry : Blk wr.drew g (layB kind id (snds r) r.length).out := hB
      have SU := Lib.hid (fun (w' : World) (h' : Blk w' g (layB kind id (snds r) r.length).out) => sum_any _ _ w' (h'.byt lo3))
      generalize (layB kind id (snds r) r.length).out = out at *
      generalize (layB kind id (snds r) r.length).e = en at *
      have hcn : ((crcSum out).toNat : Int) % 18446744073709551616 = ((crcSum out).toNat : Int) := by omega
      have hcw : IntKind.i64.wrap ((crcSum out).toNat : Int) = ((crcSum out).toNat : Int) := IntWalk.i64_in _ (by omega)
      generalize (crcSum out).toNat = S at *
      clear hpb lo1 lo2 hB
      go_wp2_with fail
      refine wp_region_noPanic ?_
      refine wp_region_held_drew (S := fun w' => Below g w w') (by kernel_rfl) (hb.drew) (fun hHeld => ?_)
      generalize wr.drew = D at hHeld carry ⊢
      have k1 := hHeld
      refine wpAnyH_take (i := 0) (oi := ⟨some 73, _, _, _, _, _⟩) (v := ?qv0bw) rfl (by kernel_rfl) (by kernel_rfl) (by kernel_rfl) (fun _ _ _ h => h) (Or.inl ⟨by rfl, ?qy0bw⟩) hHeld ?qr0bw
      case qy0bw => (intro w' hSw; go_simp; try with_reducible rfl)
      try simp only [Act.put, List.setIfInBounds_toArray, List.set_cons_zero, List.set_cons_succ]
      refine wpAnyH_take (i := 1) (oi := ⟨some 74, _, _, _, _, _⟩) (v := ?qv1bw) rfl (by kernel_rfl) (by kernel_rfl) (by kernel_rfl) (fun _ _ _ h => h) (Or.inl ⟨by rfl, ?qy1bw⟩) hHeld ?qr1bw
      case qy1bw => (intro w' hSw; skip; go_simp; try with_reducible rfl)
      try simp only [Act.put, List.setIfInBounds_toArray, List.set_cons_zero, List.set_cons_succ]
      refine wpAnyH_take (i := 2) (oi := ⟨some 75, _, _, _, _, _⟩) (v := ?qv2bw) rfl (by kernel_rfl) (by kernel_rfl) (by kernel_rfl) (fun _ _ _ h => h) (Or.inl ⟨by rfl, ?qy2bw⟩) hHeld ?qr2bw
      case qy2bw => (intro w' hSw; go_simp; try with_reducible rfl)
      try simp only [Act.put, List.setIfInBounds_toArray, List.set_cons_zero, List.set_cons_succ]
      refine wpAnyH_ready (rs := [3]) (by kernel_rfl) (by simp) ?_
      refine AllReadyH.cons (o := ⟨some 76, _, _, _, _, _⟩) rfl (fun K hK => ?_) AllReadyH.nil
      refine step_go (by rfl) 31 _ _ (by rfl) (fun _ _ => by kernel_rfl) _ (by rfl) (SU.out _ carry) ?_
      rintro e w5 ⟨rfl, rfl⟩
      refine ⟨_, rfl, ?_⟩
      refine hK.out _ _ (k1) (fun hHeld => ?_)
      clear hK K
      try simp only [Act.put, List.setIfInBounds_toArray, List.set_cons_zero, List.set_cons_succ]
      refine wpAnyH_take (i := 4) (oi := ⟨some 77, _, _, _, _, _⟩) (v := ?qv4bw) rfl (by kernel_rfl) (by kernel_rfl) (by kernel_rfl) (fun _ _ _ h => h) (Or.inl ⟨by rfl, ?qy4bw⟩) hHeld ?qr4bw
      case qy4bw => (intro w' hSw; go_simp; try with_reducible rfl)
      try simp only [Act.put, List.setIfInBounds_toArray, List.set_cons_zero, List.set_cons_succ]
      refine wpAnyH_ready (rs := [5]) (by kernel_rfl) (by simp) ?_
      refine AllReadyH.cons (o := ⟨some 78, _, _, _, _, _⟩) rfl (fun K hK => ?_) AllReadyH.nil
      refine step_go (by rfl) 29 _ _ (by rfl) (fun _ _ => by kernel_rfl) _ (by rfl) (put32_any carry 12 500 500 S (by omega) (by omega) (by omega)) ?_
      rintro e w7 ⟨rfl, K7, o7⟩
      refine ⟨_, rfl, ?_⟩
      refine hK.out _ _ (k1.trans o7.below) (fun hHeld => ?_)
      clear hK K
      try simp only [Act.put, List.setIfInBounds_toArray, List.set_cons_zero, List.set_cons_succ]
      refine wpAnyH_done (by kernel_rfl) ?_ _
      refine NoPanic.normal ?_
      have B7 : Below g w w7 := k1.trans o7.below
      have KF := Lib.hid K7
      clear carry hHeld k1 o7 K7
      go_wp2_with fail
      go_ret
      exact ⟨g, rfl, Nat.le_of_eq HGS.out, by rw [HP.out]; exact KF.out, by rw [HGS.out]; exact B7⟩
end Go.Proofs.YtdeibgljibcnlaaDoor
