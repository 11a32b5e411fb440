/- enc.Object of an object that may be. enc.Object where the object may not be; pergolaref8.Object. pergolaref3.Points, Same at alike ones. pergolaalike.Bytes. pergolalaw8.awake answers true. -/
import Derived.Test.YthcfekabeidmiaaRRDoorREo22
import Derived.Test.YthcfekabeidmiaaRRDoorREo20
import Derived.Test.YthcfekabeidmiaaRRDoorREo25
import Derived.Test.YthcfekabeidmiaaRRDoorREo21
import Derived.Test.YthcfekabeidmiaaRRDoorREo1
import Derived.Deep.QuietTactic
import Derived.BigQuiet
set_option linter.unusedSimpArgs false
set_option linter.unusedVariables false
namespace Go.Proofs.YthcfekabeidmiaaRRDoorR
/-! EncObj2 -/
section
open Go.RowKit

/-- the bytes of points -/
def ptsB : List (Int × Int) → List UInt8
  | [] => []
  | p :: l => vint (zig p.1) ++ vint (zig p.2) ++ ptsB l
theorem ptsB_append : ∀ l m, ptsB (l ++ m) = ptsB l ++ ptsB m
  | [], _ => rfl
  | p :: l, m => by simp [ptsB, ptsB_append l m]
/-- the bytes of an object -/
def objB (kind : Nat) (l : List (Int × Int)) : List UInt8 := vint kind ++ vint l.length ++ ptsB l
theorem ptsB_len : ∀ l, PtsB l → (ptsB l).length ≤ 20 * l.length
  | [], _ => by simp [ptsB]
  | p :: l, h => by
    have h1 := vint_len64 _ (zig_lt p.1 (h p (by simp)).1)
    have h2 := vint_len64 _ (zig_lt p.2 (h p (by simp)).2)
    have := ptsB_len l (fun q hq => h q (by simp [hq]))
    simp only [ptsB, List.length_append, List.length_cons]
    omega

set_option maxRecDepth 100000 in
set_option maxHeartbeats 2000000 in
theorem Object_ok (kind : Nat) (v : Value) (l : List (Int × Int)) (w : World) (hv : Pts w v l) (hl : PtsB l) (hk : kind ≤ 4) (hn : l.length ≤ 1000)
    (hC : ∀ w', Below w.heap.size w w' → Calls Tryd.prog 14 #[.agg #[.int .i64 (kind : Int), v]] w' (ErRet w' .none)) :
    Calls Tryd.prog 5 #[.agg #[.int .i64 (kind : Int), v]] w fun e w' => ∃ u, e = .returned (.tuple #[u, .nilIface]) ∧ Own w' w.heap.size u (objB kind l) ∧ Below w.heap.size w w' := by
  have hv0 := hv
  obtain ⟨ao, c, rfl, h1, h2, h0, h3⟩ := hv.open
  unfold maxLen at h2
  clear h0 hv
  have B0 : Below w.heap.size w (w.alloc (.cells #[.int .i64 (kind : Int), .slice ao l.length c] 24)) := (Below.refl _ _).alloc (Nat.le_refl _) _
  have HC := Lib.hid (hC _ B0)
  have HV := Lib.hid (show ∀ w', Below w.heap.size w w' → Pts w' _ l from fun w' h => hv0.below h)
  have H3 := Lib.hid h3
  clear hC hv0 h3
  go_enter Tryd.func5, Tryd.ntmps5
  go_wp2_with fail
  refine HC.out.mono ?_
  rintro e w1 ⟨u, rfl, rfl, b1⟩
  have B1 := B0.trans (b1.mono B0.size)
  have y0 : w1.cell? ⟨w.heap.size, 0, none⟩ = some (.int .i64 (kind : Int)) := (b1.cell (p := ⟨w.heap.size, 0, none⟩) (by simp)).trans (by simp)
  have y1 : w1.cell? ⟨w.heap.size, 1, none⟩ = some (.slice ao l.length c) := (b1.cell (p := ⟨w.heap.size, 1, none⟩) (by simp)).trans (by simp)
  have hz := World.block_lt_of_cell? w1 ⟨w.heap.size, 0, none⟩ y0
  have hs1 := B1.size
  have Y := Lib.hid (show ∀ w', Below w1.drew.heap.size w1.drew w' → w'.cell? ⟨w.heap.size, 0, none⟩ = some (.int .i64 (kind : Int)) ∧ w'.cell? ⟨w.heap.size, 1, none⟩ = some (.slice ao l.length c) from fun w' h => ⟨(h.cell (p := ⟨w.heap.size, 0, none⟩) hz).trans y0, (h.cell (p := ⟨w.heap.size, 1, none⟩) hz).trans y1⟩)
  have V1 := Lib.hid (fun w => Varint_any kind (by omega) w)
  have V2 := Lib.hid (fun w => Varint_any l.length (by omega) w)
  have L1 := vint_len64 kind (by omega)
  have L2 := vint_len64 l.length (by omega)
  have i1 : (kind : Int) ≤ 4 := by omega
  have ENT := Lib.hid (show ∀ (args : Array Value) (w : World), (callFunc 15 args).run Tryd.prog w = .ok (.enter 15 args) w from fun _ _ => by kernel_rfl)
  have ENS := Lib.hid (show ∀ (args : Array Value) (w : World), (callFunc 13 args).run Tryd.prog w = .ok (.enter 13 args) w from fun _ _ => by kernel_rfl)
  have e1 := wrap_u64_nat kind (by omega)
  have e2 := wrap_u64_nat l.length (by omega)
  go_wp2_with fail
  go_region_held3 (fun w' => w'.cell? ⟨w.heap.size, 0, none⟩ = some (.int .i64 (kind : Int)) ∧ w'.cell? ⟨w.heap.size, 1, none⟩ = some (.slice ao l.length c))
    (first | go_keep | exact Y.out _ ba | exact Y.out _ (ba.trans (bb.mono ba.size)) | exact ⟨(bc.cell (p := ⟨w.heap.size, 0, none⟩) (Nat.lt_succ_self _)).trans (Y.out _ (ba.trans (bb.mono ba.size))).1, (bc.cell (p := ⟨w.heap.size, 1, none⟩) (Nat.lt_succ_self _)).trans (Y.out _ (ba.trans (bb.mono ba.size))).2⟩ | fail)
    (first
      | (have hbb := ob; refine step_append_byt (by rfl) _ _ (by rfl) (w.heap.size + 1) _ (vint kind) (by rfl) (own_base (oa.below bb) hz) _ (vint l.length) (by rfl) ob.byt (by omega) (Nat.le_trans (Nat.le_trans hz ba.size) bb.size) ?_; intro vc wc oc bc)
      | (have haa := oa; refine step_go1 (by rfl) 15 _ 47 (by rfl) ENT.out _ (by rfl) (V2.out _) ?_; rintro e wb ⟨vb, rfl, ob, bb⟩; refine ⟨_, rfl, ?_⟩)
      | (refine step_go1 (by rfl) 15 _ 47 (by rfl) ENT.out _ (by rfl) (V1.out _) ?_; rintro e wa ⟨va, rfl, oa, ba⟩; refine ⟨_, rfl, ?_⟩)
      | fail)
  obtain ⟨z0, z1⟩ := Y.out _ (ba.trans (bb.mono ba.size))
  have zz0 := (bc.cell (p := ⟨w.heap.size, 0, none⟩) (Nat.lt_succ_self _)).trans z0
  have zz1 := (bc.cell (p := ⟨w.heap.size, 1, none⟩) (Nat.lt_succ_self _)).trans z1
  have hbs : w.heap.size + 1 ≤ wb.heap.size := Nat.le_trans (Nat.le_trans hz ba.size) bb.size
  have B2 : Below w.heap.size w wc := ((B1.trans ((Below.refl _ w1).drew.mono hs1)).trans ((ba.trans (bb.mono ba.size)).mono hs1)).trans (bc.mono (Nat.le_succ _))
  have bcs := bc.size
  have PB := Lib.hid hl
  clear z0 z1 y0 y1 ba bb bc oa ob b1 hl
  go_wp2_with fail
  go_loopw [5, 26] (fun q i wr => ∃ (k : Nat), k ≤ l.length ∧ i = .int .i64 k ∧ Own wr (w.heap.size + 1) q (vint kind ++ vint l.length ++ ptsB (l.take k)) ∧ Below w.heap.size w wr ∧ w.heap.size + 1 ≤ wr.heap.size) (fun _ i _ => l.length - (intOf i).toNat)
  case atStart => exact ⟨0, Nat.zero_le _, rfl, by simpa [ptsB] using oc, B2, Nat.le_trans hbs bcs⟩
  case round =>
    obtain ⟨k, hk, rfl, ho, hb, hbr⟩ := hrel
    by_cases hlt : k < l.length
    · obtain ⟨g, off, rfl, hg, hx, hy⟩ := H3.out k hlt
      have hpt := PB.out _ (List.getElem_mem hlt)
      have hx' := (hb.cell (p := ⟨g, off + k * 2, none⟩) hg).trans hx
      have hy' := (hb.cell (p := ⟨g, off + k * 2 + 1, none⟩) hg).trans hy
      have HL := Lib.hid (show vint kind ++ vint l.length ++ ptsB (l.take (k + 1)) = (vint kind ++ vint l.length ++ ptsB (l.take k)) ++ vint (zig l[k].1) ++ vint (zig l[k].2) by rw [List.take_succ_eq_append_getElem hlt, ptsB_append]; simp [ptsB])
      clear hx hy
      generalize l[k] = p at *
      obtain ⟨x, y⟩ := p
      obtain ⟨hpx, hpy⟩ := hpt
      simp only at hx' hy' hpx hpy
      have S1 := Lib.hid (fun w => Signed_any x hpx w)
      have S2 := Lib.hid (fun w => Signed_any y hpy w)
      have K1 := vint_len64 _ (zig_lt x hpx)
      have K2 := vint_len64 _ (zig_lt y hpy)
      have KL : (vint kind ++ vint l.length ++ ptsB (l.take k)).length ≤ 20020 := by
        have := ptsB_len (l.take k) (fun q hq => PB.out q (List.mem_of_mem_take hq))
        rw [List.length_append, List.length_append]
        rw [List.length_take] at this
        omega
      generalize vint (zig x) = bx at *
      generalize vint (zig y) = byy at *
      generalize vint kind ++ vint l.length ++ ptsB (l.take k) = L at *
      clear hpx hpy
      have i0 : (0 : Int) ≤ (k : Int) := by omega
      have i1 : (k : Int) < (l.length : Int) := by omega
      have BD : Below w.heap.size w (wr.alloc (.cells #[.int .i64 x, .int .i64 y] 43)).drew := (hb.alloc hb.size _).drew
      have XS := Lib.hid (show ∀ w', Below (wr.alloc (.cells #[.int .i64 x, .int .i64 y] 43)).drew.heap.size (wr.alloc (.cells #[.int .i64 x, .int .i64 y] 43)).drew w' → w'.cell? ⟨wr.heap.size, 0, none⟩ = some (.int .i64 x) ∧ w'.cell? ⟨wr.heap.size, 1, none⟩ = some (.int .i64 y) from
        fun w' h => ⟨(h.cell (p := ⟨wr.heap.size, 0, none⟩) (by simp)).trans (by simp), (h.cell (p := ⟨wr.heap.size, 1, none⟩) (by simp)).trans (by simp)⟩)
      have hoD : Own (wr.alloc (.cells #[.int .i64 x, .int .i64 y] 43)).drew (w.heap.size + 1) u5 L := World.ownsRow.drew (World.ownsRow.alloc ho _)
      have NE1 := Lib.hid (show some wr.heap.size ≠ u5.ownBlock from fun h => by have := ho.lt _ h.symm; omega)
      have hDs : wr.heap.size < (wr.alloc (.cells #[.int .i64 x, .int .i64 y] 43)).drew.heap.size := by simp
      have OD := Lib.hid hoD
      have DS := Lib.hid hDs
      have DB := Lib.hid BD
      clear ho hoD hDs BD
      go_wp2_with fail
      clear hx' hy'
      go_region_held3 (fun w' => w'.cell? ⟨wr.heap.size, 0, none⟩ = some (.int .i64 x) ∧ w'.cell? ⟨wr.heap.size, 1, none⟩ = some (.int .i64 y))
        (first | go_keep | exact c4.out | exact c3.out | exact c2.out | exact c1.out | fail)
        (first
          | (have hbb := ob; refine step_append_lie (by rfl) _ _ (by rfl) (w.heap.size + 1) v2 (L ++ bx) (by rfl) (o2.below bb) _ byy (by rfl) ob.byt (by rw [List.length_append]; omega) (Nat.le_trans hs2 bb.size) ?_; intro v3 w3 o3 g3 a3; have c4 := Lib.hid (show w3.cell? ⟨wr.heap.size, 0, none⟩ = some (.int .i64 x) ∧ w3.cell? ⟨wr.heap.size, 1, none⟩ = some (.int .i64 y) from ⟨g3.cell c3.out.1 NE2.out, g3.cell c3.out.2 NE2.out⟩))
          | (have hgg := g2; refine step_go1 (by rfl) 13 _ 3 (by rfl) ENS.out _ (by rfl) (S2.out _) ?_; rintro e wb ⟨vb2, rfl, ob, bb⟩; refine ⟨_, rfl, ?_⟩; have c3 := Lib.hid (show wb.cell? ⟨wr.heap.size, 0, none⟩ = some (.int .i64 x) ∧ wb.cell? ⟨wr.heap.size, 1, none⟩ = some (.int .i64 y) from ⟨(bb.cell (p := ⟨wr.heap.size, 0, none⟩) hlt2).trans c2.out.1, (bb.cell (p := ⟨wr.heap.size, 1, none⟩) hlt2).trans c2.out.2⟩))
          | (have haa := oa; refine step_append_lie (by rfl) _ _ (by rfl) (w.heap.size + 1) _ L (by rfl) (OD.out.below ba) _ bx (by rfl) oa.byt (by omega) hsa ?_; intro v2 w2 o2 g2 a2; have c2 := Lib.hid (show w2.cell? ⟨wr.heap.size, 0, none⟩ = some (.int .i64 x) ∧ w2.cell? ⟨wr.heap.size, 1, none⟩ = some (.int .i64 y) from ⟨g2.cell c1.out.1 NE1.out, g2.cell c1.out.2 NE1.out⟩); have hg2s := g2.size; have hlt2 := Nat.lt_of_lt_of_le has1 hg2s; have hs2 := Nat.le_trans hsa hg2s; have NE2 := Lib.hid (ne_lie NE1.out has1 a2))
          | (refine step_go1 (by rfl) 13 _ 3 (by rfl) ENS.out _ (by rfl) (S1.out _) ?_; rintro e wa ⟨va2, rfl, oa, ba⟩; refine ⟨_, rfl, ?_⟩; have c1 := Lib.hid (XS.out _ ba); have has1 := Nat.lt_of_lt_of_le DS.out ba.size; have hsa : w.heap.size + 1 ≤ wa.heap.size := by omega)
          | fail)
      have E1 := DB.out.trans (ba.mono DB.out.size)
      have E2 := E1.trans (Own.grown (OD.out.below ba) g2 (Nat.le_succ _) E1.size)
      have E3 := E2.trans (bb.mono E2.size)
      have E4 := Lib.hid (E3.trans (Own.grown (o2.below bb) g3 (Nat.le_succ _) E3.size))
      have HS := Lib.hid (Nat.le_trans (Nat.le_trans hs2 bb.size) g3.size)
      clear E1 E2 E3 g2 g3 bb ba o2 a2 a3 c1 c2 c3 c4 oa ob hg2s
      go_wp2_with fail
      go_roundw
      case rel => exact ⟨k + 1, by omega, by go_num, by rw [HL.out]; exact o3, E4.out, HS.out⟩
      case measure => simp [intOf]; omega
    · obtain rfl : k = l.length := by omega
      rw [List.take_length] at ho
      have t1 : decide (l.length < l.length) = false := by simp
      go_wp2_with fail
      go_ret2
      exact ⟨_, rfl, own_base ho (Nat.le_succ _), hb⟩
end

/-! EncObjR -/
section
open Go.RowKit

set_option maxRecDepth 100000 in
theorem Object_no (kind : Int) (v : Value) (l : List Pt) (w : World) (hv : Pts w v l) (h : objCode kind l ≠ 0) :
    Calls Tryd.prog 5 #[.agg #[.int .i64 kind, v]] w fun e w' => ∃ u, e = .returned (.tuple #[.slice none 0 0, u]) ∧ ((objEr kind l).wrap strObj kind).Is w' u ∧ Below w.heap.size w w' := by
  have hv0 := hv
  obtain ⟨ao, c, rfl, h1, h2, _, _⟩ := hv.open
  have B0 : Below w.heap.size w (w.alloc (.cells #[.int .i64 kind, .slice ao l.length c] 24)) := (Below.refl _ _).alloc (Nat.le_refl _) _
  have C := Lib.hid (relChk_any kind _ l _ (hv0.below B0))
  have hne : (objEr kind l).wrap strObj kind ≠ .none := fun q => h (objEr_none.1 (wrap_none.1 q))
  generalize (objEr kind l).wrap strObj kind = E at *
  unfold maxLen at h2
  clear hv hv0 h
  go_enter Tryd.func5, Tryd.ntmps5
  go_wp2_with fail
  refine C.out.mono ?_
  rintro e w1 ⟨u, rfl, hu, b1⟩
  have HU := Lib.hid hu
  obtain ⟨T, y, rfl⟩ := hu.iface hne
  have B1 := B0.trans (b1.mono B0.size)
  clear hu C
  go_wp2_with fail
  go_ret2
  exact ⟨_, rfl, HU.out, B1⟩

set_option maxRecDepth 100000 in
theorem ObjectR_no (kind : Int) (v : Value) (l : List Pt) (w : World) (hv : Pts w v l) (h : objCode kind l ≠ 0) :
    Calls Tryd.prog 6 #[.agg #[.int .i64 kind, v]] w fun e w' => e = .returned (.tuple #[.slice none 0 0, .int .i64 (objCode kind l)]) ∧ Below w.heap.size w w' := by
  have hv0 := hv
  obtain ⟨ao, c, rfl, h1, h2, _, _⟩ := hv.open
  have B0 : Below w.heap.size w (w.alloc (.cells #[.int .i64 kind, .slice ao l.length c] 24)) := (Below.refl _ _).alloc (Nat.le_refl _) _
  have C := Lib.hid (refChk_any kind _ l _ (hv0.below B0))
  generalize objCode kind l = K at *
  have t1 : (K != 0) = true := by simpa using h
  unfold maxLen at h2
  clear hv hv0 h
  go_enter Tryd.func6, Tryd.ntmps6
  go_wp2_with fail
  refine C.out.mono ?_
  rintro e w1 ⟨rfl, b1⟩
  have B1 := B0.trans (b1.mono B0.size)
  go_wp2_with fail
  go_ret2
  exact ⟨rfl, B1⟩
set_option maxRecDepth 100000 in
set_option maxHeartbeats 4000000 in
theorem ObjectR_ok (kind : Nat) (v : Value) (l : List (Int × Int)) (w : World) (hv : Pts w v l) (hl : PtsB l) (hk : kind ≤ 4) (hn : l.length ≤ 1000) (hc : objCode (kind : Int) l = 0) :
    Calls Tryd.prog 6 #[.agg #[.int .i64 (kind : Int), v]] w fun e w' => ∃ u, e = .returned (.tuple #[u, .int .i64 0]) ∧ Own w' w.heap.size u (objB kind l) ∧ Below w.heap.size w w' := by
  have hv0 := hv
  obtain ⟨ao, c, rfl, h1, h2, h0, h3⟩ := hv.open
  unfold maxLen at h2
  clear h0 hv
  have B0 : Below w.heap.size w (w.alloc (.cells #[.int .i64 (kind : Int), .slice ao l.length c] 24)) := (Below.refl _ _).alloc (Nat.le_refl _) _
  have C := refChk_any (kind : Int) _ l _ (hv0.below B0)
  rw [hc] at C
  have HC := Lib.hid C
  have D0 : (w.alloc (.cells #[.int .i64 (kind : Int), .slice ao l.length c] 24)).cell? ⟨w.heap.size, 0, none⟩ = some (.int .i64 (kind : Int)) := by simp
  have D1 : (w.alloc (.cells #[.int .i64 (kind : Int), .slice ao l.length c] 24)).cell? ⟨w.heap.size, 1, none⟩ = some (.slice ao l.length c) := by simp
  have hs0 : (w.alloc (.cells #[.int .i64 (kind : Int), .slice ao l.length c] 24)).heap.size = w.heap.size + 1 := by simp
  have P0 := hv0.below B0
  have V1 := Lib.hid (fun w => VarintR_any kind (by omega) w)
  have V2 := Lib.hid (fun w => VarintR_any l.length (by omega) w)
  have L1 := vint_len64 kind (by omega)
  have L2 := vint_len64 l.length (by omega)
  have e1 := wrap_u64_nat kind (by omega)
  have e2 := wrap_u64_nat l.length (by omega)
  have PB := Lib.hid hl
  clear C hc hl h3 hv0
  go_enter Tryd.func6, Tryd.ntmps6
  go_wp2_with fail
  refine HC.out.mono ?_
  rintro e w1 ⟨rfl, b1⟩
  clear HC
  generalize w.alloc (.cells #[.int .i64 (kind : Int), .slice ao l.length c] 24) = w0 at *
  have hg0 : w.heap.size < w0.heap.size := by omega
  go_wp2_with fail
  refine wp_region_noPanic ?_
  refine wp_region_held_drew (S := fun w' => Below w0.heap.size w0 w') (by kernel_rfl) b1.drew (fun hHeld => ?_)
  generalize w1.drew = D at hHeld ⊢
  have kb : Below w0.heap.size w0 D := hHeld
  refine wpAnyH_take (i := 0) (oi := ⟨some 12, _, _, _, _, _⟩) (v := ?qv0oa) rfl (by kernel_rfl) (by kernel_rfl) (by kernel_rfl) (fun _ _ _ h => h) (Or.inl ⟨by rfl, ?qy0oa⟩) hHeld ?qr0oa
  case qy0oa => (intro w' hSw; go_simp; try with_reducible rfl)
  try simp only [Act.put, List.setIfInBounds_toArray, List.set_cons_zero, List.set_cons_succ]
  refine wpAnyH_take (i := 1) (oi := ⟨some 13, _, _, _, _, _⟩) (v := ?qv1oa) rfl (by kernel_rfl) (by kernel_rfl) (by kernel_rfl) (fun _ _ _ h => h) (Or.inl ⟨by rfl, ?qy1oa⟩) hHeld ?qr1oa
  case qy1oa => (intro w' hSw; have q0 := (hSw.cell (p := ⟨w.heap.size, 0, none⟩) hg0).trans D0; have q1 := (hSw.cell (p := ⟨w.heap.size, 1, none⟩) hg0).trans D1; go_simp; try with_reducible rfl)
  try simp only [Act.put, List.setIfInBounds_toArray, List.set_cons_zero, List.set_cons_succ]
  refine wpAnyH_take (i := 2) (oi := ⟨some 14, _, _, _, _, _⟩) (v := ?qv2oa) rfl (by kernel_rfl) (by kernel_rfl) (by kernel_rfl) (fun _ _ _ h => h) (Or.inl ⟨by rfl, ?qy2oa⟩) hHeld ?qr2oa
  case qy2oa => (intro w' hSw; go_simp; try with_reducible rfl)
  try simp only [Act.put, List.setIfInBounds_toArray, List.set_cons_zero, List.set_cons_succ]
  refine wpAnyH_take (i := 4) (oi := ⟨some 16, _, _, _, _, _⟩) (v := ?qv4oa) rfl (by kernel_rfl) (by kernel_rfl) (by kernel_rfl) (fun _ _ _ h => h) (Or.inl ⟨by rfl, ?qy4oa⟩) hHeld ?qr4oa
  case qy4oa => (intro w' hSw; go_simp; try with_reducible rfl)
  try simp only [Act.put, List.setIfInBounds_toArray, List.set_cons_zero, List.set_cons_succ]
  refine wpAnyH_take (i := 5) (oi := ⟨some 17, _, _, _, _, _⟩) (v := ?qv5oa) rfl (by kernel_rfl) (by kernel_rfl) (by kernel_rfl) (fun _ _ _ h => h) (Or.inl ⟨by rfl, ?qy5oa⟩) hHeld ?qr5oa
  case qy5oa => (intro w' hSw; have q0 := (hSw.cell (p := ⟨w.heap.size, 0, none⟩) hg0).trans D0; have q1 := (hSw.cell (p := ⟨w.heap.size, 1, none⟩) hg0).trans D1; go_simp; try with_reducible rfl)
  try simp only [Act.put, List.setIfInBounds_toArray, List.set_cons_zero, List.set_cons_succ]
  refine wpAnyH_take (i := 6) (oi := ⟨some 18, _, _, _, _, _⟩) (v := ?qv6oa) rfl (by kernel_rfl) (by kernel_rfl) (by kernel_rfl) (fun _ _ _ h => h) (Or.inl ⟨by rfl, ?qy6oa⟩) hHeld ?qr6oa
  case qy6oa => (intro w' hSw; go_simp; try with_reducible rfl)
  try simp only [Act.put, List.setIfInBounds_toArray, List.set_cons_zero, List.set_cons_succ]
  refine wpAnyH_take (i := 7) (oi := ⟨some 19, _, _, _, _, _⟩) (v := ?qv7oa) rfl (by kernel_rfl) (by kernel_rfl) (by kernel_rfl) (fun _ _ _ h => h) (Or.inl ⟨by rfl, ?qy7oa⟩) hHeld ?qr7oa
  case qy7oa => (intro w' hSw; go_simp; try with_reducible rfl)
  try simp only [Act.put, List.setIfInBounds_toArray, List.set_cons_zero, List.set_cons_succ]
  refine wpAnyH_ready (rs := [3]) (by kernel_rfl) (by simp) ?_
  refine AllReadyH.cons (o := ⟨some 15, _, _, _, _, _⟩) rfl (fun K hK => ?_) AllReadyH.nil
  refine step_go (by rfl) 17 _ _ (by rfl) (fun _ _ => by kernel_rfl) _ (by rfl) (V1.out _) ?_
  rintro e wa ⟨va, rfl, oa, ba⟩
  refine ⟨_, rfl, ?_⟩
  refine hK.out _ _ (kb.trans (ba.mono kb.size)) (fun hHeld => ?_)
  clear hK K
  try simp only [Act.put, List.setIfInBounds_toArray, List.set_cons_zero, List.set_cons_succ]
  refine wpAnyH_ready (rs := [8]) (by kernel_rfl) (by simp) ?_
  refine AllReadyH.cons (o := ⟨some 20, _, _, _, _, _⟩) rfl (fun K hK => ?_) AllReadyH.nil
  refine step_go (by rfl) 17 _ _ (by rfl) (fun _ _ => by kernel_rfl) _ (by rfl) (V2.out _) ?_
  rintro e wb ⟨vb, rfl, ob, bb⟩
  refine ⟨_, rfl, ?_⟩
  refine hK.out _ _ (Below.trans hHeld (bb.mono (Below.size hHeld))) (fun hHeld => ?_)
  clear hK K
  try simp only [Act.put, List.setIfInBounds_toArray, List.set_cons_zero, List.set_cons_succ]
  refine wpAnyH_ready (rs := [9]) (by kernel_rfl) (by simp) ?_
  refine AllReadyH.cons (o := ⟨some 21, _, _, _, _, _⟩) rfl (fun K hK => ?_) AllReadyH.nil
  refine step_append_byt (by rfl) _ _ (by rfl) w0.heap.size _ (vint kind) (by rfl) (own_base (oa.below bb) kb.size) _ (vint l.length) (by rfl) ob.byt (by omega) (Below.size hHeld) ?_
  intro vc wc oc bc
  refine hK.out _ _ (Below.trans hHeld bc) (fun hHeld => ?_)
  clear hK K
  try simp only [Act.put, List.setIfInBounds_toArray, List.set_cons_zero, List.set_cons_succ]
  refine wpAnyH_take (i := 10) (oi := ⟨some 5, _, _, _, _, _⟩) (v := ?qv10oa) rfl (by kernel_rfl) (by kernel_rfl) (by kernel_rfl) (fun _ _ _ h => h) (Or.inl ⟨by rfl, ?qy10oa⟩) hHeld ?qr10oa
  case qy10oa => (intro w' hSw; go_simp; try with_reducible rfl)
  try simp only [Act.put, List.setIfInBounds_toArray, List.set_cons_zero, List.set_cons_succ]
  refine wpAnyH_done (by kernel_rfl) ?_ _
  refine NoPanic.normal ?_
  have B2 : Below w0.heap.size w0 wc := hHeld
  clear hHeld kb oa ob ba bb b1
  have OC := Lib.hid oc
  have hs2 := B2.size
  obtain ⟨_, _, e0, -, -, -, each⟩ := P0.open
  simp only [Value.slice.injEq, true_and] at e0
  obtain ⟨rfl, rfl⟩ := e0
  have EA := Lib.hid each
  clear oc each
  go_wp2_with fail
  go_loopw [5, 6] (fun q i wr => ∃ k : Nat, k ≤ l.length ∧ i = .int .i64 k ∧ Own wr w0.heap.size q (vint kind ++ vint l.length ++ ptsB (l.take k)) ∧ Below w0.heap.size w0 wr) (fun _ i _ => l.length - (intOf i).toNat)
  case atStart => exact ⟨0, Nat.zero_le _, rfl, by simpa [ptsB] using OC.out, B2⟩
  case round =>
    obtain ⟨k, hk2, rfl, ho, hb⟩ := hrel
    have HO := Lib.hid ho
    clear ho
    have q1 := (hb.cell (p := ⟨w.heap.size, 1, none⟩) hg0).trans D1
    by_cases hlt : k < l.length
    · have t1 : decide ((k : Int) < (l.length : Int)) = true := decide_eq_true (Int.ofNat_lt.2 hlt)
      obtain ⟨g, off, rfl, hg, hx, hy⟩ := EA.out k hlt
      have hpt := PB.out _ (List.getElem_mem hlt)
      have HL := Lib.hid (show vint kind ++ vint l.length ++ ptsB (l.take (k + 1)) = (vint kind ++ vint l.length ++ ptsB (l.take k)) ++ vint (zig l[k].1) ++ vint (zig l[k].2) by rw [List.take_succ_eq_append_getElem hlt, ptsB_append]; simp [ptsB])
      generalize l[k] = p at *
      obtain ⟨x, y⟩ := p
      obtain ⟨hpx, hpy⟩ := hpt
      simp only at hx hy hpx hpy
      have S1 := Lib.hid (fun w => SignedR_any x hpx w)
      have S2 := Lib.hid (fun w => SignedR_any y hpy w)
      have K1 := vint_len64 _ (zig_lt x hpx)
      have K2 := vint_len64 _ (zig_lt y hpy)
      have KL : (vint kind ++ vint l.length ++ ptsB (l.take k)).length ≤ 20020 := by
        have := ptsB_len (l.take k) (fun q hq => PB.out q (List.mem_of_mem_take hq))
        rw [List.length_append, List.length_append]
        rw [List.length_take] at this
        omega
      generalize vint (zig x) = bx at *
      generalize vint (zig y) = byy at *
      generalize vint kind ++ vint l.length ++ ptsB (l.take k) = L at *
      clear hpx hpy
      have i0 : (0 : Int) ≤ (k : Int) := by omega
      have i1 : (k : Int) < (l.length : Int) := by omega
      have carry : Own wr.drew w0.heap.size u5 L := HO.out.below (Below.refl _ _).drew
      go_wp2_with fail
      refine wp_region_noPanic ?_
      refine wp_region_held_drew (S := fun w' => Below w0.heap.size w0 w') (by kernel_rfl) hb.drew (fun hHeld => ?_)
      generalize wr.drew = D at hHeld carry ⊢
      have kb : Below w0.heap.size w0 D := hHeld
      refine wpAnyH_take (i := 0) (oi := ⟨some 29, _, _, _, _, _⟩) (v := ?qv0ob) rfl (by kernel_rfl) (by kernel_rfl) (by kernel_rfl) (fun _ _ _ h => h) (Or.inl ⟨by rfl, ?qy0ob⟩) hHeld ?qr0ob
      case qy0ob => (intro w' hSw; go_simp; try with_reducible rfl)
      try simp only [Act.put, List.setIfInBounds_toArray, List.set_cons_zero, List.set_cons_succ]
      refine wpAnyH_take (i := 1) (oi := ⟨some 30, _, _, _, _, _⟩) (v := ?qv1ob) rfl (by kernel_rfl) (by kernel_rfl) (by kernel_rfl) (fun _ _ _ h => h) (Or.inl ⟨by rfl, ?qy1ob⟩) hHeld ?qr1ob
      case qy1ob => (intro w' hSw; go_simp; try with_reducible rfl)
      try simp only [Act.put, List.setIfInBounds_toArray, List.set_cons_zero, List.set_cons_succ]
      refine wpAnyH_take (i := 2) (oi := ⟨some 31, _, _, _, _, _⟩) (v := ?qv2ob) rfl (by kernel_rfl) (by kernel_rfl) (by kernel_rfl) (fun _ _ _ h => h) (Or.inl ⟨by rfl, ?qy2ob⟩) hHeld ?qr2ob
      case qy2ob => (intro w' hSw; have q1 := (hSw.cell (p := ⟨w.heap.size, 1, none⟩) hg0).trans D1; have p0 := (hSw.cell (p := ⟨g, off + k * 2, none⟩) hg).trans hx; have p1 := (hSw.cell (p := ⟨g, off + k * 2 + 1, none⟩) hg).trans hy; go_simp; try with_reducible rfl)
      try simp only [Act.put, List.setIfInBounds_toArray, List.set_cons_zero, List.set_cons_succ]
      refine wpAnyH_take (i := 3) (oi := ⟨some 32, _, _, _, _, _⟩) (v := ?qv3ob) rfl (by kernel_rfl) (by kernel_rfl) (by kernel_rfl) (fun _ _ _ h => h) (Or.inl ⟨by rfl, ?qy3ob⟩) hHeld ?qr3ob
      case qy3ob => (intro w' hSw; go_simp; try with_reducible rfl)
      try simp only [Act.put, List.setIfInBounds_toArray, List.set_cons_zero, List.set_cons_succ]
      refine wpAnyH_take (i := 4) (oi := ⟨some 33, _, _, _, _, _⟩) (v := ?qv4ob) rfl (by kernel_rfl) (by kernel_rfl) (by kernel_rfl) (fun _ _ _ h => h) (Or.inl ⟨by rfl, ?qy4ob⟩) hHeld ?qr4ob
      case qy4ob => (intro w' hSw; go_simp; try with_reducible rfl)
      try simp only [Act.put, List.setIfInBounds_toArray, List.set_cons_zero, List.set_cons_succ]
      refine wpAnyH_take (i := 5) (oi := ⟨some 34, _, _, _, _, _⟩) (v := ?qv5ob) rfl (by kernel_rfl) (by kernel_rfl) (by kernel_rfl) (fun _ _ _ h => h) (Or.inl ⟨by rfl, ?qy5ob⟩) hHeld ?qr5ob
      case qy5ob => (intro w' hSw; go_simp; try with_reducible rfl)
      try simp only [Act.put, List.setIfInBounds_toArray, List.set_cons_zero, List.set_cons_succ]
      refine wpAnyH_take (i := 6) (oi := ⟨some 35, _, _, _, _, _⟩) (v := ?qv6ob) rfl (by kernel_rfl) (by kernel_rfl) (by kernel_rfl) (fun _ _ _ h => h) (Or.inl ⟨by rfl, ?qy6ob⟩) hHeld ?qr6ob
      case qy6ob => (intro w' hSw; have q1 := (hSw.cell (p := ⟨w.heap.size, 1, none⟩) hg0).trans D1; have p0 := (hSw.cell (p := ⟨g, off + k * 2, none⟩) hg).trans hx; have p1 := (hSw.cell (p := ⟨g, off + k * 2 + 1, none⟩) hg).trans hy; go_simp; try with_reducible rfl)
      try simp only [Act.put, List.setIfInBounds_toArray, List.set_cons_zero, List.set_cons_succ]
      refine wpAnyH_take (i := 9) (oi := ⟨some 38, _, _, _, _, _⟩) (v := ?qv9ob) rfl (by kernel_rfl) (by kernel_rfl) (by kernel_rfl) (fun _ _ _ h => h) (Or.inl ⟨by rfl, ?qy9ob⟩) hHeld ?qr9ob
      case qy9ob => (intro w' hSw; go_simp; try with_reducible rfl)
      try simp only [Act.put, List.setIfInBounds_toArray, List.set_cons_zero, List.set_cons_succ]
      refine wpAnyH_take (i := 10) (oi := ⟨some 39, _, _, _, _, _⟩) (v := ?qv10ob) rfl (by kernel_rfl) (by kernel_rfl) (by kernel_rfl) (fun _ _ _ h => h) (Or.inl ⟨by rfl, ?qy10ob⟩) hHeld ?qr10ob
      case qy10ob => (intro w' hSw; have q1 := (hSw.cell (p := ⟨w.heap.size, 1, none⟩) hg0).trans D1; have p0 := (hSw.cell (p := ⟨g, off + k * 2, none⟩) hg).trans hx; have p1 := (hSw.cell (p := ⟨g, off + k * 2 + 1, none⟩) hg).trans hy; go_simp; try with_reducible rfl)
      try simp only [Act.put, List.setIfInBounds_toArray, List.set_cons_zero, List.set_cons_succ]
      refine wpAnyH_take (i := 11) (oi := ⟨some 40, _, _, _, _, _⟩) (v := ?qv11ob) rfl (by kernel_rfl) (by kernel_rfl) (by kernel_rfl) (fun _ _ _ h => h) (Or.inl ⟨by rfl, ?qy11ob⟩) hHeld ?qr11ob
      case qy11ob => (intro w' hSw; go_simp; try with_reducible rfl)
      try simp only [Act.put, List.setIfInBounds_toArray, List.set_cons_zero, List.set_cons_succ]
      refine wpAnyH_take (i := 12) (oi := ⟨some 41, _, _, _, _, _⟩) (v := ?qv12ob) rfl (by kernel_rfl) (by kernel_rfl) (by kernel_rfl) (fun _ _ _ h => h) (Or.inl ⟨by rfl, ?qy12ob⟩) hHeld ?qr12ob
      case qy12ob => (intro w' hSw; go_simp; try with_reducible rfl)
      try simp only [Act.put, List.setIfInBounds_toArray, List.set_cons_zero, List.set_cons_succ]
      refine wpAnyH_take (i := 13) (oi := ⟨some 42, _, _, _, _, _⟩) (v := ?qv13ob) rfl (by kernel_rfl) (by kernel_rfl) (by kernel_rfl) (fun _ _ _ h => h) (Or.inl ⟨by rfl, ?qy13ob⟩) hHeld ?qr13ob
      case qy13ob => (intro w' hSw; go_simp; try with_reducible rfl)
      try simp only [Act.put, List.setIfInBounds_toArray, List.set_cons_zero, List.set_cons_succ]
      refine wpAnyH_take (i := 14) (oi := ⟨some 43, _, _, _, _, _⟩) (v := ?qv14ob) rfl (by kernel_rfl) (by kernel_rfl) (by kernel_rfl) (fun _ _ _ h => h) (Or.inl ⟨by rfl, ?qy14ob⟩) hHeld ?qr14ob
      case qy14ob => (intro w' hSw; have q1 := (hSw.cell (p := ⟨w.heap.size, 1, none⟩) hg0).trans D1; have p0 := (hSw.cell (p := ⟨g, off + k * 2, none⟩) hg).trans hx; have p1 := (hSw.cell (p := ⟨g, off + k * 2 + 1, none⟩) hg).trans hy; go_simp; try with_reducible rfl)
      try simp only [Act.put, List.setIfInBounds_toArray, List.set_cons_zero, List.set_cons_succ]
      refine wpAnyH_ready (rs := [7]) (by kernel_rfl) (by simp) ?_
      refine AllReadyH.cons (o := ⟨some 36, _, _, _, _, _⟩) rfl (fun K hK => ?_) AllReadyH.nil
      refine step_go (by rfl) 18 _ _ (by rfl) (fun _ _ => by kernel_rfl) _ (by rfl) (S1.out _) ?_
      rintro e wa ⟨va, rfl, oa, ba⟩
      refine ⟨_, rfl, ?_⟩
      refine hK.out _ _ (kb.trans (ba.mono kb.size)) (fun hHeld => ?_)
      clear hK K
      try simp only [Act.put, List.setIfInBounds_toArray, List.set_cons_zero, List.set_cons_succ]
      refine wpAnyH_ready (rs := [8]) (by kernel_rfl) (by simp) ?_
      refine AllReadyH.cons (o := ⟨some 37, _, _, _, _, _⟩) rfl (fun K hK => ?_) AllReadyH.nil
      refine step_append_byt (by rfl) _ _ (by rfl) w0.heap.size _ L (by rfl) (carry.below ba) _ bx (by rfl) oa.byt (by omega) (Below.size hHeld) ?_
      intro v2 w2 o2 b2
      refine hK.out _ _ (Below.trans hHeld b2) (fun hHeld => ?_)
      clear hK K
      try simp only [Act.put, List.setIfInBounds_toArray, List.set_cons_zero, List.set_cons_succ]
      refine wpAnyH_ready (rs := [15]) (by kernel_rfl) (by simp) ?_
      refine AllReadyH.cons (o := ⟨some 44, _, _, _, _, _⟩) rfl (fun K hK => ?_) AllReadyH.nil
      refine step_go (by rfl) 18 _ _ (by rfl) (fun _ _ => by kernel_rfl) _ (by rfl) (S2.out _) ?_
      rintro e wb ⟨vb, rfl, ob, bb⟩
      refine ⟨_, rfl, ?_⟩
      refine hK.out _ _ (Below.trans hHeld (bb.mono (Below.size hHeld))) (fun hHeld => ?_)
      clear hK K
      try simp only [Act.put, List.setIfInBounds_toArray, List.set_cons_zero, List.set_cons_succ]
      refine wpAnyH_ready (rs := [16]) (by kernel_rfl) (by simp) ?_
      refine AllReadyH.cons (o := ⟨some 45, _, _, _, _, _⟩) rfl (fun K hK => ?_) AllReadyH.nil
      refine step_append_byt (by rfl) _ _ (by rfl) w0.heap.size _ (L ++ bx) (by rfl) (o2.below bb) _ byy (by rfl) ob.byt (by rw [List.length_append]; omega) (Below.size hHeld) ?_
      intro v3 w3 o3 b3
      refine hK.out _ _ (Below.trans hHeld b3) (fun hHeld => ?_)
      clear hK K
      try simp only [Act.put, List.setIfInBounds_toArray, List.set_cons_zero, List.set_cons_succ]
      refine wpAnyH_take (i := 17) (oi := ⟨some 5, _, _, _, _, _⟩) (v := ?qv17ob) rfl (by kernel_rfl) (by kernel_rfl) (by kernel_rfl) (fun _ _ _ h => h) (Or.inl ⟨by rfl, ?qy17ob⟩) hHeld ?qr17ob
      case qy17ob => (intro w' hSw; go_simp; try with_reducible rfl)
      try simp only [Act.put, List.setIfInBounds_toArray, List.set_cons_zero, List.set_cons_succ]
      refine wpAnyH_done (by kernel_rfl) ?_ _
      refine NoPanic.normal ?_
      have B5 : Below w0.heap.size w0 w3 := hHeld
      clear hHeld kb oa ob ba bb b2 b3 o2 carry
      go_wp2_with fail
      go_roundw
      case rel => exact ⟨k + 1, hlt, by go_num, by rw [HL.out]; exact o3, B5⟩
      case measure => simp [intOf]; omega
    · obtain rfl : k = l.length := by omega
      have ho := HO.out
      rw [List.take_length] at ho
      have HF := Lib.hid ho
      have t1 : decide ((l.length : Int) < (l.length : Int)) = false := by simp
      clear ho
      go_wp2_with fail
      go_ret2
      exact ⟨_, rfl, own_base HF.out (by omega), B0.trans (hb.mono (by omega))⟩
end

/-! SameE -/
section
open Go.RowKit

/-- alike points are told to be alike -/
theorem PointsR_eq (v v' : Value) (l : List Pt) (w : World) (h : Pts w v l) (h' : Pts w v' l) :
    Calls Tryd.prog 24 #[v, v'] w fun e w' => e = .returned (.bool true) ∧ Below w.heap.size w w' := by
  obtain ⟨ao, c, rfl, h1, h2, _, h3⟩ := h.open
  obtain ⟨ao', c', rfl, g1, g2, _, g3⟩ := h'.open
  unfold maxLen at h2 g2
  obtain ⟨n, hn⟩ : ∃ n, n = l.length := ⟨_, rfl⟩
  rw [← hn] at h1 g1 ⊢
  have E1 := Lib.hid (show ∀ i, i < n → ∃ x y : Int, ∃ b off b' off', ao = some ⟨b, off, none⟩ ∧ ao' = some ⟨b', off', none⟩ ∧ b < w.heap.size ∧ b' < w.heap.size ∧ w.cell? ⟨b, off + i * 2, none⟩ = some (.int .i64 x) ∧ w.cell? ⟨b, off + i * 2 + 1, none⟩ = some (.int .i64 y) ∧ w.cell? ⟨b', off' + i * 2, none⟩ = some (.int .i64 x) ∧ w.cell? ⟨b', off' + i * 2 + 1, none⟩ = some (.int .i64 y) from fun i hi => by
    obtain ⟨b, off, e, hb, c0, c1⟩ := h3 i (by omega)
    obtain ⟨b', off', e', hb', d0, d1⟩ := g3 i (by omega)
    exact ⟨_, _, b, off, b', off', e, e', hb, hb', c0, c1, d0, d1⟩)
  clear h h' h3 g3 hn
  go_enter Tryd.func24, Tryd.ntmps24
  go_wp2_with fail
  go_loopw [5] (fun i wr => ∃ k : Nat, k ≤ n ∧ i = .int .i64 k ∧ Below w.heap.size w wr) (fun i _ => n - (intOf i).toNat)
  case atStart => exact ⟨0, Nat.zero_le _, rfl, Below.refl _ _⟩
  case round =>
    obtain ⟨k, hk, rfl, hb⟩ := hrel
    by_cases hlt : k < n
    · have t1 : decide ((k : Int) < (n : Int)) = true := decide_eq_true (by omega)
      have i0 : (0 : Int) ≤ (k : Int) := by omega
      have i1 : (k : Int) < (n : Int) := by omega
      obtain ⟨x, y, b, off, b', off', rfl, rfl, hb0, hb1, c0, c1, d0, d1⟩ := E1.out k hlt
      replace c0 := (hb.cell (p := ⟨b, off + k * 2, none⟩) hb0).trans c0
      replace c1 := (hb.cell (p := ⟨b, off + k * 2 + 1, none⟩) hb0).trans c1
      replace d0 := (hb.cell (p := ⟨b', off' + k * 2, none⟩) hb1).trans d0
      replace d1 := (hb.cell (p := ⟨b', off' + k * 2 + 1, none⟩) hb1).trans d1
      have hbd := Lib.hid (fun nq => (show Below w.heap.size w (wr.drewN nq) from ⟨hb.os, hb.tape, hb.output, hb.size, hb.block⟩))
      go_wp2_with fail
      go_quiet (fail)
      go_wp2_with fail
      go_roundw
      case rel => exact ⟨k + 1, hlt, by go_num, hbd.out _⟩
      case measure => simp [intOf]; omega
    · obtain rfl : k = n := by omega
      have t1 : decide ((k : Int) < (k : Int)) = false := by simp
      go_wp2_with fail
      go_ret
      exact ⟨rfl, hb⟩
/-- alike objects are told to be alike -/
theorem SameR_eq (v v' : Value) (kind : Int) (l : List Pt) (w : World) (h : Pts w v l) (h' : Pts w v' l) :
    Calls Tryd.prog 11 #[.agg #[.int .i64 kind, v], .agg #[.int .i64 kind, v']] w fun e w' => e = .returned (.bool true) ∧ Below w.heap.size w w' := by
  have h0 := h
  have h0' := h'
  obtain ⟨ao, c, rfl, _, _, _, _⟩ := h.open
  obtain ⟨ao', c', rfl, _, _, _, _⟩ := h'.open
  have BA : Below w.heap.size w ((w.alloc (.cells #[.int .i64 kind, .slice ao l.length c] 24)).alloc (.cells #[.int .i64 kind, .slice ao' l.length c'] 24)) := ((Below.refl _ _).alloc (Nat.le_refl _) _).alloc (by simp) _
  have PT := Lib.hid (PointsR_eq _ _ l _ (h0.below BA) (h0'.below BA))
  have t1 : (kind == kind) = true := by simp
  clear h h' h0 h0'
  go_enter Tryd.func11, Tryd.ntmps11
  go_wp2_with fail
  refine PT.out.mono ?_
  rintro e w1 ⟨rfl, b1⟩
  have B1 := BA.trans (b1.mono BA.size)
  go_wp2_with fail
  go_ret
  exact ⟨rfl, B1⟩
end

/-! AlikeB -/
section
open Go.RowKit

theorem below_drewN {B : Nat} {a w : World} (h : Below B a w) (n : Nat) : Below B a (w.drewN n) := ⟨h.os, h.tape, h.output, h.size, h.block⟩

/-- two rows of bytes that are alike so far -/
theorem take_eq_snoc {α : Type} {a b : List α} {k : Nat} (ha : k < a.length) (hb : k < b.length) (h : a.take k = b.take k) (e : a[k] = b[k]) : a.take (k + 1) = b.take (k + 1) := by
  rw [List.take_succ_eq_append_getElem ha, List.take_succ_eq_append_getElem hb, h, e]

theorem Bytes_any (va vb : Value) (a b : List UInt8) (w : World) (ha : Byt w va a) (hb : Byt w vb b) :
    Calls Tryd.prog 9 #[va, vb] w fun e w' => e = .returned (.bool (decide (a = b))) ∧ ∃ n, w' = w.drewN n := by
  obtain ⟨aa, ca, rfl, ha1, ha2, ha0, ha3⟩ := ha.open
  obtain ⟨ab, cb, rfl, hb1, hb2, hb0, hb3⟩ := hb.open
  unfold maxLen at ha2 hb2
  by_cases hl : a.length = b.length
  · have t : ((a.length : Int) != (b.length : Int)) = false := by simp; omega
    have HL := Lib.hid hl
    have hle : a.length ≤ b.length := by omega
    clear hl
    go_enter Tryd.func9, Tryd.ntmps9
    go_wp2
    go_loopw [5] (fun i wr => ∃ k n : Nat, k ≤ a.length ∧ i = .int .i64 k ∧ Hid (wr = w.drewN n) ∧ Hid (a.take k = b.take k)) (fun i _ => a.length - (intOf i).toNat)
    case atStart => exact ⟨0, 0, Nat.zero_le _, rfl, rfl, rfl⟩
    case round =>
      obtain ⟨k, n, hk, rfl, hw, ht⟩ := hrel
      by_cases hlt : k < a.length
      · obtain ⟨ba, oa, rfl, hba, hca⟩ := ha3 k hlt
        obtain ⟨bb, ob, rfl, hbb, hcb⟩ := hb3 k (by omega)
        have ea : wr.cell? ⟨ba, oa + k, none⟩ = some (.int .u8 (a[k].toNat : Int)) := by rw [hw.out]; exact hca
        have eb : wr.cell? ⟨bb, ob + k, none⟩ = some (.int .u8 (b[k].toNat : Int)) := by rw [hw.out]; exact hcb
        have hwn : ∀ m, Hid (wr.drewN m = w.drewN (n + m)) := fun m => by rw [hw.out]; exact World.drewN_drewN ..
        clear ha3 hb3 hca hcb hw
        have i0 : (0 : Int) ≤ (k : Int) := by omega
        have i1 : (k : Int) < (a.length : Int) := by omega
        have i2 : (k : Int) < (b.length : Int) := by omega
        by_cases hab : a[k] = b[k]
        · have tt : ((a[k].toNat : Int) != (b[k].toNat : Int)) = false := by rw [hab]; simp
          have ht' : Hid (a.take (k + 1) = b.take (k + 1)) := take_eq_snoc hlt (by omega) ht.out hab
          clear ht hab
          go_wp2
          go_quiet (fail)
          go_wp2
          go_roundw
          case rel => exact ⟨k + 1, _, by omega, by go_num, hwn _, ht'⟩
          case measure => simp [intOf]; omega
        · have tt : ((a[k].toNat : Int) != (b[k].toNat : Int)) = true := by
            simp; intro h; exact hab (UInt8.toNat_inj.1 (by omega))
          have hne : decide (a = b) = false := by
            simp; intro h; subst h; exact hab rfl
          have HN := Lib.hid hne
          clear ht hab hne
          go_wp2
          go_quiet (fail)
          go_wp2
          go_ret
          exact ⟨by rw [HN.out]; rfl, _, (hwn _).out⟩
      · have heq : decide (a = b) = true := by
          have := ht.out
          rw [List.take_of_length_le (by omega), List.take_of_length_le (by have := HL.out; omega)] at this
          simp [this]
        have HE := Lib.hid heq
        clear heq ht
        go_wp2
        go_ret
        exact ⟨by rw [HE.out]; rfl, _, hw.out⟩
  · have t : ((a.length : Int) != (b.length : Int)) = true := by simp; omega
    have hne : decide (a = b) = false := by simp; intro h; exact hl (by rw [h])
    have HN := Lib.hid hne
    clear hl hne
    go_enter Tryd.func9, Tryd.ntmps9
    go_wp2
    go_ret
    exact ⟨by rw [HN.out]; rfl, 0, rfl⟩

end

/-! Awake8b -/
section
open Go.RowKit

theorem objB_awake : objB 1 [(1, -1)] = [1, 1, 2, 1] := by
  have z1 : zig 1 = 2 := by decide
  have z2 : zig (-1) = 1 := by decide
  simp only [objB, ptsB, z1, z2, List.length_cons, List.length_nil]
  rw [vint_small (by omega), vint_small (by omega)]
  rfl

set_option maxRecDepth 100000 in
theorem awake_any (w : World) : Calls Tryd.prog 4 #[] w fun e w' => e = .returned (.bool true) ∧ Below w.heap.size w w' := by
  have B0 : Below w.heap.size w (w.alloc (.cells #[.int .i64 1, .int .i64 (-1)] 43)) := (Below.refl _ _).alloc (Nat.le_refl _) _
  go_enter Tryd.func4, Tryd.ntmps4
  go_wp2_with fail
  have hp : Pts (w.alloc (.cells #[.int .i64 1, .int .i64 (-1)] 43)) (.slice (some ⟨w.heap.size, 0, none⟩) 1 1) [(1, -1)] := pts_lit w [(1, -1)] _ (0, 0) (by simp [maxLen])
  refine (Object_ok 1 _ [(1, -1)] _ hp (by intro p hp; simp at hp; subst hp; simp [i64B]) (by omega) (by simp) (fun w' hb => by have h := relChk_any 1 _ [(1, -1)] w' (hp.below hb); rw [objEr_none.2 (show objCode 1 [(1, -1)] = 0 by decide)] at h; exact h)).mono ?_
  rintro e w1 ⟨u, rfl, ho, b1⟩
  have B1 := B0.trans (b1.mono B0.size)
  rw [objB_awake] at ho
  have hs := B1.size
  have hl : Byt (w1.alloc (.cells #[.int .u8 1, .int .u8 1, .int .u8 2, .int .u8 1] 5)) (.slice (some ⟨w1.heap.size, 0, none⟩) 4 4) [1, 1, 2, 1] := byt_lit w1 [1, 1, 2, 1] (0, 0) (by simp [maxLen])
  have hb := ho.byt.below ((Below.refl _ _).alloc (Nat.le_refl _) (.cells #[.int .u8 1, .int .u8 1, .int .u8 2, .int .u8 1] 5))
  have B2 := B1.alloc B1.size (.cells #[.int .u8 1, .int .u8 1, .int .u8 2, .int .u8 1] 5)
  have HL := Lib.hid hl
  have HB := Lib.hid hb
  clear hl hb hp
  go_wp2_with fail
  refine (Bytes_any _ _ _ _ _ HB.out HL.out).mono ?_
  rintro e w2 ⟨rfl, n, rfl⟩
  have t1 : decide (([1, 1, 2, 1] : List UInt8) = [1, 1, 2, 1]) = true := by decide
  rw [t1]
  go_wp2_with fail
  refine (Signed_any (-1) (by omega) _).mono ?_
  rintro e w3 ⟨u3, rfl, ho3, b3⟩
  have z2 : vint (zig (-1)) = [1] := by rw [show zig (-1) = 1 by decide, vint_small (by omega)]; rfl
  rw [z2] at ho3
  have B3 := (below_drewN B2 n).trans (b3.mono (below_drewN B2 n).size)
  have hl3 : Byt (w3.alloc (.cells #[.int .u8 1] 5)) (.slice (some ⟨w3.heap.size, 0, none⟩) 1 1) [1] := byt_lit w3 [1] (0, 0) (by simp [maxLen])
  have hb3 := ho3.byt.below ((Below.refl _ _).alloc (Nat.le_refl _) (.cells #[.int .u8 1] 5))
  have B4 := B3.alloc B3.size (.cells #[.int .u8 1] 5)
  have HL3 := Lib.hid hl3
  have HB3 := Lib.hid hb3
  clear hl3 hb3 z2 t1
  go_wp2_with fail
  refine (Bytes_any _ _ _ _ _ HB3.out HL3.out).mono ?_
  rintro e w5 ⟨rfl, m, rfl⟩
  have t2 : decide (([1] : List UInt8) = [1]) = true := by decide
  rw [t2]
  go_wp2_with fail
  go_ret
  exact ⟨rfl, below_drewN B4 m⟩
end

end Go.Proofs.YthcfekabeidmiaaRRDoorR
