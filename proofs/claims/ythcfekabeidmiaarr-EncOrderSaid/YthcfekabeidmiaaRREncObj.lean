/- enc.Object of an object that may be. -/
import Derived.Test.YthcfekabeidmiaaRREncS
import Derived.Test.YthcfekabeidmiaaRRRelPt
import Derived.Test.YthcfekabeidmiaaRRStepCall
namespace Go.Proofs.YthcfekabeidmiaaRR
open Go.RowKit

/-- the bytes of points -/
def ptsB : List (Int × Int) → List UInt8
  | [] => []
  | p :: l => vint (zig p.1) ++ vint (zig p.2) ++ ptsB l
theorem ptsB_append : ∀ l m, ptsB (l ++ m) = ptsB l ++ ptsB m
  | [], _ => rfl
  | p :: l, m => by simp [ptsB, ptsB_append l m]
/-- the bytes of an object -/
def objB (kind : Nat) (l : List (Int × Int)) : List UInt8 := vint kind ++ vint l.length ++ ptsB l
theorem ptsB_len : ∀ l, PtsB l → (ptsB l).length ≤ 20 * l.length
  | [], _ => by simp [ptsB]
  | p :: l, h => by
    have h1 := vint_len64 _ (zig_lt p.1 (h p (by simp)).1)
    have h2 := vint_len64 _ (zig_lt p.2 (h p (by simp)).2)
    have := ptsB_len l (fun q hq => h q (by simp [hq]))
    simp only [ptsB, List.length_append, List.length_cons]
    omega

set_option maxRecDepth 100000 in
set_option maxHeartbeats 2000000 in
theorem Object_ok (kind : Nat) (v : Value) (l : List (Int × Int)) (w : World) (hv : Pts w v l) (hl : PtsB l) (hk : kind ≤ 4) (hn : l.length ≤ 1000)
    (hC : ∀ w', Below w.heap.size w w' → Calls Try.prog 16 #[.agg #[.int .i64 (kind : Int), v]] w' (ErRet w' .none)) :
    Calls Try.prog 15 #[.agg #[.int .i64 (kind : Int), v]] w fun e w' => ∃ u, e = .returned (.tuple #[u, .nilIface]) ∧ Own w' w.heap.size u (objB kind l) ∧ Below w.heap.size w w' := by
  have hv0 := hv
  obtain ⟨ao, c, rfl, h1, h2, h0, h3⟩ := hv.open
  unfold maxLen at h2
  clear h0 hv
  have B0 : Below w.heap.size w (w.alloc (.cells #[.int .i64 (kind : Int), .slice ao l.length c] 42)) := (Below.refl _ _).alloc (Nat.le_refl _) _
  have HC := Lib.hid (hC _ B0)
  have HV := Lib.hid (show ∀ w', Below w.heap.size w w' → Pts w' _ l from fun w' h => hv0.below h)
  have H3 := Lib.hid h3
  clear hC hv0 h3
  go_enter Try.func15, Try.ntmps15
  go_wp2_with fail
  refine HC.out.mono ?_
  rintro e w1 ⟨u, rfl, rfl, b1⟩
  have B1 := B0.trans (b1.mono B0.size)
  have y0 : w1.cell? ⟨w.heap.size, 0, none⟩ = some (.int .i64 (kind : Int)) := (b1.cell (p := ⟨w.heap.size, 0, none⟩) (by simp)).trans (by simp)
  have y1 : w1.cell? ⟨w.heap.size, 1, none⟩ = some (.slice ao l.length c) := (b1.cell (p := ⟨w.heap.size, 1, none⟩) (by simp)).trans (by simp)
  have hz := World.block_lt_of_cell? w1 ⟨w.heap.size, 0, none⟩ y0
  have hs1 := B1.size
  have Y := Lib.hid (show ∀ w', Below w1.drew.heap.size w1.drew w' → w'.cell? ⟨w.heap.size, 0, none⟩ = some (.int .i64 (kind : Int)) ∧ w'.cell? ⟨w.heap.size, 1, none⟩ = some (.slice ao l.length c) from fun w' h => ⟨(h.cell (p := ⟨w.heap.size, 0, none⟩) hz).trans y0, (h.cell (p := ⟨w.heap.size, 1, none⟩) hz).trans y1⟩)
  have V1 := Lib.hid (fun w => Varint_any kind (by omega) w)
  have V2 := Lib.hid (fun w => Varint_any l.length (by omega) w)
  have L1 := vint_len64 kind (by omega)
  have L2 := vint_len64 l.length (by omega)
  have i1 : (kind : Int) ≤ 4 := by omega
  have ENT := Lib.hid (show ∀ (args : Array Value) (w : World), (callFunc 11 args).run Try.prog w = .ok (.enter 11 args) w from fun _ _ => by kernel_rfl)
  have ENS := Lib.hid (show ∀ (args : Array Value) (w : World), (callFunc 13 args).run Try.prog w = .ok (.enter 13 args) w from fun _ _ => by kernel_rfl)
  have e1 := wrap_u64_nat kind (by omega)
  have e2 := wrap_u64_nat l.length (by omega)
  go_wp2_with fail
  go_region_held3 (fun w' => w'.cell? ⟨w.heap.size, 0, none⟩ = some (.int .i64 (kind : Int)) ∧ w'.cell? ⟨w.heap.size, 1, none⟩ = some (.slice ao l.length c))
    (first | go_keep | exact Y.out _ ba | exact Y.out _ (ba.trans (bb.mono ba.size)) | exact ⟨(bc.cell (p := ⟨w.heap.size, 0, none⟩) (Nat.lt_succ_self _)).trans (Y.out _ (ba.trans (bb.mono ba.size))).1, (bc.cell (p := ⟨w.heap.size, 1, none⟩) (Nat.lt_succ_self _)).trans (Y.out _ (ba.trans (bb.mono ba.size))).2⟩ | fail)
    (first
      | (have hbb := ob; refine step_append_byt (by rfl) _ _ (by rfl) (w.heap.size + 1) _ (vint kind) (by rfl) (own_base (oa.below bb) hz) _ (vint l.length) (by rfl) ob.byt (by omega) (Nat.le_trans (Nat.le_trans hz ba.size) bb.size) ?_; intro vc wc oc bc)
      | (have haa := oa; refine step_go1 (by rfl) 11 _ 23 (by rfl) ENT.out _ (by rfl) (V2.out _) ?_; rintro e wb ⟨vb, rfl, ob, bb⟩; refine ⟨_, rfl, ?_⟩)
      | (refine step_go1 (by rfl) 11 _ 23 (by rfl) ENT.out _ (by rfl) (V1.out _) ?_; rintro e wa ⟨va, rfl, oa, ba⟩; refine ⟨_, rfl, ?_⟩)
      | fail)
  obtain ⟨z0, z1⟩ := Y.out _ (ba.trans (bb.mono ba.size))
  have zz0 := (bc.cell (p := ⟨w.heap.size, 0, none⟩) (Nat.lt_succ_self _)).trans z0
  have zz1 := (bc.cell (p := ⟨w.heap.size, 1, none⟩) (Nat.lt_succ_self _)).trans z1
  have hbs : w.heap.size + 1 ≤ wb.heap.size := Nat.le_trans (Nat.le_trans hz ba.size) bb.size
  have B2 : Below w.heap.size w wc := ((B1.trans ((Below.refl _ w1).drew.mono hs1)).trans ((ba.trans (bb.mono ba.size)).mono hs1)).trans (bc.mono (Nat.le_succ _))
  have bcs := bc.size
  have PB := Lib.hid hl
  clear z0 z1 y0 y1 ba bb bc oa ob b1 hl
  go_wp2_with fail
  go_loopw [5, 26] (fun q i wr => ∃ (k : Nat), k ≤ l.length ∧ i = .int .i64 k ∧ Own wr (w.heap.size + 1) q (vint kind ++ vint l.length ++ ptsB (l.take k)) ∧ Below w.heap.size w wr ∧ w.heap.size + 1 ≤ wr.heap.size) (fun _ i _ => l.length - (intOf i).toNat)
  case atStart => exact ⟨0, Nat.zero_le _, rfl, by simpa [ptsB] using oc, B2, Nat.le_trans hbs bcs⟩
  case round =>
    obtain ⟨k, hk, rfl, ho, hb, hbr⟩ := hrel
    by_cases hlt : k < l.length
    · obtain ⟨g, off, rfl, hg, hx, hy⟩ := H3.out k hlt
      have hpt := PB.out _ (List.getElem_mem hlt)
      have hx' := (hb.cell (p := ⟨g, off + k * 2, none⟩) hg).trans hx
      have hy' := (hb.cell (p := ⟨g, off + k * 2 + 1, none⟩) hg).trans hy
      have HL := Lib.hid (show vint kind ++ vint l.length ++ ptsB (l.take (k + 1)) = (vint kind ++ vint l.length ++ ptsB (l.take k)) ++ vint (zig l[k].1) ++ vint (zig l[k].2) by rw [List.take_succ_eq_append_getElem hlt, ptsB_append]; simp [ptsB])
      clear hx hy
      generalize l[k] = p at *
      obtain ⟨x, y⟩ := p
      obtain ⟨hpx, hpy⟩ := hpt
      simp only at hx' hy' hpx hpy
      have S1 := Lib.hid (fun w => Signed_any x hpx w)
      have S2 := Lib.hid (fun w => Signed_any y hpy w)
      have K1 := vint_len64 _ (zig_lt x hpx)
      have K2 := vint_len64 _ (zig_lt y hpy)
      have KL : (vint kind ++ vint l.length ++ ptsB (l.take k)).length ≤ 20020 := by
        have := ptsB_len (l.take k) (fun q hq => PB.out q (List.mem_of_mem_take hq))
        rw [List.length_append, List.length_append]
        rw [List.length_take] at this
        omega
      generalize vint (zig x) = bx at *
      generalize vint (zig y) = byy at *
      generalize vint kind ++ vint l.length ++ ptsB (l.take k) = L at *
      clear hpx hpy
      have i0 : (0 : Int) ≤ (k : Int) := by omega
      have i1 : (k : Int) < (l.length : Int) := by omega
      have BD : Below w.heap.size w (wr.alloc (.cells #[.int .i64 x, .int .i64 y] 39)).drew := (hb.alloc hb.size _).drew
      have XS := Lib.hid (show ∀ w', Below (wr.alloc (.cells #[.int .i64 x, .int .i64 y] 39)).drew.heap.size (wr.alloc (.cells #[.int .i64 x, .int .i64 y] 39)).drew w' → w'.cell? ⟨wr.heap.size, 0, none⟩ = some (.int .i64 x) ∧ w'.cell? ⟨wr.heap.size, 1, none⟩ = some (.int .i64 y) from
        fun w' h => ⟨(h.cell (p := ⟨wr.heap.size, 0, none⟩) (by simp)).trans (by simp), (h.cell (p := ⟨wr.heap.size, 1, none⟩) (by simp)).trans (by simp)⟩)
      have hoD : Own (wr.alloc (.cells #[.int .i64 x, .int .i64 y] 39)).drew (w.heap.size + 1) u5 L := World.ownsRow.drew (World.ownsRow.alloc ho _)
      have NE1 := Lib.hid (show some wr.heap.size ≠ u5.ownBlock from fun h => by have := ho.lt _ h.symm; omega)
      have hDs : wr.heap.size < (wr.alloc (.cells #[.int .i64 x, .int .i64 y] 39)).drew.heap.size := by simp
      have OD := Lib.hid hoD
      have DS := Lib.hid hDs
      have DB := Lib.hid BD
      clear ho hoD hDs BD
      go_wp2_with fail
      clear hx' hy'
      go_region_held3 (fun w' => w'.cell? ⟨wr.heap.size, 0, none⟩ = some (.int .i64 x) ∧ w'.cell? ⟨wr.heap.size, 1, none⟩ = some (.int .i64 y))
        (first | go_keep | exact c4.out | exact c3.out | exact c2.out | exact c1.out | fail)
        (first
          | (have hbb := ob; refine step_append_lie (by rfl) _ _ (by rfl) (w.heap.size + 1) v2 (L ++ bx) (by rfl) (o2.below bb) _ byy (by rfl) ob.byt (by rw [List.length_append]; omega) (Nat.le_trans hs2 bb.size) ?_; intro v3 w3 o3 g3 a3; have c4 := Lib.hid (show w3.cell? ⟨wr.heap.size, 0, none⟩ = some (.int .i64 x) ∧ w3.cell? ⟨wr.heap.size, 1, none⟩ = some (.int .i64 y) from ⟨g3.cell c3.out.1 NE2.out, g3.cell c3.out.2 NE2.out⟩))
          | (have hgg := g2; refine step_go1 (by rfl) 13 _ 3 (by rfl) ENS.out _ (by rfl) (S2.out _) ?_; rintro e wb ⟨vb2, rfl, ob, bb⟩; refine ⟨_, rfl, ?_⟩; have c3 := Lib.hid (show wb.cell? ⟨wr.heap.size, 0, none⟩ = some (.int .i64 x) ∧ wb.cell? ⟨wr.heap.size, 1, none⟩ = some (.int .i64 y) from ⟨(bb.cell (p := ⟨wr.heap.size, 0, none⟩) hlt2).trans c2.out.1, (bb.cell (p := ⟨wr.heap.size, 1, none⟩) hlt2).trans c2.out.2⟩))
          | (have haa := oa; refine step_append_lie (by rfl) _ _ (by rfl) (w.heap.size + 1) _ L (by rfl) (OD.out.below ba) _ bx (by rfl) oa.byt (by omega) hsa ?_; intro v2 w2 o2 g2 a2; have c2 := Lib.hid (show w2.cell? ⟨wr.heap.size, 0, none⟩ = some (.int .i64 x) ∧ w2.cell? ⟨wr.heap.size, 1, none⟩ = some (.int .i64 y) from ⟨g2.cell c1.out.1 NE1.out, g2.cell c1.out.2 NE1.out⟩); have hg2s := g2.size; have hlt2 := Nat.lt_of_lt_of_le has1 hg2s; have hs2 := Nat.le_trans hsa hg2s; have NE2 := Lib.hid (ne_lie NE1.out has1 a2))
          | (refine step_go1 (by rfl) 13 _ 3 (by rfl) ENS.out _ (by rfl) (S1.out _) ?_; rintro e wa ⟨va2, rfl, oa, ba⟩; refine ⟨_, rfl, ?_⟩; have c1 := Lib.hid (XS.out _ ba); have has1 := Nat.lt_of_lt_of_le DS.out ba.size; have hsa : w.heap.size + 1 ≤ wa.heap.size := by omega)
          | fail)
      have E1 := DB.out.trans (ba.mono DB.out.size)
      have E2 := E1.trans (Own.grown (OD.out.below ba) g2 (Nat.le_succ _) E1.size)
      have E3 := E2.trans (bb.mono E2.size)
      have E4 := Lib.hid (E3.trans (Own.grown (o2.below bb) g3 (Nat.le_succ _) E3.size))
      have HS := Lib.hid (Nat.le_trans (Nat.le_trans hs2 bb.size) g3.size)
      clear E1 E2 E3 g2 g3 bb ba o2 a2 a3 c1 c2 c3 c4 oa ob hg2s
      go_wp2_with fail
      go_roundw
      case rel => exact ⟨k + 1, by omega, by go_num, by rw [HL.out]; exact o3, E4.out, HS.out⟩
      case measure => simp [intOf]; omega
    · obtain rfl : k = l.length := by omega
      rw [List.take_length] at ho
      have t1 : decide (l.length < l.length) = false := by simp
      go_wp2_with fail
      go_ret2
      exact ⟨_, rfl, own_base ho (Nat.le_succ _), hb⟩
end Go.Proofs.YthcfekabeidmiaaRR
