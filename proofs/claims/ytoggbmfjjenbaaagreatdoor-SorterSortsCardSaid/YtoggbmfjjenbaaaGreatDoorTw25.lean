/- ring.Box, pergolaref3.Union, RingBox. pergolaref3.Union, RingBox. pergolaref3.RingBox. -/
import Derived.Test.YtoggbmfjjenbaaaGreatDoorTw24
set_option linter.unusedSimpArgs false
set_option linter.unusedVariables false
namespace Go.Proofs.YtoggbmfjjenbaaaGreatDoor
/-! RingBox -/
section
open Go.RowKit

/-- the least box that has a ring; of none noughts -/
def bbE (l : List Pt) : Int × Int × Int × Int := if ringOk l then bbTo l l.length else (0, 0, 0, 0)
def bxAgg (b : Int × Int × Int × Int) : Value := .agg #[.int .i64 b.1, .int .i64 b.2.1, .int .i64 b.2.2.1, .int .i64 b.2.2.2]

theorem Er.Is.put {w : World} {op : ByteArray} {id k : Int} {v : Value} (h : Er.Is w (.fault op id (.num k)) v) {g : Nat} (hne : ∀ b, v = .iface 61 (.pointer (some ⟨b, 0, Option.none⟩)) → b ≠ g) (o : Nat) (x : Value) : Er.Is (w.setCell ⟨g, o, Option.none⟩ x) (.fault op id (.num k)) v := by
  obtain ⟨b, u, rfl, hlt, q0, q1, q2, q3⟩ := h
  have hb := hne b rfl
  exact ⟨b, u, rfl, by simpa using hlt, (World.cell?_setCell_other _ _ _ _ (by intro e; simp at e; try omega)).trans q0, (World.cell?_setCell_other _ _ _ _ (by intro e; simp at e; try omega)).trans q1, (World.cell?_setCell_other _ _ _ _ (by intro e; simp at e; try omega)).trans q2, q3⟩
theorem Er.Is.ne {w : World} {op : ByteArray} {id k : Int} {v : Value} (h : Er.Is w (.fault op id (.num k)) v) {g : Nat} {z : Int} (hz : w.cell? ⟨g, 0, Option.none⟩ = some (.int .i64 z)) : ∀ b, v = .iface 61 (.pointer (some ⟨b, 0, Option.none⟩)) → b ≠ g := by
  obtain ⟨b, u, rfl, hlt, q0, q1, q2, q3⟩ := h
  intro b' e hb
  cases e
  subst hb
  rw [q0] at hz
  cases hz

set_option maxRecDepth 100000 in
set_option maxHeartbeats 2000000 in
theorem Box_any (v : Value) (l : List (Int × Int)) (w : World) (hv : Pts w v l) :
    Calls Tryz.prog 61 #[v] w fun e w' => ∃ u, e = .returned (.tuple #[bxAgg (bbE l), u]) ∧ (ringEr l).Is w' u ∧ Below w.heap.size w w' := by
  have B0 : Below w.heap.size w (w.alloc (.cells #[.int .i64 0, .int .i64 0, .int .i64 0, .int .i64 0] 69)) := (Below.refl _ _).alloc (Nat.le_refl _) _
  have R0 := Lib.hid (show QuadS (w.alloc (.cells #[.int .i64 0, .int .i64 0, .int .i64 0, .int .i64 0] 69)) w.heap.size (0, 0, 0, 0) from quadS_alloc w 0 0 0 0 69)
  have C := Lib.hid (Check_any v l _ (hv.below B0))
  by_cases h : ringEr l = .none
  · obtain ⟨hl, h3, h64⟩ := ringEr_ok h
    have HR := Lib.hid (show bbE l = bbTo l l.length by unfold bbE; rw [ringOk_yes h]; rfl)
    have HE := Lib.hid h
    rw [h] at C
    have HV := Lib.hid hv
    have UN := Lib.hid (fun v' w' (h : PBx w' v' l) => Union_ok v' l w' h hl (by omega) h64)
    obtain ⟨ao, c, rfl, hc1, hc2, _, h3'⟩ := hv.open
    have H3 := Lib.hid (show ∀ i (h : i < l.length), ∃ b off, ao = some ⟨b, off, none⟩ ∧ b < w.heap.size ∧ w.cell? ⟨b, off + i * 2, none⟩ = some (.int .i64 l[i].1) ∧ w.cell? ⟨b, off + i * 2 + 1, none⟩ = some (.int .i64 l[i].2) from h3')
    unfold maxLen at hc2
    clear h h3' hv hl
    go_enter Tryz.func61, Tryz.ntmps61
    go_wp2_with fail
    refine C.out.mono ?_
    rintro e w1 ⟨u, rfl, rfl, b1⟩
    have B1 := B0.trans (b1.mono B0.size)
    have hr1 := Lib.hid (R0.out.below b1)
    have hw1 : w.heap.size < w1.heap.size := hr1.out.lt
    go_wp2_with fail
    go_loopw [5, 16] (fun a i wr => ∃ k : Nat, k ≤ l.length ∧ i = .int .i64 k ∧ OwnX wr w1.heap.size a (l.take k) ∧ Below w1.heap.size w1 wr) (fun _ i _ => l.length - (intOf i).toNat)
    case atStart => exact ⟨0, Nat.zero_le _, rfl, World.ownsRow_nil _ _ _ _, Below.refl _ _⟩
    case round =>
      obtain ⟨k, hk, rfl, ho, hb⟩ := hrel
      have BB := B1.trans (hb.mono B1.size)
      by_cases hlt : k < l.length
      · have t1 : decide ((k : Int) < (l.length : Int)) = true := by simp; omega
        obtain ⟨g, off, rfl, hg, a0, a1⟩ := H3.out k hlt
        have c0 := (BB.cell (p := ⟨g, off + k * 2, none⟩) hg).trans a0
        have c1 := (BB.cell (p := ⟨g, off + k * 2 + 1, none⟩) hg).trans a1
        have HT := Lib.hid (show l.take (k + 1) = l.take k ++ [l[k]] from List.take_succ_eq_append_getElem hlt)
        clear a0 a1
        generalize l[k] = pk at *
        obtain ⟨ax, ay⟩ := pk
        simp only at c0 c1
        have j0 : (0 : Int) ≤ (k : Int) := by omega
        have j1 : (k : Int) < (l.length : Int) := by omega
        have hb2 := hb.alloc hb.size (.cells #[.int .i64 ax, .int .i64 ay] 67)
        have hb3 := hb2.alloc hb2.size (.cells #[.int .i64 ax, .int .i64 ay, .int .i64 ax, .int .i64 ay] 69)
        have HO := Lib.hid (World.ownsRow.alloc (World.ownsRow.alloc ho (.cells #[.int .i64 ax, .int .i64 ay] 67)) (.cells #[.int .i64 ax, .int .i64 ay, .int .i64 ax, .int .i64 ay] 69))
        have HP := Lib.hid (pbx1 (wr.alloc (.cells #[.int .i64 ax, .int .i64 ay] 67)) (wr.heap.size + 1) (by simp) ax ay)
        have hlen : (l.take k).length + [(ax, ay)].length ≤ 1000000 := by simp; omega
        have hk1 : k + 1 ≤ l.length := by omega
        clear ho
        go_wp2_with (at_builtin; refine wpList_append_bx rfl _ _ rfl w1.heap.size _ _ rfl HO.out _ [(ax, ay)] rfl HP.out hlen hb3.size ?_)
        intro v5 w5 ho5 hb5
        have HB := Lib.hid (hb3.trans hb5)
        have HO5 := Lib.hid ho5
        clear hlen ho5
        go_wp2_with fail
        go_roundw
        case rel => exact ⟨k + 1, hk1, by go_num, by rw [HT.out]; exact HO5.out, HB.out⟩
        case measure => simp [intOf]; omega
      · have t1 : decide ((k : Int) < (l.length : Int)) = false := by simp; omega
        obtain rfl : k = l.length := by omega
        rw [List.take_length] at ho
        have U1 := Lib.hid (UN.out _ _ ho.bx)
        have RW := Lib.hid (hr1.out.below hb)
        clear ho
        go_wp2_with fail
        refine U1.out.mono ?_
        rintro e w3 ⟨rfl, b3⟩
        have hr := RW.out.below b3
        generalize hbb : bbTo l l.length = bb at *
        obtain ⟨m1, m2, m3, m4⟩ := bb
        have HBB := Lib.hid hbb
        clear hbb
        have HRR := Lib.hid (hr.put m1 m2 m3 m4)
        have hlw := hr.lt
        obtain ⟨⟨d0, d1, d2, d3⟩, f0, f1, f2, f3⟩ := hr
        simp only at d0 d1 d2 d3
        have hBB := BB.trans (b3.mono BB.size)
        have HB := Lib.hid ((((hBB.setCell (p := ⟨w.heap.size, 0, none⟩) (Nat.le_refl _) (.int .i64 m1)).setCell (p := ⟨w.heap.size, 1, none⟩) (Nat.le_refl _) (.int .i64 m2)).setCell (p := ⟨w.heap.size, 2, none⟩) (Nat.le_refl _) (.int .i64 m3)).setCell (p := ⟨w.heap.size, 3, none⟩) (Nat.le_refl _) (.int .i64 m4))
        clear hBB BB hb b3
        go_wp2_with fail
        obtain ⟨⟨r0, r1, r2, r3⟩, _, _, _, _⟩ := HRR.out
        exact bodyPost_ret (v := .tuple #[.agg #[.int .i64 m1, .int .i64 m2, .int .i64 m3, .int .i64 m4], .nilIface]) (by simp [results, Tryz.results61, go_sem, r0, r1, r2, r3]) rfl ⟨_, by rw [HR.out]; rfl, by rw [HE.out]; rfl, HB.out⟩
  · obtain ⟨i, k, hr2⟩ := ringEr_some h
    have HR := Lib.hid (show bbE l = (0, 0, 0, 0) by unfold bbE; rw [ringOk_no h]; rfl)
    have HE := Lib.hid hr2
    rw [hr2] at C
    clear h hr2 hv
    go_enter Tryz.func61, Tryz.ntmps61
    go_wp2_with fail
    refine C.out.mono ?_
    rintro e w1 ⟨u, rfl, hu, b1⟩
    have B1 := B0.trans (b1.mono B0.size)
    have hr := R0.out.below b1
    have HRR := Lib.hid (hr.put 0 0 0 0)
    have hlw := hr.lt
    have hne := hu.ne hr.q.c0
    have HU := Lib.hid ((((hu.put hne 0 (.int .i64 0)).put hne 1 (.int .i64 0)).put hne 2 (.int .i64 0)).put hne 3 (.int .i64 0))
    have HB := Lib.hid ((((B1.setCell (p := ⟨w.heap.size, 0, none⟩) (Nat.le_refl _) (.int .i64 0)).setCell (p := ⟨w.heap.size, 1, none⟩) (Nat.le_refl _) (.int .i64 0)).setCell (p := ⟨w.heap.size, 2, none⟩) (Nat.le_refl _) (.int .i64 0)).setCell (p := ⟨w.heap.size, 3, none⟩) (Nat.le_refl _) (.int .i64 0))
    clear hne
    obtain ⟨bu, uu, rfl, _⟩ := hu
    obtain ⟨⟨d0, d1, d2, d3⟩, f0, f1, f2, f3⟩ := hr
    simp only at d0 d1 d2 d3
    go_wp2_with fail
    obtain ⟨⟨r0, r1, r2, r3⟩, _, _, _, _⟩ := HRR.out
    exact bodyPost_ret (v := .tuple #[.agg #[.int .i64 0, .int .i64 0, .int .i64 0, .int .i64 0], .iface 61 (.pointer (some ⟨bu, 0, none⟩))]) (by simp [results, Tryz.results61, go_sem, r0, r1, r2, r3]) rfl ⟨_, by rw [HR.out]; rfl, by rw [HE.out]; exact HU.out, HB.out⟩
end

/-! UnionR -/
section
open Go.RowKit

theorem QuadS.drew {w : World} {g : Nat} {b : Int × Int × Int × Int} (h : QuadS w g b) : QuadS w.drew g b := ⟨⟨h.q.c0, h.q.c1, h.q.c2, h.q.c3⟩, h.f0, h.f1, h.f2, h.f3⟩

set_option maxRecDepth 100000 in
set_option maxHeartbeats 4000000 in
theorem UnionR_ok (v : Value) (l : List (Int × Int)) (w : World) (hv : PBx w v l) (hl : allP l = true) (h1 : 1 ≤ l.length) (h64 : l.length ≤ 64) :
    Calls Tryz.prog 64 #[v] w fun e w' => e = .returned (.tuple #[.agg #[.int .i64 (bbTo l l.length).1, .int .i64 (bbTo l l.length).2.1, .int .i64 (bbTo l l.length).2.2.1, .int .i64 (bbTo l l.length).2.2.2], .int .i64 0]) ∧ Below w.heap.size w w' := by
  obtain ⟨ao, c, rfl, hc1, hc2, h3'⟩ := hv.open
  obtain ⟨g, off, rfl, hg0, z0, z1, z2, z3⟩ := h3' 0 (by omega)
  have H3 := Lib.hid h3'
  have OK := Lib.hid (show ∀ k (hk : k < l.length), inP (pt l k).1 (pt l k).2 from fun k hk => okP_inP (pt_ok hl hk))
  have B0 : Below w.heap.size w (w.alloc (.cells #[.int .i64 0, .int .i64 0, .int .i64 0, .int .i64 0] 69)) := (Below.refl _ _).alloc (Nat.le_refl _) _
  have B1 : Below (w.heap.size + 1) (w.alloc (.cells #[.int .i64 0, .int .i64 0, .int .i64 0, .int .i64 0] 69)) ((w.alloc (.cells #[.int .i64 0, .int .i64 0, .int .i64 0, .int .i64 0] 69)).alloc (.cells #[.int .i64 (pt l 0).1, .int .i64 (pt l 0).2, .int .i64 (pt l 0).1, .int .i64 (pt l 0).2] 69)) := (Below.refl _ _).alloc (by simp) _
  have Q0 := Lib.hid (show QuadS ((w.alloc (.cells #[.int .i64 0, .int .i64 0, .int .i64 0, .int .i64 0] 69)).alloc (.cells #[.int .i64 (pt l 0).1, .int .i64 (pt l 0).2, .int .i64 (pt l 0).1, .int .i64 (pt l 0).2] 69)) (w.heap.size + 1) (bbTo l 0) from by
    have := quadS_alloc (w.alloc (.cells #[.int .i64 0, .int .i64 0, .int .i64 0, .int .i64 0] 69)) (pt l 0).1 (pt l 0).2 (pt l 0).1 (pt l 0).2 69
    have e : (w.alloc (.cells #[.int .i64 0, .int .i64 0, .int .i64 0, .int .i64 0] 69)).heap.size = w.heap.size + 1 := by simp
    rw [e] at this
    exact this)
  have R0 := Lib.hid (show QuadS (w.alloc (.cells #[.int .i64 0, .int .i64 0, .int .i64 0, .int .i64 0] 69)) w.heap.size (0, 0, 0, 0) from quadS_alloc w 0 0 0 0 69)
  have t0 : ((l.length : Int) == 0) = false := beq_eq_false_iff_ne.2 (by omega)
  have i0 : (0 : Int) < (l.length : Int) := by omega
  unfold maxLen at hc2
  rw [Nat.zero_mul, Nat.add_zero] at z0 z1 z2 z3
  clear h3' hv hl
  generalize pt l 0 = p0 at *
  obtain ⟨x0, y0⟩ := p0
  simp only at z0 z1 z2 z3
  go_enter Tryz.func64, Tryz.ntmps64
  go_wp2_with fail
  go_loopw [5] (fun i wr => ∃ k : Nat, k ≤ l.length ∧ i = .int .i64 k ∧ QuadS wr (w.heap.size + 1) (bbTo l k) ∧ Below (w.heap.size + 1) (w.alloc (.cells #[.int .i64 0, .int .i64 0, .int .i64 0, .int .i64 0] 69)) wr) (fun i _ => l.length - (intOf i).toNat)
  case atStart => exact ⟨0, Nat.zero_le _, rfl, Q0.out, B1⟩
  case round =>
    obtain ⟨k, hk, rfl, hq, hb⟩ := hrel
    by_cases hlt : k < l.length
    · have t1 : decide ((k : Int) < (l.length : Int)) = true := by simp; omega
      obtain ⟨_, _, ee, hg, a0, a1, a2, a3⟩ := H3.out k hlt
      cases ee
      have hBB := B0.trans (hb.mono (by omega))
      have c0 := (hBB.cell (p := ⟨g, off + k * 4, none⟩) hg0).trans a0
      have c1 := (hBB.cell (p := ⟨g, off + k * 4 + 1, none⟩) hg0).trans a1
      have c2 := (hBB.cell (p := ⟨g, off + k * 4 + 2, none⟩) hg0).trans a2
      have c3 := (hBB.cell (p := ⟨g, off + k * 4 + 3, none⟩) hg0).trans a3
      have ok := OK.out k hlt
      have HK := Lib.hid (show bbTo l (k + 1) = (min (bbTo l k).1 (pt l k).1, min (bbTo l k).2.1 (pt l k).2, max (bbTo l k).2.2.1 (pt l k).1, max (bbTo l k).2.2.2 (pt l k).2) from rfl)
      clear a0 a1 a2 a3
      generalize pt l k = pk at *
      obtain ⟨ax, ay⟩ := pk
      simp only at c0 c1 c2 c3 ok HK
      have CK := Lib.hid (fun w => CheckBoxR_any ax ay ax ay w)
      rw [boxCode_zero.2 ⟨ok, ok, Int.le_refl _, Int.le_refl _⟩] at CK
      have j0 : (0 : Int) ≤ (k : Int) := by omega
      have j1 : (k : Int) < (l.length : Int) := by omega
      have hgr : g < wr.heap.size := Nat.lt_of_lt_of_le hg0 hBB.size
      have hlt6 := hq.lt
      have HQ := Lib.hid hq
      clear ok hq hBB
      go_wp2_with fail
      refine (CK.out _).mono ?_
      rintro e w3 ⟨rfl, b3⟩
      have hb3 := hb.trans (b3.mono (Nat.le_of_lt hlt6))
      have hq3 := HQ.out.below b3
      have HQ3 := Lib.hid hq3
      obtain ⟨⟨b0, b1, b2, b4⟩, f0, f1, f2, f3⟩ := hq3
      have e0 := (b3.cell (p := ⟨g, off + k * 4, none⟩) hgr).trans c0
      have e1 := (b3.cell (p := ⟨g, off + k * 4 + 1, none⟩) hgr).trans c1
      have e2 := (b3.cell (p := ⟨g, off + k * 4 + 2, none⟩) hgr).trans c2
      have e3 := (b3.cell (p := ⟨g, off + k * 4 + 3, none⟩) hgr).trans c3
      have hne : ¬ g = w.heap.size + 1 := by omega
      have hne2 : ¬ w.heap.size + 1 = g := by omega
      generalize bbTo l k = bb at *
      obtain ⟨m1, m2, m3, m4⟩ := bb
      simp only at b0 b1 b2 b4 HK
      clear c0 c1 c2 c3 b3
      obtain ⟨n1, hn1⟩ : ∃ n, (if ax < m1 then ax else m1) = n := ⟨_, rfl⟩
      obtain ⟨n2, hn2⟩ : ∃ n, (if ay < m2 then ay else m2) = n := ⟨_, rfl⟩
      obtain ⟨n3, hn3⟩ : ∃ n, (if m3 < ax then ax else m3) = n := ⟨_, rfl⟩
      obtain ⟨n4, hn4⟩ : ∃ n, (if m4 < ay then ay else m4) = n := ⟨_, rfl⟩
      have HN := Lib.hid (show bbTo l (k + 1) = (n1, n2, n3, n4) from by
        rw [HK.out, ← hn1, ← hn2, ← hn3, ← hn4]
        refine Prod.ext ?_ (Prod.ext ?_ (Prod.ext ?_ ?_)) <;> simp only <;> split <;> omega)
      have HP := Lib.hid ((HQ3.out.put n1 n2 n3 n4).drew.drew.drew.drew)
      have HB := Lib.hid ((((hb3.setCell (p := ⟨w.heap.size + 1, 0, none⟩) (Nat.le_refl _) (.int .i64 n1)).setCell (p := ⟨w.heap.size + 1, 1, none⟩) (Nat.le_refl _) (.int .i64 n2)).setCell (p := ⟨w.heap.size + 1, 2, none⟩) (Nat.le_refl _) (.int .i64 n3)).setCell (p := ⟨w.heap.size + 1, 3, none⟩) (Nat.le_refl _) (.int .i64 n4)).drew.drew.drew.drew
      have hk1 : k + 1 ≤ l.length := by omega
      clear hb3 HK
      go_wp2_with fail
      go_region
      go_wp2_with fail
      go_region
      go_wp2_with fail
      go_region
      go_wp2_with fail
      go_region
      go_wp2_with fail
      go_roundw
      case rel => exact ⟨k + 1, hk1, by go_num, by rw [HN.out]; exact HP.out, HB.out⟩
      case measure => simp [intOf]; omega
    · have t1 : decide ((k : Int) < (l.length : Int)) = false := by simp; omega
      obtain rfl : k = l.length := by omega
      have hb' : Below (w.alloc (.cells #[.int .i64 0, .int .i64 0, .int .i64 0, .int .i64 0] 69)).heap.size (w.alloc (.cells #[.int .i64 0, .int .i64 0, .int .i64 0, .int .i64 0] 69)) wr := by
        have e : (w.alloc (.cells #[.int .i64 0, .int .i64 0, .int .i64 0, .int .i64 0] 69)).heap.size = w.heap.size + 1 := by simp
        rw [e]; exact hb
      have hr := R0.out.below hb'
      generalize hbb : bbTo l l.length = bb at *
      obtain ⟨m1, m2, m3, m4⟩ := bb
      have HBB := Lib.hid hbb
      clear hbb
      have HR := Lib.hid (hr.put m1 m2 m3 m4)
      obtain ⟨⟨b0, b1, b2, b3⟩, _, _, _, _⟩ := hq
      obtain ⟨⟨d0, d1, d2, d3⟩, f0, f1, f2, f3⟩ := hr
      simp only at b0 b1 b2 b3 d0 d1 d2 d3
      have hBB := B0.trans (hb'.mono (by simp))
      have hlw : w.heap.size < wr.heap.size := World.block_lt_of_cell? wr ⟨w.heap.size, 0, none⟩ d0
      have HB := Lib.hid ((((hBB.setCell (p := ⟨w.heap.size, 0, none⟩) (Nat.le_refl _) (.int .i64 m1)).setCell (p := ⟨w.heap.size, 1, none⟩) (Nat.le_refl _) (.int .i64 m2)).setCell (p := ⟨w.heap.size, 2, none⟩) (Nat.le_refl _) (.int .i64 m3)).setCell (p := ⟨w.heap.size, 3, none⟩) (Nat.le_refl _) (.int .i64 m4))
      clear hb hb' hBB
      go_wp2_with fail
      obtain ⟨⟨r0, r1, r2, r3⟩, _, _, _, _⟩ := HR.out
      exact bodyPost_ret (v := .tuple #[.agg #[.int .i64 m1, .int .i64 m2, .int .i64 m3, .int .i64 m4], .int .i64 0]) (by simp [results, Tryz.results64, go_sem, r0, r1, r2, r3]) rfl ⟨by rw [HBB.out], HB.out⟩
end

/-! RingBoxR -/
section
open Go.RowKit

set_option maxRecDepth 100000 in
set_option maxHeartbeats 2000000 in
theorem RingBox_any (v : Value) (l : List (Int × Int)) (w : World) (hv : Pts w v l) :
    Calls Tryz.prog 48 #[v] w fun e w' => e = .returned (.tuple #[bxAgg (bbE l), .int .i64 (ringRes l).1, .int .i64 (ringRes l).2]) ∧ Below w.heap.size w w' := by
  have B0 : Below w.heap.size w (w.alloc (.cells #[.int .i64 0, .int .i64 0, .int .i64 0, .int .i64 0] 69)) := (Below.refl _ _).alloc (Nat.le_refl _) _
  have R0 := Lib.hid (show QuadS (w.alloc (.cells #[.int .i64 0, .int .i64 0, .int .i64 0, .int .i64 0] 69)) w.heap.size (0, 0, 0, 0) from quadS_alloc w 0 0 0 0 69)
  have C := Lib.hid (CheckR_any v l _ (hv.below B0))
  by_cases h : ringEr l = .none
  · obtain ⟨hl, h3, h64⟩ := ringEr_ok h
    have HR := Lib.hid (show bbE l = bbTo l l.length by unfold bbE; rw [ringOk_yes h]; rfl)
    have HE := Lib.hid (ringRes_good h)
    rw [ringRes_good h] at C
    have UN := Lib.hid (fun v' w' (h : PBx w' v' l) => UnionR_ok v' l w' h hl (by omega) h64)
    obtain ⟨ao, c, rfl, hc1, hc2, _, h3'⟩ := hv.open
    have H3 := Lib.hid (show ∀ i (h : i < l.length), ∃ b off, ao = some ⟨b, off, none⟩ ∧ b < w.heap.size ∧ w.cell? ⟨b, off + i * 2, none⟩ = some (.int .i64 l[i].1) ∧ w.cell? ⟨b, off + i * 2 + 1, none⟩ = some (.int .i64 l[i].2) from h3')
    unfold maxLen at hc2
    clear h h3' hv hl
    go_enter Tryz.func48, Tryz.ntmps48
    go_wp2_with fail
    refine C.out.mono ?_
    rintro e w1 ⟨rfl, b1⟩
    have B1 := B0.trans (b1.mono B0.size)
    have hr1 := Lib.hid (R0.out.below b1)
    have hw1 : w.heap.size < w1.heap.size := hr1.out.lt
    go_wp2_with fail
    go_loopw [7, 8] (fun a i wr => ∃ k : Nat, k ≤ l.length ∧ i = .int .i64 k ∧ OwnX wr w1.heap.size a (l.take k) ∧ Below w1.heap.size w1 wr) (fun _ i _ => l.length - (intOf i).toNat)
    case atStart => exact ⟨0, Nat.zero_le _, rfl, World.ownsRow_nil _ _ _ _, Below.refl _ _⟩
    case round =>
      obtain ⟨k, hk, rfl, ho, hb⟩ := hrel
      have BB := B1.trans (hb.mono B1.size)
      by_cases hlt : k < l.length
      · have t1 : decide ((k : Int) < (l.length : Int)) = true := by simp; omega
        obtain ⟨g, off, rfl, hg, a0, a1⟩ := H3.out k hlt
        have XS := Lib.hid (show ∀ w', Below w1.heap.size w1 w' → w'.cell? ⟨g, off + k * 2, none⟩ = some (.int .i64 l[k].1) ∧ w'.cell? ⟨g, off + k * 2 + 1, none⟩ = some (.int .i64 l[k].2) from fun w' h => by
          have h' := B1.trans (h.mono B1.size)
          exact ⟨(h'.cell (p := ⟨g, off + k * 2, none⟩) hg).trans a0, (h'.cell (p := ⟨g, off + k * 2 + 1, none⟩) hg).trans a1⟩)
        have HT := Lib.hid (show l.take (k + 1) = l.take k ++ [l[k]] from List.take_succ_eq_append_getElem hlt)
        clear a0 a1
        generalize l[k] = pk at *
        obtain ⟨ax, ay⟩ := pk
        simp only at XS
        have j0 : (0 : Int) ≤ (k : Int) := by omega
        have j1 : (k : Int) < (l.length : Int) := by omega
        have hlen : (l.take k).length + [(ax, ay)].length ≤ 1000000 := by simp; omega
        have hk1 : k + 1 ≤ l.length := by omega
        have ho' : OwnX wr.drew w1.heap.size _ (l.take k) := ho
        clear ho
        go_wp2_with fail
        refine wp_region_noPanic ?_
        refine wp_region_held_drew (S := fun w' => Below w1.heap.size w1 w') (by kernel_rfl) hb.drew (fun hHeld => ?_)
        generalize wr.drew = D at hHeld ho' ⊢
        have k1 : Below w1.heap.size w1 D := hHeld
        refine wpAnyH_take (i := 0) (oi := ⟨some 27, _, _, _, _, _⟩) (v := ?qv0rb) rfl (by kernel_rfl) (by kernel_rfl) (by kernel_rfl) (fun _ _ _ h => h) (Or.inl ⟨by rfl, ?qy0rb⟩) hHeld ?qr0rb
        case qy0rb => (intro w' hSw; go_simp; try with_reducible rfl)
        try simp only [Act.put, List.setIfInBounds_toArray, List.set_cons_zero, List.set_cons_succ]
        refine wpAnyH_take (i := 1) (oi := ⟨some 28, _, _, _, _, _⟩) (v := ?qv1rb) rfl (by kernel_rfl) (by kernel_rfl) (by kernel_rfl) (fun _ _ _ h => h) (Or.inl ⟨by rfl, ?qy1rb⟩) hHeld ?qr1rb
        case qy1rb => (intro w' hSw; go_simp; try with_reducible rfl)
        try simp only [Act.put, List.setIfInBounds_toArray, List.set_cons_zero, List.set_cons_succ]
        refine wpAnyH_take (i := 2) (oi := ⟨some 29, _, _, _, _, _⟩) (v := ?qv2rb) rfl (by kernel_rfl) (by kernel_rfl) (by kernel_rfl) (fun _ _ _ h => h) (Or.inl ⟨by rfl, ?qy2rb⟩) hHeld ?qr2rb
        case qy2rb => (intro w' hSw; go_simp; try with_reducible rfl)
        try simp only [Act.put, List.setIfInBounds_toArray, List.set_cons_zero, List.set_cons_succ]
        refine wpAnyH_take (i := 3) (oi := ⟨some 30, _, _, _, _, _⟩) (v := ?qv3rb) rfl (by kernel_rfl) (by kernel_rfl) (by kernel_rfl) (fun _ _ _ h => h) (Or.inl ⟨by rfl, ?qy3rb⟩) hHeld ?qr3rb
        case qy3rb => (intro w' hSw; go_simp; try with_reducible rfl)
        try simp only [Act.put, List.setIfInBounds_toArray, List.set_cons_zero, List.set_cons_succ]
        refine wpAnyH_take (i := 4) (oi := ⟨some 31, _, _, _, _, _⟩) (v := ?qv4rb) rfl (by kernel_rfl) (by kernel_rfl) (by kernel_rfl) (fun _ _ _ h => h) (Or.inl ⟨by rfl, ?qy4rb⟩) hHeld ?qr4rb
        case qy4rb => (intro w' hSw; obtain ⟨z0, z1⟩ := XS.out w' hSw; go_simp; try with_reducible rfl)
        try simp only [Act.put, List.setIfInBounds_toArray, List.set_cons_zero, List.set_cons_succ]
        refine wpAnyH_take (i := 5) (oi := ⟨some 32, _, _, _, _, _⟩) (v := ?qv5rb) rfl (by kernel_rfl) (by kernel_rfl) (by kernel_rfl) (fun _ _ _ h => h) (Or.inl ⟨by rfl, ?qy5rb⟩) hHeld ?qr5rb
        case qy5rb => (intro w' hSw; go_simp; try with_reducible rfl)
        try simp only [Act.put, List.setIfInBounds_toArray, List.set_cons_zero, List.set_cons_succ]
        refine wpAnyH_take (i := 6) (oi := ⟨some 33, _, _, _, _, _⟩) (v := ?qv6rb) rfl (by kernel_rfl) (by kernel_rfl) (by kernel_rfl) (fun _ _ _ h => h) (Or.inl ⟨by rfl, ?qy6rb⟩) hHeld ?qr6rb
        case qy6rb => (intro w' hSw; go_simp; try with_reducible rfl)
        try simp only [Act.put, List.setIfInBounds_toArray, List.set_cons_zero, List.set_cons_succ]
        refine wpAnyH_take (i := 7) (oi := ⟨some 34, _, _, _, _, _⟩) (v := ?qv7rb) rfl (by kernel_rfl) (by kernel_rfl) (by kernel_rfl) (fun _ _ _ h => h) (Or.inl ⟨by rfl, ?qy7rb⟩) hHeld ?qr7rb
        case qy7rb => (intro w' hSw; go_simp; try with_reducible rfl)
        try simp only [Act.put, List.setIfInBounds_toArray, List.set_cons_zero, List.set_cons_succ]
        refine wpAnyH_take (i := 8) (oi := ⟨some 35, _, _, _, _, _⟩) (v := ?qv8rb) rfl (by kernel_rfl) (by kernel_rfl) (by kernel_rfl) (fun _ _ _ h => h) (Or.inl ⟨by rfl, ?qy8rb⟩) hHeld ?qr8rb
        case qy8rb => (intro w' hSw; obtain ⟨z0, z1⟩ := XS.out w' hSw; go_simp; try with_reducible rfl)
        try simp only [Act.put, List.setIfInBounds_toArray, List.set_cons_zero, List.set_cons_succ]
        refine wpAnyH_take (i := 9) (oi := ⟨some 36, _, _, _, _, _⟩) (v := ?qv9rb) rfl (by kernel_rfl) (by kernel_rfl) (by kernel_rfl) (fun _ _ _ h => h) (Or.inl ⟨by rfl, ?qy9rb⟩) hHeld ?qr9rb
        case qy9rb => (intro w' hSw; go_simp; try with_reducible rfl)
        try simp only [Act.put, List.setIfInBounds_toArray, List.set_cons_zero, List.set_cons_succ]
        refine wpAnyH_ready (rs := [10]) (by kernel_rfl) (by simp) ?_
        refine AllReadyH.cons (o := ⟨some 37, _, _, _, _, _⟩) rfl (fun K hK => ?_) AllReadyH.nil
        go_simp
        have k2 := k1.alloc k1.size (.cells #[.int .i64 ax, .int .i64 ay, .int .i64 ax, .int .i64 ay] 69)
        have HO := Lib.hid (World.ownsRow.alloc ho' (.cells #[.int .i64 ax, .int .i64 ay, .int .i64 ax, .int .i64 ay] 69))
        have HP := Lib.hid (pbx1 D D.heap.size rfl ax ay)
        refine hK.out _ _ k2 (fun hHeld => ?_)
        clear hK K
        try simp only [Act.put, List.setIfInBounds_toArray, List.set_cons_zero, List.set_cons_succ]
        refine wpAnyH_ready (rs := [11]) (by kernel_rfl) (by simp) ?_
        refine AllReadyH.cons (o := ⟨some 38, _, _, _, _, _⟩) rfl (fun K hK => ?_) AllReadyH.nil
        refine step_append_bx (by rfl) _ _ (by rfl) w1.heap.size _ _ (by rfl) HO.out _ [(ax, ay)] (by rfl) HP.out hlen k2.size ?_
        intro v5 w5 ho5 hb5
        have k3 := k2.trans hb5
        refine hK.out _ _ k3 (fun hHeld => ?_)
        clear hK K
        try simp only [Act.put, List.setIfInBounds_toArray, List.set_cons_zero, List.set_cons_succ]
        refine wpAnyH_take (i := 12) (oi := ⟨some 7, _, _, _, _, _⟩) (v := ?qv12rb) rfl (by kernel_rfl) (by kernel_rfl) (by kernel_rfl) (fun _ _ _ h => h) (Or.inl ⟨by rfl, ?qy12rb⟩) hHeld ?qr12rb
        case qy12rb => (intro w' hSw; go_simp; try with_reducible rfl)
        try simp only [Act.put, List.setIfInBounds_toArray, List.set_cons_zero, List.set_cons_succ]
        refine wpAnyH_done (by kernel_rfl) ?_ _
        refine NoPanic.normal ?_
        have HO5 := Lib.hid ho5
        clear hlen ho5
        go_wp2_with fail
        go_roundw
        case rel => exact ⟨k + 1, hk1, by go_num, by rw [HT.out]; exact HO5.out, k3⟩
        case measure => simp [intOf]; omega
      · have t1 : decide ((k : Int) < (l.length : Int)) = false := by simp; omega
        obtain rfl : k = l.length := by omega
        rw [List.take_length] at ho
        have U1 := Lib.hid (UN.out _ _ ho.bx)
        have RW := Lib.hid (hr1.out.below hb)
        clear ho
        go_wp2_with fail
        refine U1.out.mono ?_
        rintro e w3 ⟨rfl, b3⟩
        have hr := RW.out.below b3
        generalize hbb : bbTo l l.length = bb at *
        obtain ⟨m1, m2, m3, m4⟩ := bb
        have HBB := Lib.hid hbb
        clear hbb
        have hBB := BB.trans (b3.mono BB.size)
        have HRR := Lib.hid ((hr.put m1 m2 m3 m4).below ((Below.refl _ _).alloc (Nat.le_refl _) (.cells #[.int .i64 m1, .int .i64 m2, .int .i64 m3, .int .i64 m4] 69)))
        have hlw := hr.lt
        obtain ⟨⟨d0, d1, d2, d3⟩, f0, f1, f2, f3⟩ := hr
        simp only at d0 d1 d2 d3
        have hBs := (((hBB.setCell (p := ⟨w.heap.size, 0, none⟩) (Nat.le_refl _) (.int .i64 m1)).setCell (p := ⟨w.heap.size, 1, none⟩) (Nat.le_refl _) (.int .i64 m2)).setCell (p := ⟨w.heap.size, 2, none⟩) (Nat.le_refl _) (.int .i64 m3)).setCell (p := ⟨w.heap.size, 3, none⟩) (Nat.le_refl _) (.int .i64 m4)
        have HB := Lib.hid (hBs.alloc hBs.size (.cells #[.int .i64 m1, .int .i64 m2, .int .i64 m3, .int .i64 m4] 69))
        clear hBs
        clear hBB BB hb b3
        go_wp2_with fail
        obtain ⟨⟨r0, r1, r2, r3⟩, _, _, _, _⟩ := HRR.out
        exact bodyPost_ret (v := .tuple #[.agg #[.int .i64 m1, .int .i64 m2, .int .i64 m3, .int .i64 m4], .int .i64 0, .int .i64 0]) (by simp [results, Tryz.results48, go_sem, r0, r1, r2, r3]) rfl ⟨by rw [HR.out, HE.out]; rfl, HB.out⟩
  · have HR := Lib.hid (show bbE l = (0, 0, 0, 0) by unfold bbE; rw [ringOk_no h]; rfl)
    have hn : ¬ (ringRes l).1 = 0 := fun k => h (ringRes_zero.1 k)
    have t0 : ((ringRes l).1 != 0) = true := by simpa using hn
    clear h hv
    generalize ringRes l = rr at *
    obtain ⟨q1, q2⟩ := rr
    simp only at t0 hn
    go_enter Tryz.func48, Tryz.ntmps48
    go_wp2_with fail
    refine C.out.mono ?_
    rintro e w1 ⟨rfl, b1⟩
    have B1 := B0.trans (b1.mono B0.size)
    have hr := R0.out.below b1
    have HRR := Lib.hid (hr.put 0 0 0 0)
    have hlw := hr.lt
    have HB := Lib.hid ((((B1.setCell (p := ⟨w.heap.size, 0, none⟩) (Nat.le_refl _) (.int .i64 0)).setCell (p := ⟨w.heap.size, 1, none⟩) (Nat.le_refl _) (.int .i64 0)).setCell (p := ⟨w.heap.size, 2, none⟩) (Nat.le_refl _) (.int .i64 0)).setCell (p := ⟨w.heap.size, 3, none⟩) (Nat.le_refl _) (.int .i64 0))
    obtain ⟨⟨d0, d1, d2, d3⟩, f0, f1, f2, f3⟩ := hr
    simp only at d0 d1 d2 d3
    go_wp2_with fail
    obtain ⟨⟨r0, r1, r2, r3⟩, _, _, _, _⟩ := HRR.out
    exact bodyPost_ret (v := .tuple #[.agg #[.int .i64 0, .int .i64 0, .int .i64 0, .int .i64 0], .int .i64 q1, .int .i64 q2]) (by simp [results, Tryz.results48, go_sem, r0, r1, r2, r3]) rfl ⟨by rw [HR.out]; rfl, HB.out⟩
end

end Go.Proofs.YtoggbmfjjenbaaaGreatDoor
