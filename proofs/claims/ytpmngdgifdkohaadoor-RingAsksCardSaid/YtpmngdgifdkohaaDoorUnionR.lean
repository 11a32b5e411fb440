/- pergolaref3.Union, RingBox. -/
import Derived.Test.YtpmngdgifdkohaaDoorRingBox
namespace Go.Proofs.YtpmngdgifdkohaaDoor
open Go.RowKit

theorem QuadS.drew {w : World} {g : Nat} {b : Int × Int × Int × Int} (h : QuadS w g b) : QuadS w.drew g b := ⟨⟨h.q.c0, h.q.c1, h.q.c2, h.q.c3⟩, h.f0, h.f1, h.f2, h.f3⟩

set_option maxRecDepth 100000 in
set_option maxHeartbeats 4000000 in
theorem UnionR_ok (v : Value) (l : List (Int × Int)) (w : World) (hv : PBx w v l) (hl : allP l = true) (h1 : 1 ≤ l.length) (h64 : l.length ≤ 64) :
    Calls Tryd.prog 48 #[v] w fun e w' => e = .returned (.tuple #[.agg #[.int .i64 (bbTo l l.length).1, .int .i64 (bbTo l l.length).2.1, .int .i64 (bbTo l l.length).2.2.1, .int .i64 (bbTo l l.length).2.2.2], .int .i64 0]) ∧ Below w.heap.size w w' := by
  obtain ⟨ao, c, rfl, hc1, hc2, h3'⟩ := hv.open
  obtain ⟨g, off, rfl, hg0, z0, z1, z2, z3⟩ := h3' 0 (by omega)
  have H3 := Lib.hid h3'
  have OK := Lib.hid (show ∀ k (hk : k < l.length), inP (pt l k).1 (pt l k).2 from fun k hk => okP_inP (pt_ok hl hk))
  have B0 : Below w.heap.size w (w.alloc (.cells #[.int .i64 0, .int .i64 0, .int .i64 0, .int .i64 0] 39)) := (Below.refl _ _).alloc (Nat.le_refl _) _
  have B1 : Below (w.heap.size + 1) (w.alloc (.cells #[.int .i64 0, .int .i64 0, .int .i64 0, .int .i64 0] 39)) ((w.alloc (.cells #[.int .i64 0, .int .i64 0, .int .i64 0, .int .i64 0] 39)).alloc (.cells #[.int .i64 (pt l 0).1, .int .i64 (pt l 0).2, .int .i64 (pt l 0).1, .int .i64 (pt l 0).2] 39)) := (Below.refl _ _).alloc (by simp) _
  have Q0 := Lib.hid (show QuadS ((w.alloc (.cells #[.int .i64 0, .int .i64 0, .int .i64 0, .int .i64 0] 39)).alloc (.cells #[.int .i64 (pt l 0).1, .int .i64 (pt l 0).2, .int .i64 (pt l 0).1, .int .i64 (pt l 0).2] 39)) (w.heap.size + 1) (bbTo l 0) from by
    have := quadS_alloc (w.alloc (.cells #[.int .i64 0, .int .i64 0, .int .i64 0, .int .i64 0] 39)) (pt l 0).1 (pt l 0).2 (pt l 0).1 (pt l 0).2 39
    have e : (w.alloc (.cells #[.int .i64 0, .int .i64 0, .int .i64 0, .int .i64 0] 39)).heap.size = w.heap.size + 1 := by simp
    rw [e] at this
    exact this)
  have R0 := Lib.hid (show QuadS (w.alloc (.cells #[.int .i64 0, .int .i64 0, .int .i64 0, .int .i64 0] 39)) w.heap.size (0, 0, 0, 0) from quadS_alloc w 0 0 0 0 39)
  have t0 : ((l.length : Int) == 0) = false := beq_eq_false_iff_ne.2 (by omega)
  have i0 : (0 : Int) < (l.length : Int) := by omega
  unfold maxLen at hc2
  rw [Nat.zero_mul, Nat.add_zero] at z0 z1 z2 z3
  clear h3' hv hl
  generalize pt l 0 = p0 at *
  obtain ⟨x0, y0⟩ := p0
  simp only at z0 z1 z2 z3
  go_enter Tryd.func48, Tryd.ntmps48
  go_wp2_with fail
  go_loopw [5] (fun i wr => ∃ k : Nat, k ≤ l.length ∧ i = .int .i64 k ∧ QuadS wr (w.heap.size + 1) (bbTo l k) ∧ Below (w.heap.size + 1) (w.alloc (.cells #[.int .i64 0, .int .i64 0, .int .i64 0, .int .i64 0] 39)) wr) (fun i _ => l.length - (intOf i).toNat)
  case atStart => exact ⟨0, Nat.zero_le _, rfl, Q0.out, B1⟩
  case round =>
    obtain ⟨k, hk, rfl, hq, hb⟩ := hrel
    by_cases hlt : k < l.length
    · have t1 : decide ((k : Int) < (l.length : Int)) = true := by simp; omega
      obtain ⟨_, _, ee, hg, a0, a1, a2, a3⟩ := H3.out k hlt
      cases ee
      have hBB := B0.trans (hb.mono (by omega))
      have c0 := (hBB.cell (p := ⟨g, off + k * 4, none⟩) hg0).trans a0
      have c1 := (hBB.cell (p := ⟨g, off + k * 4 + 1, none⟩) hg0).trans a1
      have c2 := (hBB.cell (p := ⟨g, off + k * 4 + 2, none⟩) hg0).trans a2
      have c3 := (hBB.cell (p := ⟨g, off + k * 4 + 3, none⟩) hg0).trans a3
      have ok := OK.out k hlt
      have HK := Lib.hid (show bbTo l (k + 1) = (min (bbTo l k).1 (pt l k).1, min (bbTo l k).2.1 (pt l k).2, max (bbTo l k).2.2.1 (pt l k).1, max (bbTo l k).2.2.2 (pt l k).2) from rfl)
      clear a0 a1 a2 a3
      generalize pt l k = pk at *
      obtain ⟨ax, ay⟩ := pk
      simp only at c0 c1 c2 c3 ok HK
      have CK := Lib.hid (fun w => CheckBoxR_any ax ay ax ay w)
      rw [boxCode_zero.2 ⟨ok, ok, Int.le_refl _, Int.le_refl _⟩] at CK
      have j0 : (0 : Int) ≤ (k : Int) := by omega
      have j1 : (k : Int) < (l.length : Int) := by omega
      have hgr : g < wr.heap.size := Nat.lt_of_lt_of_le hg0 hBB.size
      have hlt6 := hq.lt
      have HQ := Lib.hid hq
      clear ok hq hBB
      go_wp2_with fail
      refine (CK.out _).mono ?_
      rintro e w3 ⟨rfl, b3⟩
      have hb3 := hb.trans (b3.mono (Nat.le_of_lt hlt6))
      have hq3 := HQ.out.below b3
      have HQ3 := Lib.hid hq3
      obtain ⟨⟨b0, b1, b2, b4⟩, f0, f1, f2, f3⟩ := hq3
      have e0 := (b3.cell (p := ⟨g, off + k * 4, none⟩) hgr).trans c0
      have e1 := (b3.cell (p := ⟨g, off + k * 4 + 1, none⟩) hgr).trans c1
      have e2 := (b3.cell (p := ⟨g, off + k * 4 + 2, none⟩) hgr).trans c2
      have e3 := (b3.cell (p := ⟨g, off + k * 4 + 3, none⟩) hgr).trans c3
      have hne : ¬ g = w.heap.size + 1 := by omega
      have hne2 : ¬ w.heap.size + 1 = g := by omega
      generalize bbTo l k = bb at *
      obtain ⟨m1, m2, m3, m4⟩ := bb
      simp only at b0 b1 b2 b4 HK
      clear c0 c1 c2 c3 b3
      obtain ⟨n1, hn1⟩ : ∃ n, (if ax < m1 then ax else m1) = n := ⟨_, rfl⟩
      obtain ⟨n2, hn2⟩ : ∃ n, (if ay < m2 then ay else m2) = n := ⟨_, rfl⟩
      obtain ⟨n3, hn3⟩ : ∃ n, (if m3 < ax then ax else m3) = n := ⟨_, rfl⟩
      obtain ⟨n4, hn4⟩ : ∃ n, (if m4 < ay then ay else m4) = n := ⟨_, rfl⟩
      have HN := Lib.hid (show bbTo l (k + 1) = (n1, n2, n3, n4) from by
        rw [HK.out, ← hn1, ← hn2, ← hn3, ← hn4]
        refine Prod.ext ?_ (Prod.ext ?_ (Prod.ext ?_ ?_)) <;> simp only <;> split <;> omega)
      have HP := Lib.hid ((HQ3.out.put n1 n2 n3 n4).drew.drew.drew.drew)
      have HB := Lib.hid ((((hb3.setCell (p := ⟨w.heap.size + 1, 0, none⟩) (Nat.le_refl _) (.int .i64 n1)).setCell (p := ⟨w.heap.size + 1, 1, none⟩) (Nat.le_refl _) (.int .i64 n2)).setCell (p := ⟨w.heap.size + 1, 2, none⟩) (Nat.le_refl _) (.int .i64 n3)).setCell (p := ⟨w.heap.size + 1, 3, none⟩) (Nat.le_refl _) (.int .i64 n4)).drew.drew.drew.drew
      have hk1 : k + 1 ≤ l.length := by omega
      clear hb3 HK
      go_wp2_with fail
      go_region
      go_wp2_with fail
      go_region
      go_wp2_with fail
      go_region
      go_wp2_with fail
      go_region
      go_wp2_with fail
      go_roundw
      case rel => exact ⟨k + 1, hk1, by go_num, by rw [HN.out]; exact HP.out, HB.out⟩
      case measure => simp [intOf]; omega
    · have t1 : decide ((k : Int) < (l.length : Int)) = false := by simp; omega
      obtain rfl : k = l.length := by omega
      have hb' : Below (w.alloc (.cells #[.int .i64 0, .int .i64 0, .int .i64 0, .int .i64 0] 39)).heap.size (w.alloc (.cells #[.int .i64 0, .int .i64 0, .int .i64 0, .int .i64 0] 39)) wr := by
        have e : (w.alloc (.cells #[.int .i64 0, .int .i64 0, .int .i64 0, .int .i64 0] 39)).heap.size = w.heap.size + 1 := by simp
        rw [e]; exact hb
      have hr := R0.out.below hb'
      generalize hbb : bbTo l l.length = bb at *
      obtain ⟨m1, m2, m3, m4⟩ := bb
      have HBB := Lib.hid hbb
      clear hbb
      have HR := Lib.hid (hr.put m1 m2 m3 m4)
      obtain ⟨⟨b0, b1, b2, b3⟩, _, _, _, _⟩ := hq
      obtain ⟨⟨d0, d1, d2, d3⟩, f0, f1, f2, f3⟩ := hr
      simp only at b0 b1 b2 b3 d0 d1 d2 d3
      have hBB := B0.trans (hb'.mono (by simp))
      have hlw : w.heap.size < wr.heap.size := World.block_lt_of_cell? wr ⟨w.heap.size, 0, none⟩ d0
      have HB := Lib.hid ((((hBB.setCell (p := ⟨w.heap.size, 0, none⟩) (Nat.le_refl _) (.int .i64 m1)).setCell (p := ⟨w.heap.size, 1, none⟩) (Nat.le_refl _) (.int .i64 m2)).setCell (p := ⟨w.heap.size, 2, none⟩) (Nat.le_refl _) (.int .i64 m3)).setCell (p := ⟨w.heap.size, 3, none⟩) (Nat.le_refl _) (.int .i64 m4))
      clear hb hb' hBB
      go_wp2_with fail
      obtain ⟨⟨r0, r1, r2, r3⟩, _, _, _, _⟩ := HR.out
      exact bodyPost_ret (v := .tuple #[.agg #[.int .i64 m1, .int .i64 m2, .int .i64 m3, .int .i64 m4], .int .i64 0]) (by simp [results, Tryd.results48, go_sem, r0, r1, r2, r3]) rfl ⟨by rw [HBB.out], HB.out⟩
end Go.Proofs.YtpmngdgifdkohaaDoor
