/- ring.Box, pergolaref3.Union, RingBox. -/
import Derived.Test.YtpmngdgifdkohaaDoorBoxes
namespace Go.Proofs.YtpmngdgifdkohaaDoor
open Go.RowKit

/-- the least box that has a ring; of none noughts -/
def bbE (l : List Pt) : Int × Int × Int × Int := if ringOk l then bbTo l l.length else (0, 0, 0, 0)
def bxAgg (b : Int × Int × Int × Int) : Value := .agg #[.int .i64 b.1, .int .i64 b.2.1, .int .i64 b.2.2.1, .int .i64 b.2.2.2]

theorem Er.Is.put {w : World} {op : ByteArray} {id k : Int} {v : Value} (h : Er.Is w (.fault op id (.num k)) v) {g : Nat} (hne : ∀ b, v = .iface 68 (.pointer (some ⟨b, 0, Option.none⟩)) → b ≠ g) (o : Nat) (x : Value) : Er.Is (w.setCell ⟨g, o, Option.none⟩ x) (.fault op id (.num k)) v := by
  obtain ⟨b, u, rfl, hlt, q0, q1, q2, q3⟩ := h
  have hb := hne b rfl
  exact ⟨b, u, rfl, by simpa using hlt, (World.cell?_setCell_other _ _ _ _ (by intro e; simp at e; try omega)).trans q0, (World.cell?_setCell_other _ _ _ _ (by intro e; simp at e; try omega)).trans q1, (World.cell?_setCell_other _ _ _ _ (by intro e; simp at e; try omega)).trans q2, q3⟩
theorem Er.Is.ne {w : World} {op : ByteArray} {id k : Int} {v : Value} (h : Er.Is w (.fault op id (.num k)) v) {g : Nat} {z : Int} (hz : w.cell? ⟨g, 0, Option.none⟩ = some (.int .i64 z)) : ∀ b, v = .iface 68 (.pointer (some ⟨b, 0, Option.none⟩)) → b ≠ g := by
  obtain ⟨b, u, rfl, hlt, q0, q1, q2, q3⟩ := h
  intro b' e hb
  cases e
  subst hb
  rw [q0] at hz
  cases hz

set_option maxRecDepth 100000 in
set_option maxHeartbeats 2000000 in
theorem Box_any (v : Value) (l : List (Int × Int)) (w : World) (hv : Pts w v l) :
    Calls Tryd.prog 25 #[v] w fun e w' => ∃ u, e = .returned (.tuple #[bxAgg (bbE l), u]) ∧ (ringEr l).Is w' u ∧ Below w.heap.size w w' := by
  have B0 : Below w.heap.size w (w.alloc (.cells #[.int .i64 0, .int .i64 0, .int .i64 0, .int .i64 0] 39)) := (Below.refl _ _).alloc (Nat.le_refl _) _
  have R0 := Lib.hid (show QuadS (w.alloc (.cells #[.int .i64 0, .int .i64 0, .int .i64 0, .int .i64 0] 39)) w.heap.size (0, 0, 0, 0) from quadS_alloc w 0 0 0 0 39)
  have C := Lib.hid (Check_any v l _ (hv.below B0))
  by_cases h : ringEr l = .none
  · obtain ⟨hl, h3, h64⟩ := ringEr_ok h
    have HR := Lib.hid (show bbE l = bbTo l l.length by unfold bbE; rw [ringOk_yes h]; rfl)
    have HE := Lib.hid h
    rw [h] at C
    have HV := Lib.hid hv
    have UN := Lib.hid (fun v' w' (h : PBx w' v' l) => Union_ok v' l w' h hl (by omega) h64)
    obtain ⟨ao, c, rfl, hc1, hc2, _, h3'⟩ := hv.open
    have H3 := Lib.hid (show ∀ i (h : i < l.length), ∃ b off, ao = some ⟨b, off, none⟩ ∧ b < w.heap.size ∧ w.cell? ⟨b, off + i * 2, none⟩ = some (.int .i64 l[i].1) ∧ w.cell? ⟨b, off + i * 2 + 1, none⟩ = some (.int .i64 l[i].2) from h3')
    unfold maxLen at hc2
    clear h h3' hv hl
    go_enter Tryd.func25, Tryd.ntmps25
    go_wp2_with fail
    refine C.out.mono ?_
    rintro e w1 ⟨u, rfl, rfl, b1⟩
    have B1 := B0.trans (b1.mono B0.size)
    have hr1 := Lib.hid (R0.out.below b1)
    have hw1 : w.heap.size < w1.heap.size := hr1.out.lt
    go_wp2_with fail
    go_loopw [5, 16] (fun a i wr => ∃ k : Nat, k ≤ l.length ∧ i = .int .i64 k ∧ OwnX wr w1.heap.size a (l.take k) ∧ Below w1.heap.size w1 wr) (fun _ i _ => l.length - (intOf i).toNat)
    case atStart => exact ⟨0, Nat.zero_le _, rfl, World.ownsRow_nil _ _ _ _, Below.refl _ _⟩
    case round =>
      obtain ⟨k, hk, rfl, ho, hb⟩ := hrel
      have BB := B1.trans (hb.mono B1.size)
      by_cases hlt : k < l.length
      · have t1 : decide ((k : Int) < (l.length : Int)) = true := by simp; omega
        obtain ⟨g, off, rfl, hg, a0, a1⟩ := H3.out k hlt
        have c0 := (BB.cell (p := ⟨g, off + k * 2, none⟩) hg).trans a0
        have c1 := (BB.cell (p := ⟨g, off + k * 2 + 1, none⟩) hg).trans a1
        have HT := Lib.hid (show l.take (k + 1) = l.take k ++ [l[k]] from List.take_succ_eq_append_getElem hlt)
        clear a0 a1
        generalize l[k] = pk at *
        obtain ⟨ax, ay⟩ := pk
        simp only at c0 c1
        have j0 : (0 : Int) ≤ (k : Int) := by omega
        have j1 : (k : Int) < (l.length : Int) := by omega
        have hb2 := hb.alloc hb.size (.cells #[.int .i64 ax, .int .i64 ay] 24)
        have hb3 := hb2.alloc hb2.size (.cells #[.int .i64 ax, .int .i64 ay, .int .i64 ax, .int .i64 ay] 39)
        have HO := Lib.hid (World.ownsRow.alloc (World.ownsRow.alloc ho (.cells #[.int .i64 ax, .int .i64 ay] 24)) (.cells #[.int .i64 ax, .int .i64 ay, .int .i64 ax, .int .i64 ay] 39))
        have HP := Lib.hid (pbx1 (wr.alloc (.cells #[.int .i64 ax, .int .i64 ay] 24)) (wr.heap.size + 1) (by simp) ax ay)
        have hlen : (l.take k).length + [(ax, ay)].length ≤ 1000000 := by simp; omega
        have hk1 : k + 1 ≤ l.length := by omega
        clear ho
        go_wp2_with (at_builtin; refine wpList_append_bx rfl _ _ rfl w1.heap.size _ _ rfl HO.out _ [(ax, ay)] rfl HP.out hlen hb3.size ?_)
        intro v5 w5 ho5 hb5
        have HB := Lib.hid (hb3.trans hb5)
        have HO5 := Lib.hid ho5
        clear hlen ho5
        go_wp2_with fail
        go_roundw
        case rel => exact ⟨k + 1, hk1, by go_num, by rw [HT.out]; exact HO5.out, HB.out⟩
        case measure => simp [intOf]; omega
      · have t1 : decide ((k : Int) < (l.length : Int)) = false := by simp; omega
        obtain rfl : k = l.length := by omega
        rw [List.take_length] at ho
        have U1 := Lib.hid (UN.out _ _ ho.bx)
        have RW := Lib.hid (hr1.out.below hb)
        clear ho
        go_wp2_with fail
        refine U1.out.mono ?_
        rintro e w3 ⟨rfl, b3⟩
        have hr := RW.out.below b3
        generalize hbb : bbTo l l.length = bb at *
        obtain ⟨m1, m2, m3, m4⟩ := bb
        have HBB := Lib.hid hbb
        clear hbb
        have HRR := Lib.hid (hr.put m1 m2 m3 m4)
        have hlw := hr.lt
        obtain ⟨⟨d0, d1, d2, d3⟩, f0, f1, f2, f3⟩ := hr
        simp only at d0 d1 d2 d3
        have hBB := BB.trans (b3.mono BB.size)
        have HB := Lib.hid ((((hBB.setCell (p := ⟨w.heap.size, 0, none⟩) (Nat.le_refl _) (.int .i64 m1)).setCell (p := ⟨w.heap.size, 1, none⟩) (Nat.le_refl _) (.int .i64 m2)).setCell (p := ⟨w.heap.size, 2, none⟩) (Nat.le_refl _) (.int .i64 m3)).setCell (p := ⟨w.heap.size, 3, none⟩) (Nat.le_refl _) (.int .i64 m4))
        clear hBB BB hb b3
        go_wp2_with fail
        obtain ⟨⟨r0, r1, r2, r3⟩, _, _, _, _⟩ := HRR.out
        exact bodyPost_ret (v := .tuple #[.agg #[.int .i64 m1, .int .i64 m2, .int .i64 m3, .int .i64 m4], .nilIface]) (by simp [results, Tryd.results25, go_sem, r0, r1, r2, r3]) rfl ⟨_, by rw [HR.out]; rfl, by rw [HE.out]; rfl, HB.out⟩
  · obtain ⟨i, k, hr2⟩ := ringEr_some h
    have HR := Lib.hid (show bbE l = (0, 0, 0, 0) by unfold bbE; rw [ringOk_no h]; rfl)
    have HE := Lib.hid hr2
    rw [hr2] at C
    clear h hr2 hv
    go_enter Tryd.func25, Tryd.ntmps25
    go_wp2_with fail
    refine C.out.mono ?_
    rintro e w1 ⟨u, rfl, hu, b1⟩
    have B1 := B0.trans (b1.mono B0.size)
    have hr := R0.out.below b1
    have HRR := Lib.hid (hr.put 0 0 0 0)
    have hlw := hr.lt
    have hne := hu.ne hr.q.c0
    have HU := Lib.hid ((((hu.put hne 0 (.int .i64 0)).put hne 1 (.int .i64 0)).put hne 2 (.int .i64 0)).put hne 3 (.int .i64 0))
    have HB := Lib.hid ((((B1.setCell (p := ⟨w.heap.size, 0, none⟩) (Nat.le_refl _) (.int .i64 0)).setCell (p := ⟨w.heap.size, 1, none⟩) (Nat.le_refl _) (.int .i64 0)).setCell (p := ⟨w.heap.size, 2, none⟩) (Nat.le_refl _) (.int .i64 0)).setCell (p := ⟨w.heap.size, 3, none⟩) (Nat.le_refl _) (.int .i64 0))
    clear hne
    obtain ⟨bu, uu, rfl, _⟩ := hu
    obtain ⟨⟨d0, d1, d2, d3⟩, f0, f1, f2, f3⟩ := hr
    simp only at d0 d1 d2 d3
    go_wp2_with fail
    obtain ⟨⟨r0, r1, r2, r3⟩, _, _, _, _⟩ := HRR.out
    exact bodyPost_ret (v := .tuple #[.agg #[.int .i64 0, .int .i64 0, .int .i64 0, .int .i64 0], .iface 68 (.pointer (some ⟨bu, 0, none⟩))]) (by simp [results, Tryd.results25, go_sem, r0, r1, r2, r3]) rfl ⟨_, by rw [HR.out]; rfl, by rw [HE.out]; exact HU.out, HB.out⟩
end Go.Proofs.YtpmngdgifdkohaaDoor
