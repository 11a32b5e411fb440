/- ring.Check. -/
import Derived.Test.YthcfekabeidmiaaRRDoorREo8
set_option linter.unusedSimpArgs false
set_option linter.unusedVariables false
namespace Go.Proofs.YthcfekabeidmiaaRRDoorR
open Go.RowKit

theorem ringEr_verts {l : List Pt} (h : l.length < 3 ∨ 64 < l.length) : ringEr l = .fault strRing l.length (.num 3) := by unfold ringEr; rw [if_pos h]
theorem ringEr_point {l : List Pt} (h : ¬ (l.length < 3 ∨ 64 < l.length)) {k : Nat} (hk : k < l.length) (h1 : allP (l.take k) = true) (h2 : okP l[k] = false) : ringEr l = .fault strRing k (.num 2) := by
  unfold ringEr
  rw [if_neg h, first_some hk (by rw [pt_get l k hk, h2]; rfl) (fun j hj => ?_)]
  have := pt_ok h1 (i := j) (by rw [List.length_take]; omega)
  rw [pt_get _ _ (by rw [List.length_take]; omega), List.getElem_take] at this
  rw [pt_get l j (by omega), this]
  rfl
theorem first_ok {l : List Pt} (h : allP l = true) : first (fun i => !okP (pt l i)) l.length = none := first_none fun j hj => by rw [pt_ok h hj]; rfl
theorem ringEr_edge {l : List Pt} (h : ¬ (l.length < 3 ∨ 64 < l.length)) (h1 : allP l = true) {i : Nat} (hi : i < l.length) (hb : badI l i = true) (hp : ∀ j, j < i → badI l j = false) : ringEr l = .fault strRing i (.num 4) := by
  unfold ringEr
  rw [if_neg h, first_ok h1, first_some hi hb hp]
theorem ringEr_none {l : List Pt} (h : ¬ (l.length < 3 ∨ 64 < l.length)) (h1 : allP l = true) (hp : ∀ j, j < l.length → badI l j = false) : ringEr l = .none := by
  unfold ringEr
  rw [if_neg h, first_ok h1, first_none hp]

theorem Check_verts (v : Value) (l : List (Int × Int)) (w : World) (hv : Pts w v l) (h : l.length < 3 ∨ 64 < l.length) :
    Calls Tryd.prog 43 #[v] w (ErRet w (ringEr l)) := by
  obtain ⟨ao, c, rfl, h1, h2, h0, h3⟩ := hv.open
  unfold maxLen at h2
  rw [ringEr_verts h]
  clear h0 h3 hv
  have B := Lib.hid (fun w => blame_any (l.length : Int) 3 w)
  by_cases h4 : l.length < 3
  · have t1 : decide ((l.length : Int) < 3) = true := by simp; omega
    clear h
    go_enter Tryd.func43, Tryd.ntmps43
    go_wp2_with fail
    refine (B.out _).mono ?_
    rintro e w1 ⟨u, rfl, hu, b1⟩
    go_wp2_with fail
    go_ret
    exact ⟨_, rfl, hu, b1⟩
  · have t1 : decide ((l.length : Int) < 3) = false := by simp; omega
    have t2 : decide ((64 : Int) < (l.length : Int)) = true := by simp; omega
    clear h
    go_enter Tryd.func43, Tryd.ntmps43
    go_wp2_with fail
    refine (B.out _).mono ?_
    rintro e w1 ⟨u, rfl, hu, b1⟩
    go_wp2_with fail
    go_ret
    exact ⟨_, rfl, hu, b1⟩

set_option maxRecDepth 100000 in
set_option maxHeartbeats 2000000 in
theorem Check_long (v : Value) (l : List (Int × Int)) (w : World) (hv : Pts w v l) (h : ¬ (l.length < 3 ∨ 64 < l.length)) :
    Calls Tryd.prog 43 #[v] w (ErRet w (ringEr l)) := by
  have hv0 := hv
  obtain ⟨ao, c, rfl, h1, h2, h0, h3⟩ := hv.open
  unfold maxLen at h2
  obtain ⟨g, off, rfl, hg0, hq1, hq2⟩ := h3 0 (by omega)
  have g3 : 3 ≤ l.length := by omega
  have g64 : l.length ≤ 64 := by omega
  have t1 : decide ((l.length : Int) < 3) = false := by simp; omega
  have t2 : decide ((64 : Int) < (l.length : Int)) = false := by simp; omega
  have PC := Lib.hid (show ∀ k (hk : k < l.length), _ from fun k hk => pt_cell hv0 hk)
  have HP := Lib.hid (show ∀ k (hk : k < l.length), allP (l.take k) = true → okP l[k] = false → ringEr l = .fault strRing k (.num 2) from fun k hk a b => ringEr_point h hk a b)
  have HE := Lib.hid (show allP l = true → ∀ i, i < l.length → badI l i = true → (∀ j, j < i → badI l j = false) → ringEr l = .fault strRing i (.num 4) from fun a i b c d => ringEr_edge h a b c d)
  have HN := Lib.hid (show allP l = true → (∀ j, j < l.length → badI l j = false) → ringEr l = .none from fun a b => ringEr_none h a b)
  have VB := Lib.hid (show ∀ w', Below w.heap.size w w' → Pts w' _ l from fun w' hb => hv0.below hb)
  clear h0 h3 hq1 hq2 hv hv0 h hg0
  go_enter Tryd.func43, Tryd.ntmps43
  go_wp2_with fail
  go_loopw [22] (fun i wr => ∃ k : Nat, k ≤ l.length ∧ i = .int .i64 k ∧ Hid (allP (l.take k) = true) ∧ Below w.heap.size w wr) (fun i _ => l.length - (intOf i).toNat)
  case atStart => exact ⟨0, Nat.zero_le _, rfl, Lib.hid rfl, Below.refl _ _⟩
  case round =>
    obtain ⟨k, hk, rfl, ha, hb⟩ := hrel
    have hs := hb.size
    by_cases hlt : k < l.length
    · obtain ⟨hg, hx, hy⟩ := PC.out k hlt
      have hx' := (hb.cell (p := ⟨g, off + k * 2, none⟩) hg).trans hx
      have hy' := (hb.cell (p := ⟨g, off + k * 2 + 1, none⟩) hg).trans hy
      have HS := Lib.hid (allP_snoc l k hlt)
      have HQ := Lib.hid (HP.out k hlt)
      rw [pt_get l k hlt] at hx' hy'
      clear hx hy
      generalize l[k] = p at *
      obtain ⟨x, y⟩ := p
      simp only at hx' hy'
      have i0 : (0 : Int) ≤ (k : Int) := by omega
      have i1 : (k : Int) < (l.length : Int) := by omega
      have hb1 := hb.alloc hs (.cells #[.int .i64 x, .int .i64 y] 43)
      have C := Lib.hid (fun w => ckPoint_any x y w)
      cases hq : okP (x, y) with
      | true =>
        rw [hq] at C
        have HA := Lib.hid (show allP (l.take (k + 1)) = true by rw [HS.out, ha.out, hq]; rfl)
        clear hq ha
        go_wp2_with fail
        refine (C.out _).mono ?_
        rintro e w1 ⟨u, rfl, rfl, b1⟩
        have hb2 := hb1.trans (b1.mono hb1.size)
        go_wp2_with fail
        go_roundw
        case rel => exact ⟨k + 1, by omega, by go_num, HA, hb2⟩
        case measure => simp [intOf]; omega
      | false =>
        rw [hq] at C
        have HF := Lib.hid (HQ.out ha.out hq)
        have BL := Lib.hid (fun w => blame_any (k : Int) 2 w)
        clear hq ha
        go_wp2_with fail
        refine (C.out _).mono ?_
        rintro e w1 ⟨u, rfl, rfl, b1⟩
        have hb2 := hb1.trans (b1.mono hb1.size)
        go_wp2_with fail
        refine (BL.out _).mono ?_
        rintro e w2 ⟨u, rfl, hu, b2⟩
        go_wp2_with fail
        go_ret
        exact ⟨_, rfl, by rw [HF.out]; exact hu, hb2.trans (b2.mono hb2.size)⟩
    · have hall := Lib.hid (show allP l = true by have := ha.out; rwa [List.take_of_length_le (by omega)] at this)
      have t3 : decide ((k : Int) < (l.length : Int)) = false := by simp; omega
      clear ha
      obtain ⟨wo, rfl⟩ : ∃ wo : World, wo = wr := ⟨_, rfl⟩
      go_wp2_with fail
      go_loopw [36] (fun i wq => ∃ j : Nat, j ≤ l.length ∧ i = .int .i64 j ∧ Hid (∀ j', j' < j → badI l j' = false) ∧ Below w.heap.size w wq) (fun i _ => l.length - (intOf i).toNat)
      case atStart => exact ⟨0, Nat.zero_le _, rfl, Lib.hid (fun j' hj => absurd hj (Nat.not_lt_zero _)), hb⟩
      case round =>
        obtain ⟨j, hj, rfl, hbad, hbq⟩ := hrel
        by_cases hjl : j < l.length
        · have t4 : decide ((j : Int) < (l.length : Int)) = true := by simp; omega
          obtain ⟨wm, rfl⟩ : ∃ wm : World, wm = wr := ⟨_, rfl⟩
          go_wp2_with fail
          go_loopw [40] (fun i wq => ∃ q : Nat, q ≤ l.length ∧ i = .int .i64 q ∧ Hid (∀ q', q' < q → (decide (q' ≠ j) && spoilB l j q') = false) ∧ Below w.heap.size w wq) (fun i _ => l.length - (intOf i).toNat)
          case atStart => exact ⟨0, Nat.zero_le _, rfl, Lib.hid (fun j' hj => absurd hj (Nat.not_lt_zero _)), hbq⟩
          case round =>
            obtain ⟨q, hq, rfl, hsp, hbi⟩ := hrel
            by_cases hql : q < l.length
            · have t5 : decide ((q : Int) < (l.length : Int)) = true := by simp; omega
              by_cases hqj : q = j
              · have t6 : ((q : Int) != (j : Int)) = false := by rw [hqj]; simp
                have HG := Lib.hid (show ∀ q', q' < q + 1 → (decide (q' ≠ j) && spoilB l j q') = false from fun q' h' => by
                  rcases Nat.lt_succ_iff_lt_or_eq.1 h' with h' | h'
                  · exact hsp.out q' h'
                  · rw [h', hqj]; simp)
                clear hqj hsp
                go_wp2_with fail
                go_roundw
                case rel => exact ⟨q + 1, by omega, by go_num, HG, hbi⟩
                case measure => simp [intOf]; omega
              · have t6 : ((q : Int) != (j : Int)) = true := by simp; omega
                have SP := Lib.hid (spoil_any g off c l j q _ (VB.out _ hbi) hall.out g3 g64 hjl hql)
                cases hs2 : spoilB l j q with
                | true =>
                  rw [hs2] at SP
                  have HF := Lib.hid (HE.out hall.out j hjl (anyB_true hql (by rw [hs2, decide_eq_true (show q ≠ j from hqj)]; rfl)) hbad.out)
                  have BL := Lib.hid (fun w => blame_any (j : Int) 4 w)
                  clear hs2 hqj hsp hbad
                  go_wp2_with fail
                  refine SP.out.mono ?_
                  rintro e w1 ⟨rfl, b1⟩
                  have hb2 := hbi.trans (b1.mono hbi.size)
                  go_wp2_with fail
                  refine (BL.out _).mono ?_
                  rintro e w2 ⟨u, rfl, hu, b2⟩
                  go_wp2_with fail
                  go_ret
                  exact ⟨_, rfl, by rw [HF.out]; exact hu, hb2.trans (b2.mono hb2.size)⟩
                | false =>
                  rw [hs2] at SP
                  have HG := Lib.hid (show ∀ q', q' < q + 1 → (decide (q' ≠ j) && spoilB l j q') = false from fun q' h' => by
                    rcases Nat.lt_succ_iff_lt_or_eq.1 h' with h' | h'
                    · exact hsp.out q' h'
                    · rw [h', hs2]; simp)
                  clear hs2 hqj hsp
                  go_wp2_with fail
                  refine SP.out.mono ?_
                  rintro e w1 ⟨rfl, b1⟩
                  have hb2 := hbi.trans (b1.mono hbi.size)
                  go_wp2_with fail
                  go_roundw
                  case rel => exact ⟨q + 1, by omega, by go_num, HG, hb2⟩
                  case measure => simp [intOf]; omega
            · have t5 : decide ((q : Int) < (l.length : Int)) = false := by simp; omega
              have HG := Lib.hid (show ∀ j', j' < j + 1 → badI l j' = false from fun j' h' => by
                rcases Nat.lt_succ_iff_lt_or_eq.1 h' with h' | h'
                · exact hbad.out j' h'
                · rw [h']; exact anyB_false fun i hi => hsp.out i (by omega))
              clear hsp hbad
              go_wp2_with fail
              go_roundw
              case rel => exact ⟨j + 1, by omega, by go_num, HG, hbi⟩
              case measure => simp [intOf]; omega
        · have t4 : decide ((j : Int) < (l.length : Int)) = false := by simp; omega
          have HF := Lib.hid (HN.out hall.out (fun j' h' => hbad.out j' (by omega)))
          clear hbad
          go_wp2_with fail
          go_ret
          exact ⟨_, rfl, by rw [HF.out]; rfl, hbq⟩

theorem Check_any (v : Value) (l : List (Int × Int)) (w : World) (hv : Pts w v l) :
    Calls Tryd.prog 43 #[v] w (ErRet w (ringEr l)) := by
  by_cases h : l.length < 3 ∨ 64 < l.length
  · exact Check_verts v l w hv h
  · exact Check_long v l w hv h
end Go.Proofs.YthcfekabeidmiaaRRDoorR
