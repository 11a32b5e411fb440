/- FrameTorn answers true, whatever it is given. -/
import Derived.Test.YtbllooaalodhaaaDoorScan
import Derived.Test.YtbllooaalodhaaaDoorTotal
import Derived.Test.YtbllooaalodhaaaDoorRowsEq
import Derived.Test.YtbllooaalodhaaaDoorApp
import Derived.Test.YtbllooaalodhaaaDoorIsA
import Derived.Test.YtbllooaalodhaaaDoorAwake9
import Derived.Test.YtbllooaalodhaaaDoorViewR
namespace Go.Proofs.YtbllooaalodhaaaDoor
open Go.RowKit Go.ChangeShapes

/-- where the first k frames end, nought ahead -/
def endsL (ls : List (List UInt8)) (k : Nat) : List Int := (List.range (k + 1)).map fun j => (endOf ls j : Int)
theorem endsL_length (ls : List (List UInt8)) (k : Nat) : (endsL ls k).length = k + 1 := by simp [endsL]
theorem endOf_zero (ls : List (List UInt8)) : endOf ls 0 = 0 := by cases ls <;> rfl
theorem endsL_zero (ls : List (List UInt8)) : endsL ls 0 = [0] := by simp [endsL, endOf_zero]
theorem endsL_get (ls : List (List UInt8)) (k i : Nat) (h : i < (endsL ls k).length) : (endsL ls k)[i] = (endOf ls i : Int) := by simp [endsL]
theorem endsL_snoc (ls : List (List UInt8)) (k : Nat) : endsL ls k ++ [(endOf ls (k + 1) : Int)] = endsL ls (k + 1) := by
  simp [endsL, List.range_succ]
theorem framesOf_snoc (ls : List (List UInt8)) (k : Nat) (hk : k < ls.length) : framesOf (ls.take k) ++ frameOf ls[k] = framesOf (ls.take (k + 1)) := by
  induction ls generalizing k with
  | nil => simp at hk
  | cons p ps ih =>
    cases k with
    | zero => simp [framesOf]
    | succ k =>
      simp only [List.take_succ_cons, framesOf, List.getElem_cons_succ, List.append_assoc]
      rw [ih k (by simpa using hk)]
theorem endOf_take (ls : List (List UInt8)) : ∀ k, k ≤ ls.length → (framesOf (ls.take k)).length = endOf ls k := by
  induction ls with
  | nil => intro k hk; obtain rfl : k = 0 := by simpa using hk
           rfl
  | cons p ps ih =>
    intro k hk
    cases k with
    | zero => rfl
    | succ k =>
      simp only [List.take_succ_cons, framesOf, List.length_append, frameOf_length, endOf]
      rw [ih k (by simpa using hk)]
theorem endOf_le (ls : List (List UInt8)) : ∀ k, k ≤ ls.length → endOf ls k ≤ lensOf ls k + 8 * k := by
  intro k
  induction k with
  | zero => intro _; simp [endOf]
  | succ k ih =>
    intro hk
    have e1 := endOf_take ls (k + 1) hk
    rw [← framesOf_snoc ls k hk, List.length_append, endOf_take ls k (by omega), frameOf_length] at e1
    have := ih (by omega)
    simp only [lensOf, List.getD_eq_getElem?_getD, List.getElem?_eq_getElem (show k < ls.length by omega), Option.getD_some]
    omega

theorem Own.open {w : World} {base : Nat} {v : Value} {l : List UInt8} (h : Own w base v l) : ∃ ao c, v = .slice ao l.length c := by
  obtain ⟨ao, c, h, _⟩ := h.byt.open
  exact ⟨ao, c, h⟩

theorem Rws.take {w : World} {ao : Option Addr} {c : Nat} {ls : List (List UInt8)} (h : Rws w (.slice ao ls.length c) ls) {m : Nat} (hm : m ≤ ls.length) : Rws w (.slice ao m c) (ls.take m) := by
  obtain ⟨vs, h1, h2, h3⟩ := h
  refine ⟨vs.take m, by simp [h1], ?_, fun i hi hi' => ?_⟩
  · rw [List.length_take, Nat.min_eq_left hm]
    exact h2.take hm
  · simp only [List.length_take] at hi hi'
    rw [List.getElem_take, List.getElem_take]
    exact h3 i (by omega) (by omega)

theorem Rws.open {w : World} {v : Value} {ls : List (List UInt8)} (h : Rws w v ls) : ∃ ao c, v = .slice ao ls.length c := by
  obtain ⟨vs, _, ⟨ao, c, h, _⟩, _⟩ := h
  exact ⟨ao, c, h⟩

theorem Rows_same (va vb : Value) (a : List (List UInt8)) (w : World) (ha : Rws w va a) (hb : Rws w vb a) :
    Calls Tryd.prog 14 #[va, vb] w fun e w' => e = .returned (.bool true) ∧ Below w.heap.size w w' :=
  (Rows_any va vb a a w ha hb).mono fun e w' ⟨h1, h2⟩ => ⟨by rw [h1, decide_eq_true rfl], h2⟩

theorem torn_out (v : Value) (ls : List (List UInt8)) (cut : Int) (w : World) (hv : Rws w v ls) (h : 20 < ls.length) :
    Calls Tryd.prog 4 #[v, .int .i64 cut] w fun e w' => e = .returned (.bool true) ∧ Below w.heap.size w w' := by
  obtain ⟨vs, hvl, ⟨ao, c, rfl, h1, h2, h0, h3⟩, h4⟩ := hv
  clear h3 h4
  have t1' : decide ((20 : Int) < (ls.length : Int)) = true := by simp; omega
  go_enter Tryd.func4, Tryd.ntmps4
  go_wp2_with (go_at_call 7; refine (awake_any _).mono ?_; rintro e w' ⟨rfl, hb5⟩)
  go_ret
  exact ⟨rfl, hb5⟩

set_option maxRecDepth 100000 in
set_option maxHeartbeats 1000000 in
theorem torn_in (v : Value) (ls : List (List UInt8)) (cut : Int) (w : World) (hv : Rws w v ls) (hg : ErrT w) (hl : ls.length ≤ 20) :
    Calls Tryd.prog 4 #[v, .int .i64 cut] w fun e w' => e = .returned (.bool true) ∧ Below w.heap.size w w' := by
  have hv0 := hv
  obtain ⟨vs, hvl, ⟨ao, c, rfl, h1, h2, h0, h3⟩, h4⟩ := hv
  unfold maxLen at h2
  have t1' : decide ((20 : Int) < (ls.length : Int)) = false := by simp; omega
  go_enter Tryd.func4, Tryd.ntmps4
  go_wp2_with fail
  refine (Total_any _ ls w hv0 hl).mono ?_
  rintro e w1 ⟨T, rfl, hT0, hT1, hT2, hb1⟩
  by_cases hT : T ≤ 3000
  case neg =>
    clear hT2 h3 h4
    go_wp2_with (go_at_call 7; refine (awake_any _).mono ?_; rintro e w' ⟨rfl, hb5⟩)
    go_ret
    exact ⟨rfl, hb1.trans (hb5.mono hb1.size)⟩
  have hsum := hT2 hT
  clear hT2
  have hs1 := hb1.size
  go_wp2
  go_loopw [5, 6, 7] (fun bv ev i wr => ∃ k : Nat, k ≤ ls.length ∧ i = .int .i64 k ∧ Own wr w.heap.size bv (framesOf (ls.take k)) ∧ OwnI wr w.heap.size ev (endsL ls k) ∧ Apart bv ev ∧ Below w.heap.size w wr) (fun _ _ i _ => ls.length - (intOf i).toNat)
  case atStart =>
    refine ⟨0, Nat.zero_le _, rfl, World.ownsRow_nil _ _ _ _, ?_, (fun g hg => by simp [Value.ownBlock] at hg), hb1.alloc hs1 _⟩
    rw [endsL_zero]
    exact World.ownsRow_lit w1 #[.int .i64 0] 1 hs1 (by simp [maxLen]) rfl
  case round =>
    obtain ⟨k, hk, rfl, hob, hoe, hap, hbel⟩ := hrel
    have hsz := hbel.size
    have hEl := endOf_le ls k hk
    have hLl := lensOf_le ls k ls.length hk
    by_cases hlt : k < ls.length
    · obtain ⟨b, off, rfl, hb, hc⟩ := h3 k (by omega)
      have hrow := (h4 k (by omega) hlt).below hbel
      obtain ⟨ao2, c2, e2, _⟩ := hrow.open
      have hcell : wr.cell? ⟨b, off + k, none⟩ = some (.slice ao2 ls[k].length c2) := by
        rw [← e2]; exact (hbel.cell (p := ⟨b, off + k, none⟩) hb).trans hc
      rw [e2] at hrow
      have hrl := row_le ls k hlt
      have hfs := framesOf_snoc ls k hlt
      have hft := endOf_take ls k hk
      have hft1 := endOf_take ls (k + 1) hlt
      have hEl1 := endOf_le ls (k + 1) hlt
      have hLl1 := lensOf_le ls (k + 1) ls.length hlt
      have hes := endsL_snoc ls k
      have hel := endsL_length ls k
      generalize hF : framesOf (ls.take k) = F at *
      generalize hF1 : framesOf (ls.take (k + 1)) = F1 at *
      generalize hE : endsL ls k = E at *
      generalize hE1 : endsL ls (k + 1) = E1 at *
      generalize hp : ls[k] = p at *
      have K1 := Lib.hid hfs
      have K2 := Lib.hid hes
      have K3 := Lib.hid hft1
      have K4 := Lib.hid hF1
      have K5 := Lib.hid hE1
      have hF2 : F.length ≤ 4000 := by omega
      have hE2 : E.length ≤ 21 := by omega
      have hE3 : endOf ls (k + 1) ≤ 4000 := by omega
      have hfl : (frameOf p).length ≤ 4000 := by rw [frameOf_length]; omega
      clear h3 h4 hc e2 hfs hft hft1 hes hel hF hF1 hE hE1 hp
      go_wp2_with fail
      refine (Put_ok _ p _ hrow (by omega)).mono ?_
      rintro e w2 ⟨v2, rfl, ho2, hb2⟩
      have hob2 : Own w2 w.heap.size u5 F := hob.below hb2
      have hoe2 : OwnI w2 w.heap.size u6 E := own_below' hoe hb2
      have hsz2 := hb2.size
      have hbel2 := hbel.trans (hb2.mono hsz)
      go_wp2_with (at_builtin; refine wpList_append_at (P := Tryd.prog) rfl _ _ 22 rfl w.heap.size 5 _ 1 1 Tryd.underlying22 info_u8 rfl (by decide) u5 F.length (bytesV F) rfl hob2 v2 (frameOf p).length (bytesV (frameOf p)) rfl ho2.byt (by simp [bytesV]) (bytesV_one _) (by unfold maxLen; omega) (by omega) (by omega) ?_)
      intro v3 w3 ho3 hg3 hat3
      have ho3' : Own w3 w.heap.size v3 F1 := by
        unfold Own; rw [← K1.out, List.length_append, bytesV_append]; exact ho3
      have hoe3 : OwnI w3 w.heap.size u6 E := own_grown hoe2 hg3 hap
      have hap3 : Apart v3 u6 := apart_grown hoe2 hap hat3
      have hbel3 : Below w.heap.size w w3 := hbel2.grown hg3 (by omega) (fun k hk => (World.ownsRow.lt hob2 k hk).1)
      have hsz3 := hbel3.size
      clear ho3 hg3 hat3 hob2 hoe2 ho2 hob hoe hap
      obtain ⟨ao3, c3, rfl⟩ := ho3'.open
      have hR := rd_alloc w3 #[.int .i64 (F1.length : Int)] 3 (0, 0) 1 (by simp [maxLen])
      have hoe4 := World.ownsRow.alloc hoe3 (.cells #[.int .i64 (F1.length : Int)] 3)
      have hob4 := World.ownsRow.alloc ho3' (.cells #[.int .i64 (F1.length : Int)] 3)
      go_wp2_with (at_builtin; refine wpList_append_at (P := Tryd.prog) rfl _ _ 35 rfl w.heap.size 3 _ 1 8 Tryd.underlying35 info_int rfl (by decide) u6 E.length (intsV E) rfl hoe4 _ 1 [.int .i64 (F1.length : Int)] rfl hR rfl (by simp [Value.oneCell']) (by unfold maxLen; omega) (by omega) (by simp; omega) ?_)
      intro v4 w4 ho4 hg4 hat4
      have hoe5 : OwnI w4 w.heap.size v4 E1 := by
        unfold OwnI; rw [← K2.out, List.length_append, intsV_append, ← K3.out]; exact ho4
      have hob5 : Own w4 w.heap.size (.slice ao3 F1.length c3) F1 := own_grown hob4 hg4 hap3.symm
      have hap5 := (apart_grown hob4 hap3.symm (by simpa using hat4)).symm
      have hbel5 : Below w.heap.size w w4 := (hbel3.alloc hsz3 _).grown hg4 (by simp; omega) (fun k hk => (World.ownsRow.lt hoe4 k hk).1)
      clear ho4 hg4 hat4 hoe4 hob4 hR ho3' hoe3
      go_wp2
      go_roundw
      case rel => exact ⟨k + 1, by omega, by go_num, by rw [K4.out]; exact hob5, by rw [K5.out]; exact hoe5, hap5, hbel5⟩
      case measure => simp [intOf]; omega
    · obtain rfl : k = ls.length := by omega
      have hFl := endOf_take ls ls.length (Nat.le_refl _)
      rw [List.take_length] at hFl hob
      have hEn := endsL_length ls ls.length
      obtain ⟨ao3, c3, rfl, hF3, _⟩ := hob.byt.open
      obtain ⟨g, cap, rfl, hgb, hgl, hgc⟩ := hoe.cell (by omega)
      have hcs : ∀ j, j ≤ ls.length → wr.cell? ⟨g, j, none⟩ = some (.int .i64 (endOf ls j : Int)) := fun j hj => by
        have := hgc j (by omega)
        rw [endsL_get] at this
        exact this
      generalize hF : framesOf ls = F at *
      rw [hEn]
      have hF2 : F.length ≤ 4000 := by omega
      have KF := Lib.hid hFl
      have KF2 := Lib.hid hF
      clear hgc hoe hEn hF hFl hap
      go_wp2_with fail
      refine (Round_at cut _ (F.length + 1) _ (by omega) (by omega) (by simp)).mono ?_
      rintro e w2 ⟨cu, rfl, hcu, rfl⟩
      go_wp2_with fail
      go_loop [10] (fun i => ∃ n : Nat, n ≤ ls.length ∧ i = .int .i64 n ∧ endOf ls n ≤ cu) (fun i => ls.length - (intOf i).toNat)
      case atStart => exact ⟨0, Nat.zero_le _, rfl, by rw [endOf_zero]; omega⟩
      case round =>
        obtain ⟨n, hn, rfl, hncu⟩ := hrel
        have hcn := hcs n hn
        by_cases hgo : n < ls.length ∧ endOf ls (n + 1) ≤ cu
        · have hcn1 := hcs (n + 1) (by omega)
          have hn1 := hgo.1
          have hn2 := hgo.2
          clear hgo
          go_wp2
          go_round
          case rel => exact ⟨n + 1, by omega, by go_num, hn2⟩
          case measure => simp [intOf]; omega
        · have hsc := scan_torn ls cu n (fun p hp => by
            obtain ⟨i, hi, rfl⟩ := List.getElem_of_mem hp
            have := row_le ls i hi
            omega) hn hncu (fun h => by
              by_cases hq : endOf ls (n + 1) ≤ cu
              · exact absurd ⟨h, hq⟩ hgo
              · omega) (by rw [KF2.out]; omega)
          rw [KF2.out] at hsc
          have hbt : Byt wr (.slice ao3 cu c3) (F.take cu) := hob.byt.take (by omega)
          have hbtl : (F.take cu).length ≤ 1000000 := by rw [List.length_take]; omega
          have hrt := (hv0.take hn).below hbel
          have hcu3 : (cu : Int) ≤ (c3 : Int) := by omega
          have hnc : (n : Int) ≤ (c : Int) := by omega
          have hgr := hg.below hbel hg.lt
          have hlast : n < ls.length → cu < endOf ls (n + 1) := fun h => by
            by_cases hq : endOf ls (n + 1) ≤ cu
            · exact absurd ⟨h, hq⟩ hgo
            · omega
          have hcn1 : n < ls.length → wr.cell? ⟨g, n + 1, none⟩ = some (.int .i64 (endOf ls (n + 1) : Int)) := fun h => hcs (n + 1) h
          clear hgo hcs h3 h4
          by_cases hlt2 : endOf ls n < cu
          · rw [if_pos hlt2] at hsc
            have HS := Lib.hid hsc
            obtain ⟨E, hE1, hE2⟩ : ∃ E : Er, E.isB 15 frameStr (endOf ls n : Int) = true ∧ ∀ w u, Er.Is w (if (15 : Int) = 0 then .none else .fault frameStr (endOf ls n : Int) (.num 15)) u → E.Is w u := ⟨_, by simp [Er.isB, Er.code, Er.root], fun _ _ h => h⟩
            clear hsc
            by_cases hn1 : n < ls.length
            all_goals
              first
                | (have hl1 := hlast hn1; have hl2 := hcn1 hn1; clear hlast hcn1)
                | clear hlast hcn1
              go_wp2_with fail
              refine (Scan_any _ (F.take cu) wr hbt hbtl).mono ?_
              rw [HS.out]
              rintro e w3 ⟨v3, u3, rfl, ho3, he3, hb3⟩
              have heE := hE2 _ _ he3
              have hcn3 := (hb3.cell (p := ⟨g, n, none⟩) hgl).trans hcn
              have hrt3 := hrt.below hb3
              have hg3 := hgr.below hb3 hgr.lt
              have hgl3 := Nat.lt_of_lt_of_le hgl hb3.size
              have hro3 := ho3.rws
              have hb3' := hbel.trans (hb3.mono hbel.size)
              clear hcn hob hbt hE2
            all_goals
              go_wp2_with (first
                | (go_at_call 14; refine (Rows_same _ _ _ _ hro3 hrt3).mono ?_; rintro e w4 ⟨rfl, hb4⟩; have hcn4 := (hb4.cell (p := ⟨g, n, none⟩) hgl3).trans hcn3; have he4 := heE.below hb4; have hg4 := hg3.below hb4 hg3.lt; have hb4' := hb3'.trans (hb4.mono hb3'.size))
                | (go_at_call 11; refine (IsA_any E 15 frameStr _ _ _ he4 hg4).mono ?_; rw [hE1]; rintro e w5 ⟨rfl, hb5⟩; have hb5' := hb4'.trans (hb5.mono hb4'.size))
                | (go_at_call 7; refine (awake_any _).mono ?_; rintro e w6 ⟨rfl, hb6⟩))
              go_ret
              exact ⟨rfl, hb5'.trans (hb6.mono hb5'.size)⟩
          · rw [if_neg hlt2] at hsc
            have HS := Lib.hid hsc
            obtain ⟨E, hE1, hE2⟩ : ∃ E : Er, E.isB 0 frameStr (endOf ls n : Int) = true ∧ ∀ w u, Er.Is w (if (0 : Int) = 0 then .none else .fault frameStr (endOf ls n : Int) (.num 0)) u → E.Is w u := ⟨.none, by simp [Er.isB, Er.code], fun _ _ h => h⟩
            clear hsc
            by_cases hn1 : n < ls.length
            all_goals
              first
                | (have hl1 := hlast hn1; have hl2 := hcn1 hn1; clear hlast hcn1)
                | clear hlast hcn1
              go_wp2_with fail
              refine (Scan_any _ (F.take cu) wr hbt hbtl).mono ?_
              rw [HS.out]
              rintro e w3 ⟨v3, u3, rfl, ho3, he3, hb3⟩
              have heE := hE2 _ _ he3
              have hcn3 := (hb3.cell (p := ⟨g, n, none⟩) hgl).trans hcn
              have hrt3 := hrt.below hb3
              have hg3 := hgr.below hb3 hgr.lt
              have hgl3 := Nat.lt_of_lt_of_le hgl hb3.size
              have hro3 := ho3.rws
              have hb3' := hbel.trans (hb3.mono hbel.size)
              clear hcn hob hbt hE2
            all_goals
              go_wp2_with (first
                | (go_at_call 14; refine (Rows_same _ _ _ _ hro3 hrt3).mono ?_; rintro e w4 ⟨rfl, hb4⟩; have hcn4 := (hb4.cell (p := ⟨g, n, none⟩) hgl3).trans hcn3; have he4 := heE.below hb4; have hg4 := hg3.below hb4 hg3.lt; have hb4' := hb3'.trans (hb4.mono hb3'.size))
                | (go_at_call 11; refine (IsA_any E 0 frameStr _ _ _ he4 hg4).mono ?_; rw [hE1]; rintro e w5 ⟨rfl, hb5⟩; have hb5' := hb4'.trans (hb5.mono hb4'.size))
                | (go_at_call 7; refine (awake_any _).mono ?_; rintro e w6 ⟨rfl, hb6⟩))
              go_ret
              exact ⟨rfl, hb5'.trans (hb6.mono hb5'.size)⟩

set_option maxRecDepth 100000 in
theorem frameTorn_calls {H : Type} {enc : TypeId × Value → H} {W : World} {base : Nat} {v0 v1 : Value} {d0 d1 : DataW H} {p0 p1 : List MemPlace} (hg : ErrT W)
    (o0 : Value.okWide Tryd.prog W .any base 33 v0) (h0 : DataW.Trod enc Tryd.prog W 0 (fun _ => true) true 33 v0 d0 p0)
    (o1 : Value.okWide Tryd.prog W .any base 3 v1) (h1 : DataW.Trod enc Tryd.prog W 0 (fun _ => true) true 3 v1 d1 p1) :
    Calls Tryd.prog 4 #[v0, v1] W fun e w' => e = .returned (.bool true) ∧ Below W.heap.size W w' := by
  obtain ⟨ls, hls⟩ := view_rows o0 h0
  obtain ⟨n, rfl, rfl, rfl, hw⟩ := open_int Tryd.underlying3 o1 h1
  by_cases h : 20 < ls.length
  · exact torn_out _ ls n W hls h
  · exact torn_in _ ls n W hls hg (by omega)
end Go.Proofs.YtbllooaalodhaaaDoor
