/- SlotsKeep answers true. -/
import Derived.Test.YtdeibgljibcnlaaKeep1
import Derived.Test.YtdeibgljibcnlaaViewSteps
import Derived.Test.YtdeibgljibcnlaaBlock
import Derived.Test.YtdeibgljibcnlaaRound
import Derived.Test.YtdeibgljibcnlaaAlikeB
import Derived.Test.YtdeibgljibcnlaaSlotsN
import Derived.Deep.CutBlock
import Derived.BigQuiet
import Derived.Deep.QuietTactic
namespace Go.Proofs.Ytdeibgljibcnlaa
open Go.RowKit Go.ChangeShapes Go.WideShapes

theorem info_bool1 : (Try.prog.info? 4).map (fun i => (i.zero, i.size, i.bytes)) = some (some (.bool false), 1, 1) := by kernel_rfl
theorem info_bytes1 : (Try.prog.info? 31).map (fun i => (i.zero, i.size, i.bytes)) = some (some (.slice none 0 0), 1, 24) := by kernel_rfl
theorem make_want (w : World) : (Instr.makeSlice 29 (.int .i64 60) (.int .i64 60)).run Try.prog w = .ok (.slice (some ⟨w.heap.size, 0, none⟩) 60 60) (w.alloc (.cells (madeCells #[.slice none 0 0] 60) 31)) := by
  obtain ⟨i8, hi8, hz, hsize, hby⟩ := info_parts info_bytes1
  have h := run_make (P := Try.prog) w 29 31 i8 (.slice none 0 0) Try.underlying29 hi8 hz .i64 .i64 60 60 (by omega) (by omega) (by rw [hby]; omega) (by omega)
  rw [hsize] at h
  simpa [Value.cells] using h
theorem make_has (w : World) : (Instr.makeSlice 30 (.int .i64 60) (.int .i64 60)).run Try.prog w = .ok (.slice (some ⟨w.heap.size, 0, none⟩) 60 60) (w.alloc (.cells (madeCells #[.bool false] 60) 4)) := by
  obtain ⟨i8, hi8, hz, hsize, hby⟩ := info_parts info_bool1
  have h := run_make (P := Try.prog) w 30 4 i8 (.bool false) Try.underlying30 hi8 hz .i64 .i64 60 60 (by omega) (by omega) (by rw [hby]; omega) (by omega)
  rw [hsize] at h
  simpa [Value.cells] using h
theorem keep_start {w1 : World} {B p : Nat} (hB : B ≤ w1.heap.size) (hp : PageS w1 B p 0 0 []) :
    KeepIs ((w1.alloc (.cells (madeCells #[.slice none 0 0] 60) 31)).alloc (.cells (madeCells #[.bool false] 60) 4)) B p w1.heap.size (w1.heap.size + 1) [] := by
  have b1 : Below w1.heap.size w1 (w1.alloc (.cells (madeCells #[.slice none 0 0] 60) 31)) := (Below.refl _ _).alloc (Nat.le_refl _) _
  generalize hw2 : w1.alloc (.cells (madeCells #[.slice none 0 0] 60) 31) = w2 at *
  have hs2 : w2.heap.size = w1.heap.size + 1 := by rw [← hw2]; simp
  have b2 : Below w2.heap.size w2 (w2.alloc (.cells (madeCells #[.bool false] 60) 4)) := (Below.refl _ _).alloc (Nat.le_refl _) _
  refine ⟨(hp.below b1).below b2, ?_, ?_⟩
  · have h := World.ownsRow_lit (base := B) (e := 4) (size := 1) w2 (madeCells #[.bool false] 60) 60 (by omega) (by unfold maxLen; omega) (by simp [size_madeCells])
    rw [toList_madeCells_one, hs2] at h
    unfold HasIs
    rw [show boolsV (fun j => (atS [] j).isSome) = List.replicate 60 (.bool false) from rfl]
    exact h
  · have h := World.ownsRow_lit (base := B) (e := 31) (size := 1) w1 (madeCells #[.slice none 0 0] 60) 60 (by omega) (by unfold maxLen; omega) (by simp [size_madeCells])
    rw [hw2] at h
    exact ⟨_, own_below' h b2, fun j hj l hl => by rw [atS_out (Nat.zero_le _)] at hl; cases hl⟩

set_option maxRecDepth 100000 in
set_option maxHeartbeats 4000000 in
theorem keep_in (l : List StepL) (v : Value) (w : World) (hl : Steps w v l) (h150 : l.length ≤ 150) : Calls Try.prog 3 #[v] w fun e w' => e = .returned (.bool true) ∧ Below w.heap.size w w' := by
  obtain ⟨ao, c, rfl, hl1, hl2, hl3⟩ := hl
  unfold maxLen at hl2
  have HC := Lib.hid hl3
  have K1 := Lib.hid (NewP_ok w.heap.size 0 0 w (by omega) (by omega) (Nat.le_refl _))
  have t1 : decide ((150 : Int) < (l.length : Int)) = false := by simp; omega
  have hmw := make_want
  have hmh := make_has
  clear hl3
  go_enter Try.func3, Try.ntmps3
  go_wp2_with fail
  refine K1.out.mono ?_
  rintro e w1 ⟨p, rfl, p1, b1⟩
  have KS := Lib.hid (keep_start b1.size (show PageS w1 w.heap.size p 0 0 [] from ⟨by decide, by decide, [], rfl, p1⟩))
  have BS := Lib.hid ((b1.alloc b1.size (.cells (madeCells #[.slice none 0 0] 60) 31)).alloc (by simp; have := b1.size; omega) (.cells (madeCells #[.bool false] 60) 4))
  clear p1
  go_wp2_with fail
  generalize hgw : w1.heap.size = gw at *
  clear hgw hmw hmh
  go_loopw [7] (fun i wr => ∃ (k : Nat) (st : List SlotL), k ≤ l.length ∧ i = .int .i64 k ∧ KeepIs wr w.heap.size p gw (gw + 1) st ∧ Below w.heap.size w wr) (fun i _ => l.length - (intOf i).toNat)
  case atStart => exact ⟨0, [], Nat.zero_le _, rfl, KS.out, BS.out⟩
  case round =>
    obtain ⟨k, st, hk, rfl, hkp, hb⟩ := hrel
    generalize gw + 1 = gh at *
    by_cases hlt : k < l.length
    · have t3 : decide ((k : Int) < (l.length : Int)) = true := by simp; omega
      obtain ⟨b, off, rfl, hbl, q0, q1, q2⟩ := HC.out k hlt
      generalize l[k].kind = K at *
      generalize l[k].slot = sl at *
      generalize l[k].size = sz at *
      have c0 := (hb.cell (p := ⟨b, off + k * 3, none⟩) hbl).trans q0
      have c1 := (hb.cell (p := ⟨b, off + k * 3 + 1, none⟩) hbl).trans q1
      have c2 := (hb.cell (p := ⟨b, off + k * 3 + 2, none⟩) hbl).trans q2
      have i0 : (0 : Int) ≤ (k : Int) := by omega
      have i1 : (k : Int) < (l.length : Int) := by omega
      have KP := Lib.hid hkp
      have RN := Lib.hid (Round_any sz 200 wr (by omega) (by omega))
      have RS := Lib.hid (fun w => Round_any sl 60 w (by omega) (by omega))
      obtain ⟨x, hx, hx2⟩ : ∃ x : Nat, sz % (200 : Nat) = (x : Int) ∧ x < 200 := ⟨(sz % 200).toNat, by omega, by omega⟩
      obtain ⟨s, hs, hs2⟩ : ∃ x : Nat, sl % (60 : Nat) = (x : Int) ∧ x < 60 := ⟨(sl % 60).toNat, by omega, by omega⟩
      rw [hx] at RN
      rw [hs] at RS
      have BK := Lib.hid (Block_any x k wr (by omega) (by omega) (by omega))
      clear hx hs hkp q0 q1 q2
      go_wp2_with fail
      refine RN.out.mono ?_
      rintro e w2 ⟨rfl, rfl⟩
      go_wp2_with fail
      refine BK.out.mono ?_
      rintro e w3 ⟨v3, l3, rfl, rfl, o3, b3⟩
      have B3 := hb.trans (b3.mono hb.size)
      have K3 := Lib.hid (KP.out.below b3)
      have d0 := (b3.cell (p := ⟨b, off + k * 3, none⟩) (Nat.lt_of_lt_of_le hbl hb.size)).trans c0
      have d1 := (b3.cell (p := ⟨b, off + k * 3 + 1, none⟩) (Nat.lt_of_lt_of_le hbl hb.size)).trans c1
      have O3 := Lib.hid (show Own w3 w.heap.size v3 l3 from own_base o3 hb.size)
      obtain ⟨ao3, ca3, rfl, _⟩ := Rd.of_own o3
      clear o3 KP c0 c1 c2
      go_wp2_with fail
      refine (RS.out _).mono ?_
      rintro e w4 ⟨rfl, rfl⟩
      go_upto_block 2 with fail
      go_cut [10, 11, 12, 13, 14] from 35 to 184 (fun s10 s11 s12 s13 s14 wx => ∃ st', KeepIs wx w.heap.size p gw gh st' ∧ Below w.heap.size w wx)
      case first =>
        have hs0 : (0 : Int) ≤ (s : Int) := by omega
        have hs60 : (s : Int) < 60 := by omega
        have HH := Lib.hid (fun (w' : World) (st : List SlotL) (h : HasIs w' w.heap.size gh fun j => (atS st j).isSome) (j : Nat) (hj : j < 60) => h.cell hj)
        by_cases hk1 : K = 1
        · subst hk1
          have IN := Lib.hid (Insert_any K3.out.page _ l3 (Own.byt O3.out) (by omega))
          clear d0 d1 hlt
          unfold InsRet at IN
          rcases putE_zero st (ixS st) l3 with he | he | he
          · have hix := putS_pos he
            have hax := atS_ix st
            have hal := Lib.hid (fun j h => atS_lt_ix (st := st) (j := j) h)
            have hap := Lib.hid (fun j => atS_put (ixS_le st) l3 j)
            rw [he] at IN
            simp only [if_true] at IN
            clear he
            generalize ixS st = X at *
            generalize putS st X l3 = st' at *
            have t5 : decide ((X : Int) < 0) = false := by simp
            have t6 : decide ((60 : Int) ≤ (X : Int)) = false := by simp; omega
            have x0 : (0 : Int) ≤ (X : Int) := by omega
            have x1 : (X : Int) < 60 := by omega
            go_wp2_with fail
            refine IN.out.mono ?_
            rintro e w5 ⟨u5, rfl, hu5, p5, f5⟩
            obtain rfl : u5 = .nilIface := hu5
            obtain ⟨hh5, hw5⟩ := K3.out.rows f5
            have o5 : Own w5 w.heap.size (.slice ao3 l3.length ca3) l3 := f5.own (by decide) (by decide) (show w3.ownsRow w.heap.size 5 1 _ l3.length (bytesV l3) from O3.out)
            have C5 := Lib.hid (fun j (hj : j < 60) => hh5.cell hj)
            obtain ⟨cx, fx⟩ := hh5.cell hix
            rw [hax] at cx
            simp only [Option.isSome_none] at cx
            have FIN := Lib.hid (KeepIs.put p5 hh5 hw5 hix hap.out o5)
            have hgh := hh5.lt
            have hgw := hw5.lt
            have B5 := (B3.trans f5.below)
            have BF := Lib.hid ((B5.setCell (p := ⟨gh, X, none⟩) hgh.1 (.bool true)).setCell (p := ⟨gw, X, none⟩) hgw.1 (.slice ao3 l3.length ca3))
            have hww := hw5.setHas hh5 X (.bool true)
            obtain ⟨old, co, fo⟩ := hww.old hix
            clear p5 hh5 hw5 o5 f5 hww hax
            go_wp2_with fail
            go_loopw [12] (fun j wr => ∃ (q : Nat), q ≤ X ∧ j = .int .i64 q ∧ wr = w5) (fun j _ => X - (intOf j).toNat)
            case atStart => exact ⟨0, Nat.zero_le _, rfl, rfl⟩
            case round =>
              obtain ⟨q, hq, rfl, rfl⟩ := hrel
              by_cases hqx : q < X
              · have t7 : decide ((q : Int) < (X : Int)) = true := by simp; omega
                have c5 := (C5.out q (by omega)).1
                rw [hal.out q hqx] at c5
                have y0 : (0 : Int) ≤ (q : Int) := by omega
                have y1 : (q : Int) < 60 := by omega
                clear cx fx co fo
                go_wp2_with fail
                go_roundw
                case rel => exact ⟨q + 1, hqx, by go_num, trivial⟩
                case measure => simp [intOf]; omega
              · obtain rfl : q = X := by omega
                have t7 : decide ((q : Int) < (q : Int)) = false := by simp
                go_wp2_with fail
                go_meet
                exact ⟨_, FIN.out, BF.out⟩
          all_goals
            rw [he] at IN
            have z8 : ¬ (8 : Int) = 0 := by omega
            have z13 : ¬ (13 : Int) = 0 := by omega
            simp only [z8, z13, if_false] at IN
            clear he
            go_wp2_with fail
            refine IN.out.mono ?_
            rintro e w5 ⟨u5, rfl, hu5, p5, f5⟩
            obtain ⟨bb, uu, rfl, _⟩ := hu5
            have FIN := Lib.hid (K3.out.frm f5 p5)
            have BF := Lib.hid (B3.trans f5.below)
            clear p5 f5
            go_wp2_with fail
            go_meet
            exact ⟨_, FIN.out, BF.out⟩
        · have k1 : (K == 1) = false := by simpa using hk1
          clear hk1
          by_cases hk2 : K = 2
          · subst hk2
            have SE := Lib.hid (Set_any K3.out.page s _ l3 (Own.byt O3.out) (by omega))
            unfold PutRet at SE
            rw [hasS_nat, Int.toNat_natCast] at SE
            clear d0 d1 hlt
            cases hat : (atS st s).isSome with
            | true =>
              rw [hat, if_pos rfl] at SE
              have hap := Lib.hid (fun j => atS_put (Nat.le_of_lt (atS_some_lt hat)) l3 j)
              have HAT := Lib.hid hat
              clear hat
              rcases putE_zero st s l3 with he | he | he
              · rw [he] at SE
                simp only [if_true] at SE
                clear he
                generalize putS st s l3 = st' at *
                go_wp2_with fail
                refine SE.out.mono ?_
                rintro e w5 ⟨u5, rfl, hu5, p5, f5⟩
                obtain rfl : u5 = .nilIface := hu5
                obtain ⟨hh5, hw5⟩ := K3.out.rows f5
                have o5 : Own w5 w.heap.size (.slice ao3 l3.length ca3) l3 := f5.own (by decide) (by decide) (show w3.ownsRow w.heap.size 5 1 _ l3.length (bytesV l3) from O3.out)
                obtain ⟨cx, fx⟩ := hh5.cell hs2
                rw [HAT.out] at cx
                have FIN := Lib.hid (KeepIs.set p5 hh5 hw5 hs2 HAT.out hap.out o5)
                have BF := Lib.hid ((B3.trans f5.below).setCell (p := ⟨gw, s, none⟩) hw5.lt.1 (.slice ao3 l3.length ca3))
                obtain ⟨old, co, fo⟩ := hw5.old hs2
                clear p5 hh5 hw5 o5 f5
                go_wp2_with fail
                go_meet
                exact ⟨_, FIN.out, BF.out⟩
              all_goals
                rw [he] at SE
                have z8 : ¬ (8 : Int) = 0 := by omega
                have z13 : ¬ (13 : Int) = 0 := by omega
                simp only [z8, z13, if_false] at SE
                clear he
                go_wp2_with fail
                refine SE.out.mono ?_
                rintro e w5 ⟨u5, rfl, hu5, p5, f5⟩
                obtain ⟨bb, uu, rfl, _⟩ := hu5
                have FIN := Lib.hid (K3.out.frm f5 p5)
                have BF := Lib.hid (B3.trans f5.below)
                clear p5 f5
                go_wp2_with fail
                go_meet
                exact ⟨_, FIN.out, BF.out⟩
            | false =>
                rw [hat, if_neg (by decide)] at SE
                have z15 : ¬ (15 : Int) = 0 := by omega
                simp only [z15, if_false] at SE
                go_wp2_with fail
                refine SE.out.mono ?_
                rintro e w5 ⟨u5, rfl, hu5, p5, f5⟩
                obtain ⟨bb, uu, rfl, _⟩ := hu5
                have FIN := Lib.hid (K3.out.frm f5 p5)
                have BF := Lib.hid (B3.trans f5.below)
                clear p5 f5
                go_wp2_with fail
                go_meet
                exact ⟨_, FIN.out, BF.out⟩
          · have k2 : (K == 2) = false := by simpa using hk2
            clear hk2
            by_cases hk3 : K = 3
            · subst hk3
              have DE := Lib.hid (Delete_any K3.out.page s)
              unfold PutRet at DE
              rw [hasS_nat, Int.toNat_natCast] at DE
              have hap := Lib.hid (fun j => atS_del st s j)
              clear d0 d1 hlt
              cases hat : (atS st s).isSome with
              | true =>
                rw [hat, if_pos rfl] at DE
                have HAT := Lib.hid hat
                clear hat
                simp only [if_true] at DE
                generalize delS st s = st' at *
                go_wp2_with fail
                refine DE.out.mono ?_
                rintro e w5 ⟨u5, rfl, hu5, p5, f5⟩
                obtain rfl : u5 = .nilIface := hu5
                have B5 := B3.trans f5.below
                have HW := Lib.hid (fun n => K3.out.rows (f5.trans (.of_below (bel_drewN (Below.refl _ w5) n) B5.size)))
                obtain ⟨cx, fx⟩ := (HW.out 0).1.cell hs2
                rw [HAT.out] at cx
                have cx' : w5.cell? ⟨gh, s, none⟩ = some (.bool true) := cx
                have fx' : w5.frozen? ⟨gh, s, none⟩ = false := fx
                have FIN := Lib.hid (fun n => KeepIs.del (p5.below (bel_drewN (Below.refl _ w5) n)) (HW.out n).1 (HW.out n).2 hap.out)
                have BF := Lib.hid (fun n => (bel_drewN B5 n).setCell (p := ⟨gh, s, none⟩) (HW.out 0).1.lt.1 (.bool false))
                clear p5 f5 cx fx
                go_wp2_with fail
                go_quiet (fail)
                go_wp2_with fail
                go_meet
                exact ⟨_, FIN.out _, BF.out _⟩
              | false =>
                rw [hat, if_neg (by decide)] at DE
                have HAT := Lib.hid hat
                clear hat
                have z15 : ¬ (15 : Int) = 0 := by omega
                simp only [z15, if_false] at DE
                go_wp2_with fail
                refine DE.out.mono ?_
                rintro e w5 ⟨u5, rfl, hu5, p5, f5⟩
                obtain ⟨bb, uu, rfl, _⟩ := hu5
                have B5 := B3.trans f5.below
                have HW := Lib.hid (fun n => K3.out.rows (f5.trans (.of_below (bel_drewN (Below.refl _ w5) n) B5.size)))
                obtain ⟨cx, fx⟩ := (HW.out 0).1.cell hs2
                rw [HAT.out] at cx
                have cx' : w5.cell? ⟨gh, s, none⟩ = some (.bool false) := cx
                have fx' : w5.frozen? ⟨gh, s, none⟩ = false := fx
                have hap' := Lib.hid (show ∀ j, atS st j = if j = s then none else atS st j from fun j => by
                  by_cases h : j = s
                  · rw [if_pos h, h]
                    exact Option.not_isSome_iff_eq_none.1 (by rw [HAT.out]; decide)
                  · rw [if_neg h])
                have FIN := Lib.hid (fun n => KeepIs.del (p5.below (bel_drewN (Below.refl _ w5) n)) (HW.out n).1 (HW.out n).2 hap'.out)
                have BF := Lib.hid (fun n => (bel_drewN B5 n).setCell (p := ⟨gh, s, none⟩) (HW.out 0).1.lt.1 (.bool false))
                clear p5 f5 cx fx
                go_wp2_with fail
                go_quiet (fail)
                go_wp2_with fail
                go_meet
                exact ⟨_, FIN.out _, BF.out _⟩
            · have k3 : (K == 3) = false := by simpa using hk3
              clear hk3
              go_wp2_with fail
              go_meet
              exact ⟨_, K3.out, B3⟩
      case rest =>
        obtain ⟨st', kc, bc⟩ := hcut
        have KC := Lib.hid kc
        clear kc K3 O3 d0 d1 b3 B3 RS
        go_wp2_with fail
        go_loopw [15, 16] (fun u j wr => ∃ (q : Nat), q ≤ 60 ∧ j = .int .i64 q ∧ u = .int .i64 (usedS st' q : Nat) ∧ KeepIs wr w.heap.size p gw gh st' ∧ Below w.heap.size w wr) (fun _ j _ => 60 - (intOf j).toNat)
        case atStart => exact ⟨0, Nat.zero_le _, rfl, rfl, KC.out, bc⟩
        case round =>
          obtain ⟨q, hq, rfl, rfl, kq, bq⟩ := hrel
          have hus1 := usedS_size st' (q + 1)
          have hus0 := usedS_size st' q
          have hus2 : usedS st' (q + 1) = usedS st' q + costS (atS st' q) := rfl
          have hpz := kq.page.1
          have j0 : (0 : Int) ≤ (q : Int) := by omega
          by_cases hq60 : q < 60
          · have t7 : decide ((q : Int) < 60) = true := by simp; omega
            have j1 : (q : Int) < 60 := by omega
            have GE := Lib.hid (Get_any kq.page q)
            unfold GetRet at GE
            rw [hasS_nat, getB_at] at GE
            have KQ := Lib.hid kq
            cases hat : atS st' q with
            | none =>
              rw [hat] at GE hus2
              simp only [Option.isSome_none, Bool.false_eq_true, if_false] at GE
              simp only [costS, Nat.add_zero] at hus2
              have HU := Lib.hid hus2
              have HAT := Lib.hid hat
              clear kq hus2 hat
              go_wp2_with fail
              refine GE.out.mono ?_
              rintro e w5 ⟨v5, u5, rfl, ⟨rfl, hu5⟩, b5⟩
              obtain ⟨bb, uu, rfl, _⟩ := hu5
              have K5 := KQ.out.below b5
              have B5 := bq.trans (b5.mono bq.size)
              have KF := Lib.hid (fun n => K5.below (bel_drewN (Below.refl _ w5) n))
              have BF := Lib.hid (fun n => bel_drewN B5 n)
              obtain ⟨cx, _⟩ := K5.has.cell hq60
              rw [HAT.out] at cx
              simp only [Option.isSome_none] at cx
              clear K5
              go_wp2_with fail
              go_quiet (fail)
              go_wp2_with fail
              go_roundw
              case rel => exact ⟨q + 1, hq60, by go_num, by rw [HU.out], KF.out _, BF.out _⟩
              case measure => simp [intOf]; omega
            | some lq =>
              rw [hat] at GE hus2
              simp only [Option.isSome_some, if_true, Option.getD_some] at GE
              simp only [costS] at hus2
              have HU := Lib.hid hus2
              have HAT := Lib.hid hat
              have hsm : usedS st' q + (4 + lq.length) ≤ 496 := by omega
              clear kq hus2 hat
              go_wp2_with fail
              refine GE.out.mono ?_
              rintro e w5 ⟨v5, u5, rfl, ⟨rfl, o5⟩, b5⟩
              have K5 := KQ.out.below b5
              have B5 := bq.trans (b5.mono bq.size)
              have KF := Lib.hid (fun n => K5.below (bel_drewN (Below.refl _ w5) n))
              have BF := Lib.hid (fun n => bel_drewN B5 n)
              obtain ⟨cx, _⟩ := K5.has.cell hq60
              rw [HAT.out] at cx
              simp only [Option.isSome_some] at cx
              obtain ⟨aw, cw, cq, ow⟩ := K5.want.cell hq60 HAT.out
              have BY := Lib.hid (fun n => (Bytes_any _ _ lq lq (w5.drewN n) (Byt.drewN (Own.byt o5) n) (Byt.drewN (Own.byt ow) n)).mono fun e w' h => (⟨by rw [h.1]; simp, h.2⟩ : e = .returned (.bool true) ∧ ∃ m, w' = (w5.drewN n).drewN m))
              obtain ⟨ao5, c5, rfl, _⟩ := Rd.of_own o5
              clear K5 o5 ow
              go_wp2_with fail
              go_quiet ((go_at_call 14; refine Calls.quiet_of (BY.out _)))
              go_wp2_with fail
              go_roundw
              case rel => exact ⟨q + 1, hq60, by go_num, by rw [HU.out]; go_num, KF.out _, BF.out _⟩
              case measure => simp [intOf]; omega
          · obtain rfl : q = 60 := by omega
            have t7 : decide (((60 : Nat) : Int) < 60) = false := by decide
            have FR := Lib.hid (Free_any kq.page)
            have KQ := Lib.hid kq
            obtain ⟨Z, hZ⟩ : ∃ Z : Nat, Z = sizeS st' := ⟨_, rfl⟩
            obtain ⟨U, hU⟩ : ∃ U : Nat, U = usedS st' 60 := ⟨_, rfl⟩
            rw [← hZ] at FR hus0 hpz
            rw [← hU] at hus0 ⊢
            have FR2 := Lib.hid (fun w' (hb : Below wr.heap.size wr w') => Free_any (kq.page.below hb))
            rw [← hZ] at FR2
            have t8 : decide ((512 : Int) - (Z : Int) < 0) = false := by simp; omega
            have t9 : decide ((496 : Int) - (U : Int) < 512 - (Z : Int)) = false := by simp; omega
            clear hZ hU kq hus1 hus2 b1
            go_wp2_with fail
            refine FR.out.mono ?_
            rintro e w5 ⟨rfl, b5⟩
            go_wp2_with fail
            refine (FR2.out _ b5).mono ?_
            rintro e w6 ⟨rfl, b6⟩
            have b56 := b5.trans (b6.mono b5.size)
            have K6 := Lib.hid (KQ.out.below b56)
            have B6 := Lib.hid (bq.trans (b56.mono bq.size))
            go_wp2_with fail
            go_roundw
            case rel => exact ⟨k + 1, _, hlt, by go_num, K6.out, B6.out⟩
            case measure => simp [intOf]; omega
    · obtain rfl : k = l.length := by omega
      have t3 : decide ((l.length : Int) < (l.length : Int)) = false := by simp
      have AW := Lib.hid (awake11_any wr)
      clear hkp
      go_wp2_with fail
      refine AW.out.mono ?_
      rintro e w9 ⟨rfl, b9⟩
      go_wp2_with fail
      go_ret
      exact ⟨rfl, hb.trans (b9.mono hb.size)⟩

set_option maxRecDepth 100000 in
theorem slotsKeep_any (l : List StepL) (v : Value) (w : World) (hl : Steps w v l) : Calls Try.prog 3 #[v] w fun e w' => e = .returned (.bool true) ∧ Below w.heap.size w w' := by
  by_cases h : l.length ≤ 150
  · exact keep_in l v w hl h
  · have AW := Lib.hid (awake11_any w)
    obtain ⟨ao, c, rfl, hl1, hl2, hl3⟩ := hl
    unfold maxLen at hl2
    have t1 : decide ((150 : Int) < (l.length : Int)) = true := by simp; omega
    clear hl3
    go_enter Try.func3, Try.ntmps3
    go_wp2_with fail
    refine AW.out.mono ?_
    rintro e w9 ⟨rfl, b9⟩
    go_wp2_with fail
    go_ret
    exact ⟨rfl, b9⟩

set_option maxRecDepth 100000 in
theorem slotsKeep_calls {H : Type} {enc : TypeId × Value → H} {W : World} {base : Nat} {v0 : Value} {d0 : DataW H} {p0 : List MemPlace}
    (o0 : Value.okWide Try.prog W .any base 22 v0) (h0 : DataW.Trod enc Try.prog W 0 (fun _ => true) true 22 v0 d0 p0) :
    Calls Try.prog 3 #[v0] W fun e w' => e = .returned (.bool true) ∧ Below W.heap.size W w' := by
  obtain ⟨l, hl⟩ := view_steps o0 h0
  exact slotsKeep_any l v0 W hl
end Go.Proofs.Ytdeibgljibcnlaa
