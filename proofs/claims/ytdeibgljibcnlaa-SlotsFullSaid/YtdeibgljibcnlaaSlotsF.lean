/- SlotsFull answers true. -/
import Derived.Test.YtdeibgljibcnlaaFullMath
import Derived.Test.YtdeibgljibcnlaaBlock
import Derived.Test.YtdeibgljibcnlaaSlotsN
namespace Go.Proofs.Ytdeibgljibcnlaa
open Go.RowKit Go.ChangeShapes Go.WideShapes

set_option maxRecDepth 100000 in
set_option maxHeartbeats 2000000 in
theorem full_in (m : Nat) (out : Int) (w : World) (hm : m ≤ 400) : Calls Try.prog 4 #[.int .i64 m, .int .i64 out] w fun e w' => e = .returned (.bool true) ∧ Below w.heap.size w w' := by
  have K1 := Lib.hid (NewP_ok w.heap.size 1 1 w (by omega) (by omega) (Nat.le_refl _))
  have hfl := fit_le m
  have hfp := fit_pos hm
  have t1 : decide ((m : Int) < 0) = false := by simp
  have t2 : decide ((400 : Int) < (m : Int)) = false := by simp; omega
  have e1 : (496 : Int).tdiv ((m : Int) + 4) = ((496 / (m + 4) : Nat) : Int) := by rw [Int.tdiv_eq_ediv_of_nonneg (by omega), Int.natCast_ediv]; rfl
  have e3 : ((m : Int) + 4 == 0) = false := by simp; omega
  obtain ⟨q, hq⟩ : ∃ q, q = 496 / (m + 4) := ⟨_, rfl⟩
  have hq0 : q ≤ 496 := by rw [hq]; exact Nat.div_le_self ..
  have e4 : wrap64 ((496 : Int) / ((m : Int) + 4)) = (q : Int) := by
    rw [show ((496 : Int) / ((m : Int) + 4)) = (q : Int) by rw [hq, Int.natCast_ediv]; rfl]
    exact IntWalk.wrap64_in _ (by omega)
  have hF : fitN m = min q 60 := by rw [hq]; rfl
  rw [← hq] at e1
  clear hq
  have T : ((60 : Int) < (q : Int) ∧ (60 : Int) = (fitN m : Int)) ∨ (¬ (60 : Int) < (q : Int) ∧ (q : Int) = (fitN m : Int)) := by rw [hF]; omega
  have h61 : ¬ (60 : Int) < (fitN m : Int) := by omega
  clear hF
  rcases T with ⟨h60, H60⟩ | ⟨h60, H60⟩
  all_goals
    go_enter Try.func4, Try.ntmps4
    go_wp2_with fail
    refine K1.out.mono ?_
    rintro e w1 ⟨p, rfl, p1, b1⟩
    have P1 := Lib.hid (show PageS w1 w.heap.size p 1 1 [] from ⟨by decide, by decide, [], rfl, p1⟩)
    clear p1
    go_wp2_with fail
    go_loopw [8] (fun i wr => ∃ (k : Nat) (st : List SlotL), k ≤ fitN m ∧ i = .int .i64 k ∧ PageS wr w.heap.size p 1 1 st ∧ FullS st k m ∧ Below w.heap.size w wr) (fun i _ => fitN m - (intOf i).toNat)
    case atStart => exact ⟨0, [], Nat.zero_le _, rfl, P1.out, ⟨rfl, fun x hx => by cases hx⟩, b1⟩
    case round =>
      obtain ⟨k, st, hk, rfl, hp, hf, hb⟩ := hrel
      by_cases hlt : k < fitN m
      · have t3 : decide ((k : Int) < (fitN m : Int)) = true := by simp; omega
        have BK := Lib.hid (Block_any m k wr (by omega) (by omega) (by omega))
        have IN := Lib.hid (show ∀ w2 v (b : List UInt8), b.length = m → Below wr.heap.size wr w2 → Byt w2 v b → Calls Try.prog 10 #[.pointer (some ⟨p, 0, none⟩), v] w2 (fun e w' => e = .returned (.tuple #[.int .i64 k, .nilIface]) ∧ PageS w' w.heap.size p 1 1 (putS st k b) ∧ Below w.heap.size w2 w') from fun w2 v b hb2 hw2 hv => by
          have h := Insert_any (hp.below hw2) v b hv (by omega)
          refine h.mono ?_
          unfold InsRet
          rw [hf.ix, hf.put_ok hm hlt hb2, if_pos rfl, if_pos rfl]
          rintro e w' ⟨u, rfl, hu, q1, q2⟩
          obtain rfl : u = .nilIface := hu
          exact ⟨rfl, q1, q2.below⟩)
        have HS := Lib.hid (fun (b : List UInt8) (h : b.length = m) => hf.snoc h)
        clear hp hf e1 e3
        go_wp2_with fail
        refine BK.out.mono ?_
        rintro e w2 ⟨v2, l2, rfl, hl2, o2, b2⟩
        have B2 := hb.trans (b2.mono hb.size)
        have I2 := Lib.hid (IN.out _ _ _ hl2 b2 o2.byt)
        clear o2
        go_wp2_with fail
        refine I2.out.mono ?_
        rintro e w3 ⟨rfl, p3, b3⟩
        have P3 := Lib.hid p3
        have B3 := B2.trans b3
        have F3 := Lib.hid (HS.out _ hl2)
        clear p3
        go_wp2_with fail
        go_roundw
        case rel => exact ⟨k + 1, _, hlt, by go_num, P3.out, F3.out, B3⟩
        case measure => simp [intOf]; omega
      · have t3 : decide ((k : Int) < (fitN m : Int)) = false := by simp; omega
        obtain rfl : k = fitN m := by omega
        go_wp2_with fail
        have BK := Lib.hid (Block_any m 1 wr (by omega) (by omega) (by omega))
        have PG := Lib.hid (show ∀ w', Below wr.heap.size wr w' → PageS w' w.heap.size p 1 1 st from fun w' h => hp.below h)
        have FU := Lib.hid hf
        clear hp hf e1 e3 K1 P1 b1
        obtain ⟨M, hM, hM2⟩ : ∃ M : Nat, (fitN m : Int) * ((m : Int) + 4) = (M : Int) ∧ 16 + M = sizeS st := ⟨fitN m * (m + 4), by push_cast; rfl, FU.out.size.symm⟩
        have hM3 : M ≤ 496 := by have := hfl.2; have h2 := FU.out.size; omega
        go_wp2_with fail
        refine BK.out.mono ?_
        rintro e w2 ⟨v2, l2, rfl, hl2, o2, b2⟩
        have B2 := hb.trans (b2.mono hb.size)
        have I2 := Lib.hid (show Calls Try.prog 10 #[.pointer (some ⟨p, 0, none⟩), v2] w2 (fun e w' => ∃ u, e = .returned (.tuple #[.int .i64 0, u]) ∧ (Er.fault strPage (fitN m) (.num 8)).Is w' u ∧ PageS w' w.heap.size p 1 1 st ∧ Below w.heap.size w2 w') from by
          have h := Insert_any (PG.out _ b2) v2 l2 o2.byt (by omega)
          refine h.mono ?_
          unfold InsRet
          rw [FU.out.ix, FU.out.put_full hm hl2, if_neg (by decide), if_neg (by decide)]
          rintro e w' ⟨u, rfl, hu, q1, q2⟩
          exact ⟨u, rfl, hu, q1, q2.below⟩)
        clear o2 PG
        go_wp2_with fail
        refine I2.out.mono ?_
        rintro e w3 ⟨u3, rfl, h3, p3, b3⟩
        have P3 := Lib.hid p3
        have B3 := B2.trans b3
        have C3 := Lib.hid (Code_er _ _ _ h3)
        have F3 := Lib.hid (Free_any p3)
        clear p3 h3
        rw [show (Er.fault strPage (fitN m) (.num 8)).code = 8 by simp [Er.code, Er.root]] at C3
        rw [show (512 - (sizeS st : Int)) = 496 - (M : Int) by omega] at F3
        go_wp2_with fail
        refine C3.out.mono ?_
        rintro e w4 ⟨rfl, rfl⟩
        go_wp2_with fail
        refine F3.out.mono ?_
        rintro e w4 ⟨rfl, b4⟩
        have P4 := Lib.hid (P3.out.below b4)
        have B4 := B3.trans (b4.mono B3.size)
        clear P3
        have t5 : decide ((fitN m : Int) < 1) = false := by simp; omega
        go_wp2_with fail
        have RO := Lib.hid (fun w => Round_any out (fitN m) w (by omega) (by omega))
        obtain ⟨x, hx, hx2⟩ : ∃ x : Nat, out % (fitN m : Int) = (x : Int) ∧ x < fitN m := by
          have h1 := Int.emod_nonneg out (show (fitN m : Int) ≠ 0 by omega)
          have h2 := Int.emod_lt_of_pos out (show (0 : Int) < (fitN m : Int) by omega)
          exact ⟨(out % (fitN m : Int)).toNat, by omega, by omega⟩
        rw [hx] at RO
        clear hx
        obtain ⟨i, hi⟩ : ∃ i, fitN m = i + 1 := ⟨fitN m - 1, by omega⟩
        have AG := Lib.hid (fun (b : List UInt8) (hb : b.length = m) => FullS.again (show FullS st (i + 1) m from hi ▸ FU.out) (show x ≤ i by omega) hb)
        have DE := Lib.hid (show Calls Try.prog 12 #[.pointer (some ⟨p, 0, none⟩), .int .i64 x] w4 (PutRet w.heap.size p 1 1 w4 x 0 st (delS st x)) from by
          have h := Delete_any P4.out (x : Int)
          rwa [FU.out.has hx2, if_pos rfl, Int.toNat_natCast] at h)
        have HI := Lib.hid hi
        clear hi
        refine (RO.out _).mono ?_
        rintro e w5 ⟨rfl, rfl⟩
        go_wp2_with fail
        refine DE.out.mono ?_
        rintro e w5 ⟨u5, rfl, h5, p5, f5⟩
        obtain rfl : u5 = .nilIface := h5
        have P5 := Lib.hid (show PageS w5 w.heap.size p 1 1 (delS st x) from p5)
        have B5 := B4.trans f5.below
        clear p5 f5 P4
        have BK7 := Lib.hid (Block_any m 7 w5 (by omega) (by omega) (by omega))
        go_wp2_with fail
        refine BK7.out.mono ?_
        rintro e w6 ⟨v6, l6, rfl, hl6, o6, b6⟩
        have B6 := B5.trans (b6.mono B5.size)
        obtain ⟨hix, hag⟩ := AG.out _ hl6
        have hpe : putE (delS st x) x l6 = 0 := by
          unfold putE
          rw [if_neg (by omega), if_neg (by omega), if_neg (by rw [hag.size]; have := hfl.2; rw [HI.out] at this; omega)]
        have I6 := Lib.hid (show Calls Try.prog 10 #[.pointer (some ⟨p, 0, none⟩), v6] w6 (fun e w' => e = .returned (.tuple #[.int .i64 x, .nilIface]) ∧ PageS w' w.heap.size p 1 1 (putS (delS st x) x l6) ∧ Below w.heap.size w6 w') from by
          have h := Insert_any (P5.out.below b6) v6 l6 o6.byt (by omega)
          refine h.mono ?_
          unfold InsRet
          rw [hix, hpe, if_pos rfl, if_pos rfl]
          rintro e w' ⟨u, rfl, hu, q1, q2⟩
          obtain rfl : u = .nilIface := hu
          exact ⟨rfl, q1, q2.below⟩)
        have HFU := Lib.hid hag.full
        clear o6 hix hpe hag P5
        go_wp2_with fail
        refine I6.out.mono ?_
        rintro e w7 ⟨rfl, p7, b7⟩
        have B7 := B6.trans b7
        have S7 := Lib.hid (Slots_any p7)
        clear p7
        go_wp2_with fail
        refine S7.out.mono ?_
        rintro e w8 ⟨v8, rfl, o8, b8⟩
        have B8 := B7.trans (b8.mono B7.size)
        obtain ⟨ao8, c8, rfl⟩ := o8.form
        rw [show (fullS (putS (delS st x) x l6)).length = fitN m from HFU.out.trans HI.out.symm]
        clear o8
        go_wp2_with fail
        refine (awake11_any _).mono ?_
        rintro e w9 ⟨rfl, b9⟩
        go_wp2_with fail
        go_ret
        exact ⟨rfl, B8.trans (b9.mono B8.size)⟩

set_option maxRecDepth 100000 in
theorem slotsFull_any (n out : Int) (w : World) : Calls Try.prog 4 #[.int .i64 n, .int .i64 out] w fun e w' => e = .returned (.bool true) ∧ Below w.heap.size w w' := by
  by_cases h : 0 ≤ n ∧ n ≤ 400
  · obtain ⟨m, rfl⟩ := Int.eq_ofNat_of_zero_le h.1
    exact full_in m out w (by omega)
  · have AW := Lib.hid (awake11_any w)
    by_cases h0 : n < 0
    · have t1 : decide (n < 0) = true := by simp; omega
      go_enter Try.func4, Try.ntmps4
      go_wp2_with fail
      refine AW.out.mono ?_
      rintro e w9 ⟨rfl, b9⟩
      go_wp2_with fail
      go_ret
      exact ⟨rfl, b9⟩
    · have t1 : decide (n < 0) = false := by simp; omega
      have t2 : decide (400 < n) = true := by simp; omega
      go_enter Try.func4, Try.ntmps4
      go_wp2_with fail
      refine AW.out.mono ?_
      rintro e w9 ⟨rfl, b9⟩
      go_wp2_with fail
      go_ret
      exact ⟨rfl, b9⟩

set_option maxRecDepth 100000 in
theorem slotsFull_calls {H : Type} {enc : TypeId × Value → H} {W : World} {base : Nat} {v0 v1 : Value} {d0 d1 : DataW H} {p0 p1 : List MemPlace}
    (o0 : Value.okWide Try.prog W .any base 3 v0) (h0 : DataW.Trod enc Try.prog W 0 (fun _ => true) true 3 v0 d0 p0)
    (o1 : Value.okWide Try.prog W .any base 3 v1) (h1 : DataW.Trod enc Try.prog W 0 (fun _ => true) true 3 v1 d1 p1) :
    Calls Try.prog 4 #[v0, v1] W fun e w' => e = .returned (.bool true) ∧ Below W.heap.size W w' := by
  obtain ⟨n, rfl, rfl, rfl, hw⟩ := open_int Try.underlying3 o0 h0
  obtain ⟨k, rfl, rfl, rfl, hw'⟩ := open_int Try.underlying3 o1 h1
  exact slotsFull_any n k W
end Go.Proofs.Ytdeibgljibcnlaa
