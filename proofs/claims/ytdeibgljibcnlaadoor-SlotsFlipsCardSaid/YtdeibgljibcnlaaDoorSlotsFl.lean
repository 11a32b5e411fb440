/- SlotsFlips answers true. -/
import Derived.Test.YtdeibgljibcnlaaDoorParse
import Derived.Test.YtdeibgljibcnlaaDoorFlipMath
import Derived.Test.YtdeibgljibcnlaaDoorAwake11
import Derived.Test.YtdeibgljibcnlaaDoorBlock
import Derived.Test.YtdeibgljibcnlaaDoorRound
import Derived.Test.YtdeibgljibcnlaaDoorIsA
import Derived.Test.YtdeibgljibcnlaaDoorViewBase
import Derived.StillTailTactics
namespace Go.Proofs.YtdeibgljibcnlaaDoor
open Go.RowKit Go.ChangeShapes Go.WideShapes

theorem flip_bytes (c : UInt8) (j : Nat) (hj : j < 8) : ∃ d : UInt8, bits .xor .u8 (c.toNat : Int) (2 ^ j % 256) = (d.toNat : Int) ∧ d ≠ c := by
  have hm : ∃ m : UInt8, ((2 : Int) ^ j % 256) = (m.toNat : Int) ∧ m ≠ 0 := by
    match j, hj with
    | 0, _ => exact ⟨1, rfl, by decide⟩
    | 1, _ => exact ⟨2, rfl, by decide⟩
    | 2, _ => exact ⟨4, rfl, by decide⟩
    | 3, _ => exact ⟨8, rfl, by decide⟩
    | 4, _ => exact ⟨16, rfl, by decide⟩
    | 5, _ => exact ⟨32, rfl, by decide⟩
    | 6, _ => exact ⟨64, rfl, by decide⟩
    | 7, _ => exact ⟨128, rfl, by decide⟩
  obtain ⟨m, hm1, hm2⟩ := hm
  refine ⟨c ^^^ m, by rw [hm1, xor_u8], fun h => hm2 ?_⟩
  have := congrArg (fun x => c ^^^ x) h
  simpa [← UInt8.xor_assoc] using this

theorem parseR_sum {b : List UInt8} (h : ¬ sumOk b) : parseR b = none := by
  cases hp : parseR b with
  | none => rfl
  | some st =>
    exfalso
    apply h
    unfold parseR at hp
    split at hp
    · cases hp
    · obtain ⟨s0, _, h1⟩ := Option.bind_eq_some_iff.1 hp
      split at h1
      · cases h1
      · rename_i hn
        have h2 : pageB (b.getD 0 0).toNat (idB b) s0 = b := Classical.byContradiction fun q => hn (.inr (.inr q))
        rw [← h2]
        exact pageB_sumOk _ _ _ (by omega)

set_option maxRecDepth 100000 in
set_option maxHeartbeats 4000000 in
theorem flips_in (n m : Nat) (bit : Int) (w : World) (hg : ErrT w) (hn : n ≤ 20) (hm : m ≤ 20) :
    Calls Tryd.prog 3 #[.int .i64 n, .int .i64 m, .int .i64 bit] w fun e w' => e = .returned (.bool true) ∧ Below w.heap.size w w' := by
  have K1 := Lib.hid (NewP_ok w.heap.size 5 1000 w (by omega) (by omega) (Nat.le_refl _))
  have t1 : decide ((n : Int) < 0) = false := by simp
  have t2 : decide ((20 : Int) < (n : Int)) = false := by simp; omega
  have t3 : decide ((m : Int) < 0) = false := by simp
  have t4 : decide ((20 : Int) < (m : Int)) = false := by simp; omega
  go_enter Tryd.func3, Tryd.ntmps3
  go_wp2_with fail
  refine K1.out.mono ?_
  rintro e w1 ⟨p, rfl, p1, b1⟩
  have P1 := Lib.hid (show PageS w1 w.heap.size p 5 1000 [] from ⟨by decide, by decide, [], rfl, p1⟩)
  clear p1
  go_wp2_with fail
  go_loopw [9] (fun i wr => ∃ (k : Nat) (st : List SlotL), k ≤ n ∧ i = .int .i64 k ∧ PageS wr w.heap.size p 5 1000 st ∧ Below w.heap.size w wr) (fun i _ => n - (intOf i).toNat)
  case atStart => exact ⟨0, [], Nat.zero_le _, rfl, P1.out, b1⟩
  case round =>
    obtain ⟨k, st, hk, rfl, hp, hb⟩ := hrel
    by_cases hlt : k < n
    · have t5 : decide ((k : Int) < (n : Int)) = true := by simp; omega
      have BK := Lib.hid (Block_any m k wr (by omega) (by omega) (by omega))
      have HP := Lib.hid hp
      clear hp
      go_wp2_with fail
      refine BK.out.mono ?_
      rintro e w2 ⟨v2, l2, rfl, hl2, o2, b2⟩
      have B2 := hb.trans (b2.mono hb.size)
      have I2 := Lib.hid (Insert_any (HP.out.below b2) v2 l2 o2.byt (by omega))
      clear o2 hl2
      go_wp2_with fail
      refine I2.out.mono ?_
      rintro e w3 ⟨u3, rfl, hu3, p3, f3⟩
      have P3 := Lib.hid p3
      have B3 := B2.trans f3.below
      clear p3 hu3 f3
      go_wp2_with fail
      go_roundw
      case rel => exact ⟨k + 1, _, hlt, by go_num, P3.out, B3⟩
      case measure => simp [intOf]; omega
    · obtain rfl : k = n := by omega
      have t5 : decide ((k : Int) < (k : Int)) = false := by simp
      have PB := Lib.hid (PBytes_any (kind := 5) (id := 1000) hp)
      have hs := hp.1
      clear hp
      go_wp2_with fail
      refine PB.out.mono ?_
      rintro e w2 ⟨g, rfl, hg2, k2, b2⟩
      have B2 := hb.trans (b2.mono hb.size)
      have hlen := pageB_length 5 1000 st hs
      have hsum := pageB_sumOk 5 1000 st hs
      generalize pageB 5 1000 st = pb at *
      have RO := Lib.hid (fun w => Round_any bit 4096 w (by omega) (by omega))
      obtain ⟨K, hK, hK2⟩ : ∃ K : Nat, bit % (4096 : Nat) = (K : Int) ∧ K < 4096 := ⟨(bit % 4096).toNat, by omega, by omega⟩
      rw [hK] at RO
      have KK := Lib.hid k2
      have HL := Lib.hid hlen
      have HS := Lib.hid hsum
      clear hK k2 hs hlen hsum
      go_wp2_with fail
      refine (RO.out _).mono ?_
      rintro e w3 ⟨rfl, rfl⟩
      have hgw : w.heap.size ≤ g := Nat.le_trans hb.size hg2
      have hbl : K / 8 < pb.length := by rw [HL.out]; omega
      obtain ⟨hc1, hfro⟩ := KK.out.cell hbl
      have e0 : IntKind.i64.wrap ((K : Int) / 8) = (K : Int) / 8 := by rw [IntWalk.i64_in _ (by omega)]
      have e2 : ((K : Int) / 8).toNat = K / 8 := by omega
      have e3 : (0 : Int) ≤ (K : Int) / 8 := by omega
      have e4 : (K : Int) / 8 < 512 := by omega
      generalize hj : K % 8 = j
      have hj8 : j < 8 := by omega
      have e5 : (K : Int).tmod 8 = (j : Int) := by rw [Int.tmod_eq_emod_of_nonneg (by omega)]; omega
      have e6 : (K : Int) % 8 = (j : Int) := by omega
      have e7 : IntKind.i64.wrap (j : Int) = (j : Int) := by rw [IntWalk.i64_in _ (by omega)]
      have e8 : (0 : Int) ≤ (j : Int) := by omega
      have HJ := Lib.hid hj
      clear hj
      go_wp2_with fail
      go_still_tail 13, (by kernel_rfl)
      change wpList _ _ _ _ _ w2.drew
      clear e0 e7
      obtain ⟨d, hd1, hd2⟩ := flip_bytes (pb[K / 8]) j hj8
      have HD := Lib.hid hd1
      have hpn := parseR_sum (no_flip HS.out (show K / 8 < 512 by omega) (d := d) (by rw [List.getD_eq_getElem?_getD, List.getElem?_eq_getElem hbl]; exact hd2))
      have PA := ParseP_any (show Blk ((w2.setCell ⟨g, K / 8, none⟩ (.int .u8 (d.toNat : Int))).drew) g (pb.set (K / 8) d) from KK.out.set (K / 8) d) (by rw [List.length_set]; exact HL.out)
      unfold ParseOk at PA
      simp only [hpn] at PA
      replace PA := Lib.hid PA
      have B3 := (B2.setCell (p := ⟨g, K / 8, none⟩) hgw (.int .u8 (d.toNat : Int))).drew
      clear hd1 hpn hd2
      go_wp2_with fail
      rw [HD.out]
      refine PA.out.mono ?_
      rintro e w4 ⟨P, u4, rfl, b4, rfl, hu4⟩
      have B4 := B3.trans (b4.mono B3.size)
      have hg4 := hg.below B4 hg.lt
      have hI : (Er.fault strPage 0 (.num 10)).isB 10 strPage 0 = true := by decide
      have IA := Lib.hid (IsA_any _ 10 strPage 0 _ _ hu4 hg4)
      rw [hI] at IA
      have hu4' := hu4
      obtain ⟨bb, uu, rfl, _⟩ := hu4'
      clear hc1 hfro hu4 hg4 hI PA
      go_wp2_with fail
      refine IA.out.mono ?_
      rintro e w5 ⟨rfl, b5⟩
      have B5 := B4.trans (b5.mono B4.size)
      go_wp2_with fail
      refine (awake11_any _).mono ?_
      rintro e w6 ⟨rfl, b6⟩
      go_wp2_with fail
      go_ret
      exact ⟨rfl, B5.trans (b6.mono B5.size)⟩

set_option maxRecDepth 100000 in
theorem slotsFlips_any (n m bit : Int) (w : World) (hg : ErrT w) : Calls Tryd.prog 3 #[.int .i64 n, .int .i64 m, .int .i64 bit] w fun e w' => e = .returned (.bool true) ∧ Below w.heap.size w w' := by
  by_cases h : 0 ≤ n ∧ n ≤ 20 ∧ 0 ≤ m ∧ m ≤ 20
  · obtain ⟨a, rfl⟩ := Int.eq_ofNat_of_zero_le h.1
    obtain ⟨b, rfl⟩ := Int.eq_ofNat_of_zero_le h.2.2.1
    exact flips_in a b bit w hg (by omega) (by omega)
  · have AW := Lib.hid (awake11_any w)
    have T : (n < 0 ∨ 20 < n) ∨ (m < 0 ∨ 20 < m) := by omega
    by_cases h1 : n < 0
    · have t1 : decide (n < 0) = true := by simp; omega
      go_enter Tryd.func3, Tryd.ntmps3
      go_wp2_with fail
      refine AW.out.mono ?_
      rintro e w6 ⟨rfl, b6⟩
      go_wp2_with fail
      go_ret
      exact ⟨rfl, b6⟩
    · have t1 : decide (n < 0) = false := by simp; omega
      by_cases h2 : 20 < n
      · have t2 : decide (20 < n) = true := by simp; omega
        clear T h
        go_enter Tryd.func3, Tryd.ntmps3
        go_wp2_with fail
        refine AW.out.mono ?_
        rintro e w6 ⟨rfl, b6⟩
        go_wp2_with fail
        go_ret
        exact ⟨rfl, b6⟩
      · have t2 : decide (20 < n) = false := by simp; omega
        by_cases h3 : m < 0
        · have t3 : decide (m < 0) = true := by simp; omega
          clear T h
          go_enter Tryd.func3, Tryd.ntmps3
          go_wp2_with fail
          refine AW.out.mono ?_
          rintro e w6 ⟨rfl, b6⟩
          go_wp2_with fail
          go_ret
          exact ⟨rfl, b6⟩
        · have t3 : decide (m < 0) = false := by simp; omega
          have t4 : decide (20 < m) = true := by simp; omega
          clear T h
          go_enter Tryd.func3, Tryd.ntmps3
          go_wp2_with fail
          refine AW.out.mono ?_
          rintro e w6 ⟨rfl, b6⟩
          go_wp2_with fail
          go_ret
          exact ⟨rfl, b6⟩

set_option maxRecDepth 100000 in
theorem slotsFlips_calls {H : Type} {enc : TypeId × Value → H} {W : World} {base : Nat} {v0 v1 v2 : Value} {d0 d1 d2 : DataW H} {p0 p1 p2 : List MemPlace} (hg : ErrT W)
    (o0 : Value.okWide Tryd.prog W .any base 3 v0) (h0 : DataW.Trod enc Tryd.prog W 0 (fun _ => true) true 3 v0 d0 p0)
    (o1 : Value.okWide Tryd.prog W .any base 3 v1) (h1 : DataW.Trod enc Tryd.prog W 0 (fun _ => true) true 3 v1 d1 p1)
    (o2 : Value.okWide Tryd.prog W .any base 3 v2) (h2 : DataW.Trod enc Tryd.prog W 0 (fun _ => true) true 3 v2 d2 p2) :
    Calls Tryd.prog 3 #[v0, v1, v2] W fun e w' => e = .returned (.bool true) ∧ Below W.heap.size W w' := by
  obtain ⟨n, rfl, rfl, rfl, _⟩ := open_int Tryd.underlying3 o0 h0
  obtain ⟨m, rfl, rfl, rfl, _⟩ := open_int Tryd.underlying3 o1 h1
  obtain ⟨k, rfl, rfl, rfl, _⟩ := open_int Tryd.underlying3 o2 h2
  exact slotsFlips_any n m k W hg
end Go.Proofs.YtdeibgljibcnlaaDoor
