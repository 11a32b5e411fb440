/- FrameFlips answers true, whatever it is given. -/
import Derived.Test.YtbllooaalodhaaaDoorFlip
import Derived.Test.YtbllooaalodhaaaDoorIsA
import Derived.Test.YtbllooaalodhaaaDoorAwake9
import Derived.Test.YtbllooaalodhaaaDoorAlike
import Derived.Test.YtbllooaalodhaaaDoorView
import Derived.StillTailTactics
namespace Go.Proofs.YtbllooaalodhaaaDoor
open Go.RowKit Go.ChangeShapes

theorem Own.form {w : World} {base : Nat} {v : Value} {l : List UInt8} (h : Own w base v l) (hn : 0 < l.length) : ∃ g cap, v = .slice (some ⟨g, 0, none⟩) l.length cap ∧ base ≤ g ∧ g < w.heap.size := by
  rcases h.2 with ⟨_, h0⟩ | ⟨g, cap, cur, hv, hb, hg, _⟩
  · omega
  · exact ⟨g, cap, hv, hb, (Array.getElem?_eq_some_iff.1 hg).1⟩

theorem flip_byte (c : UInt8) (j : Nat) (hj : j < 8) : ∃ d : UInt8, bits .xor .u8 (c.toNat : Int) (2 ^ j % 256) = (d.toNat : Int) ∧ d ≠ c := by
  have hm : ∃ m : UInt8, ((2 : Int) ^ j % 256) = (m.toNat : Int) ∧ m ≠ 0 := by
    match j, hj with
    | 0, _ => exact ⟨1, rfl, by decide⟩
    | 1, _ => exact ⟨2, rfl, by decide⟩
    | 2, _ => exact ⟨4, rfl, by decide⟩
    | 3, _ => exact ⟨8, rfl, by decide⟩
    | 4, _ => exact ⟨16, rfl, by decide⟩
    | 5, _ => exact ⟨32, rfl, by decide⟩
    | 6, _ => exact ⟨64, rfl, by decide⟩
    | 7, _ => exact ⟨128, rfl, by decide⟩
  obtain ⟨m, hm1, hm2⟩ := hm
  refine ⟨c ^^^ m, by rw [hm1, xor_u8], fun h => hm2 ?_⟩
  have := congrArg (fun x => c ^^^ x) h
  simpa [← UInt8.xor_assoc] using this

theorem Own.stored {w : World} {base g cap : Nat} {l : List UInt8} {d : UInt8} (h : Own w base (.slice (some ⟨g, 0, none⟩) l.length cap) l) (j : Nat) : Own (w.setCell ⟨g, j, none⟩ (.int .u8 (d.toNat : Int))) base (.slice (some ⟨g, 0, none⟩) l.length cap) (l.set j d) := by
  have := (World.ownsRow.stored h j (.int .u8 (d.toNat : Int))).1
  unfold Own
  rw [List.length_set]
  simpa [bytesV, List.map_set] using this

theorem flips_out (v : Value) (p : List UInt8) (bit : Int) (w : World) (hv : Byt w v p) (h : 3000 < p.length ∨ p.length = 0) :
    Calls Tryd.prog 3 #[v, .int .i64 bit] w fun e w' => e = .returned (.bool true) ∧ Below w.heap.size w w' := by
  obtain ⟨ao, c, rfl, h1, h2, h0, h3⟩ := hv.open
  clear h3
  by_cases t1 : 3000 < p.length
  · have t1' : decide ((3000 : Int) < (p.length : Int)) = true := by simp; omega
    clear h
    go_enter Tryd.func3, Tryd.ntmps3
    go_wp2_with (go_at_call 7; refine (awake_any _).mono ?_; rintro e w' ⟨rfl, hb5⟩)
    go_ret
    exact ⟨rfl, hb5⟩
  · have t1' : decide ((3000 : Int) < (p.length : Int)) = false := by simp; omega
    have t2' : ((p.length : Int) == 0) = true := by
      have : (p.length : Int) = 0 := by omega
      rw [this]; rfl
    clear h
    go_enter Tryd.func3, Tryd.ntmps3
    go_wp2_with (go_at_call 7; refine (awake_any _).mono ?_; rintro e w' ⟨rfl, hb5⟩)
    go_ret
    exact ⟨rfl, hb5⟩

set_option maxRecDepth 100000 in
theorem flips_in (v : Value) (p : List UInt8) (bit : Int) (w : World) (hv : Byt w v p) (hg : ErrT w) (hp : p.length ≤ 3000) (hp0 : 0 < p.length) :
    Calls Tryd.prog 3 #[v, .int .i64 bit] w fun e w' => e = .returned (.bool true) ∧ Below w.heap.size w w' := by
  obtain ⟨ao, c, rfl, h1, h2, h0, h3⟩ := hv.open
  clear h3
  have t1' : decide ((3000 : Int) < (p.length : Int)) = false := by simp; omega
  have t2' : ((p.length : Int) == 0) = false := by
    rw [beq_eq_false_iff_ne]; omega
  go_enter Tryd.func3, Tryd.ntmps3
  go_wp2_with fail
  refine (Put_ok _ p _ hv (by omega)).mono ?_
  rintro e w1 ⟨v1, rfl, ho1, hb1⟩
  obtain ⟨g, cap, rfl, hgb, hgl⟩ := Own.form ho1 (by rw [frameOf_length]; omega)
  have hlen : (frameOf p).length = p.length + 8 := frameOf_length p
  have t3 : ((((frameOf p).length : Nat) : Int) != (p.length : Int) + 8) = false := by rw [hlen]; simp
  have HL := Lib.hid hlen
  clear hlen
  go_wp2_with (go_at_call 9; refine (Round_at _ _ (8 * p.length) _ (by omega) (by omega) (by simp)).mono ?_; rintro e w' ⟨K, rfl, hK, rfl⟩)
  have hi : K / 8 < p.length := by omega
  have hcell := World.ownsRow.cellAt ho1 (4 + K / 8) (by rw [HL.out]; omega)
  have hfro := World.ownsRow.frozenAt ho1 (4 + K / 8)
  have hbl : 4 + K / 8 < (frameOf p).length := by rw [HL.out]; omega
  have hc1 : w1.cell? ⟨g, 4 + K / 8, none⟩ = some (.int .u8 ((frameOf p)[4 + K / 8].toNat : Int)) := by
    rw [hcell]; simp [bytesV, hbl]
  clear hcell
  have e1 : IntKind.i64.wrap (4 + (K : Int) / 8) = 4 + (K : Int) / 8 := by rw [IntWalk.i64_in _ (by omega)]
  have e0 : IntKind.i64.wrap ((K : Int) / 8) = (K : Int) / 8 := by rw [IntWalk.i64_in _ (by omega)]
  have e2 : (4 + (K : Int) / 8).toNat = 4 + K / 8 := by omega
  have e3 : (0 : Int) ≤ 4 + (K : Int) / 8 := by omega
  have e4 : (4 + (K : Int) / 8) < ((frameOf p).length : Int) := by omega
  generalize hj : K % 8 = j
  have hj8 : j < 8 := by omega
  have e5 : (K : Int).tmod 8 = (j : Int) := by rw [Int.tmod_eq_emod_of_nonneg (by omega)]; omega
  have e6 : (K : Int) % 8 = (j : Int) := by omega
  have e7 : IntKind.i64.wrap (j : Int) = (j : Int) := by rw [IntWalk.i64_in _ (by omega)]
  have e8 : (0 : Int) ≤ (j : Int) := by omega
  have HJ := Lib.hid hj
  clear hj
  go_still_tail 15, (by kernel_rfl)
  change wpList _ _ _ _ _ w1.drew
  clear e0 e1 e7
  obtain ⟨d, hd1, hd2⟩ := flip_byte (frameOf p)[4 + K / 8] j hj8
  have hfl : (frameOf p)[4 + K / 8] = p[K / 8] := by
    simp only [frameOf, List.append_assoc]
    rw [List.getElem_append_right (by rw [le32_length]; omega), List.getElem_append_left (by rw [le32_length]; omega)]
    congr 1
    rw [le32_length]; omega
  have hst := Own.stored (d := d) ho1 (4 + K / 8)
  have hnx := nextOf_flip p [] (by omega) (K / 8) hi d (by rw [← hfl]; exact hd2)
  rw [List.append_nil] at hnx
  have hbs : Below w.heap.size w (w1.setCell ⟨g, 4 + K / 8, none⟩ (.int .u8 (d.toNat : Int))).drew := (hb1.setCell hgb _).drew
  have HD := Lib.hid hd1
  clear hd1 hfl
  go_wp2_with fail
  rw [HD.out]
  clear hc1 hfro
  refine (Next_any _ _ _ (Rd.drew hst.byt) (by rw [List.length_set, HL.out]; omega)).mono ?_
  rw [hnx]
  rintro e w2 ⟨v2, u2, rfl, ho2, he2, hb2⟩
  have he3 : Er.Is w2 (Er.fault frameStr 0 (.num 10)) u2 := he2
  have hb3 := hbs.trans (hb2.mono hbs.size)
  have hg2 := hg.below hb3 hg.lt
  obtain ⟨ao2, c2, rfl, q1, q2, q0, q3⟩ := ho2.byt.open
  clear q3 hnx
  have hI : (Er.fault frameStr 0 (.num 10)).isB 10 frameStr 0 = true := by decide
  go_wp2_with (first
    | (go_at_call 11; refine (IsA_any _ 10 frameStr 0 _ _ he3 hg2).mono ?_; rw [hI]; rintro e w3 ⟨rfl, hb4⟩)
    | (go_at_call 7; refine (awake_any _).mono ?_; rintro e w' ⟨rfl, hb5⟩))
  go_ret
  exact ⟨rfl, (hb3.trans (hb4.mono hb3.size)).trans (hb5.mono (Nat.le_trans hb3.size hb4.size))⟩

set_option maxRecDepth 100000 in
theorem frameFlips_calls {H : Type} {enc : TypeId × Value → H} {W : World} {base : Nat} {v0 v1 : Value} {d0 d1 : DataW H} {p0 p1 : List MemPlace} (hg : ErrT W)
    (o0 : Value.okWide Tryd.prog W .any base 22 v0) (h0 : DataW.Trod enc Tryd.prog W 0 (fun _ => true) true 22 v0 d0 p0)
    (o1 : Value.okWide Tryd.prog W .any base 3 v1) (h1 : DataW.Trod enc Tryd.prog W 0 (fun _ => true) true 3 v1 d1 p1) :
    Calls Tryd.prog 3 #[v0, v1] W fun e w' => e = .returned (.bool true) ∧ Below W.heap.size W w' := by
  obtain ⟨p, hp⟩ := view_bytes o0 h0
  obtain ⟨n, rfl, rfl, rfl, hw⟩ := open_int Tryd.underlying3 o1 h1
  by_cases h : 3000 < p.length ∨ p.length = 0
  · exact flips_out _ p n W hp h
  · exact flips_in _ p n W hp hg (by omega) (by omega)
end Go.Proofs.YtbllooaalodhaaaDoor
