/- slices.Equal of bytes. -/
import Derived.Test.YtdeibgljibcnlaaDoorAlikeB
namespace Go.Proofs.YtdeibgljibcnlaaDoor
open Go.RowKit

theorem Equal_any (va vb : Value) (a b : List UInt8) (w : World) (ha : Byt w va a) (hb : Byt w vb b) :
    Calls Tryd.prog 51 #[va, vb] w fun e w' => e = .returned (.bool (decide (a = b))) ∧ ∃ n, w' = w.drewN n := by
  obtain ⟨aa, ca, rfl, ha1, ha2, ha0, ha3⟩ := ha.open
  obtain ⟨ab, cb, rfl, hb1, hb2, hb0, hb3⟩ := hb.open
  unfold maxLen at ha2 hb2
  by_cases hl : a.length = b.length
  · have t : ((a.length : Int) != (b.length : Int)) = false := by simp; omega
    have HL := Lib.hid hl
    have hle : a.length ≤ b.length := by omega
    clear hl
    go_enter Tryd.func51, Tryd.ntmps51
    go_wp2
    go_loopw [13] (fun i wr => ∃ k n : Nat, k ≤ a.length ∧ i = .int .i64 k ∧ Hid (wr = w.drewN n) ∧ Hid (a.take k = b.take k)) (fun i _ => a.length - (intOf i).toNat)
    case atStart => exact ⟨0, 0, Nat.zero_le _, rfl, rfl, rfl⟩
    case round =>
      obtain ⟨k, n, hk, rfl, hw, ht⟩ := hrel
      by_cases hlt : k < a.length
      · obtain ⟨ba, oa, rfl, hba, hca⟩ := ha3 k hlt
        obtain ⟨bb, ob, rfl, hbb, hcb⟩ := hb3 k (by omega)
        have ea : wr.cell? ⟨ba, oa + k, none⟩ = some (.int .u8 (a[k].toNat : Int)) := by rw [hw.out]; exact hca
        have eb : wr.cell? ⟨bb, ob + k, none⟩ = some (.int .u8 (b[k].toNat : Int)) := by rw [hw.out]; exact hcb
        have hwn : ∀ m, Hid (wr.drewN m = w.drewN (n + m)) := fun m => by rw [hw.out]; exact World.drewN_drewN ..
        clear ha3 hb3 hca hcb hw
        have i0 : (0 : Int) ≤ (k : Int) := by omega
        have i1 : (k : Int) < (a.length : Int) := by omega
        have i2 : (k : Int) < (b.length : Int) := by omega
        by_cases hab : a[k] = b[k]
        · have tt : ((a[k].toNat : Int) != (b[k].toNat : Int)) = false := by rw [hab]; simp
          have ht' : Hid (a.take (k + 1) = b.take (k + 1)) := take_eq_snoc hlt (by omega) ht.out hab
          clear ht hab
          go_wp2
          go_quiet (fail)
          go_wp2
          go_roundw
          case rel => exact ⟨k + 1, _, by omega, by go_num, hwn _, ht'⟩
          case measure => simp [intOf]; omega
        · have tt : ((a[k].toNat : Int) != (b[k].toNat : Int)) = true := by
            simp; intro h; exact hab (UInt8.toNat_inj.1 (by omega))
          have hne : decide (a = b) = false := by
            simp; intro h; subst h; exact hab rfl
          have HN := Lib.hid hne
          clear ht hab hne
          go_wp2
          go_quiet (fail)
          go_wp2
          go_ret
          exact ⟨by rw [HN.out]; rfl, _, (hwn _).out⟩
      · have heq : decide (a = b) = true := by
          have := ht.out
          rw [List.take_of_length_le (by omega), List.take_of_length_le (by have := HL.out; omega)] at this
          simp [this]
        have HE := Lib.hid heq
        clear heq ht
        go_wp2
        go_ret
        exact ⟨by rw [HE.out]; rfl, _, hw.out⟩
  · have t : ((a.length : Int) != (b.length : Int)) = true := by simp; omega
    have hne : decide (a = b) = false := by simp; intro h; exact hl (by rw [h])
    have HN := Lib.hid hne
    clear hl hne
    go_enter Tryd.func51, Tryd.ntmps51
    go_wp2
    go_ret
    exact ⟨by rw [HN.out]; rfl, 0, rfl⟩

end Go.Proofs.YtdeibgljibcnlaaDoor
