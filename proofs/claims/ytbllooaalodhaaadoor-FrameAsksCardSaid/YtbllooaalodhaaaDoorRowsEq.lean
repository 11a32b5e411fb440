/- pergolaalike.Rows: are two rows of rows of bytes alike? -/
import Derived.Test.YtbllooaalodhaaaDoorRws
namespace Go.Proofs.YtbllooaalodhaaaDoor
open Go.RowKit

set_option maxRecDepth 100000 in
theorem Rows_any (va vb : Value) (a b : List (List UInt8)) (w : World) (ha : Rws w va a) (hb : Rws w vb b) :
    Calls Tryd.prog 14 #[va, vb] w fun e w' => e = .returned (.bool (decide (a = b))) ∧ Below w.heap.size w w' := by
  obtain ⟨us, hul, ⟨ao, ca, rfl, ha1, ha2, ha0, ha3⟩, ha4⟩ := ha
  obtain ⟨vs, hvl, ⟨bo, cb, rfl, hb1, hb2, hb0, hb3⟩, hb4⟩ := hb
  unfold maxLen at ha2 hb2
  by_cases hl : a.length = b.length
  · have t : ((a.length : Int) != (b.length : Int)) = false := by simp; omega
    have HL := Lib.hid hl
    have hle : a.length ≤ b.length := by omega
    clear hl
    go_enter Tryd.func14, Tryd.ntmps14
    go_wp2
    go_loopw [5] (fun i wr => ∃ k : Nat, k ≤ a.length ∧ i = .int .i64 k ∧ Below w.heap.size w wr ∧ Hid (a.take k = b.take k)) (fun i _ => a.length - (intOf i).toNat)
    case atStart => exact ⟨0, Nat.zero_le _, rfl, Below.refl _ _, rfl⟩
    case round =>
      obtain ⟨k, hk, rfl, hbel, ht⟩ := hrel
      by_cases hlt : k < a.length
      · have hltb : k < b.length := by omega
        obtain ⟨ba, oa, rfl, hba, hca⟩ := ha3 k (by omega)
        obtain ⟨bb, ob, rfl, hbb, hcb⟩ := hb3 k (by omega)
        have ea := (hbel.cell (p := ⟨ba, oa + k, none⟩) hba).trans hca
        have eb := (hbel.cell (p := ⟨bb, ob + k, none⟩) hbb).trans hcb
        have ra := (ha4 k (by omega) hlt).below hbel
        have rb := (hb4 k (by omega) hltb).below hbel
        generalize hua : us[k] = ua at *
        generalize hvb : vs[k] = vb at *
        have i0 : (0 : Int) ≤ (k : Int) := by omega
        have i1 : (k : Int) < (a.length : Int) := by omega
        have i2 : (k : Int) < (b.length : Int) := by omega
        have call : ∀ m, Calls Tryd.prog 18 #[ua, vb] (wr.drewN m) fun e w'' => e = .returned (.bool (decide (a[k] = b[k]))) ∧ ∃ n, w'' = wr.drewN n := fun m => by
          exact Calls.quiet_of (Bytes_any ua vb a[k] b[k] (wr.drewN m) ra rb)
        have hbn : ∀ m, Below w.heap.size w (wr.drewN m) := fun m => below_drewN hbel m
        clear ha3 hb3 hca hcb ha4 hb4 hua hvb ra rb
        by_cases hab : a[k] = b[k]
        · have ht' : Hid (a.take (k + 1) = b.take (k + 1)) := take_eq_snoc hlt hltb ht.out hab
          rw [show decide (a[k] = b[k]) = true from by simpa using hab] at call
          have C := Lib.hid call
          clear call ht hab
          go_wp2
          go_quiet ((exact C.out _))
          go_wp2
          go_roundw
          case rel => exact ⟨k + 1, by omega, by go_num, hbn _, ht'⟩
          case measure => simp [intOf]; omega
        · have hne : decide (a = b) = false := by
            simp; intro h; subst h; exact hab rfl
          rw [show decide (a[k] = b[k]) = false from by simpa using hab] at call
          have C := Lib.hid call
          have HN := Lib.hid hne
          clear call ht hab hne
          go_wp2
          go_quiet ((exact C.out _))
          go_wp2
          go_ret
          exact ⟨by rw [HN.out]; rfl, hbn _⟩
      · have heq : decide (a = b) = true := by
          have := ht.out
          rw [List.take_of_length_le (by omega), List.take_of_length_le (by have := HL.out; omega)] at this
          simp [this]
        have HE := Lib.hid heq
        clear heq ht ha3 hb3 ha4 hb4
        go_wp2
        go_ret
        exact ⟨by rw [HE.out]; rfl, hbel⟩
  · have t : ((a.length : Int) != (b.length : Int)) = true := by simp; omega
    have hne : decide (a = b) = false := by simp; intro h; exact hl (by rw [h])
    have HN := Lib.hid hne
    clear hl hne ha3 hb3 ha4 hb4
    go_enter Tryd.func14, Tryd.ntmps14
    go_wp2
    go_ret
    exact ⟨by rw [HN.out]; rfl, Below.refl _ _⟩
end Go.Proofs.YtbllooaalodhaaaDoor
