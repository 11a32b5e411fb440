/- pergolaalike.Block. -/
import Derived.Test.YtdeibgljibcnlaaDoorSlot2
import Derived.Test.YtdeibgljibcnlaaDoorRound
import Derived.Deep.OwnRows
namespace Go.Proofs.YtdeibgljibcnlaaDoor
open Go.RowKit

theorem bytesV_set (l : List UInt8) (j : Nat) (d : UInt8) : bytesV (l.set j d) = (bytesV l).set j (.int .u8 (d.toNat : Int)) := by simp [bytesV, List.map_set]
theorem Own.stored {w : World} {base g cap : Nat} {l : List UInt8} {d : UInt8} (h : Own w base (.slice (some ⟨g, 0, none⟩) l.length cap) l) (j : Nat) : Own (w.setCell ⟨g, j, none⟩ (.int .u8 (d.toNat : Int))) base (.slice (some ⟨g, 0, none⟩) l.length cap) (l.set j d) := by
  have := (World.ownsRow.stored h j (.int .u8 (d.toNat : Int))).1
  unfold Own
  rw [List.length_set, bytesV_set]
  exact this

/-- The call hands back so many bytes of its own. -/
def SomeBytes (w : World) (n : Nat) (e : Ending) (w' : World) : Prop := ∃ v l, e = .returned v ∧ l.length = n ∧ Own w' w.heap.size v l ∧ Below w.heap.size w w'

set_option maxHeartbeats 1000000 in
theorem Block_any (n : Nat) (seed : Int) (w : World) (hn : n ≤ 1000) (h0 : 0 ≤ seed) (h1 : seed ≤ 1000) :
    Calls Tryd.prog 8 #[.int .i64 n, .int .i64 seed] w (SomeBytes w n) := by
  have hmk := run_make_row' (P := Tryd.prog) 30 5 (.int .u8 0) 1 Tryd.underlying30 info_u8 rfl .i64 .i64 n (by omega) (by omega)
  have hz : (List.replicate n (Value.int .u8 0)) = bytesV (List.replicate n 0) := by simp [bytesV]
  have OW := Lib.hid (show Own (w.alloc (.cells (madeCells #[.int .u8 0] n) 5)) w.heap.size (.slice (some ⟨w.heap.size, 0, none⟩) n n) (List.replicate n 0) from by
    have h := World.ownsRow_lit (base := w.heap.size) (e := 5) (size := 1) w (madeCells #[.int .u8 0] n) n (Nat.le_refl _) (by unfold maxLen; omega) (by simp [size_madeCells])
    rw [toList_madeCells_one, hz] at h
    unfold Own
    rw [List.length_replicate]
    exact h)
  have m0 : max (n : Int) 0 = (n : Int) := by omega
  clear hz
  go_enter Tryd.func8, Tryd.ntmps8
  go_wp2_with fail
  go_loopw [6] (fun i wr => ∃ (k : Nat) (l : List UInt8), k ≤ n ∧ l.length = n ∧ i = .int .i64 k ∧ Own wr w.heap.size (.slice (some ⟨w.heap.size, 0, none⟩) n n) l ∧ Below w.heap.size w wr) (fun i _ => n - (intOf i).toNat)
  case atStart => exact ⟨0, List.replicate n 0, Nat.zero_le _, by simp, rfl, OW.out, (Below.refl _ _).alloc (Nat.le_refl _) _⟩
  case round =>
    obtain ⟨k, l, hk, hl, rfl, ho, hb⟩ := hrel
    by_cases hlt : k < n
    · have t1 : decide ((k : Int) < (n : Int)) = true := by simp; omega
      have hkk : (k : Int) * (k : Int) ≤ 1000000 ∧ 0 ≤ (k : Int) * (k : Int) := by
        refine ⟨?_, Int.mul_nonneg (by omega) (by omega)⟩
        have := Int.mul_le_mul (show (k : Int) ≤ 1000 by omega) (show (k : Int) ≤ 1000 by omega) (by omega) (by omega)
        omega
      generalize hK : (k : Int) * (k : Int) = kk at *
      have HK := Lib.hid hK
      have e1 : (k : Int) * (k : Int) = kk := hK
      have RN := Lib.hid (Round_any (kk + seed * 7 + 1) 251 wr (by omega) (by omega))
      have q0 := Int.emod_nonneg (kk + seed * 7 + 1) (show (251 : Int) ≠ 0 by omega)
      have q1 := Int.emod_lt_of_pos (kk + seed * 7 + 1) (show (0 : Int) < 251 by omega)
      generalize hx : (kk + seed * 7 + 1) % 251 = x at *
      obtain ⟨d, hd⟩ : ∃ d : UInt8, x = (d.toNat : Int) := ⟨UInt8.ofNat x.toNat, by simp; omega⟩
      have i0 : (0 : Int) ≤ (k : Int) := by omega
      have i1 : (k : Int) < (n : Int) := by omega
      have hown := ho
      rw [← hl] at hown
      have hc0 := World.ownsRow.cellAt hown k (by omega)
      rw [List.getElem?_eq_getElem (by rw [bytesV_length]; omega)] at hc0
      generalize (bytesV l)[k]'(by rw [bytesV_length]; omega) = old at hc0
      have hf0 := World.ownsRow.frozenAt hown k
      have hst := Own.stored (d := d) hown k
      have hlen : (l.set k d).length = n := by simp [hl]
      rw [hl, ← hd] at hst
      have HST := Lib.hid hst
      have B1 := Lib.hid (hb.setCell (p := ⟨w.heap.size, k, none⟩) (Nat.le_refl _) (.int .u8 x))
      clear hst hown ho hx hd hK
      go_wp2_with fail
      refine RN.out.mono ?_
      rintro e w1 ⟨rfl, rfl⟩
      go_wp2_with fail
      go_roundw
      case rel => exact ⟨k + 1, l.set k d, hlt, hlen, by go_num, HST.out, B1.out⟩
      case measure => simp [intOf]; omega
    · obtain rfl : k = n := by omega
      have t1 : decide ((k : Int) < (k : Int)) = false := by simp
      have HO := Lib.hid ho
      clear ho
      go_wp2_with fail
      go_ret
      exact ⟨_, l, rfl, hl, HO.out, hb⟩
end Go.Proofs.YtdeibgljibcnlaaDoor
