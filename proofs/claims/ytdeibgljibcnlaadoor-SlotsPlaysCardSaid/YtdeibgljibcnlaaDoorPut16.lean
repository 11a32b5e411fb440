/- slots.put16, put32. -/
import Derived.Test.YtdeibgljibcnlaaDoorPageB
namespace Go.Proofs.YtdeibgljibcnlaaDoor
open Go.RowKit

theorem put16_any {w : World} {g : Nat} {l : List UInt8} (h : Blk w g l) (off n c N : Nat) (h1 : off + 2 ≤ l.length) (h2 : 2 ≤ n) :
    Calls Tryd.prog 30 #[.slice (some ⟨g, off, none⟩) n c, .int .i64 N] w fun e w' => e = .returned (.tuple #[]) ∧ Blk w' g (wr2 l off N) ∧ Onl g w w' := by
  obtain ⟨c0, f0⟩ := h.cell (j := off) (by omega)
  have B1 := h.set off (UInt8.ofNat N)
  obtain ⟨c1, f1⟩ := B1.cell (j := off + 1) (by simp; omega)
  have B2 := Lib.hid (B1.set (off + 1) (UInt8.ofNat (N / 256)))
  have BB := Lib.hid (((Onl.refl g w).setCell off (.int .u8 ((UInt8.ofNat N).toNat : Int))).setCell (off + 1) (.int .u8 ((UInt8.ofNat (N / 256)).toNat : Int)))
  have e1 := byte_of N
  have e2 : ((N : Int) / 256) % 256 = ((UInt8.ofNat (N / 256)).toNat : Int) := by rw [← byte_of (N / 256)]; omega
  generalize (UInt8.ofNat N).toNat = x1 at *
  generalize (UInt8.ofNat (N / 256)).toNat = x2 at *
  generalize l[off] = y1 at *
  generalize (l.set off (UInt8.ofNat N))[off + 1]'(by simp; omega) = y2 at *
  clear h B1
  go_enter Tryd.func30, Tryd.ntmps30
  go_wp2_with fail
  go_end0
  exact ⟨rfl, B2.out, BB.out⟩
theorem put32_any {w : World} {g : Nat} {l : List UInt8} (h : Blk w g l) (off n c N : Nat) (h1 : off + 4 ≤ l.length) (h2 : 4 ≤ n) (h3 : n ≤ c) :
    Calls Tryd.prog 29 #[.slice (some ⟨g, off, none⟩) n c, .int .i64 N] w fun e w' => e = .returned (.tuple #[]) ∧ Blk w' g (wr4 l off N) ∧ Onl g w w' := by
  have P1 := Lib.hid (put16_any h off n c N (by omega) (by omega))
  have P2 := Lib.hid (fun (w' : World) (h' : Blk w' g (wr2 l off N)) => put16_any h' (off + 2) (n - 2) (c - 2) (N / 65536) (by rw [wr2_length]; omega) (by omega))
  obtain ⟨Q, hQ⟩ : ∃ Q : Nat, Q = N / 65536 := ⟨_, rfl⟩
  have e1 : ((N : Int) / 65536) = (Q : Int) := by omega
  rw [← hQ] at P2
  have HQ := Lib.hid hQ
  clear hQ
  have e2 : ((c == 2) = false) := by simp; omega
  have e3 : ¬ c = 2 := by omega
  have i1 : (2 : Int) ≤ (n : Int) := by omega
  clear h
  go_enter Tryd.func29, Tryd.ntmps29
  go_wp2_with fail
  refine P1.out.mono ?_
  rintro e w1 ⟨rfl, k1, b1⟩
  have P3 := Lib.hid (P2.out _ k1)
  clear P2 k1
  go_wp2_with fail
  refine P3.out.mono ?_
  rintro e w2 ⟨rfl, k2, b2⟩
  have K2 := Lib.hid k2
  clear k2
  go_wp2_with fail
  go_end0
  refine ⟨rfl, ?_, b1.trans b2 b1.size⟩
  have := K2.out
  rw [HQ.out] at this
  exact this
end Go.Proofs.YtdeibgljibcnlaaDoor
