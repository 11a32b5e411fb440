/- Plain facts on frames. -/
import Derived.Test.YtbllooaalodhaaaDoorNext
namespace Go.Proofs.YtbllooaalodhaaaDoor
open Go.RowKit

theorem le32_length (x : BitVec 32) : (le32 x).length = 4 := rfl
theorem get32_le32 (x : BitVec 32) (r : List UInt8) : get32 (le32 x ++ r) = x.toNat := by
  have hx := x.isLt
  simp only [get32, le32, List.cons_append, List.getD_cons_zero, List.getD_cons_succ, UInt8.toNat_ofNat']
  omega
theorem frameOf_length (p : List UInt8) : (frameOf p).length = p.length + 8 := by
  unfold frameOf; simp only [List.length_append, le32_length]; omega

/-- A frame that bytes begin with is read. -/
theorem nextOf_frameOf (p r : List UInt8) (hp : p.length ≤ 65536) : nextOf (frameOf p ++ r) = (0, p, p.length + 8) := by
  have hl : (frameOf p ++ r).length = p.length + 8 + r.length := by rw [List.length_append, frameOf_length]
  have hx : (BitVec.ofNat 32 p.length).toNat = p.length := by rw [BitVec.toNat_ofNat]; omega
  generalize hB : le32 (BitVec.ofNat 32 p.length) = h
  have hh : h.length = 4 := by rw [← hB]; rfl
  generalize hC : le32 (crcSum (h ++ p)) = t
  have ht : t.length = 4 := by rw [← hC]; rfl
  have hf : frameOf p = h ++ p ++ t := by unfold frameOf; rw [hB, hC]
  have hg : get32 (frameOf p ++ r) = p.length := by
    rw [hf, ← hB, List.append_assoc, List.append_assoc, get32_le32, hx]
  have h1 : (frameOf p ++ r).take (p.length + 4) = h ++ p := by
    rw [hf, List.append_assoc, List.take_append_of_le_length (by simp; omega), List.take_of_length_le (by simp; omega)]
  have h2 : (frameOf p ++ r).drop (p.length + 4) = t ++ r := by
    rw [hf, List.append_assoc, List.drop_append_of_le_length (by simp; omega), List.drop_of_length_le (by simp; omega), List.nil_append]
  have h3 : ((frameOf p ++ r).drop 4).take p.length = p := by
    rw [hf, List.append_assoc, List.append_assoc, List.drop_append_of_le_length (by omega), List.drop_of_length_le (by omega), List.nil_append, List.take_append_of_le_length (Nat.le_refl _), List.take_of_length_le (Nat.le_refl _)]
  unfold nextOf
  rw [hg, if_neg (by omega), if_neg (by omega), if_neg (by omega), h1, h2, h3, ← hC, get32_le32, if_neg (by simp)]
end Go.Proofs.YtbllooaalodhaaaDoor
