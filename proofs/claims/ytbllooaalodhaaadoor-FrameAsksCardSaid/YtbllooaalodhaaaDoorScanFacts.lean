/- Rows of frames, in plain Lean. -/
import Derived.Test.YtbllooaalodhaaaDoorFrameFacts
namespace Go.Proofs.YtbllooaalodhaaaDoor
open Go.RowKit

def scanF : Nat → List UInt8 → List (List UInt8) × Nat × Int
  | 0, _ => ([], 0, 0)
  | f + 1, l => if l.length = 0 then ([], 0, 0) else
      if (nextOf l).1 = 0 then ((nextOf l).2.1 :: (scanF f (l.drop (nextOf l).2.2)).1, (nextOf l).2.2 + (scanF f (l.drop (nextOf l).2.2)).2.1, (scanF f (l.drop (nextOf l).2.2)).2.2)
      else ([], 0, (nextOf l).1)
/-- the frames that stand one behind the other; how far they go; why they end there -/
def scanOf (l : List UInt8) : List (List UInt8) × Nat × Int := scanF l.length l

theorem nextOf_le {l : List UInt8} (h : (nextOf l).1 = 0) : 8 ≤ (nextOf l).2.2 ∧ (nextOf l).2.2 ≤ l.length ∧ (nextOf l).2.1.length ≤ l.length := by
  unfold nextOf at h ⊢
  split
  · rename_i h1; rw [if_pos h1] at h; simp at h
  · rename_i h1; rw [if_neg h1] at h
    split
    · rename_i h2; rw [if_pos h2] at h; simp at h
    · rename_i h2; rw [if_neg h2] at h
      split
      · rename_i h3; rw [if_pos h3] at h; simp at h
      · rename_i h3; rw [if_neg h3] at h
        split
        · rename_i h4; rw [if_pos h4] at h; simp at h
        · refine ⟨by simp, by simp; omega, ?_⟩
          simp only [List.length_take, List.length_drop]; omega
theorem nextOf_code (l : List UInt8) : (nextOf l).1 = 0 ∨ (nextOf l).1 = 10 ∨ (nextOf l).1 = 15 := by
  unfold nextOf
  repeat (first | split | simp)

theorem scanF_fuel : ∀ (f g : Nat) (l : List UInt8), l.length ≤ f → l.length ≤ g → scanF f l = scanF g l
  | 0, 0, _, _, _ => rfl
  | 0, g + 1, l, h, _ => by simp [scanF, show l.length = 0 by omega]
  | f + 1, 0, l, _, h => by simp [scanF, show l.length = 0 by omega]
  | f + 1, g + 1, l, hf, hg => by
    simp only [scanF]
    by_cases h0 : l.length = 0
    · rw [if_pos h0, if_pos h0]
    · rw [if_neg h0, if_neg h0]
      by_cases h1 : (nextOf l).1 = 0
      · rw [if_pos h1, if_pos h1]
        have := nextOf_le h1
        rw [scanF_fuel f g (l.drop (nextOf l).2.2) (by rw [List.length_drop]; omega) (by rw [List.length_drop]; omega)]
      · rw [if_neg h1, if_neg h1]
theorem scanOf_nil : scanOf [] = ([], 0, 0) := rfl
theorem scanOf_ok {l : List UInt8} (h0 : 0 < l.length) (h : (nextOf l).1 = 0) :
    scanOf l = ((nextOf l).2.1 :: (scanOf (l.drop (nextOf l).2.2)).1, (nextOf l).2.2 + (scanOf (l.drop (nextOf l).2.2)).2.1, (scanOf (l.drop (nextOf l).2.2)).2.2) := by
  have hle := nextOf_le h
  have e : scanF (l.length - 1) (l.drop (nextOf l).2.2) = scanOf (l.drop (nextOf l).2.2) := scanF_fuel _ _ _ (by rw [List.length_drop]; omega) (Nat.le_refl _)
  unfold scanOf at e ⊢
  obtain ⟨m, hm⟩ : ∃ m, l.length = m + 1 := ⟨l.length - 1, by omega⟩
  rw [hm] at e ⊢
  simp only [Nat.add_sub_cancel] at e
  rw [scanF, if_neg (by omega), if_pos h, e]
theorem scanOf_bad {l : List UInt8} (h0 : 0 < l.length) (h : (nextOf l).1 ≠ 0) : scanOf l = ([], 0, (nextOf l).1) := by
  unfold scanOf
  obtain ⟨m, hm⟩ : ∃ m, l.length = m + 1 := ⟨l.length - 1, by omega⟩
  rw [hm, scanF, if_neg (by omega), if_neg h]

/-- many frames, one behind the other -/
def framesOf : List (List UInt8) → List UInt8
  | [] => []
  | p :: ps => frameOf p ++ framesOf ps
/-- where the n-th ends -/
def endOf : List (List UInt8) → Nat → Nat
  | _, 0 => 0
  | [], _ + 1 => 0
  | p :: ps, n + 1 => p.length + 8 + endOf ps n
theorem framesOf_length : ∀ ls : List (List UInt8), (framesOf ls).length = endOf ls ls.length
  | [] => rfl
  | p :: ps => by rw [framesOf, List.length_append, frameOf_length, framesOf_length ps]; rfl

/-- A frame that is cut off is torn. -/
theorem nextOf_cut (p r : List UInt8) (hp : p.length ≤ 65536) (k : Nat) (hk : k < p.length + 8) : nextOf ((frameOf p ++ r).take k) = (15, [], 0) := by
  have hl : ((frameOf p ++ r).take k).length = k := by rw [List.length_take, List.length_append, frameOf_length]; omega
  unfold nextOf
  rw [hl]
  by_cases h4 : k < 4
  · rw [if_pos h4]
  · have hx : (BitVec.ofNat 32 p.length).toNat = p.length := by rw [BitVec.toNat_ofNat]; omega
    have hg : get32 ((frameOf p ++ r).take k) = p.length := by
      have e : (frameOf p ++ r).take k = le32 (BitVec.ofNat 32 p.length) ++ ((p ++ le32 (crcSum (le32 (BitVec.ofNat 32 p.length) ++ p)) ++ r).take (k - 4)) := by
        simp only [frameOf, List.append_assoc]
        rw [List.take_append, List.take_of_length_le (by rw [le32_length]; omega), le32_length]
      rw [e, get32_le32, hx]
    rw [if_neg h4, hg, if_neg (by omega), if_pos hk]

/-- A row of frames that is cut off at 'cut': the n whole ones are told; the rest is torn. -/
theorem scan_torn : ∀ (ls : List (List UInt8)) (cut n : Nat), (∀ p ∈ ls, p.length ≤ 65536) → n ≤ ls.length → endOf ls n ≤ cut → (n < ls.length → cut < endOf ls (n + 1)) → cut ≤ (framesOf ls).length →
    scanOf ((framesOf ls).take cut) = (ls.take n, endOf ls n, if endOf ls n < cut then 15 else 0)
  | [], cut, n, _, hn, h1, _, h3 => by
    obtain rfl : n = 0 := by simpa using hn
    obtain rfl : cut = 0 := by simpa [framesOf] using h3
    simp [framesOf, endOf, scanOf_nil]
  | p :: ps, cut, 0, hp, _, _, h2, h3 => by
    have hlt : cut < p.length + 8 := by
      have := h2 (by simp)
      simpa [endOf] using this
    simp only [List.take_zero, endOf]
    by_cases h0 : cut = 0
    · subst h0; simp [scanOf_nil]
    · have hnx := nextOf_cut p (framesOf ps) (hp p (by simp)) cut hlt
      have hl : 0 < ((framesOf (p :: ps)).take cut).length := by rw [List.length_take]; omega
      rw [scanOf_bad hl (by rw [framesOf, hnx]; simp), framesOf, hnx]
      simp [show 0 < cut by omega]
  | p :: ps, cut, n + 1, hp, hn, h1, h2, h3 => by
    simp only [endOf] at h1 h2
    have hfl := frameOf_length p
    have hcut : (framesOf (p :: ps)).take cut = frameOf p ++ (framesOf ps).take (cut - (p.length + 8)) := by
      rw [framesOf, List.take_append, List.take_of_length_le (by omega), hfl]
    have hnx := nextOf_frameOf p ((framesOf ps).take (cut - (p.length + 8))) (hp p (by simp))
    have hl : 0 < (frameOf p ++ (framesOf ps).take (cut - (p.length + 8))).length := by rw [List.length_append]; omega
    have hd : (frameOf p ++ (framesOf ps).take (cut - (p.length + 8))).drop (p.length + 8) = (framesOf ps).take (cut - (p.length + 8)) := by
      rw [← hfl, List.drop_left]
    rw [framesOf, List.length_append, hfl] at h3
    have ih := scan_torn ps (cut - (p.length + 8)) n (fun q hq => hp q (by simp [hq])) (by simpa using hn) (by omega) (fun hlt => by
      have := h2 (by simpa using hlt)
      omega) (by omega)
    rw [hcut, scanOf_ok hl (by rw [hnx]), hnx]
    simp only [hd, ih, List.take_succ_cons, endOf]
    congr 2
    by_cases hq : endOf ps n < cut - (p.length + 8)
    · have hq' : p.length + 8 + endOf ps n < cut := by omega
      simp [hq, hq']
    · have hq' : ¬ p.length + 8 + endOf ps n < cut := by omega
      simp [hq, hq']
end Go.Proofs.YtbllooaalodhaaaDoor
