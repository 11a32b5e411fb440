/- pergolaref8.Sum, put. -/
import Derived.Test.YtdeibgljibcnlaaDoorRoundP
import Derived.Test.YtdeibgljibcnlaaDoorSlot2
import Derived.Test.YtdeibgljibcnlaaDoorSum
namespace Go.Proofs.YtdeibgljibcnlaaDoor
open Go.RowKit

theorem crcBit_cases (x : BitVec 32) : (bits .and .u32 (x.toNat : Int) 1 = 1 ∧ bits .xor .u32 ((x.toNat : Int) / 2) 3988292384 = ((crcBit x).toNat : Int)) ∨ (bits .and .u32 (x.toNat : Int) 1 = 0 ∧ (x.toNat : Int) / 2 = ((crcBit x).toNat : Int)) := by
  have h1 : (1 : Int) = ((1#32).toNat : Int) := rfl
  have h2 : (3988292384 : Int) = ((0xedb88320#32).toNat : Int) := rfl
  have h : x &&& 1#32 = 1#32 ∨ x &&& 1#32 = 0#32 := by
    have e : (x &&& 1#32).toNat = x.toNat % 2 := by rw [BitVec.toNat_and]; exact Nat.and_one_is_mod _
    rcases Nat.mod_two_eq_zero_or_one x.toNat with h0 | h0
    · exact Or.inr (BitVec.eq_of_toNat_eq (by rw [e, h0]; rfl))
    · exact Or.inl (BitVec.eq_of_toNat_eq (by rw [e, h0]; rfl))
  rcases h with h | h
  · refine Or.inl ⟨by rw [h1, and_u32, h], ?_⟩
    rw [h2, shr1_u32, xor_u32, crcBit, h]; rfl
  · refine Or.inr ⟨by rw [h1, and_u32, h]; rfl, ?_⟩
    rw [shr1_u32, crcBit, h]
    have e : (0xedb88320#32 &&& -0#32 : BitVec 32) = 0#32 := by decide
    rw [e, BitVec.xor_zero]

theorem sumR_any (v : Value) (l : List UInt8) (w : World) (hv : Byt w v l) :
    Calls Tryd.prog 58 #[v] w fun e w' => e = .returned (.int .u32 (crcSum l).toNat) ∧ w = w' := by
  obtain ⟨ao, c, rfl, h1, h2, h0, h3⟩ := hv.open
  clear h0
  unfold maxLen at h2
  go_enter Tryd.func58, Tryd.ntmps58
  go_wp2
  go_loop [3, 4] (fun r i => ∃ k : Nat, k ≤ l.length ∧ i = .int .i64 k ∧ r = .int .u32 (crcFold 0xffffffff#32 (l.take k)).toNat) (fun _ i => l.length - (intOf i).toNat)
  case atStart => exact ⟨0, Nat.zero_le _, rfl, rfl⟩
  case round =>
    obtain ⟨k, hk, rfl, rfl⟩ := hrel
    by_cases hk' : k < l.length
    · obtain ⟨b, off, rfl, hb, hc⟩ := h3 k hk'
      go_wp2
      rw [byte_u32, xor_u32]
      generalize hS : crcFold 0xffffffff#32 (l.take k) ^^^ BitVec.ofNat 32 l[k].toNat = S
      have HS := Lib.hid hS; clear hS
      go_loop [3, 5] (fun r j => ∃ k : Nat, k ≤ 8 ∧ j = .int .i64 k ∧ r = .int .u32 (crcBits k S).toNat) (fun _ j => 8 - (intOf j).toNat)
      case atStart => exact ⟨0, by omega, rfl, rfl⟩
      case round =>
        obtain ⟨j, hj, rfl, rfl⟩ := hrel
        by_cases hlt : j < 8
        · have hbit : crcBits (j + 1) S = crcBit (crcBits j S) := rfl
          generalize hX : crcBits j S = X at *
          have HB := Lib.hid hbit
          clear hbit hX
          rcases crcBit_cases X with ⟨q1, q2⟩ | ⟨q1, q2⟩
          · have t : (bits .and .u32 (X.toNat : Int) 1 == 1) = true := by rw [q1]; rfl
            have Q := Lib.hid q2
            clear q2
            go_wp2
            go_round
            case rel => exact ⟨j + 1, by omega, by go_num, by rw [Q.out, HB.out]⟩
            case measure => simp [intOf]; omega
          · have t : (bits .and .u32 (X.toNat : Int) 1 == 1) = false := by rw [q1]; rfl
            have Q := Lib.hid q2
            clear q2
            go_wp2
            go_round
            case rel => exact ⟨j + 1, by omega, by go_num, by rw [Q.out, HB.out]⟩
            case measure => simp [intOf]; omega
        · go_wp2
          go_round
          case rel =>
            obtain rfl : j = 8 := by omega
            refine ⟨k + 1, by omega, by go_num, ?_⟩
            rw [crcFold_snoc _ _ _ hk', crcByte, HS.out]
          case measure => simp [intOf]; omega
    · obtain rfl : k = l.length := by omega
      rw [List.take_length]
      go_wp2
      go_ret
      exact ⟨by rw [not_u32]; rfl, rfl⟩


/-- a number's bytes, the least first -/
def leN (N : Nat) (k : Nat) : List UInt8 := (List.range k).map fun j => UInt8.ofNat (N / 2 ^ (8 * j))
theorem leN_succ (N k : Nat) : leN N (k + 1) = leN N k ++ [UInt8.ofNat (N / 2 ^ (8 * k))] := by simp [leN, List.range_succ]
theorem leN_length (N k : Nat) : (leN N k).length = k := by simp [leN]
theorem leN_two (N : Nat) : leN N 2 = [UInt8.ofNat N, UInt8.ofNat (N / 256)] := by
  rw [leN_succ, leN_succ]
  simp [leN]
theorem splice_two (l : List UInt8) (o n : Nat) (h : o + 2 ≤ l.length) : splice l o (leN n 2) = wr2 l o n := by
  rw [leN_two]
  refine ext_getD (by rw [wr2_length, splice_length _ _ _ (by simp; omega)]) fun j hj => ?_
  rw [splice_length _ _ _ (by simp; omega)] at hj
  by_cases h1 : j < o
  · rw [getD_splice h1 (by omega), getD_wr2 (by omega)]
  · by_cases h2 : o + 2 ≤ j
    · rw [getD_splice_hi (by simp; omega) (by simp; omega), getD_wr2 (by omega)]
    · rw [getD_splice_in (by omega) (by simp; omega) (by omega)]
      rcases (show j = o ∨ j = o + 1 by omega) with rfl | rfl
      · rw [Nat.sub_self, getD_wr2_0 h]; rfl
      · rw [show o + 1 - o = 1 by omega, getD_wr2_1 h]; rfl
theorem leN_four (N : Nat) : leN N 4 = leN N 2 ++ leN (N / 65536) 2 := by
  rw [leN_two, leN_two, leN_succ, leN_succ, leN_two]
  simp [Nat.div_div_eq_div_mul]
theorem splice_append {α : Type} (l a b : List α) (o : Nat) (h : o + a.length + b.length ≤ l.length) : splice l o (a ++ b) = splice (splice l o a) (o + a.length) b := by
  have e1 : (splice l o a).take (o + a.length) = l.take o ++ a := by
    unfold splice
    rw [← List.append_assoc, List.take_left' (by rw [List.length_append, List.length_take]; omega)]
  have e2 : (splice l o a).drop (o + a.length + b.length) = l.drop (o + a.length + b.length) := by
    unfold splice
    rw [← List.append_assoc, List.drop_append, List.drop_eq_nil_of_le (by rw [List.length_append, List.length_take]; omega), List.nil_append, List.length_append, List.length_take, List.drop_drop]
    congr 1
    omega
  show splice l o (a ++ b) = (splice l o a).take (o + a.length) ++ (b ++ (splice l o a).drop (o + a.length + b.length))
  rw [e1, e2]
  unfold splice
  rw [List.length_append]
  simp [Nat.add_assoc]
theorem splice_four (l : List UInt8) (o n : Nat) (h : o + 4 ≤ l.length) : splice l o (leN n 4) = wr4 l o n := by
  rw [leN_four, splice_append _ _ _ _ (by rw [leN_length, leN_length]; omega), leN_length, splice_two l o n (by omega), splice_two _ _ _ (by rw [wr2_length]; omega)]
  rfl

set_option maxRecDepth 100000 in
/-- pergolaref8.put -/
theorem putN_any (N k : Nat) (hk : k ≤ 4) (w : World) : Calls Tryd.prog 57 #[.int .u64 N, .int .i64 k] w (NewBytes w (leN N k)) := by
  go_enter Tryd.func57, Tryd.ntmps57
  go_wp2_with fail
  go_loopw [5, 6] (fun b i wr => ∃ j : Nat, j ≤ k ∧ i = .int .i64 j ∧ Own wr w.heap.size b (leN N j) ∧ Below w.heap.size w wr) (fun _ i _ => k - (intOf i).toNat)
  case atStart => exact ⟨0, by omega, rfl, World.ownsRow_nil _ _ _ _, Below.refl _ _⟩
  case round =>
    obtain ⟨j, hj, rfl, ho, hb⟩ := hrel
    have hs := hb.size
    by_cases hlt : j < k
    · have t1 : decide ((j : Int) < (k : Int)) = true := by simp; omega
      obtain ⟨d, hd, ht⟩ : ∃ d : UInt8, (((N : Int) / 2 ^ (8 * j)) % 256 = (d.toNat : Int)) ∧ leN N j ++ [d] = leN N (j + 1) := by
        refine ⟨UInt8.ofNat (N / 2 ^ (8 * j)), ?_, (leN_succ N j).symm⟩
        rw [← byte_of]; simp
      have hLl : (leN N j).length ≤ 4 := by rw [leN_length]; omega
      generalize hL : leN N j = L at *
      have HT := Lib.hid ht
      have HD := Lib.hid hd
      clear hL ht hd
      have e1 : IntKind.i64.wrap (8 * (j : Int)) = 8 * (j : Int) := by rw [IntWalk.i64_in _ (by omega)]
      have e2 : (8 * (j : Int)).toNat = 8 * j := by omega
      have e3 : (0 : Int) ≤ 8 * (j : Int) := by omega
      have e4 : ¬ (8 * (j : Int)) < 0 := by omega
      have hlit : Byt (wr.alloc (.cells #[.int .u8 (d.toNat : Int)] 5)) (.slice (some ⟨wr.heap.size, 0, none⟩) 1 1) [d] := byt_lit wr [d] (0, 0) (by simp [maxLen])
      have ho1 : Own (wr.alloc (.cells #[.int .u8 (d.toNat : Int)] 5)) w.heap.size u5 L := World.ownsRow.alloc ho _
      have hb1 := hb.alloc hs (.cells #[.int .u8 (d.toNat : Int)] 5)
      have hs1 := hb1.size
      go_wp2_with (at_builtin; rw [HD.out]; refine wpList_append_byt rfl _ _ rfl w.heap.size u5 L rfl ho1 _ [d] rfl hlit (by simp; omega) hs1 ?_)
      intro v3 w3 ho3 hb3
      rw [HT.out] at ho3
      have hb4 := hb1.trans hb3
      have HO3 := Lib.hid ho3
      clear hlit ho1 ho hb3 ho3
      go_wp2_with fail
      go_roundw
      case rel => exact ⟨j + 1, by omega, by go_num, HO3.out, hb4⟩
      case measure => simp [intOf]; omega
    · obtain rfl : j = k := by omega
      have t1 : decide ((j : Int) < (j : Int)) = false := by simp
      have HO := Lib.hid ho
      obtain ⟨a9, c9, rfl, _⟩ := Rd.of_own ho
      clear ho
      go_wp2_with fail
      go_ret
      exact ⟨_, rfl, HO.out, hb⟩
end Go.Proofs.YtdeibgljibcnlaaDoor
