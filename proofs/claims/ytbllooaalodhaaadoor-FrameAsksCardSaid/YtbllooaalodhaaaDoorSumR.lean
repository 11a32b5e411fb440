/- pergolaref8.Sum, put, get: the same as frame's. -/
import Derived.Test.YtbllooaalodhaaaDoorPut
import Derived.Test.YtbllooaalodhaaaDoorNext
namespace Go.Proofs.YtbllooaalodhaaaDoor
open Go.RowKit

theorem crcBit_cases (x : BitVec 32) : (bits .and .u32 (x.toNat : Int) 1 = 1 ∧ bits .xor .u32 ((x.toNat : Int) / 2) 3988292384 = ((crcBit x).toNat : Int)) ∨ (bits .and .u32 (x.toNat : Int) 1 = 0 ∧ (x.toNat : Int) / 2 = ((crcBit x).toNat : Int)) := by
  have h1 : (1 : Int) = ((1#32).toNat : Int) := rfl
  have h2 : (3988292384 : Int) = ((0xedb88320#32).toNat : Int) := rfl
  have h : x &&& 1#32 = 1#32 ∨ x &&& 1#32 = 0#32 := by
    have e : (x &&& 1#32).toNat = x.toNat % 2 := by rw [BitVec.toNat_and]; exact Nat.and_one_is_mod _
    rcases Nat.mod_two_eq_zero_or_one x.toNat with h0 | h0
    · exact Or.inr (BitVec.eq_of_toNat_eq (by rw [e, h0]; rfl))
    · exact Or.inl (BitVec.eq_of_toNat_eq (by rw [e, h0]; rfl))
  rcases h with h | h
  · refine Or.inl ⟨by rw [h1, and_u32, h], ?_⟩
    rw [h2, shr1_u32, xor_u32, crcBit, h]; rfl
  · refine Or.inr ⟨by rw [h1, and_u32, h]; rfl, ?_⟩
    rw [shr1_u32, crcBit, h]
    have e : (0xedb88320#32 &&& -0#32 : BitVec 32) = 0#32 := by decide
    rw [e, BitVec.xor_zero]

theorem sumR_any (v : Value) (l : List UInt8) (w : World) (hv : Byt w v l) :
    Calls Tryd.prog 21 #[v] w fun e w' => e = .returned (.int .u32 (crcSum l).toNat) ∧ w = w' := by
  obtain ⟨ao, c, rfl, h1, h2, h0, h3⟩ := hv.open
  clear h0
  unfold maxLen at h2
  go_enter Tryd.func21, Tryd.ntmps21
  go_wp2
  go_loop [3, 4] (fun r i => ∃ k : Nat, k ≤ l.length ∧ i = .int .i64 k ∧ r = .int .u32 (crcFold 0xffffffff#32 (l.take k)).toNat) (fun _ i => l.length - (intOf i).toNat)
  case atStart => exact ⟨0, Nat.zero_le _, rfl, rfl⟩
  case round =>
    obtain ⟨k, hk, rfl, rfl⟩ := hrel
    by_cases hk' : k < l.length
    · obtain ⟨b, off, rfl, hb, hc⟩ := h3 k hk'
      go_wp2
      rw [byte_u32, xor_u32]
      generalize hS : crcFold 0xffffffff#32 (l.take k) ^^^ BitVec.ofNat 32 l[k].toNat = S
      have HS := Lib.hid hS; clear hS
      go_loop [3, 5] (fun r j => ∃ k : Nat, k ≤ 8 ∧ j = .int .i64 k ∧ r = .int .u32 (crcBits k S).toNat) (fun _ j => 8 - (intOf j).toNat)
      case atStart => exact ⟨0, by omega, rfl, rfl⟩
      case round =>
        obtain ⟨j, hj, rfl, rfl⟩ := hrel
        by_cases hlt : j < 8
        · have hbit : crcBits (j + 1) S = crcBit (crcBits j S) := rfl
          generalize hX : crcBits j S = X at *
          have HB := Lib.hid hbit
          clear hbit hX
          rcases crcBit_cases X with ⟨q1, q2⟩ | ⟨q1, q2⟩
          · have t : (bits .and .u32 (X.toNat : Int) 1 == 1) = true := by rw [q1]; rfl
            have Q := Lib.hid q2
            clear q2
            go_wp2
            go_round
            case rel => exact ⟨j + 1, by omega, by go_num, by rw [Q.out, HB.out]⟩
            case measure => simp [intOf]; omega
          · have t : (bits .and .u32 (X.toNat : Int) 1 == 1) = false := by rw [q1]; rfl
            have Q := Lib.hid q2
            clear q2
            go_wp2
            go_round
            case rel => exact ⟨j + 1, by omega, by go_num, by rw [Q.out, HB.out]⟩
            case measure => simp [intOf]; omega
        · go_wp2
          go_round
          case rel =>
            obtain rfl : j = 8 := by omega
            refine ⟨k + 1, by omega, by go_num, ?_⟩
            rw [crcFold_snoc _ _ _ hk', crcByte, HS.out]
          case measure => simp [intOf]; omega
    · obtain rfl : k = l.length := by omega
      rw [List.take_length]
      go_wp2
      go_ret
      exact ⟨by rw [not_u32]; rfl, rfl⟩

theorem or_i64_nat (a b : Nat) (ha : a < 4611686018427387904) (hb : b < 4611686018427387904) : bits .or .i64 (a : Int) (b : Int) = ((a ||| b : Nat) : Int) := by
  have hx : a ||| b < 2 ^ 62 := Nat.or_lt_two_pow (by omega) (by omega)
  show IntKind.i64.wrap ((BitVec.ofInt 64 (a : Int) ||| BitVec.ofInt 64 (b : Int)).toNat : Int) = _
  have e1 : (BitVec.ofInt 64 (a : Int)).toNat = a := by rw [BitVec.ofInt_natCast]; simp; omega
  have e2 : (BitVec.ofInt 64 (b : Int)).toNat = b := by rw [BitVec.ofInt_natCast]; simp; omega
  rw [BitVec.toNat_or, e1, e2]
  generalize a ||| b = n at *
  rw [IntWalk.i64_in _ (by omega)]

/-- the last j of four bytes -/
def getHi (l : List UInt8) : Nat → Nat
  | 0 => 0
  | j + 1 => getHi l j * 256 + (l.getD (3 - j) 0).toNat
theorem getHi_lt (l : List UInt8) : ∀ j, getHi l j < 256 ^ j
  | 0 => by simp [getHi]
  | j + 1 => by
    have := getHi_lt l j
    have := (l.getD (3 - j) 0).toNat_lt
    simp only [getHi, Nat.pow_succ]; omega
theorem getHi_four (l : List UInt8) : getHi l 4 = get32 l := by
  show (((0 * 256 + (l.getD 3 0).toNat) * 256 + (l.getD 2 0).toNat) * 256 + (l.getD 1 0).toNat) * 256 + (l.getD 0 0).toNat = get32 l
  unfold get32; omega
theorem or_byte (g : Nat) (c : UInt8) (hg : g < 16777216) : bits .or .i64 ((g : Int) * 256) (c.toNat : Int) = ((g * 256 + c.toNat : Nat) : Int) := by
  have hc := c.toNat_lt
  have e1 : ((g : Int) * 256) = ((g * 2 ^ 8 : Nat) : Int) := by omega
  rw [e1, or_i64_nat _ _ (by omega) (by omega), Nat.or_comm, or_add _ _ _ (by omega)]
  omega

theorem getR_any (v : Value) (l : List UInt8) (w : World) (hv : Byt w v l) (h4 : 4 ≤ l.length) :
    Calls Tryd.prog 28 #[v, .int .i64 4] w fun e w' => e = .returned (.int .i64 (get32 l : Int)) ∧ w = w' := by
  obtain ⟨ao, c, rfl, h1, h2, h0, h3⟩ := hv.open
  unfold maxLen at h2
  clear h0
  go_enter Tryd.func28, Tryd.ntmps28
  go_wp2
  go_loop [5, 6] (fun r i => ∃ j : Nat, j ≤ 4 ∧ i = .int .i64 (3 - (j : Int)) ∧ r = .int .i64 (getHi l j : Int)) (fun _ i => (intOf i + 1).toNat)
  case atStart => exact ⟨0, by omega, rfl, rfl⟩
  case round =>
    obtain ⟨j, hj, rfl, rfl⟩ := hrel
    by_cases hlt : j < 4
    · obtain ⟨b, off, rfl, hb, hc⟩ := h3 (3 - j) (by omega)
      clear h3
      have hh : getHi l (j + 1) = getHi l j * 256 + (l.getD (3 - j) 0).toNat := rfl
      have hG := getHi_lt l j
      have hG2 : getHi l j < 16777216 := Nat.lt_of_lt_of_le hG (by
        have : 256 ^ j ≤ 256 ^ 3 := Nat.pow_le_pow_right (by omega) (by omega)
        omega)
      rw [List.getD_eq_getElem?_getD, List.getElem?_eq_getElem (show 3 - j < l.length by omega), Option.getD_some] at hh
      generalize hc' : l[3 - j] = cc at *
      generalize hg : getHi l j = g at *
      have HH := Lib.hid hh
      clear hh hG hc' hg
      have e1 : IntKind.i64.wrap ((g : Int) * 256) = (g : Int) * 256 := by rw [IntWalk.i64_in _ (by omega)]
      have ho := Lib.hid (or_byte g cc hG2)
      have e2 : (0 : Int) ≤ 3 - (j : Int) := by omega
      have e3 : (3 - (j : Int)) < (l.length : Int) := by omega
      have e4 : (3 - (j : Int)).toNat = 3 - j := by omega
      go_wp2
      go_round
      case rel => exact ⟨j + 1, by omega, by go_num, by rw [show wrap64 (cc.toNat : Int) = (cc.toNat : Int) from by have := cc.toNat_lt; exact IntWalk.wrap64_in _ (by omega), ho.out, HH.out]⟩
      case measure => simp [intOf]; omega
    · obtain rfl : j = 4 := by omega
      go_wp2
      go_ret
      exact ⟨by rw [getHi_four]; rfl, rfl⟩

set_option maxRecDepth 100000 in
theorem putR_any (x : BitVec 32) (n : Int) (hn : n = (x.toNat : Int)) (w : World) : Calls Tryd.prog 27 #[.int .u64 n, .int .i64 4] w (NewBytes w (le32 x)) := by
  subst hn
  have hx := x.isLt
  go_enter Tryd.func27, Tryd.ntmps27
  go_wp2
  go_loopw [5, 6] (fun b i wr => ∃ j : Nat, j ≤ 4 ∧ i = .int .i64 j ∧ Own wr w.heap.size b ((le32 x).take j) ∧ Below w.heap.size w wr) (fun _ i _ => 4 - (intOf i).toNat)
  case atStart => exact ⟨0, by omega, rfl, World.ownsRow_nil _ _ _ _, Below.refl _ _⟩
  case round =>
    obtain ⟨j, hj, rfl, ho, hb⟩ := hrel
    have hs := hb.size
    by_cases hlt : j < 4
    · obtain ⟨d, hd, ht⟩ : ∃ d : UInt8, (((x.toNat : Int) / 2 ^ (8 * j)) % 256 = (d.toNat : Int)) ∧ (le32 x).take j ++ [d] = (le32 x).take (j + 1) := by
        refine ⟨UInt8.ofNat (x.toNat / 2 ^ (8 * j)), ?_, ?_⟩
        · rw [← byte_of]; simp
        · have hcases : j = 0 ∨ j = 1 ∨ j = 2 ∨ j = 3 := by omega
          rcases hcases with rfl | rfl | rfl | rfl <;> simp [le32]
      have hLl : ((le32 x).take j).length ≤ 4 := by rw [List.length_take]; omega
      generalize hL : (le32 x).take j = L at *
      have HT := Lib.hid ht
      have HD := Lib.hid hd
      clear hL ht hd
      have e1 : IntKind.i64.wrap (8 * (j : Int)) = 8 * (j : Int) := by rw [IntWalk.i64_in _ (by omega)]
      have e2 : (8 * (j : Int)).toNat = 8 * j := by omega
      have e3 : (0 : Int) ≤ 8 * (j : Int) := by omega
      have e4 : ¬ (8 * (j : Int)) < 0 := by omega
      have hlit : Byt (wr.alloc (.cells #[.int .u8 (d.toNat : Int)] 5)) (.slice (some ⟨wr.heap.size, 0, none⟩) 1 1) [d] := byt_lit wr [d] (0, 0) (by simp [maxLen])
      have ho1 : Own (wr.alloc (.cells #[.int .u8 (d.toNat : Int)] 5)) w.heap.size u5 L := World.ownsRow.alloc ho _
      have hb1 := hb.alloc hs (.cells #[.int .u8 (d.toNat : Int)] 5)
      have hs1 := hb1.size
      go_wp2_with (at_builtin; rw [HD.out]; refine wpList_append_byt rfl _ _ rfl w.heap.size u5 L rfl ho1 _ [d] rfl hlit (by simp; omega) hs1 ?_)
      intro v3 w3 ho3 hb3
      rw [HT.out] at ho3
      have hb4 := hb1.trans hb3
      clear hlit ho1 ho hb3
      go_wp2
      go_roundw
      case rel => exact ⟨j + 1, by omega, by go_num, ho3, hb4⟩
      case measure => simp [intOf]; omega
    · obtain rfl : j = 4 := by omega
      go_wp2
      go_ret
      exact ⟨_, rfl, ho, hb⟩
end Go.Proofs.YtbllooaalodhaaaDoor
