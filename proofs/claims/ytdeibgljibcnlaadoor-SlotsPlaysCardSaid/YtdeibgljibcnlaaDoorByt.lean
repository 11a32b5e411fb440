/- Plain facts on bytes, u32 words and the cells of a byte slice. -/
import Derived.Test.YtdeibgljibcnlaaDoorMem
namespace Go.Proofs.YtdeibgljibcnlaaDoor
open Go.RowKit

/-- In world w the value v is a []byte that reads as l. -/
def Byt (w : World) (v : Value) (l : List UInt8) : Prop := Rd w v l.length (bytesV l)

theorem Byt.open {w : World} {v : Value} {l : List UInt8} (h : Byt w v l) :
    ∃ ao c, v = .slice ao l.length c ∧ l.length ≤ c ∧ c ≤ maxLen ∧ (ao = none → c = 0) ∧
      ∀ i (h : i < l.length), ∃ b off, ao = some ⟨b, off, none⟩ ∧ b < w.heap.size ∧ w.cell? ⟨b, off + i, none⟩ = some (.int .u8 (l[i].toNat : Int)) := by
  obtain ⟨ao, c, hv, h1, h2, h0, h3⟩ := h
  refine ⟨ao, c, hv, h1, h2, h0, fun i hi => ?_⟩
  obtain ⟨b, off, e, hlt, hc⟩ := h3 i (by simpa [bytesV] using hi)
  exact ⟨b, off, e, hlt, by simpa [bytesV] using hc⟩

theorem Byt.below {w w' : World} {v : Value} {l : List UInt8} (h : Byt w v l) (hb : Below w.heap.size w w') : Byt w' v l := Rd.below h hb

theorem Byt.take {w : World} {ao : Option Addr} {c : Nat} {l : List UInt8} (h : Byt w (.slice ao l.length c) l) {m : Nat} (hm : m ≤ l.length) : Byt w (.slice ao m c) (l.take m) := by
  have := Rd.take (k := m) h hm
  unfold Byt
  rw [List.length_take, Nat.min_eq_left hm]
  simpa [bytesV, List.map_take] using this
theorem Byt.drop {w : World} {b off c : Nat} {l : List UInt8} (h : Byt w (.slice (some ⟨b, off, none⟩) l.length c) l) {m : Nat} (hm : m ≤ l.length) : Byt w (.slice (some ⟨b, off + m, none⟩) (l.length - m) (c - m)) (l.drop m) := by
  have := Rd.drop (k := m) h hm
  unfold Byt
  rw [List.length_drop]
  simpa [bytesV, List.map_drop] using this
theorem Byt.drewN {w : World} {v : Value} {l : List UInt8} (h : Byt w v l) (n : Nat) : Byt (w.drewN n) v l := h

/-- v is a row of bytes of the call's own, from block 'base' on. -/
def Own (w : World) (base : Nat) (v : Value) (l : List UInt8) : Prop := w.ownsRow base 5 1 v l.length (bytesV l)
theorem Own.byt {w : World} {base : Nat} {v : Value} {l : List UInt8} (h : Own w base v l) : Byt w v l := Rd.of_own h

/-- A literal's row of bytes, marked or not. -/
theorem byt_lit (w : World) (l : List UInt8) (m : Nat × Nat) (hl : l.length ≤ maxLen) : Byt (w.alloc (.cells (bytesV l).toArray 5 m)) (.slice (some ⟨w.heap.size, 0, none⟩) l.length l.length) l := by
  refine ⟨_, _, rfl, Nat.le_refl _, hl, (fun h => by cases h), fun i hi => ⟨_, _, rfl, by simp, ?_⟩⟩
  have e : (w.alloc (.cells (bytesV l).toArray 5 m)).heap[w.heap.size]? = some (.cells (bytesV l).toArray 5 m) := by
    show (w.heap.push _)[w.heap.size]? = _
    simp
  rw [Nat.zero_add, cell_of_row _ _ _ _ _ _ e]
  simp [hi]

theorem info_u8 : (Tryd.prog.info? 5).map (fun i => (i.zero, i.size, i.bytes)) = some (some (.int .u8 0), 1, 1) := by kernel_rfl

/-- append(v, y...) on bytes. -/
theorem wpList_append_byt {w : World} {ops : Array Oper} {rest : List Oper} {o : Oper} {a : Act} {Q : Exit → Act → World → Prop} (hgd : o.guard = none) (s x : Operand)
    (ho : o.op = .call { callee := .builtin .append, args := #[s, x], argTypes := #[30, 30] })
    (base : Nat) (v : Value) (l : List UInt8) (hs : a.eval s = v) (hown : Own w base v l) (y : Value) (m : List UInt8) (hx : a.eval x = y) (hy : Byt w y m)
    (h63 : l.length + m.length ≤ 140737488355328) (hbase : base ≤ w.heap.size)
    (h : ∀ v' w', Own w' base v' (l ++ m) → Below base w w' → wpList Tryd.prog ops Q rest (a.put o.dst v') w') : wpList Tryd.prog ops Q (o :: rest) a w :=
  wpList_append_rd hgd s x 30 ho base 5 _ 1 1 Tryd.underlying30 info_u8 rfl (by decide) v _ _ hs hown y _ _ hx hy (by simp [bytesV]) (bytesV_one _) (by unfold maxLen; omega) (by omega) hbase
    fun v' w' h1 h2 _ => h v' w' (by unfold Own; rw [bytesV_append, List.length_append]; exact h1) h2

theorem step_append_byt {w : World} {ops : Array Oper} {o : Oper} {a : Act} {K : Act → World → Prop} {Q : Exit → Act → World → Prop} {E : Prop} (hgd : o.guard = none) (s x : Operand)
    (ho : o.op = .call { callee := .builtin .append, args := #[s, x], argTypes := #[30, 30] })
    (base : Nat) (v : Value) (l : List UInt8) (hs : a.eval s = v) (hown : Own w base v l) (y : Value) (m : List UInt8) (hx : a.eval x = y) (hy : Byt w y m)
    (h63 : l.length + m.length ≤ 140737488355328) (hbase : base ≤ w.heap.size)
    (h : ∀ v' w', Own w' base v' (l ++ m) → Below base w w' → K (a.put o.dst v') w') : if Region.wanted o (yielded ops a.tmps) = true then Oper.wp Tryd.prog o a w K Q else E :=
  step_append_rd hgd s x 30 ho base 5 _ 1 1 Tryd.underlying30 info_u8 rfl (by decide) v _ _ hs hown y _ _ hx hy (by simp [bytesV]) (bytesV_one _) (by unfold maxLen; omega) (by omega) hbase
    fun v' w' h1 h2 _ => h v' w' (by unfold Own; rw [bytesV_append, List.length_append]; exact h1) h2

theorem Own.below {w w' : World} {base : Nat} {v : Value} {l : List UInt8} (h : Own w base v l) (hb : Below w.heap.size w w') : Own w' base v l := own_below' h hb

/-! ### the check sum, in plain Lean -/

/-- one bit of the check sum -/
def crcBit (r : BitVec 32) : BitVec 32 := (r >>> 1) ^^^ (0xedb88320#32 &&& -(r &&& 1#32))
/-- n bits -/
def crcBits : Nat → BitVec 32 → BitVec 32
  | 0, r => r
  | n + 1, r => crcBit (crcBits n r)
/-- one byte -/
def crcByte (r : BitVec 32) (c : UInt8) : BitVec 32 := crcBits 8 (r ^^^ BitVec.ofNat 32 c.toNat)
/-- many bytes -/
def crcFold (r : BitVec 32) (l : List UInt8) : BitVec 32 := l.foldl crcByte r
/-- the check sum -/
def crcSum (l : List UInt8) : BitVec 32 := ~~~ crcFold 0xffffffff#32 l

theorem crcFold_snoc (r : BitVec 32) (l : List UInt8) (k : Nat) (h : k < l.length) : crcFold r (l.take (k + 1)) = crcByte (crcFold r (l.take k)) l[k] := by
  unfold crcFold
  rw [List.take_succ_eq_append_getElem h, List.foldl_append]
  rfl

/-! ### u32 words in the walk's spelling -/
theorem bits_u32 (op : BinOp) (a b : BitVec 32) (r : BitVec 32) (h : bits op .u32 (a.toNat : Int) (b.toNat : Int) = IntKind.u32.wrap (r.toNat : Int)) : bits op .u32 (a.toNat : Int) (b.toNat : Int) = (r.toNat : Int) := by
  rw [h]; have := r.isLt; simp [IntKind.wrap, IntKind.bits, IntKind.signed]; omega
theorem ofInt_toNat32 (a : BitVec 32) : BitVec.ofInt 32 (a.toNat : Int) = a := by
  rw [BitVec.ofInt_natCast]; simp
theorem xor_u32 (a b : BitVec 32) : bits .xor .u32 (a.toNat : Int) (b.toNat : Int) = ((a ^^^ b).toNat : Int) :=
  bits_u32 _ _ _ _ (by show IntKind.u32.wrap ((BitVec.ofInt 32 (a.toNat : Int) ^^^ BitVec.ofInt 32 (b.toNat : Int)).toNat : Int) = _; rw [ofInt_toNat32, ofInt_toNat32])
theorem and_u32 (a b : BitVec 32) : bits .and .u32 (a.toNat : Int) (b.toNat : Int) = ((a &&& b).toNat : Int) :=
  bits_u32 _ _ _ _ (by show IntKind.u32.wrap ((BitVec.ofInt 32 (a.toNat : Int) &&& BitVec.ofInt 32 (b.toNat : Int)).toNat : Int) = _; rw [ofInt_toNat32, ofInt_toNat32])
theorem byte_u32 (c : UInt8) : ((c.toNat : Int) % 4294967296) = ((BitVec.ofNat 32 c.toNat).toNat : Int) := by
  have := c.toNat_lt; simp; omega
theorem shr1_u32 (a : BitVec 32) : ((a.toNat : Int) / (2 : Int)) = ((a >>> 1).toNat : Int) := by
  simp [BitVec.toNat_ushiftRight, Nat.shiftRight_eq_div_pow]
theorem neg_u32 (a : BitVec 32) : (-(a.toNat : Int) % 4294967296) = ((-a).toNat : Int) := by
  have := a.isLt; rw [BitVec.toNat_neg]; omega
/-- one bit of the check sum, as the walk spells it -/
theorem crcBit_walk (a : BitVec 32) :
    bits .xor .u32 ((a.toNat : Int) / 2) (bits .and .u32 3988292384 (-bits .and .u32 (a.toNat : Int) 1 % 4294967296)) = ((crcBit a).toNat : Int) := by
  have h1 : (1 : Int) = ((1#32).toNat : Int) := rfl
  have h2 : (3988292384 : Int) = ((0xedb88320#32).toNat : Int) := rfl
  rw [h1, and_u32, neg_u32, h2, and_u32, shr1_u32, xor_u32]
  rfl
theorem not_u32 (a : BitVec 32) : bits .xor .u32 IntKind.u32.max (a.toNat : Int) = ((~~~ a).toNat : Int) := by
  have h1 : IntKind.u32.max = ((BitVec.allOnes 32).toNat : Int) := by simp [IntKind.max, IntKind.bits, IntKind.signed]
  rw [h1, xor_u32, BitVec.allOnes_xor]
/-- a word in four bytes, the least first -/
def le32 (x : BitVec 32) : List UInt8 := [UInt8.ofNat x.toNat, UInt8.ofNat (x.toNat / 256), UInt8.ofNat (x.toNat / 65536), UInt8.ofNat (x.toNat / 16777216)]
theorem byte_of (x : Nat) : ((x : Int) % 256) = ((UInt8.ofNat x).toNat : Int) := by
  rw [UInt8.toNat_ofNat']; omega
theorem ofInt_toNat8 (a : UInt8) : BitVec.ofInt 8 (a.toNat : Int) = a.toBitVec := by
  rw [BitVec.ofInt_natCast]; apply BitVec.eq_of_toNat_eq; simp
theorem xor_u8 (a b : UInt8) : bits .xor .u8 (a.toNat : Int) (b.toNat : Int) = ((a ^^^ b).toNat : Int) := by
  show IntKind.u8.wrap ((BitVec.ofInt 8 (a.toNat : Int) ^^^ BitVec.ofInt 8 (b.toNat : Int)).toNat : Int) = _
  rw [ofInt_toNat8, ofInt_toNat8]
  have := (a ^^^ b).toNat_lt
  have e : (a.toBitVec ^^^ b.toBitVec).toNat = (a ^^^ b).toNat := rfl
  rw [e]
  generalize (a ^^^ b).toNat = n at *
  simp [IntKind.wrap, IntKind.bits, IntKind.signed]
  omega

theorem or_add (a b i : Nat) (h : a < 2 ^ i) : a ||| (b * 2 ^ i) = a + b * 2 ^ i := by
  rw [Nat.or_comm, ← Nat.shiftLeft_eq, ← Nat.shiftLeft_add_eq_or_of_lt h, Nat.add_comm]
theorem or_u32_nat (a b : Nat) (ha : a < 4294967296) (hb : b < 4294967296) : bits .or .u32 (a : Int) (b : Int) = ((a ||| b : Nat) : Int) := by
  have hx : a ||| b < 2 ^ 32 := Nat.or_lt_two_pow (by omega) (by omega)
  show IntKind.u32.wrap ((BitVec.ofInt 32 (a : Int) ||| BitVec.ofInt 32 (b : Int)).toNat : Int) = _
  have e1 : (BitVec.ofInt 32 (a : Int)).toNat = a := by rw [BitVec.ofInt_natCast]; simp; omega
  have e2 : (BitVec.ofInt 32 (b : Int)).toNat = b := by rw [BitVec.ofInt_natCast]; simp; omega
  rw [BitVec.toNat_or, e1, e2]
  generalize a ||| b = n at *
  simp [IntKind.wrap, IntKind.bits, IntKind.signed]
  omega

/-- the word in the first four bytes -/
def get32 (l : List UInt8) : Nat := (l.getD 0 0).toNat + (l.getD 1 0).toNat * 256 + (l.getD 2 0).toNat * 65536 + (l.getD 3 0).toNat * 16777216
theorem get32_walk (a b c d : UInt8) :
    bits .or .u32 (bits .or .u32 (bits .or .u32 ((a.toNat : Int) % 4294967296) ((b.toNat : Int) % 4294967296 * 256 % 4294967296)) ((c.toNat : Int) % 4294967296 * 65536 % 4294967296)) ((d.toNat : Int) % 4294967296 * 16777216 % 4294967296)
      = ((a.toNat + b.toNat * 256 + c.toNat * 65536 + d.toNat * 16777216 : Nat) : Int) := by
  have ha := a.toNat_lt; have hb := b.toNat_lt; have hc := c.toNat_lt; have hd := d.toNat_lt
  have e1 : ((a.toNat : Int) % 4294967296) = ((a.toNat : Nat) : Int) := by omega
  have e2 : ((b.toNat : Int) % 4294967296 * 256 % 4294967296) = ((b.toNat * 2 ^ 8 : Nat) : Int) := by omega
  have e3 : ((c.toNat : Int) % 4294967296 * 65536 % 4294967296) = ((c.toNat * 2 ^ 16 : Nat) : Int) := by omega
  have e4 : ((d.toNat : Int) % 4294967296 * 16777216 % 4294967296) = ((d.toNat * 2 ^ 24 : Nat) : Int) := by omega
  rw [e1, e2, e3, e4, or_u32_nat _ _ (by omega) (by omega), or_add _ _ _ (by omega), or_u32_nat _ _ (by omega) (by omega), or_add _ _ _ (by omega), or_u32_nat _ _ (by omega) (by omega), or_add _ _ _ (by omega)]
theorem get32_lt (l : List UInt8) : get32 l < 4294967296 := by
  have := (l.getD 0 0).toNat_lt; have := (l.getD 1 0).toNat_lt; have := (l.getD 2 0).toNat_lt; have := (l.getD 3 0).toNat_lt
  unfold get32; omega
end Go.Proofs.YtdeibgljibcnlaaDoor
