/- FrameAdds answers true, whatever it is given. -/
import Derived.Test.YtbllooaalodhaaaAwake9
import Derived.Deep.RegionHeld3
import Derived.Test.YtbllooaalodhaaaView
namespace Go.Proofs.Ytbllooaalodhaaa
open Go.RowKit

/-! ### the plain law -/
theorem crcBit_if (x : BitVec 32) : crcBit x = if x.getLsbD 0 = true then (x >>> 1) ^^^ 0xedb88320#32 else x >>> 1 := by
  have h : x &&& 1#32 = if x.getLsbD 0 = true then 1#32 else 0#32 := by
    apply BitVec.eq_of_toNat_eq
    have e : (x &&& 1#32).toNat = x.toNat % 2 := by rw [BitVec.toNat_and]; exact Nat.and_one_is_mod _
    rw [e, BitVec.getLsbD, Nat.testBit_zero]
    rcases Nat.mod_two_eq_zero_or_one x.toNat with h0 | h0 <;> simp [h0]
  unfold crcBit
  rw [h]
  split <;> simp <;> rfl
theorem crcBit_xor2 (a b : BitVec 32) : crcBit (a ^^^ b) = crcBit a ^^^ crcBit b := by
  rw [crcBit_if, crcBit_if, crcBit_if, BitVec.getLsbD_xor, BitVec.ushiftRight_xor_distrib]
  generalize a >>> 1 = x
  generalize b >>> 1 = y
  generalize 0xedb88320#32 = q
  cases a.getLsbD 0 <;> cases b.getLsbD 0 <;> simp
  · exact BitVec.xor_assoc _ _ _
  · rw [BitVec.xor_assoc, BitVec.xor_comm y q, ← BitVec.xor_assoc]
  · rw [BitVec.xor_assoc, ← BitVec.xor_assoc q y q, BitVec.xor_comm q y, BitVec.xor_assoc y q q, BitVec.xor_self, BitVec.xor_zero]
theorem crcBits_xor2 (n : Nat) (a b : BitVec 32) : crcBits n (a ^^^ b) = crcBits n a ^^^ crcBits n b := by
  induction n with
  | zero => rfl
  | succ n ih => simp only [crcBits, ih, crcBit_xor2]

def xor3 (a b c : List UInt8) : Nat → List UInt8
  | 0 => []
  | k + 1 => xor3 a b c k ++ [a.getD k 0 ^^^ b.getD k 0 ^^^ c.getD k 0]

theorem xor3_length (a b c : List UInt8) (k : Nat) : (xor3 a b c k).length = k := by
  induction k with
  | zero => rfl
  | succ k ih => simp [xor3, ih]

theorem ofNat_xor3 (x y z : UInt8) : BitVec.ofNat 32 (x ^^^ y ^^^ z).toNat = BitVec.ofNat 32 x.toNat ^^^ BitVec.ofNat 32 y.toNat ^^^ BitVec.ofNat 32 z.toNat := by
  apply BitVec.eq_of_getLsbD_eq
  intro i hi
  simp [hi]
theorem xor6 (r s t x y z : BitVec 32) : (r ^^^ s ^^^ t) ^^^ (x ^^^ y ^^^ z) = (r ^^^ x) ^^^ (s ^^^ y) ^^^ (t ^^^ z) := by
  apply BitVec.eq_of_getLsbD_eq
  intro i _
  simp only [BitVec.getLsbD_xor]
  cases r.getLsbD i <;> cases s.getLsbD i <;> cases t.getLsbD i <;> cases x.getLsbD i <;> cases y.getLsbD i <;> cases z.getLsbD i <;> rfl
theorem crcByte_xor3 (r s t : BitVec 32) (x y z : UInt8) : crcByte (r ^^^ s ^^^ t) (x ^^^ y ^^^ z) = crcByte r x ^^^ crcByte s y ^^^ crcByte t z := by
  unfold crcByte
  rw [ofNat_xor3, xor6, crcBits_xor2, crcBits_xor2]
theorem crcFold_xor3 (r s t : BitVec 32) (a b c : List UInt8) (h2 : b.length = a.length) (h3 : c.length = a.length) : ∀ k, k ≤ a.length →
    crcFold (r ^^^ s ^^^ t) (xor3 a b c k) = crcFold r (a.take k) ^^^ crcFold s (b.take k) ^^^ crcFold t (c.take k)
  | 0, _ => by simp [xor3, crcFold]
  | k + 1, h => by
    have ih := crcFold_xor3 r s t a b c h2 h3 k (by omega)
    have ha : k < a.length := by omega
    have hb : k < b.length := by omega
    have hc : k < c.length := by omega
    rw [crcFold_snoc _ _ _ ha, crcFold_snoc _ _ _ hb, crcFold_snoc _ _ _ hc, xor3]
    have e : crcFold (r ^^^ s ^^^ t) (xor3 a b c k ++ [a.getD k 0 ^^^ b.getD k 0 ^^^ c.getD k 0]) = crcByte (crcFold (r ^^^ s ^^^ t) (xor3 a b c k)) (a.getD k 0 ^^^ b.getD k 0 ^^^ c.getD k 0) := by
      unfold crcFold; rw [List.foldl_append]; rfl
    rw [e, ih, ← crcByte_xor3]
    simp [List.getD_eq_getElem?_getD, ha, hb, hc]
theorem not_xor3 (r s t : BitVec 32) : ~~~ (r ^^^ s ^^^ t) = ~~~ r ^^^ ~~~ s ^^^ ~~~ t := by
  apply BitVec.eq_of_getLsbD_eq
  intro i hi
  simp only [BitVec.getLsbD_xor, BitVec.getLsbD_not, hi, decide_true, Bool.true_and]
  cases r.getLsbD i <;> cases s.getLsbD i <;> cases t.getLsbD i <;> rfl
theorem crcSum_xor3 (a b c : List UInt8) (h2 : b.length = a.length) (h3 : c.length = a.length) : crcSum (xor3 a b c a.length) = crcSum a ^^^ crcSum b ^^^ crcSum c := by
  have h := crcFold_xor3 0xffffffff#32 0xffffffff#32 0xffffffff#32 a b c h2 h3 a.length (Nat.le_refl _)
  have e : (0xffffffff#32 ^^^ 0xffffffff#32 ^^^ 0xffffffff#32 : BitVec 32) = 0xffffffff#32 := by decide
  rw [e, List.take_length, ← h2, List.take_length, h2, ← h3, List.take_length, h3] at h
  unfold crcSum
  rw [h, not_xor3]

theorem adds_true (va vb vc : Value) (a b c : List UInt8) (w : World) (ha : Byt w va a) (hb : Byt w vb b) (hc : Byt w vc c) (h1 : a.length ≤ 3000) (h2 : b.length = a.length) (h3 : c.length = a.length) :
    Calls Try.prog 3 #[va, vb, vc] w fun e w' => e = .returned (.bool true) ∧ Below w.heap.size w w' := by
  obtain ⟨aa, ca, rfl, ha1, ha2, ha0, ha3⟩ := ha.open
  obtain ⟨ab, cb, rfl, hb1, hb2, hb0, hb3⟩ := hb.open
  obtain ⟨ac, cc, rfl, hc1, hc2, hc0, hc3⟩ := hc.open
  unfold maxLen at ha2 hb2 hc2
  have t1 : decide ((3000 : Int) < (a.length : Int)) = false := by simp; omega
  have t2 : (((b.length : Int) != (a.length : Int))) = false := by simp; omega
  have t3 : (((c.length : Int) != (a.length : Int))) = false := by simp; omega
  have H2 := Lib.hid h2
  have H3 := Lib.hid h3
  have g2 : a.length ≤ b.length := by omega
  have g3 : a.length ≤ c.length := by omega
  clear h2 h3
  go_enter Try.func3, Try.ntmps3
  go_wp2_with fail
  go_loopw [7, 8] (fun d i wr => ∃ k : Nat, k ≤ a.length ∧ i = .int .i64 k ∧ Own wr w.heap.size d (xor3 a b c k) ∧ Below w.heap.size w wr) (fun _ i _ => a.length - (intOf i).toNat)
  case atStart => exact ⟨0, Nat.zero_le _, rfl, World.ownsRow_nil _ _ _ _, Below.refl _ _⟩
  case round =>
    obtain ⟨k, hk, rfl, hown, hbel⟩ := hrel
    by_cases hlt : k < a.length
    · obtain ⟨ba, oa, rfl, hba, hca⟩ := ha3 k hlt
      obtain ⟨bb, ob, rfl, hbb, hcb⟩ := hb3 k (by omega)
      obtain ⟨bc, oc, rfl, hbc, hcc⟩ := hc3 k (by omega)
      have ea := (hbel.cell (p := ⟨ba, oa + k, none⟩) hba).trans hca
      have eb := (hbel.cell (p := ⟨bb, ob + k, none⟩) hbb).trans hcb
      have ec := (hbel.cell (p := ⟨bc, oc + k, none⟩) hbc).trans hcc
      have hS : ∀ o w2, Below w.heap.size (wr.alloc o).drew w2 → w2.cell? ⟨ba, oa + k, none⟩ = some (.int .u8 (a[k].toNat : Int)) ∧ w2.cell? ⟨bb, ob + k, none⟩ = some (.int .u8 (b[k].toNat : Int)) ∧ w2.cell? ⟨bc, oc + k, none⟩ = some (.int .u8 (c[k].toNat : Int)) := fun o w2 h => by
        have h' := (hbel.alloc hbel.size o).drew.trans h
        exact ⟨(h'.cell hba).trans hca, (h'.cell hbb).trans hcb, (h'.cell hbc).trans hcc⟩
      clear ha3 hb3 hc3 hca hcb hcc
      have hownA : ∀ o, Own (wr.alloc o).drew w.heap.size u7 (xor3 a b c k) := fun o => World.ownsRow.drew (World.ownsRow.alloc hown o)
      have hsz := hbel.size
      have i0 : (0 : Int) ≤ (k : Int) := by omega
      have i1 : (k : Int) < (b.length : Int) := by omega
      have i2 : (k : Int) < (c.length : Int) := by omega
      have hxl : (xor3 a b c k).length ≤ 3000 := by rw [xor3_length]; omega
      have hnew : ∀ (x : Int) (y : UInt8), x = (y.toNat : Int) → Byt (wr.alloc (.cells #[.int .u8 x] 5)).drew (.slice (some ⟨wr.heap.size, 0, none⟩) 1 1) [y] := fun x y h => by subst h; exact byt_lit wr [y] (0, 0) (by simp [maxLen])
      go_wp2
      go_region_held3 (fun w' => w'.cell? ⟨ba, oa + k, none⟩ = some (.int .u8 (a[k].toNat : Int)) ∧ w'.cell? ⟨bb, ob + k, none⟩ = some (.int .u8 (b[k].toNat : Int)) ∧ w'.cell? ⟨bc, oc + k, none⟩ = some (.int .u8 (c[k].toNat : Int)))
        (first | go_keep | (exact hS _ _ hb2))
        ((refine step_append_byt (by rfl) _ _ (by rfl) w.heap.size _ _ (by rfl) (hownA _) _ [a[k] ^^^ b[k] ^^^ c[k]] (by rfl) (hnew _ _ (by rw [xor_u8, xor_u8])) (by simp; omega) (by simp; omega) ?_; intro v2 w2 ho2 hb2))
      have hbel2 := (hbel.alloc hsz (.cells #[.int .u8 (bits .xor .u8 (bits .xor .u8 (a[k].toNat : Int) (b[k].toNat : Int)) (c[k].toNat : Int))] 5)).drew.trans hb2
      go_wp2
      go_roundw
      case rel =>
        have hx : xor3 a b c (k + 1) = xor3 a b c k ++ [a[k] ^^^ b[k] ^^^ c[k]] := by simp [xor3, List.getD_eq_getElem?_getD, hlt, Nat.lt_of_lt_of_le hlt g2, Nat.lt_of_lt_of_le hlt g3]
        rw [← hx] at ho2
        first | exact ⟨k + 1, by omega, by go_num, ho2, hbel2⟩ | ((repeat apply Exists.intro); exact ⟨⟨k + 1, by omega, by go_num, ho2, hbel2⟩, rfl⟩)
      case measure => simp [intOf]; omega
    · obtain rfl : k = a.length := by omega
      have hd := hown.byt
      have ha' := ha.below hbel
      have hb' := hb.below hbel
      have hc' := hc.below hbel
      go_wp2_with fail
      refine (sum_any _ _ _ hd).mono ?_
      rintro e w' ⟨rfl, rfl⟩
      go_wp2_with fail
      refine (sum_any _ _ _ ha').mono ?_
      rintro e w' ⟨rfl, rfl⟩
      go_wp2_with fail
      refine (sum_any _ _ _ hb').mono ?_
      rintro e w' ⟨rfl, rfl⟩
      go_wp2_with fail
      refine (sum_any _ _ _ hc').mono ?_
      rintro e w' ⟨rfl, rfl⟩
      have t4 : (((crcSum (xor3 a b c a.length)).toNat : Int) == bits .xor .u32 (bits .xor .u32 ((crcSum a).toNat : Int) ((crcSum b).toNat : Int)) ((crcSum c).toNat : Int)) = true := by
        rw [xor_u32, xor_u32, crcSum_xor3 a b c H2.out H3.out]; simp
      go_wp2_with (go_at_call 5; refine (awake_any _).mono ?_; rintro e w' ⟨rfl, hb5⟩)
      go_ret
      exact ⟨rfl, hbel.trans (hb5.mono hbel.size)⟩

/-- with a slice that is too long, or slices of unlike lengths: only what the document fixes is asked -/
theorem adds_else (va vb vc : Value) (a b c : List UInt8) (w : World) (ha : Byt w va a) (hb : Byt w vb b) (hc : Byt w vc c) (h : 3000 < a.length ∨ b.length ≠ a.length ∨ c.length ≠ a.length) :
    Calls Try.prog 3 #[va, vb, vc] w fun e w' => e = .returned (.bool true) ∧ Below w.heap.size w w' := by
  obtain ⟨aa, ca, rfl, ha1, ha2, ha0, ha3⟩ := ha.open
  obtain ⟨ab, cb, rfl, hb1, hb2, hb0, hb3⟩ := hb.open
  obtain ⟨ac, cc, rfl, hc1, hc2, hc0, hc3⟩ := hc.open
  clear ha3 hb3 hc3
  by_cases t1 : 3000 < a.length
  · have t1' : decide ((3000 : Int) < (a.length : Int)) = true := by simp; omega
    clear h
    go_enter Try.func3, Try.ntmps3
    go_wp2_with (go_at_call 5; refine (awake_any _).mono ?_; rintro e w' ⟨rfl, hb5⟩)
    go_ret
    exact ⟨rfl, hb5⟩
  · have t1' : decide ((3000 : Int) < (a.length : Int)) = false := by simp; omega
    by_cases t2 : b.length = a.length
    · have t2' : ((b.length : Int) != (a.length : Int)) = false := by simp; omega
      have t3' : ((c.length : Int) != (a.length : Int)) = true := by simp; omega
      clear h
      have H := Lib.hid t2; clear t2
      go_enter Try.func3, Try.ntmps3
      go_wp2_with (go_at_call 5; refine (awake_any _).mono ?_; rintro e w' ⟨rfl, hb5⟩)
      go_ret
      exact ⟨rfl, hb5⟩
    · have t2' : ((b.length : Int) != (a.length : Int)) = true := by simp; omega
      clear h
      go_enter Try.func3, Try.ntmps3
      go_wp2_with (go_at_call 5; refine (awake_any _).mono ?_; rintro e w' ⟨rfl, hb5⟩)
      go_ret
      exact ⟨rfl, hb5⟩

theorem frameAdds_calls {H : Type} {enc : TypeId × Value → H} {W : World} {base : Nat} {v0 v1 v2 : Value} {d0 d1 d2 : DataW H} {p0 p1 p2 : List MemPlace}
    (o0 : Value.okWide Try.prog W .any base 22 v0) (h0 : DataW.Trod enc Try.prog W 0 (fun _ => true) true 22 v0 d0 p0)
    (o1 : Value.okWide Try.prog W .any base 22 v1) (h1 : DataW.Trod enc Try.prog W 0 (fun _ => true) true 22 v1 d1 p1)
    (o2 : Value.okWide Try.prog W .any base 22 v2) (h2 : DataW.Trod enc Try.prog W 0 (fun _ => true) true 22 v2 d2 p2) :
    Calls Try.prog 3 #[v0, v1, v2] W fun e w' => e = .returned (.bool true) ∧ Below W.heap.size W w' := by
  obtain ⟨a, ha⟩ := view_bytes o0 h0
  obtain ⟨b, hb⟩ := view_bytes o1 h1
  obtain ⟨c, hc⟩ := view_bytes o2 h2
  by_cases h : 3000 < a.length ∨ b.length ≠ a.length ∨ c.length ≠ a.length
  · exact adds_else _ _ _ a b c W ha hb hc h
  · exact adds_true _ _ _ a b c W ha hb hc (by omega) (by omega) (by omega)
end Go.Proofs.Ytbllooaalodhaaa
