/- What slots.parse reads, in plain Lean; get16; append of slots with its frame. -/
import Derived.Test.YtdeibgljibcnlaaDoorPageBy
import Derived.BigQuiet
import Derived.Deep.QuietTactic
namespace Go.Proofs.YtdeibgljibcnlaaDoor
open Go.RowKit

/-- the number in two bytes at o -/
def num2 (b : List UInt8) (o : Nat) : Nat := (b.getD o 0).toNat + (b.getD (o + 1) 0).toNat * 256
theorem num2_lt (b : List UInt8) (o : Nat) : num2 b o < 65536 := by
  have h1 := (b.getD o 0).toNat_lt
  have h2 := (b.getD (o + 1) 0).toNat_lt
  unfold num2; omega
/-- slot i, as the bytes say; nothing where they lie -/
def slotAt (b : List UInt8) (i : Nat) : Option SlotL :=
  if num2 b (18 + 4 * i) = 0 then some none
  else if 512 < num2 b (16 + 4 * i) + (num2 b (18 + 4 * i) - 1) ∨ 400 < num2 b (18 + 4 * i) - 1 then none
  else some (some ((b.drop (num2 b (16 + 4 * i))).take (num2 b (18 + 4 * i) - 1)))
def parsedS (b : List UInt8) : Nat → Option (List SlotL)
  | 0 => some []
  | k + 1 => (parsedS b k).bind fun st => (slotAt b k).map fun x => st ++ [x]
theorem parsedS_none (b : List UInt8) : ∀ (n k : Nat), parsedS b k = none → k ≤ n → parsedS b n = none
  | 0, k, h, hk => by obtain rfl : k = 0 := by omega
                      exact h
  | n + 1, k, h, hk => by
    rcases Nat.eq_or_lt_of_le hk with e | e
    · rw [← e]; exact h
    · unfold parsedS
      rw [parsedS_none b n k h (by omega)]
      rfl
theorem parsedS_size (b : List UInt8) : ∀ (k : Nat) (st : List SlotL), parsedS b k = some st → st.length = k ∧ sizeS st ≤ 16 + 404 * k
  | 0, st, h => by
    obtain rfl : [] = st := Option.some.inj h
    simp [sizeS]
  | k + 1, st, h => by
    unfold parsedS at h
    obtain ⟨s0, h0, h1⟩ := Option.bind_eq_some_iff.1 h
    obtain ⟨x, h2, rfl⟩ := Option.map_eq_some_iff.1 h1
    obtain ⟨q1, q2⟩ := parsedS_size b k s0 h0
    have hx : blen x ≤ 400 := by
      unfold slotAt at h2
      split at h2
      · obtain rfl := Option.some.inj h2
        simp [blen]
      · split at h2
        · cases h2
        · obtain rfl := Option.some.inj h2
          simp only [blen, List.length_take]
          omega
    unfold sizeS at q2 ⊢
    rw [List.length_append, List.map_append, List.sum_append]
    simp only [List.length_cons, List.length_nil, List.map_cons, List.map_nil, List.sum_cons, List.sum_nil]
    omega
/-- the page's number, as the bytes say -/
def idB (b : List UInt8) : Nat := num2 b 2 + num2 b 4 * 65536
/-- is the last slot free? -/
def lastFree (st : List SlotL) : Bool := match st.getLast? with | some none => true | _ => false
/-- the page that the bytes are -/
def parseR (b : List UInt8) : Option (List SlotL) :=
  if 60 < (b.getD 1 0).toNat then none
  else (parsedS b (b.getD 1 0).toNat).bind fun st => if lastFree st = true ∨ 512 < sizeS st ∨ pageB (b.getD 0 0).toNat (idB b) st ≠ b then none else some st

theorem or_i64_nat (a b : Nat) (ha : a < 4294967296) (hb : b < 4294967296) : bits .or .i64 (a : Int) (b : Int) = ((a ||| b : Nat) : Int) := by
  show IntKind.i64.wrap ((BitVec.ofInt 64 (a : Int) ||| BitVec.ofInt 64 (b : Int)).toNat : Int) = _
  rw [BitVec.ofInt_natCast, BitVec.ofInt_natCast, BitVec.toNat_or, BitVec.toNat_ofNat, BitVec.toNat_ofNat, Nat.mod_eq_of_lt (by omega), Nat.mod_eq_of_lt (by omega)]
  have : a ||| b < 2 ^ 32 := Nat.or_lt_two_pow ha hb
  exact IntWalk.i64_in _ (by omega)
theorem or8 (x y : UInt8) : bits .or .i64 (x.toNat : Int) ((y.toNat * 256 : Nat) : Int) = ((x.toNat + y.toNat * 256 : Nat) : Int) := by
  have h1 := x.toNat_lt
  have h2 := y.toNat_lt
  rw [or_i64_nat _ _ (by omega) (by omega), show y.toNat * 256 = y.toNat * 2 ^ 8 from rfl, or_add _ _ 8 (by omega)]
theorem or16 (x y : Nat) (hx : x < 65536) (hy : y < 65536) : bits .or .i64 (x : Int) ((y * 65536 : Nat) : Int) = ((x + y * 65536 : Nat) : Int) := by
  rw [or_i64_nat _ _ (by omega) (by omega), show y * 65536 = y * 2 ^ 16 from rfl, or_add _ _ 16 (by omega)]

/-- slots.get16 -/
theorem get16_any (g off n c : Nat) (b : List UInt8) (w : World) (h : ∀ i (h : i < b.length), w.cell? ⟨g, off + i, none⟩ = some (.int .u8 (b[i].toNat : Int))) (hb : 2 ≤ b.length) (hn : 2 ≤ n) :
    Calls Tryd.prog 50 #[.slice (some ⟨g, off, none⟩) n c] w fun e w' => e = .returned (.int .i64 (num2 b 0)) ∧ ∃ m, w' = w.drewN m := by
  have c0 := h 0 (by omega)
  have c1 := h 1 (by omega)
  have e0 : b.getD 0 0 = b[0] := by simp [show 0 < b.length by omega]
  have e1 : b.getD 1 0 = b[1] := by simp [show 1 < b.length by omega]
  have eN := or8 b[0] b[1]
  have hN : num2 b 0 = b[0].toNat + b[1].toNat * 256 := by unfold num2; rw [e0, e1]
  rw [← hN] at eN
  have x0 := b[0].toNat_lt
  have x1 := b[1].toNat_lt
  generalize b[0].toNat = p0 at *
  generalize b[1].toNat = p1 at *
  generalize num2 b 0 = N at *
  have i1 : (1 : Int) < (n : Int) := by omega
  have i0 : (0 : Int) < (n : Int) := by omega
  rw [Nat.add_zero] at c0
  rw [Int.natCast_mul] at eN
  have eN' : bits .or .i64 (p0 : Int) ((p1 : Int) * 256) = (N : Int) := eN
  clear h e0 e1 hN eN
  go_enter Tryd.func50, Tryd.ntmps50
  go_wp2_with fail
  go_quiet (fail)
  go_wp2_with fail
  go_ret
  exact ⟨rfl, _, rfl⟩
theorem num2_drop (b : List UInt8) (o : Nat) : num2 (b.drop o) 0 = num2 b o := by
  unfold num2
  simp [List.getD_eq_getElem?_getD, List.getElem?_drop]
theorem get16_blk {g : Nat} {b : List UInt8} {w : World} (h : Blk w g b) (off n c : Nat) (ho : off + 2 ≤ b.length) (hn : 2 ≤ n) :
    Calls Tryd.prog 50 #[.slice (some ⟨g, off, none⟩) n c] w fun e w' => e = .returned (.int .i64 (num2 b off)) ∧ ∃ m, w' = w.drewN m := by
  have := get16_any g off n c (b.drop off) w (fun i hi => by
    rw [List.length_drop] at hi
    rw [(h.cell (j := off + i) (by omega)).1, List.getElem_drop]) (by rw [List.length_drop]; omega) hn
  rwa [num2_drop] at this

/-- of a row of slots' block, and of new ones, alone something has turned -/
structure FrmS (base : Nat) (w w' : World) : Prop where
  below : Below base w w'
  kept : ∀ (k : Nat) (c : Array Value) (t : TypeId) (m : Nat × Nat), w.heap[k]? = some (.cells c t m) → t ≠ 64 → w'.heap[k]? = w.heap[k]?
theorem FrmS.own {base : Nat} {w w' : World} (h : FrmS base w w') {b s n : Nat} {e : TypeId} {v : Value} {xs : List Value} (h1 : e ≠ 64) (ho : w.ownsRow b e s v n xs) : w'.ownsRow b e s v n xs := by
  refine ⟨ho.1, ?_⟩
  rcases ho.2 with hn | ⟨g, cap, cur, rfl, hbg, hg, q⟩
  · exact .inl hn
  · exact .inr ⟨g, cap, cur, rfl, hbg, (h.kept _ _ _ _ hg h1).trans hg, q⟩
theorem SlotIs.frmS {base B : Nat} {w w' : World} (h : FrmS B w w') {x : SlotV} (hx : SlotIs w base x) : SlotIs w' base x := by
  obtain ⟨v, o⟩ := x
  cases o with
  | none => exact hx
  | some l => exact h.own (by decide) (show w.ownsRow base 5 1 v l.length (bytesV l) from hx)

/-- append of slots onto a row of the call's own: what else is there stays -/
theorem wp_append_slotF {w : World} {o : Oper} {a : Act} {K : Act → World → Prop} {Q : Exit → Act → World → Prop} (s x : Operand)
    (ho : o.op = .call { callee := .builtin .append, args := #[s, x], argTypes := #[59, 59] })
    (base : Nat) (v : Value) (r : List SlotV) (hs : a.eval s = v) (hown : OwnR w base v r) (y : Value) (m : List SlotV) (hx : a.eval x = y) (hy : Rd w y m.length (rowV m)) (hm : ∀ x ∈ m, ∃ ao n c, x.1 = .slice ao n c)
    (h63 : r.length + m.length ≤ 1000000) (hbase : base ≤ w.heap.size)
    (h : ∀ v' w', OwnR w' base v' (r ++ m) → FrmS base w w' → K (a.put o.dst v') w') : o.wp Tryd.prog a w K Q := by
  obtain ⟨i, hi, hz, hsize, hby⟩ := info_parts info_slot
  obtain ⟨ao, c, rfl, h2, h3, h0, h4⟩ := hy
  have hl : (rowV m).length = m.length * 2 := rowV_length m
  cases ao with
  | none =>
    obtain rfl := h0 rfl
    obtain hm0 : m.length = 0 := by omega
    obtain rfl : m = [] := List.eq_nil_of_length_eq_zero hm0
    have hrun := run_append_owned_none (P := Tryd.prog) (w := w) base 59 o.type 64 i 2 Tryd.underlying59 hi v _ _ hown
    unfold Oper.wp
    simp only [List.length_nil] at hx
    simp [execOp, ho, resolve, invoke, builtin, hs, hx, hrun, Result.andThen]
    exact h v w (by simpa using hown) ⟨Below.refl _ _, fun _ _ _ _ _ _ => rfl⟩
  | some ad =>
    refine wp_append_own w s x 59 ho base 64 i _ 2 32 Tryd.underlying59 hi hz hsize hby rfl (by decide) v _ _ hs hown ad m.length c (rowV m) hx hl ?_ (rowV_one _ hm) (by unfold maxLen; omega) (by omega) hbase ?_
    · intro j u hu
      obtain ⟨hj, rfl⟩ := List.getElem?_eq_some_iff.1 hu
      obtain ⟨b, off, e, hlt, hc⟩ := h4 j hj
      obtain rfl := Option.some.inj e
      rw [Addr.add_lit]
      exact hc
    · intro v' w' h5 h6 h7
      refine h v' w' (by unfold OwnR; rw [rowV_append, List.length_append]; exact h5) ⟨below_grown hown h6 (Nat.le_refl _) hbase, fun k c t fm hk ht => ?_⟩
      refine h6.block k (lt_of_block hk) (fun q => ?_)
      obtain ⟨c', fz, h8⟩ := Go.Lib.ownsRow_kind hown k q.symm
      rw [hk] at h8
      simp at h8
      exact ht h8.2.1
theorem wpList_append_slotF {w : World} {ops : Array Oper} {rest : List Oper} {o : Oper} {a : Act} {Q : Exit → Act → World → Prop} (hgd : o.guard = none) (s x : Operand)
    (ho : o.op = .call { callee := .builtin .append, args := #[s, x], argTypes := #[59, 59] })
    (base : Nat) (v : Value) (r : List SlotV) (hs : a.eval s = v) (hown : OwnR w base v r) (y : Value) (m : List SlotV) (hx : a.eval x = y) (hy : Rd w y m.length (rowV m)) (hm : ∀ x ∈ m, ∃ ao n c, x.1 = .slice ao n c)
    (h63 : r.length + m.length ≤ 1000000) (hbase : base ≤ w.heap.size)
    (h : ∀ v' w', OwnR w' base v' (r ++ m) → FrmS base w w' → wpList Tryd.prog ops Q rest (a.put o.dst v') w') : wpList Tryd.prog ops Q (o :: rest) a w :=
  wpList_plain hgd fun _ hK => wp_append_slotF s x ho base v r hs hown y m hx hy hm h63 hbase fun v' w' h2 h3 => hK _ _ (h v' w' h2 h3)

/-- the page behind such an append and the store of its row -/
theorem PageIs.grown {w w' : World} {B q : Nat} {kind id : Int} {r : List SlotV} (h : PageIs w B q kind id r) (hf : FrmS B w w') {L : Value} {m : List SlotV} (ho : OwnR w' B L (r ++ m)) (hm : ∀ x ∈ m, SlotIs w' B x) :
    PageIs (w'.setCell ⟨q, 3, none⟩ L) B q kind id (r ++ m) ∧ w'.cell? ⟨q, 3, none⟩ = w.cell? ⟨q, 3, none⟩ ∧ w'.frozen? ⟨q, 3, none⟩ = false := by
  obtain ⟨h0, L0, h1, h2⟩ := h
  have h1' : w'.heap[q]? = some (.cells #[.bool true, .int .i64 kind, .int .i64 id, L0] 61 (0, 0)) := (hf.kept _ _ _ _ h1 (by decide)).trans h1
  refine ⟨⟨h0, L, page_setCell h1', RowIs.setPage (L := L) ⟨ho, fun x hx => ?_⟩ h1' 3 L⟩, ?_, free_page h1'⟩
  · rcases List.mem_append.1 hx with hx | hx
    · exact (h2.2 x hx).frmS hf
    · exact hm x hx
  · simp [World.cell?, h1, h1']
end Go.Proofs.YtdeibgljibcnlaaDoor
