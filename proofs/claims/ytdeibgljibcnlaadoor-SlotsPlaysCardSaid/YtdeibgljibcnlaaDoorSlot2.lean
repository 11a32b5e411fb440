/- slices.Clone of bytes and of slots; slots.with. -/
import Derived.Test.YtdeibgljibcnlaaDoorSlot1
import Derived.WalkSpells
namespace Go.Proofs.YtdeibgljibcnlaaDoor
open Go.RowKit

/-- The call hands back bytes of its own. -/
def NewBytes (w : World) (l : List UInt8) (e : Ending) (w' : World) : Prop := ∃ v, e = .returned v ∧ Own w' w.heap.size v l ∧ Below w.heap.size w w'
/-- slices.Clone of bytes -/
theorem Clone_any (v : Value) (l : List UInt8) (w : World) (hv : Byt w v l) (hl : l.length ≤ 140737488355328) :
    Calls Tryd.prog 39 #[v] w (NewBytes w l) := by
  obtain ⟨ao, c, rfl, h1, h2, h0, h3⟩ := hv.open
  unfold maxLen at h2
  cases ao with
  | none =>
    obtain rfl := h0 rfl
    obtain rfl : l = [] := List.eq_nil_of_length_eq_zero (by omega)
    have he := Lib.run_eql_slice_nil (P := Tryd.prog) w 30 5 none 0 0 0 0 Tryd.underlying30
    go_enter Tryd.func39, Tryd.ntmps39
    go_wp2
    go_ret
    exact ⟨_, rfl, World.ownsRow_nil _ _ _ _, Below.refl _ _⟩
  | some ad =>
    have he := Lib.run_eql_slice_nil (P := Tryd.prog) w 30 5 (some ad) l.length c 0 0 Tryd.underlying30
    go_enter Tryd.func39, Tryd.ntmps39
    have ho : Own (w.alloc (.cells #[] 5)) w.heap.size (.slice (some ⟨w.heap.size, 0, none⟩) 0 0) [] := World.ownsRow_lit w #[] 0 (Nat.le_refl _) (by simp [maxLen]) rfl
    have hv' : Byt (w.alloc (.cells #[] 5)) (.slice (some ad) l.length c) l := Rd.alloc hv _
    go_wp2_with (at_builtin; refine wpList_append_byt rfl _ _ rfl w.heap.size _ _ rfl ho _ _ rfl hv' ?c1 ?c2 ?_)
    case c1 => simp; omega
    case c2 => simp
    intro v2 w2 ho2 hb2
    go_wp2
    go_ret
    exact ⟨_, rfl, ho2, ((Below.refl _ _).alloc (Nat.le_refl _) _).trans hb2⟩

theorem info_slot : (Tryd.prog.info? 64).map (fun i => (i.zero, i.size, i.bytes)) = some (some (.agg #[.slice none 0 0, .bool false]), 2, 32) := by kernel_rfl

/-- the row's cells alone, of the call's own -/
def OwnR (w : World) (base : Nat) (L : Value) (r : List SlotV) : Prop := w.ownsRow base 64 2 L r.length (rowV r)
theorem OwnR.form {w : World} {base : Nat} {L : Value} {r : List SlotV} (h : OwnR w base L r) : ∃ ao c, L = .slice ao r.length c := by
  obtain ⟨ao, c, h, _⟩ := Rd.of_own h
  exact ⟨ao, c, h⟩
/-- append(v, x...) of slots -/
theorem wpList_append_slot {w : World} {ops : Array Oper} {rest : List Oper} {o : Oper} {a : Act} {Q : Exit → Act → World → Prop} (hgd : o.guard = none) (s x : Operand)
    (ho : o.op = .call { callee := .builtin .append, args := #[s, x], argTypes := #[59, 59] })
    (base : Nat) (v : Value) (r : List SlotV) (hs : a.eval s = v) (hown : OwnR w base v r) (y : Value) (m : List SlotV) (hx : a.eval x = y) (hy : Rd w y m.length (rowV m)) (hm : ∀ x ∈ m, ∃ ao n c, x.1 = .slice ao n c)
    (h63 : r.length + m.length ≤ 1000000) (hbase : base ≤ w.heap.size)
    (h : ∀ v' w', OwnR w' base v' (r ++ m) → Below base w w' → wpList Tryd.prog ops Q rest (a.put o.dst v') w') : wpList Tryd.prog ops Q (o :: rest) a w :=
  wpList_append_rd hgd s x 59 ho base 64 _ 2 32 Tryd.underlying59 info_slot rfl (by decide) v _ _ hs hown y _ _ hx hy (rowV_length _) (rowV_one _ hm) (by unfold maxLen; omega) (by omega) hbase
    fun v' w' h1 h2 _ => h v' w' (by unfold OwnR; rw [rowV_append, List.length_append]; exact h1) h2

/-- slices.Clone of slots -/
theorem CloneR_any {base : Nat} {L : Value} {r : List SlotV} {w : World} (h : RowIs w base L r) (hl : r.length ≤ 1000) :
    Calls Tryd.prog 59 #[L] w fun e w' => ∃ v, e = .returned v ∧ OwnR w' w.heap.size v r ∧ Below w.heap.size w w' := by
  have hf : ∀ x ∈ r, ∃ ao n c, x.1 = .slice ao n c := fun x hx => by
    obtain ⟨ao, c, e, _⟩ := (h.2 x hx).form
    exact ⟨ao, _, c, e⟩
  have hv := Rd.of_own h.1
  have hv0 := hv
  obtain ⟨ao, c, rfl, h1, h2, h0, h3⟩ := hv0
  unfold maxLen at h2
  have HF := Lib.hid hf
  clear h h3 hf
  cases ao with
  | none =>
    obtain rfl := h0 rfl
    obtain rfl : r = [] := List.eq_nil_of_length_eq_zero (by omega)
    have he := Lib.run_eql_slice_nil (P := Tryd.prog) w 59 64 none 0 0 0 0 Tryd.underlying59
    go_enter Tryd.func59, Tryd.ntmps59
    go_wp2
    go_ret
    exact ⟨_, rfl, World.ownsRow_nil _ _ _ _, Below.refl _ _⟩
  | some ad =>
    have he := Lib.run_eql_slice_nil (P := Tryd.prog) w 59 64 (some ad) r.length c 0 0 Tryd.underlying59
    go_enter Tryd.func59, Tryd.ntmps59
    have ho : OwnR (w.alloc (.cells #[] 64)) w.heap.size (.slice (some ⟨w.heap.size, 0, none⟩) 0 0) [] := World.ownsRow_lit w #[] 0 (Nat.le_refl _) (by simp [maxLen]) rfl
    have hv' : Rd (w.alloc (.cells #[] 64)) (.slice (some ad) r.length c) r.length (rowV r) := Rd.alloc hv _
    clear hv h0
    go_wp2_with (at_builtin; refine wpList_append_slot rfl _ _ rfl w.heap.size _ _ rfl ho _ r rfl hv' HF.out ?c1 ?c2 ?_)
    case c1 => simp; omega
    case c2 => simp
    intro v2 w2 ho2 hb2
    go_wp2
    go_ret
    exact ⟨_, rfl, ho2, ((Below.refl _ _).alloc (Nat.le_refl _) _).trans hb2⟩
end Go.Proofs.YtdeibgljibcnlaaDoor
