/- fault.Chain at any error. -/
import Derived.Test.YthijffpackkcnaaDoorCodeD
import Derived.Deep.RegionLaw
namespace Go.Proofs.YthijffpackkcnaaDoor
open Go.RowKit

/-- The cells of strings. -/
def strsV (l : List ByteArray) : List Value := l.map Value.string
theorem strsV_one (l : List ByteArray) : ∀ u ∈ strsV l, u.oneCell' = true := by
  intro u hu
  obtain ⟨c, _, rfl⟩ := List.mem_map.1 hu
  rfl
theorem info_str : (Tryd.prog.info? 9).map (fun i => (i.zero, i.size, i.bytes)) = some (some (.string ByteArray.empty), 1, 16) := by kernel_rfl
/-- v is a row of strings of the call's own -/
def OwnS (w : World) (base : Nat) (v : Value) (l : List ByteArray) : Prop := w.ownsRow base 9 1 v l.length (strsV l)

def stopH (_ : List ByteArray) (_ : En) : Bool := false
def nextH (s : List ByteArray) : En → List ByteArray | .fault op _ _ => s ++ [op] | _ => s
/-- the cell of the captured list, and the list -/
def InvH (B : Nat) (m : Nat) (s : List ByteArray) (w : World) : Prop := s.length + m ≤ 1000000 ∧ ∃ v, w.heap[B]? = some (.cells #[v] 22 (0, 0)) ∧ OwnS w (B + 1) v s ∧ ∃ ao c, v = .slice ao s.length c
theorem stands_chain (B : Nat) : Stands (InvH B) := ⟨fun m s w w' ⟨hm, v, h, ho, hf⟩ hb => by
    have := lt_of_block h
    exact ⟨hm, v, by rw [hb.block B this]; exact h, own_below' ho hb, hf⟩, fun m s w ⟨hm, h⟩ => ⟨by omega, h⟩⟩
theorem enters_chain : Enters 25 := enters_of Tryd.func25 (by kernel_rfl) (by kernel_rfl)
theorem OwnS.form {w : World} {base : Nat} {v : Value} {l : List ByteArray} (h : OwnS w base v l) : ∃ ao c, v = .slice ao l.length c := by
  obtain ⟨ao, c, h, _⟩ := Rd.of_own h
  exact ⟨ao, c, h⟩

/-- the list has one more -/
theorem invH_store {B m : Nat} {s : List ByteArray} {op : ByteArray} {w w1 : World} {v' : Value} (hm : s.length + (m + 1) ≤ 1000000) (hv : w1.heap[B]? = some (.cells #[v'] 22 (0, 0)))
    (ho : w.ownsRow (B + 1) 9 1 v' (s.length + 1) (strsV s ++ [.string op])) (e : w1 = w.setCell ⟨B, 0, none⟩ v') : InvH B m (s ++ [op]) w1 := by
  subst e
  have ho' : OwnS w (B + 1) v' (s ++ [op]) := by unfold OwnS; rw [List.length_append]; simpa [strsV] using ho
  refine ⟨by simp; omega, v', hv, ownsRow_setCell_other ho' (fun hb => ?_) v', ho'.form⟩
  have := (World.ownsRow.lt ho' _ hb).1
  simp at this
  omega

set_option maxHeartbeats 2000000 in
theorem asked_chain_fault (B : Nat) (w0 : World) (hB : w0.heap.size ≤ B) (m : Nat) (s : List ByteArray) (op : ByteArray) (id : Int) (x : En) (u : Value) (w : World) (he : (En.fault op id x).Is w0 u) (hb : Below w0.heap.size w0 w) (hi : InvH B (m + 1) s w) :
    Calls Tryd.prog 25 #[u, .pointer (some ⟨B, 0, none⟩)] w fun ev w' => ev = .returned (.bool false) ∧ InvH B m (s ++ [op]) w' ∧ Below w0.heap.size w0 w' := by
  obtain ⟨hm, v, hv, ho, ao, c, rfl⟩ := hi
  have hc := cell_of_one hv
  have hf := free_of_one hv
  have hlt := lt_of_block hv
  have HE := Lib.hid he
  have HV := Lib.hid hv
  have HM := Lib.hid hm
  have hs : s.length ≤ 1000000 := by omega
  have HO := Lib.hid (show ∀ n, ((w.alloc (.cells #[.string op] 9)).drewN n).ownsRow (B + 1) 9 1 (.slice ao s.length c) s.length (strsV s) from fun n => World.ownsRow.alloc ho _)
  have HR := Lib.hid (show ∀ n, Rd ((w.alloc (.cells #[.string op] 9)).drewN n) (.slice (some ⟨w.heap.size, 0, none⟩) 1 1) 1 [.string op] from fun n => rd_alloc w #[.string op] 9 (0, 0) 1 (by simp [maxLen]))
  clear he ho hv hm
  go_enter Tryd.func25, Tryd.ntmps25
  go_wp2_with (go_at_call 26; refine (asFault_any _ _ w0 _ HE.out (fun h => by cases h)).mono ?_; rintro ev w' ⟨p, rfl, ⟨b, rfl, hb1, q1, q2⟩, rfl⟩; replace q1 := (hb.cell (p := ⟨b, 0, none⟩) hb1).trans q1; clear q2)
  go_region_law (refine step_append_rd (by rfl) _ _ 22 (by rfl) (B + 1) 9 _ 1 16 Tryd.underlying22 info_str rfl (by decide) (.slice ao s.length c) s.length (strsV s) (by rfl) (HO.out 1) _ 1 [.string op] (by rfl) (HR.out 1) rfl (by simp [Value.oneCell']) (by unfold maxLen; omega) (by omega) (by simp; omega) ?_; intro v2 w2 ho2 hb2 _; have hv2 := (hb2.block B (Nat.lt_succ_self _)).trans ((Below.heap_alloc w _ _ hlt).trans HV.out); have k1 := cell_of_one hv2; have k2 := free_of_one hv2; clear hc hf; obtain ⟨ao2, c2, rfl, _⟩ := Rd.of_own ho2)
  all_goals
    go_wp2
    go_ret
    exact ⟨rfl, invH_store HM.out (one_setCell hv2) ho2 rfl, ((((hb.alloc hb.size _).drew).trans (hb2.mono (by omega))).setCell hB _)⟩

theorem asked_chain (B : Nat) (w0 : World) (hB : w0.heap.size ≤ B) : Asked 25 #[.pointer (some ⟨B, 0, none⟩)] (InvH B) stopH nextH w0 := by
  intro m s e u w hn he hb hi
  show Calls _ _ #[u, .pointer (some ⟨B, 0, none⟩)] _ _
  cases e with
  | fault op id x => exact asked_chain_fault B w0 hB m s op id x u w he hb hi
  | none => exact absurd rfl hn
  | _ =>
    have HE := Lib.hid he
    have HI := Lib.hid ((stands_chain B).2 _ _ _ hi)
    have HN := Lib.hid hn
    clear he hi hn
    go_enter Tryd.func25, Tryd.ntmps25
    go_wp2_with (go_at_call 26; refine (asFault_any _ _ w0 _ HE.out HN.out).mono ?_; rintro ev w' ⟨p, rfl, rfl, rfl⟩)
    go_ret
    exact ⟨rfl, HI.out, hb⟩

/-- the ops of all Faults within an error -/
def En.chain (e : En) : List ByteArray := (runs stopH nextH [] e.pre).2

/-- The call hands back strings of its own. -/
def StrsRet (w : World) (l : List ByteArray) (e : Ending) (w' : World) : Prop := ∃ v, e = .returned v ∧ OwnS w' w.heap.size v l ∧ Below w.heap.size w w'

theorem Chain_any (e : En) (u : Value) (w : World) (he : e.Is w u) (hl : e.pre.length ≤ 1000000) :
    Calls Tryd.prog 12 #[u] w (StrsRet w e.chain) := by
  have hmf : ∀ (fn : Fn) (first cap : Array Value) (w : World), (Instr.makeFunc fn first cap).run Tryd.prog w = .ok (.func fn first cap) w := fun _ _ _ _ => rfl
  have hi : InvH w.heap.size (e.pre.length + 0) [] (w.alloc (.cells #[.slice none 0 0] 22)) := ⟨by simpa using hl, _, heap_alloc_new _ _, World.ownsRow_nil _ _ _ _, _, _, rfl⟩
  have hC := Lib.hid (within_any _ _ _ stopH nextH w (asked_chain w.heap.size w (Nat.le_refl _)) (stands_chain _) enters_chain e.sz e u _ [] 0 (Nat.le_refl _) he ((Below.refl _ _).alloc (Nat.le_refl _) _) hi)
  clear hi hl
  have HE := Lib.hid he
  clear he
  go_enter Tryd.func12, Tryd.ntmps12
  go_wp2_with fail
  refine hC.out.mono ?_
  unfold RunsTo
  rw [show (runs stopH nextH [] e.pre).2 = e.chain from rfl]
  rintro ev w1 ⟨rfl, ⟨_, v, i1, ho, ao, c, rfl⟩, b1⟩
  have hc := cell_of_one i1
  have hf := free_of_one i1
  have hb2 := b1.setCell (Nat.le_refl _) (p := ⟨w.heap.size, 0, none⟩) (.slice ao e.chain.length c)
  have hs1 := one_setCell (u := .slice ao e.chain.length c) i1
  have hc1 := cell_of_one hs1
  have ho2 := own_base (ownsRow_setCell_other ho (a := ⟨w.heap.size, 0, none⟩) (fun hb => by have := (World.ownsRow.lt ho _ hb).1; simp at this; omega) (.slice ao e.chain.length c)) (Nat.le_succ _)
  have HO := Lib.hid ho2
  clear i1 hs1 ho ho2
  go_wp2_with fail
  exact bodyPost_ret (v := .slice ao e.chain.length c) (by simp [results, Tryd.results12, go_sem, hc1]) rfl ⟨_, rfl, HO.out, hb2⟩
end Go.Proofs.YthijffpackkcnaaDoor
