/- fault.Find at any error. -/
import Derived.Test.YthijffpackkcnaaCode
import Derived.BigQuiet
import Derived.Deep.QuietTactic
namespace Go.Proofs.Ythijffpackkcnaa
open Go.RowKit

theorem toList_inj {a b : ByteArray} (h : a.toList = b.toList) : a = b := by
  rw [ByteArray.toList_eq, ByteArray.toList_eq] at h
  cases a; cases b
  simpa using h

def stopF (op : ByteArray) (_ : Option En) : En → Bool | .fault o _ _ => decide (o = op) | _ => false
def nextF (op : ByteArray) (s : Option En) : En → Option En | .fault o id x => if o = op then some (.fault o id x) else s | _ => s
/-- the pointer to the Fault that was found -/
def FoundP (w0 : World) : Option En → Value → Prop
  | none, p => p = .pointer none
  | some e, p => ∃ b, p = .pointer (some ⟨b, 0, none⟩) ∧ e.Is w0 (.iface 41 p)
def InvF (w0 : World) (op : ByteArray) (B : Nat) (_ : Nat) (s : Option En) (w : World) : Prop :=
  w.heap[B]? = some (.cells #[.string op] 9 (0, 0)) ∧ ∃ p, w.heap[B + 1]? = some (.cells #[p] 41 (0, 0)) ∧ FoundP w0 s p
theorem stands_find (w0 : World) (op : ByteArray) (B : Nat) : Stands (InvF w0 op B) := ⟨fun m s w w' ⟨h1, p, h2, h3⟩ hb =>
  ⟨by rw [hb.block B (lt_of_block h1)]; exact h1, p, by rw [hb.block (B + 1) (lt_of_block h2)]; exact h2, h3⟩, fun _ _ _ h => h⟩
theorem enters_find : Enters 23 := enters_of Try.func23 (by kernel_rfl) (by kernel_rfl)

set_option maxHeartbeats 2000000 in
theorem asked_find_fault (op : ByteArray) (B : Nat) (w0 : World) (hB : w0.heap.size ≤ B) (m : Nat) (s : Option En) (o : ByteArray) (id : Int) (x : En) (u : Value) (w : World) (he : (En.fault o id x).Is w0 u) (hb : Below w0.heap.size w0 w) (hi : InvF w0 op B (m + 1) s w) :
    Calls Try.prog 23 #[u, .pointer (some ⟨B, 0, none⟩), .pointer (some ⟨B + 1, 0, none⟩)] w fun ev w' => ev = .returned (.bool (stopF op s (.fault o id x))) ∧ InvF w0 op B m (nextF op s (.fault o id x)) w' ∧ Below w0.heap.size w0 w' := by
  obtain ⟨i1, q, i2, i3⟩ := hi
  have hc1 := cell_of_one i1
  have hc2 := cell_of_one i2
  have hf2 := free_of_one i2
  have HE := Lib.hid he
  have I1 := Lib.hid i1
  have I2 := Lib.hid i2
  have I3 := Lib.hid i3
  clear he i1 i2 i3
  by_cases h : o = op
  · subst h
    have hst : stopF o s (.fault o id x) = true := by simp [stopF]
    have hnx : nextF o s (.fault o id x) = some (.fault o id x) := by simp [nextF]
    rw [hst, hnx]
    clear hst hnx
    go_enter Try.func23, Try.ntmps23
    go_wp2_with (go_at_call 24; refine (asFault_any _ _ w0 _ HE.out (fun h => by cases h)).mono ?_; rintro ev w' ⟨p, rfl, ⟨b, rfl, hb1, q1, q2, q3⟩, rfl⟩; replace q1 := (hb.cell (p := ⟨b, 0, none⟩) hb1).trans q1; have Q3 := Lib.hid q3; clear q2 q3)
    go_quiet (fail)
    go_wp2_with fail
    go_ret
    exact ⟨rfl, ⟨(Below.heap_setCell _ _ _ _ (by simp)).trans I1.out, _, one_setCell I2.out, b, rfl, Q3.out⟩, (Below.drewN' hb _).setCell (Nat.le_trans hB (Nat.le_succ _)) _⟩
  · have hst : stopF op s (.fault o id x) = false := by simp [stopF, h]
    have hnx : nextF op s (.fault o id x) = s := by simp [nextF, h]
    rw [hst, hnx]
    have bo : (o.toList == op.toList) = false := by simpa using fun h' => h (toList_inj h')
    have bo' : (o.toList != op.toList) = true := by simpa using fun h' => h (toList_inj h')
    clear hst hnx h
    go_enter Try.func23, Try.ntmps23
    go_wp2_with (go_at_call 24; refine (asFault_any _ _ w0 _ HE.out (fun h => by cases h)).mono ?_; rintro ev w' ⟨p, rfl, ⟨b, rfl, hb1, q1, q2, q3⟩, rfl⟩; replace q1 := (hb.cell (p := ⟨b, 0, none⟩) hb1).trans q1; clear q2 q3)
    go_quiet (fail)
    go_wp2_with fail
    go_ret
    exact ⟨rfl, ⟨I1.out, _, I2.out, I3.out⟩, Below.drewN' hb _⟩

set_option maxHeartbeats 1000000 in
theorem asked_find (op : ByteArray) (B : Nat) (w0 : World) (hB : w0.heap.size ≤ B) : Asked 23 #[.pointer (some ⟨B, 0, none⟩), .pointer (some ⟨B + 1, 0, none⟩)] (InvF w0 op B) (stopF op) (nextF op) w0 := by
  intro m s e u w hn he hb hi
  show Calls _ _ #[u, .pointer (some ⟨B, 0, none⟩), .pointer (some ⟨B + 1, 0, none⟩)] _ _
  cases e with
  | fault o id x => exact asked_find_fault op B w0 hB m s o id x u w he hb hi
  | none => exact absurd rfl hn
  | _ =>
    have HE := Lib.hid he
    have HI := Lib.hid ((stands_find w0 op B).2 _ _ _ hi)
    have HN := Lib.hid hn
    clear he hi hn
    go_enter Try.func23, Try.ntmps23
    go_wp2_with (go_at_call 24; refine (asFault_any _ _ w0 _ HE.out HN.out).mono ?_; rintro ev w' ⟨p, rfl, rfl, rfl⟩)
    go_quiet (fail)
    go_wp2_with fail
    go_ret
    exact ⟨rfl, HI.out, Below.drewN' hb _⟩

/-- the first Fault of an op within an error -/
def En.find (op : ByteArray) (e : En) : Option En := (runs (stopF op) (nextF op) Option.none e.pre).2
theorem runsF_some (op : ByteArray) : ∀ (l : List En) (s : Option En), s = none → (runs (stopF op) (nextF op) s l).1 = (runs (stopF op) (nextF op) s l).2.isSome
  | [], s, h => by subst h; rfl
  | e :: l, s, h => by
    subst h
    have ih := runsF_some op l none rfl
    cases e with
    | fault o id x =>
      by_cases hq : o = op
      · simp [runs, stopF, nextF, hq]
      · simp [runs, stopF, nextF, hq, ih]
    | _ => simp [runs, stopF, nextF, ih]

/-- The call hands back a pointer to the Fault, or nil. -/
def FindRet (w : World) (r : Option En) (e : Ending) (w' : World) : Prop :=
  ∃ p, e = .returned (.tuple #[p, .bool r.isSome]) ∧ FoundP w r p ∧ Below w.heap.size w w'

set_option maxHeartbeats 1000000 in
theorem Find_any (op : ByteArray) (e : En) (u : Value) (w : World) (he : e.Is w u) :
    Calls Try.prog 12 #[u, .string op] w (FindRet w (e.find op)) := by
  have hmf : ∀ (fn : Fn) (first cap : Array Value) (w : World), (Instr.makeFunc fn first cap).run Try.prog w = .ok (.func fn first cap) w := fun _ _ _ _ => rfl
  have b0 : Below w.heap.size w ((w.alloc (.cells #[.string op] 9)).alloc (.cells #[.pointer none] 41)) := ((Below.refl _ _).alloc (Nat.le_refl _) _).alloc (by simp) _
  have hi : InvF w op w.heap.size (e.pre.length + 0) none ((w.alloc (.cells #[.string op] 9)).alloc (.cells #[.pointer none] 41)) :=
    ⟨(Below.heap_alloc _ _ _ (by simp)).trans (heap_alloc_new _ _), .pointer none, by
      have := heap_alloc_new (w.alloc (.cells #[.string op] 9)) (.cells #[.pointer none] 41)
      simpa using this, rfl⟩
  have hC := Lib.hid (within_any _ _ _ (stopF op) (nextF op) w (asked_find op w.heap.size w (Nat.le_refl _)) (stands_find _ _ _) enters_find e.sz e u _ none 0 (Nat.le_refl _) he b0 hi)
  have hS := Lib.hid (runsF_some op e.pre none rfl)
  clear hi b0
  have HE := Lib.hid he
  clear he
  go_enter Try.func12, Try.ntmps12
  go_wp2_with fail
  refine hC.out.mono ?_
  unfold RunsTo
  rw [hS.out, show (runs (stopF op) (nextF op) none e.pre).2 = e.find op from rfl]
  rintro ev w1 ⟨rfl, ⟨i0, p, i1, hp⟩, b1⟩
  have hc := cell_of_one i1
  have hf := free_of_one i1
  obtain ⟨ad, rfl⟩ : ∃ ad, p = .pointer ad := by
    cases hq : e.find op with
    | none => rw [hq] at hp; exact ⟨_, hp⟩
    | some y => rw [hq] at hp; obtain ⟨b, h, _⟩ := hp; exact ⟨_, h⟩
  have hb2 := b1.setCell (Nat.le_succ _) (p := ⟨w.heap.size + 1, 0, none⟩) (.pointer ad)
  have hs1 := one_setCell (u := .pointer ad) i1
  have hc1 := cell_of_one hs1
  have HP := Lib.hid hp
  clear i0 i1 hs1 hp
  generalize e.find op = r at *
  go_wp2_with fail
  exact bodyPost_ret (v := .tuple #[.pointer ad, .bool r.isSome]) (by simp [results, Try.results12, go_sem, hc1]) rfl ⟨_, rfl, HP.out, hb2⟩
end Go.Proofs.Ythijffpackkcnaa
