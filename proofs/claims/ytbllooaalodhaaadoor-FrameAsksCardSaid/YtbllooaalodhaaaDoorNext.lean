/- frame.get, frame.next, frame.Next. -/
import Derived.Test.YtbllooaalodhaaaDoorPut
import Derived.BigQuiet
import Derived.WalkSpells
import Derived.Deep.QuietTactic
namespace Go.Proofs.YtbllooaalodhaaaDoor
open Go.RowKit

theorem Below.drewN' {B : Nat} {a w : World} (h : Below B a w) (n : Nat) : Below B a (w.drewN n) := ⟨h.os, h.tape, h.output, h.size, h.block⟩

theorem get_any (v : Value) (l : List UInt8) (w : World) (hv : Byt w v l) (h4 : 4 ≤ l.length) :
    Calls Tryd.prog 30 #[v] w fun e w' => e = .returned (.int .u32 (get32 l : Int)) ∧ ∃ n, w' = w.drewN n := by
  obtain ⟨ao, c, rfl, h1, h2, h0, h3⟩ := hv.open
  unfold maxLen at h2
  obtain ⟨b, off, rfl, hb, hc0⟩ := h3 0 (by omega)
  have hc1 : w.cell? ⟨b, off + 1, none⟩ = some (.int .u8 ((l[1]).toNat : Int)) := by
    obtain ⟨b', off', e, _, hc⟩ := h3 1 (by omega); cases e; exact hc
  have hc2 : w.cell? ⟨b, off + 2, none⟩ = some (.int .u8 ((l[2]).toNat : Int)) := by
    obtain ⟨b', off', e, _, hc⟩ := h3 2 (by omega); cases e; exact hc
  have hc3 : w.cell? ⟨b, off + 3, none⟩ = some (.int .u8 ((l[3]).toNat : Int)) := by
    obtain ⟨b', off', e, _, hc⟩ := h3 3 (by omega); cases e; exact hc
  rw [Nat.add_zero] at hc0
  have i0 : (0 : Int) < (l.length : Int) := by omega
  have i1 : (1 : Int) < (l.length : Int) := by omega
  have i2 : (2 : Int) < (l.length : Int) := by omega
  have i3 : (3 : Int) < (l.length : Int) := by omega
  clear h3 h0
  go_enter Tryd.func30, Tryd.ntmps30
  go_wp2
  go_quiet (fail)
  go_wp2
  go_ret
  refine ⟨?_, _, rfl⟩
  have e : get32 l = l[0].toNat + l[1].toNat * 256 + l[2].toNat * 65536 + l[3].toNat * 16777216 := by
    simp [get32, List.getD_eq_getElem?_getD, show 0 < l.length by omega, show 1 < l.length by omega, show 2 < l.length by omega, show 3 < l.length by omega]
  rw [e, ← get32_walk]
  rfl


theorem get_bel (v : Value) (l : List UInt8) (w : World) (hv : Byt w v l) (h4 : 4 ≤ l.length) :
    Calls Tryd.prog 30 #[v] w fun e w' => e = .returned (.int .u32 (get32 l : Int)) ∧ Below w.heap.size w w' :=
  (get_any v l w hv h4).mono fun _ _ ⟨h, n, hw⟩ => ⟨h, by rw [hw]; exact Below.drewN' (Below.refl _ _) _⟩

/-- slices.Clone of bytes -/
theorem Clone_any (v : Value) (l : List UInt8) (w : World) (hv : Byt w v l) (hl : l.length ≤ 140737488355328) :
    Calls Tryd.prog 31 #[v] w (NewBytes w l) := by
  obtain ⟨ao, c, rfl, h1, h2, h0, h3⟩ := hv.open
  unfold maxLen at h2
  cases ao with
  | none =>
    obtain rfl := h0 rfl
    obtain rfl : l = [] := List.eq_nil_of_length_eq_zero (by omega)
    have he := Lib.run_eql_slice_nil (P := Tryd.prog) w 22 5 none 0 0 0 0 Tryd.underlying22
    go_enter Tryd.func31, Tryd.ntmps31
    go_wp2
    go_ret
    exact ⟨_, rfl, World.ownsRow_nil _ _ _ _, Below.refl _ _⟩
  | some ad =>
    have he := Lib.run_eql_slice_nil (P := Tryd.prog) w 22 5 (some ad) l.length c 0 0 Tryd.underlying22
    go_enter Tryd.func31, Tryd.ntmps31
    have ho : Own (w.alloc (.cells #[] 5)) w.heap.size (.slice (some ⟨w.heap.size, 0, none⟩) 0 0) [] := World.ownsRow_lit w #[] 0 (Nat.le_refl _) (by simp [maxLen]) rfl
    have hv' : Byt (w.alloc (.cells #[] 5)) (.slice (some ad) l.length c) l := Rd.alloc hv _
    go_wp2_with (at_builtin; refine wpList_append_byt rfl _ _ rfl w.heap.size _ _ rfl ho _ _ rfl hv' ?c1 ?c2 ?_)
    case c1 => simp; omega
    case c2 => simp
    intro v2 w2 ho2 hb2
    go_wp2
    go_ret
    exact ⟨_, rfl, ho2, ((Below.refl _ _).alloc (Nat.le_refl _) _).trans hb2⟩

/-! ### frame.next -/
/-- what bytes begin with: a frame, and how long it is; or why there is none -/
def nextOf (l : List UInt8) : Int × List UInt8 × Nat :=
  if l.length < 4 then (15, [], 0)
  else if 65536 < get32 l then (10, [], 0)
  else if l.length < get32 l + 8 then (15, [], 0)
  else if crcSum (l.take (get32 l + 4)) ≠ BitVec.ofNat 32 (get32 (l.drop (get32 l + 4))) then (10, [], 0)
  else (0, (l.drop 4).take (get32 l), get32 l + 8)

/-- The call hands back bytes, a number, and an error that is none or a number. -/
def NextRet (w : World) (r : Int × List UInt8 × Nat) (e : Ending) (w' : World) : Prop :=
  ∃ v u, e = .returned (.tuple #[v, .int .i64 (r.2.2 : Int), u]) ∧ Own w' w.heap.size v r.2.1 ∧ Er.Is w' (if r.1 = 0 then .none else .num r.1) u ∧ Below w.heap.size w w'

set_option maxRecDepth 100000 in
theorem next_ok (b off c : Nat) (l : List UInt8) (w : World) (hv : Byt w (.slice (some ⟨b, off, none⟩) l.length c) l) (hl : l.length ≤ 140737488355328) (h1 : l.length ≤ c) (h2 : c ≤ 9223372036854775807)
    (c1 : ¬ l.length < 4) (c2 : ¬ 65536 < get32 l) (c3 : ¬ l.length < get32 l + 8) (c4 : crcSum (l.take (get32 l + 4)) = BitVec.ofNat 32 (get32 (l.drop (get32 l + 4)))) :
    Calls Tryd.prog 24 #[.slice (some ⟨b, off, none⟩) l.length c] w (NextRet w (0, (l.drop 4).take (get32 l), get32 l + 8)) := by
  have hg := get32_lt l
  generalize hG : get32 l = G at *
  have HG := Lib.hid hG; clear hG
  have t1 := hv.take (m := G + 4) (by omega)
  have t2 := hv.drop (m := G + 4) (by omega)
  have u4 : Byt w (.slice (some ⟨b, off + 4, none⟩) G (c - 4)) ((l.drop 4).take G) := by
    have h := hv.drop (m := 4) (by omega)
    rw [← List.length_drop] at h
    exact h.take (by rw [List.length_drop]; omega)
  have hlen : ((l.drop 4).take G).length ≤ 140737488355328 := by rw [List.length_take, List.length_drop]; omega
  generalize hX : crcSum (l.take (G + 4)) = X at *
  have HX := Lib.hid hX; clear hX
  have hY := get32_lt (l.drop (G + 4))
  have hdl : 4 ≤ (l.drop (G + 4)).length := by rw [List.length_drop]; omega
  generalize hYe : get32 (l.drop (G + 4)) = Y at *
  have HY := Lib.hid hYe; clear hYe
  have e1 : IntKind.i64.wrap ((G : Int) + 8 - 4) = (G : Int) + 4 := by rw [IntWalk.i64_in _ (by omega)]; omega
  have e2 : ((G : Int) + 4).toNat = G + 4 := by omega
  have e3 : (0 : Int) ≤ (G : Int) + 4 := by omega
  have e4 : (G : Int) + 4 ≤ (c : Int) := by omega
  have e5 : (G : Int) + 4 ≤ (l.length : Int) := by omega
  have e6 : (c == G + 4) = false := by simp; omega
  have e7 : ¬ c = G + 4 := by omega
  have e8 : ¬ c = 4 := by omega
  have b4 : ((X.toNat : Int) != (Y : Int)) = false := by rw [c4]; simp; omega
  clear c4
  go_enter Tryd.func24, Tryd.ntmps24
  go_wp2_with (go_at_call 30; refine (get_bel _ _ _ hv (by omega)).mono ?_; rw [HG.out]; rintro e w1 ⟨rfl, hb1⟩)
  have u1 := t1.below hb1
  have u2 := t2.below hb1
  have u3 := hv.below hb1
  have r1 : ∀ m, Calls Tryd.prog 20 #[.slice (some ⟨b, off, none⟩) (G + 4) c] (w1.drewN m) fun e w'' => e = .returned (.int .u32 (X.toNat : Int)) ∧ ∃ m, w'' = w1.drewN m := fun m => by
    have := sum_any _ _ _ (u1.drewN m)
    rw [HX.out] at this
    exact this.mono fun e w' ⟨h1, h2⟩ => ⟨h1, m, h2.symm⟩
  have r2 : ∀ m, Calls Tryd.prog 30 #[.slice (some ⟨b, off + (G + 4), none⟩) (l.length - (G + 4)) (c - (G + 4))] (w1.drewN m) fun e w'' => e = .returned (.int .u32 (Y : Int)) ∧ ∃ m, w'' = w1.drewN m := fun m => by
    have := get_any _ _ _ (u2.drewN m) hdl
    rw [HY.out] at this
    exact Calls.quiet_of this
  have R1 := Lib.hid r1
  have R2 := Lib.hid r2
  clear r1 r2
  go_quiet ((first | exact R1.out _ | exact R2.out _))
  clear e1
  go_wp2_with (first | (refine wpList_slice_lh (o := ⟨some 41, _, _, _, _, _⟩) rfl _ _ _ 22 5 rfl Tryd.underlying22 1 (by kernel_rfl) b off l.length c rfl _ _ _ _ rfl rfl 4 (G + 4) rfl (by omega) (by omega) (by omega) (by omega) ?_; rw [Nat.mul_one, Nat.add_sub_cancel]) | (go_at_call 31; refine (Clone_any _ _ _ ((u4.below hb1).drewN _) hlen).mono ?_; rintro e w2 ⟨v2, rfl, ho2, hb2⟩))
  go_ret3
  exact ⟨_, _, rfl, own_base ho2 hb1.size, rfl, (Below.drewN' hb1 _).trans (hb2.mono hb1.size)⟩

theorem next_bad (b off c : Nat) (l : List UInt8) (w : World) (hv : Byt w (.slice (some ⟨b, off, none⟩) l.length c) l) (hl : l.length ≤ 140737488355328) (h1 : l.length ≤ c) (_h2 : c ≤ 9223372036854775807)
    (c1 : ¬ l.length < 4) (c2 : ¬ 65536 < get32 l) (c3 : ¬ l.length < get32 l + 8) (c4 : crcSum (l.take (get32 l + 4)) ≠ BitVec.ofNat 32 (get32 (l.drop (get32 l + 4)))) :
    Calls Tryd.prog 24 #[.slice (some ⟨b, off, none⟩) l.length c] w (NextRet w (10, [], 0)) := by
  have hg := get32_lt l
  generalize hG : get32 l = G at *
  have HG := Lib.hid hG; clear hG
  have t1 := hv.take (m := G + 4) (by omega)
  have t2 := hv.drop (m := G + 4) (by omega)
  have u4 : Byt w (.slice (some ⟨b, off + 4, none⟩) G (c - 4)) ((l.drop 4).take G) := by
    have h := hv.drop (m := 4) (by omega)
    rw [← List.length_drop] at h
    exact h.take (by rw [List.length_drop]; omega)
  generalize hX : crcSum (l.take (G + 4)) = X at *
  have HX := Lib.hid hX; clear hX
  have hY := get32_lt (l.drop (G + 4))
  have hdl : 4 ≤ (l.drop (G + 4)).length := by rw [List.length_drop]; omega
  generalize hYe : get32 (l.drop (G + 4)) = Y at *
  have HY := Lib.hid hYe; clear hYe
  have e1 : IntKind.i64.wrap ((G : Int) + 8 - 4) = (G : Int) + 4 := by rw [IntWalk.i64_in _ (by omega)]; omega
  have e2 : ((G : Int) + 4).toNat = G + 4 := by omega
  have e3 : (0 : Int) ≤ (G : Int) + 4 := by omega
  have e4 : (G : Int) + 4 ≤ (c : Int) := by omega
  have e5 : (G : Int) + 4 ≤ (l.length : Int) := by omega
  have e6 : (c == G + 4) = false := by simp; omega
  have e7 : ¬ c = G + 4 := by omega
  have b4 : ((X.toNat : Int) != (Y : Int)) = true := by
    simp; intro h; apply c4; apply BitVec.eq_of_toNat_eq; simp; omega
  go_enter Tryd.func24, Tryd.ntmps24
  go_wp2_with (go_at_call 30; refine (get_bel _ _ _ hv (by omega)).mono ?_; rw [HG.out]; rintro e w1 ⟨rfl, hb1⟩)
  have u1 := t1.below hb1
  have u2 := t2.below hb1
  have u3 := hv.below hb1
  have r1 : ∀ m, Calls Tryd.prog 20 #[.slice (some ⟨b, off, none⟩) (G + 4) c] (w1.drewN m) fun e w'' => e = .returned (.int .u32 (X.toNat : Int)) ∧ ∃ m, w'' = w1.drewN m := fun m => by
    have := sum_any _ _ _ (u1.drewN m)
    rw [HX.out] at this
    exact this.mono fun e w' ⟨h1, h2⟩ => ⟨h1, m, h2.symm⟩
  have r2 : ∀ m, Calls Tryd.prog 30 #[.slice (some ⟨b, off + (G + 4), none⟩) (l.length - (G + 4)) (c - (G + 4))] (w1.drewN m) fun e w'' => e = .returned (.int .u32 (Y : Int)) ∧ ∃ m, w'' = w1.drewN m := fun m => by
    have := get_any _ _ _ (u2.drewN m) hdl
    rw [HY.out] at this
    exact Calls.quiet_of this
  have R1 := Lib.hid r1
  have R2 := Lib.hid r2
  clear r1 r2
  go_quiet ((first | exact R1.out _ | exact R2.out _))
  clear e1
  go_wp2
  go_ret3
  exact ⟨_, _, rfl, World.ownsRow_nil _ _ _ _, rfl, Below.drewN' hb1 _⟩

theorem next_any (v : Value) (l : List UInt8) (w : World) (hv : Byt w v l) (hl : l.length ≤ 140737488355328) :
    Calls Tryd.prog 24 #[v] w (NextRet w (nextOf l)) := by
  obtain ⟨ao, c, rfl, h1, h2, h0, h3⟩ := hv.open
  unfold maxLen at h2
  unfold nextOf
  by_cases c1 : l.length < 4
  · rw [if_pos c1]
    clear h3
    go_enter Tryd.func24, Tryd.ntmps24
    go_wp2
    go_ret3
    exact ⟨_, _, rfl, World.ownsRow_nil _ _ _ _, rfl, Below.refl _ _⟩
  · rw [if_neg c1]
    have hg := get32_lt l
    by_cases c2 : 65536 < get32 l
    · rw [if_pos c2]
      clear h3
      go_enter Tryd.func24, Tryd.ntmps24
      go_wp2_with (go_at_call 30; refine (get_any _ _ _ hv (by omega)).mono ?_; rintro e w' ⟨rfl, n, rfl⟩)
      go_ret3
      exact ⟨_, _, rfl, World.ownsRow_nil _ _ _ _, rfl, Below.drewN' (Below.refl _ _) _⟩
    · rw [if_neg c2]
      by_cases c3 : l.length < get32 l + 8
      · rw [if_pos c3]
        clear h3
        go_enter Tryd.func24, Tryd.ntmps24
        go_wp2_with (go_at_call 30; refine (get_any _ _ _ hv (by omega)).mono ?_; rintro e w' ⟨rfl, n, rfl⟩)
        go_ret3
        exact ⟨_, _, rfl, World.ownsRow_nil _ _ _ _, rfl, Below.drewN' (Below.refl _ _) _⟩
      · rw [if_neg c3]
        obtain ⟨b, off, rfl, hb, hc0⟩ := h3 0 (by omega)
        by_cases c4 : crcSum (l.take (get32 l + 4)) = BitVec.ofNat 32 (get32 (l.drop (get32 l + 4)))
        · rw [if_neg (by simpa using c4)]
          exact next_ok b off c l w hv hl h1 h2 c1 c2 c3 c4
        · rw [if_pos c4]
          exact next_bad b off c l w hv hl h1 h2 c1 c2 c3 c4

/-- the letters of 'frame' -/
def frameStr : ByteArray := ⟨#[102, 114, 97, 109, 101]⟩
/-- The call hands back bytes, a number, and an error. -/
def NextRet2 (w : World) (r : Int × List UInt8 × Nat) (e : Ending) (w' : World) : Prop :=
  ∃ v u, e = .returned (.tuple #[v, .int .i64 (r.2.2 : Int), u]) ∧ Own w' w.heap.size v r.2.1 ∧ Er.Is w' (if r.1 = 0 then .none else .fault frameStr 0 (.num r.1)) u ∧ Below w.heap.size w w'

theorem Next_any (v : Value) (l : List UInt8) (w : World) (hv : Byt w v l) (hl : l.length ≤ 140737488355328) :
    Calls Tryd.prog 10 #[v] w (NextRet2 w (nextOf l)) := by
  generalize hr : nextOf l = r
  have HR := Lib.hid hr; clear hr
  go_enter Tryd.func10, Tryd.ntmps10
  go_wp2_with fail
  refine (next_any v l w hv hl).mono ?_
  rw [HR.out]
  rintro e w1 ⟨v1, u1, rfl, ho1, he1, hb1⟩
  go_wp2_with fail
  refine (New_er frameStr 0 _ _ _ he1).mono ?_
  rintro e w2 ⟨u2, rfl, he2, hb2⟩
  go_wp2
  go_ret3
  refine ⟨_, _, rfl, ho1.below hb2, ?_, hb1.trans (hb2.mono hb1.size)⟩
  by_cases h : r.1 = 0
  · rw [if_pos h] at he2 ⊢; exact he2
  · rw [if_neg h] at he2 ⊢; exact he2
end Go.Proofs.YtbllooaalodhaaaDoor
