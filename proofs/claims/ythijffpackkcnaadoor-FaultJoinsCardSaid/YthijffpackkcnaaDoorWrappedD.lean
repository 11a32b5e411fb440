/- fault.wrapped: what an error wraps; errors.Unwrap: the one that it wraps. -/
import Derived.Test.YthijffpackkcnaaDoorEnD
namespace Go.Proofs.YthijffpackkcnaaDoor
open Go.RowKit Go.Extern.Stop Go.Stop Go.Extern

/-! ### which methods the errors have -/
theorem as1_lacks_num (v : Value) (xT : TypeId) (w : World) : (Instr.typeAssert (.iface 25 v) xT 72 true).run Tryd.prog w = .ok (.tuple #[.nilIface, .bool false]) w := run_typeAssert_lacksB Tryd.underlying72 (by kernel_rfl) (by kernel_rfl) v xT w
theorem as1_has_fault (v : Value) (xT : TypeId) (w : World) : (Instr.typeAssert (.iface 29 v) xT 72 true).run Tryd.prog w = .ok (.tuple #[.iface 29 v, .bool true]) w := run_typeAssert_hasB Tryd.underlying72 (by kernel_rfl) v xT w
theorem as1_lacks_join (v : Value) (xT : TypeId) (w : World) : (Instr.typeAssert (.iface 81 v) xT 72 true).run Tryd.prog w = .ok (.tuple #[.nilIface, .bool false]) w := run_typeAssert_lacksB Tryd.underlying72 (by kernel_rfl) (by kernel_rfl) v xT w
theorem as2_lacks_num (v : Value) (xT : TypeId) (w : World) : (Instr.typeAssert (.iface 25 v) xT 74 true).run Tryd.prog w = .ok (.tuple #[.nilIface, .bool false]) w := run_typeAssert_lacksB Tryd.underlying74 (by kernel_rfl) (by kernel_rfl) v xT w
theorem as2_has_join (v : Value) (xT : TypeId) (w : World) : (Instr.typeAssert (.iface 81 v) xT 74 true).run Tryd.prog w = .ok (.tuple #[.iface 81 v, .bool true]) w := run_typeAssert_hasB Tryd.underlying74 (by kernel_rfl) v xT w
theorem m_fault (v : Value) (w : World) : (Go.method 215 29 v "Unwrap").run Tryd.prog w = .ok (52, v) w := by kernel_rfl
theorem m_join (v : Value) (w : World) : (Go.method 215 81 v "Unwrap").run Tryd.prog w = .ok (68, v) w := by kernel_rfl

theorem U_fault (b : Nat) (u : Value) (w : World) (h : w.cell? ⟨b, 2, none⟩ = some u) :
    Calls Tryd.prog 52 #[.pointer (some ⟨b, 0, none⟩)] w fun e w' => e = .returned u ∧ w = w' := by
  go_enter Tryd.func52, Tryd.ntmps52
  go_wp2
  go_ret
  exact ⟨rfl, rfl⟩
theorem U_nilf (w : World) :
    Calls Tryd.prog 52 #[.pointer none] w fun e w' => e = .returned .nilIface ∧ w = w' := by
  go_enter Tryd.func52, Tryd.ntmps52
  go_wp2
  go_ret
  exact ⟨rfl, rfl⟩
theorem U_join (b : Nat) (u : Value) (w : World) (h : w.cell? ⟨b, 0, none⟩ = some u) :
    Calls Tryd.prog 68 #[.pointer (some ⟨b, 0, none⟩)] w fun e w' => e = .returned u ∧ w = w' := by
  go_enter Tryd.func68, Tryd.ntmps68
  go_wp2
  go_ret
  exact ⟨rfl, rfl⟩

/-- The call hands back these, one by one. -/
def Wraps (w0 w : World) (l : List En) (e : Ending) (w' : World) : Prop :=
  ∃ sv vs, e = .returned sv ∧ Rd w' sv l.length vs ∧ EnsIs w0 l vs ∧ Below w.heap.size w w' ∧ (l.length ≤ 1 ∨ Rd w0 sv l.length vs)

theorem En.Is.form {w : World} {e : En} {u : Value} (h : e.Is w u) : u = .nilIface ∨ ∃ T v, u = .iface T v := by
  cases e with
  | none => exact Or.inl h
  | num k => exact Or.inr ⟨_, _, h⟩
  | fault op id e => obtain ⟨b, y, h, _⟩ := h; exact Or.inr ⟨_, _, h⟩
  | many j l => obtain ⟨_, b, s, vs, h, _⟩ := h; exact Or.inr ⟨_, _, h⟩
  | plain s => exact (show False from h).elim
  | nilf => exact Or.inr ⟨_, _, h⟩
  | cover e => exact (show False from h).elim
theorem En.Is.some {w : World} {e : En} {u : Value} (h : e.Is w u) (hn : e ≠ .none) : ∃ T v, u = .iface T v := by
  cases e with
  | none => exact absurd rfl hn
  | num k => exact ⟨_, _, h⟩
  | fault op id e => obtain ⟨b, y, h, _⟩ := h; exact ⟨_, _, h⟩
  | many j l => obtain ⟨_, b, s, vs, h, _⟩ := h; exact ⟨_, _, h⟩
  | plain s => exact (show False from h).elim
  | nilf => exact ⟨_, _, h⟩
  | cover e => exact (show False from h).elim

theorem rd_one (w : World) (u : Value) (e : TypeId) (m : Nat × Nat) : Rd (w.alloc (.cells #[u] e m)) (.slice (some ⟨w.heap.size, 0, none⟩) 1 1) 1 [u] :=
  rd_alloc w #[u] e m 1 (by simp [maxLen])

set_option maxHeartbeats 2000000 in
theorem wrapped_any (e : En) (u : Value) (w0 w : World) (he : e.Is w0 u) (hb : Below w0.heap.size w0 w) (hn : e ≠ .none) :
    Calls Tryd.prog 31 #[u] w (Wraps w0 w e.kids) := by
  have a1 := as1_lacks_num
  have a2 := as1_has_fault
  have a6 := as1_lacks_join
  have b1 := as2_lacks_num
  have b4 := as2_has_join
  have m1 := m_fault
  have m4 := m_join
  cases e with
  | none => exact absurd rfl hn
  | num k =>
    obtain rfl : u = _ := he
    go_enter Tryd.func31, Tryd.ntmps31
    go_wp2
    go_ret
    exact ⟨_, [], rfl, Rd.nil _, rfl, Below.refl _ _, Or.inl (Nat.zero_le _)⟩
  | plain s =>
    exact (show False from he).elim
  | nilf =>
    obtain rfl : u = _ := he
    go_enter Tryd.func31, Tryd.ntmps31
    go_wp2_with (go_at_call 52; refine (U_nilf _).mono ?_; rintro e w' ⟨rfl, rfl⟩)
    go_ret
    exact ⟨_, [.nilIface], rfl, rd_one _ _ _ _, ⟨_, _, rfl, rfl, rfl⟩, (Below.refl _ _).alloc (Nat.le_refl _) _, Or.inl (Nat.le_refl _)⟩
  | fault op id x =>
    obtain ⟨b, y, rfl, h1, h2, h3, h4, h5⟩ := he
    replace h4 := (hb.cell (p := ⟨b, 2, none⟩) h1).trans h4
    clear h2 h3
    rcases h5.form with rfl | ⟨T, v, rfl⟩
    all_goals
      have hy := Lib.hid h5
      clear h5 hn
      go_enter Tryd.func31, Tryd.ntmps31
      go_wp2_with (go_at_call 52; refine (U_fault b _ _ h4).mono ?_; rintro e w' ⟨rfl, rfl⟩)
      go_ret
      exact ⟨_, [_], rfl, rd_one _ _ _ _, ⟨_, _, rfl, hy.out, rfl⟩, (Below.refl _ _).alloc (Nat.le_refl _) _, Or.inl (Nat.le_refl _)⟩
  | cover x =>
    exact (show False from he).elim
  | many j l =>
    obtain ⟨rfl, b, s, vs, rfl, h1, h2, h3, h4⟩ := he
    have H3 := Lib.hid h3
    have H5 := Lib.hid (h3.below hb)
    replace h2 := (hb.cell (p := ⟨b, 0, none⟩) h1).trans h2
    have H4 := Lib.hid h4
    clear h3 h4 hn
    rw [show manyT true = 81 from rfl]
    go_enter Tryd.func31, Tryd.ntmps31
    go_wp2_with (go_at_call 68; refine (U_join b _ _ h2).mono ?_; rintro e w' ⟨rfl, rfl⟩)
    go_ret
    exact ⟨_, vs, rfl, H5.out, H4.out, Below.refl _ _, Or.inr H3.out⟩

/-- the one that errors.Unwrap tells -/
def En.one : En → En
  | .fault _ _ e => e
  | .cover e => e
  | _ => .none
set_option maxHeartbeats 2000000 in
theorem Unwrap_any (e : En) (u : Value) (w : World) (he : e.Is w u) (hn : e ≠ .none) :
    Calls Tryd.prog 32 #[u] w fun ev w' => ∃ x, ev = .returned x ∧ e.one.Is w x ∧ w = w' := by
  have a1 := as1_lacks_num
  have a2 := as1_has_fault
  have a6 := as1_lacks_join
  have m1 := m_fault
  cases e with
  | none => exact absurd rfl hn
  | num k =>
    obtain rfl : u = _ := he
    go_enter Tryd.func32, Tryd.ntmps32
    go_wp2
    go_ret
    exact ⟨_, rfl, rfl, rfl⟩
  | plain s =>
    exact (show False from he).elim
  | nilf =>
    obtain rfl : u = _ := he
    go_enter Tryd.func32, Tryd.ntmps32
    go_wp2_with (go_at_call 52; refine (U_nilf _).mono ?_; rintro e w' ⟨rfl, rfl⟩)
    go_ret
    exact ⟨_, rfl, rfl, rfl⟩
  | fault op id x =>
    obtain ⟨b, y, rfl, h1, h2, h3, h4, h5⟩ := he
    go_enter Tryd.func32, Tryd.ntmps32
    go_wp2_with (go_at_call 52; refine (U_fault b _ _ h4).mono ?_; rintro e w' ⟨rfl, rfl⟩)
    go_ret
    exact ⟨_, rfl, h5, rfl⟩
  | cover x =>
    exact (show False from he).elim
  | many j l =>
    obtain ⟨rfl, b, s, vs, rfl, h1, h2, h3, h4⟩ := he
    clear h3 h4 hn
    rw [show manyT true = 81 from rfl]
    go_enter Tryd.func32, Tryd.ntmps32
    go_wp2
    go_ret
    exact ⟨_, rfl, rfl, rfl⟩
end Go.Proofs.YthijffpackkcnaaDoor
