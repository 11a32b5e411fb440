/- fault.wrapped: what an error wraps; errors.Unwrap: the one that it wraps. -/
import Derived.Test.YthijffpackkcnaaEn
namespace Go.Proofs.Ythijffpackkcnaa
open Go.RowKit Go.Extern.Stop Go.Stop Go.Extern

/-! ### which methods the errors have -/
theorem as1_lacks_num (v : Value) (xT : TypeId) (w : World) : (Instr.typeAssert (.iface 32 v) xT 81 true).run Try.prog w = .ok (.tuple #[.nilIface, .bool false]) w := run_typeAssert_lacksB Try.underlying81 (by kernel_rfl) (by kernel_rfl) v xT w
theorem as1_has_fault (v : Value) (xT : TypeId) (w : World) : (Instr.typeAssert (.iface 41 v) xT 81 true).run Try.prog w = .ok (.tuple #[.iface 41 v, .bool true]) w := run_typeAssert_hasB Try.underlying81 (by kernel_rfl) v xT w
theorem as1_has_cover (v : Value) (xT : TypeId) (w : World) : (Instr.typeAssert (.iface 59 v) xT 81 true).run Try.prog w = .ok (.tuple #[.iface 59 v, .bool true]) w := run_typeAssert_hasB Try.underlying81 (by kernel_rfl) v xT w
theorem as1_lacks_plain (v : Value) (xT : TypeId) (w : World) : (Instr.typeAssert (.iface 34 v) xT 81 true).run Try.prog w = .ok (.tuple #[.nilIface, .bool false]) w := run_typeAssert_lacksB Try.underlying81 (by kernel_rfl) (by kernel_rfl) v xT w
theorem as1_lacks_many (v : Value) (xT : TypeId) (w : World) : (Instr.typeAssert (.iface 55 v) xT 81 true).run Try.prog w = .ok (.tuple #[.nilIface, .bool false]) w := run_typeAssert_lacksB Try.underlying81 (by kernel_rfl) (by kernel_rfl) v xT w
theorem as1_lacks_join (v : Value) (xT : TypeId) (w : World) : (Instr.typeAssert (.iface 73 v) xT 81 true).run Try.prog w = .ok (.tuple #[.nilIface, .bool false]) w := run_typeAssert_lacksB Try.underlying81 (by kernel_rfl) (by kernel_rfl) v xT w
theorem as2_lacks_num (v : Value) (xT : TypeId) (w : World) : (Instr.typeAssert (.iface 32 v) xT 83 true).run Try.prog w = .ok (.tuple #[.nilIface, .bool false]) w := run_typeAssert_lacksB Try.underlying83 (by kernel_rfl) (by kernel_rfl) v xT w
theorem as2_lacks_plain (v : Value) (xT : TypeId) (w : World) : (Instr.typeAssert (.iface 34 v) xT 83 true).run Try.prog w = .ok (.tuple #[.nilIface, .bool false]) w := run_typeAssert_lacksB Try.underlying83 (by kernel_rfl) (by kernel_rfl) v xT w
theorem as2_has_many (v : Value) (xT : TypeId) (w : World) : (Instr.typeAssert (.iface 55 v) xT 83 true).run Try.prog w = .ok (.tuple #[.iface 55 v, .bool true]) w := run_typeAssert_hasB Try.underlying83 (by kernel_rfl) v xT w
theorem as2_has_join (v : Value) (xT : TypeId) (w : World) : (Instr.typeAssert (.iface 73 v) xT 83 true).run Try.prog w = .ok (.tuple #[.iface 73 v, .bool true]) w := run_typeAssert_hasB Try.underlying83 (by kernel_rfl) v xT w
theorem m_fault (v : Value) (w : World) : (Go.method 220 41 v "Unwrap").run Try.prog w = .ok (50, v) w := by kernel_rfl
theorem m_cover (v : Value) (w : World) : (Go.method 220 59 v "Unwrap").run Try.prog w = .ok (54, v) w := by kernel_rfl
theorem m_many (v : Value) (w : World) : (Go.method 220 55 v "Unwrap").run Try.prog w = .ok (52, v) w := by kernel_rfl
theorem m_join (v : Value) (w : World) : (Go.method 220 73 v "Unwrap").run Try.prog w = .ok (56, v) w := by kernel_rfl

theorem U_fault (b : Nat) (u : Value) (w : World) (h : w.cell? ⟨b, 2, none⟩ = some u) :
    Calls Try.prog 50 #[.pointer (some ⟨b, 0, none⟩)] w fun e w' => e = .returned u ∧ w = w' := by
  go_enter Try.func50, Try.ntmps50
  go_wp2
  go_ret
  exact ⟨rfl, rfl⟩
theorem U_nilf (w : World) :
    Calls Try.prog 50 #[.pointer none] w fun e w' => e = .returned .nilIface ∧ w = w' := by
  go_enter Try.func50, Try.ntmps50
  go_wp2
  go_ret
  exact ⟨rfl, rfl⟩
theorem U_cover (b : Nat) (u : Value) (w : World) (h : w.cell? ⟨b, 0, none⟩ = some u) :
    Calls Try.prog 54 #[.pointer (some ⟨b, 0, none⟩)] w fun e w' => e = .returned u ∧ w = w' := by
  go_enter Try.func54, Try.ntmps54
  go_wp2
  go_ret
  exact ⟨rfl, rfl⟩
theorem U_many (b : Nat) (u : Value) (w : World) (h : w.cell? ⟨b, 0, none⟩ = some u) :
    Calls Try.prog 52 #[.pointer (some ⟨b, 0, none⟩)] w fun e w' => e = .returned u ∧ w = w' := by
  go_enter Try.func52, Try.ntmps52
  go_wp2
  go_ret
  exact ⟨rfl, rfl⟩
theorem U_join (b : Nat) (u : Value) (w : World) (h : w.cell? ⟨b, 0, none⟩ = some u) :
    Calls Try.prog 56 #[.pointer (some ⟨b, 0, none⟩)] w fun e w' => e = .returned u ∧ w = w' := by
  go_enter Try.func56, Try.ntmps56
  go_wp2
  go_ret
  exact ⟨rfl, rfl⟩

/-- The call hands back these, one by one. -/
def Wraps (w0 w : World) (l : List En) (e : Ending) (w' : World) : Prop :=
  ∃ sv vs, e = .returned sv ∧ Rd w' sv l.length vs ∧ EnsIs w0 l vs ∧ Below w.heap.size w w' ∧ (l.length ≤ 1 ∨ Rd w0 sv l.length vs)

theorem En.Is.form {w : World} {e : En} {u : Value} (h : e.Is w u) : u = .nilIface ∨ ∃ T v, u = .iface T v := by
  cases e with
  | none => exact Or.inl h
  | num k => exact Or.inr ⟨_, _, h⟩
  | fault op id e => obtain ⟨b, y, h, _⟩ := h; exact Or.inr ⟨_, _, h⟩
  | many j l => obtain ⟨b, s, vs, h, _⟩ := h; exact Or.inr ⟨_, _, h⟩
  | plain s => obtain ⟨b, h, _⟩ := h; exact Or.inr ⟨_, _, h⟩
  | nilf => exact Or.inr ⟨_, _, h⟩
  | cover e => obtain ⟨b, y, h, _⟩ := h; exact Or.inr ⟨_, _, h⟩
theorem En.Is.some {w : World} {e : En} {u : Value} (h : e.Is w u) (hn : e ≠ .none) : ∃ T v, u = .iface T v := by
  cases e with
  | none => exact absurd rfl hn
  | num k => exact ⟨_, _, h⟩
  | fault op id e => obtain ⟨b, y, h, _⟩ := h; exact ⟨_, _, h⟩
  | many j l => obtain ⟨b, s, vs, h, _⟩ := h; exact ⟨_, _, h⟩
  | plain s => obtain ⟨b, h, _⟩ := h; exact ⟨_, _, h⟩
  | nilf => exact ⟨_, _, h⟩
  | cover e => obtain ⟨b, y, h, _⟩ := h; exact ⟨_, _, h⟩

theorem rd_one (w : World) (u : Value) (e : TypeId) (m : Nat × Nat) : Rd (w.alloc (.cells #[u] e m)) (.slice (some ⟨w.heap.size, 0, none⟩) 1 1) 1 [u] :=
  rd_alloc w #[u] e m 1 (by simp [maxLen])

set_option maxHeartbeats 2000000 in
theorem wrapped_any (e : En) (u : Value) (w0 w : World) (he : e.Is w0 u) (hb : Below w0.heap.size w0 w) (hn : e ≠ .none) :
    Calls Try.prog 31 #[u] w (Wraps w0 w e.kids) := by
  have a1 := as1_lacks_num
  have a2 := as1_has_fault
  have a3 := as1_has_cover
  have a4 := as1_lacks_plain
  have a5 := as1_lacks_many
  have a6 := as1_lacks_join
  have b1 := as2_lacks_num
  have b2 := as2_lacks_plain
  have b3 := as2_has_many
  have b4 := as2_has_join
  have m1 := m_fault
  have m2 := m_cover
  have m3 := m_many
  have m4 := m_join
  cases e with
  | none => exact absurd rfl hn
  | num k =>
    obtain rfl : u = _ := he
    go_enter Try.func31, Try.ntmps31
    go_wp2
    go_ret
    exact ⟨_, [], rfl, Rd.nil _, rfl, Below.refl _ _, Or.inl (Nat.zero_le _)⟩
  | plain s =>
    obtain ⟨b, rfl, h1, h2⟩ := he
    go_enter Try.func31, Try.ntmps31
    go_wp2
    go_ret
    exact ⟨_, [], rfl, Rd.nil _, rfl, Below.refl _ _, Or.inl (Nat.zero_le _)⟩
  | nilf =>
    obtain rfl : u = _ := he
    go_enter Try.func31, Try.ntmps31
    go_wp2_with (go_at_call 50; refine (U_nilf _).mono ?_; rintro e w' ⟨rfl, rfl⟩)
    go_ret
    exact ⟨_, [.nilIface], rfl, rd_one _ _ _ _, ⟨_, _, rfl, rfl, rfl⟩, (Below.refl _ _).alloc (Nat.le_refl _) _, Or.inl (Nat.le_refl _)⟩
  | fault op id x =>
    obtain ⟨b, y, rfl, h1, h2, h3, h4, h5⟩ := he
    replace h4 := (hb.cell (p := ⟨b, 2, none⟩) h1).trans h4
    clear h2 h3
    rcases h5.form with rfl | ⟨T, v, rfl⟩
    all_goals
      have hy := Lib.hid h5
      clear h5 hn
      go_enter Try.func31, Try.ntmps31
      go_wp2_with (go_at_call 50; refine (U_fault b _ _ h4).mono ?_; rintro e w' ⟨rfl, rfl⟩)
      go_ret
      exact ⟨_, [_], rfl, rd_one _ _ _ _, ⟨_, _, rfl, hy.out, rfl⟩, (Below.refl _ _).alloc (Nat.le_refl _) _, Or.inl (Nat.le_refl _)⟩
  | cover x =>
    obtain ⟨b, y, rfl, h1, h2, h3⟩ := he
    replace h2 := (hb.cell (p := ⟨b, 0, none⟩) h1).trans h2
    rcases h3.form with rfl | ⟨T, v, rfl⟩
    all_goals
      have hy := Lib.hid h3
      clear h3 hn
      go_enter Try.func31, Try.ntmps31
      go_wp2_with (go_at_call 54; refine (U_cover b _ _ h2).mono ?_; rintro e w' ⟨rfl, rfl⟩)
      go_ret
      exact ⟨_, [_], rfl, rd_one _ _ _ _, ⟨_, _, rfl, hy.out, rfl⟩, (Below.refl _ _).alloc (Nat.le_refl _) _, Or.inl (Nat.le_refl _)⟩
  | many j l =>
    obtain ⟨b, s, vs, rfl, h1, h2, h3, h4⟩ := he
    have H3 := Lib.hid h3
    have H5 := Lib.hid (h3.below hb)
    replace h2 := (hb.cell (p := ⟨b, 0, none⟩) h1).trans h2
    have H4 := Lib.hid h4
    clear h3 h4 hn
    cases j with
    | false =>
      rw [show manyT false = 55 from rfl]
      go_enter Try.func31, Try.ntmps31
      go_wp2_with (go_at_call 52; refine (U_many b _ _ h2).mono ?_; rintro e w' ⟨rfl, rfl⟩)
      go_ret
      exact ⟨_, vs, rfl, H5.out, H4.out, Below.refl _ _, Or.inr H3.out⟩
    | true =>
      rw [show manyT true = 73 from rfl]
      go_enter Try.func31, Try.ntmps31
      go_wp2_with (go_at_call 56; refine (U_join b _ _ h2).mono ?_; rintro e w' ⟨rfl, rfl⟩)
      go_ret
      exact ⟨_, vs, rfl, H5.out, H4.out, Below.refl _ _, Or.inr H3.out⟩

/-- the one that errors.Unwrap tells -/
def En.one : En → En
  | .fault _ _ e => e
  | .cover e => e
  | _ => .none
set_option maxHeartbeats 2000000 in
theorem Unwrap_any (e : En) (u : Value) (w : World) (he : e.Is w u) (hn : e ≠ .none) :
    Calls Try.prog 30 #[u] w fun ev w' => ∃ x, ev = .returned x ∧ e.one.Is w x ∧ w = w' := by
  have a1 := as1_lacks_num
  have a2 := as1_has_fault
  have a3 := as1_has_cover
  have a4 := as1_lacks_plain
  have a5 := as1_lacks_many
  have a6 := as1_lacks_join
  have m1 := m_fault
  have m2 := m_cover
  cases e with
  | none => exact absurd rfl hn
  | num k =>
    obtain rfl : u = _ := he
    go_enter Try.func30, Try.ntmps30
    go_wp2
    go_ret
    exact ⟨_, rfl, rfl, rfl⟩
  | plain s =>
    obtain ⟨b, rfl, h1, h2⟩ := he
    go_enter Try.func30, Try.ntmps30
    go_wp2
    go_ret
    exact ⟨_, rfl, rfl, rfl⟩
  | nilf =>
    obtain rfl : u = _ := he
    go_enter Try.func30, Try.ntmps30
    go_wp2_with (go_at_call 50; refine (U_nilf _).mono ?_; rintro e w' ⟨rfl, rfl⟩)
    go_ret
    exact ⟨_, rfl, rfl, rfl⟩
  | fault op id x =>
    obtain ⟨b, y, rfl, h1, h2, h3, h4, h5⟩ := he
    go_enter Try.func30, Try.ntmps30
    go_wp2_with (go_at_call 50; refine (U_fault b _ _ h4).mono ?_; rintro e w' ⟨rfl, rfl⟩)
    go_ret
    exact ⟨_, rfl, h5, rfl⟩
  | cover x =>
    obtain ⟨b, y, rfl, h1, h2, h3⟩ := he
    go_enter Try.func30, Try.ntmps30
    go_wp2_with (go_at_call 54; refine (U_cover b _ _ h2).mono ?_; rintro e w' ⟨rfl, rfl⟩)
    go_ret
    exact ⟨_, rfl, h3, rfl⟩
  | many j l =>
    obtain ⟨b, s, vs, rfl, h1, h2, h3, h4⟩ := he
    clear h3 h4 hn
    cases j with
    | false =>
      rw [show manyT false = 55 from rfl]
      go_enter Try.func30, Try.ntmps30
      go_wp2
      go_ret
      exact ⟨_, rfl, rfl, rfl⟩
    | true =>
      rw [show manyT true = 73 from rfl]
      go_enter Try.func30, Try.ntmps30
      go_wp2
      go_ret
      exact ⟨_, rfl, rfl, rfl⟩
end Go.Proofs.Ythijffpackkcnaa
