/- enc.reader: num, signed. -/
import Derived.Test.YthcfekabeidmiaaRRDoorREo22
import Derived.Test.YthcfekabeidmiaaRRDoorREo1
import Derived.Test.YthcfekabeidmiaaRRDoorREo2
import Derived.Deep.QuietTactic
import Derived.BigQuiet
set_option linter.unusedSimpArgs false
set_option linter.unusedVariables false
namespace Go.Proofs.YthcfekabeidmiaaRRDoorR
open Go.RowKit

/-- block g alone turns -/
structure OnlB (g : Nat) (w w' : World) : Prop where
  below : Below g w w'
  kept : ∀ k, k ≠ g → k < w.heap.size → w'.heap[k]? = w.heap[k]?
theorem OnlB.refl (g : Nat) (w : World) : OnlB g w w := ⟨Below.refl _ _, fun _ _ _ => rfl⟩
theorem OnlB.size {g : Nat} {w w' : World} (h : OnlB g w w') : w.heap.size ≤ w'.heap.size := h.below.size
theorem OnlB.trans {g : Nat} {w w' w'' : World} (h : OnlB g w w') (h' : OnlB g w' w'') : OnlB g w w'' :=
  ⟨h.below.trans h'.below, fun k hk hl => (h'.kept k hk (Nat.lt_of_lt_of_le hl h.size)).trans (h.kept k hk hl)⟩
theorem OnlB.setCell {g : Nat} {w w' : World} (h : OnlB g w w') (j : Nat) (u : Value) : OnlB g w (w'.setCell ⟨g, j, none⟩ u) :=
  ⟨h.below.setCell (p := ⟨g, j, none⟩) (Nat.le_refl _) u, fun k hk hl => (Below.heap_setCell _ _ _ _ (fun q => hk (by simpa using q))).trans (h.kept k hk hl)⟩
theorem OnlB.drewN {g : Nat} {w w' : World} (h : OnlB g w w') (n : Nat) : OnlB g w (w'.drewN n) := ⟨⟨h.below.os, h.below.tape, h.below.output, h.below.size, h.below.block⟩, h.kept⟩

/-- a reader in memory: what it reads, where it stands, and whether something was none -/
structure RdS (w : World) (g : Nat) (v : Value) (n : Nat) (bad : Bool) : Prop where
  c0 : w.cell? ⟨g, 0, none⟩ = some v
  c1 : w.cell? ⟨g, 1, none⟩ = some (.int .i64 n)
  c2 : w.cell? ⟨g, 2, none⟩ = some (.bool bad)
  f1 : w.frozen? ⟨g, 1, none⟩ = false
  f2 : w.frozen? ⟨g, 2, none⟩ = false
theorem RdS.lt {w : World} {g : Nat} {v : Value} {n : Nat} {bad : Bool} (h : RdS w g v n bad) : g < w.heap.size := World.block_lt_of_cell? w ⟨g, 0, none⟩ h.c0
theorem RdS.below {w w' : World} {g : Nat} {v : Value} {n : Nat} {bad : Bool} (h : RdS w g v n bad) (hb : Below w.heap.size w w') : RdS w' g v n bad :=
  ⟨(hb.cell (p := ⟨g, 0, none⟩) h.lt).trans h.c0, (hb.cell (p := ⟨g, 1, none⟩) h.lt).trans h.c1, (hb.cell (p := ⟨g, 2, none⟩) h.lt).trans h.c2, (hb.frozen (p := ⟨g, 1, none⟩) h.lt).trans h.f1, (hb.frozen (p := ⟨g, 2, none⟩) h.lt).trans h.f2⟩
/-- v[m:]: where nothing is left the address stays -/
def cutV : Value → Nat → Value
  | .slice (some p) len c, m => .slice (if c = m then some p else some (p.add m)) (len - m) (c - m)
  | v, _ => v
theorem Byt.cut {w : World} {v : Value} {l : List UInt8} (h : Byt w v l) {m : Nat} (hm : m ≤ l.length) : Byt w (cutV v m) (l.drop m) := by
  obtain ⟨ao, c, rfl, h1, h2, h0, h3⟩ := h.open
  cases ao with
  | none =>
    have hc := h0 rfl
    have hl : l = [] := List.length_eq_zero_iff.1 (by omega)
    subst hl
    rw [List.drop_nil]
    exact h
  | some a =>
    obtain ⟨b, off, s⟩ := a
    unfold cutV
    by_cases hcm : c = m
    · simp only [if_pos hcm]
      have e : l.drop m = [] := List.drop_eq_nil_of_le (by omega)
      rw [e]
      exact ⟨some ⟨b, off, s⟩, c - m, by rw [show l.length - m = 0 by omega]; rfl, Nat.zero_le _, by omega, (fun h => by cases h), fun i hi => absurd hi (by simp [bytesV])⟩
    · simp only [if_neg hcm]
      cases l with
      | nil =>
        obtain rfl : m = 0 := by simpa using hm
        exact ⟨some ((⟨b, off, s⟩ : Addr).add 0), c - 0, rfl, Nat.zero_le _, by omega, (fun h => by cases h), fun i hi => absurd hi (by simp [bytesV])⟩
      | cons x l =>
        obtain ⟨b', off', e, _⟩ := h3 0 (by simp)
        simp only [Option.some.injEq, Addr.mk.injEq] at e
        obtain ⟨rfl, rfl, rfl⟩ := e
        rw [Addr.add_lit]
        exact h.drop hm
theorem OnlB.of_below {g : Nat} {w w' : World} (h : Below w.heap.size w w') (hg : g ≤ w.heap.size) : OnlB g w w' := ⟨h.mono hg, fun k _ hl => h.block k hl⟩
/-- what is stored into a reader -/
theorem RdS.put {w : World} {g : Nat} {v : Value} {n : Nat} {bad : Bool} (h : RdS w g v n bad) (m : Nat) (q : Bool) : RdS ((w.setCell ⟨g, 2, none⟩ (.bool q)).setCell ⟨g, 1, none⟩ (.int .i64 (m : Int))) g v m q := by
  have n10 : (⟨g, 1, none⟩ : Addr) ≠ ⟨g, 0, none⟩ := by simp
  have n20 : (⟨g, 2, none⟩ : Addr) ≠ ⟨g, 0, none⟩ := by simp
  have n21 : (⟨g, 2, none⟩ : Addr) ≠ ⟨g, 1, none⟩ := by simp
  have n12 : (⟨g, 1, none⟩ : Addr) ≠ ⟨g, 2, none⟩ := by simp
  have e1 : (w.setCell ⟨g, 2, none⟩ (.bool q)).cell? ⟨g, 1, none⟩ = some (.int .i64 n) := by rw [World.cell?_setCell_other (h := n21)]; exact h.c1
  refine ⟨?_, World.cell?_setCell_same _ _ _ e1, ?_, ?_, ?_⟩
  · rw [World.cell?_setCell_other (h := n10), World.cell?_setCell_other (h := n20), h.c0]
  · rw [World.cell?_setCell_other (h := n12)]; exact World.cell?_setCell_same _ _ _ h.c2
  · simp; exact h.f1
  · simp; exact h.f2

set_option maxRecDepth 100000 in
theorem num_any (g : Nat) (v : Value) (b : List UInt8) (n : Nat) (bad : Bool) (w : World) (hv : Byt w v b) (hn : n ≤ b.length) (hl : b.length ≤ 1000) (hr : RdS w g v n bad) :
    Calls Tryd.prog 31 #[.pointer (some ⟨g, 0, none⟩)] w fun e w' => e = .returned (.int .u64 ((unv (b.drop n)).1 : Nat)) ∧ RdS w' g v (n + (unv (b.drop n)).2) (bad || (unv (b.drop n)).2 == 0) ∧ OnlB g w w' := by
  have UV := Lib.hid (fun w' (hb : Below w.heap.size w w') => Unvarint_any (cutV v n) (b.drop n) w' ((hv.cut hn).below hb))
  have hle := (unv_le (b.drop n)).2.1
  rw [List.length_drop] at hle
  generalize unv (b.drop n) = uu at *
  obtain ⟨U, M⟩ := uu
  simp only at UV hle ⊢
  obtain ⟨ao, c, rfl, h1, h2, h0, h3⟩ := hv.open
  unfold maxLen at h2
  have HR := Lib.hid hr
  have hgl := hr.lt
  obtain ⟨c0, c1, c2, f1, f2⟩ := hr
  have hnM : n + M ≤ 1000 := by omega
  have hMb : ((M : Int) == 0) = (M == 0) := by
    by_cases h : M = 0
    · subst h; rfl
    · have a1 : ((M : Int) == 0) = false := by simp; omega
      have a2 : (M == 0) = false := by simp; omega
      rw [a1, a2]
  obtain ⟨q, hq⟩ : ∃ q, (M == 0) = q := ⟨_, rfl⟩
  rw [hq] at hMb ⊢
  clear h3 hv f1 f2 c2 hq
  cases ao with
  | none =>
    have hc := h0 rfl
    have hl0 : b.length = 0 := by omega
    obtain rfl : n = 0 := by omega
    subst hc
    obtain rfl := List.length_eq_zero_iff.1 hl0
    unfold cutV at UV
    simp only [List.length_nil] at *
    go_enter Tryd.func31, Tryd.ntmps31
    go_wp2_with fail
    refine wp_region_noPanic ?_
    refine wp_region_held_drew (S := fun w' => Below w.heap.size w w') (by kernel_rfl) (Below.refl _ _).drew (fun hHeld => ?_)
    generalize w.drew = D at hHeld ⊢
    have kb : Below w.heap.size w D := hHeld
    refine wpAnyH_take (i := 0) (oi := ⟨some 6, _, _, _, _, _⟩) (v := ?qv0ro) rfl (by kernel_rfl) (by kernel_rfl) (by kernel_rfl) (fun _ _ _ h => h) (Or.inl ⟨by rfl, ?qy0ro⟩) hHeld ?qr0ro
    case qy0ro => (intro w' hSw; go_simp; try with_reducible rfl)
    try simp only [Act.put, List.setIfInBounds_toArray, List.set_cons_zero, List.set_cons_succ]
    refine wpAnyH_take (i := 1) (oi := ⟨some 7, _, _, _, _, _⟩) (v := ?qv1ro) rfl (by kernel_rfl) (by kernel_rfl) (by kernel_rfl) (fun _ _ _ h => h) (Or.inl ⟨by rfl, ?qy1ro⟩) hHeld ?qr1ro
    case qy1ro => (intro w' hSw; go_simp; try with_reducible rfl)
    try simp only [Act.put, List.setIfInBounds_toArray, List.set_cons_zero, List.set_cons_succ]
    refine wpAnyH_take (i := 2) (oi := ⟨some 8, _, _, _, _, _⟩) (v := ?qv2ro) rfl (by kernel_rfl) (by kernel_rfl) (by kernel_rfl) (fun _ _ _ h => h) (Or.inl ⟨by rfl, ?qy2ro⟩) hHeld ?qr2ro
    case qy2ro => (intro w' hSw; go_simp; try with_reducible rfl)
    try simp only [Act.put, List.setIfInBounds_toArray, List.set_cons_zero, List.set_cons_succ]
    refine wpAnyH_take (i := 3) (oi := ⟨some 9, _, _, _, _, _⟩) (v := ?qv3ro) rfl (by kernel_rfl) (by kernel_rfl) (by kernel_rfl) (fun _ _ _ h => h) (Or.inl ⟨by rfl, ?qy3ro⟩) hHeld ?qr3ro
    case qy3ro => (intro w' hSw; have q0 := (hSw.cell (p := ⟨g, 0, none⟩) hgl).trans c0; have q1 := (hSw.cell (p := ⟨g, 1, none⟩) hgl).trans c1; go_simp; try with_reducible rfl)
    try simp only [Act.put, List.setIfInBounds_toArray, List.set_cons_zero, List.set_cons_succ]
    refine wpAnyH_take (i := 4) (oi := ⟨some 10, _, _, _, _, _⟩) (v := ?qv4ro) rfl (by kernel_rfl) (by kernel_rfl) (by kernel_rfl) (fun _ _ _ h => h) (Or.inl ⟨by rfl, ?qy4ro⟩) hHeld ?qr4ro
    case qy4ro => (intro w' hSw; go_simp; try with_reducible rfl)
    try simp only [Act.put, List.setIfInBounds_toArray, List.set_cons_zero, List.set_cons_succ]
    refine wpAnyH_take (i := 5) (oi := ⟨some 11, _, _, _, _, _⟩) (v := ?qv5ro) rfl (by kernel_rfl) (by kernel_rfl) (by kernel_rfl) (fun _ _ _ h => h) (Or.inl ⟨by rfl, ?qy5ro⟩) hHeld ?qr5ro
    case qy5ro => (intro w' hSw; go_simp; try with_reducible rfl)
    try simp only [Act.put, List.setIfInBounds_toArray, List.set_cons_zero, List.set_cons_succ]
    refine wpAnyH_take (i := 6) (oi := ⟨some 12, _, _, _, _, _⟩) (v := ?qv6ro) rfl (by kernel_rfl) (by kernel_rfl) (by kernel_rfl) (fun _ _ _ h => h) (Or.inl ⟨by rfl, ?qy6ro⟩) hHeld ?qr6ro
    case qy6ro => (intro w' hSw; go_simp; try with_reducible rfl)
    try simp only [Act.put, List.setIfInBounds_toArray, List.set_cons_zero, List.set_cons_succ]
    refine wpAnyH_take (i := 7) (oi := ⟨some 13, _, _, _, _, _⟩) (v := ?qv7ro) rfl (by kernel_rfl) (by kernel_rfl) (by kernel_rfl) (fun _ _ _ h => h) (Or.inl ⟨by rfl, ?qy7ro⟩) hHeld ?qr7ro
    case qy7ro => (intro w' hSw; have q0 := (hSw.cell (p := ⟨g, 0, none⟩) hgl).trans c0; have q1 := (hSw.cell (p := ⟨g, 1, none⟩) hgl).trans c1; go_simp; try with_reducible rfl)
    try simp only [Act.put, List.setIfInBounds_toArray, List.set_cons_zero, List.set_cons_succ]
    refine wpAnyH_take (i := 8) (oi := ⟨some 14, _, _, _, _, _⟩) (v := ?qv8ro) rfl (by kernel_rfl) (by kernel_rfl) (by kernel_rfl) (fun _ _ _ h => h) (Or.inl ⟨by rfl, ?qy8ro⟩) hHeld ?qr8ro
    case qy8ro => (intro w' hSw; have q0 := (hSw.cell (p := ⟨g, 0, none⟩) hgl).trans c0; have q1 := (hSw.cell (p := ⟨g, 1, none⟩) hgl).trans c1; go_simp; try with_reducible rfl)
    try simp only [Act.put, List.setIfInBounds_toArray, List.set_cons_zero, List.set_cons_succ]
    refine wpAnyH_ready (rs := [9]) (by kernel_rfl) (by simp) ?_
    refine AllReadyH.cons (o := ⟨some 15, _, _, _, _, _⟩) rfl (fun K hK => ?_) AllReadyH.nil
    refine step_go (by rfl) 45 _ _ (by rfl) (fun _ _ => by kernel_rfl) _ (by rfl) (UV.out _ kb) ?_
    rintro e w4 ⟨rfl, rfl⟩
    refine ⟨_, rfl, ?_⟩
    refine hK.out _ _ (kb) (fun hHeld => ?_)
    clear hK K
    try simp only [Act.put, List.setIfInBounds_toArray, List.set_cons_zero, List.set_cons_succ]
    refine wpAnyH_take (i := 10) (oi := ⟨some 5, _, _, _, _, _⟩) (v := ?qv10ro) rfl (by kernel_rfl) (by kernel_rfl) (by kernel_rfl) (fun _ _ _ h => h) (Or.inl ⟨by rfl, ?qy10ro⟩) hHeld ?qr10ro
    case qy10ro => (intro w' hSw; go_simp; try with_reducible rfl)
    try simp only [Act.put, List.setIfInBounds_toArray, List.set_cons_zero, List.set_cons_succ]
    refine wpAnyH_take (i := 11) (oi := ⟨some 16, _, _, _, _, _⟩) (v := ?qv11ro) rfl (by kernel_rfl) (by kernel_rfl) (by kernel_rfl) (fun _ _ _ h => h) (Or.inl ⟨by rfl, ?qy11ro⟩) hHeld ?qr11ro
    case qy11ro => (intro w' hSw; go_simp; try with_reducible rfl)
    try simp only [Act.put, List.setIfInBounds_toArray, List.set_cons_zero, List.set_cons_succ]
    refine wpAnyH_take (i := 12) (oi := ⟨some 17, _, _, _, _, _⟩) (v := ?qv12ro) rfl (by kernel_rfl) (by kernel_rfl) (by kernel_rfl) (fun _ _ _ h => h) (Or.inl ⟨by rfl, ?qy12ro⟩) hHeld ?qr12ro
    case qy12ro => (intro w' hSw; go_simp; try with_reducible rfl)
    try simp only [Act.put, List.setIfInBounds_toArray, List.set_cons_zero, List.set_cons_succ]
    refine wpAnyH_take (i := 13) (oi := ⟨some 3, _, _, _, _, _⟩) (v := ?qv13ro) rfl (by kernel_rfl) (by kernel_rfl) (by kernel_rfl) (fun _ _ _ h => h) (Or.inl ⟨by rfl, ?qy13ro⟩) hHeld ?qr13ro
    case qy13ro => (intro w' hSw; go_simp; try with_reducible rfl)
    try simp only [Act.put, List.setIfInBounds_toArray, List.set_cons_zero, List.set_cons_succ]
    refine wpAnyH_take (i := 14) (oi := ⟨some 4, _, _, _, _, _⟩) (v := ?qv14ro) rfl (by kernel_rfl) (by kernel_rfl) (by kernel_rfl) (fun _ _ _ h => h) (Or.inl ⟨by rfl, ?qy14ro⟩) hHeld ?qr14ro
    case qy14ro => (intro w' hSw; go_simp; try with_reducible rfl)
    try simp only [Act.put, List.setIfInBounds_toArray, List.set_cons_zero, List.set_cons_succ]
    refine wpAnyH_done (by kernel_rfl) ?_ _
    refine NoPanic.normal ?_
    have B5 : Below w.heap.size w D := hHeld
    have R5 := HR.out.below B5
    have FN := Lib.hid (R5.put M (bad || q))
    have ON := Lib.hid (((OnlB.of_below B5 (Nat.le_of_lt hgl)).setCell 2 (.bool (bad || q))).setCell 1 (.int .i64 ((M : Nat) : Int)))
    obtain ⟨d0, d1, d2, f1, f2⟩ := R5
    clear hHeld kb UV c0 c1
    cases bad <;> cases q
    all_goals
      go_wp2_with fail
      go_ret
      exact ⟨rfl, by rw [Nat.zero_add]; exact FN.out, ON.out⟩
  | some a =>
    obtain ⟨bk, off, sp⟩ := a
    have i0 : (0 : Int) ≤ (n : Int) := by omega
    have i1 : (n : Int) ≤ (b.length : Int) := by omega
    unfold cutV at UV
    simp only at UV
    by_cases hcn : c = n
    · have hcn' := hcn.symm
      subst hcn'
      simp only [if_pos, Nat.sub_self] at UV
      rw [show b.length - n = 0 by omega] at UV
      clear h0
      go_enter Tryd.func31, Tryd.ntmps31
      go_wp2_with fail
      refine wp_region_noPanic ?_
      refine wp_region_held_drew (S := fun w' => Below w.heap.size w w') (by kernel_rfl) (Below.refl _ _).drew (fun hHeld => ?_)
      generalize w.drew = D at hHeld ⊢
      have kb : Below w.heap.size w D := hHeld
      refine wpAnyH_take (i := 0) (oi := ⟨some 6, _, _, _, _, _⟩) (v := ?qv0rn) rfl (by kernel_rfl) (by kernel_rfl) (by kernel_rfl) (fun _ _ _ h => h) (Or.inl ⟨by rfl, ?qy0rn⟩) hHeld ?qr0rn
      case qy0rn => (intro w' hSw; go_simp; try with_reducible rfl)
      try simp only [Act.put, List.setIfInBounds_toArray, List.set_cons_zero, List.set_cons_succ]
      refine wpAnyH_take (i := 1) (oi := ⟨some 7, _, _, _, _, _⟩) (v := ?qv1rn) rfl (by kernel_rfl) (by kernel_rfl) (by kernel_rfl) (fun _ _ _ h => h) (Or.inl ⟨by rfl, ?qy1rn⟩) hHeld ?qr1rn
      case qy1rn => (intro w' hSw; go_simp; try with_reducible rfl)
      try simp only [Act.put, List.setIfInBounds_toArray, List.set_cons_zero, List.set_cons_succ]
      refine wpAnyH_take (i := 2) (oi := ⟨some 8, _, _, _, _, _⟩) (v := ?qv2rn) rfl (by kernel_rfl) (by kernel_rfl) (by kernel_rfl) (fun _ _ _ h => h) (Or.inl ⟨by rfl, ?qy2rn⟩) hHeld ?qr2rn
      case qy2rn => (intro w' hSw; go_simp; try with_reducible rfl)
      try simp only [Act.put, List.setIfInBounds_toArray, List.set_cons_zero, List.set_cons_succ]
      refine wpAnyH_take (i := 3) (oi := ⟨some 9, _, _, _, _, _⟩) (v := ?qv3rn) rfl (by kernel_rfl) (by kernel_rfl) (by kernel_rfl) (fun _ _ _ h => h) (Or.inl ⟨by rfl, ?qy3rn⟩) hHeld ?qr3rn
      case qy3rn => (intro w' hSw; have q0 := (hSw.cell (p := ⟨g, 0, none⟩) hgl).trans c0; have q1 := (hSw.cell (p := ⟨g, 1, none⟩) hgl).trans c1; go_simp; try with_reducible rfl)
      try simp only [Act.put, List.setIfInBounds_toArray, List.set_cons_zero, List.set_cons_succ]
      refine wpAnyH_take (i := 4) (oi := ⟨some 10, _, _, _, _, _⟩) (v := ?qv4rn) rfl (by kernel_rfl) (by kernel_rfl) (by kernel_rfl) (fun _ _ _ h => h) (Or.inl ⟨by rfl, ?qy4rn⟩) hHeld ?qr4rn
      case qy4rn => (intro w' hSw; go_simp; try with_reducible rfl)
      try simp only [Act.put, List.setIfInBounds_toArray, List.set_cons_zero, List.set_cons_succ]
      refine wpAnyH_take (i := 5) (oi := ⟨some 11, _, _, _, _, _⟩) (v := ?qv5rn) rfl (by kernel_rfl) (by kernel_rfl) (by kernel_rfl) (fun _ _ _ h => h) (Or.inl ⟨by rfl, ?qy5rn⟩) hHeld ?qr5rn
      case qy5rn => (intro w' hSw; go_simp; try with_reducible rfl)
      try simp only [Act.put, List.setIfInBounds_toArray, List.set_cons_zero, List.set_cons_succ]
      refine wpAnyH_take (i := 6) (oi := ⟨some 12, _, _, _, _, _⟩) (v := ?qv6rn) rfl (by kernel_rfl) (by kernel_rfl) (by kernel_rfl) (fun _ _ _ h => h) (Or.inl ⟨by rfl, ?qy6rn⟩) hHeld ?qr6rn
      case qy6rn => (intro w' hSw; go_simp; try with_reducible rfl)
      try simp only [Act.put, List.setIfInBounds_toArray, List.set_cons_zero, List.set_cons_succ]
      refine wpAnyH_take (i := 7) (oi := ⟨some 13, _, _, _, _, _⟩) (v := ?qv7rn) rfl (by kernel_rfl) (by kernel_rfl) (by kernel_rfl) (fun _ _ _ h => h) (Or.inl ⟨by rfl, ?qy7rn⟩) hHeld ?qr7rn
      case qy7rn => (intro w' hSw; have q0 := (hSw.cell (p := ⟨g, 0, none⟩) hgl).trans c0; have q1 := (hSw.cell (p := ⟨g, 1, none⟩) hgl).trans c1; go_simp; try with_reducible rfl)
      try simp only [Act.put, List.setIfInBounds_toArray, List.set_cons_zero, List.set_cons_succ]
      refine wpAnyH_take (i := 8) (oi := ⟨some 14, _, _, _, _, _⟩) (v := ?qv8rn) rfl (by kernel_rfl) (by kernel_rfl) (by kernel_rfl) (fun _ _ _ h => h) (Or.inl ⟨by rfl, ?qy8rn⟩) hHeld ?qr8rn
      case qy8rn => (intro w' hSw; have q0 := (hSw.cell (p := ⟨g, 0, none⟩) hgl).trans c0; have q1 := (hSw.cell (p := ⟨g, 1, none⟩) hgl).trans c1; go_simp; try with_reducible rfl)
      try simp only [Act.put, List.setIfInBounds_toArray, List.set_cons_zero, List.set_cons_succ]
      refine wpAnyH_ready (rs := [9]) (by kernel_rfl) (by simp) ?_
      refine AllReadyH.cons (o := ⟨some 15, _, _, _, _, _⟩) rfl (fun K hK => ?_) AllReadyH.nil
      refine step_go (by rfl) 45 _ _ (by rfl) (fun _ _ => by kernel_rfl) _ (by rfl) (UV.out _ kb) ?_
      rintro e w4 ⟨rfl, rfl⟩
      refine ⟨_, rfl, ?_⟩
      refine hK.out _ _ (kb) (fun hHeld => ?_)
      clear hK K
      try simp only [Act.put, List.setIfInBounds_toArray, List.set_cons_zero, List.set_cons_succ]
      refine wpAnyH_take (i := 10) (oi := ⟨some 5, _, _, _, _, _⟩) (v := ?qv10rn) rfl (by kernel_rfl) (by kernel_rfl) (by kernel_rfl) (fun _ _ _ h => h) (Or.inl ⟨by rfl, ?qy10rn⟩) hHeld ?qr10rn
      case qy10rn => (intro w' hSw; go_simp; try with_reducible rfl)
      try simp only [Act.put, List.setIfInBounds_toArray, List.set_cons_zero, List.set_cons_succ]
      refine wpAnyH_take (i := 11) (oi := ⟨some 16, _, _, _, _, _⟩) (v := ?qv11rn) rfl (by kernel_rfl) (by kernel_rfl) (by kernel_rfl) (fun _ _ _ h => h) (Or.inl ⟨by rfl, ?qy11rn⟩) hHeld ?qr11rn
      case qy11rn => (intro w' hSw; go_simp; try with_reducible rfl)
      try simp only [Act.put, List.setIfInBounds_toArray, List.set_cons_zero, List.set_cons_succ]
      refine wpAnyH_take (i := 12) (oi := ⟨some 17, _, _, _, _, _⟩) (v := ?qv12rn) rfl (by kernel_rfl) (by kernel_rfl) (by kernel_rfl) (fun _ _ _ h => h) (Or.inl ⟨by rfl, ?qy12rn⟩) hHeld ?qr12rn
      case qy12rn => (intro w' hSw; go_simp; try with_reducible rfl)
      try simp only [Act.put, List.setIfInBounds_toArray, List.set_cons_zero, List.set_cons_succ]
      refine wpAnyH_take (i := 13) (oi := ⟨some 3, _, _, _, _, _⟩) (v := ?qv13rn) rfl (by kernel_rfl) (by kernel_rfl) (by kernel_rfl) (fun _ _ _ h => h) (Or.inl ⟨by rfl, ?qy13rn⟩) hHeld ?qr13rn
      case qy13rn => (intro w' hSw; go_simp; try with_reducible rfl)
      try simp only [Act.put, List.setIfInBounds_toArray, List.set_cons_zero, List.set_cons_succ]
      refine wpAnyH_take (i := 14) (oi := ⟨some 4, _, _, _, _, _⟩) (v := ?qv14rn) rfl (by kernel_rfl) (by kernel_rfl) (by kernel_rfl) (fun _ _ _ h => h) (Or.inl ⟨by rfl, ?qy14rn⟩) hHeld ?qr14rn
      case qy14rn => (intro w' hSw; go_simp; try with_reducible rfl)
      try simp only [Act.put, List.setIfInBounds_toArray, List.set_cons_zero, List.set_cons_succ]
      refine wpAnyH_done (by kernel_rfl) ?_ _
      refine NoPanic.normal ?_
      have B5 : Below w.heap.size w D := hHeld
      have R5 := HR.out.below B5
      have FN := Lib.hid (R5.put (n + M) (bad || q))
      have ON := Lib.hid (((OnlB.of_below B5 (Nat.le_of_lt hgl)).setCell 2 (.bool (bad || q))).setCell 1 (.int .i64 ((n + M : Nat) : Int)))
      rw [Int.natCast_add] at FN ON
      obtain ⟨d0, d1, d2, f1, f2⟩ := R5
      clear hHeld kb UV c0 c1
      cases bad <;> cases q
      all_goals
        go_wp2_with fail
        go_ret
        exact ⟨rfl, FN.out, ON.out⟩
    · simp only [if_neg hcn] at UV
      clear h0
      go_enter Tryd.func31, Tryd.ntmps31
      go_wp2_with fail
      refine wp_region_noPanic ?_
      refine wp_region_held_drew (S := fun w' => Below w.heap.size w w') (by kernel_rfl) (Below.refl _ _).drew (fun hHeld => ?_)
      generalize w.drew = D at hHeld ⊢
      have kb : Below w.heap.size w D := hHeld
      refine wpAnyH_take (i := 0) (oi := ⟨some 6, _, _, _, _, _⟩) (v := ?qv0rm) rfl (by kernel_rfl) (by kernel_rfl) (by kernel_rfl) (fun _ _ _ h => h) (Or.inl ⟨by rfl, ?qy0rm⟩) hHeld ?qr0rm
      case qy0rm => (intro w' hSw; go_simp; try with_reducible rfl)
      try simp only [Act.put, List.setIfInBounds_toArray, List.set_cons_zero, List.set_cons_succ]
      refine wpAnyH_take (i := 1) (oi := ⟨some 7, _, _, _, _, _⟩) (v := ?qv1rm) rfl (by kernel_rfl) (by kernel_rfl) (by kernel_rfl) (fun _ _ _ h => h) (Or.inl ⟨by rfl, ?qy1rm⟩) hHeld ?qr1rm
      case qy1rm => (intro w' hSw; go_simp; try with_reducible rfl)
      try simp only [Act.put, List.setIfInBounds_toArray, List.set_cons_zero, List.set_cons_succ]
      refine wpAnyH_take (i := 2) (oi := ⟨some 8, _, _, _, _, _⟩) (v := ?qv2rm) rfl (by kernel_rfl) (by kernel_rfl) (by kernel_rfl) (fun _ _ _ h => h) (Or.inl ⟨by rfl, ?qy2rm⟩) hHeld ?qr2rm
      case qy2rm => (intro w' hSw; go_simp; try with_reducible rfl)
      try simp only [Act.put, List.setIfInBounds_toArray, List.set_cons_zero, List.set_cons_succ]
      refine wpAnyH_take (i := 3) (oi := ⟨some 9, _, _, _, _, _⟩) (v := ?qv3rm) rfl (by kernel_rfl) (by kernel_rfl) (by kernel_rfl) (fun _ _ _ h => h) (Or.inl ⟨by rfl, ?qy3rm⟩) hHeld ?qr3rm
      case qy3rm => (intro w' hSw; have q0 := (hSw.cell (p := ⟨g, 0, none⟩) hgl).trans c0; have q1 := (hSw.cell (p := ⟨g, 1, none⟩) hgl).trans c1; go_simp; try with_reducible rfl)
      try simp only [Act.put, List.setIfInBounds_toArray, List.set_cons_zero, List.set_cons_succ]
      refine wpAnyH_take (i := 4) (oi := ⟨some 10, _, _, _, _, _⟩) (v := ?qv4rm) rfl (by kernel_rfl) (by kernel_rfl) (by kernel_rfl) (fun _ _ _ h => h) (Or.inl ⟨by rfl, ?qy4rm⟩) hHeld ?qr4rm
      case qy4rm => (intro w' hSw; go_simp; try with_reducible rfl)
      try simp only [Act.put, List.setIfInBounds_toArray, List.set_cons_zero, List.set_cons_succ]
      refine wpAnyH_take (i := 5) (oi := ⟨some 11, _, _, _, _, _⟩) (v := ?qv5rm) rfl (by kernel_rfl) (by kernel_rfl) (by kernel_rfl) (fun _ _ _ h => h) (Or.inl ⟨by rfl, ?qy5rm⟩) hHeld ?qr5rm
      case qy5rm => (intro w' hSw; go_simp; try with_reducible rfl)
      try simp only [Act.put, List.setIfInBounds_toArray, List.set_cons_zero, List.set_cons_succ]
      refine wpAnyH_take (i := 6) (oi := ⟨some 12, _, _, _, _, _⟩) (v := ?qv6rm) rfl (by kernel_rfl) (by kernel_rfl) (by kernel_rfl) (fun _ _ _ h => h) (Or.inl ⟨by rfl, ?qy6rm⟩) hHeld ?qr6rm
      case qy6rm => (intro w' hSw; go_simp; try with_reducible rfl)
      try simp only [Act.put, List.setIfInBounds_toArray, List.set_cons_zero, List.set_cons_succ]
      refine wpAnyH_take (i := 7) (oi := ⟨some 13, _, _, _, _, _⟩) (v := ?qv7rm) rfl (by kernel_rfl) (by kernel_rfl) (by kernel_rfl) (fun _ _ _ h => h) (Or.inl ⟨by rfl, ?qy7rm⟩) hHeld ?qr7rm
      case qy7rm => (intro w' hSw; have q0 := (hSw.cell (p := ⟨g, 0, none⟩) hgl).trans c0; have q1 := (hSw.cell (p := ⟨g, 1, none⟩) hgl).trans c1; go_simp; try with_reducible rfl)
      try simp only [Act.put, List.setIfInBounds_toArray, List.set_cons_zero, List.set_cons_succ]
      refine wpAnyH_take (i := 8) (oi := ⟨some 14, _, _, _, _, _⟩) (v := ?qv8rm) rfl (by kernel_rfl) (by kernel_rfl) (by kernel_rfl) (fun _ _ _ h => h) (Or.inl ⟨by rfl, ?qy8rm⟩) hHeld ?qr8rm
      case qy8rm => (intro w' hSw; have q0 := (hSw.cell (p := ⟨g, 0, none⟩) hgl).trans c0; have q1 := (hSw.cell (p := ⟨g, 1, none⟩) hgl).trans c1; go_simp; try with_reducible rfl)
      try simp only [Act.put, List.setIfInBounds_toArray, List.set_cons_zero, List.set_cons_succ]
      refine wpAnyH_ready (rs := [9]) (by kernel_rfl) (by simp) ?_
      refine AllReadyH.cons (o := ⟨some 15, _, _, _, _, _⟩) rfl (fun K hK => ?_) AllReadyH.nil
      refine step_go (by rfl) 45 _ _ (by rfl) (fun _ _ => by kernel_rfl) _ (by rfl) (UV.out _ kb) ?_
      rintro e w4 ⟨rfl, rfl⟩
      refine ⟨_, rfl, ?_⟩
      refine hK.out _ _ (kb) (fun hHeld => ?_)
      clear hK K
      try simp only [Act.put, List.setIfInBounds_toArray, List.set_cons_zero, List.set_cons_succ]
      refine wpAnyH_take (i := 10) (oi := ⟨some 5, _, _, _, _, _⟩) (v := ?qv10rm) rfl (by kernel_rfl) (by kernel_rfl) (by kernel_rfl) (fun _ _ _ h => h) (Or.inl ⟨by rfl, ?qy10rm⟩) hHeld ?qr10rm
      case qy10rm => (intro w' hSw; go_simp; try with_reducible rfl)
      try simp only [Act.put, List.setIfInBounds_toArray, List.set_cons_zero, List.set_cons_succ]
      refine wpAnyH_take (i := 11) (oi := ⟨some 16, _, _, _, _, _⟩) (v := ?qv11rm) rfl (by kernel_rfl) (by kernel_rfl) (by kernel_rfl) (fun _ _ _ h => h) (Or.inl ⟨by rfl, ?qy11rm⟩) hHeld ?qr11rm
      case qy11rm => (intro w' hSw; go_simp; try with_reducible rfl)
      try simp only [Act.put, List.setIfInBounds_toArray, List.set_cons_zero, List.set_cons_succ]
      refine wpAnyH_take (i := 12) (oi := ⟨some 17, _, _, _, _, _⟩) (v := ?qv12rm) rfl (by kernel_rfl) (by kernel_rfl) (by kernel_rfl) (fun _ _ _ h => h) (Or.inl ⟨by rfl, ?qy12rm⟩) hHeld ?qr12rm
      case qy12rm => (intro w' hSw; go_simp; try with_reducible rfl)
      try simp only [Act.put, List.setIfInBounds_toArray, List.set_cons_zero, List.set_cons_succ]
      refine wpAnyH_take (i := 13) (oi := ⟨some 3, _, _, _, _, _⟩) (v := ?qv13rm) rfl (by kernel_rfl) (by kernel_rfl) (by kernel_rfl) (fun _ _ _ h => h) (Or.inl ⟨by rfl, ?qy13rm⟩) hHeld ?qr13rm
      case qy13rm => (intro w' hSw; go_simp; try with_reducible rfl)
      try simp only [Act.put, List.setIfInBounds_toArray, List.set_cons_zero, List.set_cons_succ]
      refine wpAnyH_take (i := 14) (oi := ⟨some 4, _, _, _, _, _⟩) (v := ?qv14rm) rfl (by kernel_rfl) (by kernel_rfl) (by kernel_rfl) (fun _ _ _ h => h) (Or.inl ⟨by rfl, ?qy14rm⟩) hHeld ?qr14rm
      case qy14rm => (intro w' hSw; go_simp; try with_reducible rfl)
      try simp only [Act.put, List.setIfInBounds_toArray, List.set_cons_zero, List.set_cons_succ]
      refine wpAnyH_done (by kernel_rfl) ?_ _
      refine NoPanic.normal ?_
      have B5 : Below w.heap.size w D := hHeld
      have R5 := HR.out.below B5
      have FN := Lib.hid (R5.put (n + M) (bad || q))
      have ON := Lib.hid (((OnlB.of_below B5 (Nat.le_of_lt hgl)).setCell 2 (.bool (bad || q))).setCell 1 (.int .i64 ((n + M : Nat) : Int)))
      rw [Int.natCast_add] at FN ON
      obtain ⟨d0, d1, d2, f1, f2⟩ := R5
      clear hHeld kb UV c0 c1
      cases bad <;> cases q
      all_goals
        go_wp2_with fail
        go_ret
        exact ⟨rfl, FN.out, ON.out⟩
set_option maxRecDepth 100000 in
theorem signed_any (g : Nat) (v : Value) (b : List UInt8) (n : Nat) (bad : Bool) (w : World) (hv : Byt w v b) (hn : n ≤ b.length) (hl : b.length ≤ 1000) (hr : RdS w g v n bad) :
    Calls Tryd.prog 32 #[.pointer (some ⟨g, 0, none⟩)] w fun e w' => e = .returned (.int .i64 (unsg (b.drop n)).1) ∧ RdS w' g v (n + (unsg (b.drop n)).2.1) (bad || !(unsg (b.drop n)).2.2) ∧ OnlB g w w' := by
  have UV := Lib.hid (fun w' (hb : Below w.heap.size w w') => Unsigned_any (cutV v n) (b.drop n) w' ((hv.cut hn).below hb))
  unfold UnsRet at UV
  have hle := (unsg_le (b.drop n)).2
  rw [List.length_drop] at hle
  generalize unsg (b.drop n) = uu at *
  obtain ⟨U, M, q0⟩ := uu
  simp only at UV hle ⊢
  obtain ⟨ao, c, rfl, h1, h2, h0, h3⟩ := hv.open
  unfold maxLen at h2
  have HR := Lib.hid hr
  have hgl := hr.lt
  obtain ⟨c0, c1, c2, f1, f2⟩ := hr
  have hnM : n + M ≤ 1000 := by omega
  obtain ⟨q, hq⟩ : ∃ q, (!q0) = q := ⟨_, rfl⟩
  rw [hq]
  obtain rfl : q0 = !q := by rw [← hq]; simp
  clear h3 hv f1 f2 c2 hq
  cases ao with
  | none =>
    have hc := h0 rfl
    have hl0 : b.length = 0 := by omega
    obtain rfl : n = 0 := by omega
    subst hc
    obtain rfl := List.length_eq_zero_iff.1 hl0
    unfold cutV at UV
    simp only [List.length_nil] at *
    go_enter Tryd.func32, Tryd.ntmps32
    go_wp2_with fail
    refine wp_region_noPanic ?_
    refine wp_region_held_drew (S := fun w' => Below w.heap.size w w') (by kernel_rfl) (Below.refl _ _).drew (fun hHeld => ?_)
    generalize w.drew = D at hHeld ⊢
    have kb : Below w.heap.size w D := hHeld
    refine wpAnyH_take (i := 0) (oi := ⟨some 7, _, _, _, _, _⟩) (v := ?qv0so) rfl (by kernel_rfl) (by kernel_rfl) (by kernel_rfl) (fun _ _ _ h => h) (Or.inl ⟨by rfl, ?qy0so⟩) hHeld ?qr0so
    case qy0so => (intro w' hSw; go_simp; try with_reducible rfl)
    try simp only [Act.put, List.setIfInBounds_toArray, List.set_cons_zero, List.set_cons_succ]
    refine wpAnyH_take (i := 1) (oi := ⟨some 8, _, _, _, _, _⟩) (v := ?qv1so) rfl (by kernel_rfl) (by kernel_rfl) (by kernel_rfl) (fun _ _ _ h => h) (Or.inl ⟨by rfl, ?qy1so⟩) hHeld ?qr1so
    case qy1so => (intro w' hSw; go_simp; try with_reducible rfl)
    try simp only [Act.put, List.setIfInBounds_toArray, List.set_cons_zero, List.set_cons_succ]
    refine wpAnyH_take (i := 2) (oi := ⟨some 9, _, _, _, _, _⟩) (v := ?qv2so) rfl (by kernel_rfl) (by kernel_rfl) (by kernel_rfl) (fun _ _ _ h => h) (Or.inl ⟨by rfl, ?qy2so⟩) hHeld ?qr2so
    case qy2so => (intro w' hSw; go_simp; try with_reducible rfl)
    try simp only [Act.put, List.setIfInBounds_toArray, List.set_cons_zero, List.set_cons_succ]
    refine wpAnyH_take (i := 3) (oi := ⟨some 10, _, _, _, _, _⟩) (v := ?qv3so) rfl (by kernel_rfl) (by kernel_rfl) (by kernel_rfl) (fun _ _ _ h => h) (Or.inl ⟨by rfl, ?qy3so⟩) hHeld ?qr3so
    case qy3so => (intro w' hSw; have q0 := (hSw.cell (p := ⟨g, 0, none⟩) hgl).trans c0; have q1 := (hSw.cell (p := ⟨g, 1, none⟩) hgl).trans c1; go_simp; try with_reducible rfl)
    try simp only [Act.put, List.setIfInBounds_toArray, List.set_cons_zero, List.set_cons_succ]
    refine wpAnyH_take (i := 4) (oi := ⟨some 11, _, _, _, _, _⟩) (v := ?qv4so) rfl (by kernel_rfl) (by kernel_rfl) (by kernel_rfl) (fun _ _ _ h => h) (Or.inl ⟨by rfl, ?qy4so⟩) hHeld ?qr4so
    case qy4so => (intro w' hSw; go_simp; try with_reducible rfl)
    try simp only [Act.put, List.setIfInBounds_toArray, List.set_cons_zero, List.set_cons_succ]
    refine wpAnyH_take (i := 5) (oi := ⟨some 12, _, _, _, _, _⟩) (v := ?qv5so) rfl (by kernel_rfl) (by kernel_rfl) (by kernel_rfl) (fun _ _ _ h => h) (Or.inl ⟨by rfl, ?qy5so⟩) hHeld ?qr5so
    case qy5so => (intro w' hSw; go_simp; try with_reducible rfl)
    try simp only [Act.put, List.setIfInBounds_toArray, List.set_cons_zero, List.set_cons_succ]
    refine wpAnyH_take (i := 6) (oi := ⟨some 13, _, _, _, _, _⟩) (v := ?qv6so) rfl (by kernel_rfl) (by kernel_rfl) (by kernel_rfl) (fun _ _ _ h => h) (Or.inl ⟨by rfl, ?qy6so⟩) hHeld ?qr6so
    case qy6so => (intro w' hSw; go_simp; try with_reducible rfl)
    try simp only [Act.put, List.setIfInBounds_toArray, List.set_cons_zero, List.set_cons_succ]
    refine wpAnyH_take (i := 7) (oi := ⟨some 14, _, _, _, _, _⟩) (v := ?qv7so) rfl (by kernel_rfl) (by kernel_rfl) (by kernel_rfl) (fun _ _ _ h => h) (Or.inl ⟨by rfl, ?qy7so⟩) hHeld ?qr7so
    case qy7so => (intro w' hSw; have q0 := (hSw.cell (p := ⟨g, 0, none⟩) hgl).trans c0; have q1 := (hSw.cell (p := ⟨g, 1, none⟩) hgl).trans c1; go_simp; try with_reducible rfl)
    try simp only [Act.put, List.setIfInBounds_toArray, List.set_cons_zero, List.set_cons_succ]
    refine wpAnyH_take (i := 8) (oi := ⟨some 15, _, _, _, _, _⟩) (v := ?qv8so) rfl (by kernel_rfl) (by kernel_rfl) (by kernel_rfl) (fun _ _ _ h => h) (Or.inl ⟨by rfl, ?qy8so⟩) hHeld ?qr8so
    case qy8so => (intro w' hSw; have q0 := (hSw.cell (p := ⟨g, 0, none⟩) hgl).trans c0; have q1 := (hSw.cell (p := ⟨g, 1, none⟩) hgl).trans c1; go_simp; try with_reducible rfl)
    try simp only [Act.put, List.setIfInBounds_toArray, List.set_cons_zero, List.set_cons_succ]
    refine wpAnyH_ready (rs := [9]) (by kernel_rfl) (by simp) ?_
    refine AllReadyH.cons (o := ⟨some 16, _, _, _, _, _⟩) rfl (fun K hK => ?_) AllReadyH.nil
    refine step_go (by rfl) 46 _ _ (by rfl) (fun _ _ => by kernel_rfl) _ (by rfl) (UV.out _ kb) ?_
    rintro e w4 ⟨rfl, rfl⟩
    refine ⟨_, rfl, ?_⟩
    refine hK.out _ _ (kb) (fun hHeld => ?_)
    clear hK K
    try simp only [Act.put, List.setIfInBounds_toArray, List.set_cons_zero, List.set_cons_succ]
    refine wpAnyH_take (i := 10) (oi := ⟨some 6, _, _, _, _, _⟩) (v := ?qv10so) rfl (by kernel_rfl) (by kernel_rfl) (by kernel_rfl) (fun _ _ _ h => h) (Or.inl ⟨by rfl, ?qy10so⟩) hHeld ?qr10so
    case qy10so => (intro w' hSw; go_simp; try with_reducible rfl)
    try simp only [Act.put, List.setIfInBounds_toArray, List.set_cons_zero, List.set_cons_succ]
    refine wpAnyH_take (i := 11) (oi := ⟨some 17, _, _, _, _, _⟩) (v := ?qv11so) rfl (by kernel_rfl) (by kernel_rfl) (by kernel_rfl) (fun _ _ _ h => h) (Or.inl ⟨by rfl, ?qy11so⟩) hHeld ?qr11so
    case qy11so => (intro w' hSw; go_simp; try with_reducible rfl)
    try simp only [Act.put, List.setIfInBounds_toArray, List.set_cons_zero, List.set_cons_succ]
    refine wpAnyH_take (i := 12) (oi := ⟨some 18, _, _, _, _, _⟩) (v := ?qv12so) rfl (by kernel_rfl) (by kernel_rfl) (by kernel_rfl) (fun _ _ _ h => h) (Or.inl ⟨by rfl, ?qy12so⟩) hHeld ?qr12so
    case qy12so => (intro w' hSw; go_simp; try with_reducible rfl)
    try simp only [Act.put, List.setIfInBounds_toArray, List.set_cons_zero, List.set_cons_succ]
    refine wpAnyH_take (i := 13) (oi := ⟨some 19, _, _, _, _, _⟩) (v := ?qv13so) rfl (by kernel_rfl) (by kernel_rfl) (by kernel_rfl) (fun _ _ _ h => h) (Or.inl ⟨by rfl, ?qy13so⟩) hHeld ?qr13so
    case qy13so => (intro w' hSw; go_simp; try with_reducible rfl)
    try simp only [Act.put, List.setIfInBounds_toArray, List.set_cons_zero, List.set_cons_succ]
    refine wpAnyH_take (i := 14) (oi := ⟨some 3, _, _, _, _, _⟩) (v := ?qv14so) rfl (by kernel_rfl) (by kernel_rfl) (by kernel_rfl) (fun _ _ _ h => h) (Or.inl ⟨by rfl, ?qy14so⟩) hHeld ?qr14so
    case qy14so => (intro w' hSw; go_simp; try with_reducible rfl)
    try simp only [Act.put, List.setIfInBounds_toArray, List.set_cons_zero, List.set_cons_succ]
    refine wpAnyH_take (i := 15) (oi := ⟨some 4, _, _, _, _, _⟩) (v := ?qv15so) rfl (by kernel_rfl) (by kernel_rfl) (by kernel_rfl) (fun _ _ _ h => h) (Or.inl ⟨by rfl, ?qy15so⟩) hHeld ?qr15so
    case qy15so => (intro w' hSw; go_simp; try with_reducible rfl)
    try simp only [Act.put, List.setIfInBounds_toArray, List.set_cons_zero, List.set_cons_succ]
    refine wpAnyH_take (i := 16) (oi := ⟨some 5, _, _, _, _, _⟩) (v := ?qv16so) rfl (by kernel_rfl) (by kernel_rfl) (by kernel_rfl) (fun _ _ _ h => h) (Or.inl ⟨by rfl, ?qy16so⟩) hHeld ?qr16so
    case qy16so => (intro w' hSw; go_simp; try with_reducible rfl)
    try simp only [Act.put, List.setIfInBounds_toArray, List.set_cons_zero, List.set_cons_succ]
    refine wpAnyH_done (by kernel_rfl) ?_ _
    refine NoPanic.normal ?_
    have B5 : Below w.heap.size w D := hHeld
    have R5 := HR.out.below B5
    have FN := Lib.hid (R5.put M (bad || q))
    have ON := Lib.hid (((OnlB.of_below B5 (Nat.le_of_lt hgl)).setCell 2 (.bool (bad || q))).setCell 1 (.int .i64 ((M : Nat) : Int)))
    obtain ⟨d0, d1, d2, f1, f2⟩ := R5
    clear hHeld kb UV c0 c1
    cases bad <;> cases q
    all_goals
      go_wp2_with fail
      go_ret
      exact ⟨rfl, by rw [Nat.zero_add]; exact FN.out, ON.out⟩
  | some a =>
    obtain ⟨bk, off, sp⟩ := a
    have i0 : (0 : Int) ≤ (n : Int) := by omega
    have i1 : (n : Int) ≤ (b.length : Int) := by omega
    unfold cutV at UV
    simp only at UV
    by_cases hcn : c = n
    · have hcn' := hcn.symm
      subst hcn'
      simp only [if_pos, Nat.sub_self] at UV
      rw [show b.length - n = 0 by omega] at UV
      clear h0
      go_enter Tryd.func32, Tryd.ntmps32
      go_wp2_with fail
      refine wp_region_noPanic ?_
      refine wp_region_held_drew (S := fun w' => Below w.heap.size w w') (by kernel_rfl) (Below.refl _ _).drew (fun hHeld => ?_)
      generalize w.drew = D at hHeld ⊢
      have kb : Below w.heap.size w D := hHeld
      refine wpAnyH_take (i := 0) (oi := ⟨some 7, _, _, _, _, _⟩) (v := ?qv0sn) rfl (by kernel_rfl) (by kernel_rfl) (by kernel_rfl) (fun _ _ _ h => h) (Or.inl ⟨by rfl, ?qy0sn⟩) hHeld ?qr0sn
      case qy0sn => (intro w' hSw; go_simp; try with_reducible rfl)
      try simp only [Act.put, List.setIfInBounds_toArray, List.set_cons_zero, List.set_cons_succ]
      refine wpAnyH_take (i := 1) (oi := ⟨some 8, _, _, _, _, _⟩) (v := ?qv1sn) rfl (by kernel_rfl) (by kernel_rfl) (by kernel_rfl) (fun _ _ _ h => h) (Or.inl ⟨by rfl, ?qy1sn⟩) hHeld ?qr1sn
      case qy1sn => (intro w' hSw; go_simp; try with_reducible rfl)
      try simp only [Act.put, List.setIfInBounds_toArray, List.set_cons_zero, List.set_cons_succ]
      refine wpAnyH_take (i := 2) (oi := ⟨some 9, _, _, _, _, _⟩) (v := ?qv2sn) rfl (by kernel_rfl) (by kernel_rfl) (by kernel_rfl) (fun _ _ _ h => h) (Or.inl ⟨by rfl, ?qy2sn⟩) hHeld ?qr2sn
      case qy2sn => (intro w' hSw; go_simp; try with_reducible rfl)
      try simp only [Act.put, List.setIfInBounds_toArray, List.set_cons_zero, List.set_cons_succ]
      refine wpAnyH_take (i := 3) (oi := ⟨some 10, _, _, _, _, _⟩) (v := ?qv3sn) rfl (by kernel_rfl) (by kernel_rfl) (by kernel_rfl) (fun _ _ _ h => h) (Or.inl ⟨by rfl, ?qy3sn⟩) hHeld ?qr3sn
      case qy3sn => (intro w' hSw; have q0 := (hSw.cell (p := ⟨g, 0, none⟩) hgl).trans c0; have q1 := (hSw.cell (p := ⟨g, 1, none⟩) hgl).trans c1; go_simp; try with_reducible rfl)
      try simp only [Act.put, List.setIfInBounds_toArray, List.set_cons_zero, List.set_cons_succ]
      refine wpAnyH_take (i := 4) (oi := ⟨some 11, _, _, _, _, _⟩) (v := ?qv4sn) rfl (by kernel_rfl) (by kernel_rfl) (by kernel_rfl) (fun _ _ _ h => h) (Or.inl ⟨by rfl, ?qy4sn⟩) hHeld ?qr4sn
      case qy4sn => (intro w' hSw; go_simp; try with_reducible rfl)
      try simp only [Act.put, List.setIfInBounds_toArray, List.set_cons_zero, List.set_cons_succ]
      refine wpAnyH_take (i := 5) (oi := ⟨some 12, _, _, _, _, _⟩) (v := ?qv5sn) rfl (by kernel_rfl) (by kernel_rfl) (by kernel_rfl) (fun _ _ _ h => h) (Or.inl ⟨by rfl, ?qy5sn⟩) hHeld ?qr5sn
      case qy5sn => (intro w' hSw; go_simp; try with_reducible rfl)
      try simp only [Act.put, List.setIfInBounds_toArray, List.set_cons_zero, List.set_cons_succ]
      refine wpAnyH_take (i := 6) (oi := ⟨some 13, _, _, _, _, _⟩) (v := ?qv6sn) rfl (by kernel_rfl) (by kernel_rfl) (by kernel_rfl) (fun _ _ _ h => h) (Or.inl ⟨by rfl, ?qy6sn⟩) hHeld ?qr6sn
      case qy6sn => (intro w' hSw; go_simp; try with_reducible rfl)
      try simp only [Act.put, List.setIfInBounds_toArray, List.set_cons_zero, List.set_cons_succ]
      refine wpAnyH_take (i := 7) (oi := ⟨some 14, _, _, _, _, _⟩) (v := ?qv7sn) rfl (by kernel_rfl) (by kernel_rfl) (by kernel_rfl) (fun _ _ _ h => h) (Or.inl ⟨by rfl, ?qy7sn⟩) hHeld ?qr7sn
      case qy7sn => (intro w' hSw; have q0 := (hSw.cell (p := ⟨g, 0, none⟩) hgl).trans c0; have q1 := (hSw.cell (p := ⟨g, 1, none⟩) hgl).trans c1; go_simp; try with_reducible rfl)
      try simp only [Act.put, List.setIfInBounds_toArray, List.set_cons_zero, List.set_cons_succ]
      refine wpAnyH_take (i := 8) (oi := ⟨some 15, _, _, _, _, _⟩) (v := ?qv8sn) rfl (by kernel_rfl) (by kernel_rfl) (by kernel_rfl) (fun _ _ _ h => h) (Or.inl ⟨by rfl, ?qy8sn⟩) hHeld ?qr8sn
      case qy8sn => (intro w' hSw; have q0 := (hSw.cell (p := ⟨g, 0, none⟩) hgl).trans c0; have q1 := (hSw.cell (p := ⟨g, 1, none⟩) hgl).trans c1; go_simp; try with_reducible rfl)
      try simp only [Act.put, List.setIfInBounds_toArray, List.set_cons_zero, List.set_cons_succ]
      refine wpAnyH_ready (rs := [9]) (by kernel_rfl) (by simp) ?_
      refine AllReadyH.cons (o := ⟨some 16, _, _, _, _, _⟩) rfl (fun K hK => ?_) AllReadyH.nil
      refine step_go (by rfl) 46 _ _ (by rfl) (fun _ _ => by kernel_rfl) _ (by rfl) (UV.out _ kb) ?_
      rintro e w4 ⟨rfl, rfl⟩
      refine ⟨_, rfl, ?_⟩
      refine hK.out _ _ (kb) (fun hHeld => ?_)
      clear hK K
      try simp only [Act.put, List.setIfInBounds_toArray, List.set_cons_zero, List.set_cons_succ]
      refine wpAnyH_take (i := 10) (oi := ⟨some 6, _, _, _, _, _⟩) (v := ?qv10sn) rfl (by kernel_rfl) (by kernel_rfl) (by kernel_rfl) (fun _ _ _ h => h) (Or.inl ⟨by rfl, ?qy10sn⟩) hHeld ?qr10sn
      case qy10sn => (intro w' hSw; go_simp; try with_reducible rfl)
      try simp only [Act.put, List.setIfInBounds_toArray, List.set_cons_zero, List.set_cons_succ]
      refine wpAnyH_take (i := 11) (oi := ⟨some 17, _, _, _, _, _⟩) (v := ?qv11sn) rfl (by kernel_rfl) (by kernel_rfl) (by kernel_rfl) (fun _ _ _ h => h) (Or.inl ⟨by rfl, ?qy11sn⟩) hHeld ?qr11sn
      case qy11sn => (intro w' hSw; go_simp; try with_reducible rfl)
      try simp only [Act.put, List.setIfInBounds_toArray, List.set_cons_zero, List.set_cons_succ]
      refine wpAnyH_take (i := 12) (oi := ⟨some 18, _, _, _, _, _⟩) (v := ?qv12sn) rfl (by kernel_rfl) (by kernel_rfl) (by kernel_rfl) (fun _ _ _ h => h) (Or.inl ⟨by rfl, ?qy12sn⟩) hHeld ?qr12sn
      case qy12sn => (intro w' hSw; go_simp; try with_reducible rfl)
      try simp only [Act.put, List.setIfInBounds_toArray, List.set_cons_zero, List.set_cons_succ]
      refine wpAnyH_take (i := 13) (oi := ⟨some 19, _, _, _, _, _⟩) (v := ?qv13sn) rfl (by kernel_rfl) (by kernel_rfl) (by kernel_rfl) (fun _ _ _ h => h) (Or.inl ⟨by rfl, ?qy13sn⟩) hHeld ?qr13sn
      case qy13sn => (intro w' hSw; go_simp; try with_reducible rfl)
      try simp only [Act.put, List.setIfInBounds_toArray, List.set_cons_zero, List.set_cons_succ]
      refine wpAnyH_take (i := 14) (oi := ⟨some 3, _, _, _, _, _⟩) (v := ?qv14sn) rfl (by kernel_rfl) (by kernel_rfl) (by kernel_rfl) (fun _ _ _ h => h) (Or.inl ⟨by rfl, ?qy14sn⟩) hHeld ?qr14sn
      case qy14sn => (intro w' hSw; go_simp; try with_reducible rfl)
      try simp only [Act.put, List.setIfInBounds_toArray, List.set_cons_zero, List.set_cons_succ]
      refine wpAnyH_take (i := 15) (oi := ⟨some 4, _, _, _, _, _⟩) (v := ?qv15sn) rfl (by kernel_rfl) (by kernel_rfl) (by kernel_rfl) (fun _ _ _ h => h) (Or.inl ⟨by rfl, ?qy15sn⟩) hHeld ?qr15sn
      case qy15sn => (intro w' hSw; go_simp; try with_reducible rfl)
      try simp only [Act.put, List.setIfInBounds_toArray, List.set_cons_zero, List.set_cons_succ]
      refine wpAnyH_take (i := 16) (oi := ⟨some 5, _, _, _, _, _⟩) (v := ?qv16sn) rfl (by kernel_rfl) (by kernel_rfl) (by kernel_rfl) (fun _ _ _ h => h) (Or.inl ⟨by rfl, ?qy16sn⟩) hHeld ?qr16sn
      case qy16sn => (intro w' hSw; go_simp; try with_reducible rfl)
      try simp only [Act.put, List.setIfInBounds_toArray, List.set_cons_zero, List.set_cons_succ]
      refine wpAnyH_done (by kernel_rfl) ?_ _
      refine NoPanic.normal ?_
      have B5 : Below w.heap.size w D := hHeld
      have R5 := HR.out.below B5
      have FN := Lib.hid (R5.put (n + M) (bad || q))
      have ON := Lib.hid (((OnlB.of_below B5 (Nat.le_of_lt hgl)).setCell 2 (.bool (bad || q))).setCell 1 (.int .i64 ((n + M : Nat) : Int)))
      rw [Int.natCast_add] at FN ON
      obtain ⟨d0, d1, d2, f1, f2⟩ := R5
      clear hHeld kb UV c0 c1
      cases bad <;> cases q
      all_goals
        go_wp2_with fail
        go_ret
        exact ⟨rfl, FN.out, ON.out⟩
    · simp only [if_neg hcn] at UV
      clear h0
      go_enter Tryd.func32, Tryd.ntmps32
      go_wp2_with fail
      refine wp_region_noPanic ?_
      refine wp_region_held_drew (S := fun w' => Below w.heap.size w w') (by kernel_rfl) (Below.refl _ _).drew (fun hHeld => ?_)
      generalize w.drew = D at hHeld ⊢
      have kb : Below w.heap.size w D := hHeld
      refine wpAnyH_take (i := 0) (oi := ⟨some 7, _, _, _, _, _⟩) (v := ?qv0sm) rfl (by kernel_rfl) (by kernel_rfl) (by kernel_rfl) (fun _ _ _ h => h) (Or.inl ⟨by rfl, ?qy0sm⟩) hHeld ?qr0sm
      case qy0sm => (intro w' hSw; go_simp; try with_reducible rfl)
      try simp only [Act.put, List.setIfInBounds_toArray, List.set_cons_zero, List.set_cons_succ]
      refine wpAnyH_take (i := 1) (oi := ⟨some 8, _, _, _, _, _⟩) (v := ?qv1sm) rfl (by kernel_rfl) (by kernel_rfl) (by kernel_rfl) (fun _ _ _ h => h) (Or.inl ⟨by rfl, ?qy1sm⟩) hHeld ?qr1sm
      case qy1sm => (intro w' hSw; go_simp; try with_reducible rfl)
      try simp only [Act.put, List.setIfInBounds_toArray, List.set_cons_zero, List.set_cons_succ]
      refine wpAnyH_take (i := 2) (oi := ⟨some 9, _, _, _, _, _⟩) (v := ?qv2sm) rfl (by kernel_rfl) (by kernel_rfl) (by kernel_rfl) (fun _ _ _ h => h) (Or.inl ⟨by rfl, ?qy2sm⟩) hHeld ?qr2sm
      case qy2sm => (intro w' hSw; go_simp; try with_reducible rfl)
      try simp only [Act.put, List.setIfInBounds_toArray, List.set_cons_zero, List.set_cons_succ]
      refine wpAnyH_take (i := 3) (oi := ⟨some 10, _, _, _, _, _⟩) (v := ?qv3sm) rfl (by kernel_rfl) (by kernel_rfl) (by kernel_rfl) (fun _ _ _ h => h) (Or.inl ⟨by rfl, ?qy3sm⟩) hHeld ?qr3sm
      case qy3sm => (intro w' hSw; have q0 := (hSw.cell (p := ⟨g, 0, none⟩) hgl).trans c0; have q1 := (hSw.cell (p := ⟨g, 1, none⟩) hgl).trans c1; go_simp; try with_reducible rfl)
      try simp only [Act.put, List.setIfInBounds_toArray, List.set_cons_zero, List.set_cons_succ]
      refine wpAnyH_take (i := 4) (oi := ⟨some 11, _, _, _, _, _⟩) (v := ?qv4sm) rfl (by kernel_rfl) (by kernel_rfl) (by kernel_rfl) (fun _ _ _ h => h) (Or.inl ⟨by rfl, ?qy4sm⟩) hHeld ?qr4sm
      case qy4sm => (intro w' hSw; go_simp; try with_reducible rfl)
      try simp only [Act.put, List.setIfInBounds_toArray, List.set_cons_zero, List.set_cons_succ]
      refine wpAnyH_take (i := 5) (oi := ⟨some 12, _, _, _, _, _⟩) (v := ?qv5sm) rfl (by kernel_rfl) (by kernel_rfl) (by kernel_rfl) (fun _ _ _ h => h) (Or.inl ⟨by rfl, ?qy5sm⟩) hHeld ?qr5sm
      case qy5sm => (intro w' hSw; go_simp; try with_reducible rfl)
      try simp only [Act.put, List.setIfInBounds_toArray, List.set_cons_zero, List.set_cons_succ]
      refine wpAnyH_take (i := 6) (oi := ⟨some 13, _, _, _, _, _⟩) (v := ?qv6sm) rfl (by kernel_rfl) (by kernel_rfl) (by kernel_rfl) (fun _ _ _ h => h) (Or.inl ⟨by rfl, ?qy6sm⟩) hHeld ?qr6sm
      case qy6sm => (intro w' hSw; go_simp; try with_reducible rfl)
      try simp only [Act.put, List.setIfInBounds_toArray, List.set_cons_zero, List.set_cons_succ]
      refine wpAnyH_take (i := 7) (oi := ⟨some 14, _, _, _, _, _⟩) (v := ?qv7sm) rfl (by kernel_rfl) (by kernel_rfl) (by kernel_rfl) (fun _ _ _ h => h) (Or.inl ⟨by rfl, ?qy7sm⟩) hHeld ?qr7sm
      case qy7sm => (intro w' hSw; have q0 := (hSw.cell (p := ⟨g, 0, none⟩) hgl).trans c0; have q1 := (hSw.cell (p := ⟨g, 1, none⟩) hgl).trans c1; go_simp; try with_reducible rfl)
      try simp only [Act.put, List.setIfInBounds_toArray, List.set_cons_zero, List.set_cons_succ]
      refine wpAnyH_take (i := 8) (oi := ⟨some 15, _, _, _, _, _⟩) (v := ?qv8sm) rfl (by kernel_rfl) (by kernel_rfl) (by kernel_rfl) (fun _ _ _ h => h) (Or.inl ⟨by rfl, ?qy8sm⟩) hHeld ?qr8sm
      case qy8sm => (intro w' hSw; have q0 := (hSw.cell (p := ⟨g, 0, none⟩) hgl).trans c0; have q1 := (hSw.cell (p := ⟨g, 1, none⟩) hgl).trans c1; go_simp; try with_reducible rfl)
      try simp only [Act.put, List.setIfInBounds_toArray, List.set_cons_zero, List.set_cons_succ]
      refine wpAnyH_ready (rs := [9]) (by kernel_rfl) (by simp) ?_
      refine AllReadyH.cons (o := ⟨some 16, _, _, _, _, _⟩) rfl (fun K hK => ?_) AllReadyH.nil
      refine step_go (by rfl) 46 _ _ (by rfl) (fun _ _ => by kernel_rfl) _ (by rfl) (UV.out _ kb) ?_
      rintro e w4 ⟨rfl, rfl⟩
      refine ⟨_, rfl, ?_⟩
      refine hK.out _ _ (kb) (fun hHeld => ?_)
      clear hK K
      try simp only [Act.put, List.setIfInBounds_toArray, List.set_cons_zero, List.set_cons_succ]
      refine wpAnyH_take (i := 10) (oi := ⟨some 6, _, _, _, _, _⟩) (v := ?qv10sm) rfl (by kernel_rfl) (by kernel_rfl) (by kernel_rfl) (fun _ _ _ h => h) (Or.inl ⟨by rfl, ?qy10sm⟩) hHeld ?qr10sm
      case qy10sm => (intro w' hSw; go_simp; try with_reducible rfl)
      try simp only [Act.put, List.setIfInBounds_toArray, List.set_cons_zero, List.set_cons_succ]
      refine wpAnyH_take (i := 11) (oi := ⟨some 17, _, _, _, _, _⟩) (v := ?qv11sm) rfl (by kernel_rfl) (by kernel_rfl) (by kernel_rfl) (fun _ _ _ h => h) (Or.inl ⟨by rfl, ?qy11sm⟩) hHeld ?qr11sm
      case qy11sm => (intro w' hSw; go_simp; try with_reducible rfl)
      try simp only [Act.put, List.setIfInBounds_toArray, List.set_cons_zero, List.set_cons_succ]
      refine wpAnyH_take (i := 12) (oi := ⟨some 18, _, _, _, _, _⟩) (v := ?qv12sm) rfl (by kernel_rfl) (by kernel_rfl) (by kernel_rfl) (fun _ _ _ h => h) (Or.inl ⟨by rfl, ?qy12sm⟩) hHeld ?qr12sm
      case qy12sm => (intro w' hSw; go_simp; try with_reducible rfl)
      try simp only [Act.put, List.setIfInBounds_toArray, List.set_cons_zero, List.set_cons_succ]
      refine wpAnyH_take (i := 13) (oi := ⟨some 19, _, _, _, _, _⟩) (v := ?qv13sm) rfl (by kernel_rfl) (by kernel_rfl) (by kernel_rfl) (fun _ _ _ h => h) (Or.inl ⟨by rfl, ?qy13sm⟩) hHeld ?qr13sm
      case qy13sm => (intro w' hSw; go_simp; try with_reducible rfl)
      try simp only [Act.put, List.setIfInBounds_toArray, List.set_cons_zero, List.set_cons_succ]
      refine wpAnyH_take (i := 14) (oi := ⟨some 3, _, _, _, _, _⟩) (v := ?qv14sm) rfl (by kernel_rfl) (by kernel_rfl) (by kernel_rfl) (fun _ _ _ h => h) (Or.inl ⟨by rfl, ?qy14sm⟩) hHeld ?qr14sm
      case qy14sm => (intro w' hSw; go_simp; try with_reducible rfl)
      try simp only [Act.put, List.setIfInBounds_toArray, List.set_cons_zero, List.set_cons_succ]
      refine wpAnyH_take (i := 15) (oi := ⟨some 4, _, _, _, _, _⟩) (v := ?qv15sm) rfl (by kernel_rfl) (by kernel_rfl) (by kernel_rfl) (fun _ _ _ h => h) (Or.inl ⟨by rfl, ?qy15sm⟩) hHeld ?qr15sm
      case qy15sm => (intro w' hSw; go_simp; try with_reducible rfl)
      try simp only [Act.put, List.setIfInBounds_toArray, List.set_cons_zero, List.set_cons_succ]
      refine wpAnyH_take (i := 16) (oi := ⟨some 5, _, _, _, _, _⟩) (v := ?qv16sm) rfl (by kernel_rfl) (by kernel_rfl) (by kernel_rfl) (fun _ _ _ h => h) (Or.inl ⟨by rfl, ?qy16sm⟩) hHeld ?qr16sm
      case qy16sm => (intro w' hSw; go_simp; try with_reducible rfl)
      try simp only [Act.put, List.setIfInBounds_toArray, List.set_cons_zero, List.set_cons_succ]
      refine wpAnyH_done (by kernel_rfl) ?_ _
      refine NoPanic.normal ?_
      have B5 : Below w.heap.size w D := hHeld
      have R5 := HR.out.below B5
      have FN := Lib.hid (R5.put (n + M) (bad || q))
      have ON := Lib.hid (((OnlB.of_below B5 (Nat.le_of_lt hgl)).setCell 2 (.bool (bad || q))).setCell 1 (.int .i64 ((n + M : Nat) : Int)))
      rw [Int.natCast_add] at FN ON
      obtain ⟨d0, d1, d2, f1, f2⟩ := R5
      clear hHeld kb UV c0 c1
      cases bad <;> cases q
      all_goals
        go_wp2_with fail
        go_ret
        exact ⟨rfl, FN.out, ON.out⟩
end Go.Proofs.YthcfekabeidmiaaRRDoorR
