/- pergolaref1.Mul of numbers of 32 bits. -/
import Derived.Test.YtpmngdgifdkohaaDoorAddR
import Derived.Test.YtpmngdgifdkohaaDoorU64
import Derived.Deep.OwnRows
namespace Go.Proofs.YtpmngdgifdkohaaDoor
open Go.RowKit

/-- the cells of words -/
def wdV (l : List Nat) : List Value := l.map fun n : Nat => .int .u64 (n : Int)
theorem wdV_length (l : List Nat) : (wdV l).length = l.length := by simp [wdV]
theorem wdV_append (l m : List Nat) : wdV (l ++ m) = wdV l ++ wdV m := by simp [wdV]
theorem wdV_one (l : List Nat) : ∀ u ∈ wdV l, u.oneCell' = true := by
  intro u hu
  obtain ⟨n, _, rfl⟩ := List.mem_map.1 hu
  rfl
theorem wdV_set (l : List Nat) (i n : Nat) : (wdV l).set i (.int .u64 (n : Int)) = wdV (l.set i n) := by simp [wdV, List.map_set]
def OwnW (w : World) (base : Nat) (v : Value) (l : List Nat) : Prop := w.ownsRow base 33 1 v l.length (wdV l)
def Wd (w : World) (v : Value) (l : List Nat) : Prop := Rd w v l.length (wdV l)
theorem OwnW.wd {w : World} {base : Nat} {v : Value} {l : List Nat} (h : OwnW w base v l) : Wd w v l := Rd.of_own h
theorem OwnW.below {w w' : World} {base : Nat} {v : Value} {l : List Nat} (h : OwnW w base v l) (hb : Below w.heap.size w w') : OwnW w' base v l := own_below' h hb
theorem Wd.below {w w' : World} {v : Value} {l : List Nat} (h : Wd w v l) (hb : Below w.heap.size w w') : Wd w' v l := Rd.below h hb
theorem OwnW.cell {w : World} {base g cap : Nat} {l : List Nat} (h : OwnW w base (.slice (some ⟨g, 0, none⟩) l.length cap) l) {i : Nat} (hi : i < l.length) : w.cell? ⟨g, i, none⟩ = some (.int .u64 (l[i] : Int)) := by
  have := World.ownsRow.cellAt h i (by omega)
  rw [this]
  simp [wdV, hi]
theorem OwnW.stored {w : World} {base g cap : Nat} {l : List Nat} (h : OwnW w base (.slice (some ⟨g, 0, none⟩) l.length cap) l) (i n : Nat) :
    OwnW (w.setCell ⟨g, i, none⟩ (.int .u64 (n : Int))) base (.slice (some ⟨g, 0, none⟩) l.length cap) (l.set i n) := by
  unfold OwnW
  rw [List.length_set, ← wdV_set]
  exact (World.ownsRow.stored h i (.int .u64 (n : Int))).1
theorem info_u64 : (Tryd.prog.info? 33).map (fun i => (i.zero, i.size, i.bytes)) = some (some (.int .u64 0), 1, 8) := by kernel_rfl
theorem step_append_wd {w : World} {ops : Array Oper} {o : Oper} {a : Act} {K : Act → World → Prop} {Q : Exit → Act → World → Prop} {E : Prop} (hgd : o.guard = none) (s x : Operand)
    (ho : o.op = .call { callee := .builtin .append, args := #[s, x], argTypes := #[96, 96] })
    (base : Nat) (v : Value) (l : List Nat) (hs : a.eval s = v) (hown : OwnW w base v l) (y : Value) (m : List Nat) (hx : a.eval x = y) (hy : Wd w y m)
    (h63 : l.length + m.length ≤ 1000000) (hbase : base ≤ w.heap.size)
    (h : ∀ v' w', OwnW w' base v' (l ++ m) → Below base w w' → K (a.put o.dst v') w') :
    if Region.wanted o (yielded ops a.tmps) = true then Oper.wp Tryd.prog o a w K Q else E :=
  step_append_rd hgd s x 96 ho base 33 _ 1 8 Tryd.underlying96 info_u64 rfl (by decide) v _ _ hs hown y _ _ hx hy (by rw [wdV_length]; omega) (wdV_one _) (by unfold maxLen; omega) (by omega) hbase
    fun v' w' h1 h2 _ => h v' w' (by unfold OwnW; rw [wdV_append, List.length_append]; exact h1) h2
theorem wd1 (w : World) (b : Nat) (hb : b = w.heap.size) (n : Nat) : Wd (w.alloc (.cells #[.int .u64 (n : Int)] 33)) (.slice (some ⟨b, 0, none⟩) 1 1) [n] := by
  subst hb
  exact rd_alloc w #[.int .u64 (n : Int)] 33 (0, 0) 1 (by simp [maxLen])
theorem wd2 (w : World) (b : Nat) (hb : b = w.heap.size) (n m : Nat) : Wd (w.alloc (.cells #[.int .u64 (n : Int), .int .u64 (m : Int)] 33)) (.slice (some ⟨b, 0, none⟩) 2 2) [n, m] := by
  subst hb
  exact rd_alloc w #[.int .u64 (n : Int), .int .u64 (m : Int)] 33 (0, 0) 2 (by simp [maxLen])
theorem and32_u64 (a : Nat) (ha : a < 18446744073709551616) : bits .and .u64 (a : Int) 4294967295 = ((a % 4294967296 : Nat) : Int) := by
  have := and_u64_nat a 4294967295 ha (by omega)
  rw [show a &&& 4294967295 = a % 4294967296 from Nat.and_two_pow_sub_one_eq_mod a 32] at this
  exact this

set_option maxRecDepth 100000 in
set_option maxHeartbeats 2000000 in
/-- words of one number of 32 bits -/
theorem words1 (v : Value) (a : Nat) (w : World) (hv : Wd w v [a]) (ha : a < 4294967296) :
    Calls Tryd.prog 68 #[v] w fun e w' => ∃ u, e = .returned u ∧ OwnW w' w.heap.size u [a, 0] ∧ Below w.heap.size w w' := by
  obtain ⟨ao, c, rfl, h1, h2, h0, h3⟩ := hv
  obtain ⟨g, off, rfl, hg, hx⟩ := h3 0 (by simp [wdV])
  simp only [List.length_singleton] at h1 ⊢
  rw [Nat.add_zero] at hx
  replace hx : w.cell? ⟨g, off, none⟩ = some (.int .u64 (a : Int)) := hx
  unfold maxLen at h2
  have e1 : bits .and .u64 (a : Int) 4294967295 = (a : Int) := by rw [and32_u64 a (by omega)]; omega
  have e2 : (a : Int) / 4294967296 = 0 := by omega
  have e3 : (a : Int) / 2 ^ 32 = 0 := by omega
  clear h0 h3
  go_enter Tryd.func68, Tryd.ntmps68
  go_wp2_with fail
  go_loopw [3, 4] (fun s i wr => ∃ k : Nat, k ≤ 1 ∧ i = .int .i64 k ∧ OwnW wr w.heap.size s (if k = 0 then [] else [a, 0]) ∧ Below w.heap.size w wr) (fun _ i _ => 1 - (intOf i).toNat)
  case atStart => exact ⟨0, by omega, rfl, World.ownsRow_nil _ _ _ _, Below.refl _ _⟩
  case round =>
    obtain ⟨k, hk, rfl, ho, hb⟩ := hrel
    by_cases hlt : k = 0
    · subst hlt
      rw [if_pos rfl] at ho
      have XS := Lib.hid (show ∀ w', Below w.heap.size w w' → w'.cell? ⟨g, off, none⟩ = some (.int .u64 (a : Int)) from fun w' h => (h.cell (p := ⟨g, off, none⟩) hg).trans hx)
      have ho' : OwnW wr.drew w.heap.size _ [] := ho
      clear ho hx
      go_wp2_with fail
      refine wp_region_noPanic ?_
      refine wp_region_held_drew (S := fun w' => Below w.heap.size w w') (by kernel_rfl) hb.drew (fun hHeld => ?_)
      generalize wr.drew = D at hHeld ho' ⊢
      have k1 : Below w.heap.size w D := hHeld
      refine wpAnyH_take (i := 0) (oi := ⟨some 11, _, _, _, _, _⟩) (v := ?qv0wd) rfl (by kernel_rfl) (by kernel_rfl) (by kernel_rfl) (fun _ _ _ h => h) (Or.inl ⟨by rfl, ?qy0wd⟩) hHeld ?qr0wd
      case qy0wd => (intro w' hSw; go_simp; try with_reducible rfl)
      try simp only [Act.put, List.setIfInBounds_toArray, List.set_cons_zero, List.set_cons_succ]
      refine wpAnyH_take (i := 1) (oi := ⟨some 12, _, _, _, _, _⟩) (v := ?qv1wd) rfl (by kernel_rfl) (by kernel_rfl) (by kernel_rfl) (fun _ _ _ h => h) (Or.inl ⟨by rfl, ?qy1wd⟩) hHeld ?qr1wd
      case qy1wd => (intro w' hSw; go_simp; try with_reducible rfl)
      try simp only [Act.put, List.setIfInBounds_toArray, List.set_cons_zero, List.set_cons_succ]
      refine wpAnyH_take (i := 2) (oi := ⟨some 13, _, _, _, _, _⟩) (v := ?qv2wd) rfl (by kernel_rfl) (by kernel_rfl) (by kernel_rfl) (fun _ _ _ h => h) (Or.inl ⟨by rfl, ?qy2wd⟩) hHeld ?qr2wd
      case qy2wd => (intro w' hSw; go_simp; try with_reducible rfl)
      try simp only [Act.put, List.setIfInBounds_toArray, List.set_cons_zero, List.set_cons_succ]
      refine wpAnyH_take (i := 3) (oi := ⟨some 14, _, _, _, _, _⟩) (v := ?qv3wd) rfl (by kernel_rfl) (by kernel_rfl) (by kernel_rfl) (fun _ _ _ h => h) (Or.inl ⟨by rfl, ?qy3wd⟩) hHeld ?qr3wd
      case qy3wd => (intro w' hSw; go_simp; try with_reducible rfl)
      try simp only [Act.put, List.setIfInBounds_toArray, List.set_cons_zero, List.set_cons_succ]
      refine wpAnyH_take (i := 4) (oi := ⟨some 15, _, _, _, _, _⟩) (v := ?qv4wd) rfl (by kernel_rfl) (by kernel_rfl) (by kernel_rfl) (fun _ _ _ h => h) (Or.inl ⟨by rfl, ?qy4wd⟩) hHeld ?qr4wd
      case qy4wd => (intro w' hSw; have z0 := XS.out w' hSw; go_simp; try with_reducible rfl)
      try simp only [Act.put, List.setIfInBounds_toArray, List.set_cons_zero, List.set_cons_succ]
      refine wpAnyH_take (i := 5) (oi := ⟨some 16, _, _, _, _, _⟩) (v := ?qv5wd) rfl (by kernel_rfl) (by kernel_rfl) (by kernel_rfl) (fun _ _ _ h => h) (Or.inl ⟨by rfl, ?qy5wd⟩) hHeld ?qr5wd
      case qy5wd => (intro w' hSw; go_simp; try with_reducible rfl)
      try simp only [Act.put, List.setIfInBounds_toArray, List.set_cons_zero, List.set_cons_succ]
      refine wpAnyH_take (i := 6) (oi := ⟨some 17, _, _, _, _, _⟩) (v := ?qv6wd) rfl (by kernel_rfl) (by kernel_rfl) (by kernel_rfl) (fun _ _ _ h => h) (Or.inl ⟨by rfl, ?qy6wd⟩) hHeld ?qr6wd
      case qy6wd => (intro w' hSw; go_simp; try with_reducible rfl)
      try simp only [Act.put, List.setIfInBounds_toArray, List.set_cons_zero, List.set_cons_succ]
      refine wpAnyH_take (i := 7) (oi := ⟨some 18, _, _, _, _, _⟩) (v := ?qv7wd) rfl (by kernel_rfl) (by kernel_rfl) (by kernel_rfl) (fun _ _ _ h => h) (Or.inl ⟨by rfl, ?qy7wd⟩) hHeld ?qr7wd
      case qy7wd => (intro w' hSw; go_simp; try with_reducible rfl)
      try simp only [Act.put, List.setIfInBounds_toArray, List.set_cons_zero, List.set_cons_succ]
      refine wpAnyH_take (i := 8) (oi := ⟨some 19, _, _, _, _, _⟩) (v := ?qv8wd) rfl (by kernel_rfl) (by kernel_rfl) (by kernel_rfl) (fun _ _ _ h => h) (Or.inl ⟨by rfl, ?qy8wd⟩) hHeld ?qr8wd
      case qy8wd => (intro w' hSw; go_simp; try with_reducible rfl)
      try simp only [Act.put, List.setIfInBounds_toArray, List.set_cons_zero, List.set_cons_succ]
      refine wpAnyH_take (i := 9) (oi := ⟨some 20, _, _, _, _, _⟩) (v := ?qv9wd) rfl (by kernel_rfl) (by kernel_rfl) (by kernel_rfl) (fun _ _ _ h => h) (Or.inl ⟨by rfl, ?qy9wd⟩) hHeld ?qr9wd
      case qy9wd => (intro w' hSw; have z0 := XS.out w' hSw; go_simp; try with_reducible rfl)
      try simp only [Act.put, List.setIfInBounds_toArray, List.set_cons_zero, List.set_cons_succ]
      refine wpAnyH_take (i := 10) (oi := ⟨some 21, _, _, _, _, _⟩) (v := ?qv10wd) rfl (by kernel_rfl) (by kernel_rfl) (by kernel_rfl) (fun _ _ _ h => h) (Or.inl ⟨by rfl, ?qy10wd⟩) hHeld ?qr10wd
      case qy10wd => (intro w' hSw; go_simp; try with_reducible rfl)
      try simp only [Act.put, List.setIfInBounds_toArray, List.set_cons_zero, List.set_cons_succ]
      refine wpAnyH_ready (rs := [11]) (by kernel_rfl) (by simp) ?_
      refine AllReadyH.cons (o := ⟨some 22, _, _, _, _, _⟩) rfl (fun K hK => ?_) AllReadyH.nil
      go_simp
      have k2 := k1.alloc k1.size (.cells #[.int .u64 (a : Int), .int .u64 ((0 : Nat) : Int)] 33)
      have HO := Lib.hid (World.ownsRow.alloc ho' (.cells #[.int .u64 (a : Int), .int .u64 ((0 : Nat) : Int)] 33))
      have HP := Lib.hid (wd2 D D.heap.size rfl a 0)
      refine hK.out _ _ k2 (fun hHeld => ?_)
      clear hK K
      try simp only [Act.put, List.setIfInBounds_toArray, List.set_cons_zero, List.set_cons_succ]
      refine wpAnyH_ready (rs := [12]) (by kernel_rfl) (by simp) ?_
      refine AllReadyH.cons (o := ⟨some 23, _, _, _, _, _⟩) rfl (fun K hK => ?_) AllReadyH.nil
      refine step_append_wd (by rfl) _ _ (by rfl) w.heap.size _ [] (by rfl) HO.out _ [a, 0] (by rfl) HP.out (by simp) k2.size ?_
      intro v5 w5 ho5 hb5
      have k3 := k2.trans hb5
      refine hK.out _ _ k3 (fun hHeld => ?_)
      clear hK K
      try simp only [Act.put, List.setIfInBounds_toArray, List.set_cons_zero, List.set_cons_succ]
      refine wpAnyH_take (i := 13) (oi := ⟨some 3, _, _, _, _, _⟩) (v := ?qv13wd) rfl (by kernel_rfl) (by kernel_rfl) (by kernel_rfl) (fun _ _ _ h => h) (Or.inl ⟨by rfl, ?qy13wd⟩) hHeld ?qr13wd
      case qy13wd => (intro w' hSw; go_simp; try with_reducible rfl)
      try simp only [Act.put, List.setIfInBounds_toArray, List.set_cons_zero, List.set_cons_succ]
      refine wpAnyH_done (by kernel_rfl) ?_ _
      refine NoPanic.normal ?_
      have HO5 := Lib.hid ho5
      clear ho5
      go_wp2_with fail
      go_roundw
      case rel => exact ⟨1, by omega, by go_num, HO5.out, k3⟩
      case measure => simp [intOf]
    · obtain rfl : k = 1 := by omega
      rw [if_neg (by omega)] at ho
      have HO := Lib.hid ho
      clear ho
      go_wp2_with fail
      go_ret
      exact ⟨_, rfl, HO.out, hb⟩

/-- the row and what is carried, behind k rounds of the first row of products -/
def rowS (lo hi : Nat) : Nat → List Nat
  | 0 => [0, 0, 0, 0]
  | 1 => [lo, 0, 0, 0]
  | _ => [lo, hi, 0, 0]
def carS (hi : Nat) : Nat → Nat
  | 1 => hi
  | _ => 0
theorem rowS_len (lo hi k : Nat) : (rowS lo hi k).length = 4 := by
  match k with
  | 0 => rfl
  | 1 => rfl
  | k + 2 => rfl

set_option maxRecDepth 100000 in
set_option maxHeartbeats 4000000 in
theorem times_small (va vb : Value) (a b : Nat) (w : World) (hva : Wd w va [a, 0]) (hvb : Wd w vb [b, 0]) (ha : a < 4294967296) (hb : b < 4294967296) :
    Calls Tryd.prog 67 #[va, vb] w fun e w' => ∃ u, e = .returned u ∧ OwnW w' w.heap.size u [a * b % 4294967296, a * b / 4294967296, 0, 0] ∧ Below w.heap.size w w' := by
  obtain ⟨ao, ca, rfl, h1, h2, _, h3⟩ := hva
  obtain ⟨g, off, rfl, hg, x0⟩ := h3 0 (by simp [wdV])
  obtain ⟨_, _, ee, _, x1⟩ := h3 1 (by simp [wdV])
  cases ee
  obtain ⟨bo, cb, rfl, k1, k2, _, k3⟩ := hvb
  obtain ⟨g', off', rfl, hg', y0⟩ := k3 0 (by simp [wdV])
  obtain ⟨_, _, ee, _, y1⟩ := k3 1 (by simp [wdV])
  cases ee
  rw [Nat.add_zero] at x0 y0
  replace x0 : w.cell? ⟨g, off, none⟩ = some (.int .u64 (a : Int)) := x0
  replace x1 : w.cell? ⟨g, off + 1, none⟩ = some (.int .u64 0) := x1
  replace y0 : w.cell? ⟨g', off', none⟩ = some (.int .u64 (b : Int)) := y0
  replace y1 : w.cell? ⟨g', off' + 1, none⟩ = some (.int .u64 0) := y1
  simp only [List.length_cons, List.length_nil, Nat.zero_add] at h1 k1 ⊢
  unfold maxLen at h2 k2
  clear h3 k3
  have hp : a * b < 18446744073709551616 := by
    have := Nat.mul_le_mul (Nat.le_of_lt_succ ha) (Nat.le_of_lt_succ hb)
    omega
  obtain ⟨p, hpe⟩ : ∃ p, a * b = p := ⟨_, rfl⟩
  have m1 : IntKind.u64.wrap ((a : Int) * (b : Int)) = (p : Int) := by
    rw [← Int.natCast_mul, hpe]; exact wrap_u64_nat p (by omega)
  rw [hpe] at hp ⊢
  obtain ⟨lo, hlo⟩ : ∃ lo, p % 4294967296 = lo := ⟨_, rfl⟩
  obtain ⟨hi, hhi⟩ : ∃ hi, p / 4294967296 = hi := ⟨_, rfl⟩
  have m2 : IntKind.u64.wrap (p : Int) = (p : Int) := wrap_u64_nat p hp
  have m3 : bits .and .u64 (p : Int) 4294967295 = (lo : Int) := by rw [and32_u64 p hp, hlo]
  have m4 : (p : Int) / 4294967296 = (hi : Int) := by omega
  have m5 : IntKind.u64.wrap (hi : Int) = (hi : Int) := wrap_u64_nat hi (by omega)
  have m6 : bits .and .u64 (hi : Int) 4294967295 = (hi : Int) := by rw [and32_u64 hi (by omega)]; omega
  have m7 : (hi : Int) / 4294967296 = 0 := by omega
  have m8 : bits .and .u64 (0 : Int) 4294967295 = 0 := by decide
  have w0 : IntKind.i64.wrap 0 = 0 := by decide
  have w1 : IntKind.i64.wrap 1 = 1 := by decide
  have w2 : IntKind.i64.wrap 2 = 2 := by decide
  have w3 : IntKind.u64.wrap 0 = 0 := by decide
  rw [hlo, hhi]
  clear hpe hp hlo hhi ha hb
  have XS := Lib.hid (show ∀ w', Below w.heap.size w w' → w'.cell? ⟨g, off, none⟩ = some (.int .u64 (a : Int)) ∧ w'.cell? ⟨g, off + 1, none⟩ = some (.int .u64 0) ∧ w'.cell? ⟨g', off', none⟩ = some (.int .u64 (b : Int)) ∧ w'.cell? ⟨g', off' + 1, none⟩ = some (.int .u64 0) from fun w' h =>
    ⟨(h.cell (p := ⟨g, off, none⟩) hg).trans x0, (h.cell (p := ⟨g, off + 1, none⟩) hg).trans x1, (h.cell (p := ⟨g', off', none⟩) hg').trans y0, (h.cell (p := ⟨g', off' + 1, none⟩) hg').trans y1⟩)
  clear x0 x1 y0 y1
  have hmk : ∀ w : World, (Instr.makeSlice 96 (.int .i64 4) (.int .i64 4)).run Tryd.prog w = .ok (.slice (some ⟨w.heap.size, 0, none⟩) 4 4) (w.alloc (.cells #[.int .u64 0, .int .u64 0, .int .u64 0, .int .u64 0] 33)) := fun w => by
    have h := run_make_row' (P := Tryd.prog) 96 33 (.int .u64 0) 8 Tryd.underlying96 info_u64 rfl .i64 .i64 4 (by omega) (by omega) w
    rw [show madeCells #[.int .u64 0] 4 = #[.int .u64 0, .int .u64 0, .int .u64 0, .int .u64 0] from by kernel_rfl] at h
    exact h
  go_enter Tryd.func67, Tryd.ntmps67
  go_wp2_with fail
  go_loopw [6] (fun i wr => ∃ k : Nat, k ≤ 2 ∧ i = .int .i64 k ∧ OwnW wr w.heap.size (.slice (some ⟨w.heap.size, 0, none⟩) 4 4) (if k = 0 then rowS lo hi 0 else rowS lo hi 2) ∧ Below w.heap.size w wr) (fun i _ => 2 - (intOf i).toNat)
  case atStart =>
    refine ⟨0, by omega, rfl, ?_, (Below.refl _ _).alloc (Nat.le_refl _) _⟩
    exact World.ownsRow_lit (base := w.heap.size) (e := 33) (size := 1) w #[.int .u64 0, .int .u64 0, .int .u64 0, .int .u64 0] 4 (Nat.le_refl _) (by simp [maxLen]) rfl
  case round =>
    obtain ⟨k, hk, rfl, ho, hbl⟩ := hrel
    have hc : k = 0 ∨ k = 1 ∨ k = 2 := by omega
    rcases hc with rfl | rfl | rfl
    · rw [if_pos rfl] at ho
      rw [show ((0 : Nat) : Int) = 0 from rfl]
      go_wp2_with fail
      go_loopw [7, 8] (fun c q wr => ∃ j : Nat, j ≤ 2 ∧ q = .int .i64 j ∧ c = .int .u64 ((carS hi j : Nat) : Int) ∧ OwnW wr w.heap.size (.slice (some ⟨w.heap.size, 0, none⟩) 4 4) (rowS lo hi j) ∧ Below w.heap.size w wr) (fun _ q _ => 2 - (intOf q).toNat)
      case atStart => exact ⟨0, by omega, rfl, rfl, ho, hbl⟩
      case round =>
        obtain ⟨j, hj, rfl, rfl, ho2, hb2⟩ := hrel
        have hc : j = 0 ∨ j = 1 ∨ j = 2 := by omega
        rcases hc with rfl | rfl | rfl
        · rw [show ((0 : Nat) : Int) = 0 from rfl]
          rw [show (((carS hi 0) : Nat) : Int) = 0 from rfl]
          have cc : wr.cell? ⟨w.heap.size, 0, none⟩ = some (.int .u64 0) := OwnW.cell (l := rowS lo hi 0) ho2 (i := 0) (by rw [rowS_len]; omega)
          have ff := World.ownsRow.frozenAt ho2 0
          have hlt := World.block_lt_of_cell? wr ⟨w.heap.size, 0, none⟩ cc
          have XX := Lib.hid (show ∀ w', Below wr.heap.size wr w' → (w'.cell? ⟨w.heap.size, 0, none⟩ = some (.int .u64 0)) from fun w' h => (h.cell (p := ⟨w.heap.size, 0, none⟩) hlt).trans cc)
          have XY := Lib.hid (show ∀ w', Below wr.heap.size wr w' → _ from fun w' h => XS.out w' (hb2.trans (h.mono hb2.size)))
          have ho3 : OwnW wr.drew w.heap.size (.slice (some ⟨w.heap.size, 0, none⟩) 4 4) (rowS lo hi 0) := ho2
          go_wp2_with fail
          refine wp_region_noPanic ?_
          refine wp_region_held_drew (S := fun w' => Below wr.heap.size wr w') (by kernel_rfl) (Below.refl _ _).drew (fun hHeld => ?_)
          generalize wr.drew = D at hHeld ho3 ⊢
          have k1 : Below wr.heap.size wr D := hHeld
          refine wpAnyH_take (i := 0) (oi := ⟨some 28, _, _, _, _, _⟩) (v := ?qv0tm1) rfl (by kernel_rfl) (by kernel_rfl) (by kernel_rfl) (fun _ _ _ h => h) (Or.inl ⟨by rfl, ?qy0tm1⟩) hHeld ?qr0tm1
          case qy0tm1 => (intro w' hSw; go_simp; try with_reducible rfl)
          try simp only [Act.put, List.setIfInBounds_toArray, List.set_cons_zero, List.set_cons_succ]
          refine wpAnyH_take (i := 1) (oi := ⟨some 29, _, _, _, _, _⟩) (v := ?qv1tm1) rfl (by kernel_rfl) (by kernel_rfl) (by kernel_rfl) (fun _ _ _ h => h) (Or.inl ⟨by rfl, ?qy1tm1⟩) hHeld ?qr1tm1
          case qy1tm1 => (intro w' hSw; go_simp; try with_reducible rfl)
          try simp only [Act.put, List.setIfInBounds_toArray, List.set_cons_zero, List.set_cons_succ]
          refine wpAnyH_take (i := 2) (oi := ⟨some 30, _, _, _, _, _⟩) (v := ?qv2tm1) rfl (by kernel_rfl) (by kernel_rfl) (by kernel_rfl) (fun _ _ _ h => h) (Or.inl ⟨by rfl, ?qy2tm1⟩) hHeld ?qr2tm1
          case qy2tm1 => (intro w' hSw; go_simp; try with_reducible rfl)
          try simp only [Act.put, List.setIfInBounds_toArray, List.set_cons_zero, List.set_cons_succ]
          refine wpAnyH_take (i := 3) (oi := ⟨some 31, _, _, _, _, _⟩) (v := ?qv3tm1) rfl (by kernel_rfl) (by kernel_rfl) (by kernel_rfl) (fun _ _ _ h => h) (Or.inl ⟨by rfl, ?qy3tm1⟩) hHeld ?qr3tm1
          case qy3tm1 => (intro w' hSw; obtain ⟨q0, q1, q2, q3⟩ := XY.out w' hSw; have q4 := XX.out w' hSw; go_simp; try with_reducible rfl)
          try simp only [Act.put, List.setIfInBounds_toArray, List.set_cons_zero, List.set_cons_succ]
          refine wpAnyH_take (i := 4) (oi := ⟨some 32, _, _, _, _, _⟩) (v := ?qv4tm1) rfl (by kernel_rfl) (by kernel_rfl) (by kernel_rfl) (fun _ _ _ h => h) (Or.inl ⟨by rfl, ?qy4tm1⟩) hHeld ?qr4tm1
          case qy4tm1 => (intro w' hSw; go_simp; try with_reducible rfl)
          try simp only [Act.put, List.setIfInBounds_toArray, List.set_cons_zero, List.set_cons_succ]
          refine wpAnyH_take (i := 5) (oi := ⟨some 33, _, _, _, _, _⟩) (v := ?qv5tm1) rfl (by kernel_rfl) (by kernel_rfl) (by kernel_rfl) (fun _ _ _ h => h) (Or.inl ⟨by rfl, ?qy5tm1⟩) hHeld ?qr5tm1
          case qy5tm1 => (intro w' hSw; go_simp; try with_reducible rfl)
          try simp only [Act.put, List.setIfInBounds_toArray, List.set_cons_zero, List.set_cons_succ]
          refine wpAnyH_take (i := 6) (oi := ⟨some 34, _, _, _, _, _⟩) (v := ?qv6tm1) rfl (by kernel_rfl) (by kernel_rfl) (by kernel_rfl) (fun _ _ _ h => h) (Or.inl ⟨by rfl, ?qy6tm1⟩) hHeld ?qr6tm1
          case qy6tm1 => (intro w' hSw; go_simp; try with_reducible rfl)
          try simp only [Act.put, List.setIfInBounds_toArray, List.set_cons_zero, List.set_cons_succ]
          refine wpAnyH_take (i := 7) (oi := ⟨some 35, _, _, _, _, _⟩) (v := ?qv7tm1) rfl (by kernel_rfl) (by kernel_rfl) (by kernel_rfl) (fun _ _ _ h => h) (Or.inl ⟨by rfl, ?qy7tm1⟩) hHeld ?qr7tm1
          case qy7tm1 => (intro w' hSw; obtain ⟨q0, q1, q2, q3⟩ := XY.out w' hSw; have q4 := XX.out w' hSw; go_simp; try with_reducible rfl)
          try simp only [Act.put, List.setIfInBounds_toArray, List.set_cons_zero, List.set_cons_succ]
          refine wpAnyH_take (i := 8) (oi := ⟨some 36, _, _, _, _, _⟩) (v := ?qv8tm1) rfl (by kernel_rfl) (by kernel_rfl) (by kernel_rfl) (fun _ _ _ h => h) (Or.inl ⟨by rfl, ?qy8tm1⟩) hHeld ?qr8tm1
          case qy8tm1 => (intro w' hSw; go_simp; try with_reducible rfl)
          try simp only [Act.put, List.setIfInBounds_toArray, List.set_cons_zero, List.set_cons_succ]
          refine wpAnyH_take (i := 9) (oi := ⟨some 37, _, _, _, _, _⟩) (v := ?qv9tm1) rfl (by kernel_rfl) (by kernel_rfl) (by kernel_rfl) (fun _ _ _ h => h) (Or.inl ⟨by rfl, ?qy9tm1⟩) hHeld ?qr9tm1
          case qy9tm1 => (intro w' hSw; go_simp; try with_reducible rfl)
          try simp only [Act.put, List.setIfInBounds_toArray, List.set_cons_zero, List.set_cons_succ]
          refine wpAnyH_take (i := 10) (oi := ⟨some 38, _, _, _, _, _⟩) (v := ?qv10tm1) rfl (by kernel_rfl) (by kernel_rfl) (by kernel_rfl) (fun _ _ _ h => h) (Or.inl ⟨by rfl, ?qy10tm1⟩) hHeld ?qr10tm1
          case qy10tm1 => (intro w' hSw; go_simp; try with_reducible rfl)
          try simp only [Act.put, List.setIfInBounds_toArray, List.set_cons_zero, List.set_cons_succ]
          refine wpAnyH_take (i := 11) (oi := ⟨some 39, _, _, _, _, _⟩) (v := ?qv11tm1) rfl (by kernel_rfl) (by kernel_rfl) (by kernel_rfl) (fun _ _ _ h => h) (Or.inl ⟨by rfl, ?qy11tm1⟩) hHeld ?qr11tm1
          case qy11tm1 => (intro w' hSw; go_simp; try with_reducible rfl)
          try simp only [Act.put, List.setIfInBounds_toArray, List.set_cons_zero, List.set_cons_succ]
          refine wpAnyH_take (i := 12) (oi := ⟨some 40, _, _, _, _, _⟩) (v := ?qv12tm1) rfl (by kernel_rfl) (by kernel_rfl) (by kernel_rfl) (fun _ _ _ h => h) (Or.inl ⟨by rfl, ?qy12tm1⟩) hHeld ?qr12tm1
          case qy12tm1 => (intro w' hSw; go_simp; try with_reducible rfl)
          try simp only [Act.put, List.setIfInBounds_toArray, List.set_cons_zero, List.set_cons_succ]
          refine wpAnyH_take (i := 13) (oi := ⟨some 41, _, _, _, _, _⟩) (v := ?qv13tm1) rfl (by kernel_rfl) (by kernel_rfl) (by kernel_rfl) (fun _ _ _ h => h) (Or.inl ⟨by rfl, ?qy13tm1⟩) hHeld ?qr13tm1
          case qy13tm1 => (intro w' hSw; go_simp; try with_reducible rfl)
          try simp only [Act.put, List.setIfInBounds_toArray, List.set_cons_zero, List.set_cons_succ]
          refine wpAnyH_take (i := 14) (oi := ⟨some 42, _, _, _, _, _⟩) (v := ?qv14tm1) rfl (by kernel_rfl) (by kernel_rfl) (by kernel_rfl) (fun _ _ _ h => h) (Or.inl ⟨by rfl, ?qy14tm1⟩) hHeld ?qr14tm1
          case qy14tm1 => (intro w' hSw; obtain ⟨q0, q1, q2, q3⟩ := XY.out w' hSw; have q4 := XX.out w' hSw; go_simp; try with_reducible rfl)
          try simp only [Act.put, List.setIfInBounds_toArray, List.set_cons_zero, List.set_cons_succ]
          refine wpAnyH_take (i := 15) (oi := ⟨some 43, _, _, _, _, _⟩) (v := ?qv15tm1) rfl (by kernel_rfl) (by kernel_rfl) (by kernel_rfl) (fun _ _ _ h => h) (Or.inl ⟨by rfl, ?qy15tm1⟩) hHeld ?qr15tm1
          case qy15tm1 => (intro w' hSw; go_simp; try with_reducible rfl)
          try simp only [Act.put, List.setIfInBounds_toArray, List.set_cons_zero, List.set_cons_succ]
          refine wpAnyH_take (i := 16) (oi := ⟨some 44, _, _, _, _, _⟩) (v := ?qv16tm1) rfl (by kernel_rfl) (by kernel_rfl) (by kernel_rfl) (fun _ _ _ h => h) (Or.inl ⟨by rfl, ?qy16tm1⟩) hHeld ?qr16tm1
          case qy16tm1 => (intro w' hSw; go_simp; try with_reducible rfl)
          try simp only [Act.put, List.setIfInBounds_toArray, List.set_cons_zero, List.set_cons_succ]
          refine wpAnyH_take (i := 17) (oi := ⟨some 45, _, _, _, _, _⟩) (v := ?qv17tm1) rfl (by kernel_rfl) (by kernel_rfl) (by kernel_rfl) (fun _ _ _ h => h) (Or.inl ⟨by rfl, ?qy17tm1⟩) hHeld ?qr17tm1
          case qy17tm1 => (intro w' hSw; go_simp; try with_reducible rfl)
          try simp only [Act.put, List.setIfInBounds_toArray, List.set_cons_zero, List.set_cons_succ]
          refine wpAnyH_take (i := 18) (oi := ⟨some 9, _, _, _, _, _⟩) (v := ?qv18tm1) rfl (by kernel_rfl) (by kernel_rfl) (by kernel_rfl) (fun _ _ _ h => h) (Or.inl ⟨by rfl, ?qy18tm1⟩) hHeld ?qr18tm1
          case qy18tm1 => (intro w' hSw; go_simp; try with_reducible rfl)
          try simp only [Act.put, List.setIfInBounds_toArray, List.set_cons_zero, List.set_cons_succ]
          refine wpAnyH_done (by kernel_rfl) ?_ _
          refine NoPanic.normal ?_
          have cd := XX.out _ k1
          have fd := World.ownsRow.frozenAt ho3 0
          have HO := Lib.hid (show OwnW (D.setCell ⟨w.heap.size, 0, none⟩ (.int .u64 ((lo : Nat) : Int))) w.heap.size (.slice (some ⟨w.heap.size, 0, none⟩) 4 4) (rowS lo hi 1) from OwnW.stored (l := rowS lo hi 0) ho3 0 lo)
          have HB := Lib.hid ((hb2.trans (k1.mono hb2.size)).setCell (p := ⟨w.heap.size, 0, none⟩) (Nat.le_refl _) (.int .u64 ((lo : Nat) : Int)))
          clear ho3 ho2 cc ff
          go_wp2_with fail
          go_roundw
          case rel => exact ⟨1, by omega, by go_num, by go_num, HO.out, HB.out⟩
          case measure => simp [intOf]
        · rw [show ((1 : Nat) : Int) = 1 from rfl]
          rw [show (((carS hi 1) : Nat) : Int) = (hi : Int) from rfl]
          have cc : wr.cell? ⟨w.heap.size, 1, none⟩ = some (.int .u64 0) := OwnW.cell (l := rowS lo hi 1) ho2 (i := 1) (by rw [rowS_len]; omega)
          have ff := World.ownsRow.frozenAt ho2 1
          have hlt := World.block_lt_of_cell? wr ⟨w.heap.size, 1, none⟩ cc
          have XX := Lib.hid (show ∀ w', Below wr.heap.size wr w' → (w'.cell? ⟨w.heap.size, 1, none⟩ = some (.int .u64 0)) from fun w' h => (h.cell (p := ⟨w.heap.size, 1, none⟩) hlt).trans cc)
          have XY := Lib.hid (show ∀ w', Below wr.heap.size wr w' → _ from fun w' h => XS.out w' (hb2.trans (h.mono hb2.size)))
          have ho3 : OwnW wr.drew w.heap.size (.slice (some ⟨w.heap.size, 0, none⟩) 4 4) (rowS lo hi 1) := ho2
          go_wp2_with fail
          refine wp_region_noPanic ?_
          refine wp_region_held_drew (S := fun w' => Below wr.heap.size wr w') (by kernel_rfl) (Below.refl _ _).drew (fun hHeld => ?_)
          generalize wr.drew = D at hHeld ho3 ⊢
          have k1 : Below wr.heap.size wr D := hHeld
          refine wpAnyH_take (i := 0) (oi := ⟨some 28, _, _, _, _, _⟩) (v := ?qv0tm2) rfl (by kernel_rfl) (by kernel_rfl) (by kernel_rfl) (fun _ _ _ h => h) (Or.inl ⟨by rfl, ?qy0tm2⟩) hHeld ?qr0tm2
          case qy0tm2 => (intro w' hSw; go_simp; try with_reducible rfl)
          try simp only [Act.put, List.setIfInBounds_toArray, List.set_cons_zero, List.set_cons_succ]
          refine wpAnyH_take (i := 1) (oi := ⟨some 29, _, _, _, _, _⟩) (v := ?qv1tm2) rfl (by kernel_rfl) (by kernel_rfl) (by kernel_rfl) (fun _ _ _ h => h) (Or.inl ⟨by rfl, ?qy1tm2⟩) hHeld ?qr1tm2
          case qy1tm2 => (intro w' hSw; go_simp; try with_reducible rfl)
          try simp only [Act.put, List.setIfInBounds_toArray, List.set_cons_zero, List.set_cons_succ]
          refine wpAnyH_take (i := 2) (oi := ⟨some 30, _, _, _, _, _⟩) (v := ?qv2tm2) rfl (by kernel_rfl) (by kernel_rfl) (by kernel_rfl) (fun _ _ _ h => h) (Or.inl ⟨by rfl, ?qy2tm2⟩) hHeld ?qr2tm2
          case qy2tm2 => (intro w' hSw; go_simp; try with_reducible rfl)
          try simp only [Act.put, List.setIfInBounds_toArray, List.set_cons_zero, List.set_cons_succ]
          refine wpAnyH_take (i := 3) (oi := ⟨some 31, _, _, _, _, _⟩) (v := ?qv3tm2) rfl (by kernel_rfl) (by kernel_rfl) (by kernel_rfl) (fun _ _ _ h => h) (Or.inl ⟨by rfl, ?qy3tm2⟩) hHeld ?qr3tm2
          case qy3tm2 => (intro w' hSw; obtain ⟨q0, q1, q2, q3⟩ := XY.out w' hSw; have q4 := XX.out w' hSw; go_simp; try with_reducible rfl)
          try simp only [Act.put, List.setIfInBounds_toArray, List.set_cons_zero, List.set_cons_succ]
          refine wpAnyH_take (i := 4) (oi := ⟨some 32, _, _, _, _, _⟩) (v := ?qv4tm2) rfl (by kernel_rfl) (by kernel_rfl) (by kernel_rfl) (fun _ _ _ h => h) (Or.inl ⟨by rfl, ?qy4tm2⟩) hHeld ?qr4tm2
          case qy4tm2 => (intro w' hSw; go_simp; try with_reducible rfl)
          try simp only [Act.put, List.setIfInBounds_toArray, List.set_cons_zero, List.set_cons_succ]
          refine wpAnyH_take (i := 5) (oi := ⟨some 33, _, _, _, _, _⟩) (v := ?qv5tm2) rfl (by kernel_rfl) (by kernel_rfl) (by kernel_rfl) (fun _ _ _ h => h) (Or.inl ⟨by rfl, ?qy5tm2⟩) hHeld ?qr5tm2
          case qy5tm2 => (intro w' hSw; go_simp; try with_reducible rfl)
          try simp only [Act.put, List.setIfInBounds_toArray, List.set_cons_zero, List.set_cons_succ]
          refine wpAnyH_take (i := 6) (oi := ⟨some 34, _, _, _, _, _⟩) (v := ?qv6tm2) rfl (by kernel_rfl) (by kernel_rfl) (by kernel_rfl) (fun _ _ _ h => h) (Or.inl ⟨by rfl, ?qy6tm2⟩) hHeld ?qr6tm2
          case qy6tm2 => (intro w' hSw; go_simp; try with_reducible rfl)
          try simp only [Act.put, List.setIfInBounds_toArray, List.set_cons_zero, List.set_cons_succ]
          refine wpAnyH_take (i := 7) (oi := ⟨some 35, _, _, _, _, _⟩) (v := ?qv7tm2) rfl (by kernel_rfl) (by kernel_rfl) (by kernel_rfl) (fun _ _ _ h => h) (Or.inl ⟨by rfl, ?qy7tm2⟩) hHeld ?qr7tm2
          case qy7tm2 => (intro w' hSw; obtain ⟨q0, q1, q2, q3⟩ := XY.out w' hSw; have q4 := XX.out w' hSw; go_simp; try with_reducible rfl)
          try simp only [Act.put, List.setIfInBounds_toArray, List.set_cons_zero, List.set_cons_succ]
          refine wpAnyH_take (i := 8) (oi := ⟨some 36, _, _, _, _, _⟩) (v := ?qv8tm2) rfl (by kernel_rfl) (by kernel_rfl) (by kernel_rfl) (fun _ _ _ h => h) (Or.inl ⟨by rfl, ?qy8tm2⟩) hHeld ?qr8tm2
          case qy8tm2 => (intro w' hSw; go_simp; try with_reducible rfl)
          try simp only [Act.put, List.setIfInBounds_toArray, List.set_cons_zero, List.set_cons_succ]
          refine wpAnyH_take (i := 9) (oi := ⟨some 37, _, _, _, _, _⟩) (v := ?qv9tm2) rfl (by kernel_rfl) (by kernel_rfl) (by kernel_rfl) (fun _ _ _ h => h) (Or.inl ⟨by rfl, ?qy9tm2⟩) hHeld ?qr9tm2
          case qy9tm2 => (intro w' hSw; go_simp; try with_reducible rfl)
          try simp only [Act.put, List.setIfInBounds_toArray, List.set_cons_zero, List.set_cons_succ]
          refine wpAnyH_take (i := 10) (oi := ⟨some 38, _, _, _, _, _⟩) (v := ?qv10tm2) rfl (by kernel_rfl) (by kernel_rfl) (by kernel_rfl) (fun _ _ _ h => h) (Or.inl ⟨by rfl, ?qy10tm2⟩) hHeld ?qr10tm2
          case qy10tm2 => (intro w' hSw; go_simp; try with_reducible rfl)
          try simp only [Act.put, List.setIfInBounds_toArray, List.set_cons_zero, List.set_cons_succ]
          refine wpAnyH_take (i := 11) (oi := ⟨some 39, _, _, _, _, _⟩) (v := ?qv11tm2) rfl (by kernel_rfl) (by kernel_rfl) (by kernel_rfl) (fun _ _ _ h => h) (Or.inl ⟨by rfl, ?qy11tm2⟩) hHeld ?qr11tm2
          case qy11tm2 => (intro w' hSw; go_simp; try with_reducible rfl)
          try simp only [Act.put, List.setIfInBounds_toArray, List.set_cons_zero, List.set_cons_succ]
          refine wpAnyH_take (i := 12) (oi := ⟨some 40, _, _, _, _, _⟩) (v := ?qv12tm2) rfl (by kernel_rfl) (by kernel_rfl) (by kernel_rfl) (fun _ _ _ h => h) (Or.inl ⟨by rfl, ?qy12tm2⟩) hHeld ?qr12tm2
          case qy12tm2 => (intro w' hSw; go_simp; try with_reducible rfl)
          try simp only [Act.put, List.setIfInBounds_toArray, List.set_cons_zero, List.set_cons_succ]
          refine wpAnyH_take (i := 13) (oi := ⟨some 41, _, _, _, _, _⟩) (v := ?qv13tm2) rfl (by kernel_rfl) (by kernel_rfl) (by kernel_rfl) (fun _ _ _ h => h) (Or.inl ⟨by rfl, ?qy13tm2⟩) hHeld ?qr13tm2
          case qy13tm2 => (intro w' hSw; go_simp; try with_reducible rfl)
          try simp only [Act.put, List.setIfInBounds_toArray, List.set_cons_zero, List.set_cons_succ]
          refine wpAnyH_take (i := 14) (oi := ⟨some 42, _, _, _, _, _⟩) (v := ?qv14tm2) rfl (by kernel_rfl) (by kernel_rfl) (by kernel_rfl) (fun _ _ _ h => h) (Or.inl ⟨by rfl, ?qy14tm2⟩) hHeld ?qr14tm2
          case qy14tm2 => (intro w' hSw; obtain ⟨q0, q1, q2, q3⟩ := XY.out w' hSw; have q4 := XX.out w' hSw; go_simp; try with_reducible rfl)
          try simp only [Act.put, List.setIfInBounds_toArray, List.set_cons_zero, List.set_cons_succ]
          refine wpAnyH_take (i := 15) (oi := ⟨some 43, _, _, _, _, _⟩) (v := ?qv15tm2) rfl (by kernel_rfl) (by kernel_rfl) (by kernel_rfl) (fun _ _ _ h => h) (Or.inl ⟨by rfl, ?qy15tm2⟩) hHeld ?qr15tm2
          case qy15tm2 => (intro w' hSw; go_simp; try with_reducible rfl)
          try simp only [Act.put, List.setIfInBounds_toArray, List.set_cons_zero, List.set_cons_succ]
          refine wpAnyH_take (i := 16) (oi := ⟨some 44, _, _, _, _, _⟩) (v := ?qv16tm2) rfl (by kernel_rfl) (by kernel_rfl) (by kernel_rfl) (fun _ _ _ h => h) (Or.inl ⟨by rfl, ?qy16tm2⟩) hHeld ?qr16tm2
          case qy16tm2 => (intro w' hSw; go_simp; try with_reducible rfl)
          try simp only [Act.put, List.setIfInBounds_toArray, List.set_cons_zero, List.set_cons_succ]
          refine wpAnyH_take (i := 17) (oi := ⟨some 45, _, _, _, _, _⟩) (v := ?qv17tm2) rfl (by kernel_rfl) (by kernel_rfl) (by kernel_rfl) (fun _ _ _ h => h) (Or.inl ⟨by rfl, ?qy17tm2⟩) hHeld ?qr17tm2
          case qy17tm2 => (intro w' hSw; go_simp; try with_reducible rfl)
          try simp only [Act.put, List.setIfInBounds_toArray, List.set_cons_zero, List.set_cons_succ]
          refine wpAnyH_take (i := 18) (oi := ⟨some 9, _, _, _, _, _⟩) (v := ?qv18tm2) rfl (by kernel_rfl) (by kernel_rfl) (by kernel_rfl) (fun _ _ _ h => h) (Or.inl ⟨by rfl, ?qy18tm2⟩) hHeld ?qr18tm2
          case qy18tm2 => (intro w' hSw; go_simp; try with_reducible rfl)
          try simp only [Act.put, List.setIfInBounds_toArray, List.set_cons_zero, List.set_cons_succ]
          refine wpAnyH_done (by kernel_rfl) ?_ _
          refine NoPanic.normal ?_
          have cd := XX.out _ k1
          have fd := World.ownsRow.frozenAt ho3 1
          have HO := Lib.hid (show OwnW (D.setCell ⟨w.heap.size, 1, none⟩ (.int .u64 ((hi : Nat) : Int))) w.heap.size (.slice (some ⟨w.heap.size, 0, none⟩) 4 4) (rowS lo hi 2) from OwnW.stored (l := rowS lo hi 1) ho3 1 hi)
          have HB := Lib.hid ((hb2.trans (k1.mono hb2.size)).setCell (p := ⟨w.heap.size, 1, none⟩) (Nat.le_refl _) (.int .u64 ((hi : Nat) : Int)))
          clear ho3 ho2 cc ff
          go_wp2_with fail
          go_roundw
          case rel => exact ⟨2, by omega, by go_num, by go_num, HO.out, HB.out⟩
          case measure => simp [intOf]
        · rw [show ((2 : Nat) : Int) = 2 from rfl]
          rw [show (((carS hi 2) : Nat) : Int) = 0 from rfl]
          have cc : wr.cell? ⟨w.heap.size, 2, none⟩ = some (.int .u64 0) := OwnW.cell (l := rowS lo hi 2) ho2 (i := 2) (by rw [rowS_len]; omega)
          have ff := World.ownsRow.frozenAt ho2 2
          have hlt := World.block_lt_of_cell? wr ⟨w.heap.size, 2, none⟩ cc
          have HO := Lib.hid (show OwnW (wr.setCell ⟨w.heap.size, 2, none⟩ (.int .u64 ((0 : Nat) : Int))) w.heap.size (.slice (some ⟨w.heap.size, 0, none⟩) 4 4) (rowS lo hi 2) from OwnW.stored (l := rowS lo hi 2) ho2 2 0)
          have HB := Lib.hid (hb2.setCell (p := ⟨w.heap.size, 2, none⟩) (Nat.le_refl _) (.int .u64 ((0 : Nat) : Int)))
          clear ho2
          go_wp2_with fail
          go_roundw
          case rel => exact ⟨1, by omega, by go_num, HO.out, HB.out⟩
          case measure => simp [intOf]
    · rw [if_neg (by omega)] at ho
      rw [show ((1 : Nat) : Int) = 1 from rfl]
      go_wp2_with fail
      go_loopw [7, 8] (fun c q wr => ∃ j : Nat, j ≤ 2 ∧ q = .int .i64 j ∧ c = .int .u64 ((0 : Nat) : Int) ∧ OwnW wr w.heap.size (.slice (some ⟨w.heap.size, 0, none⟩) 4 4) (rowS lo hi 2) ∧ Below w.heap.size w wr) (fun _ q _ => 2 - (intOf q).toNat)
      case atStart => exact ⟨0, by omega, rfl, rfl, ho, hbl⟩
      case round =>
        obtain ⟨j, hj, rfl, rfl, ho2, hb2⟩ := hrel
        have hc : j = 0 ∨ j = 1 ∨ j = 2 := by omega
        rcases hc with rfl | rfl | rfl
        · rw [show ((0 : Nat) : Int) = 0 from rfl]
          have cc : wr.cell? ⟨w.heap.size, 1, none⟩ = some (.int .u64 (hi : Int)) := OwnW.cell (l := rowS lo hi 2) ho2 (i := 1) (by rw [rowS_len]; omega)
          have ff := World.ownsRow.frozenAt ho2 1
          have hlt := World.block_lt_of_cell? wr ⟨w.heap.size, 1, none⟩ cc
          have XX := Lib.hid (show ∀ w', Below wr.heap.size wr w' → (w'.cell? ⟨w.heap.size, 1, none⟩ = some (.int .u64 (hi : Int))) from fun w' h => (h.cell (p := ⟨w.heap.size, 1, none⟩) hlt).trans cc)
          have XY := Lib.hid (show ∀ w', Below wr.heap.size wr w' → _ from fun w' h => XS.out w' (hb2.trans (h.mono hb2.size)))
          have ho3 : OwnW wr.drew w.heap.size (.slice (some ⟨w.heap.size, 0, none⟩) 4 4) (rowS lo hi 2) := ho2
          go_wp2_with fail
          refine wp_region_noPanic ?_
          refine wp_region_held_drew (S := fun w' => Below wr.heap.size wr w') (by kernel_rfl) (Below.refl _ _).drew (fun hHeld => ?_)
          generalize wr.drew = D at hHeld ho3 ⊢
          have k1 : Below wr.heap.size wr D := hHeld
          refine wpAnyH_take (i := 0) (oi := ⟨some 28, _, _, _, _, _⟩) (v := ?qv0tm3) rfl (by kernel_rfl) (by kernel_rfl) (by kernel_rfl) (fun _ _ _ h => h) (Or.inl ⟨by rfl, ?qy0tm3⟩) hHeld ?qr0tm3
          case qy0tm3 => (intro w' hSw; go_simp; try with_reducible rfl)
          try simp only [Act.put, List.setIfInBounds_toArray, List.set_cons_zero, List.set_cons_succ]
          refine wpAnyH_take (i := 1) (oi := ⟨some 29, _, _, _, _, _⟩) (v := ?qv1tm3) rfl (by kernel_rfl) (by kernel_rfl) (by kernel_rfl) (fun _ _ _ h => h) (Or.inl ⟨by rfl, ?qy1tm3⟩) hHeld ?qr1tm3
          case qy1tm3 => (intro w' hSw; go_simp; try with_reducible rfl)
          try simp only [Act.put, List.setIfInBounds_toArray, List.set_cons_zero, List.set_cons_succ]
          refine wpAnyH_take (i := 2) (oi := ⟨some 30, _, _, _, _, _⟩) (v := ?qv2tm3) rfl (by kernel_rfl) (by kernel_rfl) (by kernel_rfl) (fun _ _ _ h => h) (Or.inl ⟨by rfl, ?qy2tm3⟩) hHeld ?qr2tm3
          case qy2tm3 => (intro w' hSw; go_simp; try with_reducible rfl)
          try simp only [Act.put, List.setIfInBounds_toArray, List.set_cons_zero, List.set_cons_succ]
          refine wpAnyH_take (i := 3) (oi := ⟨some 31, _, _, _, _, _⟩) (v := ?qv3tm3) rfl (by kernel_rfl) (by kernel_rfl) (by kernel_rfl) (fun _ _ _ h => h) (Or.inl ⟨by rfl, ?qy3tm3⟩) hHeld ?qr3tm3
          case qy3tm3 => (intro w' hSw; obtain ⟨q0, q1, q2, q3⟩ := XY.out w' hSw; have q4 := XX.out w' hSw; go_simp; try with_reducible rfl)
          try simp only [Act.put, List.setIfInBounds_toArray, List.set_cons_zero, List.set_cons_succ]
          refine wpAnyH_take (i := 4) (oi := ⟨some 32, _, _, _, _, _⟩) (v := ?qv4tm3) rfl (by kernel_rfl) (by kernel_rfl) (by kernel_rfl) (fun _ _ _ h => h) (Or.inl ⟨by rfl, ?qy4tm3⟩) hHeld ?qr4tm3
          case qy4tm3 => (intro w' hSw; go_simp; try with_reducible rfl)
          try simp only [Act.put, List.setIfInBounds_toArray, List.set_cons_zero, List.set_cons_succ]
          refine wpAnyH_take (i := 5) (oi := ⟨some 33, _, _, _, _, _⟩) (v := ?qv5tm3) rfl (by kernel_rfl) (by kernel_rfl) (by kernel_rfl) (fun _ _ _ h => h) (Or.inl ⟨by rfl, ?qy5tm3⟩) hHeld ?qr5tm3
          case qy5tm3 => (intro w' hSw; go_simp; try with_reducible rfl)
          try simp only [Act.put, List.setIfInBounds_toArray, List.set_cons_zero, List.set_cons_succ]
          refine wpAnyH_take (i := 6) (oi := ⟨some 34, _, _, _, _, _⟩) (v := ?qv6tm3) rfl (by kernel_rfl) (by kernel_rfl) (by kernel_rfl) (fun _ _ _ h => h) (Or.inl ⟨by rfl, ?qy6tm3⟩) hHeld ?qr6tm3
          case qy6tm3 => (intro w' hSw; go_simp; try with_reducible rfl)
          try simp only [Act.put, List.setIfInBounds_toArray, List.set_cons_zero, List.set_cons_succ]
          refine wpAnyH_take (i := 7) (oi := ⟨some 35, _, _, _, _, _⟩) (v := ?qv7tm3) rfl (by kernel_rfl) (by kernel_rfl) (by kernel_rfl) (fun _ _ _ h => h) (Or.inl ⟨by rfl, ?qy7tm3⟩) hHeld ?qr7tm3
          case qy7tm3 => (intro w' hSw; obtain ⟨q0, q1, q2, q3⟩ := XY.out w' hSw; have q4 := XX.out w' hSw; go_simp; try with_reducible rfl)
          try simp only [Act.put, List.setIfInBounds_toArray, List.set_cons_zero, List.set_cons_succ]
          refine wpAnyH_take (i := 8) (oi := ⟨some 36, _, _, _, _, _⟩) (v := ?qv8tm3) rfl (by kernel_rfl) (by kernel_rfl) (by kernel_rfl) (fun _ _ _ h => h) (Or.inl ⟨by rfl, ?qy8tm3⟩) hHeld ?qr8tm3
          case qy8tm3 => (intro w' hSw; go_simp; try with_reducible rfl)
          try simp only [Act.put, List.setIfInBounds_toArray, List.set_cons_zero, List.set_cons_succ]
          refine wpAnyH_take (i := 9) (oi := ⟨some 37, _, _, _, _, _⟩) (v := ?qv9tm3) rfl (by kernel_rfl) (by kernel_rfl) (by kernel_rfl) (fun _ _ _ h => h) (Or.inl ⟨by rfl, ?qy9tm3⟩) hHeld ?qr9tm3
          case qy9tm3 => (intro w' hSw; go_simp; try with_reducible rfl)
          try simp only [Act.put, List.setIfInBounds_toArray, List.set_cons_zero, List.set_cons_succ]
          refine wpAnyH_take (i := 10) (oi := ⟨some 38, _, _, _, _, _⟩) (v := ?qv10tm3) rfl (by kernel_rfl) (by kernel_rfl) (by kernel_rfl) (fun _ _ _ h => h) (Or.inl ⟨by rfl, ?qy10tm3⟩) hHeld ?qr10tm3
          case qy10tm3 => (intro w' hSw; go_simp; try with_reducible rfl)
          try simp only [Act.put, List.setIfInBounds_toArray, List.set_cons_zero, List.set_cons_succ]
          refine wpAnyH_take (i := 11) (oi := ⟨some 39, _, _, _, _, _⟩) (v := ?qv11tm3) rfl (by kernel_rfl) (by kernel_rfl) (by kernel_rfl) (fun _ _ _ h => h) (Or.inl ⟨by rfl, ?qy11tm3⟩) hHeld ?qr11tm3
          case qy11tm3 => (intro w' hSw; go_simp; try with_reducible rfl)
          try simp only [Act.put, List.setIfInBounds_toArray, List.set_cons_zero, List.set_cons_succ]
          refine wpAnyH_take (i := 12) (oi := ⟨some 40, _, _, _, _, _⟩) (v := ?qv12tm3) rfl (by kernel_rfl) (by kernel_rfl) (by kernel_rfl) (fun _ _ _ h => h) (Or.inl ⟨by rfl, ?qy12tm3⟩) hHeld ?qr12tm3
          case qy12tm3 => (intro w' hSw; go_simp; try with_reducible rfl)
          try simp only [Act.put, List.setIfInBounds_toArray, List.set_cons_zero, List.set_cons_succ]
          refine wpAnyH_take (i := 13) (oi := ⟨some 41, _, _, _, _, _⟩) (v := ?qv13tm3) rfl (by kernel_rfl) (by kernel_rfl) (by kernel_rfl) (fun _ _ _ h => h) (Or.inl ⟨by rfl, ?qy13tm3⟩) hHeld ?qr13tm3
          case qy13tm3 => (intro w' hSw; go_simp; try with_reducible rfl)
          try simp only [Act.put, List.setIfInBounds_toArray, List.set_cons_zero, List.set_cons_succ]
          refine wpAnyH_take (i := 14) (oi := ⟨some 42, _, _, _, _, _⟩) (v := ?qv14tm3) rfl (by kernel_rfl) (by kernel_rfl) (by kernel_rfl) (fun _ _ _ h => h) (Or.inl ⟨by rfl, ?qy14tm3⟩) hHeld ?qr14tm3
          case qy14tm3 => (intro w' hSw; obtain ⟨q0, q1, q2, q3⟩ := XY.out w' hSw; have q4 := XX.out w' hSw; go_simp; try with_reducible rfl)
          try simp only [Act.put, List.setIfInBounds_toArray, List.set_cons_zero, List.set_cons_succ]
          refine wpAnyH_take (i := 15) (oi := ⟨some 43, _, _, _, _, _⟩) (v := ?qv15tm3) rfl (by kernel_rfl) (by kernel_rfl) (by kernel_rfl) (fun _ _ _ h => h) (Or.inl ⟨by rfl, ?qy15tm3⟩) hHeld ?qr15tm3
          case qy15tm3 => (intro w' hSw; go_simp; try with_reducible rfl)
          try simp only [Act.put, List.setIfInBounds_toArray, List.set_cons_zero, List.set_cons_succ]
          refine wpAnyH_take (i := 16) (oi := ⟨some 44, _, _, _, _, _⟩) (v := ?qv16tm3) rfl (by kernel_rfl) (by kernel_rfl) (by kernel_rfl) (fun _ _ _ h => h) (Or.inl ⟨by rfl, ?qy16tm3⟩) hHeld ?qr16tm3
          case qy16tm3 => (intro w' hSw; go_simp; try with_reducible rfl)
          try simp only [Act.put, List.setIfInBounds_toArray, List.set_cons_zero, List.set_cons_succ]
          refine wpAnyH_take (i := 17) (oi := ⟨some 45, _, _, _, _, _⟩) (v := ?qv17tm3) rfl (by kernel_rfl) (by kernel_rfl) (by kernel_rfl) (fun _ _ _ h => h) (Or.inl ⟨by rfl, ?qy17tm3⟩) hHeld ?qr17tm3
          case qy17tm3 => (intro w' hSw; go_simp; try with_reducible rfl)
          try simp only [Act.put, List.setIfInBounds_toArray, List.set_cons_zero, List.set_cons_succ]
          refine wpAnyH_take (i := 18) (oi := ⟨some 9, _, _, _, _, _⟩) (v := ?qv18tm3) rfl (by kernel_rfl) (by kernel_rfl) (by kernel_rfl) (fun _ _ _ h => h) (Or.inl ⟨by rfl, ?qy18tm3⟩) hHeld ?qr18tm3
          case qy18tm3 => (intro w' hSw; go_simp; try with_reducible rfl)
          try simp only [Act.put, List.setIfInBounds_toArray, List.set_cons_zero, List.set_cons_succ]
          refine wpAnyH_done (by kernel_rfl) ?_ _
          refine NoPanic.normal ?_
          have cd := XX.out _ k1
          have fd := World.ownsRow.frozenAt ho3 1
          have HO := Lib.hid (show OwnW (D.setCell ⟨w.heap.size, 1, none⟩ (.int .u64 ((hi : Nat) : Int))) w.heap.size (.slice (some ⟨w.heap.size, 0, none⟩) 4 4) (rowS lo hi 2) from OwnW.stored (l := rowS lo hi 2) ho3 1 hi)
          have HB := Lib.hid ((hb2.trans (k1.mono hb2.size)).setCell (p := ⟨w.heap.size, 1, none⟩) (Nat.le_refl _) (.int .u64 ((hi : Nat) : Int)))
          clear ho3 ho2 cc ff
          go_wp2_with fail
          go_roundw
          case rel => exact ⟨1, by omega, by go_num, by go_num, HO.out, HB.out⟩
          case measure => simp [intOf]
        · rw [show ((1 : Nat) : Int) = 1 from rfl]
          rw [show ((0 : Nat) : Int) = 0 from rfl]
          have cc : wr.cell? ⟨w.heap.size, 2, none⟩ = some (.int .u64 0) := OwnW.cell (l := rowS lo hi 2) ho2 (i := 2) (by rw [rowS_len]; omega)
          have ff := World.ownsRow.frozenAt ho2 2
          have hlt := World.block_lt_of_cell? wr ⟨w.heap.size, 2, none⟩ cc
          have XX := Lib.hid (show ∀ w', Below wr.heap.size wr w' → (w'.cell? ⟨w.heap.size, 2, none⟩ = some (.int .u64 0)) from fun w' h => (h.cell (p := ⟨w.heap.size, 2, none⟩) hlt).trans cc)
          have XY := Lib.hid (show ∀ w', Below wr.heap.size wr w' → _ from fun w' h => XS.out w' (hb2.trans (h.mono hb2.size)))
          have ho3 : OwnW wr.drew w.heap.size (.slice (some ⟨w.heap.size, 0, none⟩) 4 4) (rowS lo hi 2) := ho2
          go_wp2_with fail
          refine wp_region_noPanic ?_
          refine wp_region_held_drew (S := fun w' => Below wr.heap.size wr w') (by kernel_rfl) (Below.refl _ _).drew (fun hHeld => ?_)
          generalize wr.drew = D at hHeld ho3 ⊢
          have k1 : Below wr.heap.size wr D := hHeld
          refine wpAnyH_take (i := 0) (oi := ⟨some 28, _, _, _, _, _⟩) (v := ?qv0tm4) rfl (by kernel_rfl) (by kernel_rfl) (by kernel_rfl) (fun _ _ _ h => h) (Or.inl ⟨by rfl, ?qy0tm4⟩) hHeld ?qr0tm4
          case qy0tm4 => (intro w' hSw; go_simp; try with_reducible rfl)
          try simp only [Act.put, List.setIfInBounds_toArray, List.set_cons_zero, List.set_cons_succ]
          refine wpAnyH_take (i := 1) (oi := ⟨some 29, _, _, _, _, _⟩) (v := ?qv1tm4) rfl (by kernel_rfl) (by kernel_rfl) (by kernel_rfl) (fun _ _ _ h => h) (Or.inl ⟨by rfl, ?qy1tm4⟩) hHeld ?qr1tm4
          case qy1tm4 => (intro w' hSw; go_simp; try with_reducible rfl)
          try simp only [Act.put, List.setIfInBounds_toArray, List.set_cons_zero, List.set_cons_succ]
          refine wpAnyH_take (i := 2) (oi := ⟨some 30, _, _, _, _, _⟩) (v := ?qv2tm4) rfl (by kernel_rfl) (by kernel_rfl) (by kernel_rfl) (fun _ _ _ h => h) (Or.inl ⟨by rfl, ?qy2tm4⟩) hHeld ?qr2tm4
          case qy2tm4 => (intro w' hSw; go_simp; try with_reducible rfl)
          try simp only [Act.put, List.setIfInBounds_toArray, List.set_cons_zero, List.set_cons_succ]
          refine wpAnyH_take (i := 3) (oi := ⟨some 31, _, _, _, _, _⟩) (v := ?qv3tm4) rfl (by kernel_rfl) (by kernel_rfl) (by kernel_rfl) (fun _ _ _ h => h) (Or.inl ⟨by rfl, ?qy3tm4⟩) hHeld ?qr3tm4
          case qy3tm4 => (intro w' hSw; obtain ⟨q0, q1, q2, q3⟩ := XY.out w' hSw; have q4 := XX.out w' hSw; go_simp; try with_reducible rfl)
          try simp only [Act.put, List.setIfInBounds_toArray, List.set_cons_zero, List.set_cons_succ]
          refine wpAnyH_take (i := 4) (oi := ⟨some 32, _, _, _, _, _⟩) (v := ?qv4tm4) rfl (by kernel_rfl) (by kernel_rfl) (by kernel_rfl) (fun _ _ _ h => h) (Or.inl ⟨by rfl, ?qy4tm4⟩) hHeld ?qr4tm4
          case qy4tm4 => (intro w' hSw; go_simp; try with_reducible rfl)
          try simp only [Act.put, List.setIfInBounds_toArray, List.set_cons_zero, List.set_cons_succ]
          refine wpAnyH_take (i := 5) (oi := ⟨some 33, _, _, _, _, _⟩) (v := ?qv5tm4) rfl (by kernel_rfl) (by kernel_rfl) (by kernel_rfl) (fun _ _ _ h => h) (Or.inl ⟨by rfl, ?qy5tm4⟩) hHeld ?qr5tm4
          case qy5tm4 => (intro w' hSw; go_simp; try with_reducible rfl)
          try simp only [Act.put, List.setIfInBounds_toArray, List.set_cons_zero, List.set_cons_succ]
          refine wpAnyH_take (i := 6) (oi := ⟨some 34, _, _, _, _, _⟩) (v := ?qv6tm4) rfl (by kernel_rfl) (by kernel_rfl) (by kernel_rfl) (fun _ _ _ h => h) (Or.inl ⟨by rfl, ?qy6tm4⟩) hHeld ?qr6tm4
          case qy6tm4 => (intro w' hSw; go_simp; try with_reducible rfl)
          try simp only [Act.put, List.setIfInBounds_toArray, List.set_cons_zero, List.set_cons_succ]
          refine wpAnyH_take (i := 7) (oi := ⟨some 35, _, _, _, _, _⟩) (v := ?qv7tm4) rfl (by kernel_rfl) (by kernel_rfl) (by kernel_rfl) (fun _ _ _ h => h) (Or.inl ⟨by rfl, ?qy7tm4⟩) hHeld ?qr7tm4
          case qy7tm4 => (intro w' hSw; obtain ⟨q0, q1, q2, q3⟩ := XY.out w' hSw; have q4 := XX.out w' hSw; go_simp; try with_reducible rfl)
          try simp only [Act.put, List.setIfInBounds_toArray, List.set_cons_zero, List.set_cons_succ]
          refine wpAnyH_take (i := 8) (oi := ⟨some 36, _, _, _, _, _⟩) (v := ?qv8tm4) rfl (by kernel_rfl) (by kernel_rfl) (by kernel_rfl) (fun _ _ _ h => h) (Or.inl ⟨by rfl, ?qy8tm4⟩) hHeld ?qr8tm4
          case qy8tm4 => (intro w' hSw; go_simp; try with_reducible rfl)
          try simp only [Act.put, List.setIfInBounds_toArray, List.set_cons_zero, List.set_cons_succ]
          refine wpAnyH_take (i := 9) (oi := ⟨some 37, _, _, _, _, _⟩) (v := ?qv9tm4) rfl (by kernel_rfl) (by kernel_rfl) (by kernel_rfl) (fun _ _ _ h => h) (Or.inl ⟨by rfl, ?qy9tm4⟩) hHeld ?qr9tm4
          case qy9tm4 => (intro w' hSw; go_simp; try with_reducible rfl)
          try simp only [Act.put, List.setIfInBounds_toArray, List.set_cons_zero, List.set_cons_succ]
          refine wpAnyH_take (i := 10) (oi := ⟨some 38, _, _, _, _, _⟩) (v := ?qv10tm4) rfl (by kernel_rfl) (by kernel_rfl) (by kernel_rfl) (fun _ _ _ h => h) (Or.inl ⟨by rfl, ?qy10tm4⟩) hHeld ?qr10tm4
          case qy10tm4 => (intro w' hSw; go_simp; try with_reducible rfl)
          try simp only [Act.put, List.setIfInBounds_toArray, List.set_cons_zero, List.set_cons_succ]
          refine wpAnyH_take (i := 11) (oi := ⟨some 39, _, _, _, _, _⟩) (v := ?qv11tm4) rfl (by kernel_rfl) (by kernel_rfl) (by kernel_rfl) (fun _ _ _ h => h) (Or.inl ⟨by rfl, ?qy11tm4⟩) hHeld ?qr11tm4
          case qy11tm4 => (intro w' hSw; go_simp; try with_reducible rfl)
          try simp only [Act.put, List.setIfInBounds_toArray, List.set_cons_zero, List.set_cons_succ]
          refine wpAnyH_take (i := 12) (oi := ⟨some 40, _, _, _, _, _⟩) (v := ?qv12tm4) rfl (by kernel_rfl) (by kernel_rfl) (by kernel_rfl) (fun _ _ _ h => h) (Or.inl ⟨by rfl, ?qy12tm4⟩) hHeld ?qr12tm4
          case qy12tm4 => (intro w' hSw; go_simp; try with_reducible rfl)
          try simp only [Act.put, List.setIfInBounds_toArray, List.set_cons_zero, List.set_cons_succ]
          refine wpAnyH_take (i := 13) (oi := ⟨some 41, _, _, _, _, _⟩) (v := ?qv13tm4) rfl (by kernel_rfl) (by kernel_rfl) (by kernel_rfl) (fun _ _ _ h => h) (Or.inl ⟨by rfl, ?qy13tm4⟩) hHeld ?qr13tm4
          case qy13tm4 => (intro w' hSw; go_simp; try with_reducible rfl)
          try simp only [Act.put, List.setIfInBounds_toArray, List.set_cons_zero, List.set_cons_succ]
          refine wpAnyH_take (i := 14) (oi := ⟨some 42, _, _, _, _, _⟩) (v := ?qv14tm4) rfl (by kernel_rfl) (by kernel_rfl) (by kernel_rfl) (fun _ _ _ h => h) (Or.inl ⟨by rfl, ?qy14tm4⟩) hHeld ?qr14tm4
          case qy14tm4 => (intro w' hSw; obtain ⟨q0, q1, q2, q3⟩ := XY.out w' hSw; have q4 := XX.out w' hSw; go_simp; try with_reducible rfl)
          try simp only [Act.put, List.setIfInBounds_toArray, List.set_cons_zero, List.set_cons_succ]
          refine wpAnyH_take (i := 15) (oi := ⟨some 43, _, _, _, _, _⟩) (v := ?qv15tm4) rfl (by kernel_rfl) (by kernel_rfl) (by kernel_rfl) (fun _ _ _ h => h) (Or.inl ⟨by rfl, ?qy15tm4⟩) hHeld ?qr15tm4
          case qy15tm4 => (intro w' hSw; go_simp; try with_reducible rfl)
          try simp only [Act.put, List.setIfInBounds_toArray, List.set_cons_zero, List.set_cons_succ]
          refine wpAnyH_take (i := 16) (oi := ⟨some 44, _, _, _, _, _⟩) (v := ?qv16tm4) rfl (by kernel_rfl) (by kernel_rfl) (by kernel_rfl) (fun _ _ _ h => h) (Or.inl ⟨by rfl, ?qy16tm4⟩) hHeld ?qr16tm4
          case qy16tm4 => (intro w' hSw; go_simp; try with_reducible rfl)
          try simp only [Act.put, List.setIfInBounds_toArray, List.set_cons_zero, List.set_cons_succ]
          refine wpAnyH_take (i := 17) (oi := ⟨some 45, _, _, _, _, _⟩) (v := ?qv17tm4) rfl (by kernel_rfl) (by kernel_rfl) (by kernel_rfl) (fun _ _ _ h => h) (Or.inl ⟨by rfl, ?qy17tm4⟩) hHeld ?qr17tm4
          case qy17tm4 => (intro w' hSw; go_simp; try with_reducible rfl)
          try simp only [Act.put, List.setIfInBounds_toArray, List.set_cons_zero, List.set_cons_succ]
          refine wpAnyH_take (i := 18) (oi := ⟨some 9, _, _, _, _, _⟩) (v := ?qv18tm4) rfl (by kernel_rfl) (by kernel_rfl) (by kernel_rfl) (fun _ _ _ h => h) (Or.inl ⟨by rfl, ?qy18tm4⟩) hHeld ?qr18tm4
          case qy18tm4 => (intro w' hSw; go_simp; try with_reducible rfl)
          try simp only [Act.put, List.setIfInBounds_toArray, List.set_cons_zero, List.set_cons_succ]
          refine wpAnyH_done (by kernel_rfl) ?_ _
          refine NoPanic.normal ?_
          have cd := XX.out _ k1
          have fd := World.ownsRow.frozenAt ho3 2
          have HO := Lib.hid (show OwnW (D.setCell ⟨w.heap.size, 2, none⟩ (.int .u64 ((0 : Nat) : Int))) w.heap.size (.slice (some ⟨w.heap.size, 0, none⟩) 4 4) (rowS lo hi 2) from OwnW.stored (l := rowS lo hi 2) ho3 2 0)
          have HB := Lib.hid ((hb2.trans (k1.mono hb2.size)).setCell (p := ⟨w.heap.size, 2, none⟩) (Nat.le_refl _) (.int .u64 ((0 : Nat) : Int)))
          clear ho3 ho2 cc ff
          go_wp2_with fail
          go_roundw
          case rel => exact ⟨2, by omega, by go_num, by go_num, HO.out, HB.out⟩
          case measure => simp [intOf]
        · rw [show ((2 : Nat) : Int) = 2 from rfl]
          rw [show (((0) : Nat) : Int) = 0 from rfl]
          have cc : wr.cell? ⟨w.heap.size, 3, none⟩ = some (.int .u64 0) := OwnW.cell (l := rowS lo hi 2) ho2 (i := 3) (by rw [rowS_len]; omega)
          have ff := World.ownsRow.frozenAt ho2 3
          have hlt := World.block_lt_of_cell? wr ⟨w.heap.size, 3, none⟩ cc
          have HO := Lib.hid (show OwnW (wr.setCell ⟨w.heap.size, 3, none⟩ (.int .u64 ((0 : Nat) : Int))) w.heap.size (.slice (some ⟨w.heap.size, 0, none⟩) 4 4) (rowS lo hi 2) from OwnW.stored (l := rowS lo hi 2) ho2 3 0)
          have HB := Lib.hid (hb2.setCell (p := ⟨w.heap.size, 3, none⟩) (Nat.le_refl _) (.int .u64 ((0 : Nat) : Int)))
          clear ho2
          go_wp2_with fail
          go_roundw
          case rel => exact ⟨2, by omega, by go_num, HO.out, HB.out⟩
          case measure => simp [intOf]
    · rw [if_neg (by omega)] at ho
      rw [show ((2 : Nat) : Int) = 2 from rfl]
      have HO := Lib.hid ho
      clear ho
      go_wp2_with fail
      go_ret
      exact ⟨_, rfl, HO.out, hbl⟩

set_option maxRecDepth 100000 in
/-- join of a row of four -/
theorem join_any (v : Value) (l : List Nat) (k x y : Nat) (w : World) (hv : Wd w v l) (hk : 2 * k + 1 < l.length) (h4 : l.length ≤ 4) (hx : l[2 * k]? = some x) (hy : l[2 * k + 1]? = some y) (h1 : x < 4294967296) (h2 : y < 4294967296) :
    Calls Tryd.prog 69 #[v, .int .i64 (k : Int)] w fun e w' => e = .returned (.int .u64 ((x + y * 4294967296 : Nat) : Int)) ∧ Below w.heap.size w w' := by
  obtain ⟨ao, c, rfl, q1, q2, _, h3⟩ := hv
  obtain ⟨g, off, rfl, hg, x0⟩ := h3 (2 * k) (by rw [wdV_length]; omega)
  obtain ⟨_, _, ee, _, x1⟩ := h3 (2 * k + 1) (by rw [wdV_length]; omega)
  cases ee
  have x0' : w.cell? ⟨g, off + 2 * k, none⟩ = some (.int .u64 (x : Int)) := by
    rw [x0]
    rw [List.getElem?_eq_getElem (by omega)] at hx
    simp only [wdV, List.getElem_map]
    rw [Option.some.inj hx]
  have x1' : w.cell? ⟨g, off + (2 * k + 1), none⟩ = some (.int .u64 (y : Int)) := by
    rw [x1]
    rw [List.getElem?_eq_getElem (by omega)] at hy
    simp only [wdV, List.getElem_map]
    rw [Option.some.inj hy]
  unfold maxLen at q2
  have e1 : IntKind.i64.wrap (2 * (k : Int)) = ((2 * k : Nat) : Int) := by rw [IntWalk.i64_in _ (by omega)]; omega
  have e2 : IntKind.i64.wrap (((2 * k : Nat) : Int) + 1) = ((2 * k + 1 : Nat) : Int) := by rw [IntWalk.i64_in _ (by omega)]; rfl
  have e3 : IntKind.u64.wrap ((y : Int) * 4294967296) = ((y * 4294967296 : Nat) : Int) := wrap_u64_nat (y * 4294967296) (by omega)
  have e4 : IntKind.u64.wrap ((y : Int) * 2 ^ 32) = ((y * 4294967296 : Nat) : Int) := e3
  have e5 : bits .or .u64 (x : Int) ((y * 4294967296 : Nat) : Int) = ((x + y * 4294967296 : Nat) : Int) := by
    rw [or_u64_nat x (y * 4294967296) (by omega) (by omega)]
    rw [show x ||| y * 4294967296 = x + y * 4294967296 from or_add64 x y 32 h1]
  obtain ⟨n, hn⟩ : ∃ n, 2 * k = n := ⟨_, rfl⟩
  rw [hn] at e1 e2 x0' x1' hk
  obtain ⟨z, hz⟩ : ∃ z, x + y * 4294967296 = z := ⟨_, rfl⟩
  rw [hz] at e5 ⊢
  obtain ⟨u, hu⟩ : ∃ u, y * 4294967296 = u := ⟨_, rfl⟩
  rw [hu] at e3 e4 e5
  have i0 : (0 : Int) ≤ (n : Int) := by omega
  have i1 : (n : Int) < (l.length : Int) := by omega
  have i2 : (0 : Int) ≤ ((n + 1 : Nat) : Int) := by omega
  have i3 : ((n + 1 : Nat) : Int) < (l.length : Int) := by omega
  have XS := Lib.hid (show ∀ w', Below w.heap.size w w' → w'.cell? ⟨g, off + n, none⟩ = some (.int .u64 (x : Int)) ∧ w'.cell? ⟨g, off + (n + 1), none⟩ = some (.int .u64 (y : Int)) from fun w' h =>
    ⟨(h.cell (p := ⟨g, off + n, none⟩) hg).trans x0', (h.cell (p := ⟨g, off + (n + 1), none⟩) hg).trans x1'⟩)
  obtain ⟨N, hN⟩ : ∃ N, n + 1 = N := ⟨_, rfl⟩
  rw [hN] at e2 i2 i3 XS
  clear hx hy x0 x1 h3 x0' x1' hn hz hu hk h4 h1 h2 hN
  go_enter Tryd.func69, Tryd.ntmps69
  go_wp2_with fail
  refine wp_region_noPanic ?_
  refine wp_region_held_drew (S := fun w' => Below w.heap.size w w') (by kernel_rfl) (Below.refl _ _).drew (fun hHeld => ?_)
  generalize w.drew = D at hHeld ⊢
  have k1 : Below w.heap.size w D := hHeld
  refine wpAnyH_take (i := 0) (oi := ⟨some 5, _, _, _, _, _⟩) (v := ?qv0jo) rfl (by kernel_rfl) (by kernel_rfl) (by kernel_rfl) (fun _ _ _ h => h) (Or.inl ⟨by rfl, ?qy0jo⟩) hHeld ?qr0jo
  case qy0jo => (intro w' hSw; go_simp; try with_reducible rfl)
  try simp only [Act.put, List.setIfInBounds_toArray, List.set_cons_zero, List.set_cons_succ]
  refine wpAnyH_take (i := 1) (oi := ⟨some 6, _, _, _, _, _⟩) (v := ?qv1jo) rfl (by kernel_rfl) (by kernel_rfl) (by kernel_rfl) (fun _ _ _ h => h) (Or.inl ⟨by rfl, ?qy1jo⟩) hHeld ?qr1jo
  case qy1jo => (intro w' hSw; go_simp; try with_reducible rfl)
  try simp only [Act.put, List.setIfInBounds_toArray, List.set_cons_zero, List.set_cons_succ]
  refine wpAnyH_take (i := 2) (oi := ⟨some 7, _, _, _, _, _⟩) (v := ?qv2jo) rfl (by kernel_rfl) (by kernel_rfl) (by kernel_rfl) (fun _ _ _ h => h) (Or.inl ⟨by rfl, ?qy2jo⟩) hHeld ?qr2jo
  case qy2jo => (intro w' hSw; go_simp; try with_reducible rfl)
  try simp only [Act.put, List.setIfInBounds_toArray, List.set_cons_zero, List.set_cons_succ]
  refine wpAnyH_take (i := 3) (oi := ⟨some 8, _, _, _, _, _⟩) (v := ?qv3jo) rfl (by kernel_rfl) (by kernel_rfl) (by kernel_rfl) (fun _ _ _ h => h) (Or.inl ⟨by rfl, ?qy3jo⟩) hHeld ?qr3jo
  case qy3jo => (intro w' hSw; go_simp; try with_reducible rfl)
  try simp only [Act.put, List.setIfInBounds_toArray, List.set_cons_zero, List.set_cons_succ]
  refine wpAnyH_take (i := 4) (oi := ⟨some 9, _, _, _, _, _⟩) (v := ?qv4jo) rfl (by kernel_rfl) (by kernel_rfl) (by kernel_rfl) (fun _ _ _ h => h) (Or.inl ⟨by rfl, ?qy4jo⟩) hHeld ?qr4jo
  case qy4jo => (intro w' hSw; obtain ⟨z0, z1⟩ := XS.out w' hSw; go_simp; try with_reducible rfl)
  try simp only [Act.put, List.setIfInBounds_toArray, List.set_cons_zero, List.set_cons_succ]
  refine wpAnyH_take (i := 5) (oi := ⟨some 10, _, _, _, _, _⟩) (v := ?qv5jo) rfl (by kernel_rfl) (by kernel_rfl) (by kernel_rfl) (fun _ _ _ h => h) (Or.inl ⟨by rfl, ?qy5jo⟩) hHeld ?qr5jo
  case qy5jo => (intro w' hSw; go_simp; try with_reducible rfl)
  try simp only [Act.put, List.setIfInBounds_toArray, List.set_cons_zero, List.set_cons_succ]
  refine wpAnyH_take (i := 6) (oi := ⟨some 11, _, _, _, _, _⟩) (v := ?qv6jo) rfl (by kernel_rfl) (by kernel_rfl) (by kernel_rfl) (fun _ _ _ h => h) (Or.inl ⟨by rfl, ?qy6jo⟩) hHeld ?qr6jo
  case qy6jo => (intro w' hSw; go_simp; try with_reducible rfl)
  try simp only [Act.put, List.setIfInBounds_toArray, List.set_cons_zero, List.set_cons_succ]
  refine wpAnyH_take (i := 7) (oi := ⟨some 12, _, _, _, _, _⟩) (v := ?qv7jo) rfl (by kernel_rfl) (by kernel_rfl) (by kernel_rfl) (fun _ _ _ h => h) (Or.inl ⟨by rfl, ?qy7jo⟩) hHeld ?qr7jo
  case qy7jo => (intro w' hSw; go_simp; try with_reducible rfl)
  try simp only [Act.put, List.setIfInBounds_toArray, List.set_cons_zero, List.set_cons_succ]
  refine wpAnyH_take (i := 8) (oi := ⟨some 13, _, _, _, _, _⟩) (v := ?qv8jo) rfl (by kernel_rfl) (by kernel_rfl) (by kernel_rfl) (fun _ _ _ h => h) (Or.inl ⟨by rfl, ?qy8jo⟩) hHeld ?qr8jo
  case qy8jo => (intro w' hSw; go_simp; try with_reducible rfl)
  try simp only [Act.put, List.setIfInBounds_toArray, List.set_cons_zero, List.set_cons_succ]
  refine wpAnyH_take (i := 9) (oi := ⟨some 14, _, _, _, _, _⟩) (v := ?qv9jo) rfl (by kernel_rfl) (by kernel_rfl) (by kernel_rfl) (fun _ _ _ h => h) (Or.inl ⟨by rfl, ?qy9jo⟩) hHeld ?qr9jo
  case qy9jo => (intro w' hSw; go_simp; try with_reducible rfl)
  try simp only [Act.put, List.setIfInBounds_toArray, List.set_cons_zero, List.set_cons_succ]
  refine wpAnyH_take (i := 10) (oi := ⟨some 15, _, _, _, _, _⟩) (v := ?qv10jo) rfl (by kernel_rfl) (by kernel_rfl) (by kernel_rfl) (fun _ _ _ h => h) (Or.inl ⟨by rfl, ?qy10jo⟩) hHeld ?qr10jo
  case qy10jo => (intro w' hSw; obtain ⟨z0, z1⟩ := XS.out w' hSw; go_simp; try with_reducible rfl)
  try simp only [Act.put, List.setIfInBounds_toArray, List.set_cons_zero, List.set_cons_succ]
  refine wpAnyH_take (i := 11) (oi := ⟨some 16, _, _, _, _, _⟩) (v := ?qv11jo) rfl (by kernel_rfl) (by kernel_rfl) (by kernel_rfl) (fun _ _ _ h => h) (Or.inl ⟨by rfl, ?qy11jo⟩) hHeld ?qr11jo
  case qy11jo => (intro w' hSw; go_simp; try with_reducible rfl)
  try simp only [Act.put, List.setIfInBounds_toArray, List.set_cons_zero, List.set_cons_succ]
  refine wpAnyH_take (i := 12) (oi := ⟨some 17, _, _, _, _, _⟩) (v := ?qv12jo) rfl (by kernel_rfl) (by kernel_rfl) (by kernel_rfl) (fun _ _ _ h => h) (Or.inl ⟨by rfl, ?qy12jo⟩) hHeld ?qr12jo
  case qy12jo => (intro w' hSw; go_simp; try with_reducible rfl)
  try simp only [Act.put, List.setIfInBounds_toArray, List.set_cons_zero, List.set_cons_succ]
  refine wpAnyH_take (i := 13) (oi := ⟨some 4, _, _, _, _, _⟩) (v := ?qv13jo) rfl (by kernel_rfl) (by kernel_rfl) (by kernel_rfl) (fun _ _ _ h => h) (Or.inl ⟨by rfl, ?qy13jo⟩) hHeld ?qr13jo
  case qy13jo => (intro w' hSw; go_simp; try with_reducible rfl)
  try simp only [Act.put, List.setIfInBounds_toArray, List.set_cons_zero, List.set_cons_succ]
  refine wpAnyH_done (by kernel_rfl) ?_ _
  refine NoPanic.normal ?_
  go_wp2_with fail
  go_ret
  exact ⟨rfl, k1⟩

set_option maxRecDepth 100000 in
theorem Mul_small (a b : Nat) (w : World) (ha : a < 4294967296) (hb : b < 4294967296) :
    Calls Tryd.prog 47 #[.int .u64 (a : Int), .int .u64 (b : Int)] w fun e w' => e = .returned (.agg #[.int .u64 0, .int .u64 ((a * b : Nat) : Int)]) ∧ Below w.heap.size w w' := by
  have B0 : Below w.heap.size w (w.alloc (.cells #[.int .u64 0, .int .u64 0] 42)) := (Below.refl _ _).alloc (Nat.le_refl _) _
  have R0 := Lib.hid (pairU_alloc w 0 0 42 w.heap.size rfl)
  have B1 := B0.alloc B0.size (.cells #[.int .u64 (a : Int)] 33)
  have b01 : Below (w.alloc (.cells #[.int .u64 0, .int .u64 0] 42)).heap.size (w.alloc (.cells #[.int .u64 0, .int .u64 0] 42)) ((w.alloc (.cells #[.int .u64 0, .int .u64 0] 42)).alloc (.cells #[.int .u64 (a : Int)] 33)) := (Below.refl _ _).alloc (Nat.le_refl _) _
  have R1 := Lib.hid (R0.out.below b01)
  have W1 := Lib.hid (words1 _ a _ (wd1 (w.alloc (.cells #[.int .u64 0, .int .u64 0] 42)) (w.heap.size + 1) (by simp) a) ha)
  have hp : a * b < 18446744073709551616 := by
    have := Nat.mul_le_mul (Nat.le_of_lt_succ ha) (Nat.le_of_lt_succ hb)
    omega
  go_enter Tryd.func47, Tryd.ntmps47
  go_wp2_with fail
  refine W1.out.mono ?_
  rintro e w1 ⟨u1, rfl, o1, b1⟩
  have B2 := B1.trans (b1.mono B1.size)
  have R2 := Lib.hid (R1.out.below b1)
  have W2 := Lib.hid (words1 _ b _ (wd1 w1 w1.heap.size rfl b) hb)
  have b12 : Below w1.heap.size w1 (w1.alloc (.cells #[.int .u64 (b : Int)] 33)) := (Below.refl _ _).alloc (Nat.le_refl _) _
  have B3 := B2.trans (b12.mono B2.size)
  have R3 := Lib.hid (R2.out.below b12)
  have O1 := Lib.hid (o1.below b12)
  clear o1
  obtain ⟨ao1, c1, rfl, _⟩ := O1.out.wd
  go_wp2_with fail
  refine W2.out.mono ?_
  rintro e w2 ⟨u2, rfl, o2, b2⟩
  have B4 := B3.trans (b2.mono B3.size)
  have R4 := Lib.hid (R3.out.below b2)
  have T := Lib.hid (times_small _ _ a b w2 (O1.out.wd.below b2) o2.wd ha hb)
  have O2 := Lib.hid o2
  clear o2
  obtain ⟨ao2, c2, rfl, _⟩ := O2.out.wd
  go_wp2_with fail
  refine T.out.mono ?_
  rintro e w3 ⟨u3, rfl, o3, b3⟩
  have B5 := B4.trans (b3.mono B4.size)
  have R5 := Lib.hid (R4.out.below b3)
  have hlo : a * b % 4294967296 < 4294967296 := Nat.mod_lt _ (by omega)
  have hhi : a * b / 4294967296 < 4294967296 := by omega
  have J1 := Lib.hid (fun w' (h : Wd w' u3 [a * b % 4294967296, a * b / 4294967296, 0, 0]) => join_any u3 _ 1 0 0 w' h (by simp) (by simp) rfl rfl (by omega) (by omega))
  have J0 := Lib.hid (fun w' (h : Wd w' u3 [a * b % 4294967296, a * b / 4294967296, 0, 0]) => join_any u3 _ 0 _ _ w' h (by simp) (by simp) rfl rfl hlo hhi)
  have O3 := Lib.hid o3.wd
  clear o3
  obtain ⟨ao3, c3, rfl, _⟩ := O3.out
  have HJ := Lib.hid (show a * b % 4294967296 + a * b / 4294967296 * 4294967296 = a * b by omega)
  rw [HJ.out] at J0
  go_wp2_with fail
  refine (J1.out _ O3.out).mono ?_
  rintro e w4 ⟨rfl, b4⟩
  have B6 := B5.trans (b4.mono B5.size)
  have R6 := Lib.hid (R5.out.below b4)
  rw [show ((0 + 0 * 4294967296 : Nat) : Int) = 0 from rfl]
  go_wp2_with fail
  refine (J0.out _ (O3.out.below b4)).mono ?_
  rintro e w5 ⟨rfl, b5⟩
  have B7 := B6.trans (b5.mono B6.size)
  obtain ⟨r0, r1, r2, r3⟩ := R6.out.below b5
  have hlt := (R6.out.below b5).lt
  generalize hP : ((a * b : Nat) : Int) = P at *
  have HP := Lib.hid hP
  clear hP
  go_wp2_with fail
  obtain ⟨p0, p1⟩ := two_cells r0 r1 r2 r3 (.int .u64 0) (.int .u64 P)
  exact bodyPost_ret (v := .agg #[.int .u64 0, .int .u64 P]) (by simp [results, Tryd.results47, go_sem, p0, p1]) rfl ⟨by rw [HP.out], (B7.setCell (p := ⟨w.heap.size, 0, none⟩) (Nat.le_refl _) _).setCell (p := ⟨w.heap.size, 1, none⟩) (Nat.le_refl _) _⟩
end Go.Proofs.YtpmngdgifdkohaaDoor
