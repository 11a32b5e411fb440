/- FaultJoins answers true, whatever it is given. -/
import Derived.Test.YthijffpackkcnaaDoorJoinMath
import Derived.Test.YthijffpackkcnaaDoorAwake7D
import Derived.Test.YthijffpackkcnaaDoorViewSI
import Derived.Test.YthijffpackkcnaaDoorErrLaid
import Derived.Test.YthijffpackkcnaaDoorReg
namespace Go.Proofs.YthijffpackkcnaaDoor
open Go.RowKit Go.ChangeShapes Go.WideShapes

set_option maxRecDepth 100000 in
theorem joins_out (v : Value) (cs : List Int) (w : World) (hi : Ints w v cs) (h : 30 < cs.length) :
    Calls Tryd.prog 4 #[v] w fun e w' => e = .returned (.bool true) ∧ Below w.heap.size w w' := by
  obtain ⟨ao, c, rfl, h1, h2, _⟩ := hi.open
  unfold maxLen at h2
  have t1 : decide ((30 : Int) < (cs.length : Int)) = true := decide_eq_true (by omega)
  clear hi
  go_enter Tryd.func4, Tryd.ntmps4
  go_wp2_with fail
  refine (awake7_any _).mono ?_
  rintro e w1 ⟨rfl, b1⟩
  go_wp2_with fail
  go_ret
  exact ⟨rfl, b1⟩

set_option maxRecDepth 100000 in
set_option maxHeartbeats 4000000 in
theorem joins_in (v : Value) (cs : List Int) (w : World) (hg : ErrT w) (hi : Ints w v cs) (n1 : cs.length ≤ 30) (hr : ∀ n ∈ cs, -9223372036854775808 ≤ n ∧ n ≤ 9223372036854775807) :
    Calls Tryd.prog 4 #[v] w fun e w' => e = .returned (.bool true) ∧ Below w.heap.size w w' := by
  obtain ⟨ao, ca, rfl, h1, h2, h3⟩ := hi.open
  have HI := Lib.hid h3
  have HR := Lib.hid hr
  unfold maxLen at h2
  have GT := Lib.hid (fun w' (h : Below w.heap.size w w') => hg.below h hg.lt)
  have t0 : decide ((30 : Int) < (cs.length : Int)) = false := decide_eq_false (by omega)
  clear h3 hi hr hg
  go_enter Tryd.func4, Tryd.ntmps4
  go_wp2_with fail
  go_loopw [3, 4, 5] (fun a f i wr => ∃ (k : Nat) (us : List Value), k ≤ cs.length ∧ i = .int .i64 k ∧ f = .int .i64 (firstC (cs.take k)) ∧ (OwnE wr w.heap.size a us ∧ EltsIs wr (cs.take k) us) ∧ Below w.heap.size w wr) (fun _ _ i _ => cs.length - (intOf i).toNat)
  case atStart => exact ⟨0, [], Nat.zero_le _, rfl, rfl, ⟨World.ownsRow_nil _ _ _ _, rfl⟩, Below.refl _ _⟩
  case round =>
    obtain ⟨k, us, hk, rfl, rfl, hoe, hb⟩ := hrel
    by_cases hlt : k < cs.length
    · have t5 : decide ((k : Int) < (cs.length : Int)) = true := by simp; omega
      obtain ⟨g, off, rfl, hg0, hx⟩ := HI.out k hlt
      have hrk := HR.out _ (List.getElem_mem hlt)
      have j0 : (0 : Int) ≤ (k : Int) := by omega
      have j1 : (k : Int) < (cs.length : Int) := by omega
      have XO := Lib.hid (show ∀ w', Below w.heap.size w w' → w'.cell? ⟨g, off + k, none⟩ = some (.int .i64 cs[k]) from fun w' h => (h.cell (p := ⟨g, off + k, none⟩) hg0).trans hx)
      have TK := Lib.hid (show cs.take (k + 1) = cs.take k ++ [cs[k]] from List.take_succ_eq_append_getElem hlt)
      have FS := Lib.hid (firstC_snoc cs[k] (cs.take k))
      have UL := Lib.hid (hoe.2.ens.length)
      have hul : us.length ≤ 30 := by have h := UL.out; rw [List.length_map, List.length_take] at h; omega
      have xc := XO.out _ hb
      clear hx
      generalize cs[k] = c at *
      by_cases hc : 1 ≤ c ∧ c ≤ 15
      · have t6 : decide (c < 1) = false := decide_eq_false (by omega)
        have t7 : decide (15 < c) = false := decide_eq_false (by omega)
        have NW := Lib.hid (New_elt c hc)
        by_cases hf : firstC (cs.take k) = 0
        · have HF := Lib.hid (show firstC (cs.take (k + 1)) = c by rw [TK.out, FS.out, if_pos hf, if_pos hc])
          rw [hf]
          have hoe' : OwnE wr.drew w.heap.size _ us ∧ EltsIs wr.drew (cs.take k) us := ⟨hoe.1, hoe.2.below (Below.refl _ _).drew⟩
          clear hoe hf hc
          go_wp2_with fail
          refine wp_region_noPanic ?_
          refine wp_region_held_drew (S := fun w' => Below w.heap.size w w') (by kernel_rfl) hb.drew (fun hHeld => ?_)
          generalize wr.drew = D at hHeld hoe' ⊢
          have k1 : Below w.heap.size w D := hHeld
          refine wpAnyH_take (i := 0) (oi := ⟨some 36, _, _, _, _, _⟩) (v := ?qv0fj) rfl (by kernel_rfl) (by kernel_rfl) (by kernel_rfl) (fun _ _ _ h => h) (Or.inl ⟨by rfl, ?qy0fj⟩) hHeld ?qr0fj
          case qy0fj => (intro w' hSw; go_simp; try with_reducible rfl)
          try simp only [Act.put, List.setIfInBounds_toArray, List.set_cons_zero, List.set_cons_succ]
          refine wpAnyH_take (i := 1) (oi := ⟨some 37, _, _, _, _, _⟩) (v := ?qv1fj) rfl (by kernel_rfl) (by kernel_rfl) (by kernel_rfl) (fun _ _ _ h => h) (Or.inl ⟨by rfl, ?qy1fj⟩) hHeld ?qr1fj
          case qy1fj => (intro w' hSw; go_simp; try with_reducible rfl)
          try simp only [Act.put, List.setIfInBounds_toArray, List.set_cons_zero, List.set_cons_succ]
          refine wpAnyH_take (i := 2) (oi := ⟨some 38, _, _, _, _, _⟩) (v := ?qv2fj) rfl (by kernel_rfl) (by kernel_rfl) (by kernel_rfl) (fun _ _ _ h => h) (Or.inl ⟨by rfl, ?qy2fj⟩) hHeld ?qr2fj
          case qy2fj => (intro w' hSw; go_simp; try with_reducible rfl)
          try simp only [Act.put, List.setIfInBounds_toArray, List.set_cons_zero, List.set_cons_succ]
          refine wpAnyH_take (i := 3) (oi := ⟨some 39, _, _, _, _, _⟩) (v := ?qv3fj) rfl (by kernel_rfl) (by kernel_rfl) (by kernel_rfl) (fun _ _ _ h => h) (Or.inl ⟨by rfl, ?qy3fj⟩) hHeld ?qr3fj
          case qy3fj => (intro w' hSw; go_simp; try with_reducible rfl)
          try simp only [Act.put, List.setIfInBounds_toArray, List.set_cons_zero, List.set_cons_succ]
          refine wpAnyH_take (i := 4) (oi := ⟨some 40, _, _, _, _, _⟩) (v := ?qv4fj) rfl (by kernel_rfl) (by kernel_rfl) (by kernel_rfl) (fun _ _ _ h => h) (Or.inl ⟨by rfl, ?qy4fj⟩) hHeld ?qr4fj
          case qy4fj => (intro w' hSw; have z0 := XO.out w' hSw; go_simp; try with_reducible rfl)
          try simp only [Act.put, List.setIfInBounds_toArray, List.set_cons_zero, List.set_cons_succ]
          refine wpAnyH_take (i := 5) (oi := ⟨some 41, _, _, _, _, _⟩) (v := ?qv5fj) rfl (by kernel_rfl) (by kernel_rfl) (by kernel_rfl) (fun _ _ _ h => h) (Or.inl ⟨by rfl, ?qy5fj⟩) hHeld ?qr5fj
          case qy5fj => (intro w' hSw; go_simp; try with_reducible rfl)
          try simp only [Act.put, List.setIfInBounds_toArray, List.set_cons_zero, List.set_cons_succ]
          refine wpAnyH_take (i := 6) (oi := ⟨some 42, _, _, _, _, _⟩) (v := ?qv6fj) rfl (by kernel_rfl) (by kernel_rfl) (by kernel_rfl) (fun _ _ _ h => h) (Or.inl ⟨by rfl, ?qy6fj⟩) hHeld ?qr6fj
          case qy6fj => (intro w' hSw; go_simp; try with_reducible rfl)
          try simp only [Act.put, List.setIfInBounds_toArray, List.set_cons_zero, List.set_cons_succ]
          refine wpAnyH_take (i := 7) (oi := ⟨some 43, _, _, _, _, _⟩) (v := ?qv7fj) rfl (by kernel_rfl) (by kernel_rfl) (by kernel_rfl) (fun _ _ _ h => h) (Or.inl ⟨by rfl, ?qy7fj⟩) hHeld ?qr7fj
          case qy7fj => (intro w' hSw; go_simp; try with_reducible rfl)
          try simp only [Act.put, List.setIfInBounds_toArray, List.set_cons_zero, List.set_cons_succ]
          refine wpAnyH_take (i := 8) (oi := ⟨some 44, _, _, _, _, _⟩) (v := ?qv8fj) rfl (by kernel_rfl) (by kernel_rfl) (by kernel_rfl) (fun _ _ _ h => h) (Or.inl ⟨by rfl, ?qy8fj⟩) hHeld ?qr8fj
          case qy8fj => (intro w' hSw; have z0 := XO.out w' hSw; go_simp; try with_reducible rfl)
          try simp only [Act.put, List.setIfInBounds_toArray, List.set_cons_zero, List.set_cons_succ]
          refine wpAnyH_take (i := 9) (oi := ⟨some 45, _, _, _, _, _⟩) (v := ?qv9fj) rfl (by kernel_rfl) (by kernel_rfl) (by kernel_rfl) (fun _ _ _ h => h) (Or.inl ⟨by rfl, ?qy9fj⟩) hHeld ?qr9fj
          case qy9fj => (intro w' hSw; go_simp; try with_reducible rfl)
          try simp only [Act.put, List.setIfInBounds_toArray, List.set_cons_zero, List.set_cons_succ]
          refine wpAnyH_ready (rs := [10]) (by kernel_rfl) (by simp) ?_
          refine AllReadyH.cons (o := ⟨some 46, _, _, _, _, _⟩) rfl (fun K hK => ?_) AllReadyH.nil
          refine step_go (by rfl) 6 _ _ (by rfl) (fun _ _ => by kernel_rfl) _ (by rfl) (NW.out _) ?_
          rintro e x1 ⟨b1, rfl, f1, kk1⟩
          refine ⟨_, rfl, ?_⟩
          have k2 := k1.trans (kk1.mono k1.size)
          have OW2 := Lib.hid (own_below' hoe'.1 kk1)
          have ES2 := Lib.hid (EltsIs.below hoe'.2 kk1)
          have F1 := Lib.hid f1
          clear f1
          refine hK.out _ _ (k2) (fun hHeld => ?_)
          clear hK K
          try simp only [Act.put, List.setIfInBounds_toArray, List.set_cons_zero, List.set_cons_succ]
          refine wpAnyH_ready (rs := [11]) (by kernel_rfl) (by simp) ?_
          refine AllReadyH.cons (o := ⟨some 47, _, _, _, _, _⟩) rfl (fun K hK => ?_) AllReadyH.nil
          go_simp
          have a1 : Below x1.heap.size x1 (x1.alloc (.cells #[.iface 29 (.pointer (some ⟨b1, 0, none⟩))] 27)) := (Below.refl _ _).alloc (Nat.le_refl _) _
          have k3 := k2.trans (a1.mono k2.size)
          have OW3 := Lib.hid (show OwnE _ _ _ _ from own_below' OW2.out a1)
          have ES3 := Lib.hid (ES2.out.below a1)
          have F3 := Lib.hid (show EltIs (x1.alloc (.cells #[.iface 29 (.pointer (some ⟨b1, 0, none⟩))] 27)) c _ from EltIs.block (fun _ _ _ e => a1.block _ (lt_of_block e)) _ _ F1.out)
          refine hK.out _ _ k3 (fun hHeld => ?_)
          clear hK K
          try simp only [Act.put, List.setIfInBounds_toArray, List.set_cons_zero, List.set_cons_succ]
          refine wpAnyH_ready (rs := [12]) (by kernel_rfl) (by simp) ?_
          refine AllReadyH.cons (o := ⟨some 48, _, _, _, _, _⟩) rfl (fun K hK => ?_) AllReadyH.nil
          refine step_append_err (by rfl) _ _ (by rfl) w.heap.size _ us (by rfl) OW3.out ⟨x1.heap.size, 0, none⟩ (.iface 29 (.pointer (some ⟨b1, 0, none⟩))) (by rfl) (by simp) rfl (by omega) k3.size ?_
          intro v4 w4 ho4 hg4
          have k4 := k3.trans (below_grown OW3.out hg4 (Nat.le_refl _) k3.size)
          have ES4 := Lib.hid (EltsIs.snoc (EltIs.block (fun _ _ _ e => hg4.block _ (lt_of_block e) (fun q => ownE_ne OW3.out e (by decide) q.symm)) _ _ F3.out) (ES3.out.grown OW3.out hg4))
          refine hK.out _ _ k4 (fun hHeld => ?_)
          clear hK K
          try simp only [Act.put, List.setIfInBounds_toArray, List.set_cons_zero, List.set_cons_succ]
          refine wpAnyH_take (i := 13) (oi := ⟨some 3, _, _, _, _, _⟩) (v := ?qv13fj) rfl (by kernel_rfl) (by kernel_rfl) (by kernel_rfl) (fun _ _ _ h => h) (Or.inl ⟨by rfl, ?qy13fj⟩) hHeld ?qr13fj
          case qy13fj => (intro w' hSw; go_simp; try with_reducible rfl)
          try simp only [Act.put, List.setIfInBounds_toArray, List.set_cons_zero, List.set_cons_succ]
          refine wpAnyH_done (by kernel_rfl) ?_ _
          refine NoPanic.normal ?_
          have x4 := XO.out _ k4
          have HO4 := Lib.hid ho4
          clear ho4 hg4 xc
          go_wp2_with fail
          go_roundw
          case rel => exact ⟨k + 1, _, hlt, by go_num, by rw [HF.out], ⟨HO4.out, by rw [TK.out]; exact ES4.out⟩, k4⟩
          case measure => simp [intOf]; omega
        · have HF := Lib.hid (show firstC (cs.take (k + 1)) = firstC (cs.take k) by rw [TK.out, FS.out, if_neg hf])
          have t8 : (firstC (cs.take k) == 0) = false := by simpa using hf
          have hoe' : OwnE wr.drew w.heap.size _ us ∧ EltsIs wr.drew (cs.take k) us := ⟨hoe.1, hoe.2.below (Below.refl _ _).drew⟩
          clear hoe hf hc
          generalize firstC (cs.take k) = fc at *
          go_wp2_with fail
          refine wp_region_noPanic ?_
          refine wp_region_held_drew (S := fun w' => Below w.heap.size w w') (by kernel_rfl) hb.drew (fun hHeld => ?_)
          generalize wr.drew = D at hHeld hoe' ⊢
          have k1 : Below w.heap.size w D := hHeld
          refine wpAnyH_take (i := 0) (oi := ⟨some 36, _, _, _, _, _⟩) (v := ?qv0fk) rfl (by kernel_rfl) (by kernel_rfl) (by kernel_rfl) (fun _ _ _ h => h) (Or.inl ⟨by rfl, ?qy0fk⟩) hHeld ?qr0fk
          case qy0fk => (intro w' hSw; go_simp; try with_reducible rfl)
          try simp only [Act.put, List.setIfInBounds_toArray, List.set_cons_zero, List.set_cons_succ]
          refine wpAnyH_take (i := 1) (oi := ⟨some 37, _, _, _, _, _⟩) (v := ?qv1fk) rfl (by kernel_rfl) (by kernel_rfl) (by kernel_rfl) (fun _ _ _ h => h) (Or.inl ⟨by rfl, ?qy1fk⟩) hHeld ?qr1fk
          case qy1fk => (intro w' hSw; go_simp; try with_reducible rfl)
          try simp only [Act.put, List.setIfInBounds_toArray, List.set_cons_zero, List.set_cons_succ]
          refine wpAnyH_take (i := 2) (oi := ⟨some 38, _, _, _, _, _⟩) (v := ?qv2fk) rfl (by kernel_rfl) (by kernel_rfl) (by kernel_rfl) (fun _ _ _ h => h) (Or.inl ⟨by rfl, ?qy2fk⟩) hHeld ?qr2fk
          case qy2fk => (intro w' hSw; go_simp; try with_reducible rfl)
          try simp only [Act.put, List.setIfInBounds_toArray, List.set_cons_zero, List.set_cons_succ]
          refine wpAnyH_take (i := 3) (oi := ⟨some 39, _, _, _, _, _⟩) (v := ?qv3fk) rfl (by kernel_rfl) (by kernel_rfl) (by kernel_rfl) (fun _ _ _ h => h) (Or.inl ⟨by rfl, ?qy3fk⟩) hHeld ?qr3fk
          case qy3fk => (intro w' hSw; go_simp; try with_reducible rfl)
          try simp only [Act.put, List.setIfInBounds_toArray, List.set_cons_zero, List.set_cons_succ]
          refine wpAnyH_take (i := 4) (oi := ⟨some 40, _, _, _, _, _⟩) (v := ?qv4fk) rfl (by kernel_rfl) (by kernel_rfl) (by kernel_rfl) (fun _ _ _ h => h) (Or.inl ⟨by rfl, ?qy4fk⟩) hHeld ?qr4fk
          case qy4fk => (intro w' hSw; have z0 := XO.out w' hSw; go_simp; try with_reducible rfl)
          try simp only [Act.put, List.setIfInBounds_toArray, List.set_cons_zero, List.set_cons_succ]
          refine wpAnyH_take (i := 5) (oi := ⟨some 41, _, _, _, _, _⟩) (v := ?qv5fk) rfl (by kernel_rfl) (by kernel_rfl) (by kernel_rfl) (fun _ _ _ h => h) (Or.inl ⟨by rfl, ?qy5fk⟩) hHeld ?qr5fk
          case qy5fk => (intro w' hSw; go_simp; try with_reducible rfl)
          try simp only [Act.put, List.setIfInBounds_toArray, List.set_cons_zero, List.set_cons_succ]
          refine wpAnyH_take (i := 6) (oi := ⟨some 42, _, _, _, _, _⟩) (v := ?qv6fk) rfl (by kernel_rfl) (by kernel_rfl) (by kernel_rfl) (fun _ _ _ h => h) (Or.inl ⟨by rfl, ?qy6fk⟩) hHeld ?qr6fk
          case qy6fk => (intro w' hSw; go_simp; try with_reducible rfl)
          try simp only [Act.put, List.setIfInBounds_toArray, List.set_cons_zero, List.set_cons_succ]
          refine wpAnyH_take (i := 7) (oi := ⟨some 43, _, _, _, _, _⟩) (v := ?qv7fk) rfl (by kernel_rfl) (by kernel_rfl) (by kernel_rfl) (fun _ _ _ h => h) (Or.inl ⟨by rfl, ?qy7fk⟩) hHeld ?qr7fk
          case qy7fk => (intro w' hSw; go_simp; try with_reducible rfl)
          try simp only [Act.put, List.setIfInBounds_toArray, List.set_cons_zero, List.set_cons_succ]
          refine wpAnyH_take (i := 8) (oi := ⟨some 44, _, _, _, _, _⟩) (v := ?qv8fk) rfl (by kernel_rfl) (by kernel_rfl) (by kernel_rfl) (fun _ _ _ h => h) (Or.inl ⟨by rfl, ?qy8fk⟩) hHeld ?qr8fk
          case qy8fk => (intro w' hSw; have z0 := XO.out w' hSw; go_simp; try with_reducible rfl)
          try simp only [Act.put, List.setIfInBounds_toArray, List.set_cons_zero, List.set_cons_succ]
          refine wpAnyH_take (i := 9) (oi := ⟨some 45, _, _, _, _, _⟩) (v := ?qv9fk) rfl (by kernel_rfl) (by kernel_rfl) (by kernel_rfl) (fun _ _ _ h => h) (Or.inl ⟨by rfl, ?qy9fk⟩) hHeld ?qr9fk
          case qy9fk => (intro w' hSw; go_simp; try with_reducible rfl)
          try simp only [Act.put, List.setIfInBounds_toArray, List.set_cons_zero, List.set_cons_succ]
          refine wpAnyH_ready (rs := [10]) (by kernel_rfl) (by simp) ?_
          refine AllReadyH.cons (o := ⟨some 46, _, _, _, _, _⟩) rfl (fun K hK => ?_) AllReadyH.nil
          refine step_go (by rfl) 6 _ _ (by rfl) (fun _ _ => by kernel_rfl) _ (by rfl) (NW.out _) ?_
          rintro e x1 ⟨b1, rfl, f1, kk1⟩
          refine ⟨_, rfl, ?_⟩
          have k2 := k1.trans (kk1.mono k1.size)
          have OW2 := Lib.hid (own_below' hoe'.1 kk1)
          have ES2 := Lib.hid (EltsIs.below hoe'.2 kk1)
          have F1 := Lib.hid f1
          clear f1
          refine hK.out _ _ (k2) (fun hHeld => ?_)
          clear hK K
          try simp only [Act.put, List.setIfInBounds_toArray, List.set_cons_zero, List.set_cons_succ]
          refine wpAnyH_ready (rs := [11]) (by kernel_rfl) (by simp) ?_
          refine AllReadyH.cons (o := ⟨some 47, _, _, _, _, _⟩) rfl (fun K hK => ?_) AllReadyH.nil
          go_simp
          have a1 : Below x1.heap.size x1 (x1.alloc (.cells #[.iface 29 (.pointer (some ⟨b1, 0, none⟩))] 27)) := (Below.refl _ _).alloc (Nat.le_refl _) _
          have k3 := k2.trans (a1.mono k2.size)
          have OW3 := Lib.hid (show OwnE _ _ _ _ from own_below' OW2.out a1)
          have ES3 := Lib.hid (ES2.out.below a1)
          have F3 := Lib.hid (show EltIs (x1.alloc (.cells #[.iface 29 (.pointer (some ⟨b1, 0, none⟩))] 27)) c _ from EltIs.block (fun _ _ _ e => a1.block _ (lt_of_block e)) _ _ F1.out)
          refine hK.out _ _ k3 (fun hHeld => ?_)
          clear hK K
          try simp only [Act.put, List.setIfInBounds_toArray, List.set_cons_zero, List.set_cons_succ]
          refine wpAnyH_ready (rs := [12]) (by kernel_rfl) (by simp) ?_
          refine AllReadyH.cons (o := ⟨some 48, _, _, _, _, _⟩) rfl (fun K hK => ?_) AllReadyH.nil
          refine step_append_err (by rfl) _ _ (by rfl) w.heap.size _ us (by rfl) OW3.out ⟨x1.heap.size, 0, none⟩ (.iface 29 (.pointer (some ⟨b1, 0, none⟩))) (by rfl) (by simp) rfl (by omega) k3.size ?_
          intro v4 w4 ho4 hg4
          have k4 := k3.trans (below_grown OW3.out hg4 (Nat.le_refl _) k3.size)
          have ES4 := Lib.hid (EltsIs.snoc (EltIs.block (fun _ _ _ e => hg4.block _ (lt_of_block e) (fun q => ownE_ne OW3.out e (by decide) q.symm)) _ _ F3.out) (ES3.out.grown OW3.out hg4))
          refine hK.out _ _ k4 (fun hHeld => ?_)
          clear hK K
          try simp only [Act.put, List.setIfInBounds_toArray, List.set_cons_zero, List.set_cons_succ]
          refine wpAnyH_take (i := 13) (oi := ⟨some 3, _, _, _, _, _⟩) (v := ?qv13fk) rfl (by kernel_rfl) (by kernel_rfl) (by kernel_rfl) (fun _ _ _ h => h) (Or.inl ⟨by rfl, ?qy13fk⟩) hHeld ?qr13fk
          case qy13fk => (intro w' hSw; go_simp; try with_reducible rfl)
          try simp only [Act.put, List.setIfInBounds_toArray, List.set_cons_zero, List.set_cons_succ]
          refine wpAnyH_done (by kernel_rfl) ?_ _
          refine NoPanic.normal ?_
          have x4 := XO.out _ k4
          have HO4 := Lib.hid ho4
          clear ho4 hg4 xc
          go_wp2_with fail
          go_roundw
          case rel => exact ⟨k + 1, _, hlt, by go_num, by rw [HF.out], ⟨HO4.out, by rw [TK.out]; exact ES4.out⟩, k4⟩
          case measure => simp [intOf]; omega
      · have HF := Lib.hid (show firstC (cs.take (k + 1)) = firstC (cs.take k) by
          rw [TK.out, FS.out, if_neg hc]
          by_cases h0 : firstC (cs.take k) = 0
          · rw [if_pos h0, h0]
          · rw [if_neg h0])
        have hA : Below wr.heap.size wr (wr.alloc (.cells #[.nilIface] 27)) := (Below.refl _ _).alloc (Nat.le_refl _) _
        have OW1 := Lib.hid (show OwnE (wr.alloc (.cells #[.nilIface] 27)) w.heap.size _ us from own_below' hoe.1 hA)
        have ES1 := Lib.hid (hoe.2.below hA)
        have B1 := hb.trans (hA.mono hb.size)
        have NE := Lib.hid (show ∀ w', EltIs w' c .nilIface from fun w' => by unfold EltIs; rw [if_neg hc])
        have T : decide (c < 1) = true ∨ (decide (c < 1) = false ∧ decide (15 < c) = true) := by
          simp only [decide_eq_true_eq, decide_eq_false_iff_not]
          omega
        clear hoe hc hA
        rcases T with t6 | ⟨t6, t7⟩
        all_goals
          go_wp2_with (at_builtin; refine wpList_append_err rfl _ _ rfl w.heap.size _ us rfl OW1.out ⟨wr.heap.size, 0, none⟩ .nilIface rfl (by simp) rfl (by omega) B1.size ?_)
          intro v3 w3 ho3 hg3
          have b3 := B1.trans (below_grown OW1.out hg3 (Nat.le_refl _) B1.size)
          have ES3 := Lib.hid (EltsIs.snoc (NE.out _) (ES1.out.grown OW1.out hg3))
          have HO3 := Lib.hid ho3
          clear ho3 hg3 xc
          go_wp2_with fail
          go_roundw
          case rel => exact ⟨k + 1, _, hlt, by go_num, by rw [HF.out], ⟨HO3.out, by rw [TK.out]; exact ES3.out⟩, b3⟩
          case measure => simp [intOf]; omega
    · have t5 : decide ((k : Int) < (cs.length : Int)) = false := by simp; omega
      obtain rfl : k = cs.length := by omega
      rw [List.take_length] at hoe ⊢
      have hel := hoe.2.ens.length
      have RD := Lib.hid (show Rd wr _ (cs.map eltE).length us by have h := Rd.of_own hoe.1; rw [hel] at h; exact h)
      have ES := Lib.hid hoe.2.ens
      have J := Lib.hid (FJoin_any (cs.map eltE) _ us wr RD.out ES.out (by rw [List.length_map]; omega))
      have FI := Lib.hid (fun w' (h : Below wr.heap.size wr w') => First_any (cs.map eltE) _ us w' (RD.out.below h) (ES.out.below h))
      rw [firstE_elt] at FI
      clear hoe hel
      by_cases hf : firstC cs = 0
      · rw [join_elt_none hf] at J
        rw [if_pos hf] at FI
        rw [hf]
        clear hf
        go_wp2_with fail
        refine J.out.mono ?_
        rintro e w1 ⟨je, rfl, j1, b1⟩
        obtain rfl : je = .nilIface := j1
        go_wp2_with fail
        refine (FI.out _ b1).mono ?_
        rintro e w2 ⟨fe, rfl, f2, rfl⟩
        obtain rfl : fe = .nilIface := f2
        have B1 := hb.trans (b1.mono hb.size)
        go_wp2_with fail
        refine (awake7_any _).mono ?_
        rintro e w5 ⟨rfl, b5⟩
        go_wp2_with fail
        go_ret
        exact ⟨rfl, B1.trans (b5.mono B1.size)⟩
      · rw [join_elt_some hf] at J
        rw [if_neg hf] at FI
        have hok := firstC_ok cs hf
        have t8 : (firstC cs == 0) = false := by simpa using hf
        have t9 : (firstC cs == firstC cs) = true := by simp
        have CD := Lib.hid (first_join hf)
        have IB := Lib.hid (fl_isB _ hok)
        have FL := Lib.hid (fl_some cs)
        have AN := Lib.hid (fun (k : Int) (h1 : 1 ≤ k) (h2 : k ≤ 15) => any_ok h1 h2 cs)
        clear hf
        generalize firstC cs = fc at *
        generalize (okC cs).map fl = fs at *
        go_wp2_with fail
        refine J.out.mono ?_
        rintro e w1 ⟨je, rfl, j1, b1⟩
        have J1 := Lib.hid j1
        clear j1
        go_wp2_with fail
        refine (FI.out _ b1).mono ?_
        rintro e w2 ⟨fe, rfl, f2, rfl⟩
        have F2 := Lib.hid (Er.en_is f2)
        have B1 := hb.trans (b1.mono hb.size)
        clear f2
        go_wp2_with fail
        go_loopw [8] (fun i wr => ∃ k : Nat, 1 ≤ k ∧ k ≤ 16 ∧ i = .int .i64 k ∧ w1 = wr) (fun i _ => 16 - (intOf i).toNat)
        case atStart => exact ⟨1, by omega, by omega, rfl, rfl⟩
        case round =>
          obtain ⟨k, k1, k2, rfl, rfl⟩ := hrel
          by_cases hk16 : k ≤ 15
          · have s1 : decide ((k : Int) ≤ 15) = true := by simp; omega
            go_wp2_with fail
            go_loopw [9, 10] (fun m i wr => ∃ q : Nat, q ≤ cs.length ∧ i = .int .i64 q ∧ m = .bool ((cs.take q).any fun c => c == (k : Int)) ∧ w1 = wr) (fun _ i _ => cs.length - (intOf i).toNat)
            case atStart => exact ⟨0, Nat.zero_le _, rfl, rfl, rfl⟩
            case round =>
              obtain ⟨q, hq, rfl, rfl, rfl⟩ := hrel
              by_cases hqt : q < cs.length
              · have s2 : decide ((q : Int) < (cs.length : Int)) = true := by simp; omega
                obtain ⟨g, off, rfl, hg0, hx⟩ := HI.out q hqt
                have xq := (B1.cell (p := ⟨g, off + q, none⟩) hg0).trans hx
                have j0 : (0 : Int) ≤ (q : Int) := by omega
                have j1 : (q : Int) < (cs.length : Int) := by omega
                have hst : (cs.take (q + 1)).any (fun c => c == (k : Int)) = ((cs.take q).any (fun c => c == (k : Int)) || (cs[q] == (k : Int))) := by
                  rw [List.take_succ_eq_append_getElem hqt, List.any_append]; simp
                have HS := Lib.hid hst
                clear hx hst
                generalize cs[q] = c at *
                generalize (cs.take q).any (fun c => c == (k : Int)) = m at *
                cases m with
                | true =>
                  go_wp2_with fail
                  go_roundw
                  case rel => exact ⟨q + 1, hqt, by go_num, by rw [HS.out]; rfl, trivial⟩
                  case measure => simp [intOf]; omega
                | false =>
                  go_wp2_with fail
                  go_roundw
                  case rel => exact ⟨q + 1, hqt, by go_num, by rw [HS.out]; rfl, trivial⟩
                  case measure => simp [intOf]; omega
              · have s2 : decide ((q : Int) < (cs.length : Int)) = false := by simp; omega
                obtain rfl : q = cs.length := by omega
                have IJ := Lib.hid (IsJ_any fs FL.out (k : Int) je w1 J1.out)
                rw [AN.out (k : Int) (by omega) (by omega)] at IJ
                rw [List.take_length]
                generalize cs.any (fun c => c == (k : Int)) = m at *
                have s3 : (m != m) = false := by cases m <;> rfl
                go_wp2_with fail
                refine IJ.out.mono ?_
                rintro e w3 ⟨rfl, rfl⟩
                go_wp2_with fail
                go_roundw
                case rel => exact ⟨k + 1, by omega, by omega, by go_num, trivial⟩
                case measure => simp [intOf]; omega
          · have s1 : decide ((k : Int) ≤ 15) = false := by simp; omega
            have IA := Lib.hid (IsA_any (fl fc) fc strX fc fe w1 F2.out (GT.out _ B1))
            rw [IB.out] at IA
            go_wp2_with fail
            refine IA.out.mono ?_
            rintro e w3 ⟨rfl, b3⟩
            have B3 := B1.trans (b3.mono B1.size)
            have CO := Lib.hid (Code_any _ je w3 (J1.out.below b3))
            rw [CD.out] at CO
            go_wp2_with fail
            refine CO.out.mono ?_
            rintro e w4 ⟨rfl, b4⟩
            have B4 := B3.trans (b4.mono B3.size)
            go_wp2_with fail
            refine (awake7_any _).mono ?_
            rintro e w5 ⟨rfl, b5⟩
            go_wp2_with fail
            go_ret
            exact ⟨rfl, B4.trans (b5.mono B4.size)⟩

set_option maxRecDepth 100000 in
theorem faultJoins_calls {H : Type} {enc : TypeId × Value → H} {W : World} {base : Nat} {v0 : Value} {d0 : DataW H} {p0 : List MemPlace} (hg : ErrT W)
    (o0 : Value.okWide Tryd.prog W .any base 23 v0) (h0 : DataW.Trod enc Tryd.prog W 0 (fun _ => true) true 23 v0 d0 p0) :
    Calls Tryd.prog 4 #[v0] W fun e w' => e = .returned (.bool true) ∧ Below W.heap.size W w' := by
  obtain ⟨cs, hi, hr⟩ := view_ints o0 h0
  by_cases h : 30 < cs.length
  · exact joins_out v0 cs W hi h
  · exact joins_in v0 cs W hg hi (by omega) hr
end Go.Proofs.YthijffpackkcnaaDoor
