/- slices.swapRangeCmpFunc, rotateCmpFunc at items with keys. -/
import Derived.Test.YtoggbmfjjenbaaaGreatDoorTw3
set_option linter.unusedSimpArgs false
set_option linter.unusedVariables false
namespace Go.Proofs.YtoggbmfjjenbaaaGreatDoor
open Go.RowKit

theorem swap_far {α : Type} (X Y Z : List α) (p q : α) : ((X ++ p :: (Y ++ q :: Z)).set X.length q).set (X.length + 1 + Y.length) p = X ++ q :: (Y ++ p :: Z) := by
  rw [List.set_append_right _ _ (Nat.le_refl _), Nat.sub_self, List.set_cons_zero, List.set_append_right _ _ (by omega), show X.length + 1 + Y.length - X.length = Y.length + 1 by omega, List.set_cons_succ, List.set_append_right _ _ (Nat.le_refl _), Nat.sub_self, List.set_cons_zero]
theorem get_far {α : Type} (X Y Z : List α) (p q : α) : (X ++ p :: (Y ++ q :: Z))[X.length + 1 + Y.length]? = some q := by
  rw [List.getElem?_append_right (by omega), show X.length + 1 + Y.length - X.length = Y.length + 1 by omega, List.getElem?_cons_succ, List.getElem?_append_right (Nat.le_refl _), Nat.sub_self]
  rfl
theorem swap_len {P U Q V S : List KdV} {k m : Nat} (hk : k < m) (hu : U.length = m) (hv : V.length = m) :
    ∃ X Y Z p q, P ++ (V.take k ++ U.drop k) ++ Q ++ (U.take k ++ V.drop k) ++ S = X ++ p :: (Y ++ q :: Z) ∧ P ++ (V.take (k + 1) ++ U.drop (k + 1)) ++ Q ++ (U.take (k + 1) ++ V.drop (k + 1)) ++ S = X ++ q :: (Y ++ p :: Z) ∧
      X.length = P.length + k ∧ X.length + 1 + Y.length = P.length + m + Q.length + k ∧ p ∈ U ∧ q ∈ V := by
  have h1 : U.drop k = U[k]'(by omega) :: U.drop (k + 1) := List.drop_eq_getElem_cons (by omega)
  have h2 : V.drop k = V[k]'(by omega) :: V.drop (k + 1) := List.drop_eq_getElem_cons (by omega)
  have h3 : U.take (k + 1) = U.take k ++ [U[k]'(by omega)] := List.take_succ_eq_append_getElem (by omega)
  have h4 : V.take (k + 1) = V.take k ++ [V[k]'(by omega)] := List.take_succ_eq_append_getElem (by omega)
  refine ⟨P ++ V.take k, U.drop (k + 1) ++ Q ++ U.take k, V.drop (k + 1) ++ S, U[k]'(by omega), V[k]'(by omega), ?_, ?_, ?_, ?_, List.getElem_mem _, List.getElem_mem _⟩
  · rw [h1, h2]; simp only [List.append_assoc, List.cons_append, List.nil_append]
  · rw [h3, h4]; simp only [List.append_assoc, List.cons_append, List.nil_append]
  · simp; omega
  · simp; omega

set_option maxRecDepth 100000 in
set_option maxHeartbeats 4000000 in
theorem swapR_any (P U Q V S : List KdV) (w : World) (B g cap n a b m : Nat) (ha : P.length = a) (hU : U.length = m) (hV : V.length = m) (hb : a + m + Q.length = b) (hn : n = (P ++ U ++ Q ++ V ++ S).length) (h : RowO w B g cap (P ++ U ++ Q ++ V ++ S))
    (hsU : ∀ x ∈ U, IsSl x.2) (hsV : ∀ x ∈ V, IsSl x.2) (hn2 : n ≤ 1000000) :
    Calls Tryz.prog 80 #[.slice (some ⟨g, 0, none⟩) n cap, .int .i64 a, .int .i64 b, .int .i64 m, cmpV] w fun e w' => e = .returned (.tuple #[]) ∧ RowO w' B g cap (P ++ V ++ Q ++ U ++ S) ∧ OnlG g w w' := by
  have hlen : b + m + S.length = n := by rw [hn]; simp; omega
  have HW := Lib.hid h
  have HA := Lib.hid ha
  have HU := Lib.hid hU
  have HV := Lib.hid hV
  have HB := Lib.hid hb
  have HN := Lib.hid hn
  have HSU := Lib.hid hsU
  have HSV := Lib.hid hsV
  have hab : a + m ≤ b := by omega
  clear ha hU hV hb hn h hsU hsV
  unfold cmpV
  go_enter Tryz.func80, Tryz.ntmps80
  go_wp2_with fail
  go_loopw [10] (fun i wr => ∃ k : Nat, k ≤ m ∧ i = .int .i64 k ∧ RowO wr B g cap (P ++ (V.take k ++ U.drop k) ++ Q ++ (U.take k ++ V.drop k) ++ S) ∧ OnlG g w wr) (fun i _ => m - (intOf i).toNat)
  case atStart => exact ⟨0, Nat.zero_le _, rfl, by simpa using HW.out, OnlG.refl _ _⟩
  case round =>
    obtain ⟨k, hk, rfl, hr, ho⟩ := hrel
    by_cases hlt : k < m
    · have t1 : decide ((k : Int) < (m : Int)) = true := by simp; omega
      obtain ⟨X, Y, Z, p, q, e1, e2, l1, l2, hp, hq⟩ := swap_len (P := P) (Q := Q) (S := S) hlt HU.out HV.out
      have hsp := HSU.out p hp
      have hsq := HSV.out q hq
      rw [e1] at hr
      have hlv : (X ++ p :: (Y ++ q :: Z)).length = n := by
        have := HN.out
        have hu := HU.out
        have hv := HV.out
        rw [← e1, this]
        simp
        omega
      obtain ⟨I1, hI1⟩ : ∃ I1, I1 = X.length := ⟨_, rfl⟩
      obtain ⟨I2, hI2⟩ : ∃ I2, I2 = X.length + 1 + Y.length := ⟨_, rfl⟩
      have q1 : (a : Int) + (k : Int) = (I1 : Int) := by have := HA.out; omega
      have q2 : (b : Int) + (k : Int) = (I2 : Int) := by have := HA.out; have := HB.out; omega
      have j1 : I1 < n ∧ I2 < n := by omega
      have gx : (X ++ p :: (Y ++ q :: Z))[I1]? = some p := by rw [hI1]; simp
      have gy : (X ++ p :: (Y ++ q :: Z))[I2]? = some q := by rw [hI2]; exact get_far _ _ _ _ _
      have hset : ((X ++ p :: (Y ++ q :: Z)).set I1 q).set I2 p = P ++ (V.take (k + 1) ++ U.drop (k + 1)) ++ Q ++ (U.take (k + 1) ++ V.drop (k + 1)) ++ S := by
        rw [e2, hI1, hI2]
        exact swap_far _ _ _ _ _
      have w1 : IntKind.i64.wrap (I1 : Int) = (I1 : Int) := IntWalk.i64_in _ (by omega)
      have w2 : IntKind.i64.wrap (I2 : Int) = (I2 : Int) := IntWalk.i64_in _ (by omega)
      have i1 : (I1 : Int) < (n : Int) := by omega
      have i2 : (I2 : Int) < (n : Int) := by omega
      have carry : RowO wr.drew B g cap (X ++ p :: (Y ++ q :: Z)) ∧ OnlG g w wr.drew := ⟨hr.drew, ho.drew⟩
      have HGX := Lib.hid gx
      have HGY := Lib.hid gy
      have HST := Lib.hid hset
      have HLV := Lib.hid hlv
      clear e1 e2 l1 l2 hp hq hr ho gx gy hset hlv hI1 hI2
      generalize X ++ p :: (Y ++ q :: Z) = rr at *
      go_wp2_with fail
      refine wp_region_noPanic ?_
      refine wp_region_held_drew (S := fun _ => True) (by kernel_rfl) (trivial) (fun hHeld => ?_)
      generalize wr.drew = D at hHeld carry ⊢
      have kc := hHeld
      refine wpAnyH_take (i := 0) (oi := ⟨some 16, _, _, _, _, _⟩) (v := ?qv0sw) rfl (by kernel_rfl) (by kernel_rfl) (by kernel_rfl) (fun _ _ _ h => h) (Or.inl ⟨by rfl, ?qy0sw⟩) hHeld ?qr0sw
      case qy0sw => (intro w' hSw; go_simp; try with_reducible rfl)
      try simp only [Act.put, List.setIfInBounds_toArray, List.set_cons_zero, List.set_cons_succ]
      refine wpAnyH_take (i := 1) (oi := ⟨some 17, _, _, _, _, _⟩) (v := ?qv1sw) rfl (by kernel_rfl) (by kernel_rfl) (by kernel_rfl) (fun _ _ _ h => h) (Or.inl ⟨by rfl, ?qy1sw⟩) hHeld ?qr1sw
      case qy1sw => (intro w' hSw; go_simp; try with_reducible rfl)
      try simp only [Act.put, List.setIfInBounds_toArray, List.set_cons_zero, List.set_cons_succ]
      refine wpAnyH_take (i := 2) (oi := ⟨some 18, _, _, _, _, _⟩) (v := ?qv2sw) rfl (by kernel_rfl) (by kernel_rfl) (by kernel_rfl) (fun _ _ _ h => h) (Or.inl ⟨by rfl, ?qy2sw⟩) hHeld ?qr2sw
      case qy2sw => (intro w' hSw; go_simp; try with_reducible rfl)
      try simp only [Act.put, List.setIfInBounds_toArray, List.set_cons_zero, List.set_cons_succ]
      refine wpAnyH_take (i := 3) (oi := ⟨some 19, _, _, _, _, _⟩) (v := ?qv3sw) rfl (by kernel_rfl) (by kernel_rfl) (by kernel_rfl) (fun _ _ _ h => h) (Or.inl ⟨by rfl, ?qy3sw⟩) hHeld ?qr3sw
      case qy3sw => (intro w' hSw; go_simp; try with_reducible rfl)
      try simp only [Act.put, List.setIfInBounds_toArray, List.set_cons_zero, List.set_cons_succ]
      refine wpAnyH_take (i := 4) (oi := ⟨some 20, _, _, _, _, _⟩) (v := ?qv4sw) rfl (by kernel_rfl) (by kernel_rfl) (by kernel_rfl) (fun _ _ _ h => h) (Or.inl ⟨by rfl, ?qy4sw⟩) hHeld ?qr4sw
      case qy4sw => (intro w' hSw; go_simp; try with_reducible rfl)
      try simp only [Act.put, List.setIfInBounds_toArray, List.set_cons_zero, List.set_cons_succ]
      refine wpAnyH_take (i := 5) (oi := ⟨some 21, _, _, _, _, _⟩) (v := ?qv5sw) rfl (by kernel_rfl) (by kernel_rfl) (by kernel_rfl) (fun _ _ _ h => h) (Or.inl ⟨by rfl, ?qy5sw⟩) hHeld ?qr5sw
      case qy5sw => (intro w' hSw; go_simp; try with_reducible rfl)
      try simp only [Act.put, List.setIfInBounds_toArray, List.set_cons_zero, List.set_cons_succ]
      refine wpAnyH_take (i := 6) (oi := ⟨some 22, _, _, _, _, _⟩) (v := ?qv6sw) rfl (by kernel_rfl) (by kernel_rfl) (by kernel_rfl) (fun _ _ _ h => h) (Or.inl ⟨by rfl, ?qy6sw⟩) hHeld ?qr6sw
      case qy6sw => (intro w' hSw; go_simp; try with_reducible rfl)
      try simp only [Act.put, List.setIfInBounds_toArray, List.set_cons_zero, List.set_cons_succ]
      refine wpAnyH_take (i := 7) (oi := ⟨some 23, _, _, _, _, _⟩) (v := ?qv7sw) rfl (by kernel_rfl) (by kernel_rfl) (by kernel_rfl) (fun _ _ _ h => h) (Or.inl ⟨by rfl, ?qy7sw⟩) hHeld ?qr7sw
      case qy7sw => (intro w' hSw; go_simp; try with_reducible rfl)
      try simp only [Act.put, List.setIfInBounds_toArray, List.set_cons_zero, List.set_cons_succ]
      refine wpAnyH_take (i := 8) (oi := ⟨some 24, _, _, _, _, _⟩) (v := ?qv8sw) rfl (by kernel_rfl) (by kernel_rfl) (by kernel_rfl) (fun _ _ _ h => h) (Or.inl ⟨by rfl, ?qy8sw⟩) hHeld ?qr8sw
      case qy8sw => (intro w' hSw; go_simp; try with_reducible rfl)
      try simp only [Act.put, List.setIfInBounds_toArray, List.set_cons_zero, List.set_cons_succ]
      refine wpAnyH_take (i := 9) (oi := ⟨some 25, _, _, _, _, _⟩) (v := ?qv9sw) rfl (by kernel_rfl) (by kernel_rfl) (by kernel_rfl) (fun _ _ _ h => h) (Or.inl ⟨by rfl, ?qy9sw⟩) hHeld ?qr9sw
      case qy9sw => (intro w' hSw; go_simp; try with_reducible rfl)
      try simp only [Act.put, List.setIfInBounds_toArray, List.set_cons_zero, List.set_cons_succ]
      refine wpAnyH_take (i := 10) (oi := ⟨some 26, _, _, _, _, _⟩) (v := ?qv10sw) rfl (by kernel_rfl) (by kernel_rfl) (by kernel_rfl) (fun _ _ _ h => h) (Or.inl ⟨by rfl, ?qy10sw⟩) hHeld ?qr10sw
      case qy10sw => (intro w' hSw; go_simp; try with_reducible rfl)
      try simp only [Act.put, List.setIfInBounds_toArray, List.set_cons_zero, List.set_cons_succ]
      refine wpAnyH_take (i := 11) (oi := ⟨some 27, _, _, _, _, _⟩) (v := ?qv11sw) rfl (by kernel_rfl) (by kernel_rfl) (by kernel_rfl) (fun _ _ _ h => h) (Or.inl ⟨by rfl, ?qy11sw⟩) hHeld ?qr11sw
      case qy11sw => (intro w' hSw; go_simp; try with_reducible rfl)
      try simp only [Act.put, List.setIfInBounds_toArray, List.set_cons_zero, List.set_cons_succ]
      refine wpAnyH_take (i := 12) (oi := ⟨some 28, _, _, _, _, _⟩) (v := ?qv12sw) rfl (by kernel_rfl) (by kernel_rfl) (by kernel_rfl) (fun _ _ _ h => h) (Or.inl ⟨by rfl, ?qy12sw⟩) hHeld ?qr12sw
      case qy12sw => (intro w' hSw; go_simp; try with_reducible rfl)
      try simp only [Act.put, List.setIfInBounds_toArray, List.set_cons_zero, List.set_cons_succ]
      refine wpAnyH_take (i := 14) (oi := ⟨some 30, _, _, _, _, _⟩) (v := ?qv14sw) rfl (by kernel_rfl) (by kernel_rfl) (by kernel_rfl) (fun _ _ _ h => h) (Or.inl ⟨by rfl, ?qy14sw⟩) hHeld ?qr14sw
      case qy14sw => (intro w' hSw; go_simp; try with_reducible rfl)
      try simp only [Act.put, List.setIfInBounds_toArray, List.set_cons_zero, List.set_cons_succ]
      refine wpAnyH_take (i := 15) (oi := ⟨some 31, _, _, _, _, _⟩) (v := ?qv15sw) rfl (by kernel_rfl) (by kernel_rfl) (by kernel_rfl) (fun _ _ _ h => h) (Or.inl ⟨by rfl, ?qy15sw⟩) hHeld ?qr15sw
      case qy15sw => (intro w' hSw; go_simp; try with_reducible rfl)
      try simp only [Act.put, List.setIfInBounds_toArray, List.set_cons_zero, List.set_cons_succ]
      refine wpAnyH_take (i := 16) (oi := ⟨some 32, _, _, _, _, _⟩) (v := ?qv16sw) rfl (by kernel_rfl) (by kernel_rfl) (by kernel_rfl) (fun _ _ _ h => h) (Or.inl ⟨by rfl, ?qy16sw⟩) hHeld ?qr16sw
      case qy16sw => (intro w' hSw; go_simp; try with_reducible rfl)
      try simp only [Act.put, List.setIfInBounds_toArray, List.set_cons_zero, List.set_cons_succ]
      refine wpAnyH_take (i := 17) (oi := ⟨some 33, _, _, _, _, _⟩) (v := ?qv17sw) rfl (by kernel_rfl) (by kernel_rfl) (by kernel_rfl) (fun _ _ _ h => h) (Or.inl ⟨by rfl, ?qy17sw⟩) hHeld ?qr17sw
      case qy17sw => (intro w' hSw; go_simp; try with_reducible rfl)
      try simp only [Act.put, List.setIfInBounds_toArray, List.set_cons_zero, List.set_cons_succ]
      refine wpAnyH_take (i := 18) (oi := ⟨some 34, _, _, _, _, _⟩) (v := ?qv18sw) rfl (by kernel_rfl) (by kernel_rfl) (by kernel_rfl) (fun _ _ _ h => h) (Or.inl ⟨by rfl, ?qy18sw⟩) hHeld ?qr18sw
      case qy18sw => (intro w' hSw; go_simp; try with_reducible rfl)
      try simp only [Act.put, List.setIfInBounds_toArray, List.set_cons_zero, List.set_cons_succ]
      refine wpAnyH_load2 (i := 13) (j := 19) (oi := ⟨some 29, _, _, _, _, _⟩) (oj := ⟨some 35, _, _, _, _, _⟩) (vi := ?vi13sw) (vj := ?vj19sw) rfl rfl (by decide) (by kernel_rfl) (by kernel_rfl) (by kernel_rfl) (Or.inl ⟨by rfl, ?yasw⟩) (Or.inl ⟨by rfl, ?ybsw⟩) (Or.inl ⟨by rfl, ?ycsw⟩) (Or.inl ⟨by rfl, ?ydsw⟩) ?yesw hHeld ?yfsw
      case yasw => (intro w' hSw; subst hSw; obtain ⟨x0, x1, x2, x3⟩ := carry.1.cells HGX.out; obtain ⟨y0, y1, y2, y3⟩ := carry.1.cells HGY.out; go_simp; try with_reducible rfl)
      case ybsw => (intro w' hSw; subst hSw; obtain ⟨x0, x1, x2, x3⟩ := carry.1.cells HGX.out; obtain ⟨y0, y1, y2, y3⟩ := carry.1.cells HGY.out; go_simp; try with_reducible rfl)
      case ycsw => (intro w' hSw; subst hSw; obtain ⟨x0, x1, x2, x3⟩ := carry.1.cells HGX.out; obtain ⟨y0, y1, y2, y3⟩ := carry.1.cells HGY.out; go_simp; try with_reducible rfl)
      case ydsw => (intro w' hSw; subst hSw; obtain ⟨x0, x1, x2, x3⟩ := carry.1.cells HGX.out; obtain ⟨y0, y1, y2, y3⟩ := carry.1.cells HGY.out; go_simp; try with_reducible rfl)
      case yesw => rfl
      try simp only [Act.put, List.setIfInBounds_toArray, List.set_cons_zero, List.set_cons_succ]
      refine wpAnyH_take (i := 20) (oi := ⟨some 36, _, _, _, _, _⟩) (v := ?qv20sw) rfl (by kernel_rfl) (by kernel_rfl) (by kernel_rfl) (fun _ _ _ h => h) (Or.inl ⟨by rfl, ?qy20sw⟩) hHeld ?qr20sw
      case qy20sw => (intro w' hSw; go_simp; try with_reducible rfl)
      try simp only [Act.put, List.setIfInBounds_toArray, List.set_cons_zero, List.set_cons_succ]
      refine wpAnyH_ready (rs := [21]) (by kernel_rfl) (by simp) ?_
      refine AllReadyH.cons (o := ⟨none, _, _, _, _, _⟩) rfl (fun K hK => ?_) AllReadyH.nil
      refine step_store_kd (by rfl) _ _ (by rfl) B g cap I1 _ q (by rfl) (by rfl) hsq carry.1 (by rw [HLV.out]; exact j1.1) ?_
      intro w6 R6 O6
      refine hK.out _ _ trivial (fun hHeld => ?_)
      clear hK K
      try simp only [Act.put, List.setIfInBounds_toArray, List.set_cons_zero, List.set_cons_succ]
      refine wpAnyH_take (i := 22) (oi := ⟨some 37, _, _, _, _, _⟩) (v := ?qv22sw) rfl (by kernel_rfl) (by kernel_rfl) (by kernel_rfl) (fun _ _ _ h => h) (Or.inl ⟨by rfl, ?qy22sw⟩) hHeld ?qr22sw
      case qy22sw => (intro w' hSw; go_simp; try with_reducible rfl)
      try simp only [Act.put, List.setIfInBounds_toArray, List.set_cons_zero, List.set_cons_succ]
      refine wpAnyH_ready (rs := [23]) (by kernel_rfl) (by simp) ?_
      refine AllReadyH.cons (o := ⟨none, _, _, _, _, _⟩) rfl (fun K hK => ?_) AllReadyH.nil
      refine step_store_kd (by rfl) _ _ (by rfl) B g cap I2 _ p (by rfl) (by rfl) hsp R6 (by rw [List.length_set, HLV.out]; exact j1.2) ?_
      intro w7 R7 O7
      refine hK.out _ _ trivial (fun hHeld => ?_)
      clear hK K
      try simp only [Act.put, List.setIfInBounds_toArray, List.set_cons_zero, List.set_cons_succ]
      refine wpAnyH_done (by kernel_rfl) ?_ _
      refine NoPanic.normal ?_
      have R8 := Lib.hid (show RowO w7 B g cap (P ++ (V.take (k + 1) ++ U.drop (k + 1)) ++ Q ++ (U.take (k + 1) ++ V.drop (k + 1)) ++ S) by rw [← HST.out]; exact R7)
      have O8 := Lib.hid ((carry.2.trans O6).trans O7)
      clear carry R6 O6 R7 O7 hHeld kc
      go_wp2_with fail
      go_roundw
      case rel => exact ⟨k + 1, hlt, by go_num, R8.out, O8.out⟩
      case measure => simp [intOf]; omega
    · obtain rfl : k = m := by omega
      have t1 : decide ((k : Int) < (k : Int)) = false := by simp
      have FIN := Lib.hid (show RowO wr B g cap (P ++ V ++ Q ++ U ++ S) ∧ OnlG g w wr from ⟨by
        have hu := HU.out
        have hv := HV.out
        rw [List.take_of_length_le (by omega), List.take_of_length_le (by omega), List.drop_eq_nil_of_le (by omega), List.drop_eq_nil_of_le (by omega), List.append_nil, List.append_nil] at hr
        exact hr, ho⟩)
      clear hr ho
      go_wp2_with fail
      go_end0
      exact ⟨rfl, FIN.out⟩

/-! ### two rows beside each other are exchanged -/
set_option maxRecDepth 100000 in
set_option maxHeartbeats 4000000 in
theorem rot_any (A X Y C : List KdV) (w : World) (B g cap n a m b : Nat) (ha : A.length = a) (hX : a + X.length = m) (hY : m + Y.length = b) (h1 : a < m) (h2 : m < b) (hn : n = (A ++ X ++ Y ++ C).length) (h : RowO w B g cap (A ++ X ++ Y ++ C))
    (hsX : ∀ x ∈ X, IsSl x.2) (hsY : ∀ x ∈ Y, IsSl x.2) (hn2 : n ≤ 1000000) :
    Calls Tryz.prog 75 #[.slice (some ⟨g, 0, none⟩) n cap, .int .i64 a, .int .i64 m, .int .i64 b, cmpV] w fun e w' => e = .returned (.tuple #[]) ∧ RowO w' B g cap (A ++ Y ++ X ++ C) ∧ OnlG g w w' := by
  have hlen : b + C.length = n := by rw [hn]; simp; omega
  have HW := Lib.hid h
  have HA := Lib.hid ha
  have HX := Lib.hid hX
  have HY := Lib.hid hY
  have HN := Lib.hid hn
  have HSX := Lib.hid hsX
  have HSY := Lib.hid hsY
  clear ha hX hY hn h hsX hsY
  unfold cmpV
  go_enter Tryz.func75, Tryz.ntmps75
  go_wp2_with fail
  go_loopw [10, 11] (fun i j wr => ∃ (I J : Nat) (P X' Y' S : List KdV), i = .int .i64 I ∧ j = .int .i64 J ∧ 1 ≤ I ∧ 1 ≤ J ∧ I ≤ m ∧ P.length + I = m ∧ X'.length = I ∧ Y'.length = J ∧ (∀ x ∈ X', IsSl x.2) ∧ (∀ x ∈ Y', IsSl x.2) ∧
    P ++ Y' ++ X' ++ S = A ++ Y ++ X ++ C ∧ RowO wr B g cap (P ++ X' ++ Y' ++ S) ∧ OnlG g w wr) (fun i j _ => (intOf i).toNat + (intOf j).toNat)
  case atStart => exact ⟨m - a, b - m, A, X, Y, C, by go_num, by go_num, by omega, by omega, by omega, by have := HA.out; omega, by have := HX.out; omega, by have := HY.out; omega, HSX.out, HSY.out, rfl, HW.out, OnlG.refl _ _⟩
  case round =>
    obtain ⟨I, J, P, X', Y', S, rfl, rfl, hI1, hJ1, hIm, hP, hX', hY', hsX', hsY', he, hr, ho⟩ := hrel
    have hlt : P.length + I + J + S.length = n := by
      have := congrArg List.length he
      have hN := HN.out
      simp at this hN
      have := HA.out; have := HX.out; have := HY.out
      omega
    have hn' : n = (P ++ X' ++ Y' ++ S).length := by simp; omega
    have GO := Lib.hid (show ∀ (I1 J1 : Nat) (P1 X1 Y1 S1 : List KdV) w', 1 ≤ I1 → 1 ≤ J1 → I1 ≤ m → P1.length + I1 = m → X1.length = I1 → Y1.length = J1 → (∀ x ∈ X1, IsSl x.2) → (∀ x ∈ Y1, IsSl x.2) → P1 ++ Y1 ++ X1 ++ S1 = P ++ Y' ++ X' ++ S → RowO w' B g cap (P1 ++ X1 ++ Y1 ++ S1) → OnlG g wr w' →
        ∃ (I J : Nat) (P X' Y' S : List KdV), Value.int .i64 (I1 : Int) = .int .i64 I ∧ Value.int .i64 (J1 : Int) = .int .i64 J ∧ 1 ≤ I ∧ 1 ≤ J ∧ I ≤ m ∧ P.length + I = m ∧ X'.length = I ∧ Y'.length = J ∧ (∀ x ∈ X', IsSl x.2) ∧ (∀ x ∈ Y', IsSl x.2) ∧
          P ++ Y' ++ X' ++ S = A ++ Y ++ X ++ C ∧ RowO w' B g cap (P ++ X' ++ Y' ++ S) ∧ OnlG g w w' from fun I1 J1 P1 X1 Y1 S1 w' a1 a2 a3 a4 a5 a6 a7 a8 a9 a10 a11 =>
      ⟨I1, J1, P1, X1, Y1, S1, rfl, rfl, a1, a2, a3, a4, a5, a6, a7, a8, a9.trans he, a10, ho.trans a11⟩)
    have HE := Lib.hid he
    have HO := Lib.hid ho
    obtain ⟨p, hp⟩ : ∃ p : Nat, p = P.length := ⟨_, rfl⟩
    have q1 : (m : Int) - (I : Int) = (p : Int) := by omega
    have w1 : IntKind.i64.wrap (p : Int) = (p : Int) := IntWalk.i64_in _ (by omega)
    have HPL := Lib.hid hp
    rcases Nat.lt_trichotomy I J with hij | hij | hij
    · -- the first goes to the end
      have t1 : ((I : Int) != (J : Int)) = true := by simp; omega
      have t2 : decide ((J : Int) < (I : Int)) = false := by simp; omega
      obtain ⟨K, hK⟩ : ∃ K, K + I = J := ⟨J - I, by omega⟩
      obtain ⟨M, hM⟩ : ∃ M, M = m + K := ⟨_, rfl⟩
      have hl1 : (Y'.take K).length = K := by rw [List.length_take]; omega
      have hl2 : (Y'.drop K).length = I := by rw [List.length_drop]; omega
      have hY1 := List.take_append_drop K Y'
      have hs1 : ∀ x ∈ Y'.take K, IsSl x.2 := fun x hx => hsY' x (List.mem_of_mem_take hx)
      have hs2 : ∀ x ∈ Y'.drop K, IsSl x.2 := fun x hx => hsY' x (List.mem_of_mem_drop hx)
      generalize Y'.take K = Ya at *
      generalize Y'.drop K = Yb at *
      subst hY1
      have e1 : P ++ X' ++ Ya ++ Yb ++ S = P ++ X' ++ (Ya ++ Yb) ++ S := by simp only [List.append_assoc]
      have SR := Lib.hid (swapR_any P X' Ya Yb S wr B g cap n p M I hp.symm hX' hl2 (by omega) (by rw [hn', e1]) (by rw [e1]; exact hr) hsX' hs2 hn2)
      have q2 : (m : Int) + (J : Int) - (I : Int) = (M : Int) := by omega
      have q3 : (J : Int) - (I : Int) = (K : Int) := by omega
      have FIN := Lib.hid (fun w' (r1 : RowO w' B g cap (P ++ Yb ++ Ya ++ X' ++ S)) o1 => GO.out I K P Yb Ya (X' ++ S) w' hI1 (by omega) hIm hP hl2 hl1 hs2 hs1 (by simp only [List.append_assoc]) (by rw [← List.append_assoc (P ++ Yb ++ Ya)]; exact r1) o1)
      clear hr ho he GO e1 hX' hl1 hl2 hn' hs1 hs2 hsX' hsY' hY' hP hp hM hK
      go_wp2_with fail
      refine SR.out.mono ?_
      rintro e w2 ⟨rfl, r2, o2⟩
      have R2 := Lib.hid r2
      have O2 := Lib.hid o2
      clear r2 o2 SR
      go_wp2_with fail
      go_roundw
      case rel => exact FIN.out _ R2.out O2.out
      case measure => simp [intOf]; omega
    · -- both as long
      subst hij
      have t1 : ((I : Int) != (I : Int)) = false := by simp
      have SR := Lib.hid (swapR_any P X' [] Y' S wr B g cap n p m I hp.symm hX' hY' (by simp; omega) (by rw [hn']; simp) (by simpa using hr) hsX' hsY' hn2)
      clear hr ho he GO hX' hn' hsX' hsY' hY' hP hp
      go_wp2_with fail
      refine SR.out.mono ?_
      rintro e w2 ⟨rfl, r2, o2⟩
      have FIN := Lib.hid (show RowO w2 B g cap (A ++ Y ++ X ++ C) ∧ OnlG g w w2 from ⟨by rw [← HE.out]; simpa using r2, HO.out.trans o2⟩)
      clear r2 o2 SR
      go_wp2_with fail
      go_end0
      exact ⟨rfl, FIN.out⟩
    · -- the second goes to the front
      have t1 : ((I : Int) != (J : Int)) = true := by simp; omega
      have t2 : decide ((J : Int) < (I : Int)) = true := by simp; omega
      obtain ⟨K, hK⟩ : ∃ K, K + J = I := ⟨I - J, by omega⟩
      have hl1 : (X'.take J).length = J := by rw [List.length_take]; omega
      have hl2 : (X'.drop J).length = K := by rw [List.length_drop]; omega
      have hY1 := List.take_append_drop J X'
      have hs1 : ∀ x ∈ X'.take J, IsSl x.2 := fun x hx => hsX' x (List.mem_of_mem_take hx)
      have hs2 : ∀ x ∈ X'.drop J, IsSl x.2 := fun x hx => hsX' x (List.mem_of_mem_drop hx)
      generalize X'.take J = Xa at *
      generalize X'.drop J = Xb at *
      subst hY1
      have e1 : P ++ Xa ++ Xb ++ Y' ++ S = P ++ (Xa ++ Xb) ++ Y' ++ S := by simp only [List.append_assoc]
      have SR := Lib.hid (swapR_any P Xa Xb Y' S wr B g cap n p m J hp.symm hl1 hY' (by omega) (by rw [hn', e1]) (by rw [e1]; exact hr) hs1 hsY' hn2)
      have q3 : (I : Int) - (J : Int) = (K : Int) := by omega
      have FIN := Lib.hid (fun w' (r1 : RowO w' B g cap (P ++ Y' ++ Xb ++ Xa ++ S)) o1 => GO.out K J (P ++ Y') Xb Xa S w' (by omega) hJ1 (by omega) (by rw [List.length_append]; omega) hl2 hl1 hs2 hs1 (by simp only [List.append_assoc]) r1 o1)
      clear hr ho he GO e1 hX' hl1 hl2 hn' hs1 hs2 hsX' hsY' hY' hP hp hK
      go_wp2_with fail
      refine SR.out.mono ?_
      rintro e w2 ⟨rfl, r2, o2⟩
      have R2 := Lib.hid r2
      have O2 := Lib.hid o2
      clear r2 o2 SR
      go_wp2_with fail
      go_roundw
      case rel => exact FIN.out _ R2.out O2.out
      case measure => simp [intOf]; omega
end Go.Proofs.YtoggbmfjjenbaaaGreatDoor
