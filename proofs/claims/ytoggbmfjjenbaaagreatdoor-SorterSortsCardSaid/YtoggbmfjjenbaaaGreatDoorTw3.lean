/- slices.insertionSortCmpFunc at items with keys. -/
import Derived.Test.YtoggbmfjjenbaaaGreatDoorTw2

import Derived.BigQuiet
import Derived.Deep.QuietTactic
set_option linter.unusedSimpArgs false
set_option linter.unusedVariables false
namespace Go.Proofs.YtoggbmfjjenbaaaGreatDoor
open Go.RowKit

/-- the comparison, by value -/
def cmpV : Value := .func (.func 32) #[] #[]
abbrev vals (D : List Rk) : List KdV := D.map Prod.fst
abbrev AllSl (D : List Rk) : Prop := ∀ x ∈ D, IsSl x.1.2
theorem swap_adj {α : Type} (U V : List α) (p q : α) : ((U ++ p :: q :: V).set (U.length + 1) p).set U.length q = U ++ q :: p :: V := by
  rw [List.set_append_right _ _ (by omega), Nat.add_sub_cancel_left, List.set_append_right _ _ (Nat.le_refl _), Nat.sub_self]
  rfl
theorem vals_get {A C : List Rk} {x : Rk} : (vals (A ++ x :: C))[A.length]? = some x.1 := by simp [vals]

set_option maxRecDepth 100000 in
set_option maxHeartbeats 4000000 in
theorem ins_any (A L C : List Rk) (w : World) (B g cap n a b : Nat) (ha : A.length = a) (hm : a + L.length = b) (hn : n = (A ++ L ++ C).length) (h : RowO w B g cap (vals (A ++ L ++ C))) (hs : AllSl L) (hL : Rise L) (hb : n ≤ 1000000) :
    Calls Tryz.prog 65 #[.slice (some ⟨g, 0, none⟩) n cap, .int .i64 a, .int .i64 b, cmpV] w fun e w' =>
      e = .returned (.tuple #[]) ∧ ∃ L', L'.Perm L ∧ Srt L' ∧ RowO w' B g cap (vals (A ++ L' ++ C)) ∧ OnlG g w w' := by
  have hlen : b + C.length = n := by rw [hn, ← hm, ← ha]; simp; omega
  have hab : a ≤ b := by omega
  have HW := Lib.hid h
  have HS := Lib.hid hs
  have HL := Lib.hid hL
  have HA := Lib.hid ha
  have HM := Lib.hid hm
  clear ha hn h hs hL hm
  unfold cmpV
  go_enter Tryz.func65, Tryz.ntmps65
  go_wp2_with fail
  go_loopw [8] (fun i wr => ∃ (k I : Nat) (S : List Rk), I = a + k ∧ 1 ≤ k ∧ I ≤ b + 1 ∧ i = .int .i64 I ∧ S.Perm (L.take k) ∧ Srt S ∧ RowO wr B g cap (vals (A ++ S ++ L.drop k ++ C)) ∧ OnlG g w wr) (fun i _ => b + 1 - (intOf i).toNat)
  case atStart =>
    refine ⟨1, a + 1, L.take 1, rfl, by omega, by have := HM.out; omega, by go_num, List.Perm.refl _, ?_, ?_, OnlG.refl _ _⟩
    · match L with
      | [] => exact List.Pairwise.nil
      | [x] => exact List.pairwise_singleton _ _
      | x :: y :: l => exact List.pairwise_singleton _ _
    · rw [List.append_assoc A, List.take_append_drop]
      exact HW.out
  case round =>
    obtain ⟨k, I, S, hI, hk1, hk2, rfl, hp, hso, hr, ho⟩ := hrel
    by_cases hlt : I < b
    · have t1 : decide ((I : Int) < (b : Int)) = true := by simp; omega
      have hkl : k < L.length := by have := HM.out; omega
      have hdk : L.drop k = L[k] :: L.drop (k + 1) := List.drop_eq_getElem_cons hkl
      have htk : L.take (k + 1) = L.take k ++ [L[k]] := List.take_succ_eq_append_getElem hkl
      have hsx := HS.out _ (List.getElem_mem hkl)
      have hrk : ∀ y ∈ S, y.2 < L[k].2 := fun y hy => by
        obtain ⟨i, hi, hy'⟩ := mem_take_get (hp.mem_iff.1 hy)
        obtain ⟨hi', rfl⟩ := List.getElem?_eq_some_iff.1 hy'
        exact List.pairwise_iff_getElem.1 HL.out i k hi' hkl hi
      have hSl : S.length = k := by rw [hp.length_eq, List.length_take]; omega
      have hsS : ∀ y ∈ S, IsSl y.1.2 := fun y hy => HS.out y (List.mem_of_mem_take (hp.mem_iff.1 hy))
      rw [hdk] at hr
      generalize L[k] = x at *
      have HDK := Lib.hid hdk
      have HTK := Lib.hid htk
      have HP := Lib.hid hp
      have HRK := Lib.hid hrk
      have HSS := Lib.hid hsS
      have HSX := Lib.hid hsx
      have HSO := Lib.hid hso
      have HR := Lib.hid (show RowO wr B g cap (vals (A ++ S ++ x :: ([] ++ L.drop (k + 1) ++ C))) by simpa using hr)
      have HSl := Lib.hid hSl
      have HO := Lib.hid ho
      have HI := Lib.hid hI
      clear hdk htk hp hrk hsS hsx hso hr hSl ho hI hkl
      go_wp2_with fail
      go_loopw [9] (fun j wr2 => ∃ (P Q : List Rk) (J : Nat), J = a + P.length ∧ S = P ++ Q ∧ j = .int .i64 J ∧ RowO wr2 B g cap (vals (A ++ P ++ x :: (Q ++ L.drop (k + 1) ++ C))) ∧ (∀ z ∈ Q, ltK x.1.1 z.1.1 = true) ∧ OnlG g w wr2) (fun j _ => (intOf j).toNat)
      case atStart => exact ⟨S, [], I, by rw [HSl.out]; exact HI.out, by simp, rfl, HR.out, fun z hz => (by cases hz), HO.out⟩
      case round =>
        obtain ⟨P, Q, J, hJ, hPQ, rfl, hr, hQ, ho⟩ := hrel
        have hPS : P.length ≤ S.length := by rw [hPQ]; simp
        have hJb : J < b := by have := HSl.out; have := HI.out; omega
        have HPQ := Lib.hid hPQ
        have HQ := Lib.hid hQ
        have HO2 := Lib.hid ho
        have hgl := hr.lt
        have FIN := Lib.hid (show ∀ w', RowO w' B g cap (vals (A ++ P ++ x :: (Q ++ L.drop (k + 1) ++ C))) → OnlG g w w' → (∀ y ∈ P, tle y x) → ∃ (k' I' : Nat) (S' : List Rk), I' = a + k' ∧ 1 ≤ k' ∧ I' ≤ b + 1 ∧ Value.int .i64 ((I + 1 : Nat) : Int) = .int .i64 I' ∧ S'.Perm (L.take k') ∧ Srt S' ∧ RowO w' B g cap (vals (A ++ S' ++ L.drop k' ++ C)) ∧ OnlG g w w' from fun w' q1 q2 q3 => by
          refine ⟨k + 1, I + 1, P ++ x :: Q, by have := HI.out; omega, by omega, by omega, rfl, ?_, ?_, ?_, q2⟩
          · rw [HTK.out]
            have e : (P ++ x :: Q).Perm (S ++ [x]) := by
              rw [HPQ.out]
              exact (List.perm_middle).trans (List.perm_append_singleton x (P ++ Q)).symm
            exact e.trans (HP.out.append_right [x])
          · exact srt_in (by rw [← HPQ.out]; exact HSO.out) q3 (fun z hz => lt_tle (HQ.out z hz))
          · simpa using q1)
        rcases List.eq_nil_or_concat P with hP | ⟨P0, y, hP⟩
        · have hJ0 : J = a := by rw [hJ, hP]; rfl
          have t2 : decide ((a : Int) < (J : Int)) = false := by simp; omega
          have t3 : decide (a < J) = false := by simp; omega
          have F2 := Lib.hid (fun nq => FIN.out _ (hr.drewN nq) (ho.drewN nq) (fun y hy => by rw [hP] at hy; cases hy))
          clear hPQ hQ ho hr hP hJ0 hJ FIN
          go_wp2_with fail
          go_quiet (fail)
          go_wp2_with fail
          go_roundw
          case rel => exact F2.out _
          case measure => simp [intOf]; omega
        · rw [List.concat_eq_append] at hP
          obtain ⟨J0, hJ0⟩ : ∃ J0, J0 = a + P0.length := ⟨_, rfl⟩
          obtain rfl : J = J0 + 1 := by rw [hJ, hP, hJ0]; simp; omega
          have t2 : decide ((a : Int) < ((J0 + 1 : Nat) : Int)) = true := by simp; omega
          have t3 : decide (a < J0 + 1) = true := by simp; omega
          have t4 : decide ((a : Int) < (J0 : Int) + 1) = true := by simp; omega
          have wJ : IntKind.i64.wrap (J0 : Int) = (J0 : Int) := IntWalk.i64_in _ (by omega)
          have wJ1 : IntKind.i64.wrap ((J0 : Int) + 1) = (J0 : Int) + 1 := IntWalk.i64_in _ (by omega)
          have gx : (vals (A ++ P ++ x :: (Q ++ L.drop (k + 1) ++ C)))[J0 + 1]? = some x.1 := by
            have := vals_get (A := A ++ P) (C := Q ++ L.drop (k + 1) ++ C) (x := x)
            rwa [show (A ++ P).length = J0 + 1 by rw [List.length_append, HA.out, hJ]] at this
          have gy : (vals (A ++ P ++ x :: (Q ++ L.drop (k + 1) ++ C)))[J0]? = some y.1 := by
            have := vals_get (A := A ++ P0) (C := x :: (Q ++ L.drop (k + 1) ++ C)) (x := y)
            rw [show (A ++ P0).length = J0 by rw [List.length_append, HA.out, hJ0]] at this
            rw [hP]
            simpa using this
          obtain ⟨x0, x1, x2, x3⟩ := hr.cells gx
          obtain ⟨y0, y1, y2, y3⟩ := hr.cells gy
          have hsy : IsSl y.1.2 := HSS.out y (by rw [HPQ.out, hP]; simp)
          have CM := Lib.hid (fun w => cmp_any x.1 y.1 w HSX.out hsy)
          have HR2 := Lib.hid hr
          have i1 : (J0 : Int) + 1 < (n : Int) := by omega
          have i2 : (J0 : Int) < (n : Int) := by omega
          have i3 : (0 : Int) ≤ (J0 : Int) := by omega
          have i4 : (0 : Int) ≤ (J0 : Int) + 1 := by omega
          have HPP := Lib.hid hP
          have HJJ := Lib.hid hJ
          have HJ0 := Lib.hid hJ0
          have HGX := Lib.hid gx
          have HGY := Lib.hid gy
          clear hPQ hQ ho hr gx gy hP hJ hJ0
          go_wp2_with fail
          cases hc : ltK x.1.1 y.1.1 with
          | false =>
            have hc' := hc
            rw [← cmpK_neg] at hc'
            have F2 := Lib.hid (fun w' (hb : Below wr.heap.size wr w') => FIN.out _ (HR2.out.below hb) (HO2.out.trans (.of_below hb (Nat.le_of_lt hgl.2))) (by
              rw [HPP.out]
              exact srt_last (by have := HSO.out; rw [HPQ.out, HPP.out] at this; exact (List.pairwise_append.1 this).1) hc (fun z hz => HRK.out z (by rw [HPQ.out, HPP.out]; exact List.mem_append_left _ hz))))
            clear FIN hc
            refine wp_region_noPanic ?_
            refine wp_region_held_drew (S := fun w' => Below wr.heap.size wr w') (by kernel_rfl) (Below.refl _ _).drew (fun hHeld => ?_)
            generalize wr.drew = D at hHeld ⊢
            have kb : Below wr.heap.size wr D := hHeld
            refine wpAnyH_take (i := 0) (oi := ⟨some 18, _, _, _, _, _⟩) (v := ?qv0ia) rfl (by kernel_rfl) (by kernel_rfl) (by kernel_rfl) (fun _ _ _ h => h) (Or.inl ⟨by rfl, ?qy0ia⟩) hHeld ?qr0ia
            case qy0ia => (intro w' hSw; go_simp; try with_reducible rfl)
            try simp only [Act.put, List.setIfInBounds_toArray, List.set_cons_zero, List.set_cons_succ]
            refine wpAnyH_take (i := 1) (oi := ⟨some 19, _, _, _, _, _⟩) (v := ?qv1ia) rfl (by kernel_rfl) (by kernel_rfl) (by kernel_rfl) (fun _ _ _ h => h) (Or.inl ⟨by rfl, ?qy1ia⟩) hHeld ?qr1ia
            case qy1ia => (intro w' hSw; go_simp; try with_reducible rfl)
            try simp only [Act.put, List.setIfInBounds_toArray, List.set_cons_zero, List.set_cons_succ]
            refine wpAnyH_take (i := 2) (oi := ⟨some 20, _, _, _, _, _⟩) (v := ?qv2ia) rfl (by kernel_rfl) (by kernel_rfl) (by kernel_rfl) (fun _ _ _ h => h) (Or.inl ⟨by rfl, ?qy2ia⟩) hHeld ?qr2ia
            case qy2ia => (intro w' hSw; go_simp; try with_reducible rfl)
            try simp only [Act.put, List.setIfInBounds_toArray, List.set_cons_zero, List.set_cons_succ]
            refine wpAnyH_take (i := 3) (oi := ⟨some 21, _, _, _, _, _⟩) (v := ?qv3ia) rfl (by kernel_rfl) (by kernel_rfl) (by kernel_rfl) (fun _ _ _ h => h) (Or.inl ⟨by rfl, ?qy3ia⟩) hHeld ?qr3ia
            case qy3ia => (intro w' hSw; go_simp; try with_reducible rfl)
            try simp only [Act.put, List.setIfInBounds_toArray, List.set_cons_zero, List.set_cons_succ]
            refine wpAnyH_take (i := 4) (oi := ⟨some 22, _, _, _, _, _⟩) (v := ?qv4ia) rfl (by kernel_rfl) (by kernel_rfl) (by kernel_rfl) (fun _ _ _ h => h) (Or.inl ⟨by rfl, ?qy4ia⟩) hHeld ?qr4ia
            case qy4ia => (intro w' hSw; go_simp; try with_reducible rfl)
            try simp only [Act.put, List.setIfInBounds_toArray, List.set_cons_zero, List.set_cons_succ]
            refine wpAnyH_take (i := 5) (oi := ⟨some 23, _, _, _, _, _⟩) (v := ?qv5ia) rfl (by kernel_rfl) (by kernel_rfl) (by kernel_rfl) (fun _ _ _ h => h) (Or.inl ⟨by rfl, ?qy5ia⟩) hHeld ?qr5ia
            case qy5ia => (intro w' hSw; go_simp; try with_reducible rfl)
            try simp only [Act.put, List.setIfInBounds_toArray, List.set_cons_zero, List.set_cons_succ]
            refine wpAnyH_take (i := 6) (oi := ⟨some 24, _, _, _, _, _⟩) (v := ?qv6ia) rfl (by kernel_rfl) (by kernel_rfl) (by kernel_rfl) (fun _ _ _ h => h) (Or.inl ⟨by rfl, ?qy6ia⟩) hHeld ?qr6ia
            case qy6ia => (intro w' hSw; go_simp; try with_reducible rfl)
            try simp only [Act.put, List.setIfInBounds_toArray, List.set_cons_zero, List.set_cons_succ]
            refine wpAnyH_take (i := 7) (oi := ⟨some 25, _, _, _, _, _⟩) (v := ?qv7ia) rfl (by kernel_rfl) (by kernel_rfl) (by kernel_rfl) (fun _ _ _ h => h) (Or.inl ⟨by rfl, ?qy7ia⟩) hHeld ?qr7ia
            case qy7ia => (intro w' hSw; go_simp; try with_reducible rfl)
            try simp only [Act.put, List.setIfInBounds_toArray, List.set_cons_zero, List.set_cons_succ]
            refine wpAnyH_take (i := 8) (oi := ⟨some 26, _, _, _, _, _⟩) (v := ?qv8ia) rfl (by kernel_rfl) (by kernel_rfl) (by kernel_rfl) (fun _ _ _ h => h) (Or.inl ⟨by rfl, ?qy8ia⟩) hHeld ?qr8ia
            case qy8ia => (intro w' hSw; have q0 := (hSw.cell (p := ⟨g, (J0 + 1) * 4, none⟩) hgl.2).trans x0; have q1 := (hSw.cell (p := ⟨g, (J0 + 1) * 4 + 1, none⟩) hgl.2).trans x1; have q2 := (hSw.cell (p := ⟨g, (J0 + 1) * 4 + 2, none⟩) hgl.2).trans x2; have q3 := (hSw.cell (p := ⟨g, (J0 + 1) * 4 + 3, none⟩) hgl.2).trans x3; have p0 := (hSw.cell (p := ⟨g, J0 * 4, none⟩) hgl.2).trans y0; have p1 := (hSw.cell (p := ⟨g, J0 * 4 + 1, none⟩) hgl.2).trans y1; have p2 := (hSw.cell (p := ⟨g, J0 * 4 + 2, none⟩) hgl.2).trans y2; have p3 := (hSw.cell (p := ⟨g, J0 * 4 + 3, none⟩) hgl.2).trans y3; go_simp; try with_reducible rfl)
            try simp only [Act.put, List.setIfInBounds_toArray, List.set_cons_zero, List.set_cons_succ]
            refine wpAnyH_take (i := 9) (oi := ⟨some 27, _, _, _, _, _⟩) (v := ?qv9ia) rfl (by kernel_rfl) (by kernel_rfl) (by kernel_rfl) (fun _ _ _ h => h) (Or.inl ⟨by rfl, ?qy9ia⟩) hHeld ?qr9ia
            case qy9ia => (intro w' hSw; go_simp; try with_reducible rfl)
            try simp only [Act.put, List.setIfInBounds_toArray, List.set_cons_zero, List.set_cons_succ]
            refine wpAnyH_take (i := 10) (oi := ⟨some 28, _, _, _, _, _⟩) (v := ?qv10ia) rfl (by kernel_rfl) (by kernel_rfl) (by kernel_rfl) (fun _ _ _ h => h) (Or.inl ⟨by rfl, ?qy10ia⟩) hHeld ?qr10ia
            case qy10ia => (intro w' hSw; go_simp; try with_reducible rfl)
            try simp only [Act.put, List.setIfInBounds_toArray, List.set_cons_zero, List.set_cons_succ]
            refine wpAnyH_take (i := 11) (oi := ⟨some 29, _, _, _, _, _⟩) (v := ?qv11ia) rfl (by kernel_rfl) (by kernel_rfl) (by kernel_rfl) (fun _ _ _ h => h) (Or.inl ⟨by rfl, ?qy11ia⟩) hHeld ?qr11ia
            case qy11ia => (intro w' hSw; go_simp; try with_reducible rfl)
            try simp only [Act.put, List.setIfInBounds_toArray, List.set_cons_zero, List.set_cons_succ]
            refine wpAnyH_take (i := 12) (oi := ⟨some 30, _, _, _, _, _⟩) (v := ?qv12ia) rfl (by kernel_rfl) (by kernel_rfl) (by kernel_rfl) (fun _ _ _ h => h) (Or.inl ⟨by rfl, ?qy12ia⟩) hHeld ?qr12ia
            case qy12ia => (intro w' hSw; go_simp; try with_reducible rfl)
            try simp only [Act.put, List.setIfInBounds_toArray, List.set_cons_zero, List.set_cons_succ]
            refine wpAnyH_take (i := 13) (oi := ⟨some 31, _, _, _, _, _⟩) (v := ?qv13ia) rfl (by kernel_rfl) (by kernel_rfl) (by kernel_rfl) (fun _ _ _ h => h) (Or.inl ⟨by rfl, ?qy13ia⟩) hHeld ?qr13ia
            case qy13ia => (intro w' hSw; have q0 := (hSw.cell (p := ⟨g, (J0 + 1) * 4, none⟩) hgl.2).trans x0; have q1 := (hSw.cell (p := ⟨g, (J0 + 1) * 4 + 1, none⟩) hgl.2).trans x1; have q2 := (hSw.cell (p := ⟨g, (J0 + 1) * 4 + 2, none⟩) hgl.2).trans x2; have q3 := (hSw.cell (p := ⟨g, (J0 + 1) * 4 + 3, none⟩) hgl.2).trans x3; have p0 := (hSw.cell (p := ⟨g, J0 * 4, none⟩) hgl.2).trans y0; have p1 := (hSw.cell (p := ⟨g, J0 * 4 + 1, none⟩) hgl.2).trans y1; have p2 := (hSw.cell (p := ⟨g, J0 * 4 + 2, none⟩) hgl.2).trans y2; have p3 := (hSw.cell (p := ⟨g, J0 * 4 + 3, none⟩) hgl.2).trans y3; go_simp; try with_reducible rfl)
            try simp only [Act.put, List.setIfInBounds_toArray, List.set_cons_zero, List.set_cons_succ]
            refine wpAnyH_ready (rs := [14]) (by kernel_rfl) (by simp) ?_
            refine AllReadyH.cons (o := ⟨some 32, _, _, _, _, _⟩) rfl (fun K hK => ?_) AllReadyH.nil
            refine step_gov (by rfl) 32 _ _ _ (by rfl) (by rfl) (fun _ _ => by kernel_rfl) _ (by rfl) (CM.out _) ?_
            rintro e w4 ⟨rfl, b4⟩
            refine ⟨_, rfl, ?_⟩
            refine hK.out _ _ (kb.trans (b4.mono kb.size)) (fun hHeld => ?_)
            clear hK K
            try simp only [Act.put, List.setIfInBounds_toArray, List.set_cons_zero, List.set_cons_succ]
            refine wpAnyH_take (i := 15) (oi := ⟨some 33, _, _, _, _, _⟩) (v := ?qv15ia) rfl (by kernel_rfl) (by kernel_rfl) (by kernel_rfl) (fun _ _ _ h => h) (Or.inl ⟨by rfl, ?qy15ia⟩) hHeld ?qr15ia
            case qy15ia => (intro w' hSw; go_simp; try with_reducible rfl)
            try simp only [Act.put, List.setIfInBounds_toArray, List.set_cons_zero, List.set_cons_succ]
            refine wpAnyH_take (i := 16) (oi := ⟨some 34, _, _, _, _, _⟩) (v := ?qv16ia) rfl (by kernel_rfl) (by kernel_rfl) (by kernel_rfl) (fun _ _ _ h => h) (Or.inl ⟨by rfl, ?qy16ia⟩) hHeld ?qr16ia
            case qy16ia => (intro w' hSw; go_simp; try with_reducible rfl)
            try simp only [Act.put, List.setIfInBounds_toArray, List.set_cons_zero, List.set_cons_succ]
            refine wpAnyH_done (by kernel_rfl) ?_ _
            refine NoPanic.normal ?_
            have F3 := F2.out _ (show Below wr.heap.size wr w4 from hHeld)
            have F4 := Lib.hid F3
            clear F3 F2 hHeld kb b4
            go_wp2_with fail
            go_roundw
            case rel => exact F4.out
            case measure => simp [intOf]; omega
          | true =>
            have hc' := hc
            rw [← cmpK_neg] at hc'
            refine wp_region_noPanic ?_
            refine wp_region_held_drew (S := fun w' => Below wr.heap.size wr w') (by kernel_rfl) (Below.refl _ _).drew (fun hHeld => ?_)
            generalize wr.drew = D at hHeld ⊢
            have kb : Below wr.heap.size wr D := hHeld
            refine wpAnyH_take (i := 0) (oi := ⟨some 18, _, _, _, _, _⟩) (v := ?qv0ib) rfl (by kernel_rfl) (by kernel_rfl) (by kernel_rfl) (fun _ _ _ h => h) (Or.inl ⟨by rfl, ?qy0ib⟩) hHeld ?qr0ib
            case qy0ib => (intro w' hSw; go_simp; try with_reducible rfl)
            try simp only [Act.put, List.setIfInBounds_toArray, List.set_cons_zero, List.set_cons_succ]
            refine wpAnyH_take (i := 1) (oi := ⟨some 19, _, _, _, _, _⟩) (v := ?qv1ib) rfl (by kernel_rfl) (by kernel_rfl) (by kernel_rfl) (fun _ _ _ h => h) (Or.inl ⟨by rfl, ?qy1ib⟩) hHeld ?qr1ib
            case qy1ib => (intro w' hSw; go_simp; try with_reducible rfl)
            try simp only [Act.put, List.setIfInBounds_toArray, List.set_cons_zero, List.set_cons_succ]
            refine wpAnyH_take (i := 2) (oi := ⟨some 20, _, _, _, _, _⟩) (v := ?qv2ib) rfl (by kernel_rfl) (by kernel_rfl) (by kernel_rfl) (fun _ _ _ h => h) (Or.inl ⟨by rfl, ?qy2ib⟩) hHeld ?qr2ib
            case qy2ib => (intro w' hSw; go_simp; try with_reducible rfl)
            try simp only [Act.put, List.setIfInBounds_toArray, List.set_cons_zero, List.set_cons_succ]
            refine wpAnyH_take (i := 3) (oi := ⟨some 21, _, _, _, _, _⟩) (v := ?qv3ib) rfl (by kernel_rfl) (by kernel_rfl) (by kernel_rfl) (fun _ _ _ h => h) (Or.inl ⟨by rfl, ?qy3ib⟩) hHeld ?qr3ib
            case qy3ib => (intro w' hSw; go_simp; try with_reducible rfl)
            try simp only [Act.put, List.setIfInBounds_toArray, List.set_cons_zero, List.set_cons_succ]
            refine wpAnyH_take (i := 4) (oi := ⟨some 22, _, _, _, _, _⟩) (v := ?qv4ib) rfl (by kernel_rfl) (by kernel_rfl) (by kernel_rfl) (fun _ _ _ h => h) (Or.inl ⟨by rfl, ?qy4ib⟩) hHeld ?qr4ib
            case qy4ib => (intro w' hSw; go_simp; try with_reducible rfl)
            try simp only [Act.put, List.setIfInBounds_toArray, List.set_cons_zero, List.set_cons_succ]
            refine wpAnyH_take (i := 5) (oi := ⟨some 23, _, _, _, _, _⟩) (v := ?qv5ib) rfl (by kernel_rfl) (by kernel_rfl) (by kernel_rfl) (fun _ _ _ h => h) (Or.inl ⟨by rfl, ?qy5ib⟩) hHeld ?qr5ib
            case qy5ib => (intro w' hSw; go_simp; try with_reducible rfl)
            try simp only [Act.put, List.setIfInBounds_toArray, List.set_cons_zero, List.set_cons_succ]
            refine wpAnyH_take (i := 6) (oi := ⟨some 24, _, _, _, _, _⟩) (v := ?qv6ib) rfl (by kernel_rfl) (by kernel_rfl) (by kernel_rfl) (fun _ _ _ h => h) (Or.inl ⟨by rfl, ?qy6ib⟩) hHeld ?qr6ib
            case qy6ib => (intro w' hSw; go_simp; try with_reducible rfl)
            try simp only [Act.put, List.setIfInBounds_toArray, List.set_cons_zero, List.set_cons_succ]
            refine wpAnyH_take (i := 7) (oi := ⟨some 25, _, _, _, _, _⟩) (v := ?qv7ib) rfl (by kernel_rfl) (by kernel_rfl) (by kernel_rfl) (fun _ _ _ h => h) (Or.inl ⟨by rfl, ?qy7ib⟩) hHeld ?qr7ib
            case qy7ib => (intro w' hSw; go_simp; try with_reducible rfl)
            try simp only [Act.put, List.setIfInBounds_toArray, List.set_cons_zero, List.set_cons_succ]
            refine wpAnyH_take (i := 8) (oi := ⟨some 26, _, _, _, _, _⟩) (v := ?qv8ib) rfl (by kernel_rfl) (by kernel_rfl) (by kernel_rfl) (fun _ _ _ h => h) (Or.inl ⟨by rfl, ?qy8ib⟩) hHeld ?qr8ib
            case qy8ib => (intro w' hSw; have q0 := (hSw.cell (p := ⟨g, (J0 + 1) * 4, none⟩) hgl.2).trans x0; have q1 := (hSw.cell (p := ⟨g, (J0 + 1) * 4 + 1, none⟩) hgl.2).trans x1; have q2 := (hSw.cell (p := ⟨g, (J0 + 1) * 4 + 2, none⟩) hgl.2).trans x2; have q3 := (hSw.cell (p := ⟨g, (J0 + 1) * 4 + 3, none⟩) hgl.2).trans x3; have p0 := (hSw.cell (p := ⟨g, J0 * 4, none⟩) hgl.2).trans y0; have p1 := (hSw.cell (p := ⟨g, J0 * 4 + 1, none⟩) hgl.2).trans y1; have p2 := (hSw.cell (p := ⟨g, J0 * 4 + 2, none⟩) hgl.2).trans y2; have p3 := (hSw.cell (p := ⟨g, J0 * 4 + 3, none⟩) hgl.2).trans y3; go_simp; try with_reducible rfl)
            try simp only [Act.put, List.setIfInBounds_toArray, List.set_cons_zero, List.set_cons_succ]
            refine wpAnyH_take (i := 9) (oi := ⟨some 27, _, _, _, _, _⟩) (v := ?qv9ib) rfl (by kernel_rfl) (by kernel_rfl) (by kernel_rfl) (fun _ _ _ h => h) (Or.inl ⟨by rfl, ?qy9ib⟩) hHeld ?qr9ib
            case qy9ib => (intro w' hSw; go_simp; try with_reducible rfl)
            try simp only [Act.put, List.setIfInBounds_toArray, List.set_cons_zero, List.set_cons_succ]
            refine wpAnyH_take (i := 10) (oi := ⟨some 28, _, _, _, _, _⟩) (v := ?qv10ib) rfl (by kernel_rfl) (by kernel_rfl) (by kernel_rfl) (fun _ _ _ h => h) (Or.inl ⟨by rfl, ?qy10ib⟩) hHeld ?qr10ib
            case qy10ib => (intro w' hSw; go_simp; try with_reducible rfl)
            try simp only [Act.put, List.setIfInBounds_toArray, List.set_cons_zero, List.set_cons_succ]
            refine wpAnyH_take (i := 11) (oi := ⟨some 29, _, _, _, _, _⟩) (v := ?qv11ib) rfl (by kernel_rfl) (by kernel_rfl) (by kernel_rfl) (fun _ _ _ h => h) (Or.inl ⟨by rfl, ?qy11ib⟩) hHeld ?qr11ib
            case qy11ib => (intro w' hSw; go_simp; try with_reducible rfl)
            try simp only [Act.put, List.setIfInBounds_toArray, List.set_cons_zero, List.set_cons_succ]
            refine wpAnyH_take (i := 12) (oi := ⟨some 30, _, _, _, _, _⟩) (v := ?qv12ib) rfl (by kernel_rfl) (by kernel_rfl) (by kernel_rfl) (fun _ _ _ h => h) (Or.inl ⟨by rfl, ?qy12ib⟩) hHeld ?qr12ib
            case qy12ib => (intro w' hSw; go_simp; try with_reducible rfl)
            try simp only [Act.put, List.setIfInBounds_toArray, List.set_cons_zero, List.set_cons_succ]
            refine wpAnyH_take (i := 13) (oi := ⟨some 31, _, _, _, _, _⟩) (v := ?qv13ib) rfl (by kernel_rfl) (by kernel_rfl) (by kernel_rfl) (fun _ _ _ h => h) (Or.inl ⟨by rfl, ?qy13ib⟩) hHeld ?qr13ib
            case qy13ib => (intro w' hSw; have q0 := (hSw.cell (p := ⟨g, (J0 + 1) * 4, none⟩) hgl.2).trans x0; have q1 := (hSw.cell (p := ⟨g, (J0 + 1) * 4 + 1, none⟩) hgl.2).trans x1; have q2 := (hSw.cell (p := ⟨g, (J0 + 1) * 4 + 2, none⟩) hgl.2).trans x2; have q3 := (hSw.cell (p := ⟨g, (J0 + 1) * 4 + 3, none⟩) hgl.2).trans x3; have p0 := (hSw.cell (p := ⟨g, J0 * 4, none⟩) hgl.2).trans y0; have p1 := (hSw.cell (p := ⟨g, J0 * 4 + 1, none⟩) hgl.2).trans y1; have p2 := (hSw.cell (p := ⟨g, J0 * 4 + 2, none⟩) hgl.2).trans y2; have p3 := (hSw.cell (p := ⟨g, J0 * 4 + 3, none⟩) hgl.2).trans y3; go_simp; try with_reducible rfl)
            try simp only [Act.put, List.setIfInBounds_toArray, List.set_cons_zero, List.set_cons_succ]
            refine wpAnyH_ready (rs := [14]) (by kernel_rfl) (by simp) ?_
            refine AllReadyH.cons (o := ⟨some 32, _, _, _, _, _⟩) rfl (fun K hK => ?_) AllReadyH.nil
            refine step_gov (by rfl) 32 _ _ _ (by rfl) (by rfl) (fun _ _ => by kernel_rfl) _ (by rfl) (CM.out _) ?_
            rintro e w4 ⟨rfl, b4⟩
            refine ⟨_, rfl, ?_⟩
            refine hK.out _ _ (kb.trans (b4.mono kb.size)) (fun hHeld => ?_)
            clear hK K
            try simp only [Act.put, List.setIfInBounds_toArray, List.set_cons_zero, List.set_cons_succ]
            refine wpAnyH_take (i := 15) (oi := ⟨some 33, _, _, _, _, _⟩) (v := ?qv15ib) rfl (by kernel_rfl) (by kernel_rfl) (by kernel_rfl) (fun _ _ _ h => h) (Or.inl ⟨by rfl, ?qy15ib⟩) hHeld ?qr15ib
            case qy15ib => (intro w' hSw; go_simp; try with_reducible rfl)
            try simp only [Act.put, List.setIfInBounds_toArray, List.set_cons_zero, List.set_cons_succ]
            refine wpAnyH_take (i := 16) (oi := ⟨some 34, _, _, _, _, _⟩) (v := ?qv16ib) rfl (by kernel_rfl) (by kernel_rfl) (by kernel_rfl) (fun _ _ _ h => h) (Or.inl ⟨by rfl, ?qy16ib⟩) hHeld ?qr16ib
            case qy16ib => (intro w' hSw; go_simp; try with_reducible rfl)
            try simp only [Act.put, List.setIfInBounds_toArray, List.set_cons_zero, List.set_cons_succ]
            refine wpAnyH_done (by kernel_rfl) ?_ _
            refine NoPanic.normal ?_
            have b5 : Below wr.heap.size wr w4 := hHeld
            have R4 := HR2.out.below b5
            have O4 := HO2.out.trans (.of_below b5 (Nat.le_of_lt hgl.2))
            have hg4 := R4.lt
            have hlv : (vals (A ++ P ++ x :: (Q ++ L.drop (k + 1) ++ C))).length = n := by
              have e1 : (vals (A ++ P ++ x :: (Q ++ L.drop (k + 1) ++ C))).length = A.length + P.length + (Q.length + (L.length - (k + 1)) + C.length + 1) := by simp; omega
              have e2 : S.length = P.length + Q.length := by rw [HPQ.out, List.length_append]
              have := HM.out; have := HA.out; have := HI.out; have := HSl.out
              rw [e1]
              omega
            have hJn : J0 + 1 < n := by omega
            have carry : RowO w4.drew B g cap (vals (A ++ P ++ x :: (Q ++ L.drop (k + 1) ++ C))) ∧ OnlG g w w4.drew := ⟨R4.drew, O4.drew⟩
            have FIN2 := Lib.hid (show ∀ w', RowO w' B g cap (((vals (A ++ P ++ x :: (Q ++ L.drop (k + 1) ++ C))).set (J0 + 1) y.1).set J0 x.1) → RowO w' B g cap (vals (A ++ P0 ++ x :: ((y :: Q) ++ L.drop (k + 1) ++ C))) from fun w' h => by
              have e : ((vals (A ++ P ++ x :: (Q ++ L.drop (k + 1) ++ C))).set (J0 + 1) y.1).set J0 x.1 = vals (A ++ P0 ++ x :: ((y :: Q) ++ L.drop (k + 1) ++ C)) := by
                have l0 : J0 = (vals (A ++ P0)).length := by rw [vals, List.length_map, List.length_append, HA.out, HJ0.out]
                have e1 : vals (A ++ P ++ x :: (Q ++ L.drop (k + 1) ++ C)) = vals (A ++ P0) ++ y.1 :: x.1 :: vals (Q ++ L.drop (k + 1) ++ C) := by rw [HPP.out]; simp [vals]
                rw [e1, l0, swap_adj]
                simp [vals]
              rw [← e]; exact h)
            have QQ := Lib.hid (show ∀ z ∈ y :: Q, ltK x.1.1 z.1.1 = true from fun z hz => by
              rcases List.mem_cons.1 hz with rfl | hz
              · exact hc
              · exact HQ.out z hz)
            clear hHeld kb b4 b5 R4 O4 x0 x1 x2 x3 y0 y1 y2 y3 HR2 FIN
            have HLV := Lib.hid hlv
            clear hlv hc
            go_wp2_with fail
            refine wp_region_noPanic ?_
            refine wp_region_held_drew (S := fun _ => True) (by kernel_rfl) (trivial) (fun hHeld => ?_)
            generalize w4.drew = D at hHeld carry ⊢
            have kc := hHeld
            refine wpAnyH_take (i := 0) (oi := ⟨some 37, _, _, _, _, _⟩) (v := ?qv0ic) rfl (by kernel_rfl) (by kernel_rfl) (by kernel_rfl) (fun _ _ _ h => h) (Or.inl ⟨by rfl, ?qy0ic⟩) hHeld ?qr0ic
            case qy0ic => (intro w' hSw; go_simp; try with_reducible rfl)
            try simp only [Act.put, List.setIfInBounds_toArray, List.set_cons_zero, List.set_cons_succ]
            refine wpAnyH_take (i := 1) (oi := ⟨some 38, _, _, _, _, _⟩) (v := ?qv1ic) rfl (by kernel_rfl) (by kernel_rfl) (by kernel_rfl) (fun _ _ _ h => h) (Or.inl ⟨by rfl, ?qy1ic⟩) hHeld ?qr1ic
            case qy1ic => (intro w' hSw; go_simp; try with_reducible rfl)
            try simp only [Act.put, List.setIfInBounds_toArray, List.set_cons_zero, List.set_cons_succ]
            refine wpAnyH_take (i := 2) (oi := ⟨some 39, _, _, _, _, _⟩) (v := ?qv2ic) rfl (by kernel_rfl) (by kernel_rfl) (by kernel_rfl) (fun _ _ _ h => h) (Or.inl ⟨by rfl, ?qy2ic⟩) hHeld ?qr2ic
            case qy2ic => (intro w' hSw; go_simp; try with_reducible rfl)
            try simp only [Act.put, List.setIfInBounds_toArray, List.set_cons_zero, List.set_cons_succ]
            refine wpAnyH_take (i := 3) (oi := ⟨some 40, _, _, _, _, _⟩) (v := ?qv3ic) rfl (by kernel_rfl) (by kernel_rfl) (by kernel_rfl) (fun _ _ _ h => h) (Or.inl ⟨by rfl, ?qy3ic⟩) hHeld ?qr3ic
            case qy3ic => (intro w' hSw; go_simp; try with_reducible rfl)
            try simp only [Act.put, List.setIfInBounds_toArray, List.set_cons_zero, List.set_cons_succ]
            refine wpAnyH_take (i := 4) (oi := ⟨some 41, _, _, _, _, _⟩) (v := ?qv4ic) rfl (by kernel_rfl) (by kernel_rfl) (by kernel_rfl) (fun _ _ _ h => h) (Or.inl ⟨by rfl, ?qy4ic⟩) hHeld ?qr4ic
            case qy4ic => (intro w' hSw; go_simp; try with_reducible rfl)
            try simp only [Act.put, List.setIfInBounds_toArray, List.set_cons_zero, List.set_cons_succ]
            refine wpAnyH_take (i := 5) (oi := ⟨some 42, _, _, _, _, _⟩) (v := ?qv5ic) rfl (by kernel_rfl) (by kernel_rfl) (by kernel_rfl) (fun _ _ _ h => h) (Or.inl ⟨by rfl, ?qy5ic⟩) hHeld ?qr5ic
            case qy5ic => (intro w' hSw; go_simp; try with_reducible rfl)
            try simp only [Act.put, List.setIfInBounds_toArray, List.set_cons_zero, List.set_cons_succ]
            refine wpAnyH_take (i := 6) (oi := ⟨some 43, _, _, _, _, _⟩) (v := ?qv6ic) rfl (by kernel_rfl) (by kernel_rfl) (by kernel_rfl) (fun _ _ _ h => h) (Or.inl ⟨by rfl, ?qy6ic⟩) hHeld ?qr6ic
            case qy6ic => (intro w' hSw; go_simp; try with_reducible rfl)
            try simp only [Act.put, List.setIfInBounds_toArray, List.set_cons_zero, List.set_cons_succ]
            refine wpAnyH_take (i := 7) (oi := ⟨some 44, _, _, _, _, _⟩) (v := ?qv7ic) rfl (by kernel_rfl) (by kernel_rfl) (by kernel_rfl) (fun _ _ _ h => h) (Or.inl ⟨by rfl, ?qy7ic⟩) hHeld ?qr7ic
            case qy7ic => (intro w' hSw; go_simp; try with_reducible rfl)
            try simp only [Act.put, List.setIfInBounds_toArray, List.set_cons_zero, List.set_cons_succ]
            refine wpAnyH_take (i := 8) (oi := ⟨some 45, _, _, _, _, _⟩) (v := ?qv8ic) rfl (by kernel_rfl) (by kernel_rfl) (by kernel_rfl) (fun _ _ _ h => h) (Or.inl ⟨by rfl, ?qy8ic⟩) hHeld ?qr8ic
            case qy8ic => (intro w' hSw; go_simp; try with_reducible rfl)
            try simp only [Act.put, List.setIfInBounds_toArray, List.set_cons_zero, List.set_cons_succ]
            refine wpAnyH_take (i := 10) (oi := ⟨some 47, _, _, _, _, _⟩) (v := ?qv10ic) rfl (by kernel_rfl) (by kernel_rfl) (by kernel_rfl) (fun _ _ _ h => h) (Or.inl ⟨by rfl, ?qy10ic⟩) hHeld ?qr10ic
            case qy10ic => (intro w' hSw; go_simp; try with_reducible rfl)
            try simp only [Act.put, List.setIfInBounds_toArray, List.set_cons_zero, List.set_cons_succ]
            refine wpAnyH_take (i := 11) (oi := ⟨some 48, _, _, _, _, _⟩) (v := ?qv11ic) rfl (by kernel_rfl) (by kernel_rfl) (by kernel_rfl) (fun _ _ _ h => h) (Or.inl ⟨by rfl, ?qy11ic⟩) hHeld ?qr11ic
            case qy11ic => (intro w' hSw; go_simp; try with_reducible rfl)
            try simp only [Act.put, List.setIfInBounds_toArray, List.set_cons_zero, List.set_cons_succ]
            refine wpAnyH_take (i := 12) (oi := ⟨some 49, _, _, _, _, _⟩) (v := ?qv12ic) rfl (by kernel_rfl) (by kernel_rfl) (by kernel_rfl) (fun _ _ _ h => h) (Or.inl ⟨by rfl, ?qy12ic⟩) hHeld ?qr12ic
            case qy12ic => (intro w' hSw; go_simp; try with_reducible rfl)
            try simp only [Act.put, List.setIfInBounds_toArray, List.set_cons_zero, List.set_cons_succ]
            refine wpAnyH_load2 (i := 9) (j := 13) (oi := ⟨some 46, _, _, _, _, _⟩) (oj := ⟨some 50, _, _, _, _, _⟩) (vi := ?vi9ic) (vj := ?vj13ic) rfl rfl (by decide) (by kernel_rfl) (by kernel_rfl) (by kernel_rfl) (Or.inl ⟨by rfl, ?yaic⟩) (Or.inl ⟨by rfl, ?ybic⟩) (Or.inl ⟨by rfl, ?ycic⟩) (Or.inl ⟨by rfl, ?ydic⟩) ?yeic hHeld ?yfic
            case yaic => (intro w' hSw; subst hSw; obtain ⟨x0, x1, x2, x3⟩ := carry.1.cells HGX.out; obtain ⟨y0, y1, y2, y3⟩ := carry.1.cells HGY.out; go_simp; try with_reducible rfl)
            case ybic => (intro w' hSw; subst hSw; obtain ⟨x0, x1, x2, x3⟩ := carry.1.cells HGX.out; obtain ⟨y0, y1, y2, y3⟩ := carry.1.cells HGY.out; go_simp; try with_reducible rfl)
            case ycic => (intro w' hSw; subst hSw; obtain ⟨x0, x1, x2, x3⟩ := carry.1.cells HGX.out; obtain ⟨y0, y1, y2, y3⟩ := carry.1.cells HGY.out; go_simp; try with_reducible rfl)
            case ydic => (intro w' hSw; subst hSw; obtain ⟨x0, x1, x2, x3⟩ := carry.1.cells HGX.out; obtain ⟨y0, y1, y2, y3⟩ := carry.1.cells HGY.out; go_simp; try with_reducible rfl)
            case yeic => rfl
            try simp only [Act.put, List.setIfInBounds_toArray, List.set_cons_zero, List.set_cons_succ]
            refine wpAnyH_take (i := 14) (oi := ⟨some 51, _, _, _, _, _⟩) (v := ?qv14ic) rfl (by kernel_rfl) (by kernel_rfl) (by kernel_rfl) (fun _ _ _ h => h) (Or.inl ⟨by rfl, ?qy14ic⟩) hHeld ?qr14ic
            case qy14ic => (intro w' hSw; go_simp; try with_reducible rfl)
            try simp only [Act.put, List.setIfInBounds_toArray, List.set_cons_zero, List.set_cons_succ]
            refine wpAnyH_ready (rs := [15]) (by kernel_rfl) (by simp) ?_
            refine AllReadyH.cons (o := ⟨none, _, _, _, _, _⟩) rfl (fun K hK => ?_) AllReadyH.nil
            refine step_store_kd (by rfl) _ _ (by rfl) B g cap (J0 + 1) _ y.1 (by rfl) (by rfl) hsy carry.1 (by rw [HLV.out]; exact hJn) ?_
            intro w6 R6 O6
            refine hK.out _ _ trivial (fun hHeld => ?_)
            clear hK K
            try simp only [Act.put, List.setIfInBounds_toArray, List.set_cons_zero, List.set_cons_succ]
            refine wpAnyH_take (i := 16) (oi := ⟨some 52, _, _, _, _, _⟩) (v := ?qv16ic) rfl (by kernel_rfl) (by kernel_rfl) (by kernel_rfl) (fun _ _ _ h => h) (Or.inl ⟨by rfl, ?qy16ic⟩) hHeld ?qr16ic
            case qy16ic => (intro w' hSw; go_simp; try with_reducible rfl)
            try simp only [Act.put, List.setIfInBounds_toArray, List.set_cons_zero, List.set_cons_succ]
            refine wpAnyH_ready (rs := [17]) (by kernel_rfl) (by simp) ?_
            refine AllReadyH.cons (o := ⟨none, _, _, _, _, _⟩) rfl (fun K hK => ?_) AllReadyH.nil
            refine step_store_kd (by rfl) _ _ (by rfl) B g cap J0 _ x.1 (by rfl) (by rfl) HSX.out R6 (by rw [List.length_set, HLV.out]; exact Nat.lt_of_succ_lt hJn) ?_
            intro w7 R7 O7
            refine hK.out _ _ trivial (fun hHeld => ?_)
            clear hK K
            try simp only [Act.put, List.setIfInBounds_toArray, List.set_cons_zero, List.set_cons_succ]
            refine wpAnyH_done (by kernel_rfl) ?_ _
            refine NoPanic.normal ?_
            have R8 := Lib.hid (FIN2.out _ R7)
            have O8 := Lib.hid ((carry.2.trans O6).trans O7)
            clear carry R6 O6 R7 O7 hHeld kc
            go_wp2_with fail
            go_roundw
            case rel => exact ⟨P0, y :: Q, J0, HJ0.out, by rw [HPQ.out, HPP.out]; simp, by go_num, R8.out, QQ.out, O8.out⟩
            case measure => simp [intOf]
    · have t1 : decide ((I : Int) < (b : Int)) = false := by simp; omega
      have hkl : L.length ≤ k := by have := HM.out; omega
      have FIN := Lib.hid (show ∃ L', L'.Perm L ∧ Srt L' ∧ RowO wr B g cap (vals (A ++ L' ++ C)) ∧ OnlG g w wr from ⟨S, by rw [List.take_of_length_le hkl] at hp; exact hp, hso, by rw [List.drop_eq_nil_of_le hkl] at hr; simpa using hr, ho⟩)
      clear hp hso hr ho hI
      go_wp2_with fail
      go_end0
      exact ⟨rfl, FIN.out⟩
end Go.Proofs.YtoggbmfjjenbaaaGreatDoor
