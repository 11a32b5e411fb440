/- pergolaref14.LessKeyed, sortKeyed. -/
import Derived.Test.YtoggbmfjjenbaaaGreatDoorSKeyed
set_option linter.unusedSimpArgs false
set_option linter.unusedVariables false
namespace Go.Proofs.YtoggbmfjjenbaaaGreatDoor
open Go.RowKit

set_option maxRecDepth 100000 in
theorem LessK_any (x y : KdV) (w : World) (hx : IsSl x.2) (hy : IsSl y.2) :
    Calls Tryz.prog 34 #[kdA x, kdA y] w fun e w' => e = .returned (.bool (ltK x.1 y.1)) ∧ Below w.heap.size w w' := by
  obtain ⟨⟨k1, i1, d1, p1⟩, v1⟩ := x
  obtain ⟨⟨k2, i2, d2, p2⟩, v2⟩ := y
  obtain ⟨a1, n1, c1, rfl⟩ := hx
  obtain ⟨a2, n2, c2, rfl⟩ := hy
  have BB : Below w.heap.size w ((w.alloc (.cells #[.int .u64 k1, .int .i64 i1, .int .i64 d1, .slice a1 n1 c1] 56)).alloc (.cells #[.int .u64 k2, .int .i64 i2, .int .i64 d2, .slice a2 n2 c2] 56)) := ((Below.refl _ _).alloc (Nat.le_refl _) _).alloc (by simp) _
  have HB := Lib.hid (fun n => bel_drewN' BB n)
  unfold kdA ltK
  simp only
  by_cases h1 : k1 < k2
  · have e : decide (k1 < k2 ∨ k1 = k2 ∧ i1 < i2) = true := decide_eq_true (.inl h1)
    have t1 : decide ((k1 : Int) < (k2 : Int)) = true := decide_eq_true (by omega)
    have t1n : decide (k1 < k2) = true := decide_eq_true h1
    rw [e]
    clear e h1
    go_enter Tryz.func34, Tryz.ntmps34
    go_wp2_with fail
    skip
    go_wp2_with fail
    go_ret
    exact ⟨rfl, BB⟩
  · have t1 : decide ((k1 : Int) < (k2 : Int)) = false := decide_eq_false (by omega)
    have t1n : decide (k1 < k2) = false := decide_eq_false h1
    by_cases h2 : k1 = k2
    · subst h2
      have t2 : ((k1 : Int) == (k1 : Int)) = true := by simp
      have t2n : (k1 == k1) = true := by simp
      obtain ⟨q, hq⟩ : ∃ q, decide (i1 < i2) = q := ⟨_, rfl⟩
      have e : decide (k1 < k1 ∨ k1 = k1 ∧ i1 < i2) = q := by simp [← hq]
      rw [e]
      clear e h1
      cases q
      all_goals
        go_enter Tryz.func34, Tryz.ntmps34
        go_wp2_with fail
        skip
        go_wp2_with fail
        go_ret
        exact ⟨rfl, BB⟩
    · have t2 : ((k1 : Int) == (k2 : Int)) = false := by simp; omega
      have t2n : (k1 == k2) = false := by simp; omega
      have e : decide (k1 < k2 ∨ k1 = k2 ∧ i1 < i2) = false := decide_eq_false (by omega)
      rw [e]
      clear e h1 h2
      go_enter Tryz.func34, Tryz.ntmps34
      go_wp2_with fail
      skip
      go_wp2_with fail
      go_ret
      exact ⟨rfl, BB⟩

namespace Rf
/-- Block g is a row of the document's items with keys, of the call's own. -/
def RowO (w : World) (B g cap : Nat) (r : List KdV) : Prop := w.ownsRow B 56 4 (.slice (some ⟨g, 0, none⟩) r.length cap) r.length (kdR r)
theorem RowO.lt {w : World} {B g cap : Nat} {r : List KdV} (h : RowO w B g cap r) : B ≤ g ∧ g < w.heap.size := World.ownsRow.lt h g rfl
theorem RowO.below {w w' : World} {B g cap : Nat} {r : List KdV} (h : RowO w B g cap r) (hb : Below w.heap.size w w') : RowO w' B g cap r := own_below' h hb
theorem RowO.drew {w : World} {B g cap : Nat} {r : List KdV} (h : RowO w B g cap r) : RowO w.drew B g cap r := own_below' h (Below.refl _ _).drew
theorem RowO.drewN {w : World} {B g cap : Nat} {r : List KdV} (h : RowO w B g cap r) (n : Nat) : RowO (w.drewN n) B g cap r := own_below' h ⟨rfl, rfl, rfl, Nat.le_refl _, fun _ _ => rfl⟩
theorem RowO.cap {w : World} {B g cap : Nat} {r : List KdV} (h : RowO w B g cap r) : r.length ≤ cap ∧ cap ≤ maxLen := by
  rcases h.2 with ⟨q, _⟩ | ⟨g', cap', cur, e, _, _, h1, h2, _⟩
  · cases q
  · simp only [Value.slice.injEq, Option.some.injEq, Addr.mk.injEq, and_true, true_and] at e
    obtain ⟨_, rfl⟩ := e
    exact ⟨h1, h2⟩
theorem RowO.cells {w : World} {B g cap : Nat} {r : List KdV} (h : RowO w B g cap r) {i : Nat} {x : KdV} (hx : r[i]? = some x) : At w g i x := by
  obtain ⟨hi, rfl⟩ := List.getElem?_eq_some_iff.1 hx
  have l := kdR_length r
  have c := fun j (hj : j < 4) => (World.ownsRow.cellAt h (i * 4 + j) (by omega)).trans (kdR_get r i hi j hj)
  exact ⟨c 0 (by omega), c 1 (by omega), c 2 (by omega), c 3 (by omega)⟩
theorem RowO.set {w : World} {B g cap : Nat} {r : List KdV} (h : RowO w B g cap r) (k : Nat) (hk : k < r.length) (x : KdV) :
    RowO (w.setCells g (k * 4) (kdC x)) B g cap (r.set k x) := by
  have s0 := (World.ownsRow.stored h (k * 4) (.int .u64 x.1.key)).1
  have s1 := (World.ownsRow.stored s0 (k * 4 + 1) (.int .i64 x.1.id)).1
  have s2 := (World.ownsRow.stored s1 (k * 4 + 2) (.int .i64 x.1.kind)).1
  have s3 := (World.ownsRow.stored s2 (k * 4 + 3) x.2).1
  unfold RowO
  rw [List.length_set, kdR_set r k hk x]
  exact s3
theorem RowO.there {w : World} {B g cap : Nat} {r : List KdV} (h : RowO w B g cap r) (k : Nat) (hk : k < r.length) : w.there g (k * 4) 4 := fun j hj => by
  have l := kdR_length r
  refine ⟨?_, World.ownsRow.frozenAt h _⟩
  rw [World.ownsRow.cellAt h (k * 4 + j) (by omega), List.getElem?_eq_getElem (by omega)]
  rfl
theorem info_kd : (Tryz.prog.info? 56).map (·.size) = some 4 := by kernel_rfl
/-- an item is stored into a row, as one step of a drawn region -/
theorem step_store_kd {ops : Array Oper} {op : Oper} {a : Act} {w : World} {K : Act → World → Prop} {Q : Exit → Act → World → Prop} {E : Prop} (hw : Region.wanted op (yielded ops a.tmps) = true) (x y : Operand) (ho : op.op = .store 56 x y)
    (B g cap k : Nat) (r : List KdV) (z : KdV) (hx : a.eval x = .pointer (some ⟨g, k * 4, none⟩)) (hy : a.eval y = kdA z) (hz : IsSl z.2) (hr : RowO w B g cap r) (hk : k < r.length)
    (h : ∀ w', RowO w' B g cap (r.set k z) → OnlG g w w' → K (a.put op.dst undef) w') : if Region.wanted op (yielded ops a.tmps) = true then Oper.wp Tryz.prog op a w K Q else E := by
  rw [if_pos hw]
  refine wp_store_mid 56 x y ho g (k * 4) (kdC z).toArray hx hy (hr.there k hk) info_kd ?_ (h _ (hr.set k hk z) ((OnlG.refl g w).setCells k z))
  refine all_oneCell_toArray fun v hv => ?_
  simp only [kdC, List.mem_cons, List.not_mem_nil, or_false] at hv
  rcases hv with rfl | rfl | rfl | rfl
  · rfl
  · rfl
  · rfl
  · exact hz.one
end Rf

/-- ranks of a row -/
theorem rise_zipK (r : List KdV) : Rise r.zipIdx := by
  unfold Rise
  rw [List.pairwise_iff_getElem]
  intro i j hi hj hij
  simp only [List.getElem_zipIdx]
  omega

set_option maxRecDepth 100000 in
set_option maxHeartbeats 8000000 in
theorem sortK_any (v : Value) (r : List KdV) (w : World) (h : RunRd w v r) (hl : r.length ≤ 100000) :
    Calls Tryz.prog 18 #[v] w fun e w' => ∃ v', e = .returned v' ∧ w'.ownsRow w.heap.size 56 4 v' r.length (kdR (r.mergeSort leV)) ∧ Below w.heap.size w w' := by
  have HS := Lib.hid (show AllSl r.zipIdx from fun x hx => by
    obtain ⟨i, hi, rfl⟩ := List.getElem_of_mem hx
    rw [List.getElem_zipIdx]
    exact (h.2 _ (List.getElem_mem _)).isSl)
  have h1s := Lib.hid (kdR_one r fun x hx => (h.2 x hx).isSl)
  have RD := Lib.hid h.1
  obtain ⟨ao, c, rfl, hc1, hc2, hc0, -⟩ := h.open
  unfold maxLen at hc2
  obtain ⟨n, hn⟩ : ∃ n, n = r.length := ⟨_, rfl⟩
  rw [← hn] at hc1 hl RD ⊢
  have HN := Lib.hid hn
  have bA : Below w.heap.size w (w.alloc (.cells #[] 56)) := (Below.refl _ _).alloc (Nat.le_refl _) _
  have LIT := Lib.hid (show (w.alloc (.cells #[] 56)).ownsRow w.heap.size 56 4 (.slice (some ⟨w.heap.size, 0, none⟩) 0 0) 0 [] from World.ownsRow_lit (base := w.heap.size) (e := 56) (size := 4) w #[] 0 (Nat.le_refl _) (by simp [maxLen]) rfl)
  have HBA := Lib.hid bA
  have RD2 := Lib.hid (RD.out.below bA)
  clear h hn hc0 bA
  go_enter Tryz.func18, Tryz.ntmps18
  go_wp2_with (at_builtin; refine wpList_append_g rfl _ _ 55 rfl w.heap.size 56 _ 4 48 Tryz.underlying55 info_kdRS rfl (by decide) _ 0 [] rfl LIT.out _ n (kdR r) rfl RD2.out (by rw [kdR_length, HN.out]) h1s.out ?c1 ?c2 ?c3 ?_)
  case c1 => unfold maxLen; omega
  case c2 => omega
  case c3 => exact HBA.out.size
  intro v5 w5 o5 f5
  have o5 : w5.ownsRow w.heap.size 56 4 v5 n (kdR r) := by simpa using o5
  have B5 := HBA.out.trans f5.below
  have hs5 := B5.size
  clear f5 LIT RD RD2 HBA
  rcases Nat.eq_zero_or_pos n with h0 | h0
  · subst h0
    have hr0 : r = [] := List.length_eq_zero_iff.1 HN.out.symm
    subst hr0
    have HO := Lib.hid o5
    obtain ⟨a5, c5, rfl, -⟩ := Rd.of_own o5
    clear o5
    go_wp2_with fail
    go_loopw [4] (fun i wr => i = .int .i64 1 ∧ wr = w5) (fun _ _ => 0)
    case atStart => exact ⟨rfl, by first | rfl | trivial⟩
    case round =>
      obtain ⟨rfl, rfl⟩ := hrel
      go_wp2_with fail
      go_ret
      exact ⟨_, rfl, by simpa using HO.out, B5⟩
  obtain ⟨g, cap, rfl, hrow⟩ : ∃ g cap, v5 = .slice (some ⟨g, 0, none⟩) n cap ∧ Rf.RowO w5 w.heap.size g cap r := by
    rcases o5.2 with ⟨_, h0'⟩ | ⟨g, cap, cur, e, h1, h2, h3⟩
    · omega
    · refine ⟨g, cap, e, ?_⟩
      rw [e] at o5
      unfold Rf.RowO
      rw [← HN.out]
      exact o5
  obtain ⟨Z, hZ⟩ : ∃ Z, Z = r.zipIdx := ⟨_, rfl⟩
  have hzl : Z.length = n := by rw [hZ, List.length_zipIdx, HN.out]
  have HR0 := Lib.hid (show Rf.RowO w5 w.heap.size g cap (vals (Z.take 1 ++ Z.drop 1)) by rw [List.take_append_drop, hZ, vals_zip]; exact hrow)
  have HZ := Lib.hid hZ
  have HZL := Lib.hid hzl
  have HRI := Lib.hid (show Rise Z by rw [hZ]; exact rise_zipK r)
  rw [← hZ] at HS
  have hgl0 := hrow.lt
  have hcap := hrow.cap
  rw [← HN.out] at hcap
  unfold maxLen at hcap
  clear o5 hrow hZ hzl h1s
  go_wp2_with fail
  go_loopw [4] (fun i wr => ∃ (k : Nat) (S : List Rk), 1 ≤ k ∧ k ≤ n ∧ i = .int .i64 k ∧ S.Perm (Z.take k) ∧ Srt S ∧ Rf.RowO wr w.heap.size g cap (vals (S ++ Z.drop k)) ∧ OnlG g w5 wr) (fun i _ => n - (intOf i).toNat)
  case atStart =>
    refine ⟨1, Z.take 1, by omega, by omega, rfl, List.Perm.refl _, ?_, HR0.out, OnlG.refl _ _⟩
    match Z with
    | [] => exact List.Pairwise.nil
    | [x] => exact List.pairwise_singleton _ _
    | x :: y :: l => exact List.pairwise_singleton _ _
  case round =>
    obtain ⟨k, S, hk1, hkn, rfl, hp, hso, hr, ho⟩ := hrel
    by_cases hlt : k < n
    · have t1 : decide ((k : Int) < (n : Int)) = true := by simp; omega
      have hkl : k < Z.length := by have := HZL.out; omega
      have hdk : Z.drop k = Z[k] :: Z.drop (k + 1) := List.drop_eq_getElem_cons hkl
      have htk : Z.take (k + 1) = Z.take k ++ [Z[k]] := List.take_succ_eq_append_getElem hkl
      have hsx := HS.out _ (List.getElem_mem hkl)
      have hrk : ∀ y ∈ S, y.2 < Z[k].2 := fun y hy => by
        obtain ⟨i, hi, hy'⟩ := mem_take_get (hp.mem_iff.1 hy)
        obtain ⟨hi', rfl⟩ := List.getElem?_eq_some_iff.1 hy'
        exact List.pairwise_iff_getElem.1 HRI.out i k hi' hkl hi
      have hSl : S.length = k := by rw [hp.length_eq, List.length_take]; omega
      have hsS : ∀ y ∈ S, IsSl y.1.2 := fun y hy => HS.out y (List.mem_of_mem_take (hp.mem_iff.1 hy))
      rw [hdk] at hr
      generalize Z[k] = x at *
      have HTK := Lib.hid htk
      have HP := Lib.hid hp
      have HRK := Lib.hid hrk
      have HSS := Lib.hid hsS
      have HSX := Lib.hid hsx
      have HSO := Lib.hid hso
      have HR := Lib.hid (show Rf.RowO wr w.heap.size g cap (vals (S ++ x :: ([] ++ Z.drop (k + 1)))) by simpa using hr)
      have HSl := Lib.hid hSl
      have HO := Lib.hid ho
      have hkz : k + 1 + (Z.drop (k + 1)).length = n := by rw [List.length_drop, HZL.out]; omega
      have HKZ := Lib.hid hkz
      clear hdk htk hp hrk hsS hsx hso hr hSl ho hkl hkz
      go_wp2_with fail
      go_loopw [5] (fun j wr2 => ∃ (P Q : List Rk) (J : Nat), J = P.length ∧ S = P ++ Q ∧ j = .int .i64 J ∧ Rf.RowO wr2 w.heap.size g cap (vals (P ++ x :: (Q ++ Z.drop (k + 1)))) ∧ (∀ z ∈ Q, ltK x.1.1 z.1.1 = true) ∧ OnlG g w5 wr2) (fun j _ => (intOf j).toNat)
      case atStart => exact ⟨S, [], k, HSl.out.symm, by simp, rfl, HR.out, fun z hz => (by cases hz), HO.out⟩
      case round =>
        obtain ⟨P, Q, J, hJ, hPQ, rfl, hr, hQ, ho⟩ := hrel
        have hPS : P.length ≤ S.length := by rw [hPQ]; simp
        have hJb : J ≤ k := by have := HSl.out; omega
        have HPQ := Lib.hid hPQ
        have HQ := Lib.hid hQ
        have HO2 := Lib.hid ho
        have hgl := hr.lt
        have FIN := Lib.hid (show ∀ w', Rf.RowO w' w.heap.size g cap (vals (P ++ x :: (Q ++ Z.drop (k + 1)))) → OnlG g w5 w' → (∀ y ∈ P, tle y x) → ∃ (k' : Nat) (S' : List Rk), 1 ≤ k' ∧ k' ≤ n ∧ Value.int .i64 ((k + 1 : Nat) : Int) = .int .i64 k' ∧ S'.Perm (Z.take k') ∧ Srt S' ∧ Rf.RowO w' w.heap.size g cap (vals (S' ++ Z.drop k')) ∧ OnlG g w5 w' from fun w' q1 q2 q3 => by
          refine ⟨k + 1, P ++ x :: Q, by omega, by omega, rfl, ?_, ?_, ?_, q2⟩
          · rw [HTK.out]
            have e : (P ++ x :: Q).Perm (S ++ [x]) := by
              rw [HPQ.out]
              exact (List.perm_middle).trans (List.perm_append_singleton x (P ++ Q)).symm
            exact e.trans (HP.out.append_right [x])
          · exact srt_in (by rw [← HPQ.out]; exact HSO.out) q3 (fun z hz => lt_tle (HQ.out z hz))
          · simpa using q1)
        rcases List.eq_nil_or_concat P with hP | ⟨P0, y, hP⟩
        · have hJ0 : J = 0 := by rw [hJ, hP]; rfl
          have t2 : decide ((0 : Int) < (J : Int)) = false := decide_eq_false (by omega)
          have t2n : decide (0 < J) = false := decide_eq_false (by omega)
          have F2 := Lib.hid (fun nq => FIN.out _ (hr.drewN nq) (ho.drewN nq) (fun y hy => by rw [hP] at hy; cases hy))
          clear hPQ hQ ho hr hP hJ0 hJ FIN
          go_wp2_with fail
          go_quiet (fail)
          go_wp2_with fail
          go_roundw
          case rel => exact F2.out _
          case measure => simp [intOf]; omega
        · rw [List.concat_eq_append] at hP
          obtain ⟨J0, hJ0⟩ : ∃ J0, J0 = P0.length := ⟨_, rfl⟩
          obtain rfl : J = J0 + 1 := by rw [hJ, hP, hJ0]; simp
          have t2 : decide ((0 : Int) < ((J0 + 1 : Nat) : Int)) = true := decide_eq_true (by omega)
          have t2n : decide (0 < J0 + 1) = true := decide_eq_true (by omega)
          have t4 : decide ((0 : Int) < (J0 : Int) + 1) = true := decide_eq_true (by omega)
          have wJ : IntKind.i64.wrap (J0 : Int) = (J0 : Int) := IntWalk.i64_in _ (by omega)
          have wJ1 : IntKind.i64.wrap ((J0 : Int) + 1) = (J0 : Int) + 1 := IntWalk.i64_in _ (by omega)
          have gx : (vals (P ++ x :: (Q ++ Z.drop (k + 1))))[J0 + 1]? = some x.1 := by
            have := vals_get (A := P) (C := Q ++ Z.drop (k + 1)) (x := x)
            rwa [← hJ] at this
          have gy : (vals (P ++ x :: (Q ++ Z.drop (k + 1))))[J0]? = some y.1 := by
            have := vals_get (A := P0) (C := x :: (Q ++ Z.drop (k + 1))) (x := y)
            rw [← hJ0] at this
            rw [hP]
            simpa using this
          obtain ⟨x0, x1, x2, x3⟩ := hr.cells gx
          obtain ⟨y0, y1, y2, y3⟩ := hr.cells gy
          have hsy : IsSl y.1.2 := HSS.out y (by rw [HPQ.out, hP]; simp)
          have CM := Lib.hid (fun w => LessK_any x.1 y.1 w HSX.out hsy)
          have HR2 := Lib.hid hr
          have i1 : (J0 : Int) + 1 < (n : Int) := by omega
          have i2 : (J0 : Int) < (n : Int) := by omega
          have i3 : (0 : Int) ≤ (J0 : Int) := by omega
          have i4 : (0 : Int) ≤ (J0 : Int) + 1 := by omega
          have HPP := Lib.hid hP
          have HJJ := Lib.hid hJ
          have HJ0 := Lib.hid hJ0
          have HGX := Lib.hid gx
          have HGY := Lib.hid gy
          clear hPQ hQ ho hr gx gy hP hJ hJ0
          go_wp2_with fail
          cases hc : ltK x.1.1 y.1.1 with
          | false =>
            rw [hc] at CM
            have F2 := Lib.hid (fun w' (hb : Below wr.heap.size wr w') => FIN.out _ (HR2.out.below hb) (HO2.out.trans (.of_below hb (Nat.le_of_lt hgl.2))) (by
              rw [HPP.out]
              exact srt_last (by have := HSO.out; rw [HPQ.out, HPP.out] at this; exact (List.pairwise_append.1 this).1) hc (fun z hz => HRK.out z (by rw [HPQ.out, HPP.out]; exact List.mem_append_left _ hz))))
            clear FIN hc
            refine wp_region_noPanic ?_
            refine wp_region_held_drew (S := fun w' => Below wr.heap.size wr w') (by kernel_rfl) (Below.refl _ _).drew (fun hHeld => ?_)
            generalize wr.drew = D at hHeld ⊢
            have kb : Below wr.heap.size wr D := hHeld
            refine wpAnyH_take (i := 0) (oi := ⟨some 16, _, _, _, _, _⟩) (v := ?qv0ka) rfl (by kernel_rfl) (by kernel_rfl) (by kernel_rfl) (fun _ _ _ h => h) (Or.inl ⟨by rfl, ?qy0ka⟩) hHeld ?qr0ka
            case qy0ka => (intro w' hSw; go_simp; try with_reducible rfl)
            try simp only [Act.put, List.setIfInBounds_toArray, List.set_cons_zero, List.set_cons_succ]
            refine wpAnyH_take (i := 1) (oi := ⟨some 17, _, _, _, _, _⟩) (v := ?qv1ka) rfl (by kernel_rfl) (by kernel_rfl) (by kernel_rfl) (fun _ _ _ h => h) (Or.inl ⟨by rfl, ?qy1ka⟩) hHeld ?qr1ka
            case qy1ka => (intro w' hSw; go_simp; try with_reducible rfl)
            try simp only [Act.put, List.setIfInBounds_toArray, List.set_cons_zero, List.set_cons_succ]
            refine wpAnyH_take (i := 2) (oi := ⟨some 18, _, _, _, _, _⟩) (v := ?qv2ka) rfl (by kernel_rfl) (by kernel_rfl) (by kernel_rfl) (fun _ _ _ h => h) (Or.inl ⟨by rfl, ?qy2ka⟩) hHeld ?qr2ka
            case qy2ka => (intro w' hSw; go_simp; try with_reducible rfl)
            try simp only [Act.put, List.setIfInBounds_toArray, List.set_cons_zero, List.set_cons_succ]
            refine wpAnyH_take (i := 3) (oi := ⟨some 19, _, _, _, _, _⟩) (v := ?qv3ka) rfl (by kernel_rfl) (by kernel_rfl) (by kernel_rfl) (fun _ _ _ h => h) (Or.inl ⟨by rfl, ?qy3ka⟩) hHeld ?qr3ka
            case qy3ka => (intro w' hSw; go_simp; try with_reducible rfl)
            try simp only [Act.put, List.setIfInBounds_toArray, List.set_cons_zero, List.set_cons_succ]
            refine wpAnyH_take (i := 4) (oi := ⟨some 20, _, _, _, _, _⟩) (v := ?qv4ka) rfl (by kernel_rfl) (by kernel_rfl) (by kernel_rfl) (fun _ _ _ h => h) (Or.inl ⟨by rfl, ?qy4ka⟩) hHeld ?qr4ka
            case qy4ka => (intro w' hSw; go_simp; try with_reducible rfl)
            try simp only [Act.put, List.setIfInBounds_toArray, List.set_cons_zero, List.set_cons_succ]
            refine wpAnyH_take (i := 5) (oi := ⟨some 21, _, _, _, _, _⟩) (v := ?qv5ka) rfl (by kernel_rfl) (by kernel_rfl) (by kernel_rfl) (fun _ _ _ h => h) (Or.inl ⟨by rfl, ?qy5ka⟩) hHeld ?qr5ka
            case qy5ka => (intro w' hSw; go_simp; try with_reducible rfl)
            try simp only [Act.put, List.setIfInBounds_toArray, List.set_cons_zero, List.set_cons_succ]
            refine wpAnyH_take (i := 6) (oi := ⟨some 22, _, _, _, _, _⟩) (v := ?qv6ka) rfl (by kernel_rfl) (by kernel_rfl) (by kernel_rfl) (fun _ _ _ h => h) (Or.inl ⟨by rfl, ?qy6ka⟩) hHeld ?qr6ka
            case qy6ka => (intro w' hSw; have q0 := (hSw.cell (p := ⟨g, (J0 + 1) * 4, none⟩) hgl.2).trans x0; have q1 := (hSw.cell (p := ⟨g, (J0 + 1) * 4 + 1, none⟩) hgl.2).trans x1; have q2 := (hSw.cell (p := ⟨g, (J0 + 1) * 4 + 2, none⟩) hgl.2).trans x2; have q3 := (hSw.cell (p := ⟨g, (J0 + 1) * 4 + 3, none⟩) hgl.2).trans x3; have p0 := (hSw.cell (p := ⟨g, J0 * 4, none⟩) hgl.2).trans y0; have p1 := (hSw.cell (p := ⟨g, J0 * 4 + 1, none⟩) hgl.2).trans y1; have p2 := (hSw.cell (p := ⟨g, J0 * 4 + 2, none⟩) hgl.2).trans y2; have p3 := (hSw.cell (p := ⟨g, J0 * 4 + 3, none⟩) hgl.2).trans y3; go_simp; try with_reducible rfl)
            try simp only [Act.put, List.setIfInBounds_toArray, List.set_cons_zero, List.set_cons_succ]
            refine wpAnyH_take (i := 7) (oi := ⟨some 23, _, _, _, _, _⟩) (v := ?qv7ka) rfl (by kernel_rfl) (by kernel_rfl) (by kernel_rfl) (fun _ _ _ h => h) (Or.inl ⟨by rfl, ?qy7ka⟩) hHeld ?qr7ka
            case qy7ka => (intro w' hSw; go_simp; try with_reducible rfl)
            try simp only [Act.put, List.setIfInBounds_toArray, List.set_cons_zero, List.set_cons_succ]
            refine wpAnyH_take (i := 8) (oi := ⟨some 24, _, _, _, _, _⟩) (v := ?qv8ka) rfl (by kernel_rfl) (by kernel_rfl) (by kernel_rfl) (fun _ _ _ h => h) (Or.inl ⟨by rfl, ?qy8ka⟩) hHeld ?qr8ka
            case qy8ka => (intro w' hSw; go_simp; try with_reducible rfl)
            try simp only [Act.put, List.setIfInBounds_toArray, List.set_cons_zero, List.set_cons_succ]
            refine wpAnyH_take (i := 9) (oi := ⟨some 25, _, _, _, _, _⟩) (v := ?qv9ka) rfl (by kernel_rfl) (by kernel_rfl) (by kernel_rfl) (fun _ _ _ h => h) (Or.inl ⟨by rfl, ?qy9ka⟩) hHeld ?qr9ka
            case qy9ka => (intro w' hSw; go_simp; try with_reducible rfl)
            try simp only [Act.put, List.setIfInBounds_toArray, List.set_cons_zero, List.set_cons_succ]
            refine wpAnyH_take (i := 10) (oi := ⟨some 26, _, _, _, _, _⟩) (v := ?qv10ka) rfl (by kernel_rfl) (by kernel_rfl) (by kernel_rfl) (fun _ _ _ h => h) (Or.inl ⟨by rfl, ?qy10ka⟩) hHeld ?qr10ka
            case qy10ka => (intro w' hSw; go_simp; try with_reducible rfl)
            try simp only [Act.put, List.setIfInBounds_toArray, List.set_cons_zero, List.set_cons_succ]
            refine wpAnyH_take (i := 11) (oi := ⟨some 27, _, _, _, _, _⟩) (v := ?qv11ka) rfl (by kernel_rfl) (by kernel_rfl) (by kernel_rfl) (fun _ _ _ h => h) (Or.inl ⟨by rfl, ?qy11ka⟩) hHeld ?qr11ka
            case qy11ka => (intro w' hSw; have q0 := (hSw.cell (p := ⟨g, (J0 + 1) * 4, none⟩) hgl.2).trans x0; have q1 := (hSw.cell (p := ⟨g, (J0 + 1) * 4 + 1, none⟩) hgl.2).trans x1; have q2 := (hSw.cell (p := ⟨g, (J0 + 1) * 4 + 2, none⟩) hgl.2).trans x2; have q3 := (hSw.cell (p := ⟨g, (J0 + 1) * 4 + 3, none⟩) hgl.2).trans x3; have p0 := (hSw.cell (p := ⟨g, J0 * 4, none⟩) hgl.2).trans y0; have p1 := (hSw.cell (p := ⟨g, J0 * 4 + 1, none⟩) hgl.2).trans y1; have p2 := (hSw.cell (p := ⟨g, J0 * 4 + 2, none⟩) hgl.2).trans y2; have p3 := (hSw.cell (p := ⟨g, J0 * 4 + 3, none⟩) hgl.2).trans y3; go_simp; try with_reducible rfl)
            try simp only [Act.put, List.setIfInBounds_toArray, List.set_cons_zero, List.set_cons_succ]
            refine wpAnyH_ready (rs := [12]) (by kernel_rfl) (by simp) ?_
            refine AllReadyH.cons (o := ⟨some 28, _, _, _, _, _⟩) rfl (fun K hK => ?_) AllReadyH.nil
            refine step_go (by rfl) 34 _ _ (by rfl) (fun _ _ => by kernel_rfl) _ (by rfl) (CM.out _) ?_
            rintro e w4 ⟨rfl, b4⟩
            refine ⟨_, rfl, ?_⟩
            refine hK.out _ _ (kb.trans (b4.mono kb.size)) (fun hHeld => ?_)
            clear hK K
            try simp only [Act.put, List.setIfInBounds_toArray, List.set_cons_zero, List.set_cons_succ]
            refine wpAnyH_take (i := 13) (oi := ⟨some 29, _, _, _, _, _⟩) (v := ?qv13ka) rfl (by kernel_rfl) (by kernel_rfl) (by kernel_rfl) (fun _ _ _ h => h) (Or.inl ⟨by rfl, ?qy13ka⟩) hHeld ?qr13ka
            case qy13ka => (intro w' hSw; go_simp; try with_reducible rfl)
            try simp only [Act.put, List.setIfInBounds_toArray, List.set_cons_zero, List.set_cons_succ]
            refine wpAnyH_done (by kernel_rfl) ?_ _
            refine NoPanic.normal ?_
            have F3 := F2.out _ (show Below wr.heap.size wr w4 from hHeld)
            have F4 := Lib.hid F3
            clear F3 F2 hHeld kb b4
            go_wp2_with fail
            go_roundw
            case rel => exact F4.out
            case measure => simp [intOf]; omega
          | true =>
            rw [hc] at CM
            refine wp_region_noPanic ?_
            refine wp_region_held_drew (S := fun w' => Below wr.heap.size wr w') (by kernel_rfl) (Below.refl _ _).drew (fun hHeld => ?_)
            generalize wr.drew = D at hHeld ⊢
            have kb : Below wr.heap.size wr D := hHeld
            refine wpAnyH_take (i := 0) (oi := ⟨some 16, _, _, _, _, _⟩) (v := ?qv0kc) rfl (by kernel_rfl) (by kernel_rfl) (by kernel_rfl) (fun _ _ _ h => h) (Or.inl ⟨by rfl, ?qy0kc⟩) hHeld ?qr0kc
            case qy0kc => (intro w' hSw; go_simp; try with_reducible rfl)
            try simp only [Act.put, List.setIfInBounds_toArray, List.set_cons_zero, List.set_cons_succ]
            refine wpAnyH_take (i := 1) (oi := ⟨some 17, _, _, _, _, _⟩) (v := ?qv1kc) rfl (by kernel_rfl) (by kernel_rfl) (by kernel_rfl) (fun _ _ _ h => h) (Or.inl ⟨by rfl, ?qy1kc⟩) hHeld ?qr1kc
            case qy1kc => (intro w' hSw; go_simp; try with_reducible rfl)
            try simp only [Act.put, List.setIfInBounds_toArray, List.set_cons_zero, List.set_cons_succ]
            refine wpAnyH_take (i := 2) (oi := ⟨some 18, _, _, _, _, _⟩) (v := ?qv2kc) rfl (by kernel_rfl) (by kernel_rfl) (by kernel_rfl) (fun _ _ _ h => h) (Or.inl ⟨by rfl, ?qy2kc⟩) hHeld ?qr2kc
            case qy2kc => (intro w' hSw; go_simp; try with_reducible rfl)
            try simp only [Act.put, List.setIfInBounds_toArray, List.set_cons_zero, List.set_cons_succ]
            refine wpAnyH_take (i := 3) (oi := ⟨some 19, _, _, _, _, _⟩) (v := ?qv3kc) rfl (by kernel_rfl) (by kernel_rfl) (by kernel_rfl) (fun _ _ _ h => h) (Or.inl ⟨by rfl, ?qy3kc⟩) hHeld ?qr3kc
            case qy3kc => (intro w' hSw; go_simp; try with_reducible rfl)
            try simp only [Act.put, List.setIfInBounds_toArray, List.set_cons_zero, List.set_cons_succ]
            refine wpAnyH_take (i := 4) (oi := ⟨some 20, _, _, _, _, _⟩) (v := ?qv4kc) rfl (by kernel_rfl) (by kernel_rfl) (by kernel_rfl) (fun _ _ _ h => h) (Or.inl ⟨by rfl, ?qy4kc⟩) hHeld ?qr4kc
            case qy4kc => (intro w' hSw; go_simp; try with_reducible rfl)
            try simp only [Act.put, List.setIfInBounds_toArray, List.set_cons_zero, List.set_cons_succ]
            refine wpAnyH_take (i := 5) (oi := ⟨some 21, _, _, _, _, _⟩) (v := ?qv5kc) rfl (by kernel_rfl) (by kernel_rfl) (by kernel_rfl) (fun _ _ _ h => h) (Or.inl ⟨by rfl, ?qy5kc⟩) hHeld ?qr5kc
            case qy5kc => (intro w' hSw; go_simp; try with_reducible rfl)
            try simp only [Act.put, List.setIfInBounds_toArray, List.set_cons_zero, List.set_cons_succ]
            refine wpAnyH_take (i := 6) (oi := ⟨some 22, _, _, _, _, _⟩) (v := ?qv6kc) rfl (by kernel_rfl) (by kernel_rfl) (by kernel_rfl) (fun _ _ _ h => h) (Or.inl ⟨by rfl, ?qy6kc⟩) hHeld ?qr6kc
            case qy6kc => (intro w' hSw; have q0 := (hSw.cell (p := ⟨g, (J0 + 1) * 4, none⟩) hgl.2).trans x0; have q1 := (hSw.cell (p := ⟨g, (J0 + 1) * 4 + 1, none⟩) hgl.2).trans x1; have q2 := (hSw.cell (p := ⟨g, (J0 + 1) * 4 + 2, none⟩) hgl.2).trans x2; have q3 := (hSw.cell (p := ⟨g, (J0 + 1) * 4 + 3, none⟩) hgl.2).trans x3; have p0 := (hSw.cell (p := ⟨g, J0 * 4, none⟩) hgl.2).trans y0; have p1 := (hSw.cell (p := ⟨g, J0 * 4 + 1, none⟩) hgl.2).trans y1; have p2 := (hSw.cell (p := ⟨g, J0 * 4 + 2, none⟩) hgl.2).trans y2; have p3 := (hSw.cell (p := ⟨g, J0 * 4 + 3, none⟩) hgl.2).trans y3; go_simp; try with_reducible rfl)
            try simp only [Act.put, List.setIfInBounds_toArray, List.set_cons_zero, List.set_cons_succ]
            refine wpAnyH_take (i := 7) (oi := ⟨some 23, _, _, _, _, _⟩) (v := ?qv7kc) rfl (by kernel_rfl) (by kernel_rfl) (by kernel_rfl) (fun _ _ _ h => h) (Or.inl ⟨by rfl, ?qy7kc⟩) hHeld ?qr7kc
            case qy7kc => (intro w' hSw; go_simp; try with_reducible rfl)
            try simp only [Act.put, List.setIfInBounds_toArray, List.set_cons_zero, List.set_cons_succ]
            refine wpAnyH_take (i := 8) (oi := ⟨some 24, _, _, _, _, _⟩) (v := ?qv8kc) rfl (by kernel_rfl) (by kernel_rfl) (by kernel_rfl) (fun _ _ _ h => h) (Or.inl ⟨by rfl, ?qy8kc⟩) hHeld ?qr8kc
            case qy8kc => (intro w' hSw; go_simp; try with_reducible rfl)
            try simp only [Act.put, List.setIfInBounds_toArray, List.set_cons_zero, List.set_cons_succ]
            refine wpAnyH_take (i := 9) (oi := ⟨some 25, _, _, _, _, _⟩) (v := ?qv9kc) rfl (by kernel_rfl) (by kernel_rfl) (by kernel_rfl) (fun _ _ _ h => h) (Or.inl ⟨by rfl, ?qy9kc⟩) hHeld ?qr9kc
            case qy9kc => (intro w' hSw; go_simp; try with_reducible rfl)
            try simp only [Act.put, List.setIfInBounds_toArray, List.set_cons_zero, List.set_cons_succ]
            refine wpAnyH_take (i := 10) (oi := ⟨some 26, _, _, _, _, _⟩) (v := ?qv10kc) rfl (by kernel_rfl) (by kernel_rfl) (by kernel_rfl) (fun _ _ _ h => h) (Or.inl ⟨by rfl, ?qy10kc⟩) hHeld ?qr10kc
            case qy10kc => (intro w' hSw; go_simp; try with_reducible rfl)
            try simp only [Act.put, List.setIfInBounds_toArray, List.set_cons_zero, List.set_cons_succ]
            refine wpAnyH_take (i := 11) (oi := ⟨some 27, _, _, _, _, _⟩) (v := ?qv11kc) rfl (by kernel_rfl) (by kernel_rfl) (by kernel_rfl) (fun _ _ _ h => h) (Or.inl ⟨by rfl, ?qy11kc⟩) hHeld ?qr11kc
            case qy11kc => (intro w' hSw; have q0 := (hSw.cell (p := ⟨g, (J0 + 1) * 4, none⟩) hgl.2).trans x0; have q1 := (hSw.cell (p := ⟨g, (J0 + 1) * 4 + 1, none⟩) hgl.2).trans x1; have q2 := (hSw.cell (p := ⟨g, (J0 + 1) * 4 + 2, none⟩) hgl.2).trans x2; have q3 := (hSw.cell (p := ⟨g, (J0 + 1) * 4 + 3, none⟩) hgl.2).trans x3; have p0 := (hSw.cell (p := ⟨g, J0 * 4, none⟩) hgl.2).trans y0; have p1 := (hSw.cell (p := ⟨g, J0 * 4 + 1, none⟩) hgl.2).trans y1; have p2 := (hSw.cell (p := ⟨g, J0 * 4 + 2, none⟩) hgl.2).trans y2; have p3 := (hSw.cell (p := ⟨g, J0 * 4 + 3, none⟩) hgl.2).trans y3; go_simp; try with_reducible rfl)
            try simp only [Act.put, List.setIfInBounds_toArray, List.set_cons_zero, List.set_cons_succ]
            refine wpAnyH_ready (rs := [12]) (by kernel_rfl) (by simp) ?_
            refine AllReadyH.cons (o := ⟨some 28, _, _, _, _, _⟩) rfl (fun K hK => ?_) AllReadyH.nil
            refine step_go (by rfl) 34 _ _ (by rfl) (fun _ _ => by kernel_rfl) _ (by rfl) (CM.out _) ?_
            rintro e w4 ⟨rfl, b4⟩
            refine ⟨_, rfl, ?_⟩
            refine hK.out _ _ (kb.trans (b4.mono kb.size)) (fun hHeld => ?_)
            clear hK K
            try simp only [Act.put, List.setIfInBounds_toArray, List.set_cons_zero, List.set_cons_succ]
            refine wpAnyH_take (i := 13) (oi := ⟨some 29, _, _, _, _, _⟩) (v := ?qv13kc) rfl (by kernel_rfl) (by kernel_rfl) (by kernel_rfl) (fun _ _ _ h => h) (Or.inl ⟨by rfl, ?qy13kc⟩) hHeld ?qr13kc
            case qy13kc => (intro w' hSw; go_simp; try with_reducible rfl)
            try simp only [Act.put, List.setIfInBounds_toArray, List.set_cons_zero, List.set_cons_succ]
            refine wpAnyH_done (by kernel_rfl) ?_ _
            refine NoPanic.normal ?_
            have b5 : Below wr.heap.size wr w4 := hHeld
            have R4 := HR2.out.below b5
            have O4 := HO2.out.trans (.of_below b5 (Nat.le_of_lt hgl.2))
            have hg4 := R4.lt
            have hlv : (vals (P ++ x :: (Q ++ Z.drop (k + 1)))).length = n := by
              have e1 : (vals (P ++ x :: (Q ++ Z.drop (k + 1)))).length = P.length + (Q.length + (Z.drop (k + 1)).length + 1) := by simp
              have e2 : S.length = P.length + Q.length := by rw [HPQ.out, List.length_append]
              have := HSl.out; have := HKZ.out
              rw [e1]
              omega
            have hJn : J0 + 1 < n := by omega
            have carry : Rf.RowO w4.drew w.heap.size g cap (vals (P ++ x :: (Q ++ Z.drop (k + 1)))) ∧ OnlG g w5 w4.drew := ⟨R4.drew, O4.drew⟩
            have FIN2 := Lib.hid (show ∀ w', Rf.RowO w' w.heap.size g cap (((vals (P ++ x :: (Q ++ Z.drop (k + 1)))).set (J0 + 1) y.1).set J0 x.1) → Rf.RowO w' w.heap.size g cap (vals (P0 ++ x :: ((y :: Q) ++ Z.drop (k + 1)))) from fun w' h => by
              have e : ((vals (P ++ x :: (Q ++ Z.drop (k + 1)))).set (J0 + 1) y.1).set J0 x.1 = vals (P0 ++ x :: ((y :: Q) ++ Z.drop (k + 1))) := by
                have l0 : J0 = (vals P0).length := by rw [vals, List.length_map, HJ0.out]
                have e1 : vals (P ++ x :: (Q ++ Z.drop (k + 1))) = vals P0 ++ y.1 :: x.1 :: vals (Q ++ Z.drop (k + 1)) := by rw [HPP.out]; simp [vals]
                rw [e1, l0, swap_adj]
                simp [vals]
              rw [← e]; exact h)
            have QQ := Lib.hid (show ∀ z ∈ y :: Q, ltK x.1.1 z.1.1 = true from fun z hz => by
              rcases List.mem_cons.1 hz with rfl | hz
              · exact hc
              · exact HQ.out z hz)
            clear hHeld kb b4 b5 R4 O4 x0 x1 x2 x3 y0 y1 y2 y3 HR2 FIN
            have HLV := Lib.hid hlv
            clear hlv hc
            go_wp2_with fail
            refine wp_region_noPanic ?_
            refine wp_region_held_drew (S := fun _ => True) (by kernel_rfl) (trivial) (fun hHeld => ?_)
            generalize w4.drew = D at hHeld carry ⊢
            have kc := hHeld
            refine wpAnyH_take (i := 0) (oi := ⟨some 32, _, _, _, _, _⟩) (v := ?qv0kd) rfl (by kernel_rfl) (by kernel_rfl) (by kernel_rfl) (fun _ _ _ h => h) (Or.inl ⟨by rfl, ?qy0kd⟩) hHeld ?qr0kd
            case qy0kd => (intro w' hSw; go_simp; try with_reducible rfl)
            try simp only [Act.put, List.setIfInBounds_toArray, List.set_cons_zero, List.set_cons_succ]
            refine wpAnyH_take (i := 1) (oi := ⟨some 33, _, _, _, _, _⟩) (v := ?qv1kd) rfl (by kernel_rfl) (by kernel_rfl) (by kernel_rfl) (fun _ _ _ h => h) (Or.inl ⟨by rfl, ?qy1kd⟩) hHeld ?qr1kd
            case qy1kd => (intro w' hSw; go_simp; try with_reducible rfl)
            try simp only [Act.put, List.setIfInBounds_toArray, List.set_cons_zero, List.set_cons_succ]
            refine wpAnyH_take (i := 2) (oi := ⟨some 34, _, _, _, _, _⟩) (v := ?qv2kd) rfl (by kernel_rfl) (by kernel_rfl) (by kernel_rfl) (fun _ _ _ h => h) (Or.inl ⟨by rfl, ?qy2kd⟩) hHeld ?qr2kd
            case qy2kd => (intro w' hSw; go_simp; try with_reducible rfl)
            try simp only [Act.put, List.setIfInBounds_toArray, List.set_cons_zero, List.set_cons_succ]
            refine wpAnyH_take (i := 3) (oi := ⟨some 35, _, _, _, _, _⟩) (v := ?qv3kd) rfl (by kernel_rfl) (by kernel_rfl) (by kernel_rfl) (fun _ _ _ h => h) (Or.inl ⟨by rfl, ?qy3kd⟩) hHeld ?qr3kd
            case qy3kd => (intro w' hSw; go_simp; try with_reducible rfl)
            try simp only [Act.put, List.setIfInBounds_toArray, List.set_cons_zero, List.set_cons_succ]
            refine wpAnyH_take (i := 4) (oi := ⟨some 36, _, _, _, _, _⟩) (v := ?qv4kd) rfl (by kernel_rfl) (by kernel_rfl) (by kernel_rfl) (fun _ _ _ h => h) (Or.inl ⟨by rfl, ?qy4kd⟩) hHeld ?qr4kd
            case qy4kd => (intro w' hSw; go_simp; try with_reducible rfl)
            try simp only [Act.put, List.setIfInBounds_toArray, List.set_cons_zero, List.set_cons_succ]
            refine wpAnyH_take (i := 5) (oi := ⟨some 37, _, _, _, _, _⟩) (v := ?qv5kd) rfl (by kernel_rfl) (by kernel_rfl) (by kernel_rfl) (fun _ _ _ h => h) (Or.inl ⟨by rfl, ?qy5kd⟩) hHeld ?qr5kd
            case qy5kd => (intro w' hSw; go_simp; try with_reducible rfl)
            try simp only [Act.put, List.setIfInBounds_toArray, List.set_cons_zero, List.set_cons_succ]
            refine wpAnyH_take (i := 6) (oi := ⟨some 38, _, _, _, _, _⟩) (v := ?qv6kd) rfl (by kernel_rfl) (by kernel_rfl) (by kernel_rfl) (fun _ _ _ h => h) (Or.inl ⟨by rfl, ?qy6kd⟩) hHeld ?qr6kd
            case qy6kd => (intro w' hSw; go_simp; try with_reducible rfl)
            try simp only [Act.put, List.setIfInBounds_toArray, List.set_cons_zero, List.set_cons_succ]
            refine wpAnyH_take (i := 7) (oi := ⟨some 39, _, _, _, _, _⟩) (v := ?qv7kd) rfl (by kernel_rfl) (by kernel_rfl) (by kernel_rfl) (fun _ _ _ h => h) (Or.inl ⟨by rfl, ?qy7kd⟩) hHeld ?qr7kd
            case qy7kd => (intro w' hSw; go_simp; try with_reducible rfl)
            try simp only [Act.put, List.setIfInBounds_toArray, List.set_cons_zero, List.set_cons_succ]
            refine wpAnyH_take (i := 8) (oi := ⟨some 40, _, _, _, _, _⟩) (v := ?qv8kd) rfl (by kernel_rfl) (by kernel_rfl) (by kernel_rfl) (fun _ _ _ h => h) (Or.inl ⟨by rfl, ?qy8kd⟩) hHeld ?qr8kd
            case qy8kd => (intro w' hSw; go_simp; try with_reducible rfl)
            try simp only [Act.put, List.setIfInBounds_toArray, List.set_cons_zero, List.set_cons_succ]
            refine wpAnyH_take (i := 10) (oi := ⟨some 42, _, _, _, _, _⟩) (v := ?qv10kd) rfl (by kernel_rfl) (by kernel_rfl) (by kernel_rfl) (fun _ _ _ h => h) (Or.inl ⟨by rfl, ?qy10kd⟩) hHeld ?qr10kd
            case qy10kd => (intro w' hSw; go_simp; try with_reducible rfl)
            try simp only [Act.put, List.setIfInBounds_toArray, List.set_cons_zero, List.set_cons_succ]
            refine wpAnyH_take (i := 11) (oi := ⟨some 43, _, _, _, _, _⟩) (v := ?qv11kd) rfl (by kernel_rfl) (by kernel_rfl) (by kernel_rfl) (fun _ _ _ h => h) (Or.inl ⟨by rfl, ?qy11kd⟩) hHeld ?qr11kd
            case qy11kd => (intro w' hSw; go_simp; try with_reducible rfl)
            try simp only [Act.put, List.setIfInBounds_toArray, List.set_cons_zero, List.set_cons_succ]
            refine wpAnyH_take (i := 12) (oi := ⟨some 44, _, _, _, _, _⟩) (v := ?qv12kd) rfl (by kernel_rfl) (by kernel_rfl) (by kernel_rfl) (fun _ _ _ h => h) (Or.inl ⟨by rfl, ?qy12kd⟩) hHeld ?qr12kd
            case qy12kd => (intro w' hSw; go_simp; try with_reducible rfl)
            try simp only [Act.put, List.setIfInBounds_toArray, List.set_cons_zero, List.set_cons_succ]
            refine wpAnyH_load2 (i := 9) (j := 13) (oi := ⟨some 41, _, _, _, _, _⟩) (oj := ⟨some 45, _, _, _, _, _⟩) (vi := ?vi9kd) (vj := ?vj13kd) rfl rfl (by decide) (by kernel_rfl) (by kernel_rfl) (by kernel_rfl) (Or.inl ⟨by rfl, ?yakd⟩) (Or.inl ⟨by rfl, ?ybkd⟩) (Or.inl ⟨by rfl, ?yckd⟩) (Or.inl ⟨by rfl, ?ydkd⟩) ?yekd hHeld ?yfkd
            case yakd => (intro w' hSw; subst hSw; obtain ⟨x0, x1, x2, x3⟩ := carry.1.cells HGX.out; obtain ⟨y0, y1, y2, y3⟩ := carry.1.cells HGY.out; go_simp; try with_reducible rfl)
            case ybkd => (intro w' hSw; subst hSw; obtain ⟨x0, x1, x2, x3⟩ := carry.1.cells HGX.out; obtain ⟨y0, y1, y2, y3⟩ := carry.1.cells HGY.out; go_simp; try with_reducible rfl)
            case yckd => (intro w' hSw; subst hSw; obtain ⟨x0, x1, x2, x3⟩ := carry.1.cells HGX.out; obtain ⟨y0, y1, y2, y3⟩ := carry.1.cells HGY.out; go_simp; try with_reducible rfl)
            case ydkd => (intro w' hSw; subst hSw; obtain ⟨x0, x1, x2, x3⟩ := carry.1.cells HGX.out; obtain ⟨y0, y1, y2, y3⟩ := carry.1.cells HGY.out; go_simp; try with_reducible rfl)
            case yekd => rfl
            try simp only [Act.put, List.setIfInBounds_toArray, List.set_cons_zero, List.set_cons_succ]
            refine wpAnyH_take (i := 14) (oi := ⟨some 46, _, _, _, _, _⟩) (v := ?qv14kd) rfl (by kernel_rfl) (by kernel_rfl) (by kernel_rfl) (fun _ _ _ h => h) (Or.inl ⟨by rfl, ?qy14kd⟩) hHeld ?qr14kd
            case qy14kd => (intro w' hSw; go_simp; try with_reducible rfl)
            try simp only [Act.put, List.setIfInBounds_toArray, List.set_cons_zero, List.set_cons_succ]
            refine wpAnyH_ready (rs := [15]) (by kernel_rfl) (by simp) ?_
            refine AllReadyH.cons (o := ⟨none, _, _, _, _, _⟩) rfl (fun K hK => ?_) AllReadyH.nil
            refine Rf.step_store_kd (by rfl) _ _ (by rfl) w.heap.size g cap (J0 + 1) _ y.1 (by rfl) (by rfl) hsy carry.1 (by rw [HLV.out]; exact hJn) ?_
            intro w6 R6 O6
            refine hK.out _ _ trivial (fun hHeld => ?_)
            clear hK K
            try simp only [Act.put, List.setIfInBounds_toArray, List.set_cons_zero, List.set_cons_succ]
            refine wpAnyH_take (i := 16) (oi := ⟨some 47, _, _, _, _, _⟩) (v := ?qv16kd) rfl (by kernel_rfl) (by kernel_rfl) (by kernel_rfl) (fun _ _ _ h => h) (Or.inl ⟨by rfl, ?qy16kd⟩) hHeld ?qr16kd
            case qy16kd => (intro w' hSw; go_simp; try with_reducible rfl)
            try simp only [Act.put, List.setIfInBounds_toArray, List.set_cons_zero, List.set_cons_succ]
            refine wpAnyH_ready (rs := [17]) (by kernel_rfl) (by simp) ?_
            refine AllReadyH.cons (o := ⟨none, _, _, _, _, _⟩) rfl (fun K hK => ?_) AllReadyH.nil
            refine Rf.step_store_kd (by rfl) _ _ (by rfl) w.heap.size g cap J0 _ x.1 (by rfl) (by rfl) HSX.out R6 (by rw [List.length_set, HLV.out]; exact Nat.lt_of_succ_lt hJn) ?_
            intro w7 R7 O7
            refine hK.out _ _ trivial (fun hHeld => ?_)
            clear hK K
            try simp only [Act.put, List.setIfInBounds_toArray, List.set_cons_zero, List.set_cons_succ]
            refine wpAnyH_done (by kernel_rfl) ?_ _
            refine NoPanic.normal ?_
            have R8 := Lib.hid (FIN2.out _ R7)
            have O8 := Lib.hid ((carry.2.trans O6).trans O7)
            clear carry R6 O6 R7 O7 hHeld kc
            go_wp2_with fail
            go_roundw
            case rel => exact ⟨P0, y :: Q, J0, HJ0.out, by rw [HPQ.out, HPP.out]; simp, by go_num, R8.out, QQ.out, O8.out⟩
            case measure => simp [intOf]
    · obtain rfl : k = n := by omega
      have t1 : decide ((k : Int) < (k : Int)) = false := by simp
      have FIN := Lib.hid (show wr.ownsRow w.heap.size 56 4 (.slice (some ⟨g, 0, none⟩) k cap) k (kdR (r.mergeSort leV)) ∧ Below w.heap.size w wr by
        rw [List.drop_eq_nil_of_le (by rw [HZL.out]; exact Nat.le_refl _), List.append_nil] at hr
        rw [List.take_of_length_le (by rw [HZL.out]; exact Nat.le_refl _), HZ.out] at hp
        have e := srt_unique r S hp hso
        rw [← e]
        have hlen : (vals S).length = k := by rw [vals, List.length_map, hp.length_eq, List.length_zipIdx, HN.out]
        unfold Rf.RowO at hr
        rw [hlen] at hr
        exact ⟨hr, B5.trans (ho.below.mono hgl0.1)⟩)
      clear hp hso hr ho
      go_wp2_with fail
      go_ret
      exact ⟨_, rfl, FIN.out.1, FIN.out.2⟩
end Go.Proofs.YtoggbmfjjenbaaaGreatDoor
