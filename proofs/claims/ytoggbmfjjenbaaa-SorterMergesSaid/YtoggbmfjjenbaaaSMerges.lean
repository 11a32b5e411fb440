/- pergolalaw20.SorterMerges. -/
import Derived.Test.YtoggbmfjjenbaaaSKeyed
set_option linter.unusedSimpArgs false
set_option linter.unusedVariables false
namespace Go.Proofs.Ytoggbmfjjenbaaa
open Go.RowKit

theorem RunOwn.lenEq {w : World} {B : Nat} {v : Value} {r : List KdV} {L : List KdL} (h : r.map Prod.fst = L) : r.length = L.length := by rw [← h, List.length_map]

set_option maxRecDepth 100000 in
set_option maxHeartbeats 16000000 in
theorem merges_any (v : Value) (r : List KdV) (sa sb : Int) (w : World) (h : ItRd w v r) (hk : KeyIs r) :
    Calls Try.prog 4 #[v, .int .i64 sa, .int .i64 sb] w fun e w' => e = .returned (.bool true) ∧ Below w.heap.size w w' := by
  have AW := Lib.hid awake20_any
  have SM := Lib.hid (small_any v r w h)
  have HR := Lib.hid h
  have HK := Lib.hid hk
  obtain ⟨ao, c, rfl, hc1, hc2, -, -⟩ := h.open
  unfold maxLen at hc2
  clear h hk
  go_enter Try.func4, Try.ntmps4
  go_wp2_with fail
  refine SM.out.mono ?_
  rintro e w1 ⟨b, rfl, hsm, b1⟩
  have HSM := Lib.hid hsm
  clear hsm SM
  by_cases hall : b = true ∧ 1 ≤ sa ∧ sa ≤ 1000 ∧ 1 ≤ sb ∧ sb ≤ 1000
  case neg =>
    have q1 : b = true → ¬ sa < 1 → ¬ 1000 < sa → ¬ sb < 1 → ¬ 1000 < sb → False := fun x0 x1 x2 x3 x4 => hall ⟨x0, by omega, by omega, by omega, by omega⟩
    clear hall
    rcases hb0 : b with _ | _
    · go_wp2_with fail
      refine (AW.out _).mono ?_
      rintro e wz ⟨rfl, bz⟩
      go_wp2_with fail
      go_ret
      exact ⟨rfl, b1.trans (bz.mono b1.size)⟩
    · rcases h1 : decide (sa < 1) with _ | _
      · rcases h2 : decide (1000 < sa) with _ | _
        · rcases h3 : decide (sb < 1) with _ | _
          · rcases h4 : decide (1000 < sb) with _ | _
            · exact (q1 hb0 (of_decide_eq_false h1) (of_decide_eq_false h2) (of_decide_eq_false h3) (of_decide_eq_false h4)).elim
            · clear q1
              go_wp2_with fail
              refine (AW.out _).mono ?_
              rintro e wz ⟨rfl, bz⟩
              go_wp2_with fail
              go_ret
              exact ⟨rfl, b1.trans (bz.mono b1.size)⟩
          · clear q1
            go_wp2_with fail
            refine (AW.out _).mono ?_
            rintro e wz ⟨rfl, bz⟩
            go_wp2_with fail
            go_ret
            exact ⟨rfl, b1.trans (bz.mono b1.size)⟩
        · clear q1
          go_wp2_with fail
          refine (AW.out _).mono ?_
          rintro e wz ⟨rfl, bz⟩
          go_wp2_with fail
          go_ret
          exact ⟨rfl, b1.trans (bz.mono b1.size)⟩
      · clear q1
        go_wp2_with fail
        refine (AW.out _).mono ?_
        rintro e wz ⟨rfl, bz⟩
        go_wp2_with fail
        go_ret
        exact ⟨rfl, b1.trans (bz.mono b1.size)⟩
  case pos =>
    obtain ⟨rfl, ha1, ha2, hb1, hb2⟩ := hall
    have t1 : decide (sa < 1) = false := decide_eq_false (by omega)
    have t2 : decide (1000 < sa) = false := decide_eq_false (by omega)
    have t3 : decide (sb < 1) = false := decide_eq_false (by omega)
    have t4 : decide (1000 < sb) = false := decide_eq_false (by omega)
    obtain ⟨s, rfl⟩ : ∃ s : Nat, sa = (s : Int) := ⟨sa.toNat, by omega⟩
    obtain ⟨s', rfl⟩ : ∃ s' : Nat, sb = (s' : Int) := ⟨sb.toNat, by omega⟩
    have HS := Lib.hid (show (1 ≤ s ∧ s ≤ 1000) ∧ 1 ≤ s' ∧ s' ≤ 1000 by omega)
    obtain ⟨hl, hpl⟩ := HSM.out rfl
    have KD := Lib.hid (keyed_any _ r w1 (HR.out.below b1) HK.out hl)
    have HKL := Lib.hid (Nat.le_trans (kept_len r) hl)
    have HPL := Lib.hid (show ∀ x ∈ kept r, x.1.pts.length ≤ 1000000 from fun x hx => Nat.le_trans (hpl x (kept_mem hx)) (by omega))
    have q1 : (1 : Nat) ≤ s ∧ s ≤ 1000 := by omega
    generalize kept r = rk at *
    clear hpl HSM ha1 ha2 hb1 hb2 hl hc1 hc2
    go_wp2_with fail
    refine KD.out.mono ?_
    rintro e w2 ⟨va, vb, rfl, ra, -, b2⟩
    have B2 := b1.trans (b2.mono b1.size)
    have HRA := Lib.hid ra
    have RU1 := Lib.hid (Runs_any va rk s w2 ra HPL.out (Nat.le_trans HKL.out (by omega)) HS.out.1.1 HS.out.1.2)
    clear KD ra
    obtain ⟨aa, ca, rfl, -, -, -, -⟩ := HRA.out.open
    go_wp2_with fail
    refine RU1.out.mono ?_
    rintro e w3 ⟨vx, rx, rfl, ox, cx, b3⟩
    have B3 := B2.trans (b3.mono B2.size)
    have RU2 := Lib.hid (Runs_any _ rk s' w3 (HRA.out.below b3) HPL.out (Nat.le_trans HKL.out (by omega)) HS.out.2.1 HS.out.2.2)
    have HOX := Lib.hid ox
    have HCX := Lib.hid cx
    obtain ⟨ax, kx, rfl, gx1, gx2, -⟩ := ox.rd.1
    unfold maxLen at gx2
    clear RU1 ox cx
    go_wp2_with fail
    refine RU2.out.mono ?_
    rintro e w4 ⟨vy, ry, rfl, oy, cy, b4⟩
    have B4 := B3.trans (b4.mono B3.size)
    have OX4 := HOX.out.below b4
    have HOX4 := Lib.hid OX4
    have HOY := Lib.hid oy
    have HCY := Lib.hid cy
    have FX := Lib.hid (runs_fit (s := s) (m := (rk.length + s - 1) / s) (L := rk.map Prod.fst) HS.out.1.1 (by rw [List.length_map]))
    have FY := Lib.hid (runs_fit (s := s') (m := (rk.length + s' - 1) / s') (L := rk.map Prod.fst) HS.out.2.1 (by rw [List.length_map]))
    have HPP := Lib.hid (show ∀ R : List (List KdL), R.flatten.Perm (rk.map Prod.fst) → ∀ q ∈ R, ∀ x ∈ q, x.pts.length ≤ 1000000 from fun R hfp q hq x hx => by
      have := hfp.mem_iff.1 (List.mem_flatten.2 ⟨q, hq, hx⟩)
      obtain ⟨z, hz, rfl⟩ := List.mem_map.1 this
      exact HPL.out z hz)
    have hlx : rx.length = (rk.length + s - 1) / s := by
      have := congrArg List.length HCX.out
      rw [FX.out.2.2.2.2.2.2.1] at this
      simpa using this
    have hly : ry.length = (rk.length + s' - 1) / s' := by
      have := congrArg List.length HCY.out
      rw [FY.out.2.2.2.2.2.2.1] at this
      simpa using this
    have hmx : (rk.length + s - 1) / s ≤ 150 := Nat.le_trans FX.out.2.1 (by rw [List.length_map]; exact HKL.out)
    have hmy : (rk.length + s' - 1) / s' ≤ 150 := Nat.le_trans FY.out.2.1 (by rw [List.length_map]; exact HKL.out)
    have MG := Lib.hid (Merge_any _ rx w4 OX4.rd (by rw [HCX.out]; exact HPP.out _ FX.out.2.2.2.2.2.1) (by omega) (by rw [HCX.out, FX.out.2.2.2.2.2.1.length_eq, List.length_map]; exact Nat.le_trans HKL.out (by omega)))
    rw [HCX.out, FX.out.2.2.2.1] at MG
    obtain ⟨ay, ky, rfl, gy1, gy2, -⟩ := oy.rd.1
    unfold maxLen at gy2
    have HLX := Lib.hid hlx
    have HLY := Lib.hid hly
    have HMX := Lib.hid hmx
    have HMY := Lib.hid hmy
    clear RU2 oy cy OX4 hlx hly hmx hmy
    go_wp2_with fail
    refine MG.out.mono ?_
    rintro e w5 ⟨vp, rp, rfl, op, ep, b5⟩
    have B5 := B4.trans (b5.mono B4.size)
    have hlp : rp.length = rk.length := by
      have := congrArg List.length ep
      simpa using this
    have HOP := Lib.hid op
    have HEP := Lib.hid ep
    have HLP := Lib.hid hlp
    obtain ⟨ap, kp, rfl, gp1, gp2, -, -⟩ := op.rd.open
    unfold maxLen at gp2
    have HOY5 := Lib.hid (HOY.out.below b5)
    have LIT := Lib.hid (show (w5.alloc (.cells #[.slice none 0 0] 42)).ownsRow w5.heap.size 42 1 (.slice (some ⟨w5.heap.size, 0, none⟩) 1 1) 1 [.slice none 0 0] from World.ownsRow_lit (base := w5.heap.size) (e := 42) (size := 1) w5 #[.slice none 0 0] 1 (Nat.le_refl _) (by simp [maxLen]) (by simp))
    have bA : Below w5.heap.size w5 (w5.alloc (.cells #[.slice none 0 0] 42)) := (Below.refl _ _).alloc (Nat.le_refl _) _
    have HBA := Lib.hid bA
    have RY := Lib.hid (HOY5.out.below bA)
    have H1S := Lib.hid (show ∀ u ∈ ry.map Prod.snd, u.oneCell' = true from fun u hu => by
      obtain ⟨q, hq, rfl⟩ := List.mem_map.1 hu
      obtain ⟨_, _, e, _⟩ := (RY.out.2 q hq).rd.open
      rw [e]
      rfl)
    clear MG op ep hlp bA
    go_wp2_with (at_builtin; refine wpList_append_g rfl _ _ 46 rfl w5.heap.size 42 _ 1 24 Try.underlying46 info_runS rfl (by decide) _ 1 [.slice none 0 0] rfl LIT.out _ ry.length (ry.map Prod.snd) rfl RY.out.rd.1 (by simp) H1S.out ?c1 ?c2 ?c3 ?_)
    case c1 => have := HLY.out; have := HMY.out; unfold maxLen; omega
    case c2 => have := HLY.out; have := HMY.out; omega
    case c3 => first | exact HBA.out.size | (have := HBA.out.size; simpa using this)
    intro v6 w6 o6 f6
    have b56 := HBA.out.trans f6.below
    have bC : Below w6.heap.size w6 (w6.alloc (.cells #[.slice none 0 0] 42)) := (Below.refl _ _).alloc (Nat.le_refl _) _
    have HO6 := Lib.hid (own_below' o6 bC)
    have HB6 := Lib.hid (b56.trans (bC.mono b56.size))
    have LIT2 := Lib.hid (rd_alloc w6 #[.slice none 0 0] 42 (0, 0) 1 (by simp [maxLen]))
    clear o6 f6 LIT HBA bC b56
    go_wp2_with (at_builtin; (refine wpList_append_g rfl _ _ 46 rfl w5.heap.size 42 _ 1 24 Try.underlying46 info_runS rfl (by decide) _ (1 + ry.length) (.slice none 0 0 :: ry.map Prod.snd) rfl HO6.out _ 1 [.slice none 0 0] rfl LIT2.out rfl (fun u hu => by obtain rfl := List.mem_singleton.1 hu; rfl) ?c4 ?c5 ?c6 ?_))
    case c4 => have := HLY.out; have := HMY.out; unfold maxLen; omega
    case c5 => have := HLY.out; have := HMY.out; omega
    case c6 => first | exact HB6.out.size | (have := HB6.out.size; simpa using this)
    intro v7 w7 o7 f7
    have b57 := HB6.out.trans f7.below
    have B7 := B5.trans (b57.mono B5.size)
    have RR : RunsRd w7 v7 (([], .slice none 0 0) :: (ry ++ [([], .slice none 0 0)])) := by
      refine ⟨?_, fun q hq => ?_⟩
      · have := Rd.of_own o7
        rw [show (([], .slice none 0 0) :: (ry ++ [([], .slice none 0 0)]) : List (List KdV × Value)).length = 1 + ry.length + 1 by simp; omega, show ((([], .slice none 0 0) :: (ry ++ [([], .slice none 0 0)]) : List (List KdV × Value)).map Prod.snd) = [.slice none 0 0] ++ ry.map Prod.snd ++ [.slice none 0 0] by simp]
        exact this
      · rcases List.mem_cons.1 hq with rfl | hq
        · exact (RunOwn.nil w7 0).rd
        · rcases List.mem_append.1 hq with hq | hq
          · exact ((HOY5.out.2 q hq).below b57).rd
          · obtain rfl := List.mem_singleton.1 hq
            exact (RunOwn.nil w7 0).rd
    have hcc : conts (([], .slice none 0 0) :: (ry ++ [([], .slice none 0 0)])) = [] :: (runsL s' (rk.map Prod.fst) ((rk.length + s' - 1) / s') ++ [[]]) := by
      have := HCY.out
      unfold conts at this ⊢
      rw [List.map_cons, List.map_append, this]
      rfl
    have hff : (conts (([], .slice none 0 0) :: (ry ++ [([], .slice none 0 0)]))).flatten.Perm (rk.map Prod.fst) := by
      rw [hcc]
      simpa using FY.out.2.2.2.2.2.1
    obtain ⟨RS, hRS⟩ : ∃ RS, RS = (([], .slice none 0 0) :: (ry ++ [([], .slice none 0 0)]) : List (List KdV × Value)) := ⟨_, rfl⟩
    have hrsl : RS.length ≤ 1000000 := by rw [hRS]; have := HLY.out; have := HMY.out; simp; omega
    rw [← hRS] at RR hcc hff
    clear hRS
    have MG2 := Lib.hid (Merge_any v7 _ w7 RR (HPP.out _ hff) hrsl (by rw [hff.length_eq, List.length_map]; exact Nat.le_trans HKL.out (by omega)))
    rw [hcc, FY.out.2.2.2.2.1] at MG2
    have hv7 := RR.1
    obtain ⟨a7, k7, rfl, -, -, -⟩ := hv7
    clear o7 f7 HO6 HB6 LIT2 RR hcc hff hrsl
    go_wp2_with fail
    refine MG2.out.mono ?_
    rintro e w8 ⟨vq, rq, rfl, oq, eq, b8⟩
    have B8 := B7.trans (b8.mono B7.size)
    have b58 := b57.trans (b8.mono b57.size)
    have hlq : rq.length = rk.length := by
      have := congrArg List.length eq
      simpa using this
    have HOP8 := Lib.hid (HOP.out.below b58)
    have HOX8 := Lib.hid ((HOX4.out.below b5).below b58)
    have HOQ := Lib.hid oq
    have HEQ := Lib.hid eq
    have HLQ := Lib.hid hlq
    obtain ⟨aq, kq, rfl, gq1, gq2, -, -⟩ := oq.rd.open
    unfold maxLen at gq2
    obtain ⟨n, hn⟩ : ∃ n, n = rk.length := ⟨_, rfl⟩
    have hnp : rp.length = n := HLP.out.trans hn.symm
    have hnq : rq.length = n := hlq.trans hn.symm
    rw [hnp] at gp1
    rw [hnq] at gq1
    rw [hnp, hnq, ← hn]
    have HN := Lib.hid hn
    have HNP := Lib.hid hnp
    have HNQ := Lib.hid hnq
    have t9 : ((n : Int) != (n : Int)) = false := by simp
    have MN := Lib.hid (Merge_any (.slice none 0 0) [] w8 (⟨Rd.nil w8, fun q hq => by cases hq⟩ : RunsRd w8 (.slice none 0 0) []) (fun q hq => by cases hq) (by simp) (by simp))
    clear MG2 oq eq hlq hn hnp hnq b5 b57 b8
    go_wp2_with fail
    refine MN.out.mono ?_
    rintro e w9 ⟨vn, rn, rfl, on, en, b9⟩
    have B9 := B8.trans (b9.mono B8.size)
    have hln : rn = [] := by
      have h : mergeF (conts []) = [] := by kernel_rfl
      rw [h] at en
      exact List.map_eq_nil_iff.1 en
    subst hln
    obtain ⟨an, kn, rfl, -, -, -, -⟩ := on.rd.open
    simp only [List.length_nil]
    have OP9 := HOP8.out.below b9
    have OQ9 := HOQ.out.below b9
    have HOX9 := Lib.hid (HOX8.out.below b9)
    obtain ⟨_, _, e0, -, -, -, eachP⟩ := OP9.rd.open
    simp only [Value.slice.injEq] at e0
    obtain ⟨rfl, -, rfl⟩ := e0
    obtain ⟨_, _, e1, -, -, -, eachQ⟩ := OQ9.rd.open
    simp only [Value.slice.injEq] at e1
    obtain ⟨rfl, -, rfl⟩ := e1
    have EP := Lib.hid eachP
    have EQ := Lib.hid eachQ
    have PP := Lib.hid OP9.rd.2
    have hs9 := B9.size
    clear eachP eachQ on en OP9 OQ9 MN b9 HOP8 HOX8 HOQ B7 b58 B8
    go_wp2_with fail
    go_loopw [15] (fun iv wr => ∃ i : Nat, i ≤ n ∧ iv = .int .i64 i ∧ Below w9.heap.size w9 wr) (fun iv _ => n - (intOf iv).toNat)
    case atStart => exact ⟨0, Nat.zero_le _, rfl, Below.refl _ _⟩
    case round =>
      obtain ⟨i, hi, rfl, hb⟩ := hrel
      have BB := B9.trans (hb.mono hs9)
      by_cases hin : i < n
      · have t5 : decide ((i : Int) < (n : Int)) = true := decide_eq_true (by omega)
        obtain ⟨x, hx⟩ : ∃ x, rp[i]? = some x := ⟨_, List.getElem?_eq_getElem (by have := HNP.out; omega)⟩
        obtain ⟨y, hy⟩ : ∃ y, rq[i]? = some y := ⟨_, List.getElem?_eq_getElem (by have := HNQ.out; omega)⟩
        have hxy : x.1 = y.1 := by
          have h1 := congrArg (fun l => l[i]?) (HEP.out.trans HEQ.out.symm)
          simp only [List.getElem?_map, hx, hy, Option.map_some, Option.some.injEq] at h1
          exact h1
        obtain ⟨bx, ox, rfl, hbx, x0, x1, x2, x3⟩ := EP.out i x hx
        obtain ⟨by', oy, rfl, hby, y0, y1, -, -⟩ := EQ.out i y hy
        rw [← hxy] at y0 y1
        have i0 : (0 : Int) ≤ (i : Int) := by omega
        have i1 : (i : Int) < (n : Int) := by omega
        have CX := Lib.hid (And.intro x0 (And.intro x1 (And.intro x2 x3)))
        have CY := Lib.hid (And.intro y0 y1)
        have sX := (PP.out x (List.mem_of_getElem? hx)).isSl
        have s1 : (x.1.key != x.1.key) = false := by simp
        have s1' : ((x.1.key : Int) != (x.1.key : Int)) = false := by simp
        have s2 : (x.1.id != x.1.id) = false := by simp
        by_cases hz : i = 0
        · subst hz
          have t6 : decide ((0 : Int) < ((0 : Nat) : Int)) = false := by simp
          have t6' : decide ((0 : Int) < (0 : Int)) = false := by simp
          obtain ⟨⟨xk, xi, xd, xp⟩, xv⟩ := x
          simp only at CX CY s1 s1' s2 sX
          obtain ⟨xa, xn, xc, rfl⟩ := sX
          simp only [Nat.zero_mul, Nat.add_zero] at CX CY
          clear hx hy hxy x0 x1 x2 x3 y0 y1
          go_wp2_with fail
          refine wp_region_noPanic ?_
          refine wp_region_held_drew (S := fun w' => Below w9.heap.size w9 w') (by kernel_rfl) hb.drew (fun hHeld => ?_)
          generalize wr.drew = D at hHeld ⊢
          have kb : Below w9.heap.size w9 D := hHeld
          refine wpAnyH_take (i := 0) (oi := ⟨some 92, _, _, _, _, _⟩) (v := ?qv0ma) rfl (by kernel_rfl) (by kernel_rfl) (by kernel_rfl) (fun _ _ _ h => h) (Or.inl ⟨by rfl, ?qy0ma⟩) hHeld ?qr0ma
          case qy0ma => (intro w' hSw; go_simp; try with_reducible rfl)
          try simp only [Act.put, List.setIfInBounds_toArray, List.set_cons_zero, List.set_cons_succ]
          refine wpAnyH_take (i := 1) (oi := ⟨some 93, _, _, _, _, _⟩) (v := ?qv1ma) rfl (by kernel_rfl) (by kernel_rfl) (by kernel_rfl) (fun _ _ _ h => h) (Or.inl ⟨by rfl, ?qy1ma⟩) hHeld ?qr1ma
          case qy1ma => (intro w' hSw; go_simp; try with_reducible rfl)
          try simp only [Act.put, List.setIfInBounds_toArray, List.set_cons_zero, List.set_cons_succ]
          refine wpAnyH_take (i := 2) (oi := ⟨some 94, _, _, _, _, _⟩) (v := ?qv2ma) rfl (by kernel_rfl) (by kernel_rfl) (by kernel_rfl) (fun _ _ _ h => h) (Or.inl ⟨by rfl, ?qy2ma⟩) hHeld ?qr2ma
          case qy2ma => (intro w' hSw; go_simp; try with_reducible rfl)
          try simp only [Act.put, List.setIfInBounds_toArray, List.set_cons_zero, List.set_cons_succ]
          refine wpAnyH_take (i := 3) (oi := ⟨some 95, _, _, _, _, _⟩) (v := ?qv3ma) rfl (by kernel_rfl) (by kernel_rfl) (by kernel_rfl) (fun _ _ _ h => h) (Or.inl ⟨by rfl, ?qy3ma⟩) hHeld ?qr3ma
          case qy3ma => (intro w' hSw; go_simp; try with_reducible rfl)
          try simp only [Act.put, List.setIfInBounds_toArray, List.set_cons_zero, List.set_cons_succ]
          refine wpAnyH_take (i := 4) (oi := ⟨some 96, _, _, _, _, _⟩) (v := ?qv4ma) rfl (by kernel_rfl) (by kernel_rfl) (by kernel_rfl) (fun _ _ _ h => h) (Or.inl ⟨by rfl, ?qy4ma⟩) hHeld ?qr4ma
          case qy4ma => (intro w' hSw; have q0 := (hSw.cell (p := ⟨bx, ox, none⟩) hbx).trans CX.out.1; have q1 := (hSw.cell (p := ⟨bx, ox + 1, none⟩) hbx).trans CX.out.2.1; have p0 := (hSw.cell (p := ⟨by', oy, none⟩) hby).trans CY.out.1; have p1 := (hSw.cell (p := ⟨by', oy + 1, none⟩) hby).trans CY.out.2; go_simp; try with_reducible rfl)
          try simp only [Act.put, List.setIfInBounds_toArray, List.set_cons_zero, List.set_cons_succ]
          refine wpAnyH_take (i := 5) (oi := ⟨some 97, _, _, _, _, _⟩) (v := ?qv5ma) rfl (by kernel_rfl) (by kernel_rfl) (by kernel_rfl) (fun _ _ _ h => h) (Or.inl ⟨by rfl, ?qy5ma⟩) hHeld ?qr5ma
          case qy5ma => (intro w' hSw; go_simp; try with_reducible rfl)
          try simp only [Act.put, List.setIfInBounds_toArray, List.set_cons_zero, List.set_cons_succ]
          refine wpAnyH_take (i := 6) (oi := ⟨some 98, _, _, _, _, _⟩) (v := ?qv6ma) rfl (by kernel_rfl) (by kernel_rfl) (by kernel_rfl) (fun _ _ _ h => h) (Or.inl ⟨by rfl, ?qy6ma⟩) hHeld ?qr6ma
          case qy6ma => (intro w' hSw; go_simp; try with_reducible rfl)
          try simp only [Act.put, List.setIfInBounds_toArray, List.set_cons_zero, List.set_cons_succ]
          refine wpAnyH_take (i := 7) (oi := ⟨some 99, _, _, _, _, _⟩) (v := ?qv7ma) rfl (by kernel_rfl) (by kernel_rfl) (by kernel_rfl) (fun _ _ _ h => h) (Or.inl ⟨by rfl, ?qy7ma⟩) hHeld ?qr7ma
          case qy7ma => (intro w' hSw; go_simp; try with_reducible rfl)
          try simp only [Act.put, List.setIfInBounds_toArray, List.set_cons_zero, List.set_cons_succ]
          refine wpAnyH_take (i := 8) (oi := ⟨some 100, _, _, _, _, _⟩) (v := ?qv8ma) rfl (by kernel_rfl) (by kernel_rfl) (by kernel_rfl) (fun _ _ _ h => h) (Or.inl ⟨by rfl, ?qy8ma⟩) hHeld ?qr8ma
          case qy8ma => (intro w' hSw; go_simp; try with_reducible rfl)
          try simp only [Act.put, List.setIfInBounds_toArray, List.set_cons_zero, List.set_cons_succ]
          refine wpAnyH_take (i := 9) (oi := ⟨some 101, _, _, _, _, _⟩) (v := ?qv9ma) rfl (by kernel_rfl) (by kernel_rfl) (by kernel_rfl) (fun _ _ _ h => h) (Or.inl ⟨by rfl, ?qy9ma⟩) hHeld ?qr9ma
          case qy9ma => (intro w' hSw; have q0 := (hSw.cell (p := ⟨bx, ox, none⟩) hbx).trans CX.out.1; have q1 := (hSw.cell (p := ⟨bx, ox + 1, none⟩) hbx).trans CX.out.2.1; have p0 := (hSw.cell (p := ⟨by', oy, none⟩) hby).trans CY.out.1; have p1 := (hSw.cell (p := ⟨by', oy + 1, none⟩) hby).trans CY.out.2; go_simp; try with_reducible rfl)
          try simp only [Act.put, List.setIfInBounds_toArray, List.set_cons_zero, List.set_cons_succ]
          refine wpAnyH_take (i := 10) (oi := ⟨some 102, _, _, _, _, _⟩) (v := ?qv10ma) rfl (by kernel_rfl) (by kernel_rfl) (by kernel_rfl) (fun _ _ _ h => h) (Or.inl ⟨by rfl, ?qy10ma⟩) hHeld ?qr10ma
          case qy10ma => (intro w' hSw; go_simp; try with_reducible rfl)
          try simp only [Act.put, List.setIfInBounds_toArray, List.set_cons_zero, List.set_cons_succ]
          refine wpAnyH_take (i := 11) (oi := ⟨some 103, _, _, _, _, _⟩) (v := ?qv11ma) rfl (by kernel_rfl) (by kernel_rfl) (by kernel_rfl) (fun _ _ _ h => h) (Or.inl ⟨by rfl, ?qy11ma⟩) hHeld ?qr11ma
          case qy11ma => (intro w' hSw; go_simp; try with_reducible rfl)
          try simp only [Act.put, List.setIfInBounds_toArray, List.set_cons_zero, List.set_cons_succ]
          refine wpAnyH_take (i := 12) (oi := ⟨some 104, _, _, _, _, _⟩) (v := ?qv12ma) rfl (by kernel_rfl) (by kernel_rfl) (by kernel_rfl) (fun _ _ _ h => h) (Or.inl ⟨by rfl, ?qy12ma⟩) hHeld ?qr12ma
          case qy12ma => (intro w' hSw; go_simp; try with_reducible rfl)
          try simp only [Act.put, List.setIfInBounds_toArray, List.set_cons_zero, List.set_cons_succ]
          refine wpAnyH_take (i := 13) (oi := ⟨some 105, _, _, _, _, _⟩) (v := ?qv13ma) rfl (by kernel_rfl) (by kernel_rfl) (by kernel_rfl) (fun _ _ _ h => h) (Or.inl ⟨by rfl, ?qy13ma⟩) hHeld ?qr13ma
          case qy13ma => (intro w' hSw; go_simp; try with_reducible rfl)
          try simp only [Act.put, List.setIfInBounds_toArray, List.set_cons_zero, List.set_cons_succ]
          refine wpAnyH_take (i := 14) (oi := ⟨some 106, _, _, _, _, _⟩) (v := ?qv14ma) rfl (by kernel_rfl) (by kernel_rfl) (by kernel_rfl) (fun _ _ _ h => h) (Or.inl ⟨by rfl, ?qy14ma⟩) hHeld ?qr14ma
          case qy14ma => (intro w' hSw; go_simp; try with_reducible rfl)
          try simp only [Act.put, List.setIfInBounds_toArray, List.set_cons_zero, List.set_cons_succ]
          refine wpAnyH_take (i := 15) (oi := ⟨some 107, _, _, _, _, _⟩) (v := ?qv15ma) rfl (by kernel_rfl) (by kernel_rfl) (by kernel_rfl) (fun _ _ _ h => h) (Or.inl ⟨by rfl, ?qy15ma⟩) hHeld ?qr15ma
          case qy15ma => (intro w' hSw; go_simp; try with_reducible rfl)
          try simp only [Act.put, List.setIfInBounds_toArray, List.set_cons_zero, List.set_cons_succ]
          refine wpAnyH_take (i := 16) (oi := ⟨some 108, _, _, _, _, _⟩) (v := ?qv16ma) rfl (by kernel_rfl) (by kernel_rfl) (by kernel_rfl) (fun _ _ _ h => h) (Or.inl ⟨by rfl, ?qy16ma⟩) hHeld ?qr16ma
          case qy16ma => (intro w' hSw; go_simp; try with_reducible rfl)
          try simp only [Act.put, List.setIfInBounds_toArray, List.set_cons_zero, List.set_cons_succ]
          refine wpAnyH_take (i := 17) (oi := ⟨some 109, _, _, _, _, _⟩) (v := ?qv17ma) rfl (by kernel_rfl) (by kernel_rfl) (by kernel_rfl) (fun _ _ _ h => h) (Or.inl ⟨by rfl, ?qy17ma⟩) hHeld ?qr17ma
          case qy17ma => (intro w' hSw; have q0 := (hSw.cell (p := ⟨bx, ox, none⟩) hbx).trans CX.out.1; have q1 := (hSw.cell (p := ⟨bx, ox + 1, none⟩) hbx).trans CX.out.2.1; have p0 := (hSw.cell (p := ⟨by', oy, none⟩) hby).trans CY.out.1; have p1 := (hSw.cell (p := ⟨by', oy + 1, none⟩) hby).trans CY.out.2; go_simp; try with_reducible rfl)
          try simp only [Act.put, List.setIfInBounds_toArray, List.set_cons_zero, List.set_cons_succ]
          refine wpAnyH_take (i := 18) (oi := ⟨some 110, _, _, _, _, _⟩) (v := ?qv18ma) rfl (by kernel_rfl) (by kernel_rfl) (by kernel_rfl) (fun _ _ _ h => h) (Or.inl ⟨by rfl, ?qy18ma⟩) hHeld ?qr18ma
          case qy18ma => (intro w' hSw; go_simp; try with_reducible rfl)
          try simp only [Act.put, List.setIfInBounds_toArray, List.set_cons_zero, List.set_cons_succ]
          refine wpAnyH_take (i := 19) (oi := ⟨some 111, _, _, _, _, _⟩) (v := ?qv19ma) rfl (by kernel_rfl) (by kernel_rfl) (by kernel_rfl) (fun _ _ _ h => h) (Or.inl ⟨by rfl, ?qy19ma⟩) hHeld ?qr19ma
          case qy19ma => (intro w' hSw; go_simp; try with_reducible rfl)
          try simp only [Act.put, List.setIfInBounds_toArray, List.set_cons_zero, List.set_cons_succ]
          refine wpAnyH_take (i := 20) (oi := ⟨some 112, _, _, _, _, _⟩) (v := ?qv20ma) rfl (by kernel_rfl) (by kernel_rfl) (by kernel_rfl) (fun _ _ _ h => h) (Or.inl ⟨by rfl, ?qy20ma⟩) hHeld ?qr20ma
          case qy20ma => (intro w' hSw; go_simp; try with_reducible rfl)
          try simp only [Act.put, List.setIfInBounds_toArray, List.set_cons_zero, List.set_cons_succ]
          refine wpAnyH_take (i := 21) (oi := ⟨some 113, _, _, _, _, _⟩) (v := ?qv21ma) rfl (by kernel_rfl) (by kernel_rfl) (by kernel_rfl) (fun _ _ _ h => h) (Or.inl ⟨by rfl, ?qy21ma⟩) hHeld ?qr21ma
          case qy21ma => (intro w' hSw; go_simp; try with_reducible rfl)
          try simp only [Act.put, List.setIfInBounds_toArray, List.set_cons_zero, List.set_cons_succ]
          refine wpAnyH_take (i := 22) (oi := ⟨some 114, _, _, _, _, _⟩) (v := ?qv22ma) rfl (by kernel_rfl) (by kernel_rfl) (by kernel_rfl) (fun _ _ _ h => h) (Or.inl ⟨by rfl, ?qy22ma⟩) hHeld ?qr22ma
          case qy22ma => (intro w' hSw; go_simp; try with_reducible rfl)
          try simp only [Act.put, List.setIfInBounds_toArray, List.set_cons_zero, List.set_cons_succ]
          refine wpAnyH_take (i := 23) (oi := ⟨some 115, _, _, _, _, _⟩) (v := ?qv23ma) rfl (by kernel_rfl) (by kernel_rfl) (by kernel_rfl) (fun _ _ _ h => h) (Or.inl ⟨by rfl, ?qy23ma⟩) hHeld ?qr23ma
          case qy23ma => (intro w' hSw; have q0 := (hSw.cell (p := ⟨bx, ox, none⟩) hbx).trans CX.out.1; have q1 := (hSw.cell (p := ⟨bx, ox + 1, none⟩) hbx).trans CX.out.2.1; have p0 := (hSw.cell (p := ⟨by', oy, none⟩) hby).trans CY.out.1; have p1 := (hSw.cell (p := ⟨by', oy + 1, none⟩) hby).trans CY.out.2; go_simp; try with_reducible rfl)
          try simp only [Act.put, List.setIfInBounds_toArray, List.set_cons_zero, List.set_cons_succ]
          refine wpAnyH_take (i := 24) (oi := ⟨some 116, _, _, _, _, _⟩) (v := ?qv24ma) rfl (by kernel_rfl) (by kernel_rfl) (by kernel_rfl) (fun _ _ _ h => h) (Or.inl ⟨by rfl, ?qy24ma⟩) hHeld ?qr24ma
          case qy24ma => (intro w' hSw; go_simp; try with_reducible rfl)
          try simp only [Act.put, List.setIfInBounds_toArray, List.set_cons_zero, List.set_cons_succ]
          refine wpAnyH_take (i := 25) (oi := ⟨some 117, _, _, _, _, _⟩) (v := ?qv25ma) rfl (by kernel_rfl) (by kernel_rfl) (by kernel_rfl) (fun _ _ _ h => h) (Or.inl ⟨by rfl, ?qy25ma⟩) hHeld ?qr25ma
          case qy25ma => (intro w' hSw; go_simp; try with_reducible rfl)
          try simp only [Act.put, List.setIfInBounds_toArray, List.set_cons_zero, List.set_cons_succ]
          refine wpAnyH_take (i := 26) (oi := ⟨some 118, _, _, _, _, _⟩) (v := ?qv26ma) rfl (by kernel_rfl) (by kernel_rfl) (by kernel_rfl) (fun _ _ _ h => h) (Or.inl ⟨by rfl, ?qy26ma⟩) hHeld ?qr26ma
          case qy26ma => (intro w' hSw; go_simp; try with_reducible rfl)
          try simp only [Act.put, List.setIfInBounds_toArray, List.set_cons_zero, List.set_cons_succ]
          refine wpAnyH_take (i := 27) (oi := ⟨some 119, _, _, _, _, _⟩) (v := ?qv27ma) rfl (by kernel_rfl) (by kernel_rfl) (by kernel_rfl) (fun _ _ _ h => h) (Or.inl ⟨by rfl, ?qy27ma⟩) hHeld ?qr27ma
          case qy27ma => (intro w' hSw; go_simp; try with_reducible rfl)
          try simp only [Act.put, List.setIfInBounds_toArray, List.set_cons_zero, List.set_cons_succ]
          refine wpAnyH_take (i := 28) (oi := ⟨some 120, _, _, _, _, _⟩) (v := ?qv28ma) rfl (by kernel_rfl) (by kernel_rfl) (by kernel_rfl) (fun _ _ _ h => h) (Or.inl ⟨by rfl, ?qy28ma⟩) hHeld ?qr28ma
          case qy28ma => (intro w' hSw; go_simp; try with_reducible rfl)
          try simp only [Act.put, List.setIfInBounds_toArray, List.set_cons_zero, List.set_cons_succ]
          refine wpAnyH_take (i := 29) (oi := ⟨some 121, _, _, _, _, _⟩) (v := ?qv29ma) rfl (by kernel_rfl) (by kernel_rfl) (by kernel_rfl) (fun _ _ _ h => h) (Or.inl ⟨by rfl, ?qy29ma⟩) hHeld ?qr29ma
          case qy29ma => (intro w' hSw; go_simp; try with_reducible rfl)
          try simp only [Act.put, List.setIfInBounds_toArray, List.set_cons_zero, List.set_cons_succ]
          refine wpAnyH_take (i := 30) (oi := ⟨some 122, _, _, _, _, _⟩) (v := undef) rfl (by kernel_rfl) (by kernel_rfl) (by kernel_rfl) (fun _ _ _ h => h) (Or.inr ⟨by rfl, rfl⟩) hHeld ?_
          try simp only [Act.put, List.setIfInBounds_toArray, List.set_cons_zero, List.set_cons_succ]
          refine wpAnyH_take (i := 31) (oi := ⟨some 123, _, _, _, _, _⟩) (v := undef) rfl (by kernel_rfl) (by kernel_rfl) (by kernel_rfl) (fun _ _ _ h => h) (Or.inr ⟨by rfl, rfl⟩) hHeld ?_
          try simp only [Act.put, List.setIfInBounds_toArray, List.set_cons_zero, List.set_cons_succ]
          refine wpAnyH_take (i := 32) (oi := ⟨some 124, _, _, _, _, _⟩) (v := undef) rfl (by kernel_rfl) (by kernel_rfl) (by kernel_rfl) (fun _ _ _ h => h) (Or.inr ⟨by rfl, rfl⟩) hHeld ?_
          try simp only [Act.put, List.setIfInBounds_toArray, List.set_cons_zero, List.set_cons_succ]
          refine wpAnyH_take (i := 33) (oi := ⟨some 125, _, _, _, _, _⟩) (v := undef) rfl (by kernel_rfl) (by kernel_rfl) (by kernel_rfl) (fun _ _ _ h => h) (Or.inr ⟨by rfl, rfl⟩) hHeld ?_
          try simp only [Act.put, List.setIfInBounds_toArray, List.set_cons_zero, List.set_cons_succ]
          refine wpAnyH_take (i := 34) (oi := ⟨some 126, _, _, _, _, _⟩) (v := undef) rfl (by kernel_rfl) (by kernel_rfl) (by kernel_rfl) (fun _ _ _ h => h) (Or.inr ⟨by rfl, rfl⟩) hHeld ?_
          try simp only [Act.put, List.setIfInBounds_toArray, List.set_cons_zero, List.set_cons_succ]
          refine wpAnyH_take (i := 35) (oi := ⟨some 127, _, _, _, _, _⟩) (v := undef) rfl (by kernel_rfl) (by kernel_rfl) (by kernel_rfl) (fun _ _ _ h => h) (Or.inr ⟨by rfl, rfl⟩) hHeld ?_
          try simp only [Act.put, List.setIfInBounds_toArray, List.set_cons_zero, List.set_cons_succ]
          refine wpAnyH_take (i := 36) (oi := ⟨some 128, _, _, _, _, _⟩) (v := undef) rfl (by kernel_rfl) (by kernel_rfl) (by kernel_rfl) (fun _ _ _ h => h) (Or.inr ⟨by rfl, rfl⟩) hHeld ?_
          try simp only [Act.put, List.setIfInBounds_toArray, List.set_cons_zero, List.set_cons_succ]
          refine wpAnyH_take (i := 37) (oi := ⟨some 129, _, _, _, _, _⟩) (v := undef) rfl (by kernel_rfl) (by kernel_rfl) (by kernel_rfl) (fun _ _ _ h => h) (Or.inr ⟨by rfl, rfl⟩) hHeld ?_
          try simp only [Act.put, List.setIfInBounds_toArray, List.set_cons_zero, List.set_cons_succ]
          refine wpAnyH_take (i := 38) (oi := ⟨some 130, _, _, _, _, _⟩) (v := undef) rfl (by kernel_rfl) (by kernel_rfl) (by kernel_rfl) (fun _ _ _ h => h) (Or.inr ⟨by rfl, rfl⟩) hHeld ?_
          try simp only [Act.put, List.setIfInBounds_toArray, List.set_cons_zero, List.set_cons_succ]
          refine wpAnyH_take (i := 39) (oi := ⟨some 131, _, _, _, _, _⟩) (v := undef) rfl (by kernel_rfl) (by kernel_rfl) (by kernel_rfl) (fun _ _ _ h => h) (Or.inr ⟨by rfl, rfl⟩) hHeld ?_
          try simp only [Act.put, List.setIfInBounds_toArray, List.set_cons_zero, List.set_cons_succ]
          refine wpAnyH_take (i := 40) (oi := ⟨some 132, _, _, _, _, _⟩) (v := ?qv40ma) rfl (by kernel_rfl) (by kernel_rfl) (by kernel_rfl) (fun _ _ _ h => h) (Or.inl ⟨by rfl, ?qy40ma⟩) hHeld ?qr40ma
          case qy40ma => (intro w' hSw; go_simp; try with_reducible rfl)
          try simp only [Act.put, List.setIfInBounds_toArray, List.set_cons_zero, List.set_cons_succ]
          refine wpAnyH_take (i := 41) (oi := ⟨some 133, _, _, _, _, _⟩) (v := ?qv41ma) rfl (by kernel_rfl) (by kernel_rfl) (by kernel_rfl) (fun _ _ _ h => h) (Or.inl ⟨by rfl, ?qy41ma⟩) hHeld ?qr41ma
          case qy41ma => (intro w' hSw; go_simp; try with_reducible rfl)
          try simp only [Act.put, List.setIfInBounds_toArray, List.set_cons_zero, List.set_cons_succ]
          refine wpAnyH_done (by kernel_rfl) ?_ _
          refine NoPanic.normal ?_
          have B7 : Below w9.heap.size w9 D := hHeld
          clear hHeld kb
          go_wp2_with fail
          go_roundw
          case rel => exact ⟨1, by omega, by go_num, B7⟩
          case measure => simp [intOf]; omega
        · have t6 : decide ((0 : Int) < (i : Int)) = true := decide_eq_true (by omega)
          have t6n : decide (0 < i) = true := decide_eq_true (by omega)
          obtain ⟨z, hz2⟩ : ∃ z, rp[i - 1]? = some z := ⟨_, List.getElem?_eq_getElem (by have := HNP.out; omega)⟩
          have hzx : ltK x.1 z.1 = false := by
            have hs := sorted_mergeSort (rk.map Prod.fst)
            rw [← HEP.out, List.pairwise_iff_getElem] at hs
            obtain ⟨h1, h2⟩ := List.getElem?_eq_some_iff.1 hz2
            obtain ⟨h3, h4⟩ := List.getElem?_eq_some_iff.1 hx
            have := hs (i - 1) i (by simpa using h1) (by simpa using h3) (by omega)
            rw [List.getElem_map, List.getElem_map, h2, h4] at this
            simpa [leK] using this
          obtain ⟨b', o', eo, hbz, z0, z1, z2, z3⟩ := EP.out (i - 1) z hz2
          simp only [Option.some.injEq, Addr.mk.injEq, and_true] at eo
          obtain ⟨rfl, rfl⟩ := eo
          have CZ := Lib.hid (And.intro z0 (And.intro z1 (And.intro z2 z3)))
          have sZ := (PP.out z (List.mem_of_getElem? hz2)).isSl
          obtain ⟨⟨xk, xi, xd, xp⟩, xv⟩ := x
          obtain ⟨⟨zk, zi, zd, zp⟩, zv⟩ := z
          simp only at CX CY CZ s1 s1' s2 sX sZ hzx
          obtain ⟨xa, xn, xc, rfl⟩ := sX
          obtain ⟨za, zn, zc, rfl⟩ := sZ
          have LS := Lib.hid (fun w' => Less_any (⟨xk, xi, xd, xp⟩, .slice xa xn xc) (⟨zk, zi, zd, zp⟩, .slice za zn zc) w' ⟨_, _, _, rfl⟩ ⟨_, _, _, rfl⟩)
          simp only [hzx, kdA] at LS
          have wI : IntKind.i64.wrap ((i : Int) - 1) = ((i - 1 : Nat) : Int) := by rw [IntWalk.i64_in _ (by omega)]; omega
          have i5 : (0 : Int) ≤ ((i - 1 : Nat) : Int) := by omega
          have i6 : ((i - 1 : Nat) : Int) < (n : Int) := by omega
          clear hx hy hxy x0 x1 x2 x3 y0 y1 z0 z1 z2 z3 hz2 hzx
          go_wp2_with fail
          refine wp_region_noPanic ?_
          refine wp_region_held_drew (S := fun w' => Below w9.heap.size w9 w') (by kernel_rfl) hb.drew (fun hHeld => ?_)
          generalize wr.drew = D at hHeld ⊢
          have kb : Below w9.heap.size w9 D := hHeld
          refine wpAnyH_take (i := 0) (oi := ⟨some 92, _, _, _, _, _⟩) (v := ?qv0mb) rfl (by kernel_rfl) (by kernel_rfl) (by kernel_rfl) (fun _ _ _ h => h) (Or.inl ⟨by rfl, ?qy0mb⟩) hHeld ?qr0mb
          case qy0mb => (intro w' hSw; go_simp; try with_reducible rfl)
          try simp only [Act.put, List.setIfInBounds_toArray, List.set_cons_zero, List.set_cons_succ]
          refine wpAnyH_take (i := 1) (oi := ⟨some 93, _, _, _, _, _⟩) (v := ?qv1mb) rfl (by kernel_rfl) (by kernel_rfl) (by kernel_rfl) (fun _ _ _ h => h) (Or.inl ⟨by rfl, ?qy1mb⟩) hHeld ?qr1mb
          case qy1mb => (intro w' hSw; go_simp; try with_reducible rfl)
          try simp only [Act.put, List.setIfInBounds_toArray, List.set_cons_zero, List.set_cons_succ]
          refine wpAnyH_take (i := 2) (oi := ⟨some 94, _, _, _, _, _⟩) (v := ?qv2mb) rfl (by kernel_rfl) (by kernel_rfl) (by kernel_rfl) (fun _ _ _ h => h) (Or.inl ⟨by rfl, ?qy2mb⟩) hHeld ?qr2mb
          case qy2mb => (intro w' hSw; go_simp; try with_reducible rfl)
          try simp only [Act.put, List.setIfInBounds_toArray, List.set_cons_zero, List.set_cons_succ]
          refine wpAnyH_take (i := 3) (oi := ⟨some 95, _, _, _, _, _⟩) (v := ?qv3mb) rfl (by kernel_rfl) (by kernel_rfl) (by kernel_rfl) (fun _ _ _ h => h) (Or.inl ⟨by rfl, ?qy3mb⟩) hHeld ?qr3mb
          case qy3mb => (intro w' hSw; go_simp; try with_reducible rfl)
          try simp only [Act.put, List.setIfInBounds_toArray, List.set_cons_zero, List.set_cons_succ]
          refine wpAnyH_take (i := 4) (oi := ⟨some 96, _, _, _, _, _⟩) (v := ?qv4mb) rfl (by kernel_rfl) (by kernel_rfl) (by kernel_rfl) (fun _ _ _ h => h) (Or.inl ⟨by rfl, ?qy4mb⟩) hHeld ?qr4mb
          case qy4mb => (intro w' hSw; have q0 := (hSw.cell (p := ⟨bx, ox + i * 4, none⟩) hbx).trans CX.out.1; have q1 := (hSw.cell (p := ⟨bx, ox + i * 4 + 1, none⟩) hbx).trans CX.out.2.1; have q2 := (hSw.cell (p := ⟨bx, ox + i * 4 + 2, none⟩) hbx).trans CX.out.2.2.1; have q3 := (hSw.cell (p := ⟨bx, ox + i * 4 + 3, none⟩) hbx).trans CX.out.2.2.2; have p0 := (hSw.cell (p := ⟨by', oy + i * 4, none⟩) hby).trans CY.out.1; have p1 := (hSw.cell (p := ⟨by', oy + i * 4 + 1, none⟩) hby).trans CY.out.2; have r0 := (hSw.cell (p := ⟨bx, ox + (i - 1) * 4, none⟩) hbx).trans CZ.out.1; have r1 := (hSw.cell (p := ⟨bx, ox + (i - 1) * 4 + 1, none⟩) hbx).trans CZ.out.2.1; have r2 := (hSw.cell (p := ⟨bx, ox + (i - 1) * 4 + 2, none⟩) hbx).trans CZ.out.2.2.1; have r3 := (hSw.cell (p := ⟨bx, ox + (i - 1) * 4 + 3, none⟩) hbx).trans CZ.out.2.2.2; go_simp; try with_reducible rfl)
          try simp only [Act.put, List.setIfInBounds_toArray, List.set_cons_zero, List.set_cons_succ]
          refine wpAnyH_take (i := 5) (oi := ⟨some 97, _, _, _, _, _⟩) (v := ?qv5mb) rfl (by kernel_rfl) (by kernel_rfl) (by kernel_rfl) (fun _ _ _ h => h) (Or.inl ⟨by rfl, ?qy5mb⟩) hHeld ?qr5mb
          case qy5mb => (intro w' hSw; go_simp; try with_reducible rfl)
          try simp only [Act.put, List.setIfInBounds_toArray, List.set_cons_zero, List.set_cons_succ]
          refine wpAnyH_take (i := 6) (oi := ⟨some 98, _, _, _, _, _⟩) (v := ?qv6mb) rfl (by kernel_rfl) (by kernel_rfl) (by kernel_rfl) (fun _ _ _ h => h) (Or.inl ⟨by rfl, ?qy6mb⟩) hHeld ?qr6mb
          case qy6mb => (intro w' hSw; go_simp; try with_reducible rfl)
          try simp only [Act.put, List.setIfInBounds_toArray, List.set_cons_zero, List.set_cons_succ]
          refine wpAnyH_take (i := 7) (oi := ⟨some 99, _, _, _, _, _⟩) (v := ?qv7mb) rfl (by kernel_rfl) (by kernel_rfl) (by kernel_rfl) (fun _ _ _ h => h) (Or.inl ⟨by rfl, ?qy7mb⟩) hHeld ?qr7mb
          case qy7mb => (intro w' hSw; go_simp; try with_reducible rfl)
          try simp only [Act.put, List.setIfInBounds_toArray, List.set_cons_zero, List.set_cons_succ]
          refine wpAnyH_take (i := 8) (oi := ⟨some 100, _, _, _, _, _⟩) (v := ?qv8mb) rfl (by kernel_rfl) (by kernel_rfl) (by kernel_rfl) (fun _ _ _ h => h) (Or.inl ⟨by rfl, ?qy8mb⟩) hHeld ?qr8mb
          case qy8mb => (intro w' hSw; go_simp; try with_reducible rfl)
          try simp only [Act.put, List.setIfInBounds_toArray, List.set_cons_zero, List.set_cons_succ]
          refine wpAnyH_take (i := 9) (oi := ⟨some 101, _, _, _, _, _⟩) (v := ?qv9mb) rfl (by kernel_rfl) (by kernel_rfl) (by kernel_rfl) (fun _ _ _ h => h) (Or.inl ⟨by rfl, ?qy9mb⟩) hHeld ?qr9mb
          case qy9mb => (intro w' hSw; have q0 := (hSw.cell (p := ⟨bx, ox + i * 4, none⟩) hbx).trans CX.out.1; have q1 := (hSw.cell (p := ⟨bx, ox + i * 4 + 1, none⟩) hbx).trans CX.out.2.1; have q2 := (hSw.cell (p := ⟨bx, ox + i * 4 + 2, none⟩) hbx).trans CX.out.2.2.1; have q3 := (hSw.cell (p := ⟨bx, ox + i * 4 + 3, none⟩) hbx).trans CX.out.2.2.2; have p0 := (hSw.cell (p := ⟨by', oy + i * 4, none⟩) hby).trans CY.out.1; have p1 := (hSw.cell (p := ⟨by', oy + i * 4 + 1, none⟩) hby).trans CY.out.2; have r0 := (hSw.cell (p := ⟨bx, ox + (i - 1) * 4, none⟩) hbx).trans CZ.out.1; have r1 := (hSw.cell (p := ⟨bx, ox + (i - 1) * 4 + 1, none⟩) hbx).trans CZ.out.2.1; have r2 := (hSw.cell (p := ⟨bx, ox + (i - 1) * 4 + 2, none⟩) hbx).trans CZ.out.2.2.1; have r3 := (hSw.cell (p := ⟨bx, ox + (i - 1) * 4 + 3, none⟩) hbx).trans CZ.out.2.2.2; go_simp; try with_reducible rfl)
          try simp only [Act.put, List.setIfInBounds_toArray, List.set_cons_zero, List.set_cons_succ]
          refine wpAnyH_take (i := 10) (oi := ⟨some 102, _, _, _, _, _⟩) (v := ?qv10mb) rfl (by kernel_rfl) (by kernel_rfl) (by kernel_rfl) (fun _ _ _ h => h) (Or.inl ⟨by rfl, ?qy10mb⟩) hHeld ?qr10mb
          case qy10mb => (intro w' hSw; go_simp; try with_reducible rfl)
          try simp only [Act.put, List.setIfInBounds_toArray, List.set_cons_zero, List.set_cons_succ]
          refine wpAnyH_take (i := 11) (oi := ⟨some 103, _, _, _, _, _⟩) (v := ?qv11mb) rfl (by kernel_rfl) (by kernel_rfl) (by kernel_rfl) (fun _ _ _ h => h) (Or.inl ⟨by rfl, ?qy11mb⟩) hHeld ?qr11mb
          case qy11mb => (intro w' hSw; go_simp; try with_reducible rfl)
          try simp only [Act.put, List.setIfInBounds_toArray, List.set_cons_zero, List.set_cons_succ]
          refine wpAnyH_take (i := 12) (oi := ⟨some 104, _, _, _, _, _⟩) (v := ?qv12mb) rfl (by kernel_rfl) (by kernel_rfl) (by kernel_rfl) (fun _ _ _ h => h) (Or.inl ⟨by rfl, ?qy12mb⟩) hHeld ?qr12mb
          case qy12mb => (intro w' hSw; go_simp; try with_reducible rfl)
          try simp only [Act.put, List.setIfInBounds_toArray, List.set_cons_zero, List.set_cons_succ]
          refine wpAnyH_take (i := 13) (oi := ⟨some 105, _, _, _, _, _⟩) (v := ?qv13mb) rfl (by kernel_rfl) (by kernel_rfl) (by kernel_rfl) (fun _ _ _ h => h) (Or.inl ⟨by rfl, ?qy13mb⟩) hHeld ?qr13mb
          case qy13mb => (intro w' hSw; go_simp; try with_reducible rfl)
          try simp only [Act.put, List.setIfInBounds_toArray, List.set_cons_zero, List.set_cons_succ]
          refine wpAnyH_take (i := 14) (oi := ⟨some 106, _, _, _, _, _⟩) (v := ?qv14mb) rfl (by kernel_rfl) (by kernel_rfl) (by kernel_rfl) (fun _ _ _ h => h) (Or.inl ⟨by rfl, ?qy14mb⟩) hHeld ?qr14mb
          case qy14mb => (intro w' hSw; go_simp; try with_reducible rfl)
          try simp only [Act.put, List.setIfInBounds_toArray, List.set_cons_zero, List.set_cons_succ]
          refine wpAnyH_take (i := 15) (oi := ⟨some 107, _, _, _, _, _⟩) (v := ?qv15mb) rfl (by kernel_rfl) (by kernel_rfl) (by kernel_rfl) (fun _ _ _ h => h) (Or.inl ⟨by rfl, ?qy15mb⟩) hHeld ?qr15mb
          case qy15mb => (intro w' hSw; go_simp; try with_reducible rfl)
          try simp only [Act.put, List.setIfInBounds_toArray, List.set_cons_zero, List.set_cons_succ]
          refine wpAnyH_take (i := 16) (oi := ⟨some 108, _, _, _, _, _⟩) (v := ?qv16mb) rfl (by kernel_rfl) (by kernel_rfl) (by kernel_rfl) (fun _ _ _ h => h) (Or.inl ⟨by rfl, ?qy16mb⟩) hHeld ?qr16mb
          case qy16mb => (intro w' hSw; go_simp; try with_reducible rfl)
          try simp only [Act.put, List.setIfInBounds_toArray, List.set_cons_zero, List.set_cons_succ]
          refine wpAnyH_take (i := 17) (oi := ⟨some 109, _, _, _, _, _⟩) (v := ?qv17mb) rfl (by kernel_rfl) (by kernel_rfl) (by kernel_rfl) (fun _ _ _ h => h) (Or.inl ⟨by rfl, ?qy17mb⟩) hHeld ?qr17mb
          case qy17mb => (intro w' hSw; have q0 := (hSw.cell (p := ⟨bx, ox + i * 4, none⟩) hbx).trans CX.out.1; have q1 := (hSw.cell (p := ⟨bx, ox + i * 4 + 1, none⟩) hbx).trans CX.out.2.1; have q2 := (hSw.cell (p := ⟨bx, ox + i * 4 + 2, none⟩) hbx).trans CX.out.2.2.1; have q3 := (hSw.cell (p := ⟨bx, ox + i * 4 + 3, none⟩) hbx).trans CX.out.2.2.2; have p0 := (hSw.cell (p := ⟨by', oy + i * 4, none⟩) hby).trans CY.out.1; have p1 := (hSw.cell (p := ⟨by', oy + i * 4 + 1, none⟩) hby).trans CY.out.2; have r0 := (hSw.cell (p := ⟨bx, ox + (i - 1) * 4, none⟩) hbx).trans CZ.out.1; have r1 := (hSw.cell (p := ⟨bx, ox + (i - 1) * 4 + 1, none⟩) hbx).trans CZ.out.2.1; have r2 := (hSw.cell (p := ⟨bx, ox + (i - 1) * 4 + 2, none⟩) hbx).trans CZ.out.2.2.1; have r3 := (hSw.cell (p := ⟨bx, ox + (i - 1) * 4 + 3, none⟩) hbx).trans CZ.out.2.2.2; go_simp; try with_reducible rfl)
          try simp only [Act.put, List.setIfInBounds_toArray, List.set_cons_zero, List.set_cons_succ]
          refine wpAnyH_take (i := 18) (oi := ⟨some 110, _, _, _, _, _⟩) (v := ?qv18mb) rfl (by kernel_rfl) (by kernel_rfl) (by kernel_rfl) (fun _ _ _ h => h) (Or.inl ⟨by rfl, ?qy18mb⟩) hHeld ?qr18mb
          case qy18mb => (intro w' hSw; go_simp; try with_reducible rfl)
          try simp only [Act.put, List.setIfInBounds_toArray, List.set_cons_zero, List.set_cons_succ]
          refine wpAnyH_take (i := 19) (oi := ⟨some 111, _, _, _, _, _⟩) (v := ?qv19mb) rfl (by kernel_rfl) (by kernel_rfl) (by kernel_rfl) (fun _ _ _ h => h) (Or.inl ⟨by rfl, ?qy19mb⟩) hHeld ?qr19mb
          case qy19mb => (intro w' hSw; go_simp; try with_reducible rfl)
          try simp only [Act.put, List.setIfInBounds_toArray, List.set_cons_zero, List.set_cons_succ]
          refine wpAnyH_take (i := 20) (oi := ⟨some 112, _, _, _, _, _⟩) (v := ?qv20mb) rfl (by kernel_rfl) (by kernel_rfl) (by kernel_rfl) (fun _ _ _ h => h) (Or.inl ⟨by rfl, ?qy20mb⟩) hHeld ?qr20mb
          case qy20mb => (intro w' hSw; go_simp; try with_reducible rfl)
          try simp only [Act.put, List.setIfInBounds_toArray, List.set_cons_zero, List.set_cons_succ]
          refine wpAnyH_take (i := 21) (oi := ⟨some 113, _, _, _, _, _⟩) (v := ?qv21mb) rfl (by kernel_rfl) (by kernel_rfl) (by kernel_rfl) (fun _ _ _ h => h) (Or.inl ⟨by rfl, ?qy21mb⟩) hHeld ?qr21mb
          case qy21mb => (intro w' hSw; go_simp; try with_reducible rfl)
          try simp only [Act.put, List.setIfInBounds_toArray, List.set_cons_zero, List.set_cons_succ]
          refine wpAnyH_take (i := 22) (oi := ⟨some 114, _, _, _, _, _⟩) (v := ?qv22mb) rfl (by kernel_rfl) (by kernel_rfl) (by kernel_rfl) (fun _ _ _ h => h) (Or.inl ⟨by rfl, ?qy22mb⟩) hHeld ?qr22mb
          case qy22mb => (intro w' hSw; go_simp; try with_reducible rfl)
          try simp only [Act.put, List.setIfInBounds_toArray, List.set_cons_zero, List.set_cons_succ]
          refine wpAnyH_take (i := 23) (oi := ⟨some 115, _, _, _, _, _⟩) (v := ?qv23mb) rfl (by kernel_rfl) (by kernel_rfl) (by kernel_rfl) (fun _ _ _ h => h) (Or.inl ⟨by rfl, ?qy23mb⟩) hHeld ?qr23mb
          case qy23mb => (intro w' hSw; have q0 := (hSw.cell (p := ⟨bx, ox + i * 4, none⟩) hbx).trans CX.out.1; have q1 := (hSw.cell (p := ⟨bx, ox + i * 4 + 1, none⟩) hbx).trans CX.out.2.1; have q2 := (hSw.cell (p := ⟨bx, ox + i * 4 + 2, none⟩) hbx).trans CX.out.2.2.1; have q3 := (hSw.cell (p := ⟨bx, ox + i * 4 + 3, none⟩) hbx).trans CX.out.2.2.2; have p0 := (hSw.cell (p := ⟨by', oy + i * 4, none⟩) hby).trans CY.out.1; have p1 := (hSw.cell (p := ⟨by', oy + i * 4 + 1, none⟩) hby).trans CY.out.2; have r0 := (hSw.cell (p := ⟨bx, ox + (i - 1) * 4, none⟩) hbx).trans CZ.out.1; have r1 := (hSw.cell (p := ⟨bx, ox + (i - 1) * 4 + 1, none⟩) hbx).trans CZ.out.2.1; have r2 := (hSw.cell (p := ⟨bx, ox + (i - 1) * 4 + 2, none⟩) hbx).trans CZ.out.2.2.1; have r3 := (hSw.cell (p := ⟨bx, ox + (i - 1) * 4 + 3, none⟩) hbx).trans CZ.out.2.2.2; go_simp; try with_reducible rfl)
          try simp only [Act.put, List.setIfInBounds_toArray, List.set_cons_zero, List.set_cons_succ]
          refine wpAnyH_take (i := 24) (oi := ⟨some 116, _, _, _, _, _⟩) (v := ?qv24mb) rfl (by kernel_rfl) (by kernel_rfl) (by kernel_rfl) (fun _ _ _ h => h) (Or.inl ⟨by rfl, ?qy24mb⟩) hHeld ?qr24mb
          case qy24mb => (intro w' hSw; go_simp; try with_reducible rfl)
          try simp only [Act.put, List.setIfInBounds_toArray, List.set_cons_zero, List.set_cons_succ]
          refine wpAnyH_take (i := 25) (oi := ⟨some 117, _, _, _, _, _⟩) (v := ?qv25mb) rfl (by kernel_rfl) (by kernel_rfl) (by kernel_rfl) (fun _ _ _ h => h) (Or.inl ⟨by rfl, ?qy25mb⟩) hHeld ?qr25mb
          case qy25mb => (intro w' hSw; go_simp; try with_reducible rfl)
          try simp only [Act.put, List.setIfInBounds_toArray, List.set_cons_zero, List.set_cons_succ]
          refine wpAnyH_take (i := 26) (oi := ⟨some 118, _, _, _, _, _⟩) (v := ?qv26mb) rfl (by kernel_rfl) (by kernel_rfl) (by kernel_rfl) (fun _ _ _ h => h) (Or.inl ⟨by rfl, ?qy26mb⟩) hHeld ?qr26mb
          case qy26mb => (intro w' hSw; go_simp; try with_reducible rfl)
          try simp only [Act.put, List.setIfInBounds_toArray, List.set_cons_zero, List.set_cons_succ]
          refine wpAnyH_take (i := 27) (oi := ⟨some 119, _, _, _, _, _⟩) (v := ?qv27mb) rfl (by kernel_rfl) (by kernel_rfl) (by kernel_rfl) (fun _ _ _ h => h) (Or.inl ⟨by rfl, ?qy27mb⟩) hHeld ?qr27mb
          case qy27mb => (intro w' hSw; go_simp; try with_reducible rfl)
          try simp only [Act.put, List.setIfInBounds_toArray, List.set_cons_zero, List.set_cons_succ]
          refine wpAnyH_take (i := 28) (oi := ⟨some 120, _, _, _, _, _⟩) (v := ?qv28mb) rfl (by kernel_rfl) (by kernel_rfl) (by kernel_rfl) (fun _ _ _ h => h) (Or.inl ⟨by rfl, ?qy28mb⟩) hHeld ?qr28mb
          case qy28mb => (intro w' hSw; go_simp; try with_reducible rfl)
          try simp only [Act.put, List.setIfInBounds_toArray, List.set_cons_zero, List.set_cons_succ]
          refine wpAnyH_take (i := 29) (oi := ⟨some 121, _, _, _, _, _⟩) (v := ?qv29mb) rfl (by kernel_rfl) (by kernel_rfl) (by kernel_rfl) (fun _ _ _ h => h) (Or.inl ⟨by rfl, ?qy29mb⟩) hHeld ?qr29mb
          case qy29mb => (intro w' hSw; go_simp; try with_reducible rfl)
          try simp only [Act.put, List.setIfInBounds_toArray, List.set_cons_zero, List.set_cons_succ]
          refine wpAnyH_take (i := 30) (oi := ⟨some 122, _, _, _, _, _⟩) (v := ?qv30mb) rfl (by kernel_rfl) (by kernel_rfl) (by kernel_rfl) (fun _ _ _ h => h) (Or.inl ⟨by rfl, ?qy30mb⟩) hHeld ?qr30mb
          case qy30mb => (intro w' hSw; go_simp; try with_reducible rfl)
          try simp only [Act.put, List.setIfInBounds_toArray, List.set_cons_zero, List.set_cons_succ]
          refine wpAnyH_take (i := 31) (oi := ⟨some 123, _, _, _, _, _⟩) (v := ?qv31mb) rfl (by kernel_rfl) (by kernel_rfl) (by kernel_rfl) (fun _ _ _ h => h) (Or.inl ⟨by rfl, ?qy31mb⟩) hHeld ?qr31mb
          case qy31mb => (intro w' hSw; go_simp; try with_reducible rfl)
          try simp only [Act.put, List.setIfInBounds_toArray, List.set_cons_zero, List.set_cons_succ]
          refine wpAnyH_take (i := 32) (oi := ⟨some 124, _, _, _, _, _⟩) (v := ?qv32mb) rfl (by kernel_rfl) (by kernel_rfl) (by kernel_rfl) (fun _ _ _ h => h) (Or.inl ⟨by rfl, ?qy32mb⟩) hHeld ?qr32mb
          case qy32mb => (intro w' hSw; go_simp; try with_reducible rfl)
          try simp only [Act.put, List.setIfInBounds_toArray, List.set_cons_zero, List.set_cons_succ]
          refine wpAnyH_take (i := 33) (oi := ⟨some 125, _, _, _, _, _⟩) (v := ?qv33mb) rfl (by kernel_rfl) (by kernel_rfl) (by kernel_rfl) (fun _ _ _ h => h) (Or.inl ⟨by rfl, ?qy33mb⟩) hHeld ?qr33mb
          case qy33mb => (intro w' hSw; have q0 := (hSw.cell (p := ⟨bx, ox + i * 4, none⟩) hbx).trans CX.out.1; have q1 := (hSw.cell (p := ⟨bx, ox + i * 4 + 1, none⟩) hbx).trans CX.out.2.1; have q2 := (hSw.cell (p := ⟨bx, ox + i * 4 + 2, none⟩) hbx).trans CX.out.2.2.1; have q3 := (hSw.cell (p := ⟨bx, ox + i * 4 + 3, none⟩) hbx).trans CX.out.2.2.2; have p0 := (hSw.cell (p := ⟨by', oy + i * 4, none⟩) hby).trans CY.out.1; have p1 := (hSw.cell (p := ⟨by', oy + i * 4 + 1, none⟩) hby).trans CY.out.2; have r0 := (hSw.cell (p := ⟨bx, ox + (i - 1) * 4, none⟩) hbx).trans CZ.out.1; have r1 := (hSw.cell (p := ⟨bx, ox + (i - 1) * 4 + 1, none⟩) hbx).trans CZ.out.2.1; have r2 := (hSw.cell (p := ⟨bx, ox + (i - 1) * 4 + 2, none⟩) hbx).trans CZ.out.2.2.1; have r3 := (hSw.cell (p := ⟨bx, ox + (i - 1) * 4 + 3, none⟩) hbx).trans CZ.out.2.2.2; go_simp; try with_reducible rfl)
          try simp only [Act.put, List.setIfInBounds_toArray, List.set_cons_zero, List.set_cons_succ]
          refine wpAnyH_take (i := 34) (oi := ⟨some 126, _, _, _, _, _⟩) (v := ?qv34mb) rfl (by kernel_rfl) (by kernel_rfl) (by kernel_rfl) (fun _ _ _ h => h) (Or.inl ⟨by rfl, ?qy34mb⟩) hHeld ?qr34mb
          case qy34mb => (intro w' hSw; go_simp; try with_reducible rfl)
          try simp only [Act.put, List.setIfInBounds_toArray, List.set_cons_zero, List.set_cons_succ]
          refine wpAnyH_take (i := 35) (oi := ⟨some 127, _, _, _, _, _⟩) (v := ?qv35mb) rfl (by kernel_rfl) (by kernel_rfl) (by kernel_rfl) (fun _ _ _ h => h) (Or.inl ⟨by rfl, ?qy35mb⟩) hHeld ?qr35mb
          case qy35mb => (intro w' hSw; go_simp; try with_reducible rfl)
          try simp only [Act.put, List.setIfInBounds_toArray, List.set_cons_zero, List.set_cons_succ]
          refine wpAnyH_take (i := 36) (oi := ⟨some 128, _, _, _, _, _⟩) (v := ?qv36mb) rfl (by kernel_rfl) (by kernel_rfl) (by kernel_rfl) (fun _ _ _ h => h) (Or.inl ⟨by rfl, ?qy36mb⟩) hHeld ?qr36mb
          case qy36mb => (intro w' hSw; go_simp; try with_reducible rfl)
          try simp only [Act.put, List.setIfInBounds_toArray, List.set_cons_zero, List.set_cons_succ]
          refine wpAnyH_take (i := 37) (oi := ⟨some 129, _, _, _, _, _⟩) (v := ?qv37mb) rfl (by kernel_rfl) (by kernel_rfl) (by kernel_rfl) (fun _ _ _ h => h) (Or.inl ⟨by rfl, ?qy37mb⟩) hHeld ?qr37mb
          case qy37mb => (intro w' hSw; go_simp; try with_reducible rfl)
          try simp only [Act.put, List.setIfInBounds_toArray, List.set_cons_zero, List.set_cons_succ]
          refine wpAnyH_take (i := 38) (oi := ⟨some 130, _, _, _, _, _⟩) (v := ?qv38mb) rfl (by kernel_rfl) (by kernel_rfl) (by kernel_rfl) (fun _ _ _ h => h) (Or.inl ⟨by rfl, ?qy38mb⟩) hHeld ?qr38mb
          case qy38mb => (intro w' hSw; have q0 := (hSw.cell (p := ⟨bx, ox + i * 4, none⟩) hbx).trans CX.out.1; have q1 := (hSw.cell (p := ⟨bx, ox + i * 4 + 1, none⟩) hbx).trans CX.out.2.1; have q2 := (hSw.cell (p := ⟨bx, ox + i * 4 + 2, none⟩) hbx).trans CX.out.2.2.1; have q3 := (hSw.cell (p := ⟨bx, ox + i * 4 + 3, none⟩) hbx).trans CX.out.2.2.2; have p0 := (hSw.cell (p := ⟨by', oy + i * 4, none⟩) hby).trans CY.out.1; have p1 := (hSw.cell (p := ⟨by', oy + i * 4 + 1, none⟩) hby).trans CY.out.2; have r0 := (hSw.cell (p := ⟨bx, ox + (i - 1) * 4, none⟩) hbx).trans CZ.out.1; have r1 := (hSw.cell (p := ⟨bx, ox + (i - 1) * 4 + 1, none⟩) hbx).trans CZ.out.2.1; have r2 := (hSw.cell (p := ⟨bx, ox + (i - 1) * 4 + 2, none⟩) hbx).trans CZ.out.2.2.1; have r3 := (hSw.cell (p := ⟨bx, ox + (i - 1) * 4 + 3, none⟩) hbx).trans CZ.out.2.2.2; go_simp; try with_reducible rfl)
          try simp only [Act.put, List.setIfInBounds_toArray, List.set_cons_zero, List.set_cons_succ]
          refine wpAnyH_ready (rs := [39]) (by kernel_rfl) (by simp) ?_
          refine AllReadyH.cons (o := ⟨some 131, _, _, _, _, _⟩) rfl (fun K hK => ?_) AllReadyH.nil
          refine step_go (by rfl) 11 _ _ (by rfl) (fun _ _ => by kernel_rfl) _ (by rfl) (LS.out _) ?_
          rintro e w7 ⟨rfl, b7⟩
          refine ⟨_, rfl, ?_⟩
          refine hK.out _ _ (kb.trans (b7.mono kb.size)) (fun hHeld => ?_)
          clear hK K
          try simp only [Act.put, List.setIfInBounds_toArray, List.set_cons_zero, List.set_cons_succ]
          refine wpAnyH_take (i := 40) (oi := ⟨some 132, _, _, _, _, _⟩) (v := ?qv40mb) rfl (by kernel_rfl) (by kernel_rfl) (by kernel_rfl) (fun _ _ _ h => h) (Or.inl ⟨by rfl, ?qy40mb⟩) hHeld ?qr40mb
          case qy40mb => (intro w' hSw; go_simp; try with_reducible rfl)
          try simp only [Act.put, List.setIfInBounds_toArray, List.set_cons_zero, List.set_cons_succ]
          refine wpAnyH_take (i := 41) (oi := ⟨some 133, _, _, _, _, _⟩) (v := ?qv41mb) rfl (by kernel_rfl) (by kernel_rfl) (by kernel_rfl) (fun _ _ _ h => h) (Or.inl ⟨by rfl, ?qy41mb⟩) hHeld ?qr41mb
          case qy41mb => (intro w' hSw; go_simp; try with_reducible rfl)
          try simp only [Act.put, List.setIfInBounds_toArray, List.set_cons_zero, List.set_cons_succ]
          refine wpAnyH_done (by kernel_rfl) ?_ _
          refine NoPanic.normal ?_
          have B7 : Below w9.heap.size w9 w7 := hHeld
          clear hHeld kb b7
          go_wp2_with fail
          go_roundw
          case rel => exact ⟨i + 1, hin, by go_num, B7⟩
          case measure => simp [intOf]; omega
      · obtain rfl : i = n := by omega
        have t5 : decide ((i : Int) < (i : Int)) = false := by simp
        obtain ⟨m, hm⟩ : ∃ m, m = (rk.length + s - 1) / s := ⟨_, rfl⟩
        have OX := HOX9.out.below hb
        obtain ⟨_, _, e2, -, -, -, rows⟩ := OX.rd.1
        simp only [Value.slice.injEq] at e2
        obtain ⟨rfl, -, rfl⟩ := e2
        have hmx : rx.length = m := HLX.out.trans hm.symm
        have hm150 : m ≤ 150 := by rw [hm]; exact HMX.out
        have ROW := Lib.hid (show ∀ j, j < m → ∃ b o aq cq, ax = some ⟨b, o, none⟩ ∧ b < wr.heap.size ∧ wr.cell? ⟨b, o + j, none⟩ = some (.slice aq (min s (i - j * s)) cq) ∧ j * s < i from fun j hj => by
          obtain ⟨b, o, e, hbl, hc⟩ := rows j (by simpa [hmx] using hj)
          have hjl : j < rx.length := by omega
          obtain ⟨aq, cq, e2, -⟩ := (OX.2 _ (List.getElem_mem hjl)).rd.open
          have hfl := FX.out.2.2.2.2.2.2.2 j (by rw [← hm]; exact hj)
          rw [← HCX.out, conts_getD hjl, List.length_map, List.length_map, ← HN.out] at hfl
          have hlt := FX.out.2.2.1 j (by rw [← hm]; exact hj)
          rw [List.length_map, ← HN.out] at hlt
          refine ⟨b, o, aq, cq, e, hbl, ?_, hlt⟩
          rw [hc, List.getElem_map, e2, hfl])
        have hms := FX.out.1
        rw [← hm, List.length_map, ← HN.out] at hms
        have TM := Lib.hid hms
        have hss := HS.out.1
        rw [hmx] at gx1 ⊢
        have hsw := BB.size
        obtain ⟨wo, hwo⟩ : ∃ wo, wo = wr := ⟨_, rfl⟩
        subst hwo
        clear rows OX hmx hm hms q1
        go_wp2_with fail
        go_loopw [16, 17] (fun nv jv wq => ∃ j t : Nat, j ≤ m ∧ t ≤ i ∧ jv = .int .i64 j ∧ nv = .int .i64 t ∧ Hid (t = min i (j * s)) ∧ Below wo.heap.size wo wq) (fun _ jv _ => m - (intOf jv).toNat)
        case atStart => exact ⟨0, 0, Nat.zero_le _, Nat.zero_le _, rfl, rfl, Lib.hid (by simp), Below.refl _ _⟩
        case round =>
          obtain ⟨j, t, hjm, hti, rfl, rfl, hT, hbq⟩ := hrel
          have BQ := BB.trans (hbq.mono hsw)
          have HT := Lib.hid hT
          clear hT
          by_cases hlt : j < m
          · have t6 : decide ((j : Int) < (m : Int)) = true := decide_eq_true (by omega)
            obtain ⟨b, o, aq, cq, rfl, hbl, hc, hjs⟩ := ROW.out j hlt
            have d0 := (hbq.cell (p := ⟨b, o + j, none⟩) hbl).trans hc
            have j0 : (0 : Int) ≤ (j : Int) := by omega
            have j1 : (j : Int) < (m : Int) := by omega
            have hTT := HT.out.out
            obtain ⟨q, hq⟩ : ∃ q, q = min s (i - j * s) := ⟨_, rfl⟩
            rw [← hq] at d0
            have hT2 : t + q = min i ((j + 1) * s) := by rw [Nat.succ_mul]; omega
            have hq1 : 1 ≤ q ∧ q ≤ s := by omega
            have hqs : j + 1 < m → q = s := fun h => by
              obtain ⟨_, _, _, _, _, _, _, h2⟩ := ROW.out (j + 1) h
              rw [Nat.succ_mul] at h2
              omega
            have hT3 : t + q ≤ i := by omega
            have HT2 := Lib.hid hT2
            have v1 : decide ((q : Int) < 1) = false := decide_eq_false (by omega)
            have v2 : decide ((s : Int) < (q : Int)) = false := decide_eq_false (by omega)
            clear hTT hq hT2 hc hjs
            by_cases hl2 : j + 1 < m
            · obtain rfl := hqs hl2
              have v3 : decide ((j : Int) + 1 < (m : Int)) = true := decide_eq_true (by omega)
              have v4 : ((q : Int) != (q : Int)) = false := by simp
              clear hqs
              go_wp2_with fail
              go_roundw
              case rel => exact ⟨j + 1, t + q, hlt, hT3, by go_num, by go_num, Lib.hid HT2.out, hbq⟩
              case measure => simp [intOf]; omega
            · have v3 : decide ((j : Int) + 1 < (m : Int)) = false := decide_eq_false (by omega)
              clear hqs
              go_wp2_with fail
              go_roundw
              case rel => exact ⟨j + 1, t + q, hlt, hT3, by go_num, by go_num, Lib.hid HT2.out, hbq⟩
              case measure => simp [intOf]; omega
          · obtain rfl : j = m := by omega
            have t6 : decide ((j : Int) < (j : Int)) = false := by simp
            obtain rfl : t = i := by
              have h1 := HT.out.out
              have h2 := TM.out
              omega
            have t7 : ((t : Int) == (t : Int)) = true := by simp
            go_wp2_with fail
            refine (AW.out _).mono ?_
            rintro e wz ⟨rfl, bz⟩
            go_wp2_with fail
            go_ret
            exact ⟨rfl, BQ.trans (bz.mono BQ.size)⟩
open Go.ChangeShapes Go.WideShapes Go.ChangeAt in
set_option maxRecDepth 100000 in
theorem sorterMerges_calls {H : Type} {enc : TypeId × Value → H} {W : World} {base : Nat} {v0 v1 v2 : Value} {d0 d1 d2 : DataW H} {p0 p1 p2 : List MemPlace}
    (o0 : Value.okWide Try.prog W .any base 22 v0) (h0 : DataW.Trod enc Try.prog W 0 (fun _ => true) true 22 v0 d0 p0)
    (o1 : Value.okWide Try.prog W .any base 3 v1) (h1 : DataW.Trod enc Try.prog W 0 (fun _ => true) true 3 v1 d1 p1)
    (o2 : Value.okWide Try.prog W .any base 3 v2) (h2 : DataW.Trod enc Try.prog W 0 (fun _ => true) true 3 v2 d2 p2) :
    Calls Try.prog 4 #[v0, v1, v2] W fun e w' => e = .returned (.bool true) ∧ Below W.heap.size W w' := by
  obtain ⟨r, hr, hk, _⟩ := view_items o0 h0
  obtain ⟨n, rfl, rfl, rfl, hw⟩ := open_int Try.underlying3 o1 h1
  obtain ⟨m, rfl, rfl, rfl, hw'⟩ := open_int Try.underlying3 o2 h2
  exact merges_any v0 r n m W hr hk
end Go.Proofs.Ytoggbmfjjenbaaa
