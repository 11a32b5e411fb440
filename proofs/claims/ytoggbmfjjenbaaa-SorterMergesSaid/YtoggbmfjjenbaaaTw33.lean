/- pergolalaw20.SorterTwice. -/
import Derived.Test.YtoggbmfjjenbaaaTw32
set_option linter.unusedSimpArgs false
set_option linter.unusedVariables false

namespace Go.Proofs.Ytoggbmfjjenbaaa
open Go.RowKit

theorem leK_trans (a b c : KdL) (h1 : leK a b = true) (h2 : leK b c = true) : leK a c = true := by unfold leK ltK at *; simp at *; omega
theorem leK_total (a b : KdL) : (leK a b || leK b a) = true := by unfold leK ltK; simp; omega
theorem sorted_mergeSort (l : List KdL) : (l.mergeSort leK).Pairwise (fun x y => leK x y = true) := List.pairwise_mergeSort (le := leK) leK_trans leK_total l
theorem sort_twice (l : List KdL) : (l.mergeSort leK).mergeSort leK = l.mergeSort leK := List.mergeSort_of_pairwise (sorted_mergeSort l)
/-- no id comes twice -/
def NoTwice (l : List KdL) : Prop := l.Pairwise fun a b => a.id ≠ b.id
theorem sort_back (l : List KdL) (h : NoTwice l) : l.reverse.mergeSort leK = l.mergeSort leK := by
  refine List.Perm.eq_of_pairwise (le := fun x y => leK x y = true) (fun a b ha hb h1 h2 => ?_) (sorted_mergeSort _) (sorted_mergeSort _) ((List.mergeSort_perm _ _).trans ((List.reverse_perm l).trans (List.mergeSort_perm _ _).symm))
  have ha' : a ∈ l := List.mem_reverse.1 ((List.mergeSort_perm _ _).mem_iff.1 ha)
  have hb' : b ∈ l := (List.mergeSort_perm _ _).mem_iff.1 hb
  have hid : a.id = b.id := by unfold leK ltK at h1 h2; simp at h1 h2; omega
  obtain ⟨i, hi, rfl⟩ := List.getElem_of_mem ha'
  obtain ⟨j, hj, rfl⟩ := List.getElem_of_mem hb'
  unfold NoTwice at h
  rw [List.pairwise_iff_getElem] at h
  rcases Nat.lt_trichotomy i j with q | q | q
  · exact absurd hid (h i j hi hj q)
  · subst q; rfl
  · exact absurd hid.symm (h j i hj hi q)
theorem all_perm {r r' : List KdV} (hp : (r'.map Prod.fst).Perm (r.map Prod.fst)) {P : KdL → Prop} (h : ∀ x ∈ r, P x.1) : ∀ x ∈ r', P x.1 := fun x hx => by
  obtain ⟨y, hy, e⟩ := List.mem_map.1 (hp.mem_iff.1 (List.mem_map_of_mem hx))
  rw [← e]
  exact h y hy
theorem ItRd.of_own (w : World) (B : Nat) (v : Value) (r : List KdV) (h : w.ownsRow B 37 3 v r.length (itR r)) (hp : ∀ x ∈ r, Pts w x.2 x.1.pts) : ItRd w v r := ⟨Rd.of_own h, hp⟩

set_option maxRecDepth 100000 in
set_option maxHeartbeats 8000000 in
theorem twice_any (v : Value) (r : List KdV) (size : Int) (w : World) (h : ItRd w v r) (hk : KeyIs r) :
    Calls Try.prog 5 #[v, .int .i64 size] w fun e w' => e = .returned (.bool true) ∧ Below w.heap.size w w' := by
  have AW := Lib.hid awake20_any
  have SM := Lib.hid (small_any v r w h)
  have HR := Lib.hid h
  have HK := Lib.hid hk
  obtain ⟨ao, c, rfl, hc1, hc2, -, -⟩ := h.open
  unfold maxLen at hc2
  clear h hk
  go_enter Try.func5, Try.ntmps5
  go_wp2_with fail
  refine SM.out.mono ?_
  rintro e w1 ⟨b, rfl, hsm, b1⟩
  have HSM := Lib.hid hsm
  clear hsm SM
  cases b with
  | false =>
    go_wp2_with fail
    refine (AW.out _).mono ?_
    rintro e wz ⟨rfl, bz⟩
    go_wp2_with fail
    go_ret
    exact ⟨rfl, b1.trans (bz.mono b1.size)⟩
  | true =>
    by_cases hs1 : size < 1
    · have t1 : decide (size < 1) = true := decide_eq_true hs1
      clear hs1
      go_wp2_with fail
      refine (AW.out _).mono ?_
      rintro e wz ⟨rfl, bz⟩
      go_wp2_with fail
      go_ret
      exact ⟨rfl, b1.trans (bz.mono b1.size)⟩
    · have t1 : decide (size < 1) = false := decide_eq_false hs1
      by_cases hs2 : 1000 < size
      · have t2 : decide (1000 < size) = true := decide_eq_true hs2
        clear hs1 hs2
        go_wp2_with fail
        refine (AW.out _).mono ?_
        rintro e wz ⟨rfl, bz⟩
        go_wp2_with fail
        go_ret
        exact ⟨rfl, b1.trans (bz.mono b1.size)⟩
      · have t2 : decide (1000 < size) = false := decide_eq_false hs2
        obtain ⟨s, rfl⟩ : ∃ s : Nat, size = (s : Int) := ⟨size.toNat, by omega⟩
        have hs : 1 ≤ s ∧ s ≤ 1000 := by omega
        obtain ⟨hl, hpl⟩ := HSM.out rfl
        have HPL := Lib.hid hpl
        have H1 := HR.out.below b1
        have ST := Lib.hid (Sort_any _ r s w1 H1 HK.out (fun x hx => Nat.le_trans (hpl x hx) (by omega)) (by omega) hs.1 hs.2)
        clear hpl HSM hs1 hs2 H1
        go_wp2_with fail
        refine ST.out.mono ?_
        rintro e w2 ⟨b2, hres⟩
        have B2 := b1.trans (b2.mono b1.size)
        rcases hres with ⟨vx, rx, rfl, hse, hox, hcx⟩ | ⟨u, rfl, hne, hu⟩
        · have hpx : (rx.map Prod.fst).Perm (r.map Prod.fst) := by rw [hcx]; exact List.mergeSort_perm _ _
          have hkx : KeyIs rx := all_perm hpx (P := fun y => y.key = objKey y.kind y.pts) HK.out
          have hplx : ∀ x ∈ rx, x.1.pts.length ≤ 1500 := all_perm hpx (P := fun y => y.pts.length ≤ 1500) HPL.out
          have hlx : rx.length = r.length := by simpa using hpx.length_eq
          have hsx : sortEr (rx.map Prod.fst) = .none := sortEr_ok fun x hx => sortEr_none hse x (hpx.mem_iff.1 hx)
          have ST2 := Lib.hid (Sort_any vx rx s w2 hox.rd hkx (fun x hx => Nat.le_trans (hplx x hx) (by omega)) (by omega) hs.1 hs.2)
          have HX := Lib.hid hox
          have HCX := Lib.hid hcx
          have HSX := Lib.hid hsx
          have HSE := Lib.hid hse
          obtain ⟨ax, cx, rfl, g1, g2, -, -⟩ := hox.rd.open
          rw [hlx] at g1
          have HLX := Lib.hid hlx
          unfold maxLen at g2
          clear hpx hkx hplx hsx hox hcx hse hlx ST
          go_wp2_with fail
          refine ST2.out.mono ?_
          rintro e w3 ⟨b3, hres⟩
          have B3 := B2.trans (b3.mono B2.size)
          rcases hres with ⟨vy, ry, rfl, _, hoy, hcy⟩ | ⟨u, rfl, hne, _⟩
          · have X3 := HX.out.below b3
            have SI := Lib.hid (SameItems_eq _ _ rx ry w3 X3.rd hoy.rd (by rw [hcy, HCX.out, sort_twice]))
            have HX3 := Lib.hid X3
            obtain ⟨ay, cy, rfl, -, -, -, -⟩ := hoy.rd.open
            clear X3 hoy hcy ST2
            go_wp2_with fail
            refine SI.out.mono ?_
            rintro e w4 ⟨rfl, b4⟩
            have B4 := B3.trans (b4.mono B3.size)
            have X4 := Lib.hid (HX3.out.below b4)
            obtain ⟨n, hn⟩ : ∃ n, n = r.length := ⟨_, rfl⟩
            have HN := Lib.hid hn
            obtain ⟨_, _, e0, -, -, -, each⟩ := HR.out.open
            simp only [Value.slice.injEq, true_and] at e0
            obtain ⟨rfl, rfl⟩ := e0
            have EA := Lib.hid each
            have HP := Lib.hid HR.out.2
            have hsz4 := B4.size
            rw [← hn] at hc1 hl g1 ⊢
            clear each SI HX3 hn HX
            go_wp2_with fail
            go_loopw [9, 10] (fun bv iv wr => ∃ (k : Nat) (z : Int), k ≤ n ∧ z = (k : Int) - 1 ∧ iv = .int .i64 z ∧ wr.ownsRow w4.heap.size 37 3 bv (r.drop k).reverse.length (itR (r.drop k).reverse) ∧ (∀ (i j : Nat) (x y : KdV), k ≤ j → i < j → r[i]? = some x → r[j]? = some y → x.1.id ≠ y.1.id) ∧ Below w4.heap.size w4 wr) (fun _ iv _ => (intOf iv + 1).toNat)
            case atStart => exact ⟨n, (n : Int) - 1, Nat.le_refl _, rfl, rfl, by rw [List.drop_eq_nil_of_le (by rw [← HN.out]; exact Nat.le_refl _)]; exact World.ownsRow_nil _ _ _ _, fun i j x y h1 h2 h3 h4 => by
              have := (List.getElem?_eq_some_iff.1 h4).1
              have := HN.out
              omega, Below.refl _ _⟩
            case round =>
              obtain ⟨k, z, hkn, hz, rfl, ho, hd, hb⟩ := hrel
              have HO := Lib.hid ho
              have HD := Lib.hid hd
              have BB := B4.trans (hb.mono hsz4)
              clear ho hd
              cases k with
              | zero =>
                have t5 : decide ((0 : Int) ≤ z) = false := decide_eq_false (by omega)
                clear hz
                have ho := HO.out
                rw [List.drop_zero] at ho
                have hrd := ItRd.of_own _ _ _ _ ho (fun x hx => (HP.out x (List.mem_reverse.1 hx)).below BB)
                have hpb : (r.reverse.map Prod.fst).Perm (r.map Prod.fst) := (List.reverse_perm r).map _
                have NT : NoTwice (r.map Prod.fst) := by
                  unfold NoTwice
                  rw [List.pairwise_iff_getElem]
                  intro i j hi hj hij
                  rw [List.length_map] at hi hj
                  rw [List.getElem_map, List.getElem_map]
                  exact HD.out i j r[i] r[j] (Nat.zero_le _) hij (List.getElem?_eq_getElem hi) (List.getElem?_eq_getElem hj)
                have ST3 := Lib.hid (Sort_any u9 r.reverse s wr hrd (all_perm hpb (P := fun y => y.key = objKey y.kind y.pts) HK.out) (fun x hx => Nat.le_trans (HPL.out x (List.mem_reverse.1 hx)) (by omega)) (by rw [List.length_reverse, ← HN.out]; omega) hs.1 hs.2)
                have hsb := Lib.hid (show sortEr (r.reverse.map Prod.fst) = .none from sortEr_ok fun x hx => sortEr_none HSE.out x (hpb.mem_iff.1 hx))
                have HCB := Lib.hid (show (r.reverse.map Prod.fst).mergeSort leK = (r.map Prod.fst).mergeSort leK by rw [List.map_reverse]; exact sort_back _ NT)
                have X5 := Lib.hid (X4.out.below hb)
                clear ho hrd hpb NT HO HD
                go_wp2_with fail
                refine ST3.out.mono ?_
                rintro e w6 ⟨b6, hres⟩
                have B6 := BB.trans (b6.mono BB.size)
                rcases hres with ⟨vz, rz, rfl, _, hoz, hcz⟩ | ⟨u, rfl, hne, _⟩
                · have X6 := X5.out.below b6
                  have SI := Lib.hid (SameItems_eq _ _ rx rz w6 X6.rd hoz.rd (by rw [hcz, HCX.out, HCB.out]))
                  obtain ⟨az, cz, rfl, -, -, -, -⟩ := hoz.rd.open
                  clear X6 hoz hcz ST3
                  go_wp2_with fail
                  refine SI.out.mono ?_
                  rintro e w7 ⟨rfl, b7⟩
                  have B7 := B6.trans (b7.mono B6.size)
                  clear SI
                  go_wp2_with fail
                  refine (AW.out _).mono ?_
                  rintro e wz ⟨rfl, bz⟩
                  go_wp2_with fail
                  go_ret
                  exact ⟨rfl, B7.trans (bz.mono B7.size)⟩
                · exact absurd hsb.out hne
              | succ k =>
                obtain rfl : z = (k : Int) := by omega
                have t5 : decide ((0 : Int) ≤ (k : Int)) = true := decide_eq_true (by omega)
                obtain ⟨x, hx⟩ : ∃ x, r[k]? = some x := ⟨_, List.getElem?_eq_getElem (by have := HN.out; omega)⟩
                obtain ⟨b, o, rfl, hbl, c0, c1, c2⟩ := EA.out k x hx
                have hsl := (HP.out x (List.mem_of_getElem? hx)).isSl
                have hdk : (r.drop k).reverse = (r.drop (k + 1)).reverse ++ [x] := by
                  obtain ⟨h1, h2⟩ := List.getElem?_eq_some_iff.1 hx
                  rw [List.drop_eq_getElem_cons h1, h2, List.reverse_cons]
                have i0 : (0 : Int) ≤ (k : Int) := by omega
                have i1 : (k : Int) < (n : Int) := by omega
                have HDK := Lib.hid hdk
                have HXX := Lib.hid hx
                have HC0 := Lib.hid (And.intro c0 (And.intro c1 c2))
                clear hdk hx c0 c1 c2 hz
                obtain ⟨wo, hwo⟩ : ∃ wo, wo = wr := ⟨_, rfl⟩
                subst hwo
                have hbo := hb.size
                go_wp2_with fail
                go_loopw [11] (fun qv wq => ∃ q : Nat, q ≤ k ∧ qv = .int .i64 q ∧ (∀ (i : Nat) (y : KdV), i < q → r[i]? = some y → y.1.id ≠ x.1.id) ∧ Below wo.heap.size wo wq) (fun qv _ => k - (intOf qv).toNat)
                case atStart => exact ⟨0, Nat.zero_le _, rfl, fun i y h => by omega, Below.refl _ _⟩
                case round =>
                  obtain ⟨q, hq, rfl, hdq, hbq⟩ := hrel
                  have HDQ := Lib.hid hdq
                  have BQ := BB.trans (hbq.mono BB.size)
                  have d0 := (BQ.cell (p := ⟨b, o + k * 3, none⟩) hbl).trans HC0.out.1
                  clear hdq
                  by_cases hqk : q < k
                  · have t6 : decide ((q : Int) < (k : Int)) = true := decide_eq_true (by omega)
                    obtain ⟨y, hy⟩ : ∃ y, r[q]? = some y := ⟨_, List.getElem?_eq_getElem (by have := HN.out; omega)⟩
                    obtain ⟨b', o', eo, hbl', c0, -, -⟩ := EA.out q y hy
                    simp only [Option.some.injEq, Addr.mk.injEq, and_true] at eo
                    obtain ⟨rfl, rfl⟩ := eo
                    replace c0 := (BQ.cell (p := ⟨b, o + q * 3, none⟩) hbl').trans c0
                    have j0 : (0 : Int) ≤ (q : Int) := by omega
                    have j1 : (q : Int) < (n : Int) := by omega
                    have HYY := Lib.hid hy
                    clear hy
                    have hbd := Lib.hid (fun nq => (show Below wo.heap.size wo (wr.drewN nq) from ⟨hbq.os, hbq.tape, hbq.output, hbq.size, hbq.block⟩))
                    have hBd := Lib.hid (fun nq => (show Below w.heap.size w (wr.drewN nq) from ⟨BQ.os, BQ.tape, BQ.output, BQ.size, BQ.block⟩))
                    by_cases hid : y.1.id = x.1.id
                    · have t7 : (y.1.id == x.1.id) = true := by simpa using hid
                      clear hid
                      go_wp2_with fail
                      go_quiet (fail)
                      go_wp2_with fail
                      refine (AW.out _).mono ?_
                      rintro e wz ⟨rfl, bz⟩
                      go_wp2_with fail
                      go_ret
                      exact ⟨rfl, Below.trans (hBd.out _) (bz.mono (hBd.out _).size)⟩
                    · have t7 : (y.1.id == x.1.id) = false := by simpa using hid
                      have HI := Lib.hid hid
                      clear hid
                      go_wp2_with fail
                      go_quiet (fail)
                      go_wp2_with fail
                      go_roundw
                      case rel => exact ⟨q + 1, hqk, by go_num, fun i y' hi hy' => by
                        rcases Nat.lt_or_ge i q with h1 | h1
                        · exact HDQ.out i y' h1 hy'
                        · obtain rfl : i = q := by omega
                          rw [HYY.out] at hy'
                          cases hy'
                          exact HI.out, hbd.out _⟩
                      case measure => simp [intOf]; omega
                  · obtain rfl : q = k := by omega
                    have t6 : decide ((q : Int) < (q : Int)) = false := by simp
                    have d1 := (BQ.cell (p := ⟨b, o + q * 3 + 1, none⟩) hbl).trans HC0.out.2.1
                    have d2 := (BQ.cell (p := ⟨b, o + q * 3 + 2, none⟩) hbl).trans HC0.out.2.2
                    obtain ⟨⟨kk, ki, kd, kp⟩, xv⟩ := x
                    simp only at d0 d1 d2 hsl
                    obtain ⟨sa, sn, sc, rfl⟩ := hsl
                    have bA : Below wr.heap.size wr (wr.alloc (.cells #[.int .i64 ki, .int .i64 kd, .slice sa sn sc] 37)) := (Below.refl _ _).alloc (Nat.le_refl _) _
                    have O4 := Lib.hid (own_below' (own_below' HO.out hbq) bA)
                    have b44 := (hb.trans (hbq.mono hbo)).trans (bA.mono (Nat.le_trans hbo hbq.size))
                    have LIT := Lib.hid (rd_alloc wr #[.int .i64 ki, .int .i64 kd, .slice sa sn sc] 37 (0, 0) 1 (by simp [maxLen]))
                    have hrl : (r.drop (q + 1)).reverse.length ≤ 150 := by rw [List.length_reverse, List.length_drop, ← HN.out]; omega
                    have HRL := Lib.hid hrl
                    have HD2 := Lib.hid (show ∀ (i j : Nat) (x y : KdV), q ≤ j → i < j → r[i]? = some x → r[j]? = some y → x.1.id ≠ y.1.id from fun i j x y h1 h2 h3 h4 => by
                      rcases Nat.lt_or_ge q j with h5 | h5
                      · exact HD.out i j x y h5 h2 h3 h4
                      · obtain rfl : j = q := by omega
                        rw [HXX.out] at h4
                        cases h4
                        exact HDQ.out i x h2 h3)
                    clear HD HDQ hrl bA
                    go_wp2_with (at_builtin; refine wpList_append_g rfl _ _ 22 rfl w4.heap.size 37 _ 3 40 Try.underlying22 info_itS rfl (by decide) _ (r.drop (q + 1)).reverse.length (itR (r.drop (q + 1)).reverse) rfl O4.out _ 1 (itR [(⟨kk, ki, kd, kp⟩, .slice sa sn sc)]) rfl LIT.out rfl (itR_one _ (fun x hx => by obtain rfl := List.mem_singleton.1 hx; exact ⟨_, _, _, rfl⟩)) ?c1 ?c2 ?c3 ?_)
                    case c1 => have := HRL.out; unfold maxLen; first | omega | (simp at this ⊢; omega)
                    case c2 => have := HRL.out; first | omega | (simp at this ⊢; omega)
                    case c3 => first | exact b44.size | (have := b44.size; simp at this ⊢; omega)
                    intro v5 w5 o5 f5
                    have B5 := b44.trans f5.below
                    have O5 := Lib.hid (show w5.ownsRow w4.heap.size 37 3 v5 (r.drop q).reverse.length (itR (r.drop q).reverse) by rw [HDK.out, List.length_append, itR_append]; first | exact o5 | (rw [List.length_reverse, List.length_drop]; exact o5))
                    clear o5 f5 O4 LIT
                    go_wp2_with fail
                    go_roundw
                    case rel => exact ⟨q, (q : Int) - 1, by omega, rfl, by go_num, O5.out, HD2.out, B5⟩
                    case measure => simp [intOf]
          · exact absurd HSX.out hne
        · obtain ⟨T, y, rfl⟩ := hu.iface hne
          clear hu
          go_wp2_with fail
          refine (AW.out _).mono ?_
          rintro e wz ⟨rfl, bz⟩
          go_wp2_with fail
          go_ret
          exact ⟨rfl, B2.trans (bz.mono B2.size)⟩
open Go.ChangeShapes Go.WideShapes Go.ChangeAt in
set_option maxRecDepth 100000 in
theorem sorterTwice_calls {H : Type} {enc : TypeId × Value → H} {W : World} {base : Nat} {v0 v1 : Value} {d0 d1 : DataW H} {p0 p1 : List MemPlace}
    (o0 : Value.okWide Try.prog W .any base 22 v0) (h0 : DataW.Trod enc Try.prog W 0 (fun _ => true) true 22 v0 d0 p0)
    (o1 : Value.okWide Try.prog W .any base 3 v1) (h1 : DataW.Trod enc Try.prog W 0 (fun _ => true) true 3 v1 d1 p1) :
    Calls Try.prog 5 #[v0, v1] W fun e w' => e = .returned (.bool true) ∧ Below W.heap.size W w' := by
  obtain ⟨r, hr, hk, _⟩ := view_items o0 h0
  obtain ⟨n, rfl, rfl, rfl, hw⟩ := open_int Try.underlying3 o1 h1
  exact twice_any v0 r n W hr hk
end Go.Proofs.Ytoggbmfjjenbaaa
