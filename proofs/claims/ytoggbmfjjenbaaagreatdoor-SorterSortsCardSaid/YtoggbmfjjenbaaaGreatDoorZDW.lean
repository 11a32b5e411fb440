/- pergolalaw20.SorterSorts. -/
import Derived.Test.YtoggbmfjjenbaaaGreatDoorZDSort
import Derived.Test.YtoggbmfjjenbaaaGreatDoorZErrLaid
set_option linter.unusedSimpArgs false
set_option linter.unusedVariables false
namespace Go.Proofs.YtoggbmfjjenbaaaGreatDoor
open Go.RowKit

/-- may pieces have that size? -/
def badSz (size : Int) : Bool := decide (size < 1 ∨ 1000 < size)
def srtEr (size : Int) (L : List KdL) : Er := if badSz size then .num 1 else sortEr L
def srtRs (size : Int) (L : List KdL) : Int × Int := if badSz size then (1, 0) else sortRes L
def srtL (size : Int) (L : List KdL) : List KdL := if badSz size then [] else if (sortRes L).1 = 0 then L.mergeSort leK else []
theorem srt_code (size : Int) (L : List KdL) : (srtEr size L).code = (srtRs size L).1 := by
  unfold srtEr srtRs
  cases badSz size
  · exact sort_code L
  · rfl
theorem sortEr_zero {L : List KdL} (h : sortEr L = .none) : (sortRes L).1 = 0 := by rw [← sort_code, h]; rfl
theorem sortEr_nz {L : List KdL} (h : sortEr L ≠ .none) : (sortRes L).1 ≠ 0 := fun h0 => by
  induction L with
  | nil => exact h rfl
  | cons x l ih =>
    unfold sortEr at h
    unfold sortRes at h0
    by_cases hx : objCode x.kind x.pts = 0
    · rw [if_pos hx] at h h0; exact ih h h0
    · rw [if_neg hx] at h0; exact hx h0
theorem SortB_any (v : Value) (r : List KdV) (size : Int) (w : World) (h : ItRd w v r) (hk : KeyIs r) (hp : ∀ x ∈ r, x.1.pts.length ≤ 1000000) (hl : r.length ≤ 10000) :
    Calls Tryz.prog 6 #[v, .int .i64 size] w fun e w' => ∃ v' r' u, e = .returned (.tuple #[v', u]) ∧ ItRd w' v' r' ∧ r'.map Prod.fst = srtL size (r.map Prod.fst) ∧ (srtEr size (r.map Prod.fst)).Is w' u ∧ Below w.heap.size w w' := by
  by_cases hb : size < 1 ∨ 1000 < size
  · have e : badSz size = true := decide_eq_true hb
    unfold srtL srtEr
    rw [e]
    refine (Sort_err v size w hb).mono ?_
    rintro e w' ⟨rfl, rfl⟩
    exact ⟨_, [], _, rfl, ItRd.nil _, rfl, rfl, Below.refl _ _⟩
  · have e : badSz size = false := decide_eq_false hb
    obtain ⟨s, rfl⟩ : ∃ s : Nat, size = (s : Int) := ⟨size.toNat, by omega⟩
    unfold srtL srtEr
    rw [e]
    refine (Sort_any v r s w h hk hp hl (by omega) (by omega)).mono ?_
    rintro e w' ⟨b, ⟨v', r', rfl, h1, h2, h3⟩ | ⟨u, rfl, h1, h2⟩⟩
    · refine ⟨_, r', _, rfl, h2.rd, ?_, by simp only [Bool.false_eq_true, if_false]; rw [h1]; rfl, b⟩
      simp only [Bool.false_eq_true, if_false]
      rw [if_pos (sortEr_zero h1), h3]
    · refine ⟨_, [], u, rfl, ItRd.nil _, ?_, by simpa using h2, b⟩
      simp only [Bool.false_eq_true, if_false]
      rw [if_neg (sortEr_nz h1)]
      rfl
theorem SortRB_any (v : Value) (r : List KdV) (size : Int) (w : World) (h : ItRd w v r) (hk : KeyIs r) (hl : r.length ≤ 10000) :
    Calls Tryz.prog 7 #[v, .int .i64 size] w fun e w' => ∃ v' r', e = .returned (.tuple #[v', .int .i64 (srtRs size (r.map Prod.fst)).1, .int .i64 (srtRs size (r.map Prod.fst)).2]) ∧ ItRd w' v' r' ∧ r'.map Prod.fst = srtL size (r.map Prod.fst) ∧ Below w.heap.size w w' := by
  by_cases hb : size < 1 ∨ 1000 < size
  · have e : badSz size = true := decide_eq_true hb
    unfold srtL srtRs
    rw [e]
    refine (SortR_err v size w hb).mono ?_
    rintro e w' ⟨rfl, rfl⟩
    exact ⟨_, [], rfl, ItRd.nil _, rfl, Below.refl _ _⟩
  · have e : badSz size = false := decide_eq_false hb
    obtain ⟨s, rfl⟩ : ∃ s : Nat, size = (s : Int) := ⟨size.toNat, by omega⟩
    unfold srtL srtRs
    rw [e]
    refine (SortR_any v r s w h hk hl (by omega) (by omega)).mono ?_
    rintro e w' ⟨v', r', rfl, h1, h2, h3, b⟩
    refine ⟨_, r', rfl, h1, ?_, b⟩
    simp only [Bool.false_eq_true, if_false]
    by_cases h0 : (sortRes (r.map Prod.fst)).1 = 0
    · rw [if_pos h0, h2 h0]
    · rw [if_neg h0, h3 h0]; rfl

set_option maxRecDepth 100000 in
set_option maxHeartbeats 16000000 in
theorem sorts_law (v : Value) (r : List KdV) (size : Int) (w : World) (h : ItRd w v r) (hk : KeyIs r) (hg : ErrT w) :
    Calls Tryz.prog 3 #[v, .int .i64 size] w fun e w' => e = .returned (.bool true) ∧ Below w.heap.size w w' := by
  have AW := Lib.hid awake20_any
  have SM := Lib.hid (small_any v r w h)
  have GG := Lib.hid (fun w' (hb : Below w.heap.size w w') => hg.below hb hg.lt)
  have HR := Lib.hid h
  have HK := Lib.hid hk
  obtain ⟨ao, c, rfl, hc1, hc2, -, each⟩ := h.open
  have EA := Lib.hid each
  unfold maxLen at hc2
  clear h hk each hg
  go_enter Tryz.func3, Tryz.ntmps3
  go_wp2_with fail
  refine SM.out.mono ?_
  rintro e w1 ⟨b, rfl, hsm, b1⟩
  have HSM := Lib.hid hsm
  clear hsm SM
  cases b with
  | false =>
    go_wp2_with fail
    refine (AW.out _).mono ?_
    rintro e wz ⟨rfl, bz⟩
    go_wp2_with fail
    go_ret
    exact ⟨rfl, b1.trans (bz.mono b1.size)⟩
  | true =>
    obtain ⟨hl, hpl⟩ := HSM.out rfl
    have S1 := Lib.hid (SortB_any _ r size w1 (HR.out.below b1) HK.out (fun x hx => Nat.le_trans (hpl x hx) (by omega)) (by omega))
    have S2 := Lib.hid (fun w2 (hb : Below w.heap.size w w2) => SortRB_any _ r size w2 (HR.out.below hb) HK.out (by omega))
    have HCO := Lib.hid (srt_code size (r.map Prod.fst))
    have HIB := Lib.hid (show badSz size = false → (srtRs size (r.map Prod.fst)).1 ≠ 0 → (srtEr size (r.map Prod.fst)).isB (srtRs size (r.map Prod.fst)).1 strSort (srtRs size (r.map Prod.fst)).2 = true from fun h0 h1 => by
      unfold srtRs srtEr at *
      rw [h0] at h1 ⊢
      exact sort_isB _ h1)
    have HBS := Lib.hid (show badSz size = true → (srtRs size (r.map Prod.fst)).1 = 1 from fun h0 => by unfold srtRs; rw [h0]; rfl)
    generalize srtRs size (r.map Prod.fst) = rr at *
    obtain ⟨K, D0⟩ := rr
    generalize srtEr size (r.map Prod.fst) = E at *
    generalize srtL size (r.map Prod.fst) = LL at *
    simp only at S2 HCO HIB HBS
    obtain ⟨n, hn⟩ : ∃ n, n = r.length := ⟨_, rfl⟩
    rw [← hn] at hc1 hl S1 ⊢
    have S2' := S2
    rw [← hn] at S2'
    have HN := Lib.hid hn
    clear hpl HSM hn S2
    go_wp2_with fail
    refine S1.out.mono ?_
    rintro e w2 ⟨vx, rx, u, rfl, ox, cx, hu, b2⟩
    have B2 := b1.trans (b2.mono b1.size)
    have HX := Lib.hid ox
    have HCX := Lib.hid cx
    have HU := Lib.hid hu
    have hxl := congrArg List.length cx
    rw [List.length_map] at hxl
    obtain ⟨ax, kx, rfl, gx1, gx2, -, -⟩ := ox.open
    rw [hxl] at gx1 ⊢
    unfold maxLen at gx2
    have HXL := Lib.hid hxl
    clear S1 ox cx hu hxl
    go_wp2_with fail
    refine (S2'.out _ B2).mono ?_
    rintro e w3 ⟨vy, ry, rfl, oy, cy, b3⟩
    have B3 := B2.trans (b3.mono B2.size)
    have X3 := HX.out.below b3
    have SI := Lib.hid (SameItems_eq _ _ rx ry w3 X3 oy (HCX.out.trans cy.symm))
    rw [HXL.out] at SI
    have CD := Lib.hid (fun w' (hb : Below w3.heap.size w3 w') => Code_er E u w' ((HU.out.below b3).below hb))
    rw [HCO.out] at CD
    have IS := Lib.hid (fun w' (hb : Below w3.heap.size w3 w') => IsA_any E K strSort D0 u w' ((HU.out.below b3).below hb) (GG.out _ (B3.trans (hb.mono B3.size))))
    unfold strSort at IS
    have t0 : (K != K) = false := by simp
    obtain ⟨ay, ky, rfl, gy1, gy2, -, -⟩ := oy.open
    clear S2' oy cy HU X3 HX HCO
    go_wp2_with fail
    refine SI.out.mono ?_
    rintro e w4 ⟨rfl, b4⟩
    have B4 := B3.trans (b4.mono B3.size)
    have CD4 := Lib.hid (CD.out _ b4)
    have IS4 := Lib.hid (IS.out _ b4)
    clear SI CD IS
    go_wp2_with fail
    refine CD4.out.mono ?_
    rintro e wc ⟨rfl, rfl⟩
    clear CD4
    by_cases hK : K = 0
    · have t5 : (K != 0) = false := by simp [hK]
      clear hK HIB HBS IS4
      have hsz := B4.size
      go_wp2_with fail
      go_loopw [10] (fun iv wr => ∃ i : Nat, i ≤ n ∧ iv = .int .i64 i ∧ Below w.heap.size w wr) (fun iv _ => n - (intOf iv).toNat)
      case atStart => exact ⟨0, Nat.zero_le _, rfl, B4⟩
      case round =>
        obtain ⟨i, hi, rfl, hbr⟩ := hrel
        by_cases hlt : i < n
        · have q1 : decide ((i : Int) < (n : Int)) = true := decide_eq_true (Int.ofNat_lt.2 hlt)
          obtain ⟨x, hx⟩ : ∃ x, r[i]? = some x := ⟨_, List.getElem?_eq_getElem (by have := HN.out; omega)⟩
          obtain ⟨b', o', rfl, hbl, c0, c1, c2⟩ := EA.out i x hx
          have hp := HR.out.2 x (List.mem_of_getElem? hx)
          have i0 : (0 : Int) ≤ (i : Int) := by omega
          have i1 : (i : Int) < (n : Int) := by omega
          obtain ⟨⟨kk, ki, kd, kp⟩, xv⟩ := x
          simp only at c0 c1 c2 hp
          obtain ⟨sa, sn, sc, rfl⟩ := hp.isSl
          have d1 := (hbr.cell (p := ⟨b', o' + i * 3 + 1, none⟩) hbl).trans c1
          have d2 : wr.cell? ⟨b', o' + i * 3 + 1 + 1, none⟩ = some (.slice sa sn sc) := (hbr.cell (p := ⟨b', o' + i * 3 + 2, none⟩) hbl).trans c2
          have HC := Lib.hid (And.intro c1 c2)
          by_cases hc : objCode kd kp = 0
          · have KY := Lib.hid (fun w' (hw : Below w.heap.size w w') => Key_ok kd _ kp w' (hp.below hw) hc)
            have IK := Lib.hid (fun w' (hw : Below w.heap.size w w') => ItemKey_ok kd _ kp w' (hp.below hw) hc)
            generalize objKey kd kp = Q at *
            have q2 : ((Q : Int) != (Q : Int)) = false := by simp
            have q2n : (Q != Q) = false := by simp
            have CN := Lib.hid (fun w' => Code_er .none .nilIface w' rfl)
            clear hx c0 c1 c2 hp hc
            go_wp2_with fail
            refine (KY.out _ hbr).mono ?_
            rintro e w7 ⟨rfl, b7⟩
            have B7 := hbr.trans (b7.mono hbr.size)
            have f1 := (B7.cell (p := ⟨b', o' + i * 3 + 1, none⟩) hbl).trans HC.out.1
            have f2 : w7.cell? ⟨b', o' + i * 3 + 1 + 1, none⟩ = some (.slice sa sn sc) := (B7.cell (p := ⟨b', o' + i * 3 + 2, none⟩) hbl).trans HC.out.2
            clear d1 d2
            go_wp2_with fail
            refine (IK.out _ B7).mono ?_
            rintro e w8 ⟨rfl, b8⟩
            have B8 := B7.trans (b8.mono B7.size)
            clear f1 f2
            go_wp2_with fail
            refine (CN.out _).mono ?_
            rintro e w9 ⟨rfl, rfl⟩
            go_wp2_with fail
            go_roundw
            case rel => exact ⟨i + 1, hlt, by go_num, B8⟩
            case measure => simp [intOf]; omega
          · have KY := Lib.hid (fun w' (hw : Below w.heap.size w w') => Key_no kd _ kp w' (hp.below hw) hc)
            have IK := Lib.hid (fun w' (hw : Below w.heap.size w w') => ItemKey_no kd _ kp w' (hp.below hw) hc)
            have OC := Lib.hid (obj_code kd kp)
            have HNE := Lib.hid (wrap_ne (s := strObj) (i := kd) (objEr_ne hc))
            generalize (objEr kd kp).wrap strObj kd = EE at *
            generalize objCode kd kp = Q at *
            have q2 : (Q != Q) = false := by simp
            clear hx c0 c1 c2 hp hc
            go_wp2_with fail
            refine (KY.out _ hbr).mono ?_
            rintro e w7 ⟨u7, rfl, hu7, b7⟩
            have B7 := hbr.trans (b7.mono hbr.size)
            have HU7 := Lib.hid hu7
            obtain ⟨T7, y7, rfl⟩ := hu7.iface HNE.out
            have f1 := (B7.cell (p := ⟨b', o' + i * 3 + 1, none⟩) hbl).trans HC.out.1
            have f2 : w7.cell? ⟨b', o' + i * 3 + 1 + 1, none⟩ = some (.slice sa sn sc) := (B7.cell (p := ⟨b', o' + i * 3 + 2, none⟩) hbl).trans HC.out.2
            clear d1 d2 hu7
            go_wp2_with fail
            refine (IK.out _ B7).mono ?_
            rintro e w8 ⟨rfl, b8⟩
            have B8 := B7.trans (b8.mono B7.size)
            have CN := Lib.hid (Code_er EE _ w8 (HU7.out.below b8))
            rw [OC.out] at CN
            clear f1 f2
            go_wp2_with fail
            refine CN.out.mono ?_
            rintro e w9 ⟨rfl, rfl⟩
            go_wp2_with fail
            go_roundw
            case rel => exact ⟨i + 1, hlt, by go_num, B8⟩
            case measure => simp [intOf]; omega
        · obtain rfl : i = n := by omega
          have q1 : decide ((i : Int) < (i : Int)) = false := by simp
          go_wp2_with fail
          refine (AW.out _).mono ?_
          rintro e wz ⟨rfl, bz⟩
          go_wp2_with fail
          go_ret
          exact ⟨rfl, hbr.trans (bz.mono hbr.size)⟩
    · have t5 : (K != 0) = true := by simp [hK]
      by_cases hb : size < 1 ∨ 1000 < size
      · by_cases hs1 : size < 1
        · have t6 : decide ((1 : Int) ≤ size) = false := decide_eq_false (by omega)
          clear hK hb hs1 HIB HBS IS4
          have hsz := B4.size
          go_wp2_with fail
          go_loopw [10] (fun iv wr => ∃ i : Nat, i ≤ n ∧ iv = .int .i64 i ∧ Below w.heap.size w wr) (fun iv _ => n - (intOf iv).toNat)
          case atStart => exact ⟨0, Nat.zero_le _, rfl, B4⟩
          case round =>
            obtain ⟨i, hi, rfl, hbr⟩ := hrel
            by_cases hlt : i < n
            · have q1 : decide ((i : Int) < (n : Int)) = true := decide_eq_true (Int.ofNat_lt.2 hlt)
              obtain ⟨x, hx⟩ : ∃ x, r[i]? = some x := ⟨_, List.getElem?_eq_getElem (by have := HN.out; omega)⟩
              obtain ⟨b', o', rfl, hbl, c0, c1, c2⟩ := EA.out i x hx
              have hp := HR.out.2 x (List.mem_of_getElem? hx)
              have i0 : (0 : Int) ≤ (i : Int) := by omega
              have i1 : (i : Int) < (n : Int) := by omega
              obtain ⟨⟨kk, ki, kd, kp⟩, xv⟩ := x
              simp only at c0 c1 c2 hp
              obtain ⟨sa, sn, sc, rfl⟩ := hp.isSl
              have d1 := (hbr.cell (p := ⟨b', o' + i * 3 + 1, none⟩) hbl).trans c1
              have d2 : wr.cell? ⟨b', o' + i * 3 + 1 + 1, none⟩ = some (.slice sa sn sc) := (hbr.cell (p := ⟨b', o' + i * 3 + 2, none⟩) hbl).trans c2
              have HC := Lib.hid (And.intro c1 c2)
              by_cases hc : objCode kd kp = 0
              · have KY := Lib.hid (fun w' (hw : Below w.heap.size w w') => Key_ok kd _ kp w' (hp.below hw) hc)
                have IK := Lib.hid (fun w' (hw : Below w.heap.size w w') => ItemKey_ok kd _ kp w' (hp.below hw) hc)
                generalize objKey kd kp = Q at *
                have q2 : ((Q : Int) != (Q : Int)) = false := by simp
                have q2n : (Q != Q) = false := by simp
                have CN := Lib.hid (fun w' => Code_er .none .nilIface w' rfl)
                clear hx c0 c1 c2 hp hc
                go_wp2_with fail
                refine (KY.out _ hbr).mono ?_
                rintro e w7 ⟨rfl, b7⟩
                have B7 := hbr.trans (b7.mono hbr.size)
                have f1 := (B7.cell (p := ⟨b', o' + i * 3 + 1, none⟩) hbl).trans HC.out.1
                have f2 : w7.cell? ⟨b', o' + i * 3 + 1 + 1, none⟩ = some (.slice sa sn sc) := (B7.cell (p := ⟨b', o' + i * 3 + 2, none⟩) hbl).trans HC.out.2
                clear d1 d2
                go_wp2_with fail
                refine (IK.out _ B7).mono ?_
                rintro e w8 ⟨rfl, b8⟩
                have B8 := B7.trans (b8.mono B7.size)
                clear f1 f2
                go_wp2_with fail
                refine (CN.out _).mono ?_
                rintro e w9 ⟨rfl, rfl⟩
                go_wp2_with fail
                go_roundw
                case rel => exact ⟨i + 1, hlt, by go_num, B8⟩
                case measure => simp [intOf]; omega
              · have KY := Lib.hid (fun w' (hw : Below w.heap.size w w') => Key_no kd _ kp w' (hp.below hw) hc)
                have IK := Lib.hid (fun w' (hw : Below w.heap.size w w') => ItemKey_no kd _ kp w' (hp.below hw) hc)
                have OC := Lib.hid (obj_code kd kp)
                have HNE := Lib.hid (wrap_ne (s := strObj) (i := kd) (objEr_ne hc))
                generalize (objEr kd kp).wrap strObj kd = EE at *
                generalize objCode kd kp = Q at *
                have q2 : (Q != Q) = false := by simp
                clear hx c0 c1 c2 hp hc
                go_wp2_with fail
                refine (KY.out _ hbr).mono ?_
                rintro e w7 ⟨u7, rfl, hu7, b7⟩
                have B7 := hbr.trans (b7.mono hbr.size)
                have HU7 := Lib.hid hu7
                obtain ⟨T7, y7, rfl⟩ := hu7.iface HNE.out
                have f1 := (B7.cell (p := ⟨b', o' + i * 3 + 1, none⟩) hbl).trans HC.out.1
                have f2 : w7.cell? ⟨b', o' + i * 3 + 1 + 1, none⟩ = some (.slice sa sn sc) := (B7.cell (p := ⟨b', o' + i * 3 + 2, none⟩) hbl).trans HC.out.2
                clear d1 d2 hu7
                go_wp2_with fail
                refine (IK.out _ B7).mono ?_
                rintro e w8 ⟨rfl, b8⟩
                have B8 := B7.trans (b8.mono B7.size)
                have CN := Lib.hid (Code_er EE _ w8 (HU7.out.below b8))
                rw [OC.out] at CN
                clear f1 f2
                go_wp2_with fail
                refine CN.out.mono ?_
                rintro e w9 ⟨rfl, rfl⟩
                go_wp2_with fail
                go_roundw
                case rel => exact ⟨i + 1, hlt, by go_num, B8⟩
                case measure => simp [intOf]; omega
            · obtain rfl : i = n := by omega
              have q1 : decide ((i : Int) < (i : Int)) = false := by simp
              go_wp2_with fail
              refine (AW.out _).mono ?_
              rintro e wz ⟨rfl, bz⟩
              go_wp2_with fail
              go_ret
              exact ⟨rfl, hbr.trans (bz.mono hbr.size)⟩
        · have t6 : decide ((1 : Int) ≤ size) = true := decide_eq_true (by omega)
          have t7 : decide (size ≤ 1000) = false := decide_eq_false (by omega)
          clear hK hb hs1 HIB HBS IS4
          have hsz := B4.size
          go_wp2_with fail
          go_loopw [10] (fun iv wr => ∃ i : Nat, i ≤ n ∧ iv = .int .i64 i ∧ Below w.heap.size w wr) (fun iv _ => n - (intOf iv).toNat)
          case atStart => exact ⟨0, Nat.zero_le _, rfl, B4⟩
          case round =>
            obtain ⟨i, hi, rfl, hbr⟩ := hrel
            by_cases hlt : i < n
            · have q1 : decide ((i : Int) < (n : Int)) = true := decide_eq_true (Int.ofNat_lt.2 hlt)
              obtain ⟨x, hx⟩ : ∃ x, r[i]? = some x := ⟨_, List.getElem?_eq_getElem (by have := HN.out; omega)⟩
              obtain ⟨b', o', rfl, hbl, c0, c1, c2⟩ := EA.out i x hx
              have hp := HR.out.2 x (List.mem_of_getElem? hx)
              have i0 : (0 : Int) ≤ (i : Int) := by omega
              have i1 : (i : Int) < (n : Int) := by omega
              obtain ⟨⟨kk, ki, kd, kp⟩, xv⟩ := x
              simp only at c0 c1 c2 hp
              obtain ⟨sa, sn, sc, rfl⟩ := hp.isSl
              have d1 := (hbr.cell (p := ⟨b', o' + i * 3 + 1, none⟩) hbl).trans c1
              have d2 : wr.cell? ⟨b', o' + i * 3 + 1 + 1, none⟩ = some (.slice sa sn sc) := (hbr.cell (p := ⟨b', o' + i * 3 + 2, none⟩) hbl).trans c2
              have HC := Lib.hid (And.intro c1 c2)
              by_cases hc : objCode kd kp = 0
              · have KY := Lib.hid (fun w' (hw : Below w.heap.size w w') => Key_ok kd _ kp w' (hp.below hw) hc)
                have IK := Lib.hid (fun w' (hw : Below w.heap.size w w') => ItemKey_ok kd _ kp w' (hp.below hw) hc)
                generalize objKey kd kp = Q at *
                have q2 : ((Q : Int) != (Q : Int)) = false := by simp
                have q2n : (Q != Q) = false := by simp
                have CN := Lib.hid (fun w' => Code_er .none .nilIface w' rfl)
                clear hx c0 c1 c2 hp hc
                go_wp2_with fail
                refine (KY.out _ hbr).mono ?_
                rintro e w7 ⟨rfl, b7⟩
                have B7 := hbr.trans (b7.mono hbr.size)
                have f1 := (B7.cell (p := ⟨b', o' + i * 3 + 1, none⟩) hbl).trans HC.out.1
                have f2 : w7.cell? ⟨b', o' + i * 3 + 1 + 1, none⟩ = some (.slice sa sn sc) := (B7.cell (p := ⟨b', o' + i * 3 + 2, none⟩) hbl).trans HC.out.2
                clear d1 d2
                go_wp2_with fail
                refine (IK.out _ B7).mono ?_
                rintro e w8 ⟨rfl, b8⟩
                have B8 := B7.trans (b8.mono B7.size)
                clear f1 f2
                go_wp2_with fail
                refine (CN.out _).mono ?_
                rintro e w9 ⟨rfl, rfl⟩
                go_wp2_with fail
                go_roundw
                case rel => exact ⟨i + 1, hlt, by go_num, B8⟩
                case measure => simp [intOf]; omega
              · have KY := Lib.hid (fun w' (hw : Below w.heap.size w w') => Key_no kd _ kp w' (hp.below hw) hc)
                have IK := Lib.hid (fun w' (hw : Below w.heap.size w w') => ItemKey_no kd _ kp w' (hp.below hw) hc)
                have OC := Lib.hid (obj_code kd kp)
                have HNE := Lib.hid (wrap_ne (s := strObj) (i := kd) (objEr_ne hc))
                generalize (objEr kd kp).wrap strObj kd = EE at *
                generalize objCode kd kp = Q at *
                have q2 : (Q != Q) = false := by simp
                clear hx c0 c1 c2 hp hc
                go_wp2_with fail
                refine (KY.out _ hbr).mono ?_
                rintro e w7 ⟨u7, rfl, hu7, b7⟩
                have B7 := hbr.trans (b7.mono hbr.size)
                have HU7 := Lib.hid hu7
                obtain ⟨T7, y7, rfl⟩ := hu7.iface HNE.out
                have f1 := (B7.cell (p := ⟨b', o' + i * 3 + 1, none⟩) hbl).trans HC.out.1
                have f2 : w7.cell? ⟨b', o' + i * 3 + 1 + 1, none⟩ = some (.slice sa sn sc) := (B7.cell (p := ⟨b', o' + i * 3 + 2, none⟩) hbl).trans HC.out.2
                clear d1 d2 hu7
                go_wp2_with fail
                refine (IK.out _ B7).mono ?_
                rintro e w8 ⟨rfl, b8⟩
                have B8 := B7.trans (b8.mono B7.size)
                have CN := Lib.hid (Code_er EE _ w8 (HU7.out.below b8))
                rw [OC.out] at CN
                clear f1 f2
                go_wp2_with fail
                refine CN.out.mono ?_
                rintro e w9 ⟨rfl, rfl⟩
                go_wp2_with fail
                go_roundw
                case rel => exact ⟨i + 1, hlt, by go_num, B8⟩
                case measure => simp [intOf]; omega
            · obtain rfl : i = n := by omega
              have q1 : decide ((i : Int) < (i : Int)) = false := by simp
              go_wp2_with fail
              refine (AW.out _).mono ?_
              rintro e wz ⟨rfl, bz⟩
              go_wp2_with fail
              go_ret
              exact ⟨rfl, hbr.trans (bz.mono hbr.size)⟩
      · have t6 : decide ((1 : Int) ≤ size) = true := decide_eq_true (by omega)
        have t7 : decide (size ≤ 1000) = true := decide_eq_true (by omega)
        have hi := HIB.out (decide_eq_false hb) hK
        unfold strSort at hi
        rw [hi] at IS4
        clear hK hb hi HIB HBS
        go_wp2_with fail
        refine IS4.out.mono ?_
        rintro e w5 ⟨rfl, b5⟩
        have B5 := B4.trans (b5.mono B4.size)
        clear IS4
        have hsz := B5.size
        go_wp2_with fail
        go_loopw [10] (fun iv wr => ∃ i : Nat, i ≤ n ∧ iv = .int .i64 i ∧ Below w.heap.size w wr) (fun iv _ => n - (intOf iv).toNat)
        case atStart => exact ⟨0, Nat.zero_le _, rfl, B5⟩
        case round =>
          obtain ⟨i, hi, rfl, hbr⟩ := hrel
          by_cases hlt : i < n
          · have q1 : decide ((i : Int) < (n : Int)) = true := decide_eq_true (Int.ofNat_lt.2 hlt)
            obtain ⟨x, hx⟩ : ∃ x, r[i]? = some x := ⟨_, List.getElem?_eq_getElem (by have := HN.out; omega)⟩
            obtain ⟨b', o', rfl, hbl, c0, c1, c2⟩ := EA.out i x hx
            have hp := HR.out.2 x (List.mem_of_getElem? hx)
            have i0 : (0 : Int) ≤ (i : Int) := by omega
            have i1 : (i : Int) < (n : Int) := by omega
            obtain ⟨⟨kk, ki, kd, kp⟩, xv⟩ := x
            simp only at c0 c1 c2 hp
            obtain ⟨sa, sn, sc, rfl⟩ := hp.isSl
            have d1 := (hbr.cell (p := ⟨b', o' + i * 3 + 1, none⟩) hbl).trans c1
            have d2 : wr.cell? ⟨b', o' + i * 3 + 1 + 1, none⟩ = some (.slice sa sn sc) := (hbr.cell (p := ⟨b', o' + i * 3 + 2, none⟩) hbl).trans c2
            have HC := Lib.hid (And.intro c1 c2)
            by_cases hc : objCode kd kp = 0
            · have KY := Lib.hid (fun w' (hw : Below w.heap.size w w') => Key_ok kd _ kp w' (hp.below hw) hc)
              have IK := Lib.hid (fun w' (hw : Below w.heap.size w w') => ItemKey_ok kd _ kp w' (hp.below hw) hc)
              generalize objKey kd kp = Q at *
              have q2 : ((Q : Int) != (Q : Int)) = false := by simp
              have q2n : (Q != Q) = false := by simp
              have CN := Lib.hid (fun w' => Code_er .none .nilIface w' rfl)
              clear hx c0 c1 c2 hp hc
              go_wp2_with fail
              refine (KY.out _ hbr).mono ?_
              rintro e w7 ⟨rfl, b7⟩
              have B7 := hbr.trans (b7.mono hbr.size)
              have f1 := (B7.cell (p := ⟨b', o' + i * 3 + 1, none⟩) hbl).trans HC.out.1
              have f2 : w7.cell? ⟨b', o' + i * 3 + 1 + 1, none⟩ = some (.slice sa sn sc) := (B7.cell (p := ⟨b', o' + i * 3 + 2, none⟩) hbl).trans HC.out.2
              clear d1 d2
              go_wp2_with fail
              refine (IK.out _ B7).mono ?_
              rintro e w8 ⟨rfl, b8⟩
              have B8 := B7.trans (b8.mono B7.size)
              clear f1 f2
              go_wp2_with fail
              refine (CN.out _).mono ?_
              rintro e w9 ⟨rfl, rfl⟩
              go_wp2_with fail
              go_roundw
              case rel => exact ⟨i + 1, hlt, by go_num, B8⟩
              case measure => simp [intOf]; omega
            · have KY := Lib.hid (fun w' (hw : Below w.heap.size w w') => Key_no kd _ kp w' (hp.below hw) hc)
              have IK := Lib.hid (fun w' (hw : Below w.heap.size w w') => ItemKey_no kd _ kp w' (hp.below hw) hc)
              have OC := Lib.hid (obj_code kd kp)
              have HNE := Lib.hid (wrap_ne (s := strObj) (i := kd) (objEr_ne hc))
              generalize (objEr kd kp).wrap strObj kd = EE at *
              generalize objCode kd kp = Q at *
              have q2 : (Q != Q) = false := by simp
              clear hx c0 c1 c2 hp hc
              go_wp2_with fail
              refine (KY.out _ hbr).mono ?_
              rintro e w7 ⟨u7, rfl, hu7, b7⟩
              have B7 := hbr.trans (b7.mono hbr.size)
              have HU7 := Lib.hid hu7
              obtain ⟨T7, y7, rfl⟩ := hu7.iface HNE.out
              have f1 := (B7.cell (p := ⟨b', o' + i * 3 + 1, none⟩) hbl).trans HC.out.1
              have f2 : w7.cell? ⟨b', o' + i * 3 + 1 + 1, none⟩ = some (.slice sa sn sc) := (B7.cell (p := ⟨b', o' + i * 3 + 2, none⟩) hbl).trans HC.out.2
              clear d1 d2 hu7
              go_wp2_with fail
              refine (IK.out _ B7).mono ?_
              rintro e w8 ⟨rfl, b8⟩
              have B8 := B7.trans (b8.mono B7.size)
              have CN := Lib.hid (Code_er EE _ w8 (HU7.out.below b8))
              rw [OC.out] at CN
              clear f1 f2
              go_wp2_with fail
              refine CN.out.mono ?_
              rintro e w9 ⟨rfl, rfl⟩
              go_wp2_with fail
              go_roundw
              case rel => exact ⟨i + 1, hlt, by go_num, B8⟩
              case measure => simp [intOf]; omega
          · obtain rfl : i = n := by omega
            have q1 : decide ((i : Int) < (i : Int)) = false := by simp
            go_wp2_with fail
            refine (AW.out _).mono ?_
            rintro e wz ⟨rfl, bz⟩
            go_wp2_with fail
            go_ret
            exact ⟨rfl, hbr.trans (bz.mono hbr.size)⟩
open Go.ChangeShapes Go.WideShapes Go.ChangeAt in
set_option maxRecDepth 100000 in
theorem sorterSorts_calls {H : Type} {enc : TypeId × Value → H} {W : World} {base : Nat} {v0 v1 : Value} {d0 d1 : DataW H} {p0 p1 : List MemPlace} (hg : ErrT W)
    (o0 : Value.okWide Tryz.prog W .any base 22 v0) (h0 : DataW.Trod enc Tryz.prog W 0 (fun _ => true) true 22 v0 d0 p0)
    (o1 : Value.okWide Tryz.prog W .any base 3 v1) (h1 : DataW.Trod enc Tryz.prog W 0 (fun _ => true) true 3 v1 d1 p1) :
    Calls Tryz.prog 3 #[v0, v1] W fun e w' => e = .returned (.bool true) ∧ Below W.heap.size W w' := by
  obtain ⟨r, hr, hk, _⟩ := view_items o0 h0
  obtain ⟨n, rfl, rfl, rfl, hw⟩ := open_int Tryz.underlying3 o1 h1
  exact sorts_law v0 r n W hr hk hg
end Go.Proofs.YtoggbmfjjenbaaaGreatDoor
