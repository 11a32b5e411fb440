/- pergolaref3.CheckRing. (printed by wip/gen_ckr.py) -/
import Derived.Test.YthcfekabeidmiaaRRDoorREo8
import Derived.Test.YthcfekabeidmiaaRRDoorREo9
set_option linter.unusedSimpArgs false
set_option linter.unusedVariables false
namespace Go.Proofs.YthcfekabeidmiaaRRDoorR
open Go.RowKit

/-- does the document blame the corner i for j? -/
def badP (l : List Pt) (i j : Nat) : Bool := decide (i < j) && (decide (pt l i = pt l j) || clashB l i j)
def badR (l : List Pt) (i : Nat) : Bool := anyB (badP l i) l.length
/-- why a ring may not be: what the document says -/
def ringRes (l : List Pt) : Int × Int :=
  if l.length < 3 ∨ 64 < l.length then (3, l.length)
  else match first (fun i => !okP (pt l i)) l.length with
    | some i => (2, i)
    | none => match first (badR l) l.length with
      | some i => (4, i)
      | none => (0, 0)
theorem ringRes_verts {l : List Pt} (h : l.length < 3 ∨ 64 < l.length) : ringRes l = (3, (l.length : Int)) := by unfold ringRes; rw [if_pos h]
theorem ringRes_point {l : List Pt} (h : ¬ (l.length < 3 ∨ 64 < l.length)) {k : Nat} (hk : k < l.length) (h1 : allP (l.take k) = true) (h2 : okP (pt l k) = false) : ringRes l = (2, (k : Int)) := by
  unfold ringRes
  rw [if_neg h, first_some hk (by rw [h2]; rfl) (fun j hj => ?_)]
  have := pt_ok h1 (i := j) (by rw [List.length_take]; omega)
  rw [pt_get _ _ (by rw [List.length_take]; omega), List.getElem_take] at this
  rw [pt_get l j (by omega), this]
  rfl
theorem ringRes_edge {l : List Pt} (h : ¬ (l.length < 3 ∨ 64 < l.length)) (h1 : allP l = true) {i : Nat} (hi : i < l.length) (hb : badR l i = true) (hp : ∀ j, j < i → badR l j = false) : ringRes l = (4, (i : Int)) := by
  unfold ringRes
  rw [if_neg h, first_ok h1, first_some hi hb hp]
theorem ringRes_none {l : List Pt} (h : ¬ (l.length < 3 ∨ 64 < l.length)) (h1 : allP l = true) (hp : ∀ j, j < l.length → badR l j = false) : ringRes l = (0, 0) := by
  unfold ringRes
  rw [if_neg h, first_ok h1, first_none hp]
/-- The call hands back a code and an id. -/
def CodeRet (w : World) (r : Int × Int) (e : Ending) (w' : World) : Prop := e = .returned (.tuple #[.int .i64 r.1, .int .i64 r.2]) ∧ Below w.heap.size w w'

theorem CheckR_verts (v : Value) (l : List (Int × Int)) (w : World) (hv : Pts w v l) (h : l.length < 3 ∨ 64 < l.length) :
    Calls Tryd.prog 30 #[v] w (CodeRet w (ringRes l)) := by
  obtain ⟨ao, c, rfl, h1, h2, h0, h3⟩ := hv.open
  unfold maxLen at h2
  rw [ringRes_verts h]
  clear h0 h3 hv
  by_cases h4 : l.length < 3
  · have t1 : decide ((l.length : Int) < 3) = true := by simp; omega
    clear h
    go_enter Tryd.func30, Tryd.ntmps30
    go_wp2_with fail
    go_ret2
    exact ⟨rfl, Below.refl _ _⟩
  · have t1 : decide ((l.length : Int) < 3) = false := by simp; omega
    have t2 : decide ((64 : Int) < (l.length : Int)) = true := by simp; omega
    clear h
    go_enter Tryd.func30, Tryd.ntmps30
    go_wp2_with fail
    go_ret2
    exact ⟨rfl, Below.refl _ _⟩

set_option maxRecDepth 100000 in
set_option maxHeartbeats 4000000 in
theorem CheckR_long (v : Value) (l : List (Int × Int)) (w : World) (hv : Pts w v l) (h : ¬ (l.length < 3 ∨ 64 < l.length)) :
    Calls Tryd.prog 30 #[v] w (CodeRet w (ringRes l)) := by
  have hv0 := hv
  obtain ⟨ao, c, rfl, h1, h2, h0, h3⟩ := hv.open
  unfold maxLen at h2
  obtain ⟨g, off, rfl, hg0, hq1, hq2⟩ := h3 0 (by omega)
  have g3 : 3 ≤ l.length := by omega
  have g64 : l.length ≤ 64 := by omega
  have t1 : decide ((l.length : Int) < 3) = false := by simp; omega
  have t2 : decide ((64 : Int) < (l.length : Int)) = false := by simp; omega
  have PC := Lib.hid (show ∀ k (hk : k < l.length), _ from fun k hk => pt_cell hv0 hk)
  have HP := Lib.hid (show ∀ k (hk : k < l.length), allP (l.take k) = true → okP (pt l k) = false → ringRes l = (2, (k : Int)) from fun k hk a b => ringRes_point h hk a b)
  have HE := Lib.hid (show allP l = true → ∀ i, i < l.length → badR l i = true → (∀ j, j < i → badR l j = false) → ringRes l = (4, (i : Int)) from fun a i b c d => ringRes_edge h a b c d)
  have HN := Lib.hid (show allP l = true → (∀ j, j < l.length → badR l j = false) → ringRes l = (0, 0) from fun a b => ringRes_none h a b)
  have VB := Lib.hid (show ∀ w', Below w.heap.size w w' → Pts w' _ l from fun w' hb => hv0.below hb)
  clear h0 h3 hq1 hq2 hv hv0 h hg0
  go_enter Tryd.func30, Tryd.ntmps30
  go_wp2_with fail
  go_loopw [5] (fun i wr => ∃ k : Nat, k ≤ l.length ∧ i = .int .i64 k ∧ Hid (allP (l.take k) = true) ∧ Below w.heap.size w wr) (fun i _ => l.length - (intOf i).toNat)
  case atStart => exact ⟨0, Nat.zero_le _, rfl, Lib.hid rfl, Below.refl _ _⟩
  case round =>
    obtain ⟨k, hk, rfl, ha, hb⟩ := hrel
    have hs := hb.size
    by_cases hlt : k < l.length
    · have t3 : decide ((k : Int) < (l.length : Int)) = true := by simp; omega
      obtain ⟨hg, hx, hy⟩ := PC.out k hlt
      have hx' := (hb.cell (p := ⟨g, off + k * 2, none⟩) hg).trans hx
      have hy' := (hb.cell (p := ⟨g, off + k * 2 + 1, none⟩) hg).trans hy
      have HS := Lib.hid (allP_snoc l k hlt)
      have HQ := Lib.hid (HP.out k hlt)
      rw [← pt_get l k hlt] at HS
      clear hx hy
      generalize pt l k = p at *
      obtain ⟨x, y⟩ := p
      simp only at hx' hy'
      have i0 : (0 : Int) ≤ (k : Int) := by omega
      have i1 : (k : Int) < (l.length : Int) := by omega
      have C := Lib.hid (fun w => Point_any x y w)
      by_cases hq : inP x y
      · rw [decide_eq_true hq] at C
        have HA := Lib.hid (show allP (l.take (k + 1)) = true by rw [HS.out, ha.out, show okP (x, y) = true from decide_eq_true hq]; rfl)
        clear hq ha
        go_wp2_with fail
        refine (C.out _).mono ?_
        rintro e w1 ⟨rfl, b1⟩
        have hb2 := hb.trans (b1.mono hb.size)
        go_wp2_with fail
        go_roundw
        case rel => exact ⟨k + 1, by omega, by go_num, HA, hb2⟩
        case measure => simp [intOf]; omega
      · rw [decide_eq_false hq] at C
        have HF := Lib.hid (HQ.out ha.out (decide_eq_false hq))
        clear hq ha
        go_wp2_with fail
        refine (C.out _).mono ?_
        rintro e w1 ⟨rfl, b1⟩
        have hb2 := hb.trans (b1.mono hb.size)
        go_wp2_with fail
        go_ret2
        exact ⟨by rw [HF.out]; rfl, hb2⟩
    · have hall := Lib.hid (show allP l = true by have := ha.out; rwa [List.take_of_length_le (by omega)] at this)
      have t3 : decide ((k : Int) < (l.length : Int)) = false := by simp; omega
      clear ha
      obtain ⟨wo, rfl⟩ : ∃ wo : World, wo = wr := ⟨_, rfl⟩
      go_wp2_with fail
      go_loopw [6] (fun i wq => ∃ j : Nat, j ≤ l.length ∧ i = .int .i64 j ∧ Hid (∀ j', j' < j → badR l j' = false) ∧ Below w.heap.size w wq) (fun i _ => l.length - (intOf i).toNat)
      case atStart => exact ⟨0, Nat.zero_le _, rfl, Lib.hid (fun j' hj => absurd hj (Nat.not_lt_zero _)), hb⟩
      case round =>
        obtain ⟨j, hj, rfl, hbad, hbq⟩ := hrel
        by_cases hjl : j < l.length
        · have t4 : decide ((j : Int) < (l.length : Int)) = true := by simp; omega
          obtain ⟨wm, rfl⟩ : ∃ wm : World, wm = wr := ⟨_, rfl⟩
          go_wp2_with fail
          go_loopw [7] (fun i wq => ∃ q : Nat, j < q ∧ q ≤ l.length ∧ i = .int .i64 q ∧ Hid (∀ q', q' < q → badP l j q' = false) ∧ Below w.heap.size w wq) (fun i _ => l.length - (intOf i).toNat)
          case atStart => exact ⟨j + 1, by omega, by omega, by go_num, Lib.hid (fun j' hj => by unfold badP; rw [decide_eq_false (by omega)]; rfl), hbq⟩
          case round =>
            obtain ⟨q, hjq, hq, rfl, hsp, hbi⟩ := hrel
            obtain ⟨wi, rfl⟩ : ∃ wi : World, wi = wr := ⟨_, rfl⟩
            by_cases hql : q < l.length
            · have t5 : decide ((q : Int) < (l.length : Int)) = true := by simp; omega
              obtain ⟨hg, hx1, hy1⟩ := PC.out j hjl
              obtain ⟨_, hx2, hy2⟩ := PC.out q hql
              have XS := Lib.hid (show ∀ w', Below wi.heap.size wi w' → w'.cell? ⟨g, off + j * 2, none⟩ = some (.int .i64 (pt l j).1) ∧ w'.cell? ⟨g, off + j * 2 + 1, none⟩ = some (.int .i64 (pt l j).2) ∧ w'.cell? ⟨g, off + q * 2, none⟩ = some (.int .i64 (pt l q).1) ∧ w'.cell? ⟨g, off + q * 2 + 1, none⟩ = some (.int .i64 (pt l q).2) from fun w' h => by
                have h' := hbi.trans (h.mono hbi.size)
                exact ⟨(h'.cell (p := ⟨g, off + j * 2, none⟩) hg).trans hx1, (h'.cell (p := ⟨g, off + j * 2 + 1, none⟩) hg).trans hy1, (h'.cell (p := ⟨g, off + q * 2, none⟩) hg).trans hx2, (h'.cell (p := ⟨g, off + q * 2 + 1, none⟩) hg).trans hy2⟩)
              have CL := Lib.hid (show ∀ w', Below wi.heap.size wi w' → _ from fun w' h => clash_any g off c l j q w' (VB.out _ (hbi.trans (h.mono hbi.size))) hall.out g64 hjq hql)
              have HB := Lib.hid (show badP l j q = (decide (pt l j = pt l q) || clashB l j q) by unfold badP; rw [decide_eq_true hjq]; rfl)
              have HT := Lib.hid (show badP l j q = true → ringRes l = (4, (j : Int)) from fun hh => HE.out hall.out j hjl (anyB_true hql hh) hbad.out)
              have HG := Lib.hid (show badP l j q = false → ∀ q', q' < q + 1 → badP l j q' = false from fun hh q' h' => by
                rcases Nat.lt_succ_iff_lt_or_eq.1 h' with h' | h'
                · exact hsp.out q' h'
                · rw [h', hh])
              clear hx1 hy1 hx2 hy2 hsp hbad
              generalize pt l j = pa at *
              generalize pt l q = pc at *
              generalize badP l j q = bq at *
              generalize clashB l j q = cq at *
              obtain ⟨ax, ay⟩ := pa
              obtain ⟨cx, cy⟩ := pc
              simp only at XS
              have i0 : (0 : Int) ≤ (j : Int) := by omega
              have i1 : (j : Int) < (l.length : Int) := by omega
              have k0 : (0 : Int) ≤ (q : Int) := by omega
              have k1 : (q : Int) < (l.length : Int) := by omega
              by_cases e0 : (ax, ay) = (cx, cy)
              · have HF := Lib.hid (HT.out (by rw [HB.out, decide_eq_true e0]; rfl))
                obtain ⟨rfl, rfl⟩ := Prod.mk.inj e0
                clear e0 HB HT HG CL
                go_wp2_with fail
                refine wp_region_noPanic ?_
                refine wp_region_held_drew (S := fun w' => Below wi.heap.size wi w') (by kernel_rfl) (Below.refl _ _).drew (fun hHeld => ?_)
                generalize wi.drew = D at hHeld ⊢
                have B1 : Below wi.heap.size wi D := hHeld
                refine wpAnyH_take (i := 0) (oi := ⟨some 41, _, _, _, _, _⟩) (v := ?qv0a) rfl (by kernel_rfl) (by kernel_rfl) (by kernel_rfl) (fun _ _ _ h => h) (Or.inl ⟨by rfl, ?qy0a⟩) hHeld ?qr0a
                case qy0a => (intro w' hSw; go_simp; try with_reducible rfl)
                try simp only [Act.put, List.setIfInBounds_toArray, List.set_cons_zero, List.set_cons_succ]
                refine wpAnyH_take (i := 1) (oi := ⟨some 42, _, _, _, _, _⟩) (v := ?qv1a) rfl (by kernel_rfl) (by kernel_rfl) (by kernel_rfl) (fun _ _ _ h => h) (Or.inl ⟨by rfl, ?qy1a⟩) hHeld ?qr1a
                case qy1a => (intro w' hSw; go_simp; try with_reducible rfl)
                try simp only [Act.put, List.setIfInBounds_toArray, List.set_cons_zero, List.set_cons_succ]
                refine wpAnyH_take (i := 2) (oi := ⟨some 43, _, _, _, _, _⟩) (v := ?qv2a) rfl (by kernel_rfl) (by kernel_rfl) (by kernel_rfl) (fun _ _ _ h => h) (Or.inl ⟨by rfl, ?qy2a⟩) hHeld ?qr2a
                case qy2a => (intro w' hSw; go_simp; try with_reducible rfl)
                try simp only [Act.put, List.setIfInBounds_toArray, List.set_cons_zero, List.set_cons_succ]
                refine wpAnyH_take (i := 3) (oi := ⟨some 44, _, _, _, _, _⟩) (v := ?qv3a) rfl (by kernel_rfl) (by kernel_rfl) (by kernel_rfl) (fun _ _ _ h => h) (Or.inl ⟨by rfl, ?qy3a⟩) hHeld ?qr3a
                case qy3a => (intro w' hSw; obtain ⟨z0, z1, z2, z3⟩ := XS.out w' hSw; go_simp; try with_reducible rfl)
                try simp only [Act.put, List.setIfInBounds_toArray, List.set_cons_zero, List.set_cons_succ]
                refine wpAnyH_take (i := 4) (oi := ⟨some 45, _, _, _, _, _⟩) (v := ?qv4a) rfl (by kernel_rfl) (by kernel_rfl) (by kernel_rfl) (fun _ _ _ h => h) (Or.inl ⟨by rfl, ?qy4a⟩) hHeld ?qr4a
                case qy4a => (intro w' hSw; go_simp; try with_reducible rfl)
                try simp only [Act.put, List.setIfInBounds_toArray, List.set_cons_zero, List.set_cons_succ]
                refine wpAnyH_take (i := 5) (oi := ⟨some 46, _, _, _, _, _⟩) (v := ?qv5a) rfl (by kernel_rfl) (by kernel_rfl) (by kernel_rfl) (fun _ _ _ h => h) (Or.inl ⟨by rfl, ?qy5a⟩) hHeld ?qr5a
                case qy5a => (intro w' hSw; go_simp; try with_reducible rfl)
                try simp only [Act.put, List.setIfInBounds_toArray, List.set_cons_zero, List.set_cons_succ]
                refine wpAnyH_take (i := 6) (oi := ⟨some 47, _, _, _, _, _⟩) (v := ?qv6a) rfl (by kernel_rfl) (by kernel_rfl) (by kernel_rfl) (fun _ _ _ h => h) (Or.inl ⟨by rfl, ?qy6a⟩) hHeld ?qr6a
                case qy6a => (intro w' hSw; go_simp; try with_reducible rfl)
                try simp only [Act.put, List.setIfInBounds_toArray, List.set_cons_zero, List.set_cons_succ]
                refine wpAnyH_take (i := 7) (oi := ⟨some 48, _, _, _, _, _⟩) (v := ?qv7a) rfl (by kernel_rfl) (by kernel_rfl) (by kernel_rfl) (fun _ _ _ h => h) (Or.inl ⟨by rfl, ?qy7a⟩) hHeld ?qr7a
                case qy7a => (intro w' hSw; obtain ⟨z0, z1, z2, z3⟩ := XS.out w' hSw; go_simp; try with_reducible rfl)
                try simp only [Act.put, List.setIfInBounds_toArray, List.set_cons_zero, List.set_cons_succ]
                refine wpAnyH_take (i := 8) (oi := ⟨some 49, _, _, _, _, _⟩) (v := ?qv8a) rfl (by kernel_rfl) (by kernel_rfl) (by kernel_rfl) (fun _ _ _ h => h) (Or.inl ⟨by rfl, ?qy8a⟩) hHeld ?qr8a
                case qy8a => (intro w' hSw; go_simp; try with_reducible rfl)
                try simp only [Act.put, List.setIfInBounds_toArray, List.set_cons_zero, List.set_cons_succ]
                refine wpAnyH_take (i := 9) (oi := ⟨some 50, _, _, _, _, _⟩) (v := ?qv9a) rfl (by kernel_rfl) (by kernel_rfl) (by kernel_rfl) (fun _ _ _ h => h) (Or.inl ⟨by rfl, ?qy9a⟩) hHeld ?qr9a
                case qy9a => (intro w' hSw; go_simp; try with_reducible rfl)
                try simp only [Act.put, List.setIfInBounds_toArray, List.set_cons_zero, List.set_cons_succ]
                refine wpAnyH_take (i := 10) (oi := ⟨some 51, _, _, _, _, _⟩) (v := undef) rfl (by kernel_rfl) (by kernel_rfl) (by kernel_rfl) (fun _ _ _ h => h) (Or.inr ⟨by rfl, rfl⟩) hHeld ?_
                try simp only [Act.put, List.setIfInBounds_toArray, List.set_cons_zero, List.set_cons_succ]
                refine wpAnyH_take (i := 11) (oi := ⟨some 52, _, _, _, _, _⟩) (v := undef) rfl (by kernel_rfl) (by kernel_rfl) (by kernel_rfl) (fun _ _ _ h => h) (Or.inr ⟨by rfl, rfl⟩) hHeld ?_
                try simp only [Act.put, List.setIfInBounds_toArray, List.set_cons_zero, List.set_cons_succ]
                refine wpAnyH_take (i := 12) (oi := ⟨some 53, _, _, _, _, _⟩) (v := undef) rfl (by kernel_rfl) (by kernel_rfl) (by kernel_rfl) (fun _ _ _ h => h) (Or.inr ⟨by rfl, rfl⟩) hHeld ?_
                try simp only [Act.put, List.setIfInBounds_toArray, List.set_cons_zero, List.set_cons_succ]
                refine wpAnyH_take (i := 13) (oi := ⟨some 54, _, _, _, _, _⟩) (v := undef) rfl (by kernel_rfl) (by kernel_rfl) (by kernel_rfl) (fun _ _ _ h => h) (Or.inr ⟨by rfl, rfl⟩) hHeld ?_
                try simp only [Act.put, List.setIfInBounds_toArray, List.set_cons_zero, List.set_cons_succ]
                refine wpAnyH_take (i := 14) (oi := ⟨some 55, _, _, _, _, _⟩) (v := ?qv14a) rfl (by kernel_rfl) (by kernel_rfl) (by kernel_rfl) (fun _ _ _ h => h) (Or.inl ⟨by rfl, ?qy14a⟩) hHeld ?qr14a
                case qy14a => (intro w' hSw; go_simp; try with_reducible rfl)
                try simp only [Act.put, List.setIfInBounds_toArray, List.set_cons_zero, List.set_cons_succ]
                refine wpAnyH_done (by kernel_rfl) ?_ _
                refine NoPanic.normal ?_
                have hb2 := hbi.trans (B1.mono hbi.size)
                go_wp2_with fail
                go_ret2
                exact ⟨by rw [HF.out]; rfl, hb2⟩
              · obtain ⟨q0, q1, hq01, hqa, hqb⟩ := pair_beq e0
                have HB2 := Lib.hid (show bq = cq by rw [HB.out, decide_eq_false e0]; rfl)
                clear e0 HB
                cases cq with
                | true =>
                  have HF := Lib.hid (HT.out HB2.out)
                  clear HB2 HT HG
                  cases q0 <;> cases q1 <;> first | (exact absurd hq01 (by decide)) | skip
                  · go_wp2_with fail
                    refine wp_region_noPanic ?_
                    refine wp_region_held_drew (S := fun w' => Below wi.heap.size wi w') (by kernel_rfl) (Below.refl _ _).drew (fun hHeld => ?_)
                    generalize wi.drew = D at hHeld ⊢
                    have B1 : Below wi.heap.size wi D := hHeld
                    refine wpAnyH_take (i := 0) (oi := ⟨some 41, _, _, _, _, _⟩) (v := ?qv0b1) rfl (by kernel_rfl) (by kernel_rfl) (by kernel_rfl) (fun _ _ _ h => h) (Or.inl ⟨by rfl, ?qy0b1⟩) hHeld ?qr0b1
                    case qy0b1 => (intro w' hSw; go_simp; try with_reducible rfl)
                    try simp only [Act.put, List.setIfInBounds_toArray, List.set_cons_zero, List.set_cons_succ]
                    refine wpAnyH_take (i := 1) (oi := ⟨some 42, _, _, _, _, _⟩) (v := ?qv1b1) rfl (by kernel_rfl) (by kernel_rfl) (by kernel_rfl) (fun _ _ _ h => h) (Or.inl ⟨by rfl, ?qy1b1⟩) hHeld ?qr1b1
                    case qy1b1 => (intro w' hSw; go_simp; try with_reducible rfl)
                    try simp only [Act.put, List.setIfInBounds_toArray, List.set_cons_zero, List.set_cons_succ]
                    refine wpAnyH_take (i := 2) (oi := ⟨some 43, _, _, _, _, _⟩) (v := ?qv2b1) rfl (by kernel_rfl) (by kernel_rfl) (by kernel_rfl) (fun _ _ _ h => h) (Or.inl ⟨by rfl, ?qy2b1⟩) hHeld ?qr2b1
                    case qy2b1 => (intro w' hSw; go_simp; try with_reducible rfl)
                    try simp only [Act.put, List.setIfInBounds_toArray, List.set_cons_zero, List.set_cons_succ]
                    refine wpAnyH_take (i := 3) (oi := ⟨some 44, _, _, _, _, _⟩) (v := ?qv3b1) rfl (by kernel_rfl) (by kernel_rfl) (by kernel_rfl) (fun _ _ _ h => h) (Or.inl ⟨by rfl, ?qy3b1⟩) hHeld ?qr3b1
                    case qy3b1 => (intro w' hSw; obtain ⟨z0, z1, z2, z3⟩ := XS.out w' hSw; go_simp; try with_reducible rfl)
                    try simp only [Act.put, List.setIfInBounds_toArray, List.set_cons_zero, List.set_cons_succ]
                    refine wpAnyH_take (i := 4) (oi := ⟨some 45, _, _, _, _, _⟩) (v := ?qv4b1) rfl (by kernel_rfl) (by kernel_rfl) (by kernel_rfl) (fun _ _ _ h => h) (Or.inl ⟨by rfl, ?qy4b1⟩) hHeld ?qr4b1
                    case qy4b1 => (intro w' hSw; go_simp; try with_reducible rfl)
                    try simp only [Act.put, List.setIfInBounds_toArray, List.set_cons_zero, List.set_cons_succ]
                    refine wpAnyH_take (i := 5) (oi := ⟨some 46, _, _, _, _, _⟩) (v := ?qv5b1) rfl (by kernel_rfl) (by kernel_rfl) (by kernel_rfl) (fun _ _ _ h => h) (Or.inl ⟨by rfl, ?qy5b1⟩) hHeld ?qr5b1
                    case qy5b1 => (intro w' hSw; go_simp; try with_reducible rfl)
                    try simp only [Act.put, List.setIfInBounds_toArray, List.set_cons_zero, List.set_cons_succ]
                    refine wpAnyH_take (i := 6) (oi := ⟨some 47, _, _, _, _, _⟩) (v := ?qv6b1) rfl (by kernel_rfl) (by kernel_rfl) (by kernel_rfl) (fun _ _ _ h => h) (Or.inl ⟨by rfl, ?qy6b1⟩) hHeld ?qr6b1
                    case qy6b1 => (intro w' hSw; go_simp; try with_reducible rfl)
                    try simp only [Act.put, List.setIfInBounds_toArray, List.set_cons_zero, List.set_cons_succ]
                    refine wpAnyH_take (i := 7) (oi := ⟨some 48, _, _, _, _, _⟩) (v := ?qv7b1) rfl (by kernel_rfl) (by kernel_rfl) (by kernel_rfl) (fun _ _ _ h => h) (Or.inl ⟨by rfl, ?qy7b1⟩) hHeld ?qr7b1
                    case qy7b1 => (intro w' hSw; obtain ⟨z0, z1, z2, z3⟩ := XS.out w' hSw; go_simp; try with_reducible rfl)
                    try simp only [Act.put, List.setIfInBounds_toArray, List.set_cons_zero, List.set_cons_succ]
                    refine wpAnyH_take (i := 8) (oi := ⟨some 49, _, _, _, _, _⟩) (v := ?qv8b1) rfl (by kernel_rfl) (by kernel_rfl) (by kernel_rfl) (fun _ _ _ h => h) (Or.inl ⟨by rfl, ?qy8b1⟩) hHeld ?qr8b1
                    case qy8b1 => (intro w' hSw; go_simp; try with_reducible rfl)
                    try simp only [Act.put, List.setIfInBounds_toArray, List.set_cons_zero, List.set_cons_succ]
                    refine wpAnyH_take (i := 9) (oi := ⟨some 50, _, _, _, _, _⟩) (v := ?qv9b1) rfl (by kernel_rfl) (by kernel_rfl) (by kernel_rfl) (fun _ _ _ h => h) (Or.inl ⟨by rfl, ?qy9b1⟩) hHeld ?qr9b1
                    case qy9b1 => (intro w' hSw; go_simp; try with_reducible rfl)
                    try simp only [Act.put, List.setIfInBounds_toArray, List.set_cons_zero, List.set_cons_succ]
                    refine wpAnyH_take (i := 10) (oi := ⟨some 51, _, _, _, _, _⟩) (v := ?qv10b1) rfl (by kernel_rfl) (by kernel_rfl) (by kernel_rfl) (fun _ _ _ h => h) (Or.inl ⟨by rfl, ?qy10b1⟩) hHeld ?qr10b1
                    case qy10b1 => (intro w' hSw; go_simp; try with_reducible rfl)
                    try simp only [Act.put, List.setIfInBounds_toArray, List.set_cons_zero, List.set_cons_succ]
                    refine wpAnyH_take (i := 11) (oi := ⟨some 52, _, _, _, _, _⟩) (v := ?qv11b1) rfl (by kernel_rfl) (by kernel_rfl) (by kernel_rfl) (fun _ _ _ h => h) (Or.inl ⟨by rfl, ?qy11b1⟩) hHeld ?qr11b1
                    case qy11b1 => (intro w' hSw; go_simp; try with_reducible rfl)
                    try simp only [Act.put, List.setIfInBounds_toArray, List.set_cons_zero, List.set_cons_succ]
                    refine wpAnyH_take (i := 12) (oi := ⟨some 53, _, _, _, _, _⟩) (v := ?qv12b1) rfl (by kernel_rfl) (by kernel_rfl) (by kernel_rfl) (fun _ _ _ h => h) (Or.inl ⟨by rfl, ?qy12b1⟩) hHeld ?qr12b1
                    case qy12b1 => (intro w' hSw; go_simp; try with_reducible rfl)
                    try simp only [Act.put, List.setIfInBounds_toArray, List.set_cons_zero, List.set_cons_succ]
                    refine wpAnyH_ready (rs := [13]) (by kernel_rfl) (by simp) ?_
                    refine AllReadyH.cons (o := ⟨some 54, _, _, _, _, _⟩) rfl (fun K hK => ?_) AllReadyH.nil
                    refine step_go (by rfl) 44 _ _ (by rfl) (fun _ _ => by kernel_rfl) _ (by rfl) (CL.out _ B1) ?_
                    rintro e w8 ⟨rfl, b8⟩
                    refine ⟨_, rfl, ?_⟩
                    have B2 := B1.trans (b8.mono B1.size)
                    refine hK.out _ _ (B2) (fun hHeld => ?_)
                    clear hK K
                    try simp only [Act.put, List.setIfInBounds_toArray, List.set_cons_zero, List.set_cons_succ]
                    refine wpAnyH_take (i := 14) (oi := ⟨some 55, _, _, _, _, _⟩) (v := ?qv14b1) rfl (by kernel_rfl) (by kernel_rfl) (by kernel_rfl) (fun _ _ _ h => h) (Or.inl ⟨by rfl, ?qy14b1⟩) hHeld ?qr14b1
                    case qy14b1 => (intro w' hSw; go_simp; try with_reducible rfl)
                    try simp only [Act.put, List.setIfInBounds_toArray, List.set_cons_zero, List.set_cons_succ]
                    refine wpAnyH_done (by kernel_rfl) ?_ _
                    refine NoPanic.normal ?_
                    have hb2 := hbi.trans (B2.mono hbi.size)
                    go_wp2_with fail
                    go_ret2
                    exact ⟨by rw [HF.out]; rfl, hb2⟩
                  · go_wp2_with fail
                    refine wp_region_noPanic ?_
                    refine wp_region_held_drew (S := fun w' => Below wi.heap.size wi w') (by kernel_rfl) (Below.refl _ _).drew (fun hHeld => ?_)
                    generalize wi.drew = D at hHeld ⊢
                    have B1 : Below wi.heap.size wi D := hHeld
                    refine wpAnyH_take (i := 0) (oi := ⟨some 41, _, _, _, _, _⟩) (v := ?qv0b2) rfl (by kernel_rfl) (by kernel_rfl) (by kernel_rfl) (fun _ _ _ h => h) (Or.inl ⟨by rfl, ?qy0b2⟩) hHeld ?qr0b2
                    case qy0b2 => (intro w' hSw; go_simp; try with_reducible rfl)
                    try simp only [Act.put, List.setIfInBounds_toArray, List.set_cons_zero, List.set_cons_succ]
                    refine wpAnyH_take (i := 1) (oi := ⟨some 42, _, _, _, _, _⟩) (v := ?qv1b2) rfl (by kernel_rfl) (by kernel_rfl) (by kernel_rfl) (fun _ _ _ h => h) (Or.inl ⟨by rfl, ?qy1b2⟩) hHeld ?qr1b2
                    case qy1b2 => (intro w' hSw; go_simp; try with_reducible rfl)
                    try simp only [Act.put, List.setIfInBounds_toArray, List.set_cons_zero, List.set_cons_succ]
                    refine wpAnyH_take (i := 2) (oi := ⟨some 43, _, _, _, _, _⟩) (v := ?qv2b2) rfl (by kernel_rfl) (by kernel_rfl) (by kernel_rfl) (fun _ _ _ h => h) (Or.inl ⟨by rfl, ?qy2b2⟩) hHeld ?qr2b2
                    case qy2b2 => (intro w' hSw; go_simp; try with_reducible rfl)
                    try simp only [Act.put, List.setIfInBounds_toArray, List.set_cons_zero, List.set_cons_succ]
                    refine wpAnyH_take (i := 3) (oi := ⟨some 44, _, _, _, _, _⟩) (v := ?qv3b2) rfl (by kernel_rfl) (by kernel_rfl) (by kernel_rfl) (fun _ _ _ h => h) (Or.inl ⟨by rfl, ?qy3b2⟩) hHeld ?qr3b2
                    case qy3b2 => (intro w' hSw; obtain ⟨z0, z1, z2, z3⟩ := XS.out w' hSw; go_simp; try with_reducible rfl)
                    try simp only [Act.put, List.setIfInBounds_toArray, List.set_cons_zero, List.set_cons_succ]
                    refine wpAnyH_take (i := 4) (oi := ⟨some 45, _, _, _, _, _⟩) (v := ?qv4b2) rfl (by kernel_rfl) (by kernel_rfl) (by kernel_rfl) (fun _ _ _ h => h) (Or.inl ⟨by rfl, ?qy4b2⟩) hHeld ?qr4b2
                    case qy4b2 => (intro w' hSw; go_simp; try with_reducible rfl)
                    try simp only [Act.put, List.setIfInBounds_toArray, List.set_cons_zero, List.set_cons_succ]
                    refine wpAnyH_take (i := 5) (oi := ⟨some 46, _, _, _, _, _⟩) (v := ?qv5b2) rfl (by kernel_rfl) (by kernel_rfl) (by kernel_rfl) (fun _ _ _ h => h) (Or.inl ⟨by rfl, ?qy5b2⟩) hHeld ?qr5b2
                    case qy5b2 => (intro w' hSw; go_simp; try with_reducible rfl)
                    try simp only [Act.put, List.setIfInBounds_toArray, List.set_cons_zero, List.set_cons_succ]
                    refine wpAnyH_take (i := 6) (oi := ⟨some 47, _, _, _, _, _⟩) (v := ?qv6b2) rfl (by kernel_rfl) (by kernel_rfl) (by kernel_rfl) (fun _ _ _ h => h) (Or.inl ⟨by rfl, ?qy6b2⟩) hHeld ?qr6b2
                    case qy6b2 => (intro w' hSw; go_simp; try with_reducible rfl)
                    try simp only [Act.put, List.setIfInBounds_toArray, List.set_cons_zero, List.set_cons_succ]
                    refine wpAnyH_take (i := 7) (oi := ⟨some 48, _, _, _, _, _⟩) (v := ?qv7b2) rfl (by kernel_rfl) (by kernel_rfl) (by kernel_rfl) (fun _ _ _ h => h) (Or.inl ⟨by rfl, ?qy7b2⟩) hHeld ?qr7b2
                    case qy7b2 => (intro w' hSw; obtain ⟨z0, z1, z2, z3⟩ := XS.out w' hSw; go_simp; try with_reducible rfl)
                    try simp only [Act.put, List.setIfInBounds_toArray, List.set_cons_zero, List.set_cons_succ]
                    refine wpAnyH_take (i := 8) (oi := ⟨some 49, _, _, _, _, _⟩) (v := ?qv8b2) rfl (by kernel_rfl) (by kernel_rfl) (by kernel_rfl) (fun _ _ _ h => h) (Or.inl ⟨by rfl, ?qy8b2⟩) hHeld ?qr8b2
                    case qy8b2 => (intro w' hSw; go_simp; try with_reducible rfl)
                    try simp only [Act.put, List.setIfInBounds_toArray, List.set_cons_zero, List.set_cons_succ]
                    refine wpAnyH_take (i := 9) (oi := ⟨some 50, _, _, _, _, _⟩) (v := ?qv9b2) rfl (by kernel_rfl) (by kernel_rfl) (by kernel_rfl) (fun _ _ _ h => h) (Or.inl ⟨by rfl, ?qy9b2⟩) hHeld ?qr9b2
                    case qy9b2 => (intro w' hSw; go_simp; try with_reducible rfl)
                    try simp only [Act.put, List.setIfInBounds_toArray, List.set_cons_zero, List.set_cons_succ]
                    refine wpAnyH_take (i := 10) (oi := ⟨some 51, _, _, _, _, _⟩) (v := ?qv10b2) rfl (by kernel_rfl) (by kernel_rfl) (by kernel_rfl) (fun _ _ _ h => h) (Or.inl ⟨by rfl, ?qy10b2⟩) hHeld ?qr10b2
                    case qy10b2 => (intro w' hSw; go_simp; try with_reducible rfl)
                    try simp only [Act.put, List.setIfInBounds_toArray, List.set_cons_zero, List.set_cons_succ]
                    refine wpAnyH_take (i := 11) (oi := ⟨some 52, _, _, _, _, _⟩) (v := ?qv11b2) rfl (by kernel_rfl) (by kernel_rfl) (by kernel_rfl) (fun _ _ _ h => h) (Or.inl ⟨by rfl, ?qy11b2⟩) hHeld ?qr11b2
                    case qy11b2 => (intro w' hSw; go_simp; try with_reducible rfl)
                    try simp only [Act.put, List.setIfInBounds_toArray, List.set_cons_zero, List.set_cons_succ]
                    refine wpAnyH_take (i := 12) (oi := ⟨some 53, _, _, _, _, _⟩) (v := ?qv12b2) rfl (by kernel_rfl) (by kernel_rfl) (by kernel_rfl) (fun _ _ _ h => h) (Or.inl ⟨by rfl, ?qy12b2⟩) hHeld ?qr12b2
                    case qy12b2 => (intro w' hSw; go_simp; try with_reducible rfl)
                    try simp only [Act.put, List.setIfInBounds_toArray, List.set_cons_zero, List.set_cons_succ]
                    refine wpAnyH_ready (rs := [13]) (by kernel_rfl) (by simp) ?_
                    refine AllReadyH.cons (o := ⟨some 54, _, _, _, _, _⟩) rfl (fun K hK => ?_) AllReadyH.nil
                    refine step_go (by rfl) 44 _ _ (by rfl) (fun _ _ => by kernel_rfl) _ (by rfl) (CL.out _ B1) ?_
                    rintro e w8 ⟨rfl, b8⟩
                    refine ⟨_, rfl, ?_⟩
                    have B2 := B1.trans (b8.mono B1.size)
                    refine hK.out _ _ (B2) (fun hHeld => ?_)
                    clear hK K
                    try simp only [Act.put, List.setIfInBounds_toArray, List.set_cons_zero, List.set_cons_succ]
                    refine wpAnyH_take (i := 14) (oi := ⟨some 55, _, _, _, _, _⟩) (v := ?qv14b2) rfl (by kernel_rfl) (by kernel_rfl) (by kernel_rfl) (fun _ _ _ h => h) (Or.inl ⟨by rfl, ?qy14b2⟩) hHeld ?qr14b2
                    case qy14b2 => (intro w' hSw; go_simp; try with_reducible rfl)
                    try simp only [Act.put, List.setIfInBounds_toArray, List.set_cons_zero, List.set_cons_succ]
                    refine wpAnyH_done (by kernel_rfl) ?_ _
                    refine NoPanic.normal ?_
                    have hb2 := hbi.trans (B2.mono hbi.size)
                    go_wp2_with fail
                    go_ret2
                    exact ⟨by rw [HF.out]; rfl, hb2⟩
                  · go_wp2_with fail
                    refine wp_region_noPanic ?_
                    refine wp_region_held_drew (S := fun w' => Below wi.heap.size wi w') (by kernel_rfl) (Below.refl _ _).drew (fun hHeld => ?_)
                    generalize wi.drew = D at hHeld ⊢
                    have B1 : Below wi.heap.size wi D := hHeld
                    refine wpAnyH_take (i := 0) (oi := ⟨some 41, _, _, _, _, _⟩) (v := ?qv0b3) rfl (by kernel_rfl) (by kernel_rfl) (by kernel_rfl) (fun _ _ _ h => h) (Or.inl ⟨by rfl, ?qy0b3⟩) hHeld ?qr0b3
                    case qy0b3 => (intro w' hSw; go_simp; try with_reducible rfl)
                    try simp only [Act.put, List.setIfInBounds_toArray, List.set_cons_zero, List.set_cons_succ]
                    refine wpAnyH_take (i := 1) (oi := ⟨some 42, _, _, _, _, _⟩) (v := ?qv1b3) rfl (by kernel_rfl) (by kernel_rfl) (by kernel_rfl) (fun _ _ _ h => h) (Or.inl ⟨by rfl, ?qy1b3⟩) hHeld ?qr1b3
                    case qy1b3 => (intro w' hSw; go_simp; try with_reducible rfl)
                    try simp only [Act.put, List.setIfInBounds_toArray, List.set_cons_zero, List.set_cons_succ]
                    refine wpAnyH_take (i := 2) (oi := ⟨some 43, _, _, _, _, _⟩) (v := ?qv2b3) rfl (by kernel_rfl) (by kernel_rfl) (by kernel_rfl) (fun _ _ _ h => h) (Or.inl ⟨by rfl, ?qy2b3⟩) hHeld ?qr2b3
                    case qy2b3 => (intro w' hSw; go_simp; try with_reducible rfl)
                    try simp only [Act.put, List.setIfInBounds_toArray, List.set_cons_zero, List.set_cons_succ]
                    refine wpAnyH_take (i := 3) (oi := ⟨some 44, _, _, _, _, _⟩) (v := ?qv3b3) rfl (by kernel_rfl) (by kernel_rfl) (by kernel_rfl) (fun _ _ _ h => h) (Or.inl ⟨by rfl, ?qy3b3⟩) hHeld ?qr3b3
                    case qy3b3 => (intro w' hSw; obtain ⟨z0, z1, z2, z3⟩ := XS.out w' hSw; go_simp; try with_reducible rfl)
                    try simp only [Act.put, List.setIfInBounds_toArray, List.set_cons_zero, List.set_cons_succ]
                    refine wpAnyH_take (i := 4) (oi := ⟨some 45, _, _, _, _, _⟩) (v := ?qv4b3) rfl (by kernel_rfl) (by kernel_rfl) (by kernel_rfl) (fun _ _ _ h => h) (Or.inl ⟨by rfl, ?qy4b3⟩) hHeld ?qr4b3
                    case qy4b3 => (intro w' hSw; go_simp; try with_reducible rfl)
                    try simp only [Act.put, List.setIfInBounds_toArray, List.set_cons_zero, List.set_cons_succ]
                    refine wpAnyH_take (i := 5) (oi := ⟨some 46, _, _, _, _, _⟩) (v := ?qv5b3) rfl (by kernel_rfl) (by kernel_rfl) (by kernel_rfl) (fun _ _ _ h => h) (Or.inl ⟨by rfl, ?qy5b3⟩) hHeld ?qr5b3
                    case qy5b3 => (intro w' hSw; go_simp; try with_reducible rfl)
                    try simp only [Act.put, List.setIfInBounds_toArray, List.set_cons_zero, List.set_cons_succ]
                    refine wpAnyH_take (i := 6) (oi := ⟨some 47, _, _, _, _, _⟩) (v := ?qv6b3) rfl (by kernel_rfl) (by kernel_rfl) (by kernel_rfl) (fun _ _ _ h => h) (Or.inl ⟨by rfl, ?qy6b3⟩) hHeld ?qr6b3
                    case qy6b3 => (intro w' hSw; go_simp; try with_reducible rfl)
                    try simp only [Act.put, List.setIfInBounds_toArray, List.set_cons_zero, List.set_cons_succ]
                    refine wpAnyH_take (i := 7) (oi := ⟨some 48, _, _, _, _, _⟩) (v := ?qv7b3) rfl (by kernel_rfl) (by kernel_rfl) (by kernel_rfl) (fun _ _ _ h => h) (Or.inl ⟨by rfl, ?qy7b3⟩) hHeld ?qr7b3
                    case qy7b3 => (intro w' hSw; obtain ⟨z0, z1, z2, z3⟩ := XS.out w' hSw; go_simp; try with_reducible rfl)
                    try simp only [Act.put, List.setIfInBounds_toArray, List.set_cons_zero, List.set_cons_succ]
                    refine wpAnyH_take (i := 8) (oi := ⟨some 49, _, _, _, _, _⟩) (v := ?qv8b3) rfl (by kernel_rfl) (by kernel_rfl) (by kernel_rfl) (fun _ _ _ h => h) (Or.inl ⟨by rfl, ?qy8b3⟩) hHeld ?qr8b3
                    case qy8b3 => (intro w' hSw; go_simp; try with_reducible rfl)
                    try simp only [Act.put, List.setIfInBounds_toArray, List.set_cons_zero, List.set_cons_succ]
                    refine wpAnyH_take (i := 9) (oi := ⟨some 50, _, _, _, _, _⟩) (v := ?qv9b3) rfl (by kernel_rfl) (by kernel_rfl) (by kernel_rfl) (fun _ _ _ h => h) (Or.inl ⟨by rfl, ?qy9b3⟩) hHeld ?qr9b3
                    case qy9b3 => (intro w' hSw; go_simp; try with_reducible rfl)
                    try simp only [Act.put, List.setIfInBounds_toArray, List.set_cons_zero, List.set_cons_succ]
                    refine wpAnyH_take (i := 10) (oi := ⟨some 51, _, _, _, _, _⟩) (v := ?qv10b3) rfl (by kernel_rfl) (by kernel_rfl) (by kernel_rfl) (fun _ _ _ h => h) (Or.inl ⟨by rfl, ?qy10b3⟩) hHeld ?qr10b3
                    case qy10b3 => (intro w' hSw; go_simp; try with_reducible rfl)
                    try simp only [Act.put, List.setIfInBounds_toArray, List.set_cons_zero, List.set_cons_succ]
                    refine wpAnyH_take (i := 11) (oi := ⟨some 52, _, _, _, _, _⟩) (v := ?qv11b3) rfl (by kernel_rfl) (by kernel_rfl) (by kernel_rfl) (fun _ _ _ h => h) (Or.inl ⟨by rfl, ?qy11b3⟩) hHeld ?qr11b3
                    case qy11b3 => (intro w' hSw; go_simp; try with_reducible rfl)
                    try simp only [Act.put, List.setIfInBounds_toArray, List.set_cons_zero, List.set_cons_succ]
                    refine wpAnyH_take (i := 12) (oi := ⟨some 53, _, _, _, _, _⟩) (v := ?qv12b3) rfl (by kernel_rfl) (by kernel_rfl) (by kernel_rfl) (fun _ _ _ h => h) (Or.inl ⟨by rfl, ?qy12b3⟩) hHeld ?qr12b3
                    case qy12b3 => (intro w' hSw; go_simp; try with_reducible rfl)
                    try simp only [Act.put, List.setIfInBounds_toArray, List.set_cons_zero, List.set_cons_succ]
                    refine wpAnyH_ready (rs := [13]) (by kernel_rfl) (by simp) ?_
                    refine AllReadyH.cons (o := ⟨some 54, _, _, _, _, _⟩) rfl (fun K hK => ?_) AllReadyH.nil
                    refine step_go (by rfl) 44 _ _ (by rfl) (fun _ _ => by kernel_rfl) _ (by rfl) (CL.out _ B1) ?_
                    rintro e w8 ⟨rfl, b8⟩
                    refine ⟨_, rfl, ?_⟩
                    have B2 := B1.trans (b8.mono B1.size)
                    refine hK.out _ _ (B2) (fun hHeld => ?_)
                    clear hK K
                    try simp only [Act.put, List.setIfInBounds_toArray, List.set_cons_zero, List.set_cons_succ]
                    refine wpAnyH_take (i := 14) (oi := ⟨some 55, _, _, _, _, _⟩) (v := ?qv14b3) rfl (by kernel_rfl) (by kernel_rfl) (by kernel_rfl) (fun _ _ _ h => h) (Or.inl ⟨by rfl, ?qy14b3⟩) hHeld ?qr14b3
                    case qy14b3 => (intro w' hSw; go_simp; try with_reducible rfl)
                    try simp only [Act.put, List.setIfInBounds_toArray, List.set_cons_zero, List.set_cons_succ]
                    refine wpAnyH_done (by kernel_rfl) ?_ _
                    refine NoPanic.normal ?_
                    have hb2 := hbi.trans (B2.mono hbi.size)
                    go_wp2_with fail
                    go_ret2
                    exact ⟨by rw [HF.out]; rfl, hb2⟩
                | false =>
                  have HF := Lib.hid (HG.out HB2.out)
                  clear HB2 HT HG
                  cases q0 <;> cases q1 <;> first | (exact absurd hq01 (by decide)) | skip
                  · go_wp2_with fail
                    refine wp_region_noPanic ?_
                    refine wp_region_held_drew (S := fun w' => Below wi.heap.size wi w') (by kernel_rfl) (Below.refl _ _).drew (fun hHeld => ?_)
                    generalize wi.drew = D at hHeld ⊢
                    have B1 : Below wi.heap.size wi D := hHeld
                    refine wpAnyH_take (i := 0) (oi := ⟨some 41, _, _, _, _, _⟩) (v := ?qv0c1) rfl (by kernel_rfl) (by kernel_rfl) (by kernel_rfl) (fun _ _ _ h => h) (Or.inl ⟨by rfl, ?qy0c1⟩) hHeld ?qr0c1
                    case qy0c1 => (intro w' hSw; go_simp; try with_reducible rfl)
                    try simp only [Act.put, List.setIfInBounds_toArray, List.set_cons_zero, List.set_cons_succ]
                    refine wpAnyH_take (i := 1) (oi := ⟨some 42, _, _, _, _, _⟩) (v := ?qv1c1) rfl (by kernel_rfl) (by kernel_rfl) (by kernel_rfl) (fun _ _ _ h => h) (Or.inl ⟨by rfl, ?qy1c1⟩) hHeld ?qr1c1
                    case qy1c1 => (intro w' hSw; go_simp; try with_reducible rfl)
                    try simp only [Act.put, List.setIfInBounds_toArray, List.set_cons_zero, List.set_cons_succ]
                    refine wpAnyH_take (i := 2) (oi := ⟨some 43, _, _, _, _, _⟩) (v := ?qv2c1) rfl (by kernel_rfl) (by kernel_rfl) (by kernel_rfl) (fun _ _ _ h => h) (Or.inl ⟨by rfl, ?qy2c1⟩) hHeld ?qr2c1
                    case qy2c1 => (intro w' hSw; go_simp; try with_reducible rfl)
                    try simp only [Act.put, List.setIfInBounds_toArray, List.set_cons_zero, List.set_cons_succ]
                    refine wpAnyH_take (i := 3) (oi := ⟨some 44, _, _, _, _, _⟩) (v := ?qv3c1) rfl (by kernel_rfl) (by kernel_rfl) (by kernel_rfl) (fun _ _ _ h => h) (Or.inl ⟨by rfl, ?qy3c1⟩) hHeld ?qr3c1
                    case qy3c1 => (intro w' hSw; obtain ⟨z0, z1, z2, z3⟩ := XS.out w' hSw; go_simp; try with_reducible rfl)
                    try simp only [Act.put, List.setIfInBounds_toArray, List.set_cons_zero, List.set_cons_succ]
                    refine wpAnyH_take (i := 4) (oi := ⟨some 45, _, _, _, _, _⟩) (v := ?qv4c1) rfl (by kernel_rfl) (by kernel_rfl) (by kernel_rfl) (fun _ _ _ h => h) (Or.inl ⟨by rfl, ?qy4c1⟩) hHeld ?qr4c1
                    case qy4c1 => (intro w' hSw; go_simp; try with_reducible rfl)
                    try simp only [Act.put, List.setIfInBounds_toArray, List.set_cons_zero, List.set_cons_succ]
                    refine wpAnyH_take (i := 5) (oi := ⟨some 46, _, _, _, _, _⟩) (v := ?qv5c1) rfl (by kernel_rfl) (by kernel_rfl) (by kernel_rfl) (fun _ _ _ h => h) (Or.inl ⟨by rfl, ?qy5c1⟩) hHeld ?qr5c1
                    case qy5c1 => (intro w' hSw; go_simp; try with_reducible rfl)
                    try simp only [Act.put, List.setIfInBounds_toArray, List.set_cons_zero, List.set_cons_succ]
                    refine wpAnyH_take (i := 6) (oi := ⟨some 47, _, _, _, _, _⟩) (v := ?qv6c1) rfl (by kernel_rfl) (by kernel_rfl) (by kernel_rfl) (fun _ _ _ h => h) (Or.inl ⟨by rfl, ?qy6c1⟩) hHeld ?qr6c1
                    case qy6c1 => (intro w' hSw; go_simp; try with_reducible rfl)
                    try simp only [Act.put, List.setIfInBounds_toArray, List.set_cons_zero, List.set_cons_succ]
                    refine wpAnyH_take (i := 7) (oi := ⟨some 48, _, _, _, _, _⟩) (v := ?qv7c1) rfl (by kernel_rfl) (by kernel_rfl) (by kernel_rfl) (fun _ _ _ h => h) (Or.inl ⟨by rfl, ?qy7c1⟩) hHeld ?qr7c1
                    case qy7c1 => (intro w' hSw; obtain ⟨z0, z1, z2, z3⟩ := XS.out w' hSw; go_simp; try with_reducible rfl)
                    try simp only [Act.put, List.setIfInBounds_toArray, List.set_cons_zero, List.set_cons_succ]
                    refine wpAnyH_take (i := 8) (oi := ⟨some 49, _, _, _, _, _⟩) (v := ?qv8c1) rfl (by kernel_rfl) (by kernel_rfl) (by kernel_rfl) (fun _ _ _ h => h) (Or.inl ⟨by rfl, ?qy8c1⟩) hHeld ?qr8c1
                    case qy8c1 => (intro w' hSw; go_simp; try with_reducible rfl)
                    try simp only [Act.put, List.setIfInBounds_toArray, List.set_cons_zero, List.set_cons_succ]
                    refine wpAnyH_take (i := 9) (oi := ⟨some 50, _, _, _, _, _⟩) (v := ?qv9c1) rfl (by kernel_rfl) (by kernel_rfl) (by kernel_rfl) (fun _ _ _ h => h) (Or.inl ⟨by rfl, ?qy9c1⟩) hHeld ?qr9c1
                    case qy9c1 => (intro w' hSw; go_simp; try with_reducible rfl)
                    try simp only [Act.put, List.setIfInBounds_toArray, List.set_cons_zero, List.set_cons_succ]
                    refine wpAnyH_take (i := 10) (oi := ⟨some 51, _, _, _, _, _⟩) (v := ?qv10c1) rfl (by kernel_rfl) (by kernel_rfl) (by kernel_rfl) (fun _ _ _ h => h) (Or.inl ⟨by rfl, ?qy10c1⟩) hHeld ?qr10c1
                    case qy10c1 => (intro w' hSw; go_simp; try with_reducible rfl)
                    try simp only [Act.put, List.setIfInBounds_toArray, List.set_cons_zero, List.set_cons_succ]
                    refine wpAnyH_take (i := 11) (oi := ⟨some 52, _, _, _, _, _⟩) (v := ?qv11c1) rfl (by kernel_rfl) (by kernel_rfl) (by kernel_rfl) (fun _ _ _ h => h) (Or.inl ⟨by rfl, ?qy11c1⟩) hHeld ?qr11c1
                    case qy11c1 => (intro w' hSw; go_simp; try with_reducible rfl)
                    try simp only [Act.put, List.setIfInBounds_toArray, List.set_cons_zero, List.set_cons_succ]
                    refine wpAnyH_take (i := 12) (oi := ⟨some 53, _, _, _, _, _⟩) (v := ?qv12c1) rfl (by kernel_rfl) (by kernel_rfl) (by kernel_rfl) (fun _ _ _ h => h) (Or.inl ⟨by rfl, ?qy12c1⟩) hHeld ?qr12c1
                    case qy12c1 => (intro w' hSw; go_simp; try with_reducible rfl)
                    try simp only [Act.put, List.setIfInBounds_toArray, List.set_cons_zero, List.set_cons_succ]
                    refine wpAnyH_ready (rs := [13]) (by kernel_rfl) (by simp) ?_
                    refine AllReadyH.cons (o := ⟨some 54, _, _, _, _, _⟩) rfl (fun K hK => ?_) AllReadyH.nil
                    refine step_go (by rfl) 44 _ _ (by rfl) (fun _ _ => by kernel_rfl) _ (by rfl) (CL.out _ B1) ?_
                    rintro e w8 ⟨rfl, b8⟩
                    refine ⟨_, rfl, ?_⟩
                    have B2 := B1.trans (b8.mono B1.size)
                    refine hK.out _ _ (B2) (fun hHeld => ?_)
                    clear hK K
                    try simp only [Act.put, List.setIfInBounds_toArray, List.set_cons_zero, List.set_cons_succ]
                    refine wpAnyH_take (i := 14) (oi := ⟨some 55, _, _, _, _, _⟩) (v := ?qv14c1) rfl (by kernel_rfl) (by kernel_rfl) (by kernel_rfl) (fun _ _ _ h => h) (Or.inl ⟨by rfl, ?qy14c1⟩) hHeld ?qr14c1
                    case qy14c1 => (intro w' hSw; go_simp; try with_reducible rfl)
                    try simp only [Act.put, List.setIfInBounds_toArray, List.set_cons_zero, List.set_cons_succ]
                    refine wpAnyH_done (by kernel_rfl) ?_ _
                    refine NoPanic.normal ?_
                    have hb2 := hbi.trans (B2.mono hbi.size)
                    go_wp2_with fail
                    go_roundw
                    case rel => exact ⟨q + 1, by omega, by omega, by go_num, HF, hb2⟩
                    case measure => simp [intOf]; omega
                  · go_wp2_with fail
                    refine wp_region_noPanic ?_
                    refine wp_region_held_drew (S := fun w' => Below wi.heap.size wi w') (by kernel_rfl) (Below.refl _ _).drew (fun hHeld => ?_)
                    generalize wi.drew = D at hHeld ⊢
                    have B1 : Below wi.heap.size wi D := hHeld
                    refine wpAnyH_take (i := 0) (oi := ⟨some 41, _, _, _, _, _⟩) (v := ?qv0c2) rfl (by kernel_rfl) (by kernel_rfl) (by kernel_rfl) (fun _ _ _ h => h) (Or.inl ⟨by rfl, ?qy0c2⟩) hHeld ?qr0c2
                    case qy0c2 => (intro w' hSw; go_simp; try with_reducible rfl)
                    try simp only [Act.put, List.setIfInBounds_toArray, List.set_cons_zero, List.set_cons_succ]
                    refine wpAnyH_take (i := 1) (oi := ⟨some 42, _, _, _, _, _⟩) (v := ?qv1c2) rfl (by kernel_rfl) (by kernel_rfl) (by kernel_rfl) (fun _ _ _ h => h) (Or.inl ⟨by rfl, ?qy1c2⟩) hHeld ?qr1c2
                    case qy1c2 => (intro w' hSw; go_simp; try with_reducible rfl)
                    try simp only [Act.put, List.setIfInBounds_toArray, List.set_cons_zero, List.set_cons_succ]
                    refine wpAnyH_take (i := 2) (oi := ⟨some 43, _, _, _, _, _⟩) (v := ?qv2c2) rfl (by kernel_rfl) (by kernel_rfl) (by kernel_rfl) (fun _ _ _ h => h) (Or.inl ⟨by rfl, ?qy2c2⟩) hHeld ?qr2c2
                    case qy2c2 => (intro w' hSw; go_simp; try with_reducible rfl)
                    try simp only [Act.put, List.setIfInBounds_toArray, List.set_cons_zero, List.set_cons_succ]
                    refine wpAnyH_take (i := 3) (oi := ⟨some 44, _, _, _, _, _⟩) (v := ?qv3c2) rfl (by kernel_rfl) (by kernel_rfl) (by kernel_rfl) (fun _ _ _ h => h) (Or.inl ⟨by rfl, ?qy3c2⟩) hHeld ?qr3c2
                    case qy3c2 => (intro w' hSw; obtain ⟨z0, z1, z2, z3⟩ := XS.out w' hSw; go_simp; try with_reducible rfl)
                    try simp only [Act.put, List.setIfInBounds_toArray, List.set_cons_zero, List.set_cons_succ]
                    refine wpAnyH_take (i := 4) (oi := ⟨some 45, _, _, _, _, _⟩) (v := ?qv4c2) rfl (by kernel_rfl) (by kernel_rfl) (by kernel_rfl) (fun _ _ _ h => h) (Or.inl ⟨by rfl, ?qy4c2⟩) hHeld ?qr4c2
                    case qy4c2 => (intro w' hSw; go_simp; try with_reducible rfl)
                    try simp only [Act.put, List.setIfInBounds_toArray, List.set_cons_zero, List.set_cons_succ]
                    refine wpAnyH_take (i := 5) (oi := ⟨some 46, _, _, _, _, _⟩) (v := ?qv5c2) rfl (by kernel_rfl) (by kernel_rfl) (by kernel_rfl) (fun _ _ _ h => h) (Or.inl ⟨by rfl, ?qy5c2⟩) hHeld ?qr5c2
                    case qy5c2 => (intro w' hSw; go_simp; try with_reducible rfl)
                    try simp only [Act.put, List.setIfInBounds_toArray, List.set_cons_zero, List.set_cons_succ]
                    refine wpAnyH_take (i := 6) (oi := ⟨some 47, _, _, _, _, _⟩) (v := ?qv6c2) rfl (by kernel_rfl) (by kernel_rfl) (by kernel_rfl) (fun _ _ _ h => h) (Or.inl ⟨by rfl, ?qy6c2⟩) hHeld ?qr6c2
                    case qy6c2 => (intro w' hSw; go_simp; try with_reducible rfl)
                    try simp only [Act.put, List.setIfInBounds_toArray, List.set_cons_zero, List.set_cons_succ]
                    refine wpAnyH_take (i := 7) (oi := ⟨some 48, _, _, _, _, _⟩) (v := ?qv7c2) rfl (by kernel_rfl) (by kernel_rfl) (by kernel_rfl) (fun _ _ _ h => h) (Or.inl ⟨by rfl, ?qy7c2⟩) hHeld ?qr7c2
                    case qy7c2 => (intro w' hSw; obtain ⟨z0, z1, z2, z3⟩ := XS.out w' hSw; go_simp; try with_reducible rfl)
                    try simp only [Act.put, List.setIfInBounds_toArray, List.set_cons_zero, List.set_cons_succ]
                    refine wpAnyH_take (i := 8) (oi := ⟨some 49, _, _, _, _, _⟩) (v := ?qv8c2) rfl (by kernel_rfl) (by kernel_rfl) (by kernel_rfl) (fun _ _ _ h => h) (Or.inl ⟨by rfl, ?qy8c2⟩) hHeld ?qr8c2
                    case qy8c2 => (intro w' hSw; go_simp; try with_reducible rfl)
                    try simp only [Act.put, List.setIfInBounds_toArray, List.set_cons_zero, List.set_cons_succ]
                    refine wpAnyH_take (i := 9) (oi := ⟨some 50, _, _, _, _, _⟩) (v := ?qv9c2) rfl (by kernel_rfl) (by kernel_rfl) (by kernel_rfl) (fun _ _ _ h => h) (Or.inl ⟨by rfl, ?qy9c2⟩) hHeld ?qr9c2
                    case qy9c2 => (intro w' hSw; go_simp; try with_reducible rfl)
                    try simp only [Act.put, List.setIfInBounds_toArray, List.set_cons_zero, List.set_cons_succ]
                    refine wpAnyH_take (i := 10) (oi := ⟨some 51, _, _, _, _, _⟩) (v := ?qv10c2) rfl (by kernel_rfl) (by kernel_rfl) (by kernel_rfl) (fun _ _ _ h => h) (Or.inl ⟨by rfl, ?qy10c2⟩) hHeld ?qr10c2
                    case qy10c2 => (intro w' hSw; go_simp; try with_reducible rfl)
                    try simp only [Act.put, List.setIfInBounds_toArray, List.set_cons_zero, List.set_cons_succ]
                    refine wpAnyH_take (i := 11) (oi := ⟨some 52, _, _, _, _, _⟩) (v := ?qv11c2) rfl (by kernel_rfl) (by kernel_rfl) (by kernel_rfl) (fun _ _ _ h => h) (Or.inl ⟨by rfl, ?qy11c2⟩) hHeld ?qr11c2
                    case qy11c2 => (intro w' hSw; go_simp; try with_reducible rfl)
                    try simp only [Act.put, List.setIfInBounds_toArray, List.set_cons_zero, List.set_cons_succ]
                    refine wpAnyH_take (i := 12) (oi := ⟨some 53, _, _, _, _, _⟩) (v := ?qv12c2) rfl (by kernel_rfl) (by kernel_rfl) (by kernel_rfl) (fun _ _ _ h => h) (Or.inl ⟨by rfl, ?qy12c2⟩) hHeld ?qr12c2
                    case qy12c2 => (intro w' hSw; go_simp; try with_reducible rfl)
                    try simp only [Act.put, List.setIfInBounds_toArray, List.set_cons_zero, List.set_cons_succ]
                    refine wpAnyH_ready (rs := [13]) (by kernel_rfl) (by simp) ?_
                    refine AllReadyH.cons (o := ⟨some 54, _, _, _, _, _⟩) rfl (fun K hK => ?_) AllReadyH.nil
                    refine step_go (by rfl) 44 _ _ (by rfl) (fun _ _ => by kernel_rfl) _ (by rfl) (CL.out _ B1) ?_
                    rintro e w8 ⟨rfl, b8⟩
                    refine ⟨_, rfl, ?_⟩
                    have B2 := B1.trans (b8.mono B1.size)
                    refine hK.out _ _ (B2) (fun hHeld => ?_)
                    clear hK K
                    try simp only [Act.put, List.setIfInBounds_toArray, List.set_cons_zero, List.set_cons_succ]
                    refine wpAnyH_take (i := 14) (oi := ⟨some 55, _, _, _, _, _⟩) (v := ?qv14c2) rfl (by kernel_rfl) (by kernel_rfl) (by kernel_rfl) (fun _ _ _ h => h) (Or.inl ⟨by rfl, ?qy14c2⟩) hHeld ?qr14c2
                    case qy14c2 => (intro w' hSw; go_simp; try with_reducible rfl)
                    try simp only [Act.put, List.setIfInBounds_toArray, List.set_cons_zero, List.set_cons_succ]
                    refine wpAnyH_done (by kernel_rfl) ?_ _
                    refine NoPanic.normal ?_
                    have hb2 := hbi.trans (B2.mono hbi.size)
                    go_wp2_with fail
                    go_roundw
                    case rel => exact ⟨q + 1, by omega, by omega, by go_num, HF, hb2⟩
                    case measure => simp [intOf]; omega
                  · go_wp2_with fail
                    refine wp_region_noPanic ?_
                    refine wp_region_held_drew (S := fun w' => Below wi.heap.size wi w') (by kernel_rfl) (Below.refl _ _).drew (fun hHeld => ?_)
                    generalize wi.drew = D at hHeld ⊢
                    have B1 : Below wi.heap.size wi D := hHeld
                    refine wpAnyH_take (i := 0) (oi := ⟨some 41, _, _, _, _, _⟩) (v := ?qv0c3) rfl (by kernel_rfl) (by kernel_rfl) (by kernel_rfl) (fun _ _ _ h => h) (Or.inl ⟨by rfl, ?qy0c3⟩) hHeld ?qr0c3
                    case qy0c3 => (intro w' hSw; go_simp; try with_reducible rfl)
                    try simp only [Act.put, List.setIfInBounds_toArray, List.set_cons_zero, List.set_cons_succ]
                    refine wpAnyH_take (i := 1) (oi := ⟨some 42, _, _, _, _, _⟩) (v := ?qv1c3) rfl (by kernel_rfl) (by kernel_rfl) (by kernel_rfl) (fun _ _ _ h => h) (Or.inl ⟨by rfl, ?qy1c3⟩) hHeld ?qr1c3
                    case qy1c3 => (intro w' hSw; go_simp; try with_reducible rfl)
                    try simp only [Act.put, List.setIfInBounds_toArray, List.set_cons_zero, List.set_cons_succ]
                    refine wpAnyH_take (i := 2) (oi := ⟨some 43, _, _, _, _, _⟩) (v := ?qv2c3) rfl (by kernel_rfl) (by kernel_rfl) (by kernel_rfl) (fun _ _ _ h => h) (Or.inl ⟨by rfl, ?qy2c3⟩) hHeld ?qr2c3
                    case qy2c3 => (intro w' hSw; go_simp; try with_reducible rfl)
                    try simp only [Act.put, List.setIfInBounds_toArray, List.set_cons_zero, List.set_cons_succ]
                    refine wpAnyH_take (i := 3) (oi := ⟨some 44, _, _, _, _, _⟩) (v := ?qv3c3) rfl (by kernel_rfl) (by kernel_rfl) (by kernel_rfl) (fun _ _ _ h => h) (Or.inl ⟨by rfl, ?qy3c3⟩) hHeld ?qr3c3
                    case qy3c3 => (intro w' hSw; obtain ⟨z0, z1, z2, z3⟩ := XS.out w' hSw; go_simp; try with_reducible rfl)
                    try simp only [Act.put, List.setIfInBounds_toArray, List.set_cons_zero, List.set_cons_succ]
                    refine wpAnyH_take (i := 4) (oi := ⟨some 45, _, _, _, _, _⟩) (v := ?qv4c3) rfl (by kernel_rfl) (by kernel_rfl) (by kernel_rfl) (fun _ _ _ h => h) (Or.inl ⟨by rfl, ?qy4c3⟩) hHeld ?qr4c3
                    case qy4c3 => (intro w' hSw; go_simp; try with_reducible rfl)
                    try simp only [Act.put, List.setIfInBounds_toArray, List.set_cons_zero, List.set_cons_succ]
                    refine wpAnyH_take (i := 5) (oi := ⟨some 46, _, _, _, _, _⟩) (v := ?qv5c3) rfl (by kernel_rfl) (by kernel_rfl) (by kernel_rfl) (fun _ _ _ h => h) (Or.inl ⟨by rfl, ?qy5c3⟩) hHeld ?qr5c3
                    case qy5c3 => (intro w' hSw; go_simp; try with_reducible rfl)
                    try simp only [Act.put, List.setIfInBounds_toArray, List.set_cons_zero, List.set_cons_succ]
                    refine wpAnyH_take (i := 6) (oi := ⟨some 47, _, _, _, _, _⟩) (v := ?qv6c3) rfl (by kernel_rfl) (by kernel_rfl) (by kernel_rfl) (fun _ _ _ h => h) (Or.inl ⟨by rfl, ?qy6c3⟩) hHeld ?qr6c3
                    case qy6c3 => (intro w' hSw; go_simp; try with_reducible rfl)
                    try simp only [Act.put, List.setIfInBounds_toArray, List.set_cons_zero, List.set_cons_succ]
                    refine wpAnyH_take (i := 7) (oi := ⟨some 48, _, _, _, _, _⟩) (v := ?qv7c3) rfl (by kernel_rfl) (by kernel_rfl) (by kernel_rfl) (fun _ _ _ h => h) (Or.inl ⟨by rfl, ?qy7c3⟩) hHeld ?qr7c3
                    case qy7c3 => (intro w' hSw; obtain ⟨z0, z1, z2, z3⟩ := XS.out w' hSw; go_simp; try with_reducible rfl)
                    try simp only [Act.put, List.setIfInBounds_toArray, List.set_cons_zero, List.set_cons_succ]
                    refine wpAnyH_take (i := 8) (oi := ⟨some 49, _, _, _, _, _⟩) (v := ?qv8c3) rfl (by kernel_rfl) (by kernel_rfl) (by kernel_rfl) (fun _ _ _ h => h) (Or.inl ⟨by rfl, ?qy8c3⟩) hHeld ?qr8c3
                    case qy8c3 => (intro w' hSw; go_simp; try with_reducible rfl)
                    try simp only [Act.put, List.setIfInBounds_toArray, List.set_cons_zero, List.set_cons_succ]
                    refine wpAnyH_take (i := 9) (oi := ⟨some 50, _, _, _, _, _⟩) (v := ?qv9c3) rfl (by kernel_rfl) (by kernel_rfl) (by kernel_rfl) (fun _ _ _ h => h) (Or.inl ⟨by rfl, ?qy9c3⟩) hHeld ?qr9c3
                    case qy9c3 => (intro w' hSw; go_simp; try with_reducible rfl)
                    try simp only [Act.put, List.setIfInBounds_toArray, List.set_cons_zero, List.set_cons_succ]
                    refine wpAnyH_take (i := 10) (oi := ⟨some 51, _, _, _, _, _⟩) (v := ?qv10c3) rfl (by kernel_rfl) (by kernel_rfl) (by kernel_rfl) (fun _ _ _ h => h) (Or.inl ⟨by rfl, ?qy10c3⟩) hHeld ?qr10c3
                    case qy10c3 => (intro w' hSw; go_simp; try with_reducible rfl)
                    try simp only [Act.put, List.setIfInBounds_toArray, List.set_cons_zero, List.set_cons_succ]
                    refine wpAnyH_take (i := 11) (oi := ⟨some 52, _, _, _, _, _⟩) (v := ?qv11c3) rfl (by kernel_rfl) (by kernel_rfl) (by kernel_rfl) (fun _ _ _ h => h) (Or.inl ⟨by rfl, ?qy11c3⟩) hHeld ?qr11c3
                    case qy11c3 => (intro w' hSw; go_simp; try with_reducible rfl)
                    try simp only [Act.put, List.setIfInBounds_toArray, List.set_cons_zero, List.set_cons_succ]
                    refine wpAnyH_take (i := 12) (oi := ⟨some 53, _, _, _, _, _⟩) (v := ?qv12c3) rfl (by kernel_rfl) (by kernel_rfl) (by kernel_rfl) (fun _ _ _ h => h) (Or.inl ⟨by rfl, ?qy12c3⟩) hHeld ?qr12c3
                    case qy12c3 => (intro w' hSw; go_simp; try with_reducible rfl)
                    try simp only [Act.put, List.setIfInBounds_toArray, List.set_cons_zero, List.set_cons_succ]
                    refine wpAnyH_ready (rs := [13]) (by kernel_rfl) (by simp) ?_
                    refine AllReadyH.cons (o := ⟨some 54, _, _, _, _, _⟩) rfl (fun K hK => ?_) AllReadyH.nil
                    refine step_go (by rfl) 44 _ _ (by rfl) (fun _ _ => by kernel_rfl) _ (by rfl) (CL.out _ B1) ?_
                    rintro e w8 ⟨rfl, b8⟩
                    refine ⟨_, rfl, ?_⟩
                    have B2 := B1.trans (b8.mono B1.size)
                    refine hK.out _ _ (B2) (fun hHeld => ?_)
                    clear hK K
                    try simp only [Act.put, List.setIfInBounds_toArray, List.set_cons_zero, List.set_cons_succ]
                    refine wpAnyH_take (i := 14) (oi := ⟨some 55, _, _, _, _, _⟩) (v := ?qv14c3) rfl (by kernel_rfl) (by kernel_rfl) (by kernel_rfl) (fun _ _ _ h => h) (Or.inl ⟨by rfl, ?qy14c3⟩) hHeld ?qr14c3
                    case qy14c3 => (intro w' hSw; go_simp; try with_reducible rfl)
                    try simp only [Act.put, List.setIfInBounds_toArray, List.set_cons_zero, List.set_cons_succ]
                    refine wpAnyH_done (by kernel_rfl) ?_ _
                    refine NoPanic.normal ?_
                    have hb2 := hbi.trans (B2.mono hbi.size)
                    go_wp2_with fail
                    go_roundw
                    case rel => exact ⟨q + 1, by omega, by omega, by go_num, HF, hb2⟩
                    case measure => simp [intOf]; omega
            · have t5 : decide ((q : Int) < (l.length : Int)) = false := by simp; omega
              have HG := Lib.hid (show ∀ j', j' < j + 1 → badR l j' = false from fun j' h' => by
                rcases Nat.lt_succ_iff_lt_or_eq.1 h' with h' | h'
                · exact hbad.out j' h'
                · rw [h']; exact anyB_false fun i hi => hsp.out i (by omega))
              clear hsp hbad
              go_wp2_with fail
              go_roundw
              case rel => exact ⟨j + 1, by omega, by go_num, HG, hbi⟩
              case measure => simp [intOf]; omega
        · have t4 : decide ((j : Int) < (l.length : Int)) = false := by simp; omega
          have HF := Lib.hid (HN.out hall.out (fun j' h' => hbad.out j' (by omega)))
          clear hbad
          go_wp2_with fail
          go_ret2
          exact ⟨by rw [HF.out]; rfl, hbq⟩

theorem CheckR_any (v : Value) (l : List (Int × Int)) (w : World) (hv : Pts w v l) :
    Calls Tryd.prog 30 #[v] w (CodeRet w (ringRes l)) := by
  by_cases h : l.length < 3 ∨ 64 < l.length
  · exact CheckR_verts v l w hv h
  · exact CheckR_long v l w hv h
end Go.Proofs.YthcfekabeidmiaaRRDoorR
