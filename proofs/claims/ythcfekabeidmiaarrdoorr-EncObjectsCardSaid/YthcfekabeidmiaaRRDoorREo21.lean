/- pergolaref3.Check of any object; the number of an object's error. What bytes begin with, as an object; in plain Lean. Plain facts on bytes, u32 words and the cells of a byte slice. enc.Varint, and the document's: a number as bytes. -/
import Derived.Test.YthcfekabeidmiaaRRDoorREo20
import Derived.Test.YthcfekabeidmiaaRRDoorREo17
import Derived.Test.YthcfekabeidmiaaRRDoorREo1
set_option linter.unusedSimpArgs false
set_option linter.unusedVariables false
namespace Go.Proofs.YthcfekabeidmiaaRRDoorR
/-! ChkE -/
section
open Go.RowKit

set_option maxRecDepth 100000 in
theorem refChk_any (kind : Int) (v : Value) (l : List Pt) (w : World) (hv : Pts w v l) :
    Calls Tryd.prog 16 #[.agg #[.int .i64 kind, v]] w fun e w' => e = .returned (.int .i64 (objCode kind l)) ∧ Below w.heap.size w w' := by
  have hv0 := hv
  obtain ⟨ao, c, rfl, h1, h2, h0, h3⟩ := hv.open
  have B0 : Below w.heap.size w (w.alloc (.cells #[.int .i64 kind, .slice ao l.length c] 24)) := (Below.refl _ _).alloc (Nat.le_refl _) _
  unfold maxLen at h2
  by_cases h4 : kind = 4
  · subst h4
    rw [objCode_4]
    have CR := Lib.hid (CheckR_any _ l _ (hv0.below B0))
    generalize ringRes l = rr at *
    obtain ⟨r1, r2⟩ := rr
    clear hv hv0 h3
    go_enter Tryd.func16, Tryd.ntmps16
    go_wp2_with fail
    refine CR.out.mono ?_
    rintro e w1 ⟨rfl, b1⟩
    have B1 := B0.trans (b1.mono B0.size)
    go_wp2_with fail
    go_ret
    exact ⟨rfl, B1⟩
  · by_cases h3' : kind = 3
    · subst h3'
      rw [objCode_3]
      by_cases hl : l.length = 2
      · rw [if_neg (by omega)]
        obtain ⟨⟨x, y⟩, ⟨x2, y2⟩, rfl⟩ : ∃ a b, l = [a, b] := by
          match l, hl with
          | [a, b], _ => exact ⟨a, b, rfl⟩
        obtain ⟨b, off, rfl, hb, hc0, hc1⟩ := h3 0 (by simp)
        obtain ⟨b', off', e', hb', hd0, hd1⟩ := h3 1 (by simp)
        simp only [Option.some.injEq, Addr.mk.injEq, and_true] at e'
        obtain ⟨rfl, rfl⟩ := e'
        simp only [Nat.zero_mul, Nat.add_zero, List.getElem_cons_zero, List.getElem_cons_succ, Nat.one_mul] at hc0 hc1 hd0 hd1
        have CB := Lib.hid (fun w => CheckBoxR_any x y x2 y2 w)
        simp only [List.length_cons, List.length_nil, Nat.zero_add, Nat.reduceAdd] at h1 B0 ⊢
        rw [show pt [(x, y), (x2, y2)] 0 = (x, y) from rfl, show pt [(x, y), (x2, y2)] 1 = (x2, y2) from rfl]
        generalize boxCode x y x2 y2 = K at *
        have hc0' := (B0.cell (p := ⟨b, off, none⟩) hb).trans hc0
        have hc1' := (B0.cell (p := ⟨b, off + 1, none⟩) hb).trans hc1
        have hd0' := (B0.cell (p := ⟨b, off + 2, none⟩) hb).trans hd0
        have hd1' := (B0.cell (p := ⟨b, off + 2 + 1, none⟩) hb).trans hd1
        have HC := Lib.hid (And.intro hc0 (And.intro hc1 (And.intro hd0 hd1)))
        clear hv hv0 h3 h0 hl hc0 hc1 hd0 hd1 h4
        go_enter Tryd.func16, Tryd.ntmps16
        go_upto_region 15 with fail
        refine wp_region_noPanic ?_
        refine wp_region_held_drew (S := fun w' => Below w.heap.size w w') (by kernel_rfl) B0.drew (fun hHeld => ?_)
        generalize (w.alloc (.cells #[.int .i64 3, .slice (some ⟨b, off, none⟩) 2 c] 24)).drew = D at hHeld ⊢
        have kb : Below w.heap.size w D := hHeld
        refine wpAnyH_take (i := 0) (oi := ⟨some 40, _, _, _, _, _⟩) (v := ?qv0rc) rfl (by kernel_rfl) (by kernel_rfl) (by kernel_rfl) (fun _ _ _ h => h) (Or.inl ⟨by rfl, ?qy0rc⟩) hHeld ?qr0rc
        case qy0rc => (intro w' hSw; go_simp; try with_reducible rfl)
        try simp only [Act.put, List.setIfInBounds_toArray, List.set_cons_zero, List.set_cons_succ]
        refine wpAnyH_take (i := 1) (oi := ⟨some 41, _, _, _, _, _⟩) (v := ?qv1rc) rfl (by kernel_rfl) (by kernel_rfl) (by kernel_rfl) (fun _ _ _ h => h) (Or.inl ⟨by rfl, ?qy1rc⟩) hHeld ?qr1rc
        case qy1rc => (intro w' hSw; go_simp; try with_reducible rfl)
        try simp only [Act.put, List.setIfInBounds_toArray, List.set_cons_zero, List.set_cons_succ]
        refine wpAnyH_take (i := 2) (oi := ⟨some 42, _, _, _, _, _⟩) (v := ?qv2rc) rfl (by kernel_rfl) (by kernel_rfl) (by kernel_rfl) (fun _ _ _ h => h) (Or.inl ⟨by rfl, ?qy2rc⟩) hHeld ?qr2rc
        case qy2rc => (intro w' hSw; have q0 := (hSw.cell (p := ⟨b, off, none⟩) hb).trans HC.out.1; have q1 := (hSw.cell (p := ⟨b, off + 1, none⟩) hb).trans HC.out.2.1; have q2 := (hSw.cell (p := ⟨b, off + 2, none⟩) hb).trans HC.out.2.2.1; have q3 := (hSw.cell (p := ⟨b, off + 2 + 1, none⟩) hb).trans HC.out.2.2.2; go_simp; try with_reducible rfl)
        try simp only [Act.put, List.setIfInBounds_toArray, List.set_cons_zero, List.set_cons_succ]
        refine wpAnyH_take (i := 3) (oi := ⟨some 43, _, _, _, _, _⟩) (v := ?qv3rc) rfl (by kernel_rfl) (by kernel_rfl) (by kernel_rfl) (fun _ _ _ h => h) (Or.inl ⟨by rfl, ?qy3rc⟩) hHeld ?qr3rc
        case qy3rc => (intro w' hSw; go_simp; try with_reducible rfl)
        try simp only [Act.put, List.setIfInBounds_toArray, List.set_cons_zero, List.set_cons_succ]
        refine wpAnyH_take (i := 4) (oi := ⟨some 44, _, _, _, _, _⟩) (v := ?qv4rc) rfl (by kernel_rfl) (by kernel_rfl) (by kernel_rfl) (fun _ _ _ h => h) (Or.inl ⟨by rfl, ?qy4rc⟩) hHeld ?qr4rc
        case qy4rc => (intro w' hSw; go_simp; try with_reducible rfl)
        try simp only [Act.put, List.setIfInBounds_toArray, List.set_cons_zero, List.set_cons_succ]
        refine wpAnyH_take (i := 5) (oi := ⟨some 45, _, _, _, _, _⟩) (v := ?qv5rc) rfl (by kernel_rfl) (by kernel_rfl) (by kernel_rfl) (fun _ _ _ h => h) (Or.inl ⟨by rfl, ?qy5rc⟩) hHeld ?qr5rc
        case qy5rc => (intro w' hSw; have q0 := (hSw.cell (p := ⟨b, off, none⟩) hb).trans HC.out.1; have q1 := (hSw.cell (p := ⟨b, off + 1, none⟩) hb).trans HC.out.2.1; have q2 := (hSw.cell (p := ⟨b, off + 2, none⟩) hb).trans HC.out.2.2.1; have q3 := (hSw.cell (p := ⟨b, off + 2 + 1, none⟩) hb).trans HC.out.2.2.2; go_simp; try with_reducible rfl)
        try simp only [Act.put, List.setIfInBounds_toArray, List.set_cons_zero, List.set_cons_succ]
        refine wpAnyH_take (i := 6) (oi := ⟨some 46, _, _, _, _, _⟩) (v := ?qv6rc) rfl (by kernel_rfl) (by kernel_rfl) (by kernel_rfl) (fun _ _ _ h => h) (Or.inl ⟨by rfl, ?qy6rc⟩) hHeld ?qr6rc
        case qy6rc => (intro w' hSw; go_simp; try with_reducible rfl)
        try simp only [Act.put, List.setIfInBounds_toArray, List.set_cons_zero, List.set_cons_succ]
        refine wpAnyH_ready (rs := [7]) (by kernel_rfl) (by simp) ?_
        refine AllReadyH.cons (o := ⟨some 47, _, _, _, _, _⟩) rfl (fun K hK => ?_) AllReadyH.nil
        refine step_go (by rfl) 29 _ _ (by rfl) (fun _ _ => by kernel_rfl) _ (by rfl) (CB.out _) ?_
        rintro e w4 ⟨rfl, b4⟩
        refine ⟨_, rfl, ?_⟩
        refine hK.out _ _ (kb.trans (b4.mono kb.size)) (fun hHeld => ?_)
        clear hK K
        try simp only [Act.put, List.setIfInBounds_toArray, List.set_cons_zero, List.set_cons_succ]
        refine wpAnyH_take (i := 8) (oi := ⟨some 2, _, _, _, _, _⟩) (v := ?qv8rc) rfl (by kernel_rfl) (by kernel_rfl) (by kernel_rfl) (fun _ _ _ h => h) (Or.inl ⟨by rfl, ?qy8rc⟩) hHeld ?qr8rc
        case qy8rc => (intro w' hSw; go_simp; try with_reducible rfl)
        try simp only [Act.put, List.setIfInBounds_toArray, List.set_cons_zero, List.set_cons_succ]
        refine wpAnyH_done (by kernel_rfl) ?_ _
        refine NoPanic.normal ?_
        have B5 : Below w.heap.size w w4 := hHeld
        clear hHeld kb b4
        go_wp2_with fail
        go_ret
        exact ⟨rfl, B5⟩
      · rw [if_pos hl]
        have t1 : ((l.length : Int) != 2) = true := by simp; omega
        clear hv hv0 h3 h0 hl h4
        go_enter Tryd.func16, Tryd.ntmps16
        go_wp2_with fail
        go_ret
        exact ⟨rfl, B0⟩
    · by_cases h12 : kind = 1 ∨ kind = 2
      · by_cases hl : l.length = 1
        · obtain ⟨⟨x, y⟩, rfl⟩ : ∃ a, l = [a] := by
            match l, hl with
            | [a], _ => exact ⟨a, rfl⟩
          obtain ⟨b, off, rfl, hb, hc0, hc1⟩ := h3 0 (by simp)
          simp only [Nat.zero_mul, Nat.add_zero, List.getElem_cons_zero] at hc0 hc1
          simp only [List.length_cons, List.length_nil, Nat.zero_add] at h1 B0 ⊢
          have e0 := (B0.cell (p := ⟨b, off, none⟩) hb).trans hc0
          have e1 := (B0.cell (p := ⟨b, off + 1, none⟩) hb).trans hc1
          have HC := Lib.hid (And.intro hc0 hc1)
          have PT := Lib.hid (fun w => Point_any x y w)
          have hok : okP (pt [(x, y)] 0) = decide (inP x y) := rfl
          cases hin : decide (inP x y) with
          | false =>
            have hcode : objCode kind [(x, y)] = 2 := by
              unfold objCode
              rw [if_pos h12, if_neg (by simp), if_pos (hok.trans hin)]
            rw [hcode]
            rw [hin] at PT
            clear hv hv0 h3 h0 hl h4 hc0 hc1 hok hin hcode h3'
            rcases h12 with rfl | rfl
            all_goals
              go_enter Tryd.func16, Tryd.ntmps16
              go_wp2_with fail
              refine (PT.out _).mono ?_
              rintro e w1 ⟨rfl, b1⟩
              have B1 := B0.trans (b1.mono B0.size)
              go_wp2_with fail
              go_ret
              exact ⟨rfl, B1⟩
          | true =>
            rw [hin] at PT
            by_cases hk2 : kind = 2
            · subst hk2
              have hcode : objCode 2 [(x, y)] = if y < x then 1 else 0 := by
                rw [objCode_2, if_neg (by simp), if_neg (by rw [hok, hin]; simp)]
                rfl
              rw [hcode]
              obtain ⟨q, hq⟩ : ∃ q, q = decide (y < x) := ⟨_, rfl⟩
              have hq' := hq.symm
              have e2 : (if y < x then (1 : Int) else 0) = if q = true then 1 else 0 := by rw [hq]; by_cases h : y < x <;> simp [h]
              rw [e2]
              clear hv hv0 h3 h0 hl h4 hc0 hc1 hok hin hcode h3' h12 hq e2
              cases q
              all_goals
                go_enter Tryd.func16, Tryd.ntmps16
                go_wp2_with fail
                refine (PT.out _).mono ?_
                rintro e w1 ⟨rfl, b1⟩
                have hlt := B0.size
                have B1 := B0.trans (b1.mono B0.size)
                have hA : w.heap.size < (w.alloc (.cells #[.int .i64 2, .slice (some ⟨b, off, none⟩) 1 c] 24)).heap.size := by simp
                have k0 := (b1.cell (p := ⟨w.heap.size, 0, none⟩) hA).trans (show (w.alloc (.cells #[.int .i64 2, .slice (some ⟨b, off, none⟩) 1 c] 24)).cell? ⟨w.heap.size, 0, none⟩ = some (.int .i64 2) by simp)
                have f0 := (B1.cell (p := ⟨b, off, none⟩) hb).trans HC.out.1
                have f1 := (B1.cell (p := ⟨b, off + 1, none⟩) hb).trans HC.out.2
                have HB := Lib.hid (fun n => bel_drewN' B1 n)
                go_wp2_with fail
                go_quiet (fail)
                go_wp2_with fail
                go_ret
                exact ⟨rfl, HB.out _⟩
            · obtain rfl : kind = 1 := by omega
              have hcode : objCode 1 [(x, y)] = 0 := by
                rw [objCode_1, if_neg (by simp), if_neg (by rw [hok, hin]; simp)]
              rw [hcode]
              clear hv hv0 h3 h0 hl h4 hc0 hc1 hok hin hcode h3' h12 hk2
              go_enter Tryd.func16, Tryd.ntmps16
              go_wp2_with fail
              refine (PT.out _).mono ?_
              rintro e w1 ⟨rfl, b1⟩
              have B1 := B0.trans (b1.mono B0.size)
              have hA : w.heap.size < (w.alloc (.cells #[.int .i64 1, .slice (some ⟨b, off, none⟩) 1 c] 24)).heap.size := by simp
              have k0 := (b1.cell (p := ⟨w.heap.size, 0, none⟩) hA).trans (show (w.alloc (.cells #[.int .i64 1, .slice (some ⟨b, off, none⟩) 1 c] 24)).cell? ⟨w.heap.size, 0, none⟩ = some (.int .i64 1) by simp)
              have HB := Lib.hid (fun n => bel_drewN' B1 n)
              go_wp2_with fail
              go_quiet (fail)
              go_wp2_with fail
              go_ret
              exact ⟨rfl, HB.out _⟩
        · have hcode : objCode kind l = 3 := by
            unfold objCode
            rw [if_pos h12, if_pos hl]
          rw [hcode]
          have t1 : ((l.length : Int) != 1) = true := by simp; omega
          clear hv hv0 h3 h0 hl h4 hcode h3'
          rcases h12 with rfl | rfl
          all_goals
            go_enter Tryd.func16, Tryd.ntmps16
            go_wp2_with fail
            go_ret
            exact ⟨rfl, B0⟩
      · rw [objCode_else kind l ⟨by omega, by omega, h3', h4⟩]
        have k1 : (kind == 1) = false := by simp; omega
        have k2 : (kind == 2) = false := by simp; omega
        have k3 : (kind == 3) = false := by simpa using h3'
        have k4 : (kind == 4) = false := by simpa using h4
        clear hv hv0 h3 h0 h4 h3' h12
        go_enter Tryd.func16, Tryd.ntmps16
        go_wp2_with fail
        go_ret
        exact ⟨rfl, B0⟩
theorem objCode_range (kind : Int) (l : List Pt) : 0 ≤ objCode kind l ∧ objCode kind l ≤ 15 := by
  have hb : ∀ a b c d, 0 ≤ boxCode a b c d ∧ boxCode a b c d ≤ 15 := fun a b c d => by
    unfold boxCode
    split
    · split <;> omega
    · omega
  have hr : 0 ≤ (ringRes l).1 ∧ (ringRes l).1 ≤ 15 := by
    unfold ringRes
    split
    · simp
    · split
      · simp
      · split <;> simp
  unfold objCode
  split
  · split
    · omega
    · split
      · omega
      · split <;> omega
  · split
    · split
      · omega
      · exact hb _ _ _ _
    · split
      · exact hr
      · omega
theorem obj_root (kind : Int) (l : List Pt) (h : objCode kind l ≠ 0) : (objEr kind l).root = some (objCode kind l) := by
  unfold objEr
  by_cases h4 : kind = 4
  · subst h4
    rw [if_pos rfl, ringEr_res]
    rw [objCode_4] at h ⊢
    unfold Er.ofRes
    rw [if_neg h]
    rfl
  · rw [if_neg h4]
    unfold ofC
    rw [if_neg h]
    rfl
theorem obj_none (kind : Int) (l : List Pt) (h : objCode kind l = 0) : objEr kind l = .none := objEr_none.2 h
/-- the number of an object's error, wrapped or not -/
theorem obj_code (kind : Int) (l : List Pt) : ((objEr kind l).wrap strObj kind).code = objCode kind l := by
  by_cases h : objCode kind l = 0
  · rw [obj_none _ _ h, h]; rfl
  · have hr := obj_root kind l h
    have hg := objCode_range kind l
    cases hE : objEr kind l with
    | none => rw [hE] at hr; cases hr
    | num j =>
      rw [hE] at hr
      have hj : j = objCode kind l := by simpa [Er.root] using hr
      simp only [Er.wrap, Er.code, Er.root]
      rw [hj, if_pos (by omega)]
    | fault o i e =>
      rw [hE] at hr
      have hj : e.root = some (objCode kind l) := by simpa [Er.root] using hr
      simp only [Er.wrap, Er.code, Er.root]
      rw [hj]
      simp only
      rw [if_pos (by omega)]
end

/-! Unobj -/
section
/-- may an object begin so? -/
def headBad (b : List UInt8) : Bool := (unv b).2 == 0 || decide (4 < (unv b).1) || (unv (b.drop (unv b).2)).2 == 0 || decide (64 < (unv (b.drop (unv b).2)).1)
/-- its points, as they are read -/
def ptsAt (b : List UInt8) (i : Nat) : List (Int × Int) × Nat × Bool := rdAt b ((unv b).2 + (unv (b.drop (unv b).2)).2) false i
/-- how many points it has -/
def cntAt (b : List UInt8) : Nat := (unv (b.drop (unv b).2)).1
/-- the object that bytes begin with, and where it ends -/
def unobj (b : List UInt8) : Option (Nat × List (Int × Int) × Nat) :=
  if headBad b then none
  else if (ptsAt b (cntAt b)).2.2 then none
  else if objCode ((unv b).1 : Int) (ptsAt b (cntAt b)).1 = 0 then some ((unv b).1, (ptsAt b (cntAt b)).1, (ptsAt b (cntAt b)).2.1) else none
theorem head_le (b : List UInt8) : (unv b).2 + (unv (b.drop (unv b).2)).2 ≤ b.length := by
  have h1 := (unv_le b).2.1
  have h2 := (unv_le (b.drop (unv b).2)).2.1
  rw [List.length_drop] at h2
  omega
theorem ptsAt_le (b : List UInt8) (i : Nat) : (ptsAt b i).2.1 ≤ b.length := rdAt_le (head_le b) i
theorem ptsAt_len (b : List UInt8) (i : Nat) : (ptsAt b i).1.length = i := rdAt_len _ _ _ i
theorem ptsAt_range (b : List UInt8) : ∀ i, ∀ p ∈ (ptsAt b i).1, (-9223372036854775808 ≤ p.1 ∧ p.1 ≤ 9223372036854775807) ∧ -9223372036854775808 ≤ p.2 ∧ p.2 ≤ 9223372036854775807
  | 0 => fun p hp => by cases hp
  | i + 1 => fun p hp => by
    have hs : (ptsAt b (i + 1)).1 = (ptsAt b i).1 ++ [((unsg (b.drop (ptsAt b i).2.1)).1, (unsg (b.drop ((ptsAt b i).2.1 + (unsg (b.drop (ptsAt b i).2.1)).2.1))).1)] := rfl
    rw [hs] at hp
    rcases List.mem_append.1 hp with hp | hp
    · exact ptsAt_range b i p hp
    · obtain rfl := List.mem_singleton.1 hp
      exact ⟨unsg_range _, unsg_range _⟩
end

/-! Byt -/
section
open Go.RowKit

/-- In world w the value v is a []byte that reads as l. -/
def Byt (w : World) (v : Value) (l : List UInt8) : Prop := Rd w v l.length (bytesV l)

theorem Byt.open {w : World} {v : Value} {l : List UInt8} (h : Byt w v l) :
    ∃ ao c, v = .slice ao l.length c ∧ l.length ≤ c ∧ c ≤ maxLen ∧ (ao = none → c = 0) ∧
      ∀ i (h : i < l.length), ∃ b off, ao = some ⟨b, off, none⟩ ∧ b < w.heap.size ∧ w.cell? ⟨b, off + i, none⟩ = some (.int .u8 (l[i].toNat : Int)) := by
  obtain ⟨ao, c, hv, h1, h2, h0, h3⟩ := h
  refine ⟨ao, c, hv, h1, h2, h0, fun i hi => ?_⟩
  obtain ⟨b, off, e, hlt, hc⟩ := h3 i (by simpa [bytesV] using hi)
  exact ⟨b, off, e, hlt, by simpa [bytesV] using hc⟩

theorem Byt.below {w w' : World} {v : Value} {l : List UInt8} (h : Byt w v l) (hb : Below w.heap.size w w') : Byt w' v l := Rd.below h hb

theorem Byt.take {w : World} {ao : Option Addr} {c : Nat} {l : List UInt8} (h : Byt w (.slice ao l.length c) l) {m : Nat} (hm : m ≤ l.length) : Byt w (.slice ao m c) (l.take m) := by
  have := Rd.take (k := m) h hm
  unfold Byt
  rw [List.length_take, Nat.min_eq_left hm]
  simpa [bytesV, List.map_take] using this
theorem Byt.drop {w : World} {b off c : Nat} {l : List UInt8} (h : Byt w (.slice (some ⟨b, off, none⟩) l.length c) l) {m : Nat} (hm : m ≤ l.length) : Byt w (.slice (some ⟨b, off + m, none⟩) (l.length - m) (c - m)) (l.drop m) := by
  have := Rd.drop (k := m) h hm
  unfold Byt
  rw [List.length_drop]
  simpa [bytesV, List.map_drop] using this
theorem Byt.drewN {w : World} {v : Value} {l : List UInt8} (h : Byt w v l) (n : Nat) : Byt (w.drewN n) v l := h

/-- v is a row of bytes of the call's own, from block 'base' on. -/
def Own (w : World) (base : Nat) (v : Value) (l : List UInt8) : Prop := w.ownsRow base 5 1 v l.length (bytesV l)
theorem Own.byt {w : World} {base : Nat} {v : Value} {l : List UInt8} (h : Own w base v l) : Byt w v l := Rd.of_own h

/-- A literal's row of bytes, marked or not. -/
theorem byt_lit (w : World) (l : List UInt8) (m : Nat × Nat) (hl : l.length ≤ maxLen) : Byt (w.alloc (.cells (bytesV l).toArray 5 m)) (.slice (some ⟨w.heap.size, 0, none⟩) l.length l.length) l := by
  refine ⟨_, _, rfl, Nat.le_refl _, hl, (fun h => by cases h), fun i hi => ⟨_, _, rfl, by simp, ?_⟩⟩
  have e : (w.alloc (.cells (bytesV l).toArray 5 m)).heap[w.heap.size]? = some (.cells (bytesV l).toArray 5 m) := by
    show (w.heap.push _)[w.heap.size]? = _
    simp
  rw [Nat.zero_add, cell_of_row _ _ _ _ _ _ e]
  simp [hi]

theorem info_u8 : (Tryd.prog.info? 5).map (fun i => (i.zero, i.size, i.bytes)) = some (some (.int .u8 0), 1, 1) := by kernel_rfl

/-- append(v, y...) on bytes. -/
theorem wpList_append_byt {w : World} {ops : Array Oper} {rest : List Oper} {o : Oper} {a : Act} {Q : Exit → Act → World → Prop} (hgd : o.guard = none) (s x : Operand)
    (ho : o.op = .call { callee := .builtin .append, args := #[s, x], argTypes := #[25, 25] })
    (base : Nat) (v : Value) (l : List UInt8) (hs : a.eval s = v) (hown : Own w base v l) (y : Value) (m : List UInt8) (hx : a.eval x = y) (hy : Byt w y m)
    (h63 : l.length + m.length ≤ 140737488355328) (hbase : base ≤ w.heap.size)
    (h : ∀ v' w', Own w' base v' (l ++ m) → Below base w w' → wpList Tryd.prog ops Q rest (a.put o.dst v') w') : wpList Tryd.prog ops Q (o :: rest) a w :=
  wpList_append_rd hgd s x 25 ho base 5 _ 1 1 Tryd.underlying25 info_u8 rfl (by decide) v _ _ hs hown y _ _ hx hy (by simp [bytesV]) (bytesV_one _) (by unfold maxLen; omega) (by omega) hbase
    fun v' w' h1 h2 _ => h v' w' (by unfold Own; rw [bytesV_append, List.length_append]; exact h1) h2

theorem step_append_byt {w : World} {ops : Array Oper} {o : Oper} {a : Act} {K : Act → World → Prop} {Q : Exit → Act → World → Prop} {E : Prop} (hgd : o.guard = none) (s x : Operand)
    (ho : o.op = .call { callee := .builtin .append, args := #[s, x], argTypes := #[25, 25] })
    (base : Nat) (v : Value) (l : List UInt8) (hs : a.eval s = v) (hown : Own w base v l) (y : Value) (m : List UInt8) (hx : a.eval x = y) (hy : Byt w y m)
    (h63 : l.length + m.length ≤ 140737488355328) (hbase : base ≤ w.heap.size)
    (h : ∀ v' w', Own w' base v' (l ++ m) → Below base w w' → K (a.put o.dst v') w') : if Region.wanted o (yielded ops a.tmps) = true then Oper.wp Tryd.prog o a w K Q else E :=
  step_append_rd hgd s x 25 ho base 5 _ 1 1 Tryd.underlying25 info_u8 rfl (by decide) v _ _ hs hown y _ _ hx hy (by simp [bytesV]) (bytesV_one _) (by unfold maxLen; omega) (by omega) hbase
    fun v' w' h1 h2 _ => h v' w' (by unfold Own; rw [bytesV_append, List.length_append]; exact h1) h2

theorem Own.below {w w' : World} {base : Nat} {v : Value} {l : List UInt8} (h : Own w base v l) (hb : Below w.heap.size w w') : Own w' base v l := own_below' h hb

/-! ### the check sum, in plain Lean -/

/-- one bit of the check sum -/
def crcBit (r : BitVec 32) : BitVec 32 := (r >>> 1) ^^^ (0xedb88320#32 &&& -(r &&& 1#32))
/-- n bits -/
def crcBits : Nat → BitVec 32 → BitVec 32
  | 0, r => r
  | n + 1, r => crcBit (crcBits n r)
/-- one byte -/
def crcByte (r : BitVec 32) (c : UInt8) : BitVec 32 := crcBits 8 (r ^^^ BitVec.ofNat 32 c.toNat)
/-- many bytes -/
def crcFold (r : BitVec 32) (l : List UInt8) : BitVec 32 := l.foldl crcByte r
/-- the check sum -/
def crcSum (l : List UInt8) : BitVec 32 := ~~~ crcFold 0xffffffff#32 l

theorem crcFold_snoc (r : BitVec 32) (l : List UInt8) (k : Nat) (h : k < l.length) : crcFold r (l.take (k + 1)) = crcByte (crcFold r (l.take k)) l[k] := by
  unfold crcFold
  rw [List.take_succ_eq_append_getElem h, List.foldl_append]
  rfl

/-! ### u32 words in the walk's spelling -/
theorem bits_u32 (op : BinOp) (a b : BitVec 32) (r : BitVec 32) (h : bits op .u32 (a.toNat : Int) (b.toNat : Int) = IntKind.u32.wrap (r.toNat : Int)) : bits op .u32 (a.toNat : Int) (b.toNat : Int) = (r.toNat : Int) := by
  rw [h]; have := r.isLt; simp [IntKind.wrap, IntKind.bits, IntKind.signed]; omega
theorem ofInt_toNat32 (a : BitVec 32) : BitVec.ofInt 32 (a.toNat : Int) = a := by
  rw [BitVec.ofInt_natCast]; simp
theorem xor_u32 (a b : BitVec 32) : bits .xor .u32 (a.toNat : Int) (b.toNat : Int) = ((a ^^^ b).toNat : Int) :=
  bits_u32 _ _ _ _ (by show IntKind.u32.wrap ((BitVec.ofInt 32 (a.toNat : Int) ^^^ BitVec.ofInt 32 (b.toNat : Int)).toNat : Int) = _; rw [ofInt_toNat32, ofInt_toNat32])
theorem and_u32 (a b : BitVec 32) : bits .and .u32 (a.toNat : Int) (b.toNat : Int) = ((a &&& b).toNat : Int) :=
  bits_u32 _ _ _ _ (by show IntKind.u32.wrap ((BitVec.ofInt 32 (a.toNat : Int) &&& BitVec.ofInt 32 (b.toNat : Int)).toNat : Int) = _; rw [ofInt_toNat32, ofInt_toNat32])
theorem byte_u32 (c : UInt8) : ((c.toNat : Int) % 4294967296) = ((BitVec.ofNat 32 c.toNat).toNat : Int) := by
  have := c.toNat_lt; simp; omega
theorem shr1_u32 (a : BitVec 32) : ((a.toNat : Int) / (2 : Int)) = ((a >>> 1).toNat : Int) := by
  simp [BitVec.toNat_ushiftRight, Nat.shiftRight_eq_div_pow]
theorem neg_u32 (a : BitVec 32) : (-(a.toNat : Int) % 4294967296) = ((-a).toNat : Int) := by
  have := a.isLt; rw [BitVec.toNat_neg]; omega
/-- one bit of the check sum, as the walk spells it -/
theorem crcBit_walk (a : BitVec 32) :
    bits .xor .u32 ((a.toNat : Int) / 2) (bits .and .u32 3988292384 (-bits .and .u32 (a.toNat : Int) 1 % 4294967296)) = ((crcBit a).toNat : Int) := by
  have h1 : (1 : Int) = ((1#32).toNat : Int) := rfl
  have h2 : (3988292384 : Int) = ((0xedb88320#32).toNat : Int) := rfl
  rw [h1, and_u32, neg_u32, h2, and_u32, shr1_u32, xor_u32]
  rfl
theorem not_u32 (a : BitVec 32) : bits .xor .u32 IntKind.u32.max (a.toNat : Int) = ((~~~ a).toNat : Int) := by
  have h1 : IntKind.u32.max = ((BitVec.allOnes 32).toNat : Int) := by simp [IntKind.max, IntKind.bits, IntKind.signed]
  rw [h1, xor_u32, BitVec.allOnes_xor]
/-- a word in four bytes, the least first -/
def le32 (x : BitVec 32) : List UInt8 := [UInt8.ofNat x.toNat, UInt8.ofNat (x.toNat / 256), UInt8.ofNat (x.toNat / 65536), UInt8.ofNat (x.toNat / 16777216)]
theorem byte_of (x : Nat) : ((x : Int) % 256) = ((UInt8.ofNat x).toNat : Int) := by
  rw [UInt8.toNat_ofNat']; omega
theorem ofInt_toNat8 (a : UInt8) : BitVec.ofInt 8 (a.toNat : Int) = a.toBitVec := by
  rw [BitVec.ofInt_natCast]; apply BitVec.eq_of_toNat_eq; simp
theorem xor_u8 (a b : UInt8) : bits .xor .u8 (a.toNat : Int) (b.toNat : Int) = ((a ^^^ b).toNat : Int) := by
  show IntKind.u8.wrap ((BitVec.ofInt 8 (a.toNat : Int) ^^^ BitVec.ofInt 8 (b.toNat : Int)).toNat : Int) = _
  rw [ofInt_toNat8, ofInt_toNat8]
  have := (a ^^^ b).toNat_lt
  have e : (a.toBitVec ^^^ b.toBitVec).toNat = (a ^^^ b).toNat := rfl
  rw [e]
  generalize (a ^^^ b).toNat = n at *
  simp [IntKind.wrap, IntKind.bits, IntKind.signed]
  omega

theorem or_add (a b i : Nat) (h : a < 2 ^ i) : a ||| (b * 2 ^ i) = a + b * 2 ^ i := by
  rw [Nat.or_comm, ← Nat.shiftLeft_eq, ← Nat.shiftLeft_add_eq_or_of_lt h, Nat.add_comm]
theorem or_u32_nat (a b : Nat) (ha : a < 4294967296) (hb : b < 4294967296) : bits .or .u32 (a : Int) (b : Int) = ((a ||| b : Nat) : Int) := by
  have hx : a ||| b < 2 ^ 32 := Nat.or_lt_two_pow (by omega) (by omega)
  show IntKind.u32.wrap ((BitVec.ofInt 32 (a : Int) ||| BitVec.ofInt 32 (b : Int)).toNat : Int) = _
  have e1 : (BitVec.ofInt 32 (a : Int)).toNat = a := by rw [BitVec.ofInt_natCast]; simp; omega
  have e2 : (BitVec.ofInt 32 (b : Int)).toNat = b := by rw [BitVec.ofInt_natCast]; simp; omega
  rw [BitVec.toNat_or, e1, e2]
  generalize a ||| b = n at *
  simp [IntKind.wrap, IntKind.bits, IntKind.signed]
  omega

/-- the word in the first four bytes -/
def get32 (l : List UInt8) : Nat := (l.getD 0 0).toNat + (l.getD 1 0).toNat * 256 + (l.getD 2 0).toNat * 65536 + (l.getD 3 0).toNat * 16777216
theorem get32_walk (a b c d : UInt8) :
    bits .or .u32 (bits .or .u32 (bits .or .u32 ((a.toNat : Int) % 4294967296) ((b.toNat : Int) % 4294967296 * 256 % 4294967296)) ((c.toNat : Int) % 4294967296 * 65536 % 4294967296)) ((d.toNat : Int) % 4294967296 * 16777216 % 4294967296)
      = ((a.toNat + b.toNat * 256 + c.toNat * 65536 + d.toNat * 16777216 : Nat) : Int) := by
  have ha := a.toNat_lt; have hb := b.toNat_lt; have hc := c.toNat_lt; have hd := d.toNat_lt
  have e1 : ((a.toNat : Int) % 4294967296) = ((a.toNat : Nat) : Int) := by omega
  have e2 : ((b.toNat : Int) % 4294967296 * 256 % 4294967296) = ((b.toNat * 2 ^ 8 : Nat) : Int) := by omega
  have e3 : ((c.toNat : Int) % 4294967296 * 65536 % 4294967296) = ((c.toNat * 2 ^ 16 : Nat) : Int) := by omega
  have e4 : ((d.toNat : Int) % 4294967296 * 16777216 % 4294967296) = ((d.toNat * 2 ^ 24 : Nat) : Int) := by omega
  rw [e1, e2, e3, e4, or_u32_nat _ _ (by omega) (by omega), or_add _ _ _ (by omega), or_u32_nat _ _ (by omega) (by omega), or_add _ _ _ (by omega), or_u32_nat _ _ (by omega) (by omega), or_add _ _ _ (by omega)]
theorem get32_lt (l : List UInt8) : get32 l < 4294967296 := by
  have := (l.getD 0 0).toNat_lt; have := (l.getD 1 0).toNat_lt; have := (l.getD 2 0).toNat_lt; have := (l.getD 3 0).toNat_lt
  unfold get32; omega
end

/-! Enc -/
section
open Go.RowKit

/-- The call hands back bytes of its own. -/
def NewB (w : World) (l : List UInt8) (e : Ending) (w' : World) : Prop := ∃ v, e = .returned v ∧ Own w' w.heap.size v l ∧ Below w.heap.size w w'

theorem or128 (v : Nat) : v % 256 ||| 128 = v % 128 + 128 := by
  have h1 : v % 128 ||| 128 = v % 128 + 128 := by
    have := or_add (v % 128) 1 7 (by omega)
    simpa using this
  by_cases h : v % 256 < 128
  · rw [show v % 256 = v % 128 by omega, h1]
  · rw [show v % 256 = v % 128 + 128 by omega, ← h1, Nat.or_assoc, Nat.or_self]
theorem or_u8_nat (a b : Nat) (ha : a < 256) (hb : b < 256) : bits .or .u8 (a : Int) (b : Int) = ((a ||| b : Nat) : Int) := by
  have hx : a ||| b < 2 ^ 8 := Nat.or_lt_two_pow (by omega) (by omega)
  show IntKind.u8.wrap ((BitVec.ofInt 8 (a : Int) ||| BitVec.ofInt 8 (b : Int)).toNat : Int) = _
  rw [BitVec.toNat_or]
  have e1 : (BitVec.ofInt 8 (a : Int)).toNat = a := by rw [BitVec.ofInt_natCast]; simp; omega
  have e2 : (BitVec.ofInt 8 (b : Int)).toNat = b := by rw [BitVec.ofInt_natCast]; simp; omega
  rw [e1, e2]
  simp [IntKind.wrap, IntKind.bits, IntKind.signed]; omega
theorem vbyte (v : Nat) : bits .or .u8 ((v : Int) % 256) 128 = ((UInt8.ofNat (v % 128 + 128)).toNat : Int) := by
  have e : (v : Int) % 256 = ((v % 256 : Nat) : Int) := by omega
  have := or_u8_nat (v % 256) 128 (by omega) (by omega)
  rw [e, show (128 : Int) = ((128 : Nat) : Int) from rfl, this, or128]
  simp; omega
theorem vbyteR (v : Nat) (hv : v < 18446744073709551616) : bits .or .u64 (bits .and .u64 (v : Int) 127) 128 % 256 = ((UInt8.ofNat (v % 128 + 128)).toNat : Int) := by
  have h1 := and_u64_nat v 127 hv (by omega)
  rw [show v &&& 127 = v % 128 from Nat.and_two_pow_sub_one_eq_mod v 7] at h1
  have h2 := or_u64_nat (v % 128) 128 (by omega) (by omega)
  have h3 : v % 128 ||| 128 = v % 128 + 128 := by
    have := or_add (v % 128) 1 7 (by omega)
    simpa using this
  rw [show (127 : Int) = ((127 : Nat) : Int) from rfl, h1, show (128 : Int) = ((128 : Nat) : Int) from rfl, h2, h3]
  simp
theorem vlast (v : Nat) : (v : Int) % 256 = ((UInt8.ofNat v).toNat : Int) := by
  simp

set_option maxRecDepth 100000 in
theorem Varint_any (v : Nat) (hv : v < 18446744073709551616) (w : World) : Calls Tryd.prog 15 #[.int .u64 (v : Int)] w (NewB w (vint v)) := by
  have hL := vint_len64 v hv
  go_enter Tryd.func15, Tryd.ntmps15
  go_wp2_with fail
  go_loopw [0, 3] (fun i b wr => ∃ (z : Nat) (L : List UInt8), z < 18446744073709551616 ∧ i = .int .u64 (z : Int) ∧ Hid (vint v = L ++ vint z) ∧ Own wr w.heap.size b L ∧ Below w.heap.size w wr) (fun i _ _ => (intOf i).toNat)
  case atStart => exact ⟨v, [], hv, rfl, Lib.hid rfl, World.ownsRow_nil _ _ _ _, Below.refl _ _⟩
  case round =>
    obtain ⟨z, L, hz, rfl, hh, ho, hb⟩ := hrel
    have hs := hb.size
    have hLl : L.length ≤ 9 := by
      have h1 := congrArg List.length hh.out
      have h2 := vint_pos z
      rw [List.length_append] at h1
      omega
    have hz1 : (z : Int) ≤ 18446744073709551615 := by omega
    by_cases hlt : z < 128
    · have t1 : decide ((128 : Int) ≤ (z : Int)) = false := by simp; omega
      have HF := Lib.hid (show vint v = L ++ [UInt8.ofNat z] by rw [hh.out, vint_small hlt])
      have HB := Lib.hid (vlast z)
      clear hlt
      generalize UInt8.ofNat z = d at *
      have hlit : Byt (wr.alloc (.cells #[.int .u8 (d.toNat : Int)] 5)) (.slice (some ⟨wr.heap.size, 0, none⟩) 1 1) [d] := byt_lit wr [d] (0, 0) (by simp [maxLen])
      have ho1 : Own (wr.alloc (.cells #[.int .u8 (d.toNat : Int)] 5)) w.heap.size u3 L := World.ownsRow.alloc ho _
      have hb1 := hb.alloc hs (.cells #[.int .u8 (d.toNat : Int)] 5)
      have hs1 := hb1.size
      go_wp2_with (at_builtin; rw [HB.out]; refine wpList_append_byt rfl _ _ rfl w.heap.size u3 L rfl ho1 _ [d] rfl hlit (by simp; omega) hs1 ?_)
      intro v3 w3 ho3 hb3
      go_wp2_with fail
      go_ret
      exact ⟨_, rfl, by rw [HF.out]; exact ho3, hb1.trans hb3⟩
    · have t1 : decide ((128 : Int) ≤ (z : Int)) = true := by simp; omega
      have HF := Lib.hid (show vint v = (L ++ [UInt8.ofNat (z % 128 + 128)]) ++ vint (z / 128) by rw [hh.out, vint_big hlt]; simp)
      have HB := Lib.hid (vbyte z)
      generalize UInt8.ofNat (z % 128 + 128) = d at *
      have hlit : Byt (wr.alloc (.cells #[.int .u8 (d.toNat : Int)] 5)) (.slice (some ⟨wr.heap.size, 0, none⟩) 1 1) [d] := byt_lit wr [d] (0, 0) (by simp [maxLen])
      have ho1 : Own (wr.alloc (.cells #[.int .u8 (d.toNat : Int)] 5)) w.heap.size u3 L := World.ownsRow.alloc ho _
      have hb1 := hb.alloc hs (.cells #[.int .u8 (d.toNat : Int)] 5)
      have hs1 := hb1.size
      go_wp2_with (at_builtin; rw [HB.out]; refine wpList_append_byt rfl _ _ rfl w.heap.size u3 L rfl ho1 _ [d] rfl hlit (by simp; omega) hs1 ?_)
      intro v3 w3 ho3 hb3
      have hb4 := hb1.trans hb3
      clear hlit ho1 ho hb3
      go_wp2_with fail
      go_roundw
      case rel => exact ⟨z / 128, _, by omega, by first | rfl | (congr 1; omega), HF, ho3, hb4⟩
      case measure => simp [intOf]; omega

set_option maxRecDepth 100000 in
theorem VarintR_any (v : Nat) (hv : v < 18446744073709551616) (w : World) : Calls Tryd.prog 17 #[.int .u64 (v : Int)] w (NewB w (vint v)) := by
  have hL := vint_len64 v hv
  go_enter Tryd.func17, Tryd.ntmps17
  go_wp2_with fail
  go_loopw [0, 3] (fun i b wr => ∃ (z : Nat) (L : List UInt8), z < 18446744073709551616 ∧ i = .int .u64 (z : Int) ∧ Hid (vint v = L ++ vint z) ∧ Own wr w.heap.size b L ∧ Below w.heap.size w wr) (fun i _ _ => (intOf i).toNat)
  case atStart => exact ⟨v, [], hv, rfl, Lib.hid rfl, World.ownsRow_nil _ _ _ _, Below.refl _ _⟩
  case round =>
    obtain ⟨z, L, hz, rfl, hh, ho, hb⟩ := hrel
    have hs := hb.size
    have hLl : L.length ≤ 9 := by
      have h1 := congrArg List.length hh.out
      have h2 := vint_pos z
      rw [List.length_append] at h1
      omega
    have hz1 : (z : Int) ≤ 18446744073709551615 := by omega
    by_cases hlt : z < 128
    · have t1 : decide ((128 : Int) ≤ (z : Int)) = false := by simp; omega
      have HF := Lib.hid (show vint v = L ++ [UInt8.ofNat z] by rw [hh.out, vint_small hlt])
      have HB := Lib.hid (vlast z)
      clear hlt
      generalize UInt8.ofNat z = d at *
      have hlit : Byt (wr.alloc (.cells #[.int .u8 (d.toNat : Int)] 5)) (.slice (some ⟨wr.heap.size, 0, none⟩) 1 1) [d] := byt_lit wr [d] (0, 0) (by simp [maxLen])
      have ho1 : Own (wr.alloc (.cells #[.int .u8 (d.toNat : Int)] 5)) w.heap.size u3 L := World.ownsRow.alloc ho _
      have hb1 := hb.alloc hs (.cells #[.int .u8 (d.toNat : Int)] 5)
      have hs1 := hb1.size
      go_wp2_with (at_builtin; rw [HB.out]; refine wpList_append_byt rfl _ _ rfl w.heap.size u3 L rfl ho1 _ [d] rfl hlit (by simp; omega) hs1 ?_)
      intro v3 w3 ho3 hb3
      go_wp2_with fail
      go_ret
      exact ⟨_, rfl, by rw [HF.out]; exact ho3, hb1.trans hb3⟩
    · have t1 : decide ((128 : Int) ≤ (z : Int)) = true := by simp; omega
      have HF := Lib.hid (show vint v = (L ++ [UInt8.ofNat (z % 128 + 128)]) ++ vint (z / 128) by rw [hh.out, vint_big hlt]; simp)
      have HB := Lib.hid (vbyteR z hz)
      generalize UInt8.ofNat (z % 128 + 128) = d at *
      have hlit : Byt (wr.alloc (.cells #[.int .u8 (d.toNat : Int)] 5)) (.slice (some ⟨wr.heap.size, 0, none⟩) 1 1) [d] := byt_lit wr [d] (0, 0) (by simp [maxLen])
      have ho1 : Own (wr.alloc (.cells #[.int .u8 (d.toNat : Int)] 5)) w.heap.size u3 L := World.ownsRow.alloc ho _
      have hb1 := hb.alloc hs (.cells #[.int .u8 (d.toNat : Int)] 5)
      have hs1 := hb1.size
      go_wp2_with (at_builtin; rw [HB.out]; refine wpList_append_byt rfl _ _ rfl w.heap.size u3 L rfl ho1 _ [d] rfl hlit (by simp; omega) hs1 ?_)
      intro v3 w3 ho3 hb3
      have hb4 := hb1.trans hb3
      clear hlit ho1 ho hb3
      go_wp2_with fail
      go_roundw
      case rel => exact ⟨z / 128, _, by omega, by first | rfl | (congr 1; omega), HF, ho3, hb4⟩
      case measure => simp [intOf]; omega
end

end Go.Proofs.YthcfekabeidmiaaRRDoorR
