/- pergolaref1.Abs, Add, Compare; pergolaref3.Twice, Left, Has, Edge; pergolalaw5.u. -/
import Derived.Test.YtpmngdgifdkohaaDoorRefRing
namespace Go.Proofs.YtpmngdgifdkohaaDoor
open Go.RowKit

theorem u64_wrap (x : Int) : IntKind.u64.wrap x = x % 18446744073709551616 := by simp [IntKind.wrap, IntKind.bits, IntKind.signed]
theorem Abs_any (n : Int) (w : World) (h1 : -9223372036854775808 ≤ n) (h2 : n ≤ 9223372036854775807) :
    Calls Tryd.prog 49 #[.int .i64 n] w fun e w' => e = .returned (.int .u64 (absU n)) ∧ w = w' := by
  by_cases h : n < 0
  · have t1 := decide_eq_true h
    have e1 : wrap64 (n + 1) = n + 1 := by rw [wrap64_i64, IntWalk.i64_in _ (by omega)]
    have e2 : wrap64 (-(n + 1)) = -(n + 1) := by rw [wrap64_i64, IntWalk.i64_in _ (by omega)]
    have e3 : IntKind.u64.wrap (-(n + 1)) = -(n + 1) := by rw [u64_wrap]; omega
    have e4 : IntKind.u64.wrap (-(n + 1) + 1) = -n := by rw [u64_wrap]; omega
    have e5 : absU n = -n := by unfold absU; rw [if_pos h]
    have E5 := Lib.hid (show absU n = IntKind.u64.wrap (IntKind.u64.wrap (wrap64 (-(wrap64 (n + 1)))) + 1) by rw [e1, e2, e3, e4, e5])
    clear e1 e2 e3 e4 e5 h
    go_enter Tryd.func49, Tryd.ntmps49
    go_wp2
    go_ret
    exact ⟨by rw [E5.out]; rfl, rfl⟩
  · have t1 := decide_eq_false h
    have E5 := Lib.hid (show absU n = IntKind.u64.wrap n by unfold absU; rw [if_neg h, u64_wrap]; omega)
    clear h
    go_enter Tryd.func49, Tryd.ntmps49
    go_wp2
    go_ret
    exact ⟨by rw [E5.out]; rfl, rfl⟩

theorem ringRes_zero {l : List Pt} : (ringRes l).1 = 0 ↔ ringEr l = .none := by
  rw [ringEr_res]
  unfold Er.ofRes
  split
  · rename_i h; simp [h]
  · rename_i h; simp [h]
theorem ringRes_good {l : List Pt} (h : ringEr l = .none) : ringRes l = (0, 0) := by
  have := ringRes_zero.2 h
  unfold ringRes at this ⊢
  split
  · rename_i h1; rw [if_pos h1] at this; cases this
  · rename_i h1
    rw [if_neg h1] at this
    split
    · rename_i h2; rw [h2] at this; cases this
    · rename_i h2
      rw [h2] at this
      split
      · rename_i h3; rw [h3] at this; cases this
      · rfl

set_option maxRecDepth 100000 in
theorem LeftR_any (v : Value) (l : List (Int × Int)) (w : World) (hv : Pts w v l) :
    Calls Tryd.prog 30 #[v] w fun e w' => e = .returned (.bool (leftE l)) ∧ Below w.heap.size w w' := by
  have C := Lib.hid (CheckR_any v l w hv)
  by_cases h : ringEr l = .none
  · obtain ⟨h1, h2, h3⟩ := ringEr_ok h
    rw [ringRes_good h] at C
    have A := Lib.hid (show ∀ w', Below w.heap.size w w' → _ from fun w' hb => areaR_ok v l w' (hv.below hb) h1 h2 h3)
    have HR := Lib.hid (show leftE l = decide (0 < areaV l) by unfold leftE; rw [ringOk_yes h]; rfl)
    generalize areaV l = s at *
    clear h h1 h2 h3 hv
    go_enter Tryd.func30, Tryd.ntmps30
    go_wp2_with fail
    refine C.out.mono ?_
    rintro e w1 ⟨rfl, b1⟩
    go_wp2_with fail
    refine (A.out _ b1).mono ?_
    rintro e w2 ⟨rfl, b2⟩
    go_wp2_with fail
    go_ret
    exact ⟨by rw [HR.out]; rfl, b1.trans (b2.mono b1.size)⟩
  · have HR := Lib.hid (show leftE l = false by unfold leftE; rw [ringOk_no h]; rfl)
    have hn : ¬ (ringRes l).1 = 0 := fun k => h (ringRes_zero.1 k)
    have t0 : ((ringRes l).1 == 0) = false := beq_eq_false_iff_ne.2 hn
    clear h hv
    generalize ringRes l = rr at *
    obtain ⟨r1, r2⟩ := rr
    simp only at t0 hn
    go_enter Tryd.func30, Tryd.ntmps30
    go_wp2_with fail
    refine C.out.mono ?_
    rintro e w1 ⟨rfl, b1⟩
    go_wp2_with fail
    go_ret
    exact ⟨by rw [HR.out]; rfl, b1⟩

set_option maxRecDepth 100000 in
theorem EdgeR_any (v : Value) (l : List (Int × Int)) (px py : Int) (w : World) (hv : Pts w v l) :
    Calls Tryd.prog 33 #[v, .agg #[.int .i64 px, .int .i64 py]] w fun e w' => e = .returned (.bool (edgeE l (px, py))) ∧ Below w.heap.size w w' := by
  have B0 : Below w.heap.size w (w.alloc (.cells #[.int .i64 px, .int .i64 py] 24)) := (Below.refl _ _).alloc (Nat.le_refl _) _
  have P0 := Lib.hid (pair_alloc w px py 24 w.heap.size rfl)
  have C := Lib.hid (CheckR_any v l _ (hv.below B0))
  have PP := Lib.hid (fun w => Point_any px py w)
  by_cases h : ringEr l = .none
  · rw [ringRes_good h] at C
    have A := Lib.hid (show ∀ w', Below w.heap.size w w' → _ from fun w' hb => edgeR_any v l px py w' (hv.below hb))
    have HR := Lib.hid (show edgeE l (px, py) = (okP (px, py) && edgeB l (px, py)) by
      unfold edgeE; rw [ringOk_yes h, Bool.true_and]
      cases hp : okP (px, py) with
      | true => rfl
      | false =>
        exact anyB_false fun i hi => by unfold edgeAt onB; rw [hp]; simp)
    generalize edgeB l (px, py) = s at *
    by_cases hp : inP px py
    · rw [decide_eq_true hp] at PP
      rw [show okP (px, py) = true from decide_eq_true hp] at HR
      clear h hv hp
      go_enter Tryd.func33, Tryd.ntmps33
      go_wp2_with fail
      refine C.out.mono ?_
      rintro e w1 ⟨rfl, b1⟩
      have B1 := B0.trans (b1.mono B0.size)
      obtain ⟨y0, y1⟩ := P0.out.below b1
      go_wp2_with fail
      refine (PP.out _).mono ?_
      rintro e w2 ⟨rfl, b2⟩
      have B2 := B1.trans (b2.mono B1.size)
      clear y0 y1
      obtain ⟨y0, y1⟩ := P0.out.below (b1.trans (b2.mono b1.size))
      go_wp2_with fail
      refine (A.out _ B2).mono ?_
      rintro e w3 ⟨rfl, b3⟩
      go_wp2_with fail
      go_ret
      exact ⟨by rw [HR.out]; rfl, B2.trans (b3.mono B2.size)⟩
    · rw [decide_eq_false hp] at PP
      rw [show okP (px, py) = false from decide_eq_false hp] at HR
      clear h hv hp
      go_enter Tryd.func33, Tryd.ntmps33
      go_wp2_with fail
      refine C.out.mono ?_
      rintro e w1 ⟨rfl, b1⟩
      have B1 := B0.trans (b1.mono B0.size)
      obtain ⟨y0, y1⟩ := P0.out.below b1
      go_wp2_with fail
      refine (PP.out _).mono ?_
      rintro e w2 ⟨rfl, b2⟩
      go_wp2_with fail
      go_ret
      exact ⟨by rw [HR.out]; rfl, B1.trans (b2.mono B1.size)⟩
  · have HR := Lib.hid (show edgeE l (px, py) = false by unfold edgeE; rw [ringOk_no h]; rfl)
    have hn : ¬ (ringRes l).1 = 0 := fun k => h (ringRes_zero.1 k)
    have t0 : ((ringRes l).1 == 0) = false := beq_eq_false_iff_ne.2 hn
    clear h hv
    generalize ringRes l = rr at *
    obtain ⟨r1, r2⟩ := rr
    simp only at t0 hn
    go_enter Tryd.func33, Tryd.ntmps33
    go_wp2_with fail
    refine C.out.mono ?_
    rintro e w1 ⟨rfl, b1⟩
    go_wp2_with fail
    go_ret
    exact ⟨by rw [HR.out]; rfl, B0.trans (b1.mono B0.size)⟩

set_option maxRecDepth 100000 in
theorem HasR_any (v : Value) (l : List (Int × Int)) (px py : Int) (w : World) (hv : Pts w v l) :
    Calls Tryd.prog 31 #[v, .agg #[.int .i64 px, .int .i64 py]] w fun e w' => e = .returned (.bool (hasE l (px, py))) ∧ Below w.heap.size w w' := by
  have B0 : Below w.heap.size w (w.alloc (.cells #[.int .i64 px, .int .i64 py] 24)) := (Below.refl _ _).alloc (Nat.le_refl _) _
  have P0 := Lib.hid (pair_alloc w px py 24 w.heap.size rfl)
  have C := Lib.hid (CheckR_any v l _ (hv.below B0))
  have PP := Lib.hid (fun w => Point_any px py w)
  by_cases h : ringEr l = .none
  · obtain ⟨h1, h2, h3⟩ := ringEr_ok h
    rw [ringRes_good h] at C
    have HR := Lib.hid (show hasE l (px, py) = (okP (px, py) && (edgeB l (px, py) || crossTo l (px, py) l.length)) by unfold hasE; rw [ringOk_yes h, Bool.true_and])
    by_cases hp : inP px py
    · have hp' : okP (px, py) = true := decide_eq_true hp
      have A := Lib.hid (show ∀ w', Below w.heap.size w w' → _ from fun w' hb => hasR_ok v l px py w' (hv.below hb) h1 hp' h3)
      rw [decide_eq_true hp] at PP
      rw [hp'] at HR
      generalize (edgeB l (px, py) || crossTo l (px, py) l.length) = s at *
      clear h hv hp h1 h2 h3 hp'
      go_enter Tryd.func31, Tryd.ntmps31
      go_wp2_with fail
      refine C.out.mono ?_
      rintro e w1 ⟨rfl, b1⟩
      have B1 := B0.trans (b1.mono B0.size)
      obtain ⟨y0, y1⟩ := P0.out.below b1
      go_wp2_with fail
      refine (PP.out _).mono ?_
      rintro e w2 ⟨rfl, b2⟩
      have B2 := B1.trans (b2.mono B1.size)
      clear y0 y1
      obtain ⟨y0, y1⟩ := P0.out.below (b1.trans (b2.mono b1.size))
      go_wp2_with fail
      refine (A.out _ B2).mono ?_
      rintro e w3 ⟨rfl, b3⟩
      go_wp2_with fail
      go_ret
      exact ⟨by rw [HR.out]; rfl, B2.trans (b3.mono B2.size)⟩
    · rw [decide_eq_false hp] at PP
      rw [show okP (px, py) = false from decide_eq_false hp] at HR
      clear h hv hp h1 h2 h3
      go_enter Tryd.func31, Tryd.ntmps31
      go_wp2_with fail
      refine C.out.mono ?_
      rintro e w1 ⟨rfl, b1⟩
      have B1 := B0.trans (b1.mono B0.size)
      obtain ⟨y0, y1⟩ := P0.out.below b1
      go_wp2_with fail
      refine (PP.out _).mono ?_
      rintro e w2 ⟨rfl, b2⟩
      go_wp2_with fail
      go_ret
      exact ⟨by rw [HR.out]; rfl, B1.trans (b2.mono B1.size)⟩
  · have HR := Lib.hid (show hasE l (px, py) = false by unfold hasE; rw [ringOk_no h]; rfl)
    have hn : ¬ (ringRes l).1 = 0 := fun k => h (ringRes_zero.1 k)
    have t0 : ((ringRes l).1 == 0) = false := beq_eq_false_iff_ne.2 hn
    clear h hv
    generalize ringRes l = rr at *
    obtain ⟨r1, r2⟩ := rr
    simp only at t0 hn
    go_enter Tryd.func31, Tryd.ntmps31
    go_wp2_with fail
    refine C.out.mono ?_
    rintro e w1 ⟨rfl, b1⟩
    go_wp2_with fail
    go_ret
    exact ⟨by rw [HR.out]; rfl, B0.trans (b1.mono B0.size)⟩

set_option maxRecDepth 100000 in
theorem TwiceR_any (v : Value) (l : List (Int × Int)) (w : World) (hv : Pts w v l) :
    Calls Tryd.prog 29 #[v] w fun e w' => e = .returned (.agg #[.int .u64 0, .int .u64 (twiceE l)]) ∧ Below w.heap.size w w' := by
  have B0 : Below w.heap.size w (w.alloc (.cells #[.int .u64 0, .int .u64 0] 42)) := (Below.refl _ _).alloc (Nat.le_refl _) _
  have C := Lib.hid (CheckR_any v l _ (hv.below B0))
  have X0 := Lib.hid (show ∀ w', Below (w.alloc (.cells #[.int .u64 0, .int .u64 0] 42)).heap.size (w.alloc (.cells #[.int .u64 0, .int .u64 0] 42)) w' → (w'.cell? ⟨w.heap.size, 0, none⟩ = some (.int .u64 0) ∧ w'.cell? ⟨w.heap.size, 1, none⟩ = some (.int .u64 0)) ∧ w'.frozen? ⟨w.heap.size, 0, none⟩ = false ∧ w'.frozen? ⟨w.heap.size, 1, none⟩ = false from
    fun w' hb => ⟨⟨(hb.cell (p := ⟨w.heap.size, 0, none⟩) (by simp)).trans (by simp), (hb.cell (p := ⟨w.heap.size, 1, none⟩) (by simp)).trans (by simp)⟩, (hb.frozen (p := ⟨w.heap.size, 0, none⟩) (by simp)).trans (by simp), (hb.frozen (p := ⟨w.heap.size, 1, none⟩) (by simp)).trans (by simp)⟩)
  by_cases h : ringEr l = .none
  · obtain ⟨h1, h2, h3⟩ := ringEr_ok h
    rw [ringRes_good h] at C
    have A := Lib.hid (show ∀ w', Below w.heap.size w w' → _ from fun w' hb => areaR_ok v l w' (hv.below hb) h1 h2 h3)
    have HR := Lib.hid (show twiceE l = absU (areaV l) by unfold twiceE; rw [ringOk_yes h]; rfl)
    obtain ⟨n1, n2⟩ := areaV_bd l
    generalize areaV l = s at *
    have AB := Lib.hid (fun w => Abs_any s w n1 n2)
    clear h h1 h2 h3 hv n1 n2
    go_enter Tryd.func29, Tryd.ntmps29
    go_wp2_with fail
    refine C.out.mono ?_
    rintro e w1 ⟨rfl, b1⟩
    have B1 := B0.trans (b1.mono B0.size)
    go_wp2_with fail
    refine (A.out _ B1).mono ?_
    rintro e w2 ⟨rfl, b2⟩
    have b12 := b1.trans (b2.mono b1.size)
    have B2 := B1.trans (b2.mono B1.size)
    obtain ⟨⟨y0, y1⟩, y2, y3⟩ := X0.out _ b12
    have hz : w.heap.size < w2.heap.size := World.block_lt_of_cell? w2 ⟨w.heap.size, 0, none⟩ y0
    go_wp2_with fail
    refine (AB.out _).mono ?_
    rintro e w3 ⟨rfl, rfl⟩
    go_wp2_with fail
    obtain ⟨r0, r1⟩ := two_cells y0 y1 y2 y3 (.int .u64 0) (.int .u64 (absU s))
    exact bodyPost_ret (v := .agg #[.int .u64 0, .int .u64 (absU s)]) (by simp [results, Tryd.results29, go_sem, r0, r1]) rfl ⟨by rw [HR.out], (B2.setCell (p := ⟨w.heap.size, 0, none⟩) (Nat.le_refl _) _).setCell (p := ⟨w.heap.size, 1, none⟩) (Nat.le_refl _) _⟩
  · have HR := Lib.hid (show twiceE l = 0 by unfold twiceE; rw [ringOk_no h]; rfl)
    have hn : ¬ (ringRes l).1 = 0 := fun k => h (ringRes_zero.1 k)
    have t0 : ((ringRes l).1 != 0) = true := by simpa using hn
    clear h hv
    generalize ringRes l = rr at *
    obtain ⟨r1, r2⟩ := rr
    simp only at t0 hn
    go_enter Tryd.func29, Tryd.ntmps29
    go_wp2_with fail
    refine C.out.mono ?_
    rintro e w1 ⟨rfl, b1⟩
    have B1 := B0.trans (b1.mono B0.size)
    obtain ⟨⟨y0, y1⟩, y2, y3⟩ := X0.out _ b1
    have hz : w.heap.size < w1.heap.size := World.block_lt_of_cell? w1 ⟨w.heap.size, 0, none⟩ y0
    go_wp2_with fail
    obtain ⟨q0, q1⟩ := two_cells y0 y1 y2 y3 (.int .u64 0) (.int .u64 0)
    exact bodyPost_ret (v := .agg #[.int .u64 0, .int .u64 0]) (by simp [results, Tryd.results29, go_sem, q0, q1]) rfl ⟨by rw [HR.out], (B1.setCell (p := ⟨w.heap.size, 0, none⟩) (Nat.le_refl _) _).setCell (p := ⟨w.heap.size, 1, none⟩) (Nat.le_refl _) _⟩

theorem u_any (a b : Int) (w : World) : Calls Tryd.prog 21 #[.agg #[.int .u64 a, .int .u64 b]] w fun e w' => e = .returned (.agg #[.int .u64 a, .int .u64 b]) ∧ Below w.heap.size w w' := by
  go_enter Tryd.func21, Tryd.ntmps21
  go_wp2
  exact bodyPost_ret (v := .agg #[.int .u64 a, .int .u64 b]) (by simp [results, Tryd.results21, go_sem]) rfl ⟨rfl, ((Below.refl _ _).alloc (Nat.le_refl _) _).alloc (by simp) _⟩
end Go.Proofs.YtpmngdgifdkohaaDoor
