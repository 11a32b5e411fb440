/- ring.Twice; ring.Has at any input. -/
import Derived.Test.YtpmngdgifdkohaaDoorHas
namespace Go.Proofs.YtpmngdgifdkohaaDoor
open Go.RowKit

theorem Has_any (v : Value) (l : List (Int × Int)) (px py : Int) (w : World) (hv : Pts w v l) :
    Calls Tryd.prog 15 #[v, .agg #[.int .i64 px, .int .i64 py]] w fun e w' => e = .returned (.bool (hasE l (px, py))) ∧ Below w.heap.size w w' := by
  by_cases h : ringEr l = .none
  · cases hp : okP (px, py) with
    | true => exact Has_good v l px py w hv h hp
    | false => exact Has_bad v l px py w hv (.inr hp)
  · exact Has_bad v l px py w hv (.inl h)

/-- twice the area, as a number without a sign -/
def absU (n : Int) : Int := if n < 0 then -n else n
def twiceE (l : List Pt) : Int := if ringOk l then absU (areaV l) else 0
theorem areaV_bd (l : List Pt) : -9223372036854775808 ≤ areaV l ∧ areaV l ≤ 9223372036854775807 := by
  unfold areaV
  simp only [IntKind.wrap, IntKind.bits, IntKind.signed]
  simp
  split <;> omega

theorem twice_val (s : Int) (h1 : -9223372036854775808 ≤ s) (h2 : s ≤ 9223372036854775807) : (s ≤ wrap64 (-s) → IntKind.u64.wrap (wrap64 (-s)) = absU s) ∧ (wrap64 (-s) ≤ s → IntKind.u64.wrap s = absU s) := by
  have e : ∀ x : Int, IntKind.u64.wrap x = x % 18446744073709551616 := fun x => by simp [IntKind.wrap, IntKind.bits, IntKind.signed]
  rw [e, e]
  by_cases hm : s = -9223372036854775808
  · subst hm
    have : wrap64 (-(-9223372036854775808)) = -9223372036854775808 := by simp [wrap64]
    rw [this]
    unfold absU
    simp
  · have : wrap64 (-s) = -s := by simp [wrap64]; omega
    rw [this]
    unfold absU
    split <;> constructor <;> intro h <;> omega
theorem two_cells {w : World} {g : Nat} {a b : Value} (h0 : w.cell? ⟨g, 0, none⟩ = some a) (h1 : w.cell? ⟨g, 1, none⟩ = some b) (f0 : w.frozen? ⟨g, 0, none⟩ = false) (f1 : w.frozen? ⟨g, 1, none⟩ = false) (x y : Value) :
    ((w.setCell ⟨g, 0, none⟩ x).setCell ⟨g, 1, none⟩ y).cell? ⟨g, 0, none⟩ = some x ∧ ((w.setCell ⟨g, 0, none⟩ x).setCell ⟨g, 1, none⟩ y).cell? ⟨g, 1, none⟩ = some y := by
  have ht : w.there g 0 2 := fun j hj => by
    match j, hj with
    | 0, _ => exact ⟨by rw [h0]; rfl, f0⟩
    | 1, _ => exact ⟨by rw [h1]; rfl, f1⟩
  have r := World.rangeAt_setCells_same w g 0 [x, y] ht
  exact ⟨r 0 _ rfl, r 1 _ rfl⟩

theorem Twice_any (v : Value) (l : List (Int × Int)) (w : World) (hv : Pts w v l) :
    Calls Tryd.prog 17 #[v] w fun e w' => e = .returned (.agg #[.int .u64 0, .int .u64 (twiceE l)]) ∧ Below w.heap.size w w' := by
  have B0 : Below w.heap.size w (w.alloc (.cells #[.int .u64 0, .int .u64 0] 35)) := (Below.refl _ _).alloc (Nat.le_refl _) _
  have C := Lib.hid (Check_any v l _ (hv.below B0))
  by_cases h : ringEr l = .none
  · rw [h] at C
    obtain ⟨h1, h2, h3⟩ := ringEr_ok h
    have A := Lib.hid (show ∀ w', Below w.heap.size w w' → _ from fun w' hb => area_ok v l w' (hv.below hb) h1 h2 h3)
    have HR := Lib.hid (show twiceE l = absU (areaV l) by unfold twiceE; rw [ringOk_yes h]; rfl)
    obtain ⟨n1, n2⟩ := areaV_bd l
    generalize areaV l = s at *
    have X0 := Lib.hid (show ∀ w', Below (w.alloc (.cells #[.int .u64 0, .int .u64 0] 35)).heap.size (w.alloc (.cells #[.int .u64 0, .int .u64 0] 35)) w' → (w'.cell? ⟨w.heap.size, 0, none⟩ = some (.int .u64 0) ∧ w'.cell? ⟨w.heap.size, 1, none⟩ = some (.int .u64 0)) ∧ w'.frozen? ⟨w.heap.size, 0, none⟩ = false ∧ w'.frozen? ⟨w.heap.size, 1, none⟩ = false from
      fun w' hb => ⟨⟨(hb.cell (p := ⟨w.heap.size, 0, none⟩) (by simp)).trans (by simp), (hb.cell (p := ⟨w.heap.size, 1, none⟩) (by simp)).trans (by simp)⟩, (hb.frozen (p := ⟨w.heap.size, 0, none⟩) (by simp)).trans (by simp), (hb.frozen (p := ⟨w.heap.size, 1, none⟩) (by simp)).trans (by simp)⟩)
    clear h h1 h2 h3 hv
    go_enter Tryd.func17, Tryd.ntmps17
    go_wp2_with fail
    refine C.out.mono ?_
    rintro e w1 ⟨u, rfl, rfl, b1⟩
    have B1 := B0.trans (b1.mono B0.size)
    obtain ⟨⟨y0, y1⟩, y2, y3⟩ := X0.out _ b1
    go_wp2_with fail
    refine (A.out _ B1).mono ?_
    rintro e w2 ⟨rfl, b2⟩
    have b12 := b1.trans (b2.mono b1.size)
    have B2 := B1.trans (b2.mono B1.size)
    clear y0 y1 y2 y3
    obtain ⟨⟨y0, y1⟩, y2, y3⟩ := X0.out _ b12
    have tv := twice_val s n1 n2
    have TV := Lib.hid tv
    clear tv
    go_wp2_with fail
    · obtain ⟨r0, r1⟩ := two_cells y0 y1 y2 y3 (.int .u64 0) (.int .u64 (IntKind.u64.wrap (wrap64 (-s))))
      exact bodyPost_ret (v := .agg #[.int .u64 0, .int .u64 (IntKind.u64.wrap (wrap64 (-s)))]) (by simp [results, Tryd.results17, go_sem, r0, r1]) rfl ⟨by rw [HR.out, TV.out.1 (by omega)], (B2.setCell (p := ⟨w.heap.size, 0, none⟩) (Nat.le_refl _) _).setCell (p := ⟨w.heap.size, 1, none⟩) (Nat.le_refl _) _⟩
    · obtain ⟨r0, r1⟩ := two_cells y0 y1 y2 y3 (.int .u64 0) (.int .u64 (IntKind.u64.wrap s))
      exact bodyPost_ret (v := .agg #[.int .u64 0, .int .u64 (IntKind.u64.wrap s)]) (by simp [results, Tryd.results17, go_sem, r0, r1]) rfl ⟨by rw [HR.out, TV.out.2 (by omega)], (B2.setCell (p := ⟨w.heap.size, 0, none⟩) (Nat.le_refl _) _).setCell (p := ⟨w.heap.size, 1, none⟩) (Nat.le_refl _) _⟩
  · obtain ⟨i, k, hr2⟩ := ringEr_some h
    have HR := Lib.hid (show twiceE l = 0 by unfold twiceE; rw [ringOk_no h]; rfl)
    rw [hr2] at C
    have X0 := Lib.hid (show ∀ w', Below (w.alloc (.cells #[.int .u64 0, .int .u64 0] 35)).heap.size (w.alloc (.cells #[.int .u64 0, .int .u64 0] 35)) w' → (w'.cell? ⟨w.heap.size, 0, none⟩ = some (.int .u64 0) ∧ w'.cell? ⟨w.heap.size, 1, none⟩ = some (.int .u64 0)) ∧ w'.frozen? ⟨w.heap.size, 0, none⟩ = false ∧ w'.frozen? ⟨w.heap.size, 1, none⟩ = false from
      fun w' hb => ⟨⟨(hb.cell (p := ⟨w.heap.size, 0, none⟩) (by simp)).trans (by simp), (hb.cell (p := ⟨w.heap.size, 1, none⟩) (by simp)).trans (by simp)⟩, (hb.frozen (p := ⟨w.heap.size, 0, none⟩) (by simp)).trans (by simp), (hb.frozen (p := ⟨w.heap.size, 1, none⟩) (by simp)).trans (by simp)⟩)
    clear h hr2 hv
    go_enter Tryd.func17, Tryd.ntmps17
    go_wp2_with fail
    refine C.out.mono ?_
    rintro e w1 ⟨u, rfl, hu, b1⟩
    have B1 := B0.trans (b1.mono B0.size)
    obtain ⟨bu, uu, rfl, _⟩ := hu
    obtain ⟨⟨y0, y1⟩, y2, y3⟩ := X0.out _ b1
    have hz : w.heap.size < w1.heap.size := World.block_lt_of_cell? w1 ⟨w.heap.size, 0, none⟩ y0
    go_wp2_with fail
    obtain ⟨r0, r1⟩ := two_cells y0 y1 y2 y3 (.int .u64 0) (.int .u64 0)
    exact bodyPost_ret (v := .agg #[.int .u64 0, .int .u64 0]) (by simp [results, Tryd.results17, go_sem, r0, r1]) rfl ⟨by rw [HR.out], (B1.setCell (p := ⟨w.heap.size, 0, none⟩) (Nat.le_refl _) _).setCell (p := ⟨w.heap.size, 1, none⟩) (Nat.le_refl _) _⟩
end Go.Proofs.YtpmngdgifdkohaaDoor
