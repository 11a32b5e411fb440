/- rel.wrap; rel.box, check, Check of a point. -/
import Derived.Test.YthcfekabeidmiaaRRPlane
import Derived.Test.YthcfekabeidmiaaRRPts
import Derived.Deep.RegionHeld3
import Derived.BigQuiet
import Derived.Deep.QuietTactic
import Derived.RegionTactic
import Derived.ChangeAlike
import Derived.Outline
import Derived.Test.YthcfekabeidmiaaRRAlikeB
namespace Go.Proofs.YthcfekabeidmiaaRR
open Go.RowKit

theorem wrap_nil (op : ByteArray) (id : Int) (w : World) :
    Calls Try.prog 17 #[.string op, .int .i64 id, .nilIface] w (ErRet w .none) := by
  go_enter Try.func17, Try.ntmps17
  go_wp2
  go_ret
  exact ⟨_, rfl, rfl, Below.refl _ _⟩
theorem wrap_er (op : ByteArray) (id : Int) (E : Er) (v : Value) (w : World) (hv : E.Is w v) :
    Calls Try.prog 17 #[.string op, .int .i64 id, v] w (ErRet w (E.wrap op id)) := by
  by_cases hE : E = .none
  · subst hE
    obtain rfl : v = .nilIface := hv
    exact wrap_nil op id w
  · obtain ⟨T, x, rfl⟩ : ∃ T x, v = .iface T x := by
      cases E with
      | none => exact absurd rfl hE
      | num j => exact ⟨_, _, hv⟩
      | fault a b c => obtain ⟨b, u, h, _⟩ := hv; exact ⟨_, _, h⟩
    have hw : E.wrap op id = .fault op id E := by cases E <;> first | rfl | exact absurd rfl hE
    rw [hw]
    have HE := Lib.hid hE; clear hE
    have hb : Below w.heap.size w (w.alloc (.cells #[.string op, .int .i64 id, .iface T x] 48)) := (Below.refl _ _).alloc (Nat.le_refl _) _
    have hv' := Er.Is.below hb hv
    go_enter Try.func17, Try.ntmps17
    go_wp2
    go_ret
    exact ⟨_, rfl, ⟨_, _, rfl, by simp, by simp, by simp, by simp, hv'⟩, hb⟩

theorem verts_3 (w : World) : Calls Try.prog 19 #[.int .i64 3] w fun e w' => e = .returned (.int .i64 2) ∧ w = w' := by
  go_enter Try.func19, Try.ntmps19
  go_wp2
  go_ret
  exact ⟨rfl, rfl⟩
theorem verts_else (k : Int) (h : k ≠ 3) (w : World) : Calls Try.prog 19 #[.int .i64 k] w fun e w' => e = .returned (.int .i64 1) ∧ w = w' := by
  have t : (k == 3) = false := by simpa using h
  clear h
  go_enter Try.func19, Try.ntmps19
  go_wp2
  go_ret
  exact ⟨rfl, rfl⟩

/-- an object by value -/
def objV (kind : Int) (v : Value) : Value := .agg #[.int .i64 kind, v]

set_option maxRecDepth 100000 in
theorem box_1 (v : Value) (x y : Int) (w : World) (hv : Pts w v [(x, y)]) :
    Calls Try.prog 21 #[.agg #[.int .i64 1, v]] w fun e w' => e = .returned (.tuple #[.agg #[.int .i64 x, .int .i64 y, .int .i64 x, .int .i64 y], .bool true]) ∧ Below w.heap.size w w' := by
  obtain ⟨ao, c, rfl, h1, h2, h0, h3⟩ := hv.open
  obtain ⟨b, off, rfl, hb, hc0, hc1⟩ := h3 0 (by simp)
  simp only [Nat.zero_mul, Nat.add_zero, List.getElem_cons_zero] at hc0 hc1
  simp only [List.length_singleton] at h1 ⊢
  clear h3 h0
  unfold maxLen at h2
  go_enter Try.func21, Try.ntmps21
  go_wp2
  go_region
  go_wp2
  exact bodyPost_ret (v := .tuple #[.agg #[.int .i64 x, .int .i64 y, .int .i64 x, .int .i64 y], .bool true]) (by simp [results, Try.results21, go_sem]) rfl ⟨rfl, (((Below.refl _ _).alloc (Nat.le_refl _) _).alloc (by simp) _).drew⟩

theorem check_1 (v : Value) (x y : Int) (w : World) (hv : Pts w v [(x, y)]) (h : inP x y) :
    Calls Try.prog 18 #[.agg #[.int .i64 1, v]] w (ErRet w .none) := by
  have V := Lib.hid (fun w => verts_else 1 (by decide) w)
  have hb1 : boxCode x y x y = 0 := by unfold boxCode; rw [if_pos ⟨h, h⟩, if_neg (by omega)]
  have C := Lib.hid (fun w => CheckBox_any x y x y w)
  rw [hb1] at C
  clear hb1 h
  have hv0 := hv
  obtain ⟨ao, c, rfl, h1, h2, h0, h3⟩ := hv.open
  simp only [List.length_singleton] at h1 hv0 ⊢
  clear h3 h0 hv
  unfold maxLen at h2
  have B0 : Below w.heap.size w (w.alloc (.cells #[.int .i64 1, .slice ao 1 c] 42)) := (Below.refl _ _).alloc (Nat.le_refl _) _
  have X := Lib.hid (fun n => box_1 _ x y _ ((hv0.below B0).drewN n))
  clear hv0
  go_enter Try.func18, Try.ntmps18
  go_wp2
  go_quiet ((go_at_call 19; refine Calls.quiet_of_same ((V.out _).mono fun e w' ⟨h, k⟩ => ⟨h, k.symm⟩)))
  go_wp2_with fail
  refine (X.out _).mono ?_
  rintro e w1 ⟨rfl, b1⟩
  have B1 := (below_drewN B0 nq).trans (b1.mono (below_drewN B0 nq).size)
  go_wp2_with fail
  refine (C.out _).mono ?_
  rintro e w2 ⟨u, rfl, hu, b2⟩
  have B2 := (B1.alloc B1.size (.cells #[.int .i64 x, .int .i64 y, .int .i64 x, .int .i64 y] 53))
  go_wp2_with fail
  go_ret
  exact ⟨_, rfl, hu, B2.trans (b2.mono B2.size)⟩

def strObject : ByteArray := ⟨#[111, 98, 106, 101, 99, 116]⟩
set_option maxRecDepth 100000 in
theorem Check_of (kind : Int) (ao : Option Addr) (n c : Nat) (E : Er) (w : World) (hC : ∀ w', Below w.heap.size w w' → Calls Try.prog 18 #[.agg #[.int .i64 kind, .slice ao n c]] w' (ErRet w' E)) :
    Calls Try.prog 16 #[.agg #[.int .i64 kind, .slice ao n c]] w (ErRet w (E.wrap strObject kind)) := by
  have B0 : Below w.heap.size w (w.alloc (.cells #[.int .i64 kind, .slice ao n c] 42)) := (Below.refl _ _).alloc (Nat.le_refl _) _
  have HB := Lib.hid B0
  have HC := Lib.hid (show ∀ k, _ from fun k => hC _ (below_drewN B0 k))
  have HK := Lib.hid (show ∀ k w1, Below (w.alloc (.cells #[.int .i64 kind, .slice ao n c] 42)).heap.size ((w.alloc (.cells #[.int .i64 kind, .slice ao n c] 42)).drewN k) w1 → w1.cell? ⟨w.heap.size, 0, none⟩ = some (.int .i64 kind) ∧ w1.cell? ⟨w.heap.size, 1, none⟩ = some (.slice ao n c) from
    fun k w1 h => ⟨(h.cell (p := ⟨w.heap.size, 0, none⟩) (by simp)).trans (by simp), (h.cell (p := ⟨w.heap.size, 1, none⟩) (by simp)).trans (by simp)⟩)
  clear hC B0
  go_enter Try.func16, Try.ntmps16
  go_wp2
  go_region_held3 (fun w' => w'.cell? ⟨w.heap.size, 0, none⟩ = some (.int .i64 kind) ∧ w'.cell? ⟨w.heap.size, 1, none⟩ = some (.slice ao n c)) (first | go_keep | exact HK.out _ _ b1 | exact HK.out _ _ (b1.trans (b2.mono b1.size)))
    (first | (go_at_call 18; refine (HC.out _).mono ?_; rintro e w1 ⟨u, rfl, hu, b1⟩) | (go_at_call 17; refine (wrap_er _ _ _ _ _ hu).mono ?_; rintro e w2 ⟨u2, rfl, hu2, b2⟩))
  go_wp2
  go_ret
  have b12 := b1.trans (b2.mono b1.size)
  exact ⟨_, rfl, hu2, (below_drewN HB.out _).trans (b12.mono (below_drewN HB.out _).size)⟩
end Go.Proofs.YthcfekabeidmiaaRR
