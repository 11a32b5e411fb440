/- ring.next, ring.blame. -/
import Derived.Test.YtpmngdgifdkohaaDoorMeet
namespace Go.Proofs.YtpmngdgifdkohaaDoor
open Go.RowKit

theorem next_any (v : Value) (l : List (Int × Int)) (i : Nat) (w : World) (hv : Pts w v l) (hi : i < l.length) :
    Calls Tryd.prog 40 #[v, .int .i64 (i : Int)] w fun e w' => e = .returned (.agg #[.int .i64 (pt l ((i + 1) % l.length)).1, .int .i64 (pt l ((i + 1) % l.length)).2]) ∧ Below w.heap.size w w' := by
  obtain ⟨ao, c, rfl, h1, h2, h0, h3⟩ := hv.open
  unfold maxLen at h2
  have hm : (i + 1) % l.length < l.length := Nat.mod_lt _ (by omega)
  obtain ⟨g, off, rfl, hg, hx, hy⟩ := h3 _ hm
  rw [pt_get l _ hm]
  generalize l[(i + 1) % l.length] = p at *
  obtain ⟨x, y⟩ := p
  simp only at hx hy ⊢
  have e1 : ((i : Int) + 1) % (l.length : Int) = (((i + 1) % l.length : Nat) : Int) := by rw [Int.natCast_emod]; rfl
  have hz : ((l.length : Int) == 0) = false := beq_eq_false_iff_ne.2 (by omega)
  have i1 : (i : Int) < (l.length : Int) := by omega
  generalize (i + 1) % l.length = j at *
  have i2 : (j : Int) < (l.length : Int) := by omega
  clear h0 h3 hv
  go_enter Tryd.func40, Tryd.ntmps40
  go_wp2_with fail
  exact bodyPost_ret (v := .agg #[.int .i64 x, .int .i64 y]) (by simp [results, Tryd.results40, go_sem]) rfl ⟨rfl, (Below.refl _ _).alloc (Nat.le_refl _) _⟩

theorem blame_any (i : Int) (k : Int) (w : World) : Calls Tryd.prog 36 #[.int .i64 i, .iface 61 (.int .i64 k)] w (ErRet w (.fault strRing i (.num k))) := by
  go_enter Tryd.func36, Tryd.ntmps36
  go_wp2
  go_ret
  exact ⟨_, rfl, ⟨_, _, rfl, by simp, by simp [strRing], by simp, by simp, rfl⟩, (Below.refl _ _).alloc (Nat.le_refl _) _⟩
end Go.Proofs.YtpmngdgifdkohaaDoor
