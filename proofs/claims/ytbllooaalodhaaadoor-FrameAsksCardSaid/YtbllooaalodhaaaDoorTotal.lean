/- pergolaalike.Total, Rows. -/
import Derived.Test.YtbllooaalodhaaaDoorRws
import Derived.Test.YtbllooaalodhaaaDoorSumA
namespace Go.Proofs.YtbllooaalodhaaaDoor
open Go.RowKit

/-- all bytes of the first k rows -/
def lensOf (ls : List (List UInt8)) : Nat → Nat
  | 0 => 0
  | k + 1 => lensOf ls k + (ls.getD k []).length
theorem lensOf_le (ls : List (List UInt8)) : ∀ j k, j ≤ k → lensOf ls j ≤ lensOf ls k
  | j, 0, h => by obtain rfl : j = 0 := by omega
                  exact Nat.le_refl _
  | j, k + 1, h => by
    by_cases e : j = k + 1
    · subst e; exact Nat.le_refl _
    · have := lensOf_le ls j k (by omega)
      simp only [lensOf]; omega
theorem row_le (ls : List (List UInt8)) (k : Nat) (hk : k < ls.length) : ls[k].length ≤ lensOf ls ls.length := by
  have h1 := lensOf_le ls (k + 1) ls.length hk
  simp only [lensOf, List.getD_eq_getElem?_getD, List.getElem?_eq_getElem hk, Option.getD_some] at h1
  omega

/-- what is known of Total's answer at the limit 3000 -/
def TotalRet (w : World) (ls : List (List UInt8)) (e : Ending) (w' : World) : Prop :=
  ∃ t : Int, e = .returned (.int .i64 t) ∧ 0 ≤ t ∧ t ≤ 4611686018427387904 ∧ (t ≤ 3000 → ls.length + lensOf ls ls.length ≤ 3000) ∧ Below w.heap.size w w'

theorem Total_any (v : Value) (ls : List (List UInt8)) (w : World) (hv : Rws w v ls) (hl : ls.length ≤ 20) :
    Calls Tryd.prog 12 #[v, .int .i64 3000] w (TotalRet w ls) := by
  obtain ⟨vs, hvl, ⟨ao, c, rfl, h1, h2, h0, h3⟩, h4⟩ := hv
  unfold maxLen at h2
  have s0 : satAdd 0 (ls.length : Int) = ls.length := by unfold satAdd; rw [if_neg (by omega)]; omega
  go_enter Tryd.func12, Tryd.ntmps12
  go_wp2_with (go_at_call 26; refine (Sum_one 0 ls.length w.heap.size 0 1 _ (by simp) (by omega) (by omega) (by omega)).mono ?_; rw [s0]; rintro e w' ⟨rfl, rfl⟩)
  go_loopw [5, 6] (fun n i wr => ∃ (k : Nat) (t : Int), k ≤ ls.length ∧ i = .int .i64 k ∧ n = .int .i64 t ∧ 0 ≤ t ∧ t ≤ 4611686018427387904 ∧ Hid (t ≤ 3000 → t = ls.length + lensOf ls k) ∧ Below w.heap.size w wr) (fun _ i _ => ls.length - (intOf i).toNat)
  case atStart => exact ⟨0, ls.length, Nat.zero_le _, rfl, rfl, by omega, by omega, (fun _ => by simp [lensOf]), (Below.refl _ _).alloc (Nat.le_refl _) _⟩
  case round =>
    obtain ⟨k, t, hk, rfl, rfl, ht0, ht1, ht, hbel⟩ := hrel
    by_cases hlt : k < ls.length
    · by_cases htop : t ≤ 3000
      · obtain ⟨b, off, rfl, hb, hc⟩ := h3 k (by omega)
        have hrow := h4 k (by omega) hlt
        obtain ⟨ao2, c2, e2, g1, g2, g0, g3⟩ := hrow.open
        have hcell : wr.cell? ⟨b, off + k, none⟩ = some (.slice ao2 ls[k].length c2) := by
          rw [← e2]; exact (hbel.cell (p := ⟨b, off + k, none⟩) hb).trans hc
        unfold maxLen at g2
        have hg1 : (ls[k].length : Int) ≤ 9223372036854775807 := by omega
        have hm0 : (0 : Int) ≤ (ls[k].length : Int) := by omega
        clear g3 h4 h3
        generalize hm : ls[k].length = m at *
        have hsat : 0 ≤ satAdd t m ∧ satAdd t m ≤ 4611686018427387904 ∧ (satAdd t m ≤ 3000 → satAdd t m = t + m) := by
          unfold satAdd; split
          · refine ⟨by omega, by omega, by omega⟩
          · refine ⟨by omega, by omega, fun _ => rfl⟩
        have ht' : Hid (satAdd t m ≤ 3000 → satAdd t m = ls.length + lensOf ls (k + 1)) := fun h => by
          have e1 := hsat.2.2 h
          have e3 := ht.out htop
          simp only [lensOf, List.getD_eq_getElem?_getD, List.getElem?_eq_getElem hlt, Option.getD_some, hm]
          omega
        have hs1 := hsat.1
        have hs2 := hsat.2.1
        have hsz := hbel.size
        clear hc hsat hm ht e2
        go_wp2_with (go_at_call 26; refine (Sum_one t m wr.heap.size 0 1 _ (by simp) (by omega) (by omega) (by omega)).mono ?_; rintro e w' ⟨rfl, rfl⟩)
        go_roundw
        case rel => exact ⟨k + 1, _, by omega, by go_num, rfl, hs1, hs2, ht', hbel.alloc hsz _⟩
        case measure => simp [intOf]; omega
      · clear h3 h4
        have HT := Lib.hid htop
        go_wp2
        go_ret
        exact ⟨t, rfl, ht0, ht1, fun h => by have := HT.out; omega, hbel⟩
    · clear h3 h4
      obtain rfl : k = ls.length := by omega
      go_wp2
      go_ret
      refine ⟨t, rfl, ht0, ht1, fun h => ?_, hbel⟩
      have := ht.out h
      omega
end Go.Proofs.YtbllooaalodhaaaDoor
