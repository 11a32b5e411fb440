/- pergolaalike.Ints; (*slots.Page).Kind. -/
import Derived.Test.YtdeibgljibcnlaaDoorSlot9
import Derived.Test.YtdeibgljibcnlaaDoorAlikeB
namespace Go.Proofs.YtdeibgljibcnlaaDoor
open Go.RowKit

/-- In world w the value v is a []int that reads as l. -/
def Nums (w : World) (v : Value) (l : List Int) : Prop := Rd w v l.length (numsV l)
theorem Nums.open {w : World} {v : Value} {l : List Int} (h : Nums w v l) :
    ∃ ao c, v = .slice ao l.length c ∧ l.length ≤ c ∧ c ≤ maxLen ∧ (ao = none → c = 0) ∧
      ∀ i (h : i < l.length), ∃ b off, ao = some ⟨b, off, none⟩ ∧ b < w.heap.size ∧ w.cell? ⟨b, off + i, none⟩ = some (.int .i64 l[i]) := by
  obtain ⟨ao, c, hv, h1, h2, h0, h3⟩ := h
  refine ⟨ao, c, hv, h1, h2, h0, fun i hi => ?_⟩
  obtain ⟨b, off, e, hlt, hc⟩ := h3 i (by simpa [numsV] using hi)
  exact ⟨b, off, e, hlt, by simpa [numsV] using hc⟩
theorem OwnN.nums {w : World} {base : Nat} {v : Value} {l : List Int} (h : OwnN w base v l) : Nums w v l := Rd.of_own h
theorem Nums.below {w w' : World} {v : Value} {l : List Int} (h : Nums w v l) (hb : Below w.heap.size w w') : Nums w' v l := Rd.below h hb

theorem Ints_any (va vb : Value) (a b : List Int) (w : World) (ha : Nums w va a) (hb : Nums w vb b) :
    Calls Tryd.prog 41 #[va, vb] w fun e w' => e = .returned (.bool (decide (a = b))) ∧ ∃ n, w' = w.drewN n := by
  obtain ⟨aa, ca, rfl, ha1, ha2, ha0, ha3⟩ := ha.open
  obtain ⟨ab, cb, rfl, hb1, hb2, hb0, hb3⟩ := hb.open
  unfold maxLen at ha2 hb2
  by_cases hl : a.length = b.length
  · have t : ((a.length : Int) != (b.length : Int)) = false := by simp; omega
    have HL := Lib.hid hl
    have hle : a.length ≤ b.length := by omega
    clear hl
    go_enter Tryd.func41, Tryd.ntmps41
    go_wp2
    go_loopw [5] (fun i wr => ∃ k n : Nat, k ≤ a.length ∧ i = .int .i64 k ∧ Hid (wr = w.drewN n) ∧ Hid (a.take k = b.take k)) (fun i _ => a.length - (intOf i).toNat)
    case atStart => exact ⟨0, 0, Nat.zero_le _, rfl, rfl, rfl⟩
    case round =>
      obtain ⟨k, n, hk, rfl, hw, ht⟩ := hrel
      by_cases hlt : k < a.length
      · obtain ⟨ba, oa, rfl, hba, hca⟩ := ha3 k hlt
        obtain ⟨bb, ob, rfl, hbb, hcb⟩ := hb3 k (by omega)
        have ea : wr.cell? ⟨ba, oa + k, none⟩ = some (.int .i64 a[k]) := by rw [hw.out]; exact hca
        have eb : wr.cell? ⟨bb, ob + k, none⟩ = some (.int .i64 b[k]) := by rw [hw.out]; exact hcb
        have hwn : ∀ m, Hid (wr.drewN m = w.drewN (n + m)) := fun m => by rw [hw.out]; exact World.drewN_drewN ..
        clear ha3 hb3 hca hcb hw
        have i0 : (0 : Int) ≤ (k : Int) := by omega
        have i1 : (k : Int) < (a.length : Int) := by omega
        have i2 : (k : Int) < (b.length : Int) := by omega
        by_cases hab : a[k] = b[k]
        · have tt : (a[k] != b[k]) = false := by rw [hab]; simp
          have ht' : Hid (a.take (k + 1) = b.take (k + 1)) := take_eq_snoc hlt (by omega) ht.out hab
          clear ht hab
          go_wp2
          go_quiet (fail)
          go_wp2
          go_roundw
          case rel => exact ⟨k + 1, _, by omega, by go_num, hwn _, ht'⟩
          case measure => simp [intOf]; omega
        · have tt : (a[k] != b[k]) = true := by
            simpa using hab
          have hne : decide (a = b) = false := by
            simp; intro h; subst h; exact hab rfl
          have HN := Lib.hid hne
          clear ht hab hne
          go_wp2
          go_quiet (fail)
          go_wp2
          go_ret
          exact ⟨by rw [HN.out]; rfl, _, (hwn _).out⟩
      · have heq : decide (a = b) = true := by
          have := ht.out
          rw [List.take_of_length_le (by omega), List.take_of_length_le (by have := HL.out; omega)] at this
          simp [this]
        have HE := Lib.hid heq
        clear heq ht
        go_wp2
        go_ret
        exact ⟨by rw [HE.out]; rfl, _, hw.out⟩
  · have t : ((a.length : Int) != (b.length : Int)) = true := by simp; omega
    have hne : decide (a = b) = false := by simp; intro h; exact hl (by rw [h])
    have HN := Lib.hid hne
    clear hl hne
    go_enter Tryd.func41, Tryd.ntmps41
    go_wp2
    go_ret
    exact ⟨by rw [HN.out]; rfl, 0, rfl⟩

theorem Kind_any {w : World} {base p : Nat} {kind id : Int} {st : List SlotL} (h : PageS w base p kind id st) :
    Calls Tryd.prog 40 #[.pointer (some ⟨p, 0, none⟩)] w fun e w' => e = .returned (.int .i64 kind) ∧ w = w' := by
  obtain ⟨_, _, r, rfl, hp⟩ := h
  obtain ⟨ao, c, h1, h2⟩ := hp.row
  have G := Lib.hid (gone_page h1)
  have c1 : w.cell? ⟨p, 1, none⟩ = some (.int .i64 kind) := by simp [World.cell?, h1]
  clear hp h1 h2
  go_enter Tryd.func40, Tryd.ntmps40
  go_wp2_with fail
  refine G.out.mono ?_
  rintro e w1 ⟨rfl, rfl⟩
  go_wp2_with fail
  go_ret
  exact ⟨rfl, rfl⟩
end Go.Proofs.YtdeibgljibcnlaaDoor
