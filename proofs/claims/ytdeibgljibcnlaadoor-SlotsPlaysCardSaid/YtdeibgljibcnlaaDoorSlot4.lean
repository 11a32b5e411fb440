/- IndexFunc of slots, free; put, Insert. -/
import Derived.Test.YtdeibgljibcnlaaDoorSlot3
namespace Go.Proofs.YtdeibgljibcnlaaDoor
open Go.RowKit

/-- the function value that tells whether a slot is free -/
def freeFn : Value := .func (.func 48) #[] #[]
theorem enters_free1 (args : Array Value) (w : World) : (callFunc 48 args).run Tryd.prog w = .ok (.enter 48 args) w := by
  have hf := Tryd.func48
  simp [callFunc, hf]; rfl

def fullTo (r : List SlotV) (k : Nat) : Prop := ∀ j (h : j < r.length), j < k → r[j].2.isNone = false
theorem ixR_at {r : List SlotV} {k : Nat} (hk : k < r.length) (h1 : fullTo r k) (h2 : r[k].2.isNone = true) : ixR r = k :=
  (List.findIdx_eq hk).2 ⟨h2, fun j hj => h1 j (by omega) hj⟩
theorem ixR_none {r : List SlotV} (h : fullTo r r.length) : ixR r = r.length := by
  refine List.findIdx_eq_length.2 fun x hx => ?_
  obtain ⟨j, hj, rfl⟩ := List.mem_iff_getElem.1 hx
  exact h j hj hj

set_option maxHeartbeats 1000000 in
theorem IndexFunc_any {base : Nat} {L : Value} {r : List SlotV} {w : World} (h : RowIs w base L r) :
    Calls Tryd.prog 47 #[L, .func (.func 48) #[] #[]] w fun e w' => e = .returned (.int .i64 (if ixR r < r.length then (ixR r : Int) else -1)) ∧ Below w.heap.size w w' := by
  have hr := h.2
  obtain ⟨ao, c, rfl, h1, h2, h3⟩ := h.open
  have HF := Lib.hid (show ∀ i (h : i < r.length), ∃ ao n c, r[i].1 = .slice ao n c from fun i h => by
    obtain ⟨ao, c, e, _⟩ := (hr _ (List.getElem_mem h)).form
    exact ⟨ao, _, c, e⟩)
  have HC := Lib.hid h3
  have EN := enters_free1
  unfold maxLen at h2
  generalize hres : (if ixR r < r.length then (ixR r : Int) else -1) = res
  have HRES := Lib.hid hres
  clear h hr h3 hres
  go_enter Tryd.func47, Tryd.ntmps47
  go_wp2_with fail
  go_loopw [8] (fun i wr => ∃ k : Nat, k ≤ r.length ∧ i = .int .i64 k ∧ Hid (fullTo r k) ∧ Below w.heap.size w wr) (fun i _ => r.length - (intOf i).toNat)
  case atStart => exact ⟨0, Nat.zero_le _, rfl, Lib.hid fun j _ hj => absurd hj (by omega), Below.refl _ _⟩
  case round =>
    obtain ⟨k, hk, rfl, hn, hb⟩ := hrel
    by_cases hlt : k < r.length
    · obtain ⟨b, off, rfl, hbl, c0, c1⟩ := HC.out k hlt
      obtain ⟨ab, nb, cb, e1⟩ := HF.out k hlt
      replace c0 := (hb.cell (p := ⟨b, off + k * 2, none⟩) hbl).trans c0
      replace c1 := (hb.cell (p := ⟨b, off + k * 2 + 1, none⟩) hbl).trans c1
      have i0 : (0 : Int) ≤ (k : Int) := by omega
      have i1 : (k : Int) < (r.length : Int) := by omega
      rw [e1] at c0
      have F1 := Lib.hid (fun f => free1_any (.slice ab nb cb) f wr ⟨_, _, _, rfl⟩)
      have e2 : r[k].2.isSome = !r[k].2.isNone := by cases r[k].2 <;> rfl
      rw [e2] at c1
      cases hf : r[k].2.isNone with
      | true =>
        have HX := Lib.hid (show res = (k : Int) by rw [← HRES.out, ixR_at hlt hn.out hf, if_pos hlt])
        rw [hf] at c1
        clear hn hf e1 e2
        go_wp2_with fail
        refine (F1.out _).mono ?_
        rintro e w1 ⟨rfl, b1⟩
        go_wp2_with fail
        go_ret
        exact ⟨by rw [HX.out]; rfl, hb.trans (b1.mono hb.size)⟩
      | false =>
        have HX := Lib.hid (show fullTo r (k + 1) from fun j hj hjk => by
          by_cases e : j = k
          · subst e; exact hf
          · exact hn.out j hj (by omega))
        rw [hf] at c1
        clear hn hf e1 e2
        go_wp2_with fail
        refine (F1.out _).mono ?_
        rintro e w1 ⟨rfl, b1⟩
        have B1 := hb.trans (b1.mono hb.size)
        go_wp2_with fail
        go_roundw
        case rel => exact ⟨k + 1, hlt, by go_num, HX, B1⟩
        case measure => simp [intOf]; omega
    · obtain rfl : k = r.length := by omega
      have HX := Lib.hid (show res = -1 by rw [← HRES.out, ixR_none hn.out, if_neg (Nat.lt_irrefl _)])
      clear hn
      go_wp2_with fail
      go_ret
      exact ⟨by rw [HX.out]; rfl, hb⟩

theorem PageIs.row {w : World} {base p : Nat} {kind id : Int} {r : List SlotV} (h : PageIs w base p kind id r) :
    ∃ ao c, w.heap[p]? = some (.cells #[.bool true, .int .i64 kind, .int .i64 id, .slice ao r.length c] 61 (0, 0)) ∧ RowIs w base (.slice ao r.length c) r := by
  obtain ⟨_, L, h1, h2⟩ := h
  obtain ⟨ao, c, rfl, _⟩ := h2.open
  exact ⟨ao, c, h1, h2⟩

/-- free, of a page -/
theorem free_any {w : World} {base p : Nat} {kind id : Int} {r : List SlotV} (h : PageIs w base p kind id r) :
    Calls Tryd.prog 26 #[.pointer (some ⟨p, 0, none⟩)] w fun e w' => e = .returned (.int .i64 (ixR r : Int)) ∧ Below w.heap.size w w' := by
  obtain ⟨ao, c, h1, h2⟩ := h.row
  have G := Lib.hid (gone_page h1)
  have IX := Lib.hid (IndexFunc_any h2)
  have c3 : w.cell? ⟨p, 3, none⟩ = some (.slice ao r.length c) := by simp [World.cell?, h1]
  have hp := lt_of_block h1
  have hix := ixR_le r
  by_cases hlt : ixR r < r.length
  · rw [if_pos hlt] at IX
    clear h h1 h2
    generalize ixR r = x at *
    have t1 : decide ((0 : Int) ≤ (x : Int)) = true := by simp
    go_enter Tryd.func26, Tryd.ntmps26
    go_wp2_with fail
    refine G.out.mono ?_
    rintro e w1 ⟨rfl, rfl⟩
    go_wp2_with fail
    refine IX.out.mono ?_
    rintro e w2 ⟨rfl, b2⟩
    go_wp2_with fail
    go_ret
    exact ⟨rfl, b2⟩
  · rw [if_neg hlt] at IX
    have he : ixR r = r.length := by omega
    rw [he]
    clear h h1 h2
    go_enter Tryd.func26, Tryd.ntmps26
    go_wp2_with fail
    refine G.out.mono ?_
    rintro e w1 ⟨rfl, rfl⟩
    go_wp2_with fail
    refine IX.out.mono ?_
    rintro e w2 ⟨rfl, b2⟩
    replace c3 := (b2.cell (p := ⟨p, 3, none⟩) hp).trans c3
    go_wp2_with fail
    go_ret
    exact ⟨rfl, b2⟩
end Go.Proofs.YtdeibgljibcnlaaDoor
