/- Insert, Free, Kind, ID, has, Get, Set. -/
import Derived.Test.YtdeibgljibcnlaaDoorSlot5
import Derived.BigQuiet
import Derived.Deep.QuietTactic
namespace Go.Proofs.YtdeibgljibcnlaaDoor
open Go.RowKit

/-- What Insert hands back. -/
def InsRet (base p : Nat) (kind id : Int) (w : World) (b : List UInt8) (st : List SlotL) (e : Ending) (w' : World) : Prop :=
  ∃ u, e = .returned (.tuple #[.int .i64 (if putE st (ixS st) b = 0 then (ixS st : Int) else 0), u]) ∧ (erOf (ixS st : Int) (putE st (ixS st) b)).Is w' u ∧ PageS w' base p kind id (if putE st (ixS st) b = 0 then putS st (ixS st) b else st) ∧ Frm base w w'

theorem putE_zero (st : List SlotL) (i : Nat) (b : List UInt8) : putE st i b = 0 ∨ putE st i b = 8 ∨ putE st i b = 13 := by
  unfold putE
  split
  · simp
  · split
    · simp
    · split <;> simp

set_option maxHeartbeats 1000000 in
theorem Insert_any {w : World} {base p : Nat} {kind id : Int} {st : List SlotL} (h : PageS w base p kind id st) (v : Value) (b : List UInt8) (hb : Byt w v b) (hlen : b.length ≤ 1000000) :
    Calls Tryd.prog 7 #[.pointer (some ⟨p, 0, none⟩), v] w (InsRet base p kind id w b st) := by
  have h' := h
  obtain ⟨_, _, r, hr, hp⟩ := h'
  have F := Lib.hid (free_any hp)
  rw [ixR_snds, hr] at F
  have hbs := hp.size.1
  have P := Lib.hid (fun w' (hh : Below w.heap.size w w') => put_any (h.below hh) (ixS st) (ixS_le st) v b (hb.below hh) hlen)
  have FB := Lib.hid (show ∀ w', Below w.heap.size w w' → Frm base w w' from fun w' h => .of_below h hbs)
  have hix := ixS_le st
  have hst := h.2.1
  clear h hr hp hb
  unfold InsRet
  rcases putE_zero st (ixS st) b with he | he | he
  · rw [he] at P ⊢
    generalize ixS st = x at *
    generalize putS st x b = st' at *
    simp only [if_pos]
    go_enter Tryd.func7, Tryd.ntmps7
    go_wp2_with fail
    refine F.out.mono ?_
    rintro e w1 ⟨rfl, b1⟩
    go_wp2_with fail
    refine (P.out _ b1).mono ?_
    rintro e w2 ⟨u, rfl, hu, p2, f2⟩
    obtain rfl : u = .nilIface := hu
    have F2 := Lib.hid ((FB.out _ b1).trans f2)
    have P2 := Lib.hid p2
    clear p2 f2
    go_wp2_with fail
    go_ret2
    exact ⟨_, rfl, rfl, P2.out, F2.out⟩
  all_goals
    rw [he] at P ⊢
    generalize ixS st = x at *
    generalize putS st x b = st' at *
    have z8 : ¬ (8 : Int) = 0 := by omega
    have z13 : ¬ (13 : Int) = 0 := by omega
    simp only [z8, z13, if_false]
    go_enter Tryd.func7, Tryd.ntmps7
    go_wp2_with fail
    refine F.out.mono ?_
    rintro e w1 ⟨rfl, b1⟩
    go_wp2_with fail
    refine (P.out _ b1).mono ?_
    rintro e w2 ⟨u, rfl, hu, p2, f2⟩
    have hu' := hu
    obtain ⟨bb, uu, rfl, _⟩ := hu'
    have F2 := Lib.hid ((FB.out _ b1).trans f2)
    have P2 := Lib.hid p2
    have U2 := Lib.hid hu
    clear p2 f2 hu
    go_wp2_with fail
    go_ret2
    exact ⟨_, rfl, U2.out, P2.out, F2.out⟩

theorem Free_any {w : World} {base p : Nat} {kind id : Int} {st : List SlotL} (h : PageS w base p kind id st) :
    Calls Tryd.prog 23 #[.pointer (some ⟨p, 0, none⟩)] w fun e w' => e = .returned (.int .i64 (512 - (sizeS st : Int))) ∧ Below w.heap.size w w' := by
  obtain ⟨hs, _, r, rfl, hp⟩ := h
  obtain ⟨ao, c, h1, h2⟩ := hp.row
  have G := Lib.hid (gone_page h1)
  have US := Lib.hid (used_any h2 (by rw [sizeR_snds]; omega))
  rw [sizeR_snds] at US
  have c3 : w.cell? ⟨p, 3, none⟩ = some (.slice ao r.length c) := by simp [World.cell?, h1]
  generalize sizeS (snds r) = n at *
  clear hp h1 h2
  go_enter Tryd.func23, Tryd.ntmps23
  go_wp2_with fail
  refine G.out.mono ?_
  rintro e w1 ⟨rfl, rfl⟩
  go_wp2_with fail
  refine US.out.mono ?_
  rintro e w2 ⟨rfl, b2⟩
  go_wp2_with fail
  go_ret
  exact ⟨rfl, b2⟩
theorem Free_nil (w : World) : Calls Tryd.prog 23 #[.pointer none] w fun e w' => e = .returned (.int .i64 0) ∧ w = w' := by
  have G := Lib.hid (gone_nil w)
  go_enter Tryd.func23, Tryd.ntmps23
  go_wp2_with fail
  refine G.out.mono ?_
  rintro e w1 ⟨rfl, rfl⟩
  go_wp2_with fail
  go_ret
  exact ⟨rfl, rfl⟩
theorem Kind_nil (w : World) : Calls Tryd.prog 40 #[.pointer none] w fun e w' => e = .returned (.int .i64 0) ∧ w = w' := by
  have G := Lib.hid (gone_nil w)
  go_enter Tryd.func40, Tryd.ntmps40
  go_wp2_with fail
  refine G.out.mono ?_
  rintro e w1 ⟨rfl, rfl⟩
  go_wp2_with fail
  go_ret
  exact ⟨rfl, rfl⟩
theorem Slots_nil (w : World) : Calls Tryd.prog 42 #[.pointer none] w fun e w' => e = .returned (.slice none 0 0) ∧ w = w' := by
  have G := Lib.hid (gone_nil w)
  go_enter Tryd.func42, Tryd.ntmps42
  go_wp2_with fail
  refine G.out.mono ?_
  rintro e w1 ⟨rfl, rfl⟩
  go_wp2_with fail
  go_ret
  exact ⟨rfl, rfl⟩
theorem Bytes_nil (w : World) : Calls Tryd.prog 9 #[.pointer none] w fun e w' => e = .returned (.slice none 0 0) ∧ w = w' := by
  have G := Lib.hid (gone_nil w)
  go_enter Tryd.func9, Tryd.ntmps9
  go_wp2_with fail
  refine G.out.mono ?_
  rintro e w1 ⟨rfl, rfl⟩
  go_wp2_with fail
  go_ret
  exact ⟨rfl, rfl⟩
theorem free_nil (w : World) : Calls Tryd.prog 26 #[.pointer none] w fun e w' => e = .returned (.int .i64 0) ∧ w = w' := by
  have G := Lib.hid (gone_nil w)
  go_enter Tryd.func26, Tryd.ntmps26
  go_wp2_with fail
  refine G.out.mono ?_
  rintro e w1 ⟨rfl, rfl⟩
  go_wp2_with fail
  go_ret
  exact ⟨rfl, rfl⟩
theorem ID_any {w : World} {base p : Nat} {kind id : Int} {st : List SlotL} (h : PageS w base p kind id st) :
    Calls Tryd.prog 24 #[.pointer (some ⟨p, 0, none⟩)] w fun e w' => e = .returned (.int .i64 id) ∧ w = w' := by
  obtain ⟨_, _, r, rfl, hp⟩ := h
  obtain ⟨ao, c, h1, h2⟩ := hp.row
  have G := Lib.hid (gone_page h1)
  have c2 : w.cell? ⟨p, 2, none⟩ = some (.int .i64 id) := by simp [World.cell?, h1]
  clear hp h1 h2
  go_enter Tryd.func24, Tryd.ntmps24
  go_wp2_with fail
  refine G.out.mono ?_
  rintro e w1 ⟨rfl, rfl⟩
  go_wp2_with fail
  go_ret
  exact ⟨rfl, rfl⟩
theorem has_nil (i : Int) (w : World) : Calls Tryd.prog 36 #[.pointer none, .int .i64 i] w fun e w' => e = .returned (.bool false) ∧ w = w' := by
  have G := Lib.hid (gone_nil w)
  go_enter Tryd.func36, Tryd.ntmps36
  go_wp2_with fail
  refine G.out.mono ?_
  rintro e w1 ⟨rfl, rfl⟩
  go_wp2_with fail
  go_ret
  exact ⟨rfl, rfl⟩
/-- does a row of slots have that one, and is it not free? -/
def hasS (st : List SlotL) (i : Int) : Bool := decide (0 ≤ i) && (st.getD i.toNat none).isSome
theorem has_any {w : World} {base p : Nat} {kind id : Int} {st : List SlotL} (h : PageS w base p kind id st) (i : Int) :
    Calls Tryd.prog 36 #[.pointer (some ⟨p, 0, none⟩), .int .i64 i] w fun e w' => e = .returned (.bool (hasS st i)) ∧ w = w' := by
  obtain ⟨_, hl, r, rfl, hp⟩ := h
  obtain ⟨ao, c, h1, h2⟩ := hp.row
  have G := Lib.hid (gone_page h1)
  have c3 : w.cell? ⟨p, 3, none⟩ = some (.slice ao r.length c) := by simp [World.cell?, h1]
  obtain ⟨ao', c', e1, q1, q2, q3⟩ := h2.open
  simp only [Value.slice.injEq, true_and] at e1
  obtain ⟨rfl, rfl⟩ := e1
  unfold maxLen at q2
  have hsl : (snds r).length = r.length := by simp [snds]
  clear hp h1 h2
  by_cases h0 : 0 ≤ i
  · by_cases hlt : i < (r.length : Int)
    · obtain ⟨k, rfl⟩ := Int.eq_ofNat_of_zero_le h0
      have hk : k < r.length := by omega
      obtain ⟨b, off, rfl, hbl, x0, x1⟩ := q3 k hk
      have HV := Lib.hid (show hasS (snds r) (k : Int) = r[k].2.isSome by
        unfold hasS
        rw [decide_eq_true h0, Bool.true_and, Int.toNat_natCast, List.getD_eq_getElem?_getD, List.getElem?_eq_getElem (by omega)]
        simp [snds])
      generalize r[k].2.isSome = f at *
      generalize hasS (snds r) (k : Int) = f' at *
      obtain rfl := HV.out
      have t1 : decide ((0 : Int) ≤ (k : Int)) = true := by simp
      have t2 : decide ((k : Int) < (r.length : Int)) = true := by simp; omega
      clear q3 h0
      go_enter Tryd.func36, Tryd.ntmps36
      go_wp2_with fail
      refine G.out.mono ?_
      rintro e w1 ⟨rfl, rfl⟩
      go_wp2_with fail
      go_ret
      exact ⟨rfl, rfl⟩
    · have HV := Lib.hid (show hasS (snds r) i = false by
        unfold hasS
        rw [List.getD_eq_getElem?_getD, List.getElem?_eq_none (by omega)]
        simp)
      generalize hasS (snds r) i = f' at *
      obtain rfl := HV.out
      have t1 : decide ((0 : Int) ≤ i) = true := decide_eq_true h0
      have t2 : decide (i < (r.length : Int)) = false := decide_eq_false hlt
      clear q3
      go_enter Tryd.func36, Tryd.ntmps36
      go_wp2_with fail
      refine G.out.mono ?_
      rintro e w1 ⟨rfl, rfl⟩
      go_wp2_with fail
      go_ret
      exact ⟨rfl, rfl⟩
  · have HV := Lib.hid (show hasS (snds r) i = false by unfold hasS; rw [decide_eq_false h0, Bool.false_and])
    generalize hasS (snds r) i = f' at *
    obtain rfl := HV.out
    have t1 : decide ((0 : Int) ≤ i) = false := decide_eq_false h0
    clear q3
    go_enter Tryd.func36, Tryd.ntmps36
    go_wp2_with fail
    refine G.out.mono ?_
    rintro e w1 ⟨rfl, rfl⟩
    go_wp2_with fail
    go_ret
    exact ⟨rfl, rfl⟩
end Go.Proofs.YtdeibgljibcnlaaDoor
