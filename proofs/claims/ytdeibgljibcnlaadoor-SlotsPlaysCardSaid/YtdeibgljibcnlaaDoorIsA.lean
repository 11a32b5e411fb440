/- pergolaalike.Is: is an error just that number, and a Fault with that op and id? -/
import Derived.Test.YtdeibgljibcnlaaDoorAs
namespace Go.Proofs.YtdeibgljibcnlaaDoor
open Go.RowKit

theorem toList_inj {a b : ByteArray} (h : a.toList = b.toList) : a = b := by
  rw [ByteArray.toList_eq, ByteArray.toList_eq] at h
  cases a; cases b
  simpa using h

/-- what pergolaalike.Is answers -/
def Er.isB (E : Er) (code : Int) (op : ByteArray) (id : Int) : Bool :=
  (E.code == code) && (code == 0 || match E with
    | .fault o i _ => decide (o = op) && (i == id)
    | _ => false)

theorem IsA_any (E : Er) (code : Int) (op : ByteArray) (id : Int) (v : Value) (w : World) (hv : E.Is w v) (hg : ErrT w) :
    Calls Tryd.prog 12 #[v, .int .i64 code, .string op, .int .i64 id] w fun e w' => e = .returned (.bool (E.isB code op id)) ∧ Below w.heap.size w w' := by
  by_cases hc : E.code = code
  · by_cases h0 : code = 0
    · have hfin : E.isB code op id = true := by simp [Er.isB, hc, h0]
      have HF := Lib.hid hfin
      clear hfin
      subst h0
      generalize hx : E.code = x at *
      have HX := Lib.hid hx
      clear hx
      subst hc
      go_enter Tryd.func12, Tryd.ntmps12
      go_wp2_with (go_at_call 33; refine (Code_er _ _ _ hv).mono ?_; rw [HX.out]; rintro e w' ⟨rfl, rfl⟩)
      go_ret
      exact ⟨by rw [HF.out]; rfl, Below.refl _ _⟩
    · have b0 : (code == 0) = false := by simpa using h0
      have b1 : (code != code) = false := by simp
      have HC := Lib.hid hc
      cases E with
      | none => exact absurd hc.symm h0
      | num j =>
        have hfin : (Er.num j).isB code op id = false := by simp [Er.isB, b0]
        have HF := Lib.hid hfin
        clear hfin hc h0
        obtain rfl : v = .iface 58 (.int .i64 j) := hv
        have hv : Er.Is w (Er.num j) (.iface 58 (.int .i64 j)) := rfl
        have hg1 : ErrT (w.alloc (.cells #[.pointer none] 69)) := hg.below ((Below.refl _ _).alloc (Nat.le_refl _) _) hg.lt
        go_enter Tryd.func12, Tryd.ntmps12
        go_wp2_with (first
          | (go_at_call 33; refine (Code_er _ _ _ hv).mono ?_; rw [HC.out]; rintro e w' ⟨rfl, rfl⟩)
          | (go_at_call 34; refine (as_num j _ _ hg1).mono ?_; rintro e w2 ⟨rfl, hb2⟩))
        go_ret
        exact ⟨by rw [HF.out]; rfl, ((Below.refl _ _).alloc (Nat.le_refl _) _).trans (hb2.mono (by simp))⟩
      | fault o i inner =>
        have hv' := hv
        obtain ⟨b, u, rfl, hlt, q1, q2, q3, q4⟩ := hv'
        have hg1 : ErrT (w.alloc (.cells #[.pointer none] 69)) := hg.below ((Below.refl _ _).alloc (Nat.le_refl _) _) hg.lt
        by_cases ho : o = op
        · by_cases hi : i = id
          · have hfin : (Er.fault o i inner).isB code op id = true := by subst ho hi; simp [Er.isB, hc]
            have HF := Lib.hid hfin
            clear hfin hc h0
            subst ho hi
            go_enter Tryd.func12, Tryd.ntmps12
            go_wp2_with (first
              | (go_at_call 33; refine (Code_er _ _ _ hv).mono ?_; rw [HC.out]; rintro e w' ⟨rfl, rfl⟩)
              | (go_at_call 34; refine (As_fault b _ (.pointer none) _ hg1 (by simp) (by simp)).mono ?_; rintro e w2 ⟨rfl, hc2, hb2⟩; have r1 := (hb2.cell (p := ⟨b, 0, none⟩) hlt).trans ((World.cell?_alloc_lt _ _ ⟨b, 0, none⟩ hlt).trans q1); have r2 := (hb2.cell (p := ⟨b, 1, none⟩) hlt).trans ((World.cell?_alloc_lt _ _ ⟨b, 1, none⟩ hlt).trans q2)))
            go_ret
            exact ⟨by rw [HF.out]; rfl, ((Below.refl _ _).alloc (Nat.le_refl _) _).trans hb2⟩
          · have hfin : (Er.fault o i inner).isB code op id = false := by simp [Er.isB, b0, hi]
            have HF := Lib.hid hfin
            have bi : (i == id) = false := by simpa using hi
            clear hfin hc h0 hi
            subst ho
            go_enter Tryd.func12, Tryd.ntmps12
            go_wp2_with (first
              | (go_at_call 33; refine (Code_er _ _ _ hv).mono ?_; rw [HC.out]; rintro e w' ⟨rfl, rfl⟩)
              | (go_at_call 34; refine (As_fault b _ (.pointer none) _ hg1 (by simp) (by simp)).mono ?_; rintro e w2 ⟨rfl, hc2, hb2⟩; have r1 := (hb2.cell (p := ⟨b, 0, none⟩) hlt).trans ((World.cell?_alloc_lt _ _ ⟨b, 0, none⟩ hlt).trans q1); have r2 := (hb2.cell (p := ⟨b, 1, none⟩) hlt).trans ((World.cell?_alloc_lt _ _ ⟨b, 1, none⟩ hlt).trans q2)))
            go_ret
            exact ⟨by rw [HF.out]; rfl, ((Below.refl _ _).alloc (Nat.le_refl _) _).trans hb2⟩
        · have hfin : (Er.fault o i inner).isB code op id = false := by simp [Er.isB, b0, ho]
          have HF := Lib.hid hfin
          have bo : (o.toList == op.toList) = false := by simpa using fun h => ho (toList_inj h)
          clear hfin hc h0 ho
          go_enter Tryd.func12, Tryd.ntmps12
          go_wp2_with (first
            | (go_at_call 33; refine (Code_er _ _ _ hv).mono ?_; rw [HC.out]; rintro e w' ⟨rfl, rfl⟩)
            | (go_at_call 34; refine (As_fault b _ (.pointer none) _ hg1 (by simp) (by simp)).mono ?_; rintro e w2 ⟨rfl, hc2, hb2⟩; have r1 := (hb2.cell (p := ⟨b, 0, none⟩) hlt).trans ((World.cell?_alloc_lt _ _ ⟨b, 0, none⟩ hlt).trans q1); have r2 := (hb2.cell (p := ⟨b, 1, none⟩) hlt).trans ((World.cell?_alloc_lt _ _ ⟨b, 1, none⟩ hlt).trans q2)))
          go_ret
          exact ⟨by rw [HF.out]; rfl, ((Below.refl _ _).alloc (Nat.le_refl _) _).trans hb2⟩
  · have hfin : E.isB code op id = false := by simp [Er.isB, hc]
    have b1 : (E.code != code) = true := by simpa using hc
    have HF := Lib.hid hfin
    generalize hx : E.code = x at *
    have HX := Lib.hid hx
    clear hfin hc hx
    go_enter Tryd.func12, Tryd.ntmps12
    go_wp2_with (go_at_call 33; refine (Code_er _ _ _ hv).mono ?_; rw [HX.out]; rintro e w' ⟨rfl, rfl⟩)
    go_ret
    exact ⟨by rw [HF.out]; rfl, Below.refl _ _⟩
end Go.Proofs.YtdeibgljibcnlaaDoor
