/- pergolalaw11.awake answers true; SlotsNothing. -/
import Derived.Test.YtdeibgljibcnlaaSlot6
import Derived.Test.YtdeibgljibcnlaaCodeA
import Derived.Test.YtdeibgljibcnlaaViewBase
import Derived.Lib.SlBytesConst
namespace Go.Proofs.Ytdeibgljibcnlaa
open Go.RowKit Go.ChangeShapes Go.WideShapes

set_option maxRecDepth 100000 in
theorem awake11_any (w : World) : Calls Try.prog 6 #[] w fun e w' => e = .returned (.bool true) ∧ Below w.heap.size w w' := by
  have K1 := Lib.hid (NewP_ok w.heap.size 1 7 w (by omega) (by omega) (Nat.le_refl _))
  have K2 := Lib.hid (show ∀ p w1 v, PageIs w1 w.heap.size p 1 7 [] → Byt w1 v [97] → Calls Try.prog 10 #[.pointer (some ⟨p, 0, none⟩), v] w1 (InsRet w.heap.size p 1 7 w1 [97] []) from fun p w1 v h hv => Insert_any ⟨by decide, by decide, [], rfl, h⟩ v [97] hv (by decide))
  have h1 : putE [] (ixS []) [97] = 0 := by decide
  have h2 : ixS [] = 0 := rfl
  have h3 : putS [] 0 [97] = [some [97]] := rfl
  unfold InsRet at K2
  rw [h1, h2, h3] at K2
  simp only [if_true] at K2
  have K3 := Lib.hid (show ∀ p w1, PageS w1 w.heap.size p 1 7 [some [97]] → Calls Try.prog 15 #[.pointer (some ⟨p, 0, none⟩)] w1 fun e w' => e = .returned (.int .i64 491) ∧ Below w1.heap.size w1 w' from fun p w1 h => Free_any h)
  have kc := fun (w : World) (C : Array Value) (n c : Nat) => Lib.run_convert_bytes_const (P := Try.prog) w 31 5 C n c Try.underlying31 Try.underlying5
  go_enter Try.func6, Try.ntmps6
  go_wp2_with fail
  refine K1.out.mono ?_
  rintro e w1 ⟨p, rfl, p1, b1⟩
  have hA : Below w1.heap.size w1 (w1.alloc (.cells #[.int .u8 97] 5 (1, 2))) := (Below.refl _ _).alloc (Nat.le_refl _) _
  have R1 := Lib.hid (show Byt (w1.alloc (.cells #[.int .u8 97] 5 (1, 2))) (.slice (some ⟨w1.heap.size, 0, none⟩) 1 1) [97] from byt_lit w1 [97] (1, 2) (by simp [maxLen]))
  have P1 := Lib.hid (p1.below hA)
  have B1 := b1.trans (hA.mono b1.size)
  clear p1
  go_wp2_with fail
  refine (K2.out _ _ _ P1.out R1.out).mono ?_
  rintro e w2 ⟨u, rfl, hu, p2, f2⟩
  obtain rfl : u = .nilIface := hu
  have B2 := B1.trans f2.below
  have P2 := Lib.hid p2
  clear p2 f2
  go_wp2_with fail
  refine (K3.out _ _ P2.out).mono ?_
  rintro e w3 ⟨rfl, b3⟩
  have I3 := Lib.hid (ID_any (P2.out.below b3))
  have B3 := B2.trans (b3.mono B2.size)
  go_wp2_with fail
  refine I3.out.mono ?_
  rintro e w4 ⟨rfl, rfl⟩
  go_wp2_with fail
  go_ret
  exact ⟨rfl, B3⟩

/-! ### of nothing -/
theorem Get_nil (i : Int) (w : World) : Calls Try.prog 13 #[.pointer none, .int .i64 i] w fun e w' => ∃ u, e = .returned (.tuple #[.slice none 0 0, u]) ∧ (Er.fault strPage i (.num 15)).Is w' u ∧ Below w.heap.size w w' := by
  have H := Lib.hid (has_nil i w)
  have BL := Lib.hid (blame_any i 15 w)
  go_enter Try.func13, Try.ntmps13
  go_wp2_with fail
  refine H.out.mono ?_
  rintro e w1 ⟨rfl, rfl⟩
  go_wp2_with fail
  refine BL.out.mono ?_
  rintro e w2 ⟨u, rfl, hu, b2⟩
  go_wp2_with fail
  go_ret2
  exact ⟨_, rfl, hu, b2⟩
theorem Delete_nil (i : Int) (w : World) : Calls Try.prog 12 #[.pointer none, .int .i64 i] w (ErRet w (.fault strPage i (.num 15))) := by
  have H := Lib.hid (has_nil i w)
  have BL := Lib.hid (blame_any i 15 w)
  go_enter Try.func12, Try.ntmps12
  go_wp2_with fail
  refine H.out.mono ?_
  rintro e w1 ⟨rfl, rfl⟩
  go_wp2_with fail
  refine BL.out.mono ?_
  rintro e w2 ⟨u, rfl, hu, b2⟩
  go_wp2_with fail
  go_ret
  exact ⟨_, rfl, hu, b2⟩
theorem put_nil (i : Int) (ao : Option Addr) (n c : Nat) (w : World) : Calls Try.prog 23 #[.pointer none, .int .i64 i, .slice ao n c] w (ErRet w (.fault strPage i (.num (if 400 < n then 13 else 8)))) := by
  have G := Lib.hid (gone_nil w)
  by_cases h : 400 < n
  · have t1 : decide ((400 : Int) < (n : Int)) = true := by simp; omega
    have BL := Lib.hid (blame_any i 13 w)
    rw [if_pos h]
    go_enter Try.func23, Try.ntmps23
    go_wp2_with fail
    refine BL.out.mono ?_
    rintro e w2 ⟨u, rfl, hu, b2⟩
    go_wp2_with fail
    go_ret
    exact ⟨_, rfl, hu, b2⟩
  · have t1 : decide ((400 : Int) < (n : Int)) = false := by simp; omega
    have BL := Lib.hid (blame_any i 8 w)
    rw [if_neg h]
    go_enter Try.func23, Try.ntmps23
    go_wp2_with fail
    refine G.out.mono ?_
    rintro e w1 ⟨rfl, rfl⟩
    go_wp2_with fail
    refine BL.out.mono ?_
    rintro e w2 ⟨u, rfl, hu, b2⟩
    go_wp2_with fail
    go_ret
    exact ⟨_, rfl, hu, b2⟩
theorem Insert_nil (ao : Option Addr) (n c : Nat) (w : World) : Calls Try.prog 10 #[.pointer none, .slice ao n c] w fun e w' => ∃ u, e = .returned (.tuple #[.int .i64 0, u]) ∧ (Er.fault strPage 0 (.num (if 400 < n then 13 else 8))).Is w' u ∧ Below w.heap.size w w' := by
  have F := Lib.hid (free_nil w)
  have P := Lib.hid (put_nil 0 ao n c w)
  generalize (if 400 < n then (13 : Int) else 8) = k at *
  go_enter Try.func10, Try.ntmps10
  go_wp2_with fail
  refine F.out.mono ?_
  rintro e w1 ⟨rfl, rfl⟩
  go_wp2_with fail
  refine P.out.mono ?_
  rintro e w2 ⟨u, rfl, hu, b2⟩
  have hu' := hu
  obtain ⟨bb, uu, rfl, _⟩ := hu'
  have U := Lib.hid hu
  clear hu
  go_wp2_with fail
  go_ret2
  exact ⟨_, rfl, U.out, b2⟩

set_option maxRecDepth 100000 in
theorem slotsNothing_any (n : Int) (w : World) : Calls Try.prog 5 #[.int .i64 n] w fun e w' => e = .returned (.bool true) ∧ Below w.heap.size w w' := by
  have G := Lib.hid (Get_nil n w)
  have I1 := Lib.hid (fun w => Insert_nil none 0 0 w)
  have I2 := Lib.hid (fun a w => Insert_nil a 500 500 w)
  have D := Lib.hid (fun w => Delete_nil n w)
  rw [if_neg (by omega)] at I1
  simp only [show 400 < 500 from by omega, if_true] at I2
  have CO := Lib.hid (show ∀ (i k : Int) (v : Value) (w : World), 1 ≤ k ∧ k ≤ 15 → (Er.fault strPage i (.num k)).Is w v → Calls Try.prog 16 #[v] w fun e w' => e = .returned (.int .i64 k) ∧ w = w' from fun i k v w hk h => by
    have := Code_er _ v w h
    rwa [show (Er.fault strPage i (.num k)).code = k by simp [Er.code, Er.root, hk.1, hk.2]] at this)
  obtain ⟨i8, hi8, hz, hsize, hby⟩ := info_parts info_u8
  have hmk : ∀ w : World, (Instr.makeSlice 31 (.int .i64 500) (.int .i64 500)).run Try.prog w = .ok (.slice (some ⟨w.heap.size, 0, none⟩) 500 500) (w.alloc (.cells (madeCells #[.int .u8 0] 500) 5)) := fun w => by
    have h := run_make (P := Try.prog) w 31 5 i8 (.int .u8 0) Try.underlying31 hi8 hz .i64 .i64 500 500 (by omega) (by omega) (by rw [hby]; omega) (by omega)
    rw [hsize] at h
    simpa [Value.cells] using h
  clear hi8 hz hsize hby
  go_enter Try.func5, Try.ntmps5
  go_wp2_with fail
  refine G.out.mono ?_
  rintro e w1 ⟨u1, rfl, h1, b1⟩
  go_wp2_with fail
  refine (I1.out _).mono ?_
  rintro e w2 ⟨u2, rfl, h2, b2⟩
  replace h1 := Er.Is.below b2 h1
  have B2 := b1.trans (b2.mono b1.size)
  go_wp2_with fail
  refine (I2.out _ _).mono ?_
  rintro e w3 ⟨u3, rfl, h3, b3⟩
  have hA : Below w2.heap.size w2 (w2.alloc (.cells (madeCells #[.int .u8 0] 500) 5)) := (Below.refl _ _).alloc (Nat.le_refl _) _
  have b3' : Below w2.heap.size w2 w3 := hA.trans (b3.mono hA.size)
  have H1 := Lib.hid (Er.Is.below b3' h1)
  have H2 := Lib.hid (Er.Is.below b3' h2)
  have H3 := Lib.hid h3
  have B3 := B2.trans (b3'.mono B2.size)
  clear h1 h2 h3 b3'
  go_wp2_with fail
  refine (CO.out _ _ _ _ (by omega) H1.out).mono ?_
  rintro e w' ⟨rfl, rfl⟩
  go_wp2_with fail
  refine (CO.out _ _ _ _ (by omega) H2.out).mono ?_
  rintro e w' ⟨rfl, rfl⟩
  go_wp2_with fail
  refine (CO.out _ _ _ _ (by omega) H3.out).mono ?_
  rintro e w' ⟨rfl, rfl⟩
  go_wp2_with fail
  refine (D.out _).mono ?_
  rintro e w4 ⟨u4, rfl, h4, b4⟩
  have B4 := B3.trans (b4.mono B3.size)
  go_wp2_with fail
  refine (CO.out _ _ _ _ (by omega) h4).mono ?_
  rintro e w' ⟨rfl, rfl⟩
  go_wp2_with fail
  refine (Kind_nil _).mono ?_
  rintro e w' ⟨rfl, rfl⟩
  go_wp2_with fail
  refine (Free_nil _).mono ?_
  rintro e w' ⟨rfl, rfl⟩
  go_wp2_with fail
  refine (Slots_nil _).mono ?_
  rintro e w' ⟨rfl, rfl⟩
  go_wp2_with fail
  refine (Bytes_nil _).mono ?_
  rintro e w' ⟨rfl, rfl⟩
  go_wp2_with fail
  refine (awake11_any _).mono ?_
  rintro e w5 ⟨rfl, b5⟩
  go_wp2_with fail
  go_ret
  exact ⟨rfl, B4.trans (b5.mono B4.size)⟩

set_option maxRecDepth 100000 in
theorem slotsNothing_calls {H : Type} {enc : TypeId × Value → H} {W : World} {base : Nat} {v0 : Value} {d0 : DataW H} {p0 : List MemPlace}
    (o0 : Value.okWide Try.prog W .any base 3 v0) (h0 : DataW.Trod enc Try.prog W 0 (fun _ => true) true 3 v0 d0 p0) :
    Calls Try.prog 5 #[v0] W fun e w' => e = .returned (.bool true) ∧ Below W.heap.size W w' := by
  obtain ⟨n, rfl, rfl, rfl, hw⟩ := open_int Try.underlying3 o0 h0
  exact slotsNothing_any n W
end Go.Proofs.Ytdeibgljibcnlaa
