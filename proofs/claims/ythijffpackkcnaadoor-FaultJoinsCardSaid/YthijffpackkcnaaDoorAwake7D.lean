/- pergolalaw7.awake answers true. -/
import Derived.Test.YthijffpackkcnaaDoorDownD
import Derived.Test.YthijffpackkcnaaDoorTextsD
namespace Go.Proofs.YthijffpackkcnaaDoor
open Go.RowKit

def strA : ByteArray := ⟨#[97]⟩
def strB : ByteArray := ⟨#[98]⟩
def en2 : En := .fault strB 2 (.num 8)
def en3 : En := .fault strA 1 en2

set_option maxHeartbeats 1000000 in
theorem awake7_any (w : World) : Calls Tryd.prog 5 #[] w fun e w' => e = .returned (.bool true) ∧ Below w.heap.size w w' := by
  have k1 := Lib.hid (show ∀ w, Calls Tryd.prog 6 #[.string strB, .int .i64 2, .iface 25 (.int .i64 8)] w (EnRet w en2) from fun w => New_en strB 2 (.num 8) _ w rfl)
  have k2 := Lib.hid (show ∀ w v, en2.Is w v → Calls Tryd.prog 6 #[.string strA, .int .i64 1, v] w (EnRet w en3) from fun w v hv => New_en strA 1 en2 _ w hv)
  have k3 := Lib.hid (show ∀ w, Calls Tryd.prog 6 #[.string strA, .int .i64 1, .nilIface] w (EnRet w .none) from fun w => New_en strA 1 .none _ w rfl)
  have k4 := Lib.hid (show ∀ w v, en3.Is w v → Calls Tryd.prog 9 #[v] w fun ev w' => ev = .returned (.int .i64 8) ∧ Below w.heap.size w w' from fun w v hv => Code_any en3 v w hv)
  have k5 := Lib.hid (show ∀ w v, en3.Is w v → Calls Tryd.prog 12 #[v] w (StrsRet w [strA, strB]) from fun w v hv => Chain_any en3 v w hv (by decide))
  have k6 := Lib.hid (show ∀ w v, en3.Is w v → Calls Tryd.prog 10 #[v] w fun ev w' => ev = .returned (.int .i64 2) ∧ w = w' from fun w v hv => Deep_any en3 v w hv (by decide))
  go_enter Tryd.func5, Tryd.ntmps5
  go_wp2_with fail
  refine (k1.out _).mono ?_
  rintro e w1 ⟨v1, rfl, e1, b1⟩
  go_wp2_with fail
  refine (k2.out _ _ e1).mono ?_
  rintro e w2 ⟨v2, rfl, e2, b2⟩
  have B2 := b1.trans (b2.mono b1.size)
  go_wp2_with fail
  refine (k4.out _ _ e2).mono ?_
  rintro e w3 ⟨rfl, b3⟩
  have e3 := En.Is.below b3 e2
  have B3 := B2.trans (b3.mono B2.size)
  go_wp2_with fail
  refine (k5.out _ _ e3).mono ?_
  rintro e w4 ⟨v4, rfl, o4, b4⟩
  have e4 := En.Is.below b4 e3
  have B4 := B3.trans (b4.mono B3.size)
  have h5 : Below w4.heap.size w4 (w4.alloc (.cells #[.string strA, .string strB] 9)) := (Below.refl _ _).alloc (Nat.le_refl _) _
  have s5 := (OwnS.str o4).below h5
  have r5 : Str (w4.alloc (.cells #[.string strA, .string strB] 9)) (.slice (some ⟨w4.heap.size, 0, none⟩) 2 2) [strA, strB] := rd_alloc w4 #[.string strA, .string strB] 9 (0, 0) 2 (by simp [maxLen])
  have e5 := En.Is.below h5 e4
  have B5 := B4.trans (h5.mono B4.size)
  have S5 := Lib.hid s5
  have R5 := Lib.hid r5
  clear s5 r5
  go_wp2_with fail
  refine (Texts_any _ _ _ _ _ S5.out R5.out).mono ?_
  rw [decide_eq_true (rfl : [strA, strB] = [strA, strB])]
  rintro e w6 ⟨rfl, n6, rfl⟩
  have e6 := En.Is.below (Below.drewN' (Below.refl _ _) n6) e5
  have B6 := Below.drewN' B5 n6
  go_wp2_with fail
  refine (k6.out _ _ e6).mono ?_
  rintro e w7 ⟨rfl, rfl⟩
  go_wp2_with fail
  refine (k3.out _).mono ?_
  rintro e w8 ⟨v8, rfl, e8, b8⟩
  obtain rfl : v8 = .nilIface := e8
  go_wp2_with fail
  go_ret
  exact ⟨rfl, B6.trans (b8.mono B6.size)⟩

end Go.Proofs.YthijffpackkcnaaDoor
