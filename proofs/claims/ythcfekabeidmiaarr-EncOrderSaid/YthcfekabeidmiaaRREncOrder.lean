/- EncOrder answers true, whatever it is given. -/
import Derived.Test.YthcfekabeidmiaaRRAwake8
import Derived.Test.YthcfekabeidmiaaRRView
namespace Go.Proofs.YthcfekabeidmiaaRR
open Go.RowKit Go.ChangeShapes Go.WideShapes

theorem unsg_zig (n : Int) (hn : -9223372036854775808 ≤ n ∧ n ≤ 9223372036854775807) : unsg (vint (zig n)) = (n, (vint (zig n)).length, true) := by
  have h := unv_vint (zig n) [] (zig_lt n hn)
  rw [List.append_nil] at h
  have hp := vint_pos (zig n)
  unfold unsg
  rw [h]
  simp only
  rw [if_neg (by omega), zag_zig]
theorem zig_inj {n m : Int} (h : zig n = zig m) : n = m := by rw [← zag_zig n, h, zag_zig]

set_option maxRecDepth 100000 in
theorem order_out (n m : Int) (w : World) (h : n < 0 ∨ m < n) :
    Calls Try.prog 4 #[.int .i64 n, .int .i64 m] w fun e w' => e = .returned (.bool true) ∧ Below w.heap.size w w' := by
  by_cases h0 : n < 0
  · have t1 := decide_eq_true h0
    clear h
    go_enter Try.func4, Try.ntmps4
    go_wp2_with fail
    refine (awake_any _).mono ?_
    rintro e w' ⟨rfl, b1⟩
    go_wp2_with fail
    go_ret
    exact ⟨rfl, b1⟩
  · have t1 := decide_eq_false h0
    have t2 := decide_eq_true (show m < n by omega)
    clear h
    go_enter Try.func4, Try.ntmps4
    go_wp2_with fail
    refine (awake_any _).mono ?_
    rintro e w' ⟨rfl, b1⟩
    go_wp2_with fail
    go_ret
    exact ⟨rfl, b1⟩

set_option maxRecDepth 100000 in
set_option maxHeartbeats 1000000 in
theorem order_in (n m : Int) (w : World) (hn : 0 ≤ n) (hm : n ≤ m) (hm2 : m ≤ 9223372036854775807) :
    Calls Try.prog 4 #[.int .i64 n, .int .i64 m] w fun e w' => e = .returned (.bool true) ∧ Below w.heap.size w w' := by
  have t1 : decide (n < 0) = false := by simp; omega
  have t2 : decide (m < n) = false := by simp; omega
  have hn2 : n ≤ 9223372036854775807 := by omega
  have S1 := Lib.hid (fun w => Signed_any n (by omega) w)
  have S2 := Lib.hid (fun w => Signed_any m (by omega) w)
  have S3 := Lib.hid (fun w => Signed_any (-n) (by omega) w)
  have U := Lib.hid (unsg_zig (-n) (by omega))
  have L1 : (vint (zig n)).length ≤ (vint (zig m)).length := vint_mono _ _ (by unfold zig; split <;> split <;> omega)
  have L2 : (vint (zig (-n))).length ≤ (vint (zig n)).length := vint_mono _ _ (by unfold zig; split <;> split <;> omega)
  have t3 : decide (((vint (zig n)).length : Int) ≤ ((vint (zig m)).length : Int)) = true := by simp; omega
  have t4 : decide (((vint (zig (-n))).length : Int) ≤ ((vint (zig n)).length : Int)) = true := by simp; omega
  have E : decide (vint (zig n) = vint (zig m)) = (n == m) := by
    by_cases h : n = m
    · subst h; simp
    · have : ¬ vint (zig n) = vint (zig m) := fun he => h (zig_inj (vint_inj (zig_lt n (by omega)) (zig_lt m (by omega)) he))
      simp [h, this]
  have HE := Lib.hid E
  have M1 := vint_len64 _ (zig_lt n (by omega))
  have M2 := vint_len64 _ (zig_lt m (by omega))
  have M3 := vint_len64 _ (zig_lt (-n) (by omega))
  clear E
  generalize vint (zig n) = a at *
  generalize vint (zig m) = b at *
  generalize vint (zig (-n)) = c at *
  have t5 : decide (a.length ≤ b.length) = true := by simp; omega
  have t6 : decide (c.length ≤ a.length) = true := by simp; omega
  obtain ⟨q, hq⟩ : ∃ q, (n == m) = q := ⟨_, rfl⟩
  rw [hq] at HE
  have t7 : (q == q) = true := by simp
  have t8 : (-n == -n) = true := by simp
  have t9 : ((c.length : Int) == (c.length : Int)) = true := by simp
  clear L1 L2
  go_enter Try.func4, Try.ntmps4
  go_wp2_with fail
  refine (S1.out _).mono ?_
  rintro e w1 ⟨u1, rfl, o1, b1⟩
  go_wp2_with fail
  refine (S2.out _).mono ?_
  rintro e w2 ⟨u2, rfl, o2, b2⟩
  have Y1 := o1.byt.below b2
  have B2 := b1.trans (b2.mono b1.size)
  go_wp2_with fail
  refine (S3.out _).mono ?_
  rintro e w3 ⟨u3, rfl, o3, b3⟩
  have Y2 := Lib.hid (Y1.below b3)
  have Y3 := Lib.hid (o2.byt.below b3)
  have Y4 := o3.byt
  have B3 := B2.trans (b3.mono B2.size)
  obtain ⟨a1, c1, rfl, k1, k2, k0, k3⟩ := o1.byt.open
  obtain ⟨a2, c2, rfl, j1, j2, j0, j3⟩ := o2.byt.open
  clear k0 k3 j0 j3 Y1 o1 o2
  go_wp2_with fail
  refine (Unsigned_any _ _ _ Y4).mono ?_
  unfold UnsRet
  rw [U.out]
  rintro e w' ⟨rfl, rfl⟩
  obtain ⟨a3, c3, rfl, i1, i2, i0, i3⟩ := o3.byt.open
  clear i0 i3 o3 Y4
  go_wp2_with fail
  refine (Bytes_any _ _ _ _ _ Y2.out Y3.out).mono ?_
  rintro e w' ⟨rfl, k, rfl⟩
  rw [HE.out]
  have B4 := below_drewN B3 k
  go_wp2_with fail
  refine (awake_any _).mono ?_
  rintro e w6 ⟨rfl, b6⟩
  go_wp2_with fail
  go_ret
  exact ⟨rfl, B4.trans (b6.mono B4.size)⟩

set_option maxRecDepth 100000 in
theorem encOrder_calls {H : Type} {enc : TypeId × Value → H} {W : World} {base : Nat} {v0 v1 : Value} {d0 d1 : DataW H} {p0 p1 : List MemPlace}
    (o0 : Value.okWide Try.prog W .any base 3 v0) (h0 : DataW.Trod enc Try.prog W 0 (fun _ => true) true 3 v0 d0 p0)
    (o1 : Value.okWide Try.prog W .any base 3 v1) (h1 : DataW.Trod enc Try.prog W 0 (fun _ => true) true 3 v1 d1 p1) :
    Calls Try.prog 4 #[v0, v1] W fun e w' => e = .returned (.bool true) ∧ Below W.heap.size W w' := by
  obtain ⟨n, rfl, rfl, rfl, hn⟩ := open_int Try.underlying3 o0 h0
  obtain ⟨m, rfl, rfl, rfl, hm⟩ := open_int Try.underlying3 o1 h1
  have hm' := bounds_i64 hm
  by_cases h : n < 0 ∨ m < n
  · exact order_out n m W h
  · exact order_in n m W (by omega) (by omega) (by omega)
end Go.Proofs.YthcfekabeidmiaaRR
