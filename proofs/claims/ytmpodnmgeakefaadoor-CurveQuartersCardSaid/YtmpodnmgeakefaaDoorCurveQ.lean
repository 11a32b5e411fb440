/- CurveQuarters answers true, whatever it is given. -/
import Derived.Test.YtmpodnmgeakefaaDoorCurveNb
namespace Go.Proofs.YtmpodnmgeakefaaDoor
open Go.RowKit Go.ChangeShapes Go.WideShapes

set_option maxRecDepth 100000 in
theorem q_out (v v2 : Nat) (n : Int) (w : World) (hg : ErrT w) (h : ¬ (2 ≤ n ∧ n ≤ 31)) :
    Calls Tryd.prog 6 #[.int .u64 (v : Int), .int .u64 (v2 : Int), .int .i64 n] w fun e w' => e = .returned (.bool true) ∧ Below w.heap.size w w' := by
  by_cases h1 : n < 2
  · have t1 := decide_eq_true h1
    clear h
    go_enter Tryd.func6, Tryd.ntmps6
    go_wp2_with fail
    refine (awake19_any _ hg).mono ?_
    rintro e w1 ⟨rfl, b1⟩
    go_wp2_with fail
    go_ret
    exact ⟨rfl, b1⟩
  · have t1 := decide_eq_false h1
    have t2 : decide (31 < n) = true := by simp; omega
    clear h
    go_enter Tryd.func6, Tryd.ntmps6
    go_wp2_with fail
    refine (awake19_any _ hg).mono ?_
    rintro e w1 ⟨rfl, b1⟩
    go_wp2_with fail
    go_ret
    exact ⟨rfl, b1⟩

theorem mod_u64 (v n : Nat) : (v : Int) % (2 : Int) ^ (2 * n) = ((v % 4 ^ n : Nat) : Int) := by
  rw [cast_pow2, ← four_pow]; rfl
theorem quarter4 (n : Nat) : (2 : Int) ^ (2 * (n + 1)) / 4 = ((4 ^ n : Nat) : Int) := by
  rw [cast_pow2, ← four_pow, Nat.pow_succ]; omega
theorem same_quarter (n a b : Nat) (ha : a < 4 ^ (n + 1)) (hb : b < 4 ^ (n + 1)) :
    ((unh (n + 1) a).1 < 2 ^ n ↔ (unh (n + 1) b).1 < 2 ^ n) ∧ ((unh (n + 1) a).2 < 2 ^ n ↔ (unh (n + 1) b).2 < 2 ^ n) ↔ a / 4 ^ n = b / 4 ^ n := by
  obtain ⟨a0, a1, a2, a3⟩ := unh_quarter n a ha
  obtain ⟨b0, b1, b2, b3⟩ := unh_quarter n b hb
  have hqa : a / 4 ^ n < 4 := by rw [Nat.div_lt_iff_lt_mul (four_pos n)]; rw [Nat.pow_succ] at ha; omega
  have hqb : b / 4 ^ n < 4 := by rw [Nat.div_lt_iff_lt_mul (four_pos n)]; rw [Nat.pow_succ] at hb; omega
  generalize a / 4 ^ n = qa at *
  generalize b / 4 ^ n = qb at *
  have ca : qa = 0 ∨ qa = 1 ∨ qa = 2 ∨ qa = 3 := by omega
  have cb : qb = 0 ∨ qb = 1 ∨ qb = 2 ∨ qb = 3 := by omega
  generalize ((unh (n + 1) a).1 < 2 ^ n) = A1 at *
  generalize ((unh (n + 1) a).2 < 2 ^ n) = A2 at *
  generalize ((unh (n + 1) b).1 < 2 ^ n) = B1 at *
  generalize ((unh (n + 1) b).2 < 2 ^ n) = B2 at *
  rcases ca with rfl | rfl | rfl | rfl <;> rcases cb with rfl | rfl | rfl | rfl <;> simp at * <;> simp [*]

set_option maxRecDepth 100000 in
set_option maxHeartbeats 4000000 in
theorem q_in (v v2 m : Nat) (w : World) (hg : ErrT w) (hv : v < 18446744073709551616) (hv2 : v2 < 18446744073709551616) (hn1 : 1 ≤ m) (hn2 : m ≤ 30) :
    Calls Tryd.prog 6 #[.int .u64 (v : Int), .int .u64 (v2 : Int), .int .i64 ((m : Int) + 1)] w fun e w' => e = .returned (.bool true) ∧ Below w.heap.size w w' := by
  obtain ⟨p1, p2⟩ := four_le (m + 1) (by omega)
  have p4 := quarter4 m
  have hA := mod_u64 v (m + 1)
  have hB := mod_u64 v2 (m + 1)
  obtain ⟨r1, r2⟩ := two_le m (by omega)
  have h4 := four_pos (m + 1)
  have ha := Nat.mod_lt v h4
  have hb := Nat.mod_lt v2 h4
  generalize v % 4 ^ (m + 1) = V at *
  generalize v2 % 4 ^ (m + 1) = W at *
  have U0 := Lib.hid (fun w => Unhilbert_ok V (m + 1) w (by omega) (by omega) ha)
  have U1 := Lib.hid (fun w => Unhilbert_ok W (m + 1) w (by omega) (by omega) hb)
  obtain ⟨a1, a2⟩ := unh_lt (m + 1) V
  obtain ⟨b1', b2'⟩ := unh_lt (m + 1) W
  have H := Lib.hid (fun w => Hilbert_ok ((unh (m + 1) V).1 / 2) ((unh (m + 1) V).2 / 2) m w hn1 (by omega) (by rw [Nat.pow_succ] at a1; omega) (by rw [Nat.pow_succ] at a2; omega))
  have HL := Lib.hid (hil_lt m ((unh (m + 1) V).1 / 2) ((unh (m + 1) V).2 / 2))
  have e0 : ((m + 1 : Nat) : Int) = (m : Int) + 1 := by omega
  rw [e0] at U0 U1
  have h31 : 2 ^ (m + 1) ≤ 2 ^ 31 := Nat.pow_le_pow_right (by omega) (by omega)
  have h41 : 4 ^ (m + 1) ≤ 4 ^ 31 := Nat.pow_le_pow_right (by omega) (by omega)
  have hF := four_pos m
  have eV : (V : Int) / ((4 ^ m : Nat) : Int) = ((V / 4 ^ m : Nat) : Int) := rfl
  have eW : (W : Int) / ((4 ^ m : Nat) : Int) = ((W / 4 ^ m : Nat) : Int) := rfl
  have hqa : V / 4 ^ m ≤ V := Nat.div_le_self _ _
  have hqb : W / 4 ^ m ≤ W := Nat.div_le_self _ _
  have hF2 : 4 ^ m ≤ 4 ^ 31 := Nat.pow_le_pow_right (by omega) (by omega)
  have SQ := same_quarter m V W ha hb
  generalize unh (m + 1) V = P at *
  generalize unh (m + 1) W = Q at *
  generalize V / 4 ^ m = qa at *
  generalize W / 4 ^ m = qb at *
  obtain ⟨px, py⟩ := P
  obtain ⟨qx, qy⟩ := Q
  have l1 : (px : Int) ≤ 2147483648 := by simp at a1; omega
  have l2 : (py : Int) ≤ 2147483648 := by simp at a2; omega
  have l3 : (qx : Int) ≤ 2147483648 := by simp at b1'; omega
  have l4 : (qy : Int) ≤ 2147483648 := by simp at b2'; omega
  have c2m := cast_pow2 m
  have HS := Lib.hid (show (¬ ((px : Int) < 2 ^ m ↔ (qx : Int) < 2 ^ m) ∧ qa ≠ qb) ∨ ((((px : Int) < 2 ^ m ↔ (qx : Int) < 2 ^ m) ∧ ¬ ((py : Int) < 2 ^ m ↔ (qy : Int) < 2 ^ m)) ∧ qa ≠ qb) ∨ ((((px : Int) < 2 ^ m ↔ (qx : Int) < 2 ^ m) ∧ ((py : Int) < 2 ^ m ↔ (qy : Int) < 2 ^ m)) ∧ qa = qb) from by
    rw [c2m]
    simp only [Int.ofNat_lt] at SQ ⊢
    by_cases s1 : (px < 2 ^ m ↔ qx < 2 ^ m)
    · by_cases s2 : (py < 2 ^ m ↔ qy < 2 ^ m)
      · exact Or.inr (Or.inr ⟨⟨s1, s2⟩, SQ.1 ⟨s1, s2⟩⟩)
      · exact Or.inr (Or.inl ⟨⟨s1, s2⟩, fun h => s2 (SQ.2 h).2⟩)
    · exact Or.inl ⟨s1, fun h => s1 (SQ.2 h).1⟩)
  clear c2m SQ
  have hl : hil m (px / 2) (py / 2) < 4 ^ m := HL.out
  generalize hil m (px / 2) (py / 2) = hh at *
  have hFi : (1 : Int) ≤ ((4 ^ m : Nat) : Int) := by omega
  have hFj : ((4 ^ m : Nat) : Int) ≤ 4611686018427387904 := by omega
  have hli : (hh : Int) < ((4 ^ m : Nat) : Int) := by omega
  have hF0 : ¬ (4 ^ m = 0) := by omega
  clear hF hF2 hl HL
  generalize 4 ^ m = F at *
  have hF1 : ((F : Int) == 0) = false := by simp; omega
  have hqi : (qa : Int) ≤ 4611686018427387903 := by omega
  have hqj : (qb : Int) ≤ 4611686018427387903 := by omega
  have hVi : (V : Int) ≤ 4611686018427387903 := by omega
  have hWi : (W : Int) ≤ 4611686018427387903 := by omega
  have hm3 : (m : Int) ≤ 30 := by omega
  have hm4 : (1 : Int) ≤ (m : Int) := by omega
  have hv1 : (v : Int) ≤ 18446744073709551615 := by omega
  have hw1 : (v2 : Int) ≤ 18446744073709551615 := by omega
  clear hqa hqb h4 ha hb a1 a2 b1' b2' h31 h41 hv hv2 e0
  go_enter Tryd.func6, Tryd.ntmps6
  go_wp2_with fail
  refine (U0.out _).mono ?_
  rintro e w1 ⟨u, rfl, rfl, b1⟩
  have ba : Below w1.heap.size w1 (w1.alloc (.cells #[.int .i64 (px : Int), .int .i64 (py : Int)] 23)) := (Below.refl _ _).alloc (Nat.le_refl _) _
  have P1 := Lib.hid (pair_alloc w1 px py 23)
  have B1 := b1.trans (ba.mono b1.size)
  go_wp2_with fail
  refine (U1.out _).mono ?_
  rintro e w2 ⟨u, rfl, rfl, b2⟩
  have bb : Below w2.heap.size w2 (w2.alloc (.cells #[.int .i64 (qx : Int), .int .i64 (qy : Int)] 23)) := (Below.refl _ _).alloc (Nat.le_refl _) _
  have P2 := Lib.hid ((P1.out.below b2).below bb)
  have Q2 := Lib.hid (pair_alloc w2 qx qy 23)
  have B3 := (B1.trans (b2.mono B1.size)).trans (bb.mono (B1.trans (b2.mono B1.size)).size)
  have hz : w1.heap.size < w2.heap.size := World.block_lt_of_cell? w2 ⟨w1.heap.size, 0, none⟩ (P1.out.below b2).c0
  have c1 := P2.out.c0
  have c2 := P2.out.c1
  have c3 := Q2.out.c0
  have c4 := Q2.out.c1
  have eW1 : IntKind.i64.wrap ((2 : Int) ^ m) = 2 ^ m := IntWalk.i64_in _ (by omega)
  have hS : (¬ ((px : Int) < 2 ^ m ↔ (qx : Int) < 2 ^ m) ∧ qa ≠ qb) ∨ ((((px : Int) < 2 ^ m ↔ (qx : Int) < 2 ^ m) ∧ ¬ ((py : Int) < 2 ^ m ↔ (qy : Int) < 2 ^ m)) ∧ qa ≠ qb) ∨ ((((px : Int) < 2 ^ m ↔ (qx : Int) < 2 ^ m) ∧ ((py : Int) < 2 ^ m ↔ (qy : Int) < 2 ^ m)) ∧ qa = qb) := HS.out
  rcases hS with ⟨s1, hq⟩ | ⟨⟨s1, s2⟩, hq⟩ | ⟨⟨s1, s2⟩, hq⟩
  · have hq' : ((qa : Int) == (qb : Int)) = false := by simp; omega
    have hq2 : ¬ ((qa : Int) = (qb : Int)) := by omega
    go_wp2_with fail
    refine (H.out _).mono ?_
    rintro e w3 ⟨u, rfl, rfl, b3⟩
    have B4 := B3.trans (b3.mono B3.size)
    go_wp2_with fail
    have z0 : ¬ ((2 : Int) ^ (2 * (m + 1)) / 4 = 0) := by rw [p4]; omega
    have z1 : ((2 : Int) ^ (2 * (m + 1)) / 4 == 0) = false := by simp only [beq_eq_false_iff_ne]; exact z0
    have z7 : (2 : Int) ^ (2 * (m + 1)) / 4 ≤ 4611686018427387904 := by rw [p4]; exact hFj
    have z2 : (1 : Int) ≤ (2 : Int) ^ (2 * (m + 1)) / 4 := by rw [p4]; exact hFi
    have z3 : (V : Int) / ((2 : Int) ^ (2 * (m + 1)) / 4) = qa := by rw [p4]; exact eV
    have z4 : (W : Int) / ((2 : Int) ^ (2 * (m + 1)) / 4) = qb := by rw [p4]; exact eW
    have z5 : (hh : Int) < (2 : Int) ^ (2 * (m + 1)) / 4 := by rw [p4]; exact hli
    clear p4 eV eW hli hFi hFj hF0 hF1
    generalize (2 : Int) ^ (2 * (m + 1)) = N at *
    have y0 : IntKind.u64.wrap (N.tdiv 4) = N / 4 := IntWalk.u64_quo _ _ (by omega)
    generalize N / 4 = K at *
    have y1 : IntKind.u64.wrap ((V : Int).tdiv K) = qa := (IntWalk.u64_quo _ _ (by omega)).trans z3
    have y2 : IntKind.u64.wrap ((W : Int).tdiv K) = qb := (IntWalk.u64_quo _ _ (by omega)).trans z4
    have z6 := decide_eq_true z5
    have q1 : IntKind.u64.wrap (qa : Int) = qa := IntWalk.u64_in _ (by omega)
    have q2 : IntKind.u64.wrap (qb : Int) = qb := IntWalk.u64_in _ (by omega)
    have q3 : IntKind.u64.wrap K = K := IntWalk.u64_in _ (by omega)
    clear hq hqi hqj
    generalize (qa : Int) = QA at *
    generalize (qb : Int) = QB at *
    have hq3 : decide (QA = QB) = false := decide_eq_false hq2
    go_region_held3 (fun _ => True) (trivial) ((refine (awake19_any _ (hg.below B4.drew hg.lt)).mono ?_; rintro e w4 ⟨rfl, b4⟩))
    go_wp2_with fail
    go_ret
    exact ⟨rfl, B4.drew.trans (b4.mono B4.drew.size)⟩
  · have hq' : ((qa : Int) == (qb : Int)) = false := by simp; omega
    have hq2 : ¬ ((qa : Int) = (qb : Int)) := by omega
    have hd : (decide ((py : Int) < 2 ^ m) == decide ((qy : Int) < 2 ^ m)) = false := by
      by_cases u1 : (py : Int) < 2 ^ m <;> by_cases u2 : (qy : Int) < 2 ^ m <;> simp [u1, u2] at s2 ⊢
    go_wp2_with fail
    refine (H.out _).mono ?_
    rintro e w3 ⟨u, rfl, rfl, b3⟩
    have B4 := B3.trans (b3.mono B3.size)
    go_wp2_with fail
    have z0 : ¬ ((2 : Int) ^ (2 * (m + 1)) / 4 = 0) := by rw [p4]; omega
    have z1 : ((2 : Int) ^ (2 * (m + 1)) / 4 == 0) = false := by simp only [beq_eq_false_iff_ne]; exact z0
    have z7 : (2 : Int) ^ (2 * (m + 1)) / 4 ≤ 4611686018427387904 := by rw [p4]; exact hFj
    have z2 : (1 : Int) ≤ (2 : Int) ^ (2 * (m + 1)) / 4 := by rw [p4]; exact hFi
    have z3 : (V : Int) / ((2 : Int) ^ (2 * (m + 1)) / 4) = qa := by rw [p4]; exact eV
    have z4 : (W : Int) / ((2 : Int) ^ (2 * (m + 1)) / 4) = qb := by rw [p4]; exact eW
    have z5 : (hh : Int) < (2 : Int) ^ (2 * (m + 1)) / 4 := by rw [p4]; exact hli
    clear p4 eV eW hli hFi hFj hF0 hF1
    generalize (2 : Int) ^ (2 * (m + 1)) = N at *
    have y0 : IntKind.u64.wrap (N.tdiv 4) = N / 4 := IntWalk.u64_quo _ _ (by omega)
    generalize N / 4 = K at *
    have y1 : IntKind.u64.wrap ((V : Int).tdiv K) = qa := (IntWalk.u64_quo _ _ (by omega)).trans z3
    have y2 : IntKind.u64.wrap ((W : Int).tdiv K) = qb := (IntWalk.u64_quo _ _ (by omega)).trans z4
    have z6 := decide_eq_true z5
    have q1 : IntKind.u64.wrap (qa : Int) = qa := IntWalk.u64_in _ (by omega)
    have q2 : IntKind.u64.wrap (qb : Int) = qb := IntWalk.u64_in _ (by omega)
    have q3 : IntKind.u64.wrap K = K := IntWalk.u64_in _ (by omega)
    clear hq hqi hqj
    generalize (qa : Int) = QA at *
    generalize (qb : Int) = QB at *
    have hq3 : decide (QA = QB) = false := decide_eq_false hq2
    go_region_held3 (fun _ => True) (trivial) ((refine (awake19_any _ (hg.below B4.drew hg.lt)).mono ?_; rintro e w4 ⟨rfl, b4⟩))
    go_wp2_with fail
    go_ret
    exact ⟨rfl, B4.drew.trans (b4.mono B4.drew.size)⟩
  · subst hq
    have hd : (decide ((py : Int) < 2 ^ m) == decide ((qy : Int) < 2 ^ m)) = true := by
      by_cases u1 : (py : Int) < 2 ^ m <;> by_cases u2 : (qy : Int) < 2 ^ m <;> simp [u1, u2] at s2 ⊢
    go_wp2_with fail
    refine (H.out _).mono ?_
    rintro e w3 ⟨u, rfl, rfl, b3⟩
    have B4 := B3.trans (b3.mono B3.size)
    go_wp2_with fail
    have z0 : ¬ ((2 : Int) ^ (2 * (m + 1)) / 4 = 0) := by rw [p4]; omega
    have z1 : ((2 : Int) ^ (2 * (m + 1)) / 4 == 0) = false := by simp only [beq_eq_false_iff_ne]; exact z0
    have z7 : (2 : Int) ^ (2 * (m + 1)) / 4 ≤ 4611686018427387904 := by rw [p4]; exact hFj
    have z2 : (1 : Int) ≤ (2 : Int) ^ (2 * (m + 1)) / 4 := by rw [p4]; exact hFi
    have z3 : (V : Int) / ((2 : Int) ^ (2 * (m + 1)) / 4) = qa := by rw [p4]; exact eV
    have z4 : (W : Int) / ((2 : Int) ^ (2 * (m + 1)) / 4) = qa := by rw [p4]; exact eW
    have z5 : (hh : Int) < (2 : Int) ^ (2 * (m + 1)) / 4 := by rw [p4]; exact hli
    clear p4 eV eW hli hFi hFj hF0 hF1
    generalize (2 : Int) ^ (2 * (m + 1)) = N at *
    have y0 : IntKind.u64.wrap (N.tdiv 4) = N / 4 := IntWalk.u64_quo _ _ (by omega)
    generalize N / 4 = K at *
    have y1 : IntKind.u64.wrap ((V : Int).tdiv K) = qa := (IntWalk.u64_quo _ _ (by omega)).trans z3
    have y2 : IntKind.u64.wrap ((W : Int).tdiv K) = qa := (IntWalk.u64_quo _ _ (by omega)).trans z4
    have z6 := decide_eq_true z5
    have q1 : IntKind.u64.wrap (qa : Int) = qa := IntWalk.u64_in _ (by omega)
    have q3 : IntKind.u64.wrap K = K := IntWalk.u64_in _ (by omega)
    clear hqi hqj
    generalize (qa : Int) = QA at *
    have hq3 : (QA == QA) = true := by simp
    go_region_held3 (fun _ => True) (trivial) ((refine (awake19_any _ (hg.below B4.drew hg.lt)).mono ?_; rintro e w4 ⟨rfl, b4⟩))
    go_wp2_with fail
    go_ret
    exact ⟨rfl, B4.drew.trans (b4.mono B4.drew.size)⟩

set_option maxRecDepth 100000 in
theorem curveQuarters_calls {H : Type} {enc : TypeId × Value → H} {W : World} {base : Nat} {v0 v1 v2 : Value} {d0 d1 d2 : DataW H} {p0 p1 p2 : List MemPlace} (hg : ErrT W)
    (o0 : Value.okWide Tryd.prog W .any base 26 v0) (h0 : DataW.Trod enc Tryd.prog W 0 (fun _ => true) true 26 v0 d0 p0)
    (o1 : Value.okWide Tryd.prog W .any base 26 v1) (h1 : DataW.Trod enc Tryd.prog W 0 (fun _ => true) true 26 v1 d1 p1)
    (o2 : Value.okWide Tryd.prog W .any base 3 v2) (h2 : DataW.Trod enc Tryd.prog W 0 (fun _ => true) true 3 v2 d2 p2) :
    Calls Tryd.prog 6 #[v0, v1, v2] W fun e w' => e = .returned (.bool true) ∧ Below W.heap.size W w' := by
  obtain ⟨a, rfl, rfl, rfl, wa⟩ := open_int Tryd.underlying26 o0 h0
  obtain ⟨c, rfl, rfl, rfl, wc⟩ := open_int Tryd.underlying26 o1 h1
  obtain ⟨b, rfl, rfl, rfl, wb⟩ := open_int Tryd.underlying3 o2 h2
  obtain ⟨h1, h2⟩ := bounds_u64 wa
  obtain ⟨h3, h4⟩ := bounds_u64 wc
  obtain ⟨v, rfl⟩ := Int.eq_ofNat_of_zero_le h1
  obtain ⟨v', rfl⟩ := Int.eq_ofNat_of_zero_le h3
  by_cases h : 2 ≤ b ∧ b ≤ 31
  · obtain ⟨n, hn⟩ := Int.eq_ofNat_of_zero_le (show 0 ≤ b - 1 by omega)
    obtain rfl : b = (n : Int) + 1 := by omega
    exact q_in v v' n W hg (by omega) (by omega) (by omega) (by omega)
  · exact q_out v v' b W hg h
end Go.Proofs.YtmpodnmgeakefaaDoor
