/- FrameAsks answers true, whatever it is given. -/
import Derived.Test.YtbllooaalodhaaaDoorScanR
import Derived.Test.YtbllooaalodhaaaDoorFrameTorn
namespace Go.Proofs.YtbllooaalodhaaaDoor
open Go.RowKit Go.ChangeShapes

theorem Bytes_same (va vb : Value) (a : List UInt8) (w : World) (ha : Byt w va a) (hb : Byt w vb a) :
    Calls Tryd.prog 18 #[va, vb] w fun e w' => e = .returned (.bool true) ∧ Below w.heap.size w w' :=
  (Bytes_any va vb a a w ha hb).mono fun e w' ⟨h1, n, h2⟩ => ⟨by rw [h1, decide_eq_true rfl], by rw [h2]; exact Below.drewN' (Below.refl _ _) n⟩

theorem isB_code (code : Int) (id : Int) (h : code = 0 ∨ code = 10 ∨ code = 15) : (if code = 0 then Er.none else Er.fault frameStr id (.num code)).isB code frameStr id = true := by
  rcases h with rfl | rfl | rfl
  · simp [Er.isB, Er.code]
  · simp [Er.isB, Er.code, Er.root]
  · simp [Er.isB, Er.code, Er.root]

theorem scanF_code : ∀ (f : Nat) (l : List UInt8), (scanF f l).2.2 = 0 ∨ (scanF f l).2.2 = 10 ∨ (scanF f l).2.2 = 15
  | 0, l => by simp [scanF]
  | f + 1, l => by
    have ih := scanF_code f (l.drop (nextOf l).2.2)
    have hn := nextOf_code l
    simp only [scanF]
    split
    · simp
    · split
      · exact ih
      · exact hn

set_option maxRecDepth 100000 in
theorem asks_in (va vb : Value) (p b : List UInt8) (w : World) (ha : Byt w va p) (hb : Byt w vb b) (hg : ErrT w) (hp : p.length ≤ 3000) (hbl : b.length ≤ 3000) :
    Calls Tryd.prog 6 #[va, vb] w fun e w' => e = .returned (.bool true) ∧ Below w.heap.size w w' := by
  obtain ⟨ao, c, rfl, h1, h2, _, _⟩ := ha.open
  obtain ⟨bo, d, rfl, h3, h4, _, _⟩ := hb.open
  have t1 : decide ((3000 : Int) < (p.length : Int)) = false := by simp; omega
  have t2 : decide ((3000 : Int) < (b.length : Int)) = false := by simp; omega
  go_enter Tryd.func6, Tryd.ntmps6
  go_wp2_with fail
  refine (Put_ok _ p _ ha (by omega)).mono ?_
  rintro e w1 ⟨x, rfl, o1, q1⟩
  go_wp2_with fail
  refine (PutR_ok _ p _ (ha.below q1) (by omega)).mono ?_
  rintro e w2 ⟨y, rfl, o2, q2⟩
  have B2 : Below w.heap.size w w2 := q1.trans (q2.mono q1.size)
  have o1' := o1.below q2
  go_wp2_with fail
  refine (Next_any _ b _ (hb.below B2) (by omega)).mono ?_
  rintro e w3 ⟨q, u3, rfl, o3, i3, q3⟩
  have B3 : Below w.heap.size w w3 := B2.trans (q3.mono B2.size)
  go_wp2_with fail
  refine (NextR_any _ b _ (hb.below B3) (by omega)).mono ?_
  rintro e w4 ⟨r, rfl, o4, q4⟩
  have B4 : Below w.heap.size w w4 := B3.trans (q4.mono B3.size)
  go_wp2_with fail
  refine (Scan_any _ b _ (hb.below B4) (by omega)).mono ?_
  rintro e w5 ⟨lv, u5e, rfl, o5, i5, q5⟩
  have B5 : Below w.heap.size w w5 := B4.trans (q5.mono B4.size)
  go_wp2_with fail
  refine (ScanR_any _ b _ (hb.below B5) (by omega)).mono ?_
  rintro e w6 ⟨kv, rfl, o6, q6⟩
  have B6 : Below w.heap.size w w6 := B5.trans (q6.mono B5.size)
  have x6 := (((o1'.below q3).below q4).below q5).below q6
  have y6 := (((o2.below q3).below q4).below q5).below q6
  have r6a := ((o3.below q4).below q5).below q6
  have r6b := (o4.below q5).below q6
  have l6 := o5.rws.below q6
  have k6 := o6.rws
  have g6 := hg.below B6 hg.lt
  have i3' := ((i3.below q4).below q5).below q6
  have i5' := i5.below q6
  go_wp2_with fail
  refine (Bytes_same _ _ _ _ x6.byt y6.byt).mono ?_
  rintro e w7 ⟨rfl, q7⟩
  have B7 : Below w.heap.size w w7 := B6.trans (q7.mono B6.size)
  have p7 := ha.below B7
  have r7a := r6a.below q7
  have r7b := r6b.below q7
  have i7a := i3'.below q7
  have l7 := l6.below q7
  have k7 := k6.below q7
  have i7b := i5'.below q7
  have g7 := g6.below q7 g6.lt
  have c1 := nextOf_code b
  have c2 := scanF_code b.length b
  change (scanOf b).2.2 = 0 ∨ (scanOf b).2.2 = 10 ∨ (scanOf b).2.2 = 15 at c2
  have C1 := Lib.hid (isB_code _ 0 c1)
  have C2 := Lib.hid (isB_code _ ((scanOf b).2.1 : Int) c2)
  have E0 : Er.Is w7 .none .nilIface := rfl
  clear c1 c2
  generalize nextOf b = N at *
  generalize scanOf b = S at *
  generalize crcSum p = X at *
  go_wp2_with fail
  refine (Code_er .none _ _ E0).mono ?_
  rw [show Er.none.code = 0 from rfl]
  rintro e w' ⟨rfl, rfl⟩
  go_wp2_with fail
  refine (sum_any _ _ _ p7).mono ?_
  rintro e w' ⟨rfl, rfl⟩
  go_wp2_with fail
  refine (sumR_any _ _ _ p7).mono ?_
  rintro e w' ⟨rfl, rfl⟩
  go_wp2_with fail
  refine (Bytes_same _ _ _ _ r7a.byt r7b.byt).mono ?_
  rintro e w8 ⟨rfl, q8⟩
  have B8 : Below w.heap.size w w8 := B7.trans (q8.mono B7.size)
  have i8a := i7a.below q8
  have l8 := l7.below q8
  have k8 := k7.below q8
  have i8b := i7b.below q8
  have g8 := g7.below q8 g7.lt
  go_wp2_with fail
  refine (IsA_any _ N.1 frameStr 0 _ _ i8a g8).mono ?_
  rw [C1.out]
  rintro e w9 ⟨rfl, q9⟩
  have B9 : Below w.heap.size w w9 := B8.trans (q9.mono B8.size)
  have l9 := l8.below q9
  have k9 := k8.below q9
  have i9b := i8b.below q9
  have g9 := g8.below q9 g8.lt
  go_wp2_with fail
  refine (Rows_same _ _ _ _ l9 k9).mono ?_
  rintro e w10 ⟨rfl, q10⟩
  have B10 : Below w.heap.size w w10 := B9.trans (q10.mono B9.size)
  have i10 := i9b.below q10
  have g10 := g9.below q10 g9.lt
  go_wp2_with fail
  refine (IsA_any _ S.2.2 frameStr (S.2.1 : Int) _ _ i10 g10).mono ?_
  rw [C2.out]
  rintro e w11 ⟨rfl, q11⟩
  have B11 : Below w.heap.size w w11 := B10.trans (q11.mono B10.size)
  go_wp2_with fail
  refine (awake_any _).mono ?_
  rintro e w12 ⟨rfl, q12⟩
  go_wp2_with fail
  go_ret
  exact ⟨rfl, B11.trans (q12.mono B11.size)⟩

theorem asks_out (va vb : Value) (p b : List UInt8) (w : World) (ha : Byt w va p) (hb : Byt w vb b) (h : 3000 < p.length ∨ 3000 < b.length) :
    Calls Tryd.prog 6 #[va, vb] w fun e w' => e = .returned (.bool true) ∧ Below w.heap.size w w' := by
  obtain ⟨ao, c, rfl, h1, h2, _, _⟩ := ha.open
  obtain ⟨bo, d, rfl, h3, h4, _, _⟩ := hb.open
  by_cases h5 : 3000 < p.length
  · have t1 : decide ((3000 : Int) < (p.length : Int)) = true := by simp; omega
    clear h
    go_enter Tryd.func6, Tryd.ntmps6
    go_wp2_with (go_at_call 7; refine (awake_any _).mono ?_; rintro e w' ⟨rfl, hb5⟩)
    go_ret
    exact ⟨rfl, hb5⟩
  · have t1 : decide ((3000 : Int) < (p.length : Int)) = false := by simp; omega
    have t2 : decide ((3000 : Int) < (b.length : Int)) = true := by simp; omega
    clear h
    go_enter Tryd.func6, Tryd.ntmps6
    go_wp2_with (go_at_call 7; refine (awake_any _).mono ?_; rintro e w' ⟨rfl, hb5⟩)
    go_ret
    exact ⟨rfl, hb5⟩

set_option maxRecDepth 100000 in
theorem frameAsks_calls {H : Type} {enc : TypeId × Value → H} {W : World} {base : Nat} {v0 v1 : Value} {d0 d1 : DataW H} {p0 p1 : List MemPlace} (hg : ErrT W)
    (o0 : Value.okWide Tryd.prog W .any base 22 v0) (h0 : DataW.Trod enc Tryd.prog W 0 (fun _ => true) true 22 v0 d0 p0)
    (o1 : Value.okWide Tryd.prog W .any base 22 v1) (h1 : DataW.Trod enc Tryd.prog W 0 (fun _ => true) true 22 v1 d1 p1) :
    Calls Tryd.prog 6 #[v0, v1] W fun e w' => e = .returned (.bool true) ∧ Below W.heap.size W w' := by
  obtain ⟨p, hp⟩ := view_bytes o0 h0
  obtain ⟨b, hb⟩ := view_bytes o1 h1
  by_cases h : p.length ≤ 3000 ∧ b.length ≤ 3000
  · exact asks_in _ _ p b W hp hb hg h.1 h.2
  · exact asks_out _ _ p b W hp hb (by omega)
end Go.Proofs.YtbllooaalodhaaaDoor
