/- RingLimits answers true, whatever it is given. -/
import Derived.Test.YtpmngdgifdkohaaDoorParab
import Derived.Test.YtpmngdgifdkohaaDoorRound
import Derived.Test.YtpmngdgifdkohaaDoorErrLaid
import Derived.Test.YtpmngdgifdkohaaDoorViewBase
namespace Go.Proofs.YtpmngdgifdkohaaDoor
open Go.RowKit Go.ChangeShapes Go.WideShapes

theorem info_pt : (Tryd.prog.info? 24).map (fun i => (i.zero, i.size, i.bytes)) = some (some (.agg #[.int .i64 0, .int .i64 0]), 2, 16) := by kernel_rfl
/-- v is a row of points of the call's own, from block 'base' on. -/
def OwnP (w : World) (base : Nat) (v : Value) (l : List (Int × Int)) : Prop := w.ownsRow base 24 2 v l.length (ptsV l)
theorem OwnP.pts {w : World} {base : Nat} {v : Value} {l : List (Int × Int)} (h : OwnP w base v l) : Pts w v l := Rd.of_own h
theorem OwnP.below {w w' : World} {base : Nat} {v : Value} {l : List (Int × Int)} (h : OwnP w base v l) (hb : Below w.heap.size w w') : OwnP w' base v l := own_below' h hb
theorem ptsV_set : ∀ (l : List (Int × Int)) (i : Nat) (x y : Int), ((ptsV l).set (i * 2) (.int .i64 x)).set (i * 2 + 1) (.int .i64 y) = ptsV (l.set i (x, y))
  | [], _, _, _ => rfl
  | _ :: _, 0, _, _ => rfl
  | p :: l, i + 1, x, y => by
    have e1 : (i + 1) * 2 = i * 2 + 1 + 1 := by omega
    simp only [ptsV, e1, List.set_cons_succ]
    rw [ptsV_set l i x y]
theorem OwnP.stored {w : World} {base g cap : Nat} {l : List (Int × Int)} (h : OwnP w base (.slice (some ⟨g, 0, none⟩) l.length cap) l) (i : Nat) (x y : Int) :
    OwnP ((w.setCell ⟨g, i * 2, none⟩ (.int .i64 x)).setCell ⟨g, i * 2 + 1, none⟩ (.int .i64 y)) base (.slice (some ⟨g, 0, none⟩) l.length cap) (l.set i (x, y)) := by
  have h1 := (World.ownsRow.stored h (i * 2) (.int .i64 x)).1
  have h2 := (World.ownsRow.stored h1 (i * 2 + 1) (.int .i64 y)).1
  unfold OwnP
  rw [List.length_set, ← ptsV_set]
  exact h2
/-- append(v, p) on points. -/
theorem wpList_append_pt {w : World} {ops : Array Oper} {rest : List Oper} {o : Oper} {a : Act} {Q : Exit → Act → World → Prop} (hgd : o.guard = none) (s x : Operand)
    (ho : o.op = .call { callee := .builtin .append, args := #[s, x], argTypes := #[22, 22] })
    (base : Nat) (v : Value) (l : List (Int × Int)) (hs : a.eval s = v) (hown : OwnP w base v l) (y : Value) (m : List (Int × Int)) (hx : a.eval x = y) (hy : Pts w y m)
    (h63 : l.length + m.length ≤ 1000000) (hbase : base ≤ w.heap.size)
    (h : ∀ v' w', OwnP w' base v' (l ++ m) → Below base w w' → wpList Tryd.prog ops Q rest (a.put o.dst v') w') : wpList Tryd.prog ops Q (o :: rest) a w :=
  wpList_append_rd hgd s x 22 ho base 24 _ 2 16 Tryd.underlying22 info_pt rfl (by decide) v _ _ hs hown y _ _ hx hy (ptsV_length _) (ptsV_one _) (by unfold maxLen; omega) (by omega) hbase
    fun v' w' h1 h2 _ => h v' w' (by unfold OwnP; rw [ptsV_append, List.length_append]; exact h1) h2

set_option maxRecDepth 100000 in
theorem limits_out (n i j : Int) (w : World) (hg : ErrT w) (h : n < 0 ∨ 70 < n) :
    Calls Tryd.prog 5 #[.int .i64 n, .int .i64 i, .int .i64 j] w fun e w' => e = .returned (.bool true) ∧ Below w.heap.size w w' := by
  by_cases h0 : n < 0
  · have t1 := decide_eq_true h0
    clear h
    go_enter Tryd.func5, Tryd.ntmps5
    go_wp2_with fail
    refine (awake5_any _ hg).mono ?_
    rintro e w1 ⟨rfl, b1⟩
    go_wp2_with fail
    go_ret
    exact ⟨rfl, b1⟩
  · have t1 := decide_eq_false h0
    have t2 := decide_eq_true (show 70 < n by omega)
    clear h
    go_enter Tryd.func5, Tryd.ntmps5
    go_wp2_with fail
    refine (awake5_any _ hg).mono ?_
    rintro e w1 ⟨rfl, b1⟩
    go_wp2_with fail
    go_ret
    exact ⟨rfl, b1⟩

set_option maxRecDepth 100000 in
set_option maxHeartbeats 4000000 in
theorem limits_in (n : Nat) (i j : Int) (w : World) (hg : ErrT w) (h70 : n ≤ 70) :
    Calls Tryd.prog 5 #[.int .i64 (n : Int), .int .i64 i, .int .i64 j] w fun e w' => e = .returned (.bool true) ∧ Below w.heap.size w w' := by
  have t1 : decide ((n : Int) < 0) = false := decide_eq_false (by omega)
  have t2 : decide ((70 : Int) < (n : Int)) = false := decide_eq_false (by omega)
  have HG := Lib.hid hg
  go_enter Tryd.func5, Tryd.ntmps5
  go_wp2_with fail
  go_loopw [7, 8] (fun v q wr => ∃ k : Nat, k ≤ n ∧ q = .int .i64 k ∧ OwnP wr w.heap.size v (parab k) ∧ Below w.heap.size w wr) (fun _ q _ => n - (intOf q).toNat)
  case atStart => exact ⟨0, Nat.zero_le _, rfl, World.ownsRow_nil _ _ _ _, Below.refl _ _⟩
  case round =>
    obtain ⟨k, hk, rfl, ho, hb⟩ := hrel
    by_cases hlt : k < n
    · have t3 : decide ((k : Int) < (n : Int)) = true := by simp; omega
      have hq : (k : Int) * (k : Int) ≤ 70 * 70 := Int.mul_le_mul (by omega) (by omega) (by omega) (by omega)
      have hq0 : 0 ≤ (k : Int) * (k : Int) := Int.mul_nonneg (by omega) (by omega)
      have hk3 : 10 * (k : Int) * (k : Int) = 10 * ((k : Int) * (k : Int)) := Int.mul_assoc _ _ _
      have hk1 : 0 ≤ 10 * (k : Int) * (k : Int) := by omega
      have hk2 : 10 * (k : Int) * (k : Int) ≤ 49000 := by omega
      have HS := Lib.hid (parab_snoc k)
      have hP := Lib.hid (show Pts (wr.alloc (.cells #[.int .i64 (10 * (k : Int)), .int .i64 (10 * (k : Int) * (k : Int))] 24)) (.slice (some ⟨wr.heap.size, 0, none⟩) 1 1) [parP k] from pts1 wr _ _ rfl _ _)
      have hl := parab_len k
      have hl2 : (parab k).length ≤ 70 := by omega
      have HO := Lib.hid (World.ownsRow.alloc ho (.cells #[.int .i64 (10 * (k : Int)), .int .i64 (10 * (k : Int) * (k : Int))] 24))
      clear hl hq hq0 hk3
      have hbs := hb.size
      have hb1 := hb.alloc hbs (.cells #[.int .i64 (10 * (k : Int)), .int .i64 (10 * (k : Int) * (k : Int))] 24)
      have hlen : (parab k).length + [parP k].length ≤ 1000000 := by simp; omega
      go_wp2_with (at_builtin; refine wpList_append_pt rfl _ _ rfl w.heap.size _ (parab k) rfl HO.out _ [parP k] rfl hP.out hlen hb1.size ?_)
      intro v3 w3 ho3 hb3
      have HB := Lib.hid (hb1.trans hb3)
      clear hb1 hb3 hlen
      go_wp2_with fail
      go_roundw
      case rel => exact ⟨k + 1, by omega, by go_num, by rw [HS.out]; exact ho3, HB.out⟩
      case measure => simp [intOf]; omega
    · obtain rfl : k = n := by omega
      have t3 : decide ((k : Int) < (k : Int)) = false := by simp
      have P0 := ho.pts
      have g1 := HG.out.below hb HG.out.lt
      have C := Lib.hid (Check_any _ (parab k) wr P0)
      by_cases h3 : k < 3 ∨ 64 < k
      · rw [ringEr_verts (by rw [parab_len]; exact h3), parab_len] at C
        have HI := Lib.hid (show ∀ v w, (Er.fault strRing (k : Int) (.num 3)).Is w v → ErrT w → Calls Tryd.prog 23 #[v, .int .i64 3, .string strRing, .int .i64 (k : Int)] w fun e w' => e = .returned (.bool true) ∧ Below w.heap.size w w' from fun v w h1 h2 => by
          have hI : (Er.fault strRing (k : Int) (.num 3)).isB 3 strRing (k : Int) = true := by simp [Er.isB, Er.code, Er.root]
          rw [← hI]; exact IsA_any _ 3 strRing (k : Int) v w h1 h2)
        have key : ∀ b : Bool, decide ((k : Int) < 3) = b → (b = false → decide ((64 : Int) < (k : Int)) = true) := fun b hb1 hb2 => by
          rw [hb2] at hb1
          have := of_decide_eq_false hb1
          exact decide_eq_true (by omega)
        cases hb3 : decide ((k : Int) < 3) with
        | true =>
          clear h3 key P0 ho
          go_wp2_with fail
          refine C.out.mono ?_
          rintro e w1 ⟨u, rfl, hu, b1⟩
          have g2 := g1.below b1 g1.lt
          have B1 := hb.trans (b1.mono hb.size)
          go_wp2_with fail
          refine (HI.out _ _ hu g2).mono ?_
          rintro e w2 ⟨rfl, b2⟩
          have g3 := g2.below b2 g2.lt
          have B2 := B1.trans (b2.mono B1.size)
          go_wp2_with fail
          refine (awake5_any _ g3).mono ?_
          rintro e w3 ⟨rfl, b3⟩
          go_wp2_with fail
          go_ret
          exact ⟨rfl, B2.trans (b3.mono B2.size)⟩
        | false =>
          have t4 := key false hb3 rfl
          clear h3 key P0 ho
          go_wp2_with fail
          refine C.out.mono ?_
          rintro e w1 ⟨u, rfl, hu, b1⟩
          have g2 := g1.below b1 g1.lt
          have B1 := hb.trans (b1.mono hb.size)
          go_wp2_with fail
          refine (HI.out _ _ hu g2).mono ?_
          rintro e w2 ⟨rfl, b2⟩
          have g3 := g2.below b2 g2.lt
          have B2 := B1.trans (b2.mono B1.size)
          go_wp2_with fail
          refine (awake5_any _ g3).mono ?_
          rintro e w3 ⟨rfl, b3⟩
          go_wp2_with fail
          go_ret
          exact ⟨rfl, B2.trans (b3.mono B2.size)⟩
      · rw [parab_ring (by omega) (by omega)] at C
        have t4 : decide ((k : Int) < 3) = false := decide_eq_false (by omega)
        have t5 : decide ((64 : Int) < (k : Int)) = false := decide_eq_false (by omega)
        have k3 : 3 ≤ k := by omega
        have k64 : k ≤ 64 := by omega
        have R1 := Lib.hid (fun w => Round_at i (k : Int) k w (by omega) (by omega) rfl)
        have R2 := Lib.hid (fun w => Round_at j (k : Int) k w (by omega) (by omega) rfl)
        have HO := Lib.hid ho
        clear h3 P0 ho
        go_wp2_with fail
        refine C.out.mono ?_
        rintro e w1 ⟨u, rfl, rfl, b1⟩
        have g2 := g1.below b1 g1.lt
        have B1 := hb.trans (b1.mono hb.size)
        have HO1 := Lib.hid (OwnP.below HO.out b1)
        go_wp2_with fail
        refine (R1.out _).mono ?_
        rintro e w2 ⟨r1, rfl, hr1, rfl⟩
        go_wp2_with fail
        refine (R2.out _).mono ?_
        rintro e w2 ⟨r2, rfl, hr2, rfl⟩
        by_cases he : r1 = r2
        · have t6 : ((r1 : Int) == (r2 : Int)) = true := by rw [he]; simp
          clear he
          go_wp2_with fail
          refine (awake5_any _ g2).mono ?_
          rintro e w3 ⟨rfl, b3⟩
          go_wp2_with fail
          go_ret
          exact ⟨rfl, B1.trans (b3.mono B1.size)⟩
        · have t6 : ((r1 : Int) == (r2 : Int)) = false := beq_eq_false_iff_ne.2 (by omega)
          have hl := parab_len k
          have HT := Lib.hid (show ∃ kk : Int, ringEr ((parab k).set r1 (parP r2)) = .fault strRing kk (.num 4) from by
            have hls : ((parab k).set r1 (parP r2)).length = k := by rw [List.length_set, hl]
            refine twin_ring (i := r1) (j := r2) (by omega) (by omega) ?_ (by omega) (by omega) he ?_
            · unfold allP
              rw [List.all_eq_true]
              intro p hp
              rcases List.mem_or_eq_of_mem_set hp with hp | hp
              · exact List.all_eq_true.1 (parab_ok (n := k) (by omega)) p hp
              · rw [hp]; exact decide_eq_true (parP_bd (by omega))
            · rw [pt_get _ r1 (by omega), pt_get _ r2 (by omega), List.getElem_set_self, List.getElem_set_ne (by omega), ← pt_get _ r2 (by omega), parab_pt hr2])
          obtain ⟨kk, hkk⟩ := HT.out
          have PS := HO1.out.pts
          rcases HO1.out.2 with ⟨rfl, h0⟩ | ⟨g, cap, cur, rfl, hbg, _⟩
          · omega
          · obtain ⟨hgs, x1, y1⟩ := pt_cell PS (i := r1) (by omega)
            obtain ⟨_, x2, y2⟩ := pt_cell PS (i := r2) (by omega)
            rw [parab_pt hr2] at x2 y2
            rw [parab_pt hr1] at x1 y1
            have f1 := World.ownsRow.frozenAt HO1.out (r1 * 2)
            have f2 := World.ownsRow.frozenAt HO1.out (r1 * 2 + 1)
            have NW := OwnP.stored HO1.out r1 (parP r2).1 (parP r2).2
            have CC := Lib.hid (Check_any _ _ _ NW.pts)
            rw [hkk] at CC
            have B2 := ((B1.setCell (p := ⟨g, r1 * 2, none⟩) hbg (.int .i64 (parP r2).1)).setCell (p := ⟨g, r1 * 2 + 1, none⟩) hbg (.int .i64 (parP r2).2))
            have g3 := HG.out.below B2 HG.out.lt
            have i0 : (0 : Int) ≤ (r1 : Int) := by omega
            have i1 : (r1 : Int) < ((parab k).length : Int) := by omega
            have i2 : (0 : Int) ≤ (r2 : Int) := by omega
            have i3 : (r2 : Int) < ((parab k).length : Int) := by omega
            simp only [Nat.zero_add] at x1 y1 x2 y2
            clear NW PS HO HO1 HT hkk hl
            generalize parP r2 = p2 at *
            generalize parP r1 = p1 at *
            obtain ⟨ax, ay⟩ := p2
            simp only at x2 y2 CC B2 g3
            clear he
            go_wp2_with fail
            refine CC.out.mono ?_
            rintro e w3 ⟨u, rfl, hu, b3⟩
            have B3 := B2.trans (b3.mono B2.size)
            have g4 := g3.below b3 g3.lt
            go_wp2_with fail
            refine (Code_er _ _ _ hu).mono ?_
            rintro e w4 ⟨rfl, rfl⟩
            have hc : (Er.fault strRing kk (.num 4)).code = 4 := by simp [Er.code, Er.root]
            rw [hc]
            go_wp2_with fail
            refine (awake5_any _ g4).mono ?_
            rintro e w5 ⟨rfl, b5⟩
            go_wp2_with fail
            go_ret
            exact ⟨rfl, B3.trans (b5.mono B3.size)⟩

set_option maxRecDepth 100000 in
theorem ringLimits_calls {H : Type} {enc : TypeId × Value → H} {W : World} {base : Nat} {v0 v1 v2 : Value} {d0 d1 d2 : DataW H} {p0 p1 p2 : List MemPlace} (hg : ErrT W)
    (o0 : Value.okWide Tryd.prog W .any base 3 v0) (h0 : DataW.Trod enc Tryd.prog W 0 (fun _ => true) true 3 v0 d0 p0)
    (o1 : Value.okWide Tryd.prog W .any base 3 v1) (h1 : DataW.Trod enc Tryd.prog W 0 (fun _ => true) true 3 v1 d1 p1)
    (o2 : Value.okWide Tryd.prog W .any base 3 v2) (h2 : DataW.Trod enc Tryd.prog W 0 (fun _ => true) true 3 v2 d2 p2) :
    Calls Tryd.prog 5 #[v0, v1, v2] W fun e w' => e = .returned (.bool true) ∧ Below W.heap.size W w' := by
  obtain ⟨n, rfl, rfl, rfl, hn⟩ := open_int Tryd.underlying3 o0 h0
  obtain ⟨i, rfl, rfl, rfl, hi⟩ := open_int Tryd.underlying3 o1 h1
  obtain ⟨j, rfl, rfl, rfl, hj⟩ := open_int Tryd.underlying3 o2 h2
  by_cases h : n < 0 ∨ 70 < n
  · exact limits_out n i j W hg h
  · obtain ⟨m, rfl⟩ := Int.eq_ofNat_of_zero_le (show 0 ≤ n by omega)
    exact limits_in m i j W hg (by omega)
end Go.Proofs.YtpmngdgifdkohaaDoor
