/- pergolaref8.Put, Next. -/
import Derived.Test.YtbllooaalodhaaaDoorSumR
namespace Go.Proofs.YtbllooaalodhaaaDoor
open Go.RowKit

/-- The call hands back new bytes and the code 0. -/
def NewBytesR (w : World) (l : List UInt8) (e : Ending) (w' : World) : Prop := ∃ v, e = .returned (.tuple #[v, .int .i64 0]) ∧ Own w' w.heap.size v l ∧ Below w.heap.size w w'

theorem PutR_ok (v : Value) (p : List UInt8) (w : World) (hv : Byt w v p) (hp : p.length ≤ 65536) :
    Calls Tryd.prog 15 #[v] w (NewBytesR w (frameOf p)) := by
  obtain ⟨ao, c, rfl, h1, h2, h0, h3⟩ := hv.open
  clear h3
  unfold maxLen at h2
  have hlt : ¬ (65536 : Int) < (p.length : Int) := by omega
  go_enter Tryd.func15, Tryd.ntmps15
  go_wp2_with fail
  refine (putR_any (BitVec.ofNat 32 p.length) _ (by simp; omega) w).mono ?_
  rintro e w1 ⟨v1, rfl, ho1, hb1⟩
  have hv1 := hv.below hb1
  have hs1 := hb1.size
  have hL : (le32 (BitVec.ofNat 32 p.length)).length = 4 := rfl
  go_wp2_with (at_builtin; refine wpList_append_byt rfl _ _ rfl w.heap.size _ _ rfl ho1 _ _ rfl hv1 ?c1 ?c2 ?_)
  case c1 => rw [hL]; omega
  case c2 => exact hs1
  intro v2 w2 ho2 hb2
  have hs2 := hb2.size
  have hs2' : w.heap.size ≤ w2.heap.size := Nat.le_trans hs1 hs2
  go_wp2_with (go_at_call 21; refine (sumR_any _ _ _ ho2.byt).mono ?_; rintro e w' ⟨rfl, rfl⟩)
  refine (putR_any (crcSum (le32 (BitVec.ofNat 32 p.length) ++ p)) _ (by first | rfl | (have := (crcSum (le32 (BitVec.ofNat 32 p.length) ++ p)).isLt; omega)) _).mono ?_
  rintro e w3 ⟨v3, rfl, ho3, hb3⟩
  have ho2' := ho2.below hb3
  have hs3 := hb3.size
  go_wp2_with (at_builtin; refine wpList_append_byt rfl _ _ rfl w.heap.size _ _ rfl ho2' _ _ rfl ho3.byt ?c1 ?c2 ?_)
  case c1 => have h4 : ∀ x, (le32 x).length = 4 := fun _ => rfl
             rw [List.length_append, h4, h4]; omega
  case c2 => omega
  intro v4 w4 ho4 hb4
  go_wp2
  go_ret2
  exact ⟨_, rfl, ho4, ((hb1.trans hb2).trans (hb3.mono hs2')).trans hb4⟩

/-- The call hands back bytes, a number, and a code. -/
def NextRetR (w : World) (r : Int × List UInt8 × Nat) (e : Ending) (w' : World) : Prop :=
  ∃ v, e = .returned (.tuple #[v, .int .i64 (r.2.2 : Int), .int .i64 r.1]) ∧ Own w' w.heap.size v r.2.1 ∧ Below w.heap.size w w'

set_option maxRecDepth 100000 in
theorem nextR_deep (b off c : Nat) (l : List UInt8) (w : World) (hv : Byt w (.slice (some ⟨b, off, none⟩) l.length c) l) (hl : l.length ≤ 140737488355328) (h1 : l.length ≤ c) (h2 : c ≤ 9223372036854775807)
    (c1 : ¬ l.length < 4) (c2 : ¬ 65536 < get32 l) (c3 : ¬ l.length < get32 l + 8) (R : Int × List UInt8 × Nat)
    (hR : (crcSum (l.take (get32 l + 4)) = BitVec.ofNat 32 (get32 (l.drop (get32 l + 4))) ∧ R = (0, (l.drop 4).take (get32 l), get32 l + 8)) ∨ (crcSum (l.take (get32 l + 4)) ≠ BitVec.ofNat 32 (get32 (l.drop (get32 l + 4))) ∧ R = (10, [], 0))) :
    Calls Tryd.prog 16 #[.slice (some ⟨b, off, none⟩) l.length c] w (NextRetR w R) := by
  have hg := get32_lt l
  generalize hG : get32 l = G at *
  have HG := Lib.hid hG; clear hG
  have t1 := hv.take (m := G + 4) (by omega)
  have t2 := hv.drop (m := G + 4) (by omega)
  have u4 : Byt w (.slice (some ⟨b, off + 4, none⟩) G (c - 4)) ((l.drop 4).take G) := by
    have h := hv.drop (m := 4) (by omega)
    rw [← List.length_drop] at h
    exact h.take (by rw [List.length_drop]; omega)
  have hlen : ((l.drop 4).take G).length ≤ 1000000 := by rw [List.length_take, List.length_drop]; omega
  generalize hX : crcSum (l.take (G + 4)) = X at *
  have HX := Lib.hid hX; clear hX
  have hY := get32_lt (l.drop (G + 4))
  have hdl : 4 ≤ (l.drop (G + 4)).length := by rw [List.length_drop]; omega
  generalize hYe : get32 (l.drop (G + 4)) = Y at *
  have HY := Lib.hid hYe; clear hYe
  have e1 : IntKind.i64.wrap ((G : Int) + 4) = (G : Int) + 4 := by rw [IntWalk.i64_in _ (by omega)]
  have e2 : ((G : Int) + 4).toNat = G + 4 := by omega
  have e3 : (0 : Int) ≤ (G : Int) + 4 := by omega
  have e4 : (G : Int) + 4 ≤ (c : Int) := by omega
  have e5 : (G : Int) + 4 ≤ (l.length : Int) := by omega
  have e6 : (c == G + 4) = false := by simp; omega
  have e7 : ¬ c = G + 4 := by omega
  have e8 : ¬ c = 4 := by omega
  have r1 : ∀ m, Calls Tryd.prog 21 #[.slice (some ⟨b, off, none⟩) (G + 4) c] (w.drewN m) fun e w'' => e = .returned (.int .u32 (X.toNat : Int)) ∧ ∃ m, w'' = w.drewN m := fun m => by
    have := sumR_any _ _ _ (t1.drewN m)
    rw [HX.out] at this
    exact this.mono fun e w' ⟨h1, h2⟩ => ⟨h1, m, h2.symm⟩
  have r2 : ∀ m, Calls Tryd.prog 28 #[.slice (some ⟨b, off + (G + 4), none⟩) (l.length - (G + 4)) (c - (G + 4)), .int .i64 4] (w.drewN m) fun e w'' => e = .returned (.int .i64 (Y : Int)) ∧ ∃ m, w'' = w.drewN m := fun m => by
    have := getR_any _ _ _ (t2.drewN m) hdl
    rw [HY.out] at this
    exact this.mono fun e w' ⟨h1, h2⟩ => ⟨h1, m, h2.symm⟩
  have R1 := Lib.hid r1
  have R2 := Lib.hid r2
  clear r1 r2
  rcases hR with ⟨c4, rfl⟩ | ⟨c4, rfl⟩
  · have b4 : ((Y : Int) != (X.toNat : Int)) = false := by rw [c4]; simp; omega
    clear c4
    go_enter Tryd.func16, Tryd.ntmps16
    go_wp2_with (go_at_call 28; refine (getR_any _ _ _ hv (by omega)).mono ?_; rw [HG.out]; rintro e w' ⟨rfl, rfl⟩)
    go_quiet ((first | exact R1.out _ | exact R2.out _))
    clear e1
    have hown : ∀ n, Own ((w.drewN n).alloc (.cells #[] 5)) w.heap.size (.slice (some ⟨w.heap.size, 0, none⟩) 0 0) [] := fun n => World.ownsRow_lit (e := 5) (size := 1) (w.drewN n) #[] 0 (Nat.le_refl _) (by simp [maxLen]) rfl
    have hbyt : ∀ n, Byt ((w.drewN n).alloc (.cells #[] 5)) (.slice (some ⟨b, off + 4, none⟩) G (c - 4)) ((l.drop 4).take G) := fun n => Rd.alloc (u4.drewN n) _
    have hsz : ∀ n, w.heap.size ≤ ((w.drewN n).alloc (.cells #[] 5)).heap.size := fun n => by simp [World.drewN]
    have hbel : ∀ n, Below w.heap.size w ((w.drewN n).alloc (.cells #[] 5)) := fun n => (Below.drewN' (Below.refl _ _) n).alloc (Nat.le_refl _) _
    generalize hl4 : (l.drop 4).take G = l4 at *
    have HO := Lib.hid hown
    have HB := Lib.hid hbyt
    have HZ := Lib.hid hsz
    have HL := Lib.hid hbel
    clear hown hbyt hsz hbel u4 hl4
    go_wp2_with (first
      | (refine wpList_slice_lh (o := ⟨some 34, _, _, _, _, _⟩) rfl _ _ _ 22 5 rfl Tryd.underlying22 1 (by kernel_rfl) b off l.length c rfl _ _ _ _ rfl rfl 4 (G + 4) rfl (by omega) (by omega) (by omega) (by omega) ?_; rw [Nat.mul_one, Nat.add_sub_cancel]; go_loud (simp only [Act.put, List.setIfInBounds_toArray, List.set_cons_succ, List.set_cons_zero]))
      | (at_builtin; refine wpList_append_byt rfl _ _ rfl w.heap.size (.slice (some ⟨w.heap.size, 0, none⟩) 0 0) [] ?qq1 ?qq6 (.slice (some ⟨b, off + 4, none⟩) G (c - 4)) l4 ?qq2 ?qq5 ?qq3 ?qq7 ?qq4; all_goals (first | rfl | exact HO.out _ | exact HB.out _ | exact HZ.out _ | (simp; omega) | (intro v2 w2 ho2 hb2; have hb3 := (HL.out _).trans hb2; clear HO HB HZ HL hb2; generalize c - 4 = c4 at *; generalize off + 4 = o4 at *))))
    rw [List.nil_append] at ho2
    go_ret3
    refine ⟨v2, ?_, ho2, hb3⟩
    have e9 : ((G + 8 : Nat) : Int) = (G : Int) + 8 := by omega
    show Ending.returned (.tuple #[v2, .int .i64 ((G : Int) + 8), .int .i64 0]) = Ending.returned (.tuple #[v2, .int .i64 ((G + 8 : Nat) : Int), .int .i64 0])
    rw [e9]
  · have b4 : ((Y : Int) != (X.toNat : Int)) = true := by
      simp; intro h; apply c4; apply BitVec.eq_of_toNat_eq; simp; omega
    clear c4
    go_enter Tryd.func16, Tryd.ntmps16
    go_wp2_with (go_at_call 28; refine (getR_any _ _ _ hv (by omega)).mono ?_; rw [HG.out]; rintro e w' ⟨rfl, rfl⟩)
    go_quiet ((first | exact R1.out _ | exact R2.out _))
    go_wp2
    go_ret3
    exact ⟨_, rfl, World.ownsRow_nil _ _ _ _, Below.drewN' (Below.refl _ _) _⟩

theorem NextR_any (v : Value) (l : List UInt8) (w : World) (hv : Byt w v l) (hl : l.length ≤ 140737488355328) :
    Calls Tryd.prog 16 #[v] w (NextRetR w (nextOf l)) := by
  obtain ⟨ao, c, rfl, h1, h2, h0, h3⟩ := hv.open
  unfold maxLen at h2
  unfold nextOf
  by_cases c1 : l.length < 4
  · rw [if_pos c1]
    clear h3
    go_enter Tryd.func16, Tryd.ntmps16
    go_wp2
    go_ret3
    exact ⟨_, rfl, World.ownsRow_nil _ _ _ _, Below.refl _ _⟩
  · rw [if_neg c1]
    have hg := get32_lt l
    by_cases c2 : 65536 < get32 l
    · rw [if_pos c2]
      clear h3
      go_enter Tryd.func16, Tryd.ntmps16
      go_wp2_with (go_at_call 28; refine (getR_any _ _ _ hv (by omega)).mono ?_; rintro e w' ⟨rfl, rfl⟩)
      go_ret3
      exact ⟨_, rfl, World.ownsRow_nil _ _ _ _, Below.refl _ _⟩
    · rw [if_neg c2]
      by_cases c3 : l.length < get32 l + 8
      · rw [if_pos c3]
        clear h3
        go_enter Tryd.func16, Tryd.ntmps16
        go_wp2_with (go_at_call 28; refine (getR_any _ _ _ hv (by omega)).mono ?_; rintro e w' ⟨rfl, rfl⟩)
        go_ret3
        exact ⟨_, rfl, World.ownsRow_nil _ _ _ _, Below.refl _ _⟩
      · rw [if_neg c3]
        obtain ⟨b, off, rfl, hb, hc0⟩ := h3 0 (by omega)
        refine nextR_deep b off c l w hv hl h1 h2 c1 c2 c3 _ ?_
        by_cases c4 : crcSum (l.take (get32 l + 4)) = BitVec.ofNat 32 (get32 (l.drop (get32 l + 4)))
        · rw [if_neg (by simpa using c4)]
          exact Or.inl ⟨c4, rfl⟩
        · rw [if_pos c4]
          exact Or.inr ⟨c4, rfl⟩
end Go.Proofs.YtbllooaalodhaaaDoor
