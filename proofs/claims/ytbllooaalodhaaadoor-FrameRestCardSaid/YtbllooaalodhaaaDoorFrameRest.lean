/- FrameRest answers true, whatever it is given. -/
import Derived.Test.YtbllooaalodhaaaDoorFrameTorn
import Derived.Test.YtbllooaalodhaaaDoorFrameFlips
namespace Go.Proofs.YtbllooaalodhaaaDoor
open Go.RowKit Go.ChangeShapes

/-- whole frames are told, and then what stands behind them -/
theorem scan_ahead : ∀ (ls : List (List UInt8)) (X : List UInt8), (∀ p ∈ ls, p.length ≤ 65536) →
    scanOf (framesOf ls ++ X) = (ls ++ (scanOf X).1, (framesOf ls).length + (scanOf X).2.1, (scanOf X).2.2)
  | [], X, _ => by simp [framesOf]
  | p :: ps, X, hp => by
    have hfl := frameOf_length p
    have hnx := nextOf_frameOf p (framesOf ps ++ X) (hp p (by simp))
    have hd : (frameOf p ++ (framesOf ps ++ X)).drop (p.length + 8) = framesOf ps ++ X := by rw [← hfl, List.drop_left]
    have ih := scan_ahead ps X (fun q hq => hp q (by simp [hq]))
    have hl : 0 < (frameOf p ++ (framesOf ps ++ X)).length := by rw [List.length_append]; omega
    rw [framesOf, List.append_assoc, scanOf_ok hl (by rw [hnx]), hnx]
    simp only [hd, ih, List.length_append, hfl, List.cons_append]
    congr 2
    omega

/-- what the row holds behind n frames, of which the k-th is spoilt -/
def RestAt (ls : List (List UInt8)) (k n : Nat) (B : List UInt8) : Prop :=
  (n ≤ k ∧ B = framesOf (ls.take n)) ∨ (k < n ∧ ∃ i d r, ∃ (hk : k < ls.length) (hi : i < ls[k].length), d ≠ ls[k][i] ∧ B = framesOf (ls.take k) ++ ((frameOf ls[k]).set (4 + i) d ++ r))

theorem RestAt.zero (ls : List (List UInt8)) (k : Nat) : RestAt ls k 0 [] := Or.inl ⟨Nat.zero_le _, by simp [framesOf]⟩
theorem RestAt.step {ls : List (List UInt8)} {k n : Nat} {B : List UInt8} (h : RestAt ls k n B) (hn : n < ls.length) (hne : n ≠ k) : RestAt ls k (n + 1) (B ++ frameOf ls[n]) := by
  rcases h with ⟨h1, rfl⟩ | ⟨h1, i, d, r, hk, hi, hd, rfl⟩
  · exact Or.inl ⟨by omega, framesOf_snoc ls n hn⟩
  · exact Or.inr ⟨by omega, i, d, r ++ frameOf ls[n], hk, hi, hd, by simp only [List.append_assoc]⟩
theorem RestAt.turn {ls : List (List UInt8)} {k : Nat} {B : List UInt8} (h : RestAt ls k k B) (hk : k < ls.length) (i : Nat) (d : UInt8) (hi : i < ls[k].length) (hd : d ≠ ls[k][i]) :
    RestAt ls k (k + 1) (B ++ (frameOf ls[k]).set (4 + i) d) := by
  rcases h with ⟨_, rfl⟩ | ⟨h1, _⟩
  · exact Or.inr ⟨by omega, i, d, [], hk, hi, hd, by simp⟩
  · omega
theorem RestAt.scan {ls : List (List UInt8)} {k : Nat} {B : List UInt8} (h : RestAt ls k ls.length B) (hk : k < ls.length) (hl : ∀ p ∈ ls, p.length ≤ 65536) : scanOf B = (ls.take k, endOf ls k, 10) := by
  rcases h with ⟨h1, _⟩ | ⟨_, i, d, r, hk, hi, hd, rfl⟩
  · omega
  · have hnx := nextOf_flip ls[k] r (hl _ (List.getElem_mem hk)) i hi d hd
    have hlen : 0 < ((frameOf ls[k]).set (4 + i) d ++ r).length := by rw [List.length_append, List.length_set, frameOf_length]; omega
    rw [scan_ahead _ _ (fun p hp => hl p (List.mem_of_mem_take hp)), scanOf_bad hlen (by rw [hnx]; simp), hnx, endOf_take ls k (by omega)]
    simp

theorem rest_out (v : Value) (ls : List (List UInt8)) (k bit : Int) (w : World) (hv : Rws w v ls) (h : 20 < ls.length ∨ ls.length = 0) :
    Calls Tryd.prog 5 #[v, .int .i64 k, .int .i64 bit] w fun e w' => e = .returned (.bool true) ∧ Below w.heap.size w w' := by
  obtain ⟨vs, hvl, ⟨ao, c, rfl, h1, h2, h0, h3⟩, h4⟩ := hv
  clear h3 h4
  by_cases t1 : 20 < ls.length
  · have t1' : decide ((20 : Int) < (ls.length : Int)) = true := by simp; omega
    have t2' : ((ls.length : Int) == 0) = false := by rw [beq_eq_false_iff_ne]; omega
    clear h
    go_enter Tryd.func5, Tryd.ntmps5
    go_wp2_with (go_at_call 7; refine (awake_any _).mono ?_; rintro e w' ⟨rfl, hb5⟩)
    go_ret
    exact ⟨rfl, hb5⟩
  · have t2' : ((ls.length : Int) == 0) = true := by
      have : (ls.length : Int) = 0 := by omega
      rw [this]; rfl
    clear h
    go_enter Tryd.func5, Tryd.ntmps5
    go_wp2_with (go_at_call 7; refine (awake_any _).mono ?_; rintro e w' ⟨rfl, hb5⟩)
    go_ret
    exact ⟨rfl, hb5⟩

set_option maxRecDepth 100000 in
set_option maxHeartbeats 1000000 in
theorem rest_in (v : Value) (ls : List (List UInt8)) (cut bit : Int) (w : World) (hv : Rws w v ls) (hg : ErrT w) (hl : ls.length ≤ 20) (hl0 : 0 < ls.length) :
    Calls Tryd.prog 5 #[v, .int .i64 cut, .int .i64 bit] w fun e w' => e = .returned (.bool true) ∧ Below w.heap.size w w' := by
  have hv0 := hv
  obtain ⟨vs, hvl, ⟨ao, c, rfl, h1, h2, h0, h3⟩, h4⟩ := hv
  unfold maxLen at h2
  have t1' : decide ((20 : Int) < (ls.length : Int)) = false := by simp; omega
  have t2' : ((ls.length : Int) == 0) = false := by rw [beq_eq_false_iff_ne]; omega
  go_enter Tryd.func5, Tryd.ntmps5
  go_wp2_with fail
  refine (Total_any _ ls w hv0 hl).mono ?_
  rintro e w1 ⟨T, rfl, hT0, hT1, hT2, hb1⟩
  by_cases hT : T ≤ 3000
  case neg =>
    clear hT2 h3 h4
    go_wp2_with (go_at_call 7; refine (awake_any _).mono ?_; rintro e w' ⟨rfl, hb5⟩)
    go_ret
    exact ⟨rfl, hb1.trans (hb5.mono hb1.size)⟩
  have hsum := hT2 hT
  clear hT2
  have hs1 := hb1.size
  go_wp2_with fail
  refine (Round_at cut _ ls.length _ (by omega) (by omega) (by simp)).mono ?_
  rintro e w2 ⟨K, rfl, hK, rfl⟩
  obtain ⟨bK, offK, eK, hbK, hcK⟩ := h3 K (by omega)
  have hrowK := h4 K (by omega) hK
  obtain ⟨aoK, cpK, eK2, _⟩ := hrowK.open
  rw [eK2] at hcK
  have hcellK := (hb1.cell (p := ⟨bK, offK + K, none⟩) hbK).trans hcK
  subst eK
  have hKc : (K : Int) ≤ (c : Int) := by omega
  by_cases hK0 : ls[K].length = 0
  · have t3 : ((ls[K].length : Int) == 0) = true := by
      have : (ls[K].length : Int) = 0 := by omega
      rw [this]; rfl
    generalize hp : ls[K] = pK at *
    clear h3 h4
    go_wp2_with (go_at_call 7; refine (awake_any _).mono ?_; rintro e w' ⟨rfl, hb5⟩)
    go_ret
    exact ⟨rfl, hb1.trans (hb5.mono hb1.size)⟩
  have t3 : ((ls[K].length : Int) == 0) = false := by rw [beq_eq_false_iff_ne]; omega
  have hmK : Hid (ls[K].length ≠ 0) := hK0
  clear hK0
  generalize hpK : ls[K].length = mK at t3 hcellK
  have HpK := Lib.hid hpK
  clear hpK
  clear eK2 hrowK hcK
  go_wp2_with fail
  go_loopw [7, 8, 9] (fun bv av i wr => ∃ (n : Nat) (B : List UInt8) (A : Int), n ≤ ls.length ∧ i = .int .i64 n ∧ av = .int .i64 A ∧ Own wr w.heap.size bv B ∧ Hid (B.length = endOf ls n) ∧ Hid (K < n → A = endOf ls K) ∧ Hid (RestAt ls K n B) ∧ Below w.heap.size w wr) (fun _ _ i _ => ls.length - (intOf i).toNat)
  case atStart =>
    exact ⟨0, [], 0, Nat.zero_le _, rfl, rfl, World.ownsRow_nil _ _ _ _, by rw [endOf_zero]; rfl, (fun h => by omega), RestAt.zero ls K, hb1⟩
  case round =>
    obtain ⟨n, B, A, hn, rfl, rfl, hob, hBl, hA, hat, hbel⟩ := hrel
    have hsz := hbel.size
    have hEl := endOf_le ls n hn
    have hLl := lensOf_le ls n ls.length hn
    have hB4 : B.length ≤ 4000 := by rw [hBl.out]; omega
    by_cases hlt : n < ls.length
    · obtain ⟨b, off, ee, hb, hc⟩ := h3 n (by omega)
      cases ee
      have hrow := (h4 n (by omega) hlt).below hbel
      obtain ⟨ao2, c2, e2, _⟩ := hrow.open
      have hcell : wr.cell? ⟨bK, offK + n, none⟩ = some (.slice ao2 ls[n].length c2) := by
        rw [← e2]; exact (hbel.cell (p := ⟨bK, offK + n, none⟩) hb).trans hc
      rw [e2] at hrow
      have hrl := row_le ls n hlt
      have hEl1 := endOf_le ls (n + 1) hlt
      have hLl1 := lensOf_le ls (n + 1) ls.length hlt
      have hes : Hid (endOf ls (n + 1) = endOf ls n + (ls[n].length + 8)) := by
        have q1 := endOf_take ls (n + 1) hlt
        rw [← framesOf_snoc ls n hlt, List.length_append, endOf_take ls n hn, frameOf_length] at q1
        exact q1.symm
      have hfl : (frameOf ls[n]).length = ls[n].length + 8 := frameOf_length _
      have t4 : ((((frameOf ls[n]).length : Nat) : Int) != (ls[n].length : Int) + 8) = false := by rw [hfl]; simp
      clear hc e2
      by_cases hnK : n = K
      · subst hnK
        have t5 : ((n : Int) == (n : Int)) = true := by simp
        have hmn : ls[n].length = mK := HpK.out
        clear h3 h4 hA
        have HE0 := Lib.hid hBl.out
        generalize hF : frameOf ls[n] = F at *
        have HF := Lib.hid hF
        have Hfl := Lib.hid hfl
        have hF4 : F.length ≤ 4000 := by omega
        have hm0 : 0 < mK := by have := hmK.out; omega
        have hm3 : mK ≤ 3000 := by omega
        have HFm : Hid (F.length = mK + 8) := by unfold Hid; omega
        have t3' := t3
        rw [hmn] at t4 hcell hrow
        have HR := Lib.hid hrow
        have hpl : Hid (ls[n].length ≤ 65536) := by unfold Hid; omega
        clear hfl hF hmn hrow hrl hEl1 hLl1 hEl hLl
        go_wp2_with fail
        refine (Put_ok _ ls[n] _ HR.out hpl.out).mono ?_
        rw [HF.out]
        rintro e w2 ⟨v2, rfl, ho2, hb2⟩
        have hcell2 := (hb2.cell (p := ⟨bK, offK + n, none⟩) (Nat.lt_of_lt_of_le hb hsz)).trans hcell
        have hsz2 := hb2.size
        obtain ⟨g, cap, rfl, hgb, hgl⟩ := Own.form ho2 (by rw [HFm.out]; omega)
        obtain ⟨ao7, c7, rfl⟩ := hob.open
        go_wp2_with (go_at_call 9; refine (Round_at bit _ (8 * mK) _ (by omega) (by omega) (by simp)).mono ?_; rintro e w' ⟨J, rfl, hJ, rfl⟩)
        have hi : J / 8 < mK := by omega
        have hcB := World.ownsRow.cellAt ho2 (4 + J / 8) (by rw [HFm.out]; omega)
        have hfro := World.ownsRow.frozenAt ho2 (4 + J / 8)
        have hbl : 4 + J / 8 < F.length := by rw [HFm.out]; omega
        have hc1 : w2.cell? ⟨g, 4 + J / 8, none⟩ = some (.int .u8 (F[4 + J / 8].toNat : Int)) := by
          rw [hcB]; simp [bytesV, hbl]
        clear hcB
        have e1 : IntKind.i64.wrap (4 + (J : Int) / 8) = 4 + (J : Int) / 8 := by rw [IntWalk.i64_in _ (by omega)]
        have e0 : IntKind.i64.wrap ((J : Int) / 8) = (J : Int) / 8 := by rw [IntWalk.i64_in _ (by omega)]
        have e2 : (4 + (J : Int) / 8).toNat = 4 + J / 8 := by omega
        have e3 : (0 : Int) ≤ 4 + (J : Int) / 8 := by omega
        have e4 : (4 + (J : Int) / 8) < (F.length : Int) := by omega
        have hj8 : J % 8 < 8 := by omega
        generalize hj : J % 8 = j at hj8
        have e5 : (J : Int).tmod 8 = (j : Int) := by rw [Int.tmod_eq_emod_of_nonneg (by omega)]; omega
        have e6 : (J : Int) % 8 = (j : Int) := by omega
        have e7 : IntKind.i64.wrap (j : Int) = (j : Int) := by rw [IntWalk.i64_in _ (by omega)]
        have e8 : (0 : Int) ≤ (j : Int) := by omega
        have HJ := Lib.hid hj
        clear hj
        go_still_tail 15, (by kernel_rfl)
        change wpList _ _ _ _ _ w2.drew
        clear e0 e1 e7
        obtain ⟨d, hd1, hd2⟩ := flip_byte F[4 + J / 8] j hj8
        have hi2 : J / 8 < ls[n].length := by have := HpK.out; omega
        have hfl2 : F[4 + J / 8] = ls[n][J / 8] := by
          have q : F[4 + J / 8]? = (frameOf ls[n])[4 + J / 8]? := by rw [HF.out]
          have q2 : (frameOf ls[n])[4 + J / 8]? = ls[n][J / 8]? := by
            simp only [frameOf, List.append_assoc]
            rw [List.getElem?_append_right (by rw [le32_length]; omega), List.getElem?_append_left (by rw [le32_length]; omega)]
            congr 1
            rw [le32_length]; omega
          rw [q2, List.getElem?_eq_getElem hbl, List.getElem?_eq_getElem hi2] at q
          exact Option.some.inj q
        have hst := Own.stored (d := d) ho2 (4 + J / 8)
        have hbs : Below wr.heap.size wr (w2.setCell ⟨g, 4 + J / 8, none⟩ (.int .u8 (d.toNat : Int))).drew := (hb2.setCell hgb _).drew
        have hy := Rd.drew hst.byt
        rw [List.length_set] at hy
        have hob2 : Own (w2.setCell ⟨g, 4 + J / 8, none⟩ (.int .u8 (d.toNat : Int))).drew w.heap.size (.slice ao7 B.length c7) B := hob.below hbs
        have hbel2 := hbel.trans (hbs.mono hsz)
        have hsz2' := hbs.size
        have hat1 : Hid (RestAt ls n (n + 1) (B ++ F.set (4 + J / 8) d)) := by
          have := hat.out.turn hlt (J / 8) d hi2 (by rw [← hfl2]; exact hd2)
          rwa [HF.out] at this
        have hA1 : Hid (n < n + 1 → (B.length : Int) = endOf ls n) := fun _ => by rw [HE0.out]
        have hBl1 : Hid ((B ++ F.set (4 + J / 8) d).length = endOf ls (n + 1)) := by
          unfold Hid; rw [List.length_append, List.length_set, HE0.out, hes.out, Hfl.out]
        have HD := Lib.hid hd1
        have HS := Lib.hid hst
        clear hd1 hfl2 hst hd2 hat hBl
        go_wp2_with (at_builtin; rw [HD.out]; refine wpList_append_at (P := Tryd.prog) rfl _ _ 22 rfl w.heap.size 5 _ 1 1 Tryd.underlying22 info_u8 rfl (by decide) (.slice ao7 B.length c7) B.length (bytesV B) rfl hob2 (.slice (some ⟨g, 0, none⟩) F.length cap) F.length (bytesV (F.set (4 + J / 8) d)) rfl hy (by simp [bytesV]) (bytesV_one _) (by unfold maxLen; omega) (by omega) (by omega) ?_)
        intro v3 w3 ho3 hg3 hat3
        have ho3' : Own w3 w.heap.size v3 (B ++ F.set (4 + J / 8) d) := by
          unfold Own; rw [List.length_append, List.length_set, bytesV_append]; exact ho3
        have hbel3 : Below w.heap.size w w3 := hbel2.grown hg3 (by omega) (fun k hk => (World.ownsRow.lt hob2 k hk).1)
        clear ho3 hg3 hat3 hob2 ho2 hob hcell hcell2 hc1 hfro hy
        go_wp2
        go_roundw
        case rel => exact ⟨n + 1, B ++ F.set (4 + J / 8) d, B.length, by omega, by go_num, rfl, ho3', hBl1, hA1, hat1, hbel3⟩
        case measure => simp [intOf]; omega
      · have t5 : ((n : Int) == (K : Int)) = false := by rw [beq_eq_false_iff_ne]; omega
        have hat1 : Hid (RestAt ls K (n + 1) (B ++ frameOf ls[n])) := hat.out.step hlt hnK
        have hA1 : Hid (K < n + 1 → A = endOf ls K) := fun h => hA.out (by omega)
        have hBl1 : Hid ((B ++ frameOf ls[n]).length = endOf ls (n + 1)) := by
          unfold Hid; rw [List.length_append, hBl.out, hes.out, hfl]
        clear h3 h4 hat hA hBl
        generalize hp : ls[n] = p at *
        have Hp := Lib.hid hp
        have Hfl := Lib.hid hfl
        generalize hF : frameOf p = F at *
        have HF := Lib.hid hF
        have hF4 : F.length ≤ 4000 := by omega
        clear hp hfl hes hF
        go_wp2_with fail
        refine (Put_ok _ p _ hrow (by omega)).mono ?_
        rw [HF.out]
        rintro e w2 ⟨v2, rfl, ho2, hb2⟩
        have hob2 : Own w2 w.heap.size u7 B := hob.below hb2
        have hcell2 := (hb2.cell (p := ⟨bK, offK + n, none⟩) (Nat.lt_of_lt_of_le hb hsz)).trans hcell
        have hsz2 := hb2.size
        have hbel2 := hbel.trans (hb2.mono hsz)
        obtain ⟨g, cap, rfl, hgb, hgl⟩ := Own.form ho2 (by rw [Hfl.out]; omega)
        go_wp2_with (at_builtin; refine wpList_append_at (P := Tryd.prog) rfl _ _ 22 rfl w.heap.size 5 _ 1 1 Tryd.underlying22 info_u8 rfl (by decide) u7 B.length (bytesV B) rfl hob2 (.slice (some ⟨g, 0, none⟩) F.length cap) F.length (bytesV F) rfl ho2.byt (by simp [bytesV]) (bytesV_one _) (by unfold maxLen; omega) (by omega) (by omega) ?_)
        intro v3 w3 ho3 hg3 hat3
        have ho3' : Own w3 w.heap.size v3 (B ++ F) := by
          unfold Own; rw [List.length_append, bytesV_append]; exact ho3
        have hbel3 : Below w.heap.size w w3 := hbel2.grown hg3 (by omega) (fun k hk => (World.ownsRow.lt hob2 k hk).1)
        clear ho3 hg3 hat3 hob2 ho2 hob hcell hcell2
        go_wp2
        go_roundw
        case rel => exact ⟨n + 1, B ++ F, A, by omega, by go_num, rfl, ho3', hBl1, hA1, hat1, hbel3⟩
        case measure => simp [intOf]; omega
    · obtain rfl : n = ls.length := by omega
      have hAK : A = (endOf ls K : Int) := hA.out hK
      have hsc : scanOf B = (ls.take K, endOf ls K, 10) := hat.out.scan hK (fun p hp => by
        obtain ⟨i, hi, rfl⟩ := List.getElem_of_mem hp
        have := row_le ls i hi
        omega)
      have HS := Lib.hid hsc
      have hrt := (hv0.take (m := K) (by omega)).below hbel
      have hgr := hg.below hbel hg.lt
      clear hsc h3 h4 hA hat hBl
      subst hAK
      have hI : (Er.fault frameStr (endOf ls K : Int) (.num 10)).isB 10 frameStr (endOf ls K : Int) = true := by simp [Er.isB, Er.code, Er.root]
      obtain ⟨ao7, c7, rfl⟩ := hob.open
      go_wp2_with fail
      refine (Scan_any _ B wr hob.byt (by omega)).mono ?_
      rw [HS.out]
      rintro e w3 ⟨v3, u3, rfl, ho3, he3, hb3⟩
      have heE : Er.Is w3 (Er.fault frameStr (endOf ls K : Int) (.num 10)) u3 := he3
      have hrt3 := hrt.below hb3
      have hg3 := hgr.below hb3 hgr.lt
      have hro3 := ho3.rws
      have hb3' := hbel.trans (hb3.mono hbel.size)
      clear hob he3
      go_wp2_with (first
        | (go_at_call 14; refine (Rows_same _ _ _ _ hro3 hrt3).mono ?_; rintro e w4 ⟨rfl, hb4⟩; have he4 := heE.below hb4; have hg4 := hg3.below hb4 hg3.lt; have hb4' := hb3'.trans (hb4.mono hb3'.size))
        | (go_at_call 11; refine (IsA_any _ 10 frameStr _ _ _ he4 hg4).mono ?_; rw [hI]; rintro e w5 ⟨rfl, hb5⟩; have hb5' := hb4'.trans (hb5.mono hb4'.size))
        | (go_at_call 7; refine (awake_any _).mono ?_; rintro e w6 ⟨rfl, hb6⟩))
      go_ret
      exact ⟨rfl, hb5'.trans (hb6.mono hb5'.size)⟩

set_option maxRecDepth 100000 in
theorem frameRest_calls {H : Type} {enc : TypeId × Value → H} {W : World} {base : Nat} {v0 v1 v2 : Value} {d0 d1 d2 : DataW H} {p0 p1 p2 : List MemPlace} (hg : ErrT W)
    (o0 : Value.okWide Tryd.prog W .any base 33 v0) (h0 : DataW.Trod enc Tryd.prog W 0 (fun _ => true) true 33 v0 d0 p0)
    (o1 : Value.okWide Tryd.prog W .any base 3 v1) (h1 : DataW.Trod enc Tryd.prog W 0 (fun _ => true) true 3 v1 d1 p1)
    (o2 : Value.okWide Tryd.prog W .any base 3 v2) (h2 : DataW.Trod enc Tryd.prog W 0 (fun _ => true) true 3 v2 d2 p2) :
    Calls Tryd.prog 5 #[v0, v1, v2] W fun e w' => e = .returned (.bool true) ∧ Below W.heap.size W w' := by
  obtain ⟨ls, hls⟩ := view_rows o0 h0
  obtain ⟨n, rfl, rfl, rfl, hw⟩ := open_int Tryd.underlying3 o1 h1
  obtain ⟨m, rfl, rfl, rfl, hw2⟩ := open_int Tryd.underlying3 o2 h2
  by_cases h : 20 < ls.length ∨ ls.length = 0
  · exact rest_out _ ls n m W hls h
  · exact rest_in _ ls n m W hls hg (by omega) (by omega)
end Go.Proofs.YtbllooaalodhaaaDoor
