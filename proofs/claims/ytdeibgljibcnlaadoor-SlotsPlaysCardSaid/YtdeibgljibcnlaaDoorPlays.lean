/- SlotsPlays answers true. -/
import Derived.Test.YtdeibgljibcnlaaDoorPlays2
import Derived.Test.YtdeibgljibcnlaaDoorViewSteps
import Derived.Test.YtdeibgljibcnlaaDoorBlock
import Derived.Test.YtdeibgljibcnlaaDoorRound
import Derived.Test.YtdeibgljibcnlaaDoorAwake11
import Derived.BigQuiet
import Derived.Deep.QuietTactic
import Derived.Deep.CutBlock
namespace Go.Proofs.YtdeibgljibcnlaaDoor
open Go.RowKit Go.ChangeShapes Go.WideShapes

set_option maxRecDepth 100000 in
set_option maxHeartbeats 4000000 in
theorem plays_in (kind id : Nat) (hk : kind ≤ 255) (hid : id ≤ 4294967295) (l : List StepL) (v : Value) (w : World) (hg : ErrT w) (hl : Steps w v l) (h150 : l.length ≤ 150) :
    Calls Tryd.prog 4 #[.int .i64 kind, .int .i64 id, v] w fun e w' => e = .returned (.bool true) ∧ Below w.heap.size w w' := by
  obtain ⟨ao, c, rfl, hl1, hl2, hl3⟩ := hl
  unfold maxLen at hl2
  have HC := Lib.hid hl3
  have K1 := Lib.hid (NewP_ok w.heap.size kind id w (by omega) (by omega) (Nat.le_refl _))
  have K2 := Lib.hid (fun w => RNew_ok kind id w (by omega) (by omega))
  have t1 : decide ((150 : Int) < (l.length : Int)) = false := by simp; omega
  clear hl3
  go_enter Tryd.func4, Tryd.ntmps4
  go_wp2_with fail
  refine K1.out.mono ?_
  rintro e w1 ⟨p, rfl, p1, b1⟩
  have P1 := Lib.hid p1
  clear p1
  go_wp2_with fail
  refine (K2.out _).mono ?_
  rintro e w2 ⟨q, rfl, q2, b2⟩
  have PL := Lib.hid (PlayIs.start P1.out b2 (q2 _ b1.size))
  have B2 := b1.trans (b2.mono b1.size)
  have IS := Lib.hid (IsE_any 0 0 (by decide) .nilIface w2 rfl (hg.below B2 hg.lt))
  clear q2
  go_wp2_with fail
  refine IS.out.mono ?_
  rintro e w3 ⟨rfl, b3⟩
  have PL3 := Lib.hid (PL.out.below b3)
  have B3 := B2.trans (b3.mono B2.size)
  clear IS PL
  go_wp2_with fail
  go_loopw [7, 11] (fun pp i wr => ∃ (k pb : Nat) (st : List SlotL), k ≤ l.length ∧ i = .int .i64 k ∧ pp = .pointer (some ⟨pb, 0, none⟩) ∧ PlayIs wr w.heap.size pb q kind id st ∧ Below w.heap.size w wr) (fun _ i _ => l.length - (intOf i).toNat)
  case atStart => exact ⟨0, p, [], Nat.zero_le _, rfl, rfl, PL3.out, B3⟩
  case round =>
    obtain ⟨k, pb, st, hk', rfl, rfl, hpl, hb⟩ := hrel
    have HPL := Lib.hid hpl
    clear hpl
    by_cases hlt : k < l.length
    · have t3 : decide ((k : Int) < (l.length : Int)) = true := by simp; omega
      obtain ⟨b, off, rfl, hbl, q0, q1, q2⟩ := HC.out k hlt
      generalize l[k].kind = K at *
      generalize l[k].slot = sl at *
      generalize l[k].size = sz at *
      have c0 := (hb.cell (p := ⟨b, off + k * 3, none⟩) hbl).trans q0
      have c1 := (hb.cell (p := ⟨b, off + k * 3 + 1, none⟩) hbl).trans q1
      have c2 := (hb.cell (p := ⟨b, off + k * 3 + 2, none⟩) hbl).trans q2
      have i0 : (0 : Int) ≤ (k : Int) := by omega
      have i1 : (k : Int) < (l.length : Int) := by omega
      have RN := Lib.hid (fun w => Round_any sz 500 w (by omega) (by omega))
      obtain ⟨x, hx, hx2⟩ : ∃ x : Nat, sz % (500 : Nat) = (x : Int) ∧ x < 500 := ⟨(sz % 500).toNat, by omega, by omega⟩
      rw [hx] at RN
      have BK := Lib.hid (fun w => Block_any x k w (by omega) (by omega) (by omega))
      have HA : Below wr.heap.size wr (wr.alloc (.cells #[.int .i64 K, .int .i64 sl, .int .i64 sz] 42)) := (Below.refl _ _).alloc (Nat.le_refl _) _
      have HG0 : (wr.alloc (.cells #[.int .i64 K, .int .i64 sl, .int .i64 sz] 42)).heap[wr.heap.size]? = some (.cells #[.int .i64 K, .int .i64 sl, .int .i64 sz] 42 (0, 0)) := heap_alloc_new _ _
      have HG := Lib.hid HG0
      have HLT := Lib.hid (lt_of_block HG0)
      have PLA := Lib.hid (HPL.out.below HA)
      have BA := hb.trans (HA.mono hb.size)
      clear hx q0 q1 q2 HA HG0
      go_wp2_with fail
      generalize wr.alloc (.cells #[.int .i64 K, .int .i64 sl, .int .i64 sz] 42) = wa at *
      generalize wr.heap.size = g at *
      refine (RN.out _).mono ?_
      rintro e w4 ⟨rfl, rfl⟩
      go_wp2_with fail
      refine (BK.out _).mono ?_
      rintro e w3 ⟨v3, l3, rfl, hl3, o3, b3⟩
      have B3 := BA.trans (b3.mono BA.size)
      have PL3 := Lib.hid (PLA.out.below b3)
      have h3 := (b3.block g HLT.out).trans HG.out
      have d0 : w3.cell? ⟨g, 0, none⟩ = some (.int .i64 K) := by simp [World.cell?, h3]
      have d1 : w3.cell? ⟨g, 1, none⟩ = some (.int .i64 sl) := by simp [World.cell?, h3]
      have H3 := Lib.hid h3
      have O3 := Lib.hid (show Own w3 w.heap.size v3 l3 from own_base o3 BA.size)
      obtain ⟨ao3, ca3, rfl, _⟩ := Rd.of_own o3
      have hl3' : l3.length ≤ 1000000 := by omega
      clear o3 HPL PLA c0 c1 c2 h3 hl3 HG HLT b3
      go_upto_block 2 with fail
      go_cut [7, 14, 15, 16, 17, 18, 19, 20, 21, 22, 23, 24] from 55 to 183 (fun s7 s14 s15 s16 s17 s18 s19 s20 s21 s22 s23 s24 wx => s14 = .bool true ∧ ∃ (pb' : Nat) (st' : List SlotL), s7 = .pointer (some ⟨pb', 0, none⟩) ∧ PlayIs wx w.heap.size pb' q kind id st' ∧ Below w.heap.size w wx)
      case first =>
        by_cases hk1 : K = 1
        · subst hk1
          obtain ⟨k1, j1, st1, hk15, IN⟩ := PL3.out.insert _ l3 O3.out hl3'
          have IN' := Lib.hid IN
          clear IN
          have HK := Lib.hid hk15
          by_cases hz : k1 = 0
          · subst hz
            simp only [if_true] at IN'
            go_wp2_with fail
            refine IN'.out.mono ?_
            rintro e w5 ⟨u5, rfl, _, f5, IN2⟩
            have IN2' := Lib.hid IN2
            have B5 := B3.trans f5.below
            clear IN2 IN' f5
            go_wp2_with fail
            refine IN2'.out.mono ?_
            rintro e w6 ⟨rfl, hu6, pl6, f6⟩
            have B6 := B5.trans f6.below
            have IS := Lib.hid (IsE_any j1 0 HK.out u5 w6 hu6 (hg.below B6 hg.lt))
            have PL6 := Lib.hid pl6
            clear pl6 hu6 IN2' f6
            go_wp2_with fail
            refine IS.out.mono ?_
            rintro e w7 ⟨rfl, b7⟩
            have PL7 := Lib.hid (PL6.out.below b7)
            have B7 := B6.trans (b7.mono B6.size)
            clear IS PL6
            go_wp2_with fail
            go_meet
            exact ⟨rfl, _, _, rfl, PL7.out, B7⟩
          · rw [if_neg hz] at IN'
            have z1 : (k1 != 0) = true := by simpa using hz
            have z2 : (k1 == 0) = false := by simpa using hz
            clear hz
            go_wp2_with fail
            refine IN'.out.mono ?_
            rintro e w5 ⟨u5, rfl, _, f5, IN2⟩
            have IN2' := Lib.hid IN2
            have B5 := B3.trans f5.below
            clear IN2 IN' f5
            go_wp2_with fail
            refine IN2'.out.mono ?_
            rintro e w6 ⟨rfl, hu6, pl6, f6⟩
            have B6 := B5.trans f6.below
            have IS := Lib.hid (IsE_any j1 k1 HK.out u5 w6 hu6 (hg.below B6 hg.lt))
            have PL6 := Lib.hid pl6
            clear pl6 hu6 IN2' f6
            go_wp2_with fail
            refine IS.out.mono ?_
            rintro e w7 ⟨rfl, b7⟩
            have PL7 := Lib.hid (PL6.out.below b7)
            have B7 := B6.trans (b7.mono B6.size)
            clear IS PL6
            go_wp2_with fail
            go_meet
            exact ⟨rfl, _, _, rfl, PL7.out, B7⟩
        · have k1 : (K == 1) = false := by simpa using hk1
          clear hk1
          by_cases hk2 : K = 2
          · subst hk2
            have bd : Below w3.heap.size w3 w3.drew := bel_drewN (Below.refl _ _) 1
            obtain ⟨k1, st1, hk15, carry⟩ := (PL3.out.below bd).set sl _ l3 (own_below' (show w3.ownsRow w.heap.size 5 1 _ l3.length (bytesV l3) from O3.out) bd) hl3'
            have HK := Lib.hid hk15
            have BD : Below w.heap.size w w3.drew := B3.trans (bd.mono B3.size)
            clear bd hk15
            go_upto_region 21 with fail
            refine wp_region_noPanic ?_
            refine wp_region_held_drew (S := fun w' => w'.heap[g]? = some (.cells #[.int .i64 2, .int .i64 sl, .int .i64 sz] 42 (0, 0))) (by kernel_rfl) (H3.out) (fun hHeld => ?_)
            generalize w3.drew = D at hHeld carry BD ⊢
            have kh := hHeld
            refine wpAnyH_take (i := 0) (oi := ⟨some 109, _, _, _, _, _⟩) (v := ?qv0p2) rfl (by kernel_rfl) (by kernel_rfl) (by kernel_rfl) (fun _ _ _ h => h) (Or.inl ⟨by rfl, ?qy0p2⟩) hHeld ?qr0p2
            case qy0p2 => (intro w' hSw; go_simp; try with_reducible rfl)
            try simp only [Act.put, List.setIfInBounds_toArray, List.set_cons_zero, List.set_cons_succ]
            refine wpAnyH_take (i := 1) (oi := ⟨some 110, _, _, _, _, _⟩) (v := ?qv1p2) rfl (by kernel_rfl) (by kernel_rfl) (by kernel_rfl) (fun _ _ _ h => h) (Or.inl ⟨by rfl, ?qy1p2⟩) hHeld ?qr1p2
            case qy1p2 => (intro w' hSw; go_simp; try with_reducible rfl)
            try simp only [Act.put, List.setIfInBounds_toArray, List.set_cons_zero, List.set_cons_succ]
            refine wpAnyH_take (i := 2) (oi := ⟨some 111, _, _, _, _, _⟩) (v := ?qv2p2) rfl (by kernel_rfl) (by kernel_rfl) (by kernel_rfl) (fun _ _ _ h => h) (Or.inl ⟨by rfl, ?qy2p2⟩) hHeld ?qr2p2
            case qy2p2 => (intro w' hSw; have z2 : w'.cell? ⟨g, 1, none⟩ = some (.int .i64 sl) := (by simp [World.cell?, hSw]); go_simp; try with_reducible rfl)
            try simp only [Act.put, List.setIfInBounds_toArray, List.set_cons_zero, List.set_cons_succ]
            refine wpAnyH_take (i := 3) (oi := ⟨some 112, _, _, _, _, _⟩) (v := ?qv3p2) rfl (by kernel_rfl) (by kernel_rfl) (by kernel_rfl) (fun _ _ _ h => h) (Or.inl ⟨by rfl, ?qy3p2⟩) hHeld ?qr3p2
            case qy3p2 => (intro w' hSw; go_simp; try with_reducible rfl)
            try simp only [Act.put, List.setIfInBounds_toArray, List.set_cons_zero, List.set_cons_succ]
            refine wpAnyH_take (i := 5) (oi := ⟨some 114, _, _, _, _, _⟩) (v := ?qv5p2) rfl (by kernel_rfl) (by kernel_rfl) (by kernel_rfl) (fun _ _ _ h => h) (Or.inl ⟨by rfl, ?qy5p2⟩) hHeld ?qr5p2
            case qy5p2 => (intro w' hSw; go_simp; try with_reducible rfl)
            try simp only [Act.put, List.setIfInBounds_toArray, List.set_cons_zero, List.set_cons_succ]
            refine wpAnyH_take (i := 6) (oi := ⟨some 115, _, _, _, _, _⟩) (v := ?qv6p2) rfl (by kernel_rfl) (by kernel_rfl) (by kernel_rfl) (fun _ _ _ h => h) (Or.inl ⟨by rfl, ?qy6p2⟩) hHeld ?qr6p2
            case qy6p2 => (intro w' hSw; go_simp; try with_reducible rfl)
            try simp only [Act.put, List.setIfInBounds_toArray, List.set_cons_zero, List.set_cons_succ]
            refine wpAnyH_take (i := 7) (oi := ⟨some 116, _, _, _, _, _⟩) (v := ?qv7p2) rfl (by kernel_rfl) (by kernel_rfl) (by kernel_rfl) (fun _ _ _ h => h) (Or.inl ⟨by rfl, ?qy7p2⟩) hHeld ?qr7p2
            case qy7p2 => (intro w' hSw; have z2 : w'.cell? ⟨g, 1, none⟩ = some (.int .i64 sl) := (by simp [World.cell?, hSw]); go_simp; try with_reducible rfl)
            try simp only [Act.put, List.setIfInBounds_toArray, List.set_cons_zero, List.set_cons_succ]
            refine wpAnyH_take (i := 8) (oi := ⟨some 117, _, _, _, _, _⟩) (v := ?qv8p2) rfl (by kernel_rfl) (by kernel_rfl) (by kernel_rfl) (fun _ _ _ h => h) (Or.inl ⟨by rfl, ?qy8p2⟩) hHeld ?qr8p2
            case qy8p2 => (intro w' hSw; go_simp; try with_reducible rfl)
            try simp only [Act.put, List.setIfInBounds_toArray, List.set_cons_zero, List.set_cons_succ]
            refine wpAnyH_take (i := 10) (oi := ⟨some 119, _, _, _, _, _⟩) (v := ?qv10p2) rfl (by kernel_rfl) (by kernel_rfl) (by kernel_rfl) (fun _ _ _ h => h) (Or.inl ⟨by rfl, ?qy10p2⟩) hHeld ?qr10p2
            case qy10p2 => (intro w' hSw; go_simp; try with_reducible rfl)
            try simp only [Act.put, List.setIfInBounds_toArray, List.set_cons_zero, List.set_cons_succ]
            refine wpAnyH_take (i := 11) (oi := ⟨some 120, _, _, _, _, _⟩) (v := ?qv11p2) rfl (by kernel_rfl) (by kernel_rfl) (by kernel_rfl) (fun _ _ _ h => h) (Or.inl ⟨by rfl, ?qy11p2⟩) hHeld ?qr11p2
            case qy11p2 => (intro w' hSw; have z2 : w'.cell? ⟨g, 1, none⟩ = some (.int .i64 sl) := (by simp [World.cell?, hSw]); go_simp; try with_reducible rfl)
            try simp only [Act.put, List.setIfInBounds_toArray, List.set_cons_zero, List.set_cons_succ]
            refine wpAnyH_ready (rs := [4]) (by kernel_rfl) (by simp) ?_
            refine AllReadyH.cons (o := ⟨some 113, _, _, _, _, _⟩) rfl (fun K hK => ?_) AllReadyH.nil
            refine step_go (by rfl) 15 _ _ (by rfl) (fun _ _ => by kernel_rfl) _ (by rfl) (carry) ?_
            rintro e w5 ⟨u5, rfl, _, f5, IN2⟩
            refine ⟨_, rfl, ?_⟩
            have kh5 := (f5.kept g _ _ _ kh (by decide) (by decide)).trans kh
            refine hK.out _ _ (kh5) (fun hHeld => ?_)
            clear hK K
            try simp only [Act.put, List.setIfInBounds_toArray, List.set_cons_zero, List.set_cons_succ]
            refine wpAnyH_ready (rs := [9]) (by kernel_rfl) (by simp) ?_
            refine AllReadyH.cons (o := ⟨some 118, _, _, _, _, _⟩) rfl (fun K hK => ?_) AllReadyH.nil
            refine step_go (by rfl) 16 _ _ (by rfl) (fun _ _ => by kernel_rfl) _ (by rfl) (IN2) ?_
            rintro e w6 ⟨rfl, hu6, pl6, f6⟩
            refine ⟨_, rfl, ?_⟩
            have kh6 := (f6.kept g _ _ _ kh5 (by decide) (by decide) (by decide)).trans kh5
            have B6 := (BD.trans f5.below).trans f6.below
            refine hK.out _ _ (kh6) (fun hHeld => ?_)
            clear hK K
            try simp only [Act.put, List.setIfInBounds_toArray, List.set_cons_zero, List.set_cons_succ]
            refine wpAnyH_ready (rs := [12]) (by kernel_rfl) (by simp) ?_
            refine AllReadyH.cons (o := ⟨some 121, _, _, _, _, _⟩) rfl (fun K hK => ?_) AllReadyH.nil
            refine step_go (by rfl) 12 _ _ (by rfl) (fun _ _ => by kernel_rfl) _ (by rfl) (IsE_any sl k1 HK.out u5 w6 hu6 (hg.below B6 hg.lt)) ?_
            rintro e w7 ⟨rfl, b7⟩
            refine ⟨_, rfl, ?_⟩
            refine hK.out _ _ ((b7.block g (lt_of_block kh6)).trans kh6) (fun hHeld => ?_)
            clear hK K
            try simp only [Act.put, List.setIfInBounds_toArray, List.set_cons_zero, List.set_cons_succ]
            refine wpAnyH_take (i := 13) (oi := ⟨some 14, _, _, _, _, _⟩) (v := ?qv13p2) rfl (by kernel_rfl) (by kernel_rfl) (by kernel_rfl) (fun _ _ _ h => h) (Or.inl ⟨by rfl, ?qy13p2⟩) hHeld ?qr13p2
            case qy13p2 => (intro w' hSw; go_simp; try with_reducible rfl)
            try simp only [Act.put, List.setIfInBounds_toArray, List.set_cons_zero, List.set_cons_succ]
            refine wpAnyH_done (by kernel_rfl) ?_ _
            refine NoPanic.normal ?_
            have PL7 := Lib.hid (pl6.below b7)
            have B7 := B6.trans (b7.mono B6.size)
            clear pl6 hu6 f5 f6 IN2 carry hHeld kh kh5 kh6
            go_wp2_with fail
            go_meet
            exact ⟨rfl, _, _, rfl, PL7.out, B7⟩
          · have k2 : (K == 2) = false := by simpa using hk2
            clear hk2
            by_cases hk3 : K = 3
            · subst hk3
              have bd : Below w3.heap.size w3 w3.drew := bel_drewN (Below.refl _ _) 1
              obtain ⟨k1, st1, hk15, carry⟩ := (PL3.out.below bd).delete sl
              have HK := Lib.hid hk15
              have BD : Below w.heap.size w w3.drew := B3.trans (bd.mono B3.size)
              clear bd hk15
              go_upto_region 23 with fail
              refine wp_region_noPanic ?_
              refine wp_region_held_drew (S := fun w' => w'.heap[g]? = some (.cells #[.int .i64 3, .int .i64 sl, .int .i64 sz] 42 (0, 0))) (by kernel_rfl) (H3.out) (fun hHeld => ?_)
              generalize w3.drew = D at hHeld carry BD ⊢
              have kh := hHeld
              refine wpAnyH_take (i := 0) (oi := ⟨some 124, _, _, _, _, _⟩) (v := ?qv0p3) rfl (by kernel_rfl) (by kernel_rfl) (by kernel_rfl) (fun _ _ _ h => h) (Or.inl ⟨by rfl, ?qy0p3⟩) hHeld ?qr0p3
              case qy0p3 => (intro w' hSw; go_simp; try with_reducible rfl)
              try simp only [Act.put, List.setIfInBounds_toArray, List.set_cons_zero, List.set_cons_succ]
              refine wpAnyH_take (i := 1) (oi := ⟨some 125, _, _, _, _, _⟩) (v := ?qv1p3) rfl (by kernel_rfl) (by kernel_rfl) (by kernel_rfl) (fun _ _ _ h => h) (Or.inl ⟨by rfl, ?qy1p3⟩) hHeld ?qr1p3
              case qy1p3 => (intro w' hSw; go_simp; try with_reducible rfl)
              try simp only [Act.put, List.setIfInBounds_toArray, List.set_cons_zero, List.set_cons_succ]
              refine wpAnyH_take (i := 2) (oi := ⟨some 126, _, _, _, _, _⟩) (v := ?qv2p3) rfl (by kernel_rfl) (by kernel_rfl) (by kernel_rfl) (fun _ _ _ h => h) (Or.inl ⟨by rfl, ?qy2p3⟩) hHeld ?qr2p3
              case qy2p3 => (intro w' hSw; have z2 : w'.cell? ⟨g, 1, none⟩ = some (.int .i64 sl) := (by simp [World.cell?, hSw]); go_simp; try with_reducible rfl)
              try simp only [Act.put, List.setIfInBounds_toArray, List.set_cons_zero, List.set_cons_succ]
              refine wpAnyH_take (i := 4) (oi := ⟨some 128, _, _, _, _, _⟩) (v := ?qv4p3) rfl (by kernel_rfl) (by kernel_rfl) (by kernel_rfl) (fun _ _ _ h => h) (Or.inl ⟨by rfl, ?qy4p3⟩) hHeld ?qr4p3
              case qy4p3 => (intro w' hSw; go_simp; try with_reducible rfl)
              try simp only [Act.put, List.setIfInBounds_toArray, List.set_cons_zero, List.set_cons_succ]
              refine wpAnyH_take (i := 5) (oi := ⟨some 129, _, _, _, _, _⟩) (v := ?qv5p3) rfl (by kernel_rfl) (by kernel_rfl) (by kernel_rfl) (fun _ _ _ h => h) (Or.inl ⟨by rfl, ?qy5p3⟩) hHeld ?qr5p3
              case qy5p3 => (intro w' hSw; go_simp; try with_reducible rfl)
              try simp only [Act.put, List.setIfInBounds_toArray, List.set_cons_zero, List.set_cons_succ]
              refine wpAnyH_take (i := 6) (oi := ⟨some 130, _, _, _, _, _⟩) (v := ?qv6p3) rfl (by kernel_rfl) (by kernel_rfl) (by kernel_rfl) (fun _ _ _ h => h) (Or.inl ⟨by rfl, ?qy6p3⟩) hHeld ?qr6p3
              case qy6p3 => (intro w' hSw; have z2 : w'.cell? ⟨g, 1, none⟩ = some (.int .i64 sl) := (by simp [World.cell?, hSw]); go_simp; try with_reducible rfl)
              try simp only [Act.put, List.setIfInBounds_toArray, List.set_cons_zero, List.set_cons_succ]
              refine wpAnyH_take (i := 8) (oi := ⟨some 132, _, _, _, _, _⟩) (v := ?qv8p3) rfl (by kernel_rfl) (by kernel_rfl) (by kernel_rfl) (fun _ _ _ h => h) (Or.inl ⟨by rfl, ?qy8p3⟩) hHeld ?qr8p3
              case qy8p3 => (intro w' hSw; go_simp; try with_reducible rfl)
              try simp only [Act.put, List.setIfInBounds_toArray, List.set_cons_zero, List.set_cons_succ]
              refine wpAnyH_take (i := 9) (oi := ⟨some 133, _, _, _, _, _⟩) (v := ?qv9p3) rfl (by kernel_rfl) (by kernel_rfl) (by kernel_rfl) (fun _ _ _ h => h) (Or.inl ⟨by rfl, ?qy9p3⟩) hHeld ?qr9p3
              case qy9p3 => (intro w' hSw; have z2 : w'.cell? ⟨g, 1, none⟩ = some (.int .i64 sl) := (by simp [World.cell?, hSw]); go_simp; try with_reducible rfl)
              try simp only [Act.put, List.setIfInBounds_toArray, List.set_cons_zero, List.set_cons_succ]
              refine wpAnyH_ready (rs := [3]) (by kernel_rfl) (by simp) ?_
              refine AllReadyH.cons (o := ⟨some 127, _, _, _, _, _⟩) rfl (fun K hK => ?_) AllReadyH.nil
              refine step_go (by rfl) 17 _ _ (by rfl) (fun _ _ => by kernel_rfl) _ (by rfl) (carry) ?_
              rintro e w5 ⟨u5, rfl, _, f5, IN2⟩
              refine ⟨_, rfl, ?_⟩
              have kh5 := (f5.kept g _ _ _ kh (by decide) (by decide)).trans kh
              refine hK.out _ _ (kh5) (fun hHeld => ?_)
              clear hK K
              try simp only [Act.put, List.setIfInBounds_toArray, List.set_cons_zero, List.set_cons_succ]
              refine wpAnyH_ready (rs := [7]) (by kernel_rfl) (by simp) ?_
              refine AllReadyH.cons (o := ⟨some 131, _, _, _, _, _⟩) rfl (fun K hK => ?_) AllReadyH.nil
              refine step_go (by rfl) 18 _ _ (by rfl) (fun _ _ => by kernel_rfl) _ (by rfl) (IN2) ?_
              rintro e w6 ⟨rfl, hu6, pl6, f6⟩
              refine ⟨_, rfl, ?_⟩
              have kh6 := (f6.kept g _ _ _ kh5 (by decide) (by decide) (by decide)).trans kh5
              have B6 := (BD.trans f5.below).trans f6.below
              refine hK.out _ _ (kh6) (fun hHeld => ?_)
              clear hK K
              try simp only [Act.put, List.setIfInBounds_toArray, List.set_cons_zero, List.set_cons_succ]
              refine wpAnyH_ready (rs := [10]) (by kernel_rfl) (by simp) ?_
              refine AllReadyH.cons (o := ⟨some 134, _, _, _, _, _⟩) rfl (fun K hK => ?_) AllReadyH.nil
              refine step_go (by rfl) 12 _ _ (by rfl) (fun _ _ => by kernel_rfl) _ (by rfl) (IsE_any sl k1 HK.out u5 w6 hu6 (hg.below B6 hg.lt)) ?_
              rintro e w7 ⟨rfl, b7⟩
              refine ⟨_, rfl, ?_⟩
              refine hK.out _ _ ((b7.block g (lt_of_block kh6)).trans kh6) (fun hHeld => ?_)
              clear hK K
              try simp only [Act.put, List.setIfInBounds_toArray, List.set_cons_zero, List.set_cons_succ]
              refine wpAnyH_take (i := 11) (oi := ⟨some 14, _, _, _, _, _⟩) (v := ?qv11p3) rfl (by kernel_rfl) (by kernel_rfl) (by kernel_rfl) (fun _ _ _ h => h) (Or.inl ⟨by rfl, ?qy11p3⟩) hHeld ?qr11p3
              case qy11p3 => (intro w' hSw; go_simp; try with_reducible rfl)
              try simp only [Act.put, List.setIfInBounds_toArray, List.set_cons_zero, List.set_cons_succ]
              refine wpAnyH_done (by kernel_rfl) ?_ _
              refine NoPanic.normal ?_
              have PL7 := Lib.hid (pl6.below b7)
              have B7 := B6.trans (b7.mono B6.size)
              clear pl6 hu6 f5 f6 IN2 carry hHeld kh kh5 kh6
              go_wp2_with fail
              go_meet
              exact ⟨rfl, _, _, rfl, PL7.out, B7⟩
            · have k3 : (K == 3) = false := by simpa using hk3
              clear hk3
              by_cases hk4 : K = 4
              · subst hk4
                obtain ⟨k1, hk15, GE⟩ := PL3.out.get sl
                have HK := Lib.hid hk15
                have GE' := Lib.hid GE
                clear GE hk15
                go_wp2_with fail
                refine GE'.out.mono ?_
                rintro e w5 ⟨v5, u5, rfl, b5, RG⟩
                have RG' := Lib.hid RG
                have PL5 := Lib.hid (PL3.out.below b5)
                have B5 := B3.trans (b5.mono B3.size)
                have h5 := (b5.block g (lt_of_block H3.out)).trans H3.out
                have d5 : w5.cell? ⟨g, 1, none⟩ = some (.int .i64 sl) := by simp [World.cell?, h5]
                have H5 := Lib.hid h5
                clear RG GE' PL3 h5 b5
                go_wp2_with fail
                refine RG'.out.mono ?_
                rintro e w6 ⟨v6, bs, rfl, y5, y6, hu, rfl⟩
                have BY := Lib.hid (BytesE_any _ _ _ _ y5 y6)
                have IS := Lib.hid (fun w' (h : Below w5.heap.size w5 w') => IsE_any sl k1 HK.out u5 w' (hu.below h) (hg.below (B5.trans (h.mono B5.size)) hg.lt))
                clear y5 y6 hu RG'
                go_wp2_with fail
                refine BY.out.mono ?_
                rintro e w7 ⟨rfl, b7⟩
                have PL7 := Lib.hid (PL5.out.below b7)
                have B7 := B5.trans (b7.mono B5.size)
                have h7 := (b7.block g (lt_of_block H5.out)).trans H5.out
                have d7 : w7.cell? ⟨g, 1, none⟩ = some (.int .i64 sl) := by simp [World.cell?, h7]
                have IS7 := Lib.hid (IS.out _ b7)
                clear PL5 BY h7 IS b7
                go_wp2_with fail
                refine IS7.out.mono ?_
                rintro e w8 ⟨rfl, b8⟩
                have PL8 := Lib.hid (PL7.out.below b8)
                have B8 := B7.trans (b8.mono B7.size)
                clear PL7 IS7 b8
                go_wp2_with fail
                go_meet
                exact ⟨rfl, _, _, rfl, PL8.out, B8⟩
              · have k4 : (K == 4) = false := by simpa using hk4
                clear hk4
                by_cases hk5 : K = 5
                · subst hk5
                  have PB := Lib.hid (PBytes_any (kind := kind) (id := id) PL3.out.2.1)
                  go_wp2_with fail
                  refine PB.out.mono ?_
                  rintro e w5 ⟨g5, rfl, _, K5, b5⟩
                  have B5 := B3.trans (b5.mono B3.size)
                  have PA := Lib.hid ((PL3.out.below b5).parse hk hid K5 B5.size)
                  clear K5 PB PL3 b5
                  go_wp2_with fail
                  refine PA.out.mono ?_
                  rintro e w6 ⟨p6, rfl, pl6, b6⟩
                  have PL6 := Lib.hid pl6
                  have B6 := B5.trans (b6.mono B5.size)
                  clear PA pl6 b6
                  go_wp2_with fail
                  go_meet
                  exact ⟨rfl, _, _, rfl, PL6.out, B6⟩
                · have k5 : (K == 5) = false := by simpa using hk5
                  clear hk5
                  go_wp2_with fail
                  go_meet
                  exact ⟨rfl, _, _, rfl, PL3.out, B3⟩
      case rest =>
        obtain ⟨rfl, pb', st', rfl, plc, bc⟩ := hcut
        have PLC := Lib.hid plc
        have SA := Lib.hid (plc.same hk hid)
        clear plc PL3 O3 H3 d0 d1
        go_wp2_with fail
        refine SA.out.mono ?_
        rintro e w8 ⟨rfl, b8⟩
        have PL8 := Lib.hid (PLC.out.below b8)
        have B8 := bc.trans (b8.mono bc.size)
        clear PLC SA b8
        go_wp2_with fail
        go_roundw
        case rel => exact ⟨k + 1, _, _, hlt, by go_num, rfl, PL8.out, B8⟩
        case measure => simp [intOf]; omega
    · obtain rfl : k = l.length := by omega
      have t3 : decide ((l.length : Int) < (l.length : Int)) = false := by simp
      have AW := Lib.hid (awake11_any wr)
      clear HPL
      go_wp2_with fail
      refine AW.out.mono ?_
      rintro e w9 ⟨rfl, b9⟩
      go_wp2_with fail
      go_ret
      exact ⟨rfl, hb.trans (b9.mono hb.size)⟩

set_option maxRecDepth 100000 in
theorem slotsPlays_any (kind id : Int) (l : List StepL) (v : Value) (w : World) (hg : ErrT w) (hl : Steps w v l) :
    Calls Tryd.prog 4 #[.int .i64 kind, .int .i64 id, v] w fun e w' => e = .returned (.bool true) ∧ Below w.heap.size w w' := by
  by_cases h : l.length ≤ 150
  · by_cases hok : (0 ≤ kind ∧ kind ≤ 255) ∧ 0 ≤ id ∧ id ≤ 4294967295
    · obtain ⟨kn, rfl⟩ := Int.eq_ofNat_of_zero_le hok.1.1
      obtain ⟨idn, rfl⟩ := Int.eq_ofNat_of_zero_le hok.2.1
      exact plays_in kn idn (by omega) (by omega) l v w hg hl h
    · have K1 := Lib.hid (NewP_err kind id w hok)
      have K2 := Lib.hid (fun w => RNew_err kind id w hok)
      obtain ⟨ao, c, rfl, hl1, hl2, hl3⟩ := hl
      unfold maxLen at hl2
      have t1 : decide ((150 : Int) < (l.length : Int)) = false := by simp; omega
      clear hl3 hok h
      go_enter Tryd.func4, Tryd.ntmps4
      go_wp2_with fail
      refine K1.out.mono ?_
      rintro e w1 ⟨u1, rfl, hu1, b1⟩
      have IS := Lib.hid (IsE_any 0 1 (by decide) u1 w1 hu1 (hg.below b1 hg.lt))
      clear hu1
      go_wp2_with fail
      refine (K2.out _).mono ?_
      rintro e w2 ⟨rfl, rfl⟩
      go_wp2_with fail
      refine IS.out.mono ?_
      rintro e w3 ⟨rfl, b3⟩
      have B3 := b1.trans (b3.mono b1.size)
      have AW := Lib.hid (awake11_any w3)
      clear IS
      go_wp2_with fail
      refine AW.out.mono ?_
      rintro e w9 ⟨rfl, b9⟩
      go_wp2_with fail
      go_ret
      exact ⟨rfl, B3.trans (b9.mono B3.size)⟩
  · have AW := Lib.hid (awake11_any w)
    obtain ⟨ao, c, rfl, hl1, hl2, hl3⟩ := hl
    unfold maxLen at hl2
    have t1 : decide ((150 : Int) < (l.length : Int)) = true := by simp; omega
    clear hl3
    go_enter Tryd.func4, Tryd.ntmps4
    go_wp2_with fail
    refine AW.out.mono ?_
    rintro e w9 ⟨rfl, b9⟩
    go_wp2_with fail
    go_ret
    exact ⟨rfl, b9⟩

set_option maxRecDepth 100000 in
theorem slotsPlays_calls {H : Type} {enc : TypeId × Value → H} {W : World} {base : Nat} {v0 v1 v2 : Value} {d0 d1 d2 : DataW H} {p0 p1 p2 : List MemPlace} (hg : ErrT W)
    (o0 : Value.okWide Tryd.prog W .any base 3 v0) (h0 : DataW.Trod enc Tryd.prog W 0 (fun _ => true) true 3 v0 d0 p0)
    (o1 : Value.okWide Tryd.prog W .any base 3 v1) (h1 : DataW.Trod enc Tryd.prog W 0 (fun _ => true) true 3 v1 d1 p1)
    (o2 : Value.okWide Tryd.prog W .any base 37 v2) (h2 : DataW.Trod enc Tryd.prog W 0 (fun _ => true) true 37 v2 d2 p2) :
    Calls Tryd.prog 4 #[v0, v1, v2] W fun e w' => e = .returned (.bool true) ∧ Below W.heap.size W w' := by
  obtain ⟨n, rfl, rfl, rfl, _⟩ := open_int Tryd.underlying3 o0 h0
  obtain ⟨m, rfl, rfl, rfl, _⟩ := open_int Tryd.underlying3 o1 h1
  obtain ⟨l, hl⟩ := view_steps o2 h2
  exact slotsPlays_any n m l v2 W hg hl
end Go.Proofs.YtdeibgljibcnlaaDoor
