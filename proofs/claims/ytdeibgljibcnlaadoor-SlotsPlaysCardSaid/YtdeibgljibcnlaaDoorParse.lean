/- slots.parse, Parse. -/
import Derived.Test.YtdeibgljibcnlaaDoorParse1
import Derived.Test.YtdeibgljibcnlaaDoorEqualB
namespace Go.Proofs.YtdeibgljibcnlaaDoor
open Go.RowKit

theorem pageB_length (kind id : Nat) (st : List SlotL) (hs : sizeS st ≤ 512) : (pageB kind id st).length = 512 := by
  unfold pageB
  rw [wr4_length]
  exact (layB_ok kind id st hs st.length (Nat.le_refl _)).2.2
theorem lastFree_at {r : List SlotV} (h : r.length - 1 < r.length) : lastFree (snds r) = !(r[r.length - 1].2.isSome) := by
  unfold lastFree
  have hl : (snds r).length = r.length := by simp [snds]
  have e : (snds r).getLast? = some r[r.length - 1].2 := by
    rw [List.getLast?_eq_getElem?, hl]
    simp [snds, h]
  rw [e]
  cases r[r.length - 1].2 <;> rfl

/-- What parse hands back. -/
def ParseRet (w : World) (b : List UInt8) (e : Ending) (w' : World) : Prop :=
  ∃ P, e = .returned (.pointer P) ∧ Below w.heap.size w w' ∧
    match parseR b with
    | none => P = none
    | some st => ∃ q, P = some ⟨q, 0, none⟩ ∧ PageS w' w.heap.size q ((b.getD 0 0).toNat : Nat) (idB b : Nat) st

theorem ParseRet.no {w w' : World} {b : List UInt8} (h : parseR b = none) (hb : Below w.heap.size w w') : ParseRet w b (.returned (.pointer none)) w' :=
  ⟨none, rfl, hb, by rw [h]⟩
theorem ParseRet.yes {w w' : World} {b : List UInt8} {st : List SlotL} {q kd id : Nat} (h : parseR b = some st) (hk : (b.getD 0 0).toNat = kd) (hi : idB b = id) (hb : Below w.heap.size w w') (hp : PageS w' w.heap.size q kd id st) :
    ParseRet w b (.returned (.pointer (some ⟨q, 0, none⟩))) w' :=
  ⟨_, rfl, hb, by rw [h]; exact ⟨q, rfl, by rw [hk, hi]; exact hp⟩⟩

set_option maxRecDepth 100000 in
set_option maxHeartbeats 4000000 in
theorem parse_any {w : World} {g : Nat} {b : List UInt8} (hb : Blk w g b) (hl : b.length = 512) :
    Calls Tryd.prog 32 #[.slice (some ⟨g, 0, none⟩) 512 512] w (ParseRet w b) := by
  have hgl := hb.lt
  obtain ⟨c0, _⟩ := hb.cell (j := 0) (by omega)
  obtain ⟨c1, _⟩ := hb.cell (j := 1) (by omega)
  have e0 : b.getD 0 0 = b[0] := by simp [show 0 < b.length by omega]
  have e1 : b.getD 1 0 = b[1] := by simp [show 1 < b.length by omega]
  have HR := Lib.hid (show parseR b = if 60 < b[1].toNat then none else (parsedS b b[1].toNat).bind fun st => if lastFree st = true ∨ 512 < sizeS st ∨ pageB b[0].toNat (idB b) st ≠ b then none else some st by unfold parseR; rw [e0, e1])
  have HK := Lib.hid (show (b.getD 0 0).toNat = b[0].toNat by rw [e0])
  have HI := Lib.hid (show idB b = num2 b 2 + num2 b 4 * 65536 from rfl)
  have x0 := b[0].toNat_lt
  generalize b[0].toNat = kd at *
  generalize b[1].toNat = n at *
  clear e0 e1
  by_cases hn : 60 < n
  · have t1 : decide ((60 : Int) < (n : Int)) = true := by simp; omega
    rw [if_pos hn] at HR
    go_enter Tryd.func32, Tryd.ntmps32
    go_wp2_with fail
    go_ret
    exact .no HR.out (Below.refl _ _)
  · have t1 : decide ((60 : Int) < (n : Int)) = false := by simp; omega
    rw [if_neg hn] at HR
    have G2 := Lib.hid (fun (w' : World) (h : Blk w' g b) => get16_blk h 2 510 510 (by omega) (by omega))
    have G4 := Lib.hid (fun (w' : World) (h : Blk w' g b) => get16_blk h 4 508 508 (by omega) (by omega))
    have eN := or16 (num2 b 2) (num2 b 4) (num2_lt _ _) (num2_lt _ _)
    have n2 := num2_lt b 2
    have n4 := num2_lt b 4
    generalize num2 b 2 + num2 b 4 * 65536 = id at *
    rw [HI.out] at HR
    generalize num2 b 2 = i2 at *
    generalize num2 b 4 = i4 at *
    rw [Int.natCast_mul] at eN
    have eN' : bits .or .i64 (i2 : Int) ((i4 : Int) * 65536) = (id : Int) := eN
    clear eN
    have wk : IntKind.i64.wrap (kd : Int) = (kd : Int) := IntWalk.i64_in _ (by omega)
    have w4 : IntKind.i64.wrap ((i4 : Int) * 65536) = (i4 : Int) * 65536 := IntWalk.i64_in _ (by omega)
    go_enter Tryd.func32, Tryd.ntmps32
    go_wp2_with fail
    refine wp_region_noPanic ?_
    refine wp_region_held_drew (S := fun w' => Below w.heap.size w w') (by kernel_rfl) (Below.refl _ _).drew (fun hHeld => ?_)
    generalize w.drew = D at hHeld ⊢
    have k1 : Below w.heap.size w D := hHeld
    refine wpAnyH_take (i := 0) (oi := ⟨some 17, _, _, _, _, _⟩) (v := ?qv0pa) rfl (by kernel_rfl) (by kernel_rfl) (by kernel_rfl) (fun _ _ _ h => h) (Or.inl ⟨by rfl, ?qy0pa⟩) hHeld ?qr0pa
    case qy0pa => (intro w' hSw; go_simp; try with_reducible rfl)
    try simp only [Act.put, List.setIfInBounds_toArray, List.set_cons_zero, List.set_cons_succ]
    refine wpAnyH_take (i := 1) (oi := ⟨some 18, _, _, _, _, _⟩) (v := ?qv1pa) rfl (by kernel_rfl) (by kernel_rfl) (by kernel_rfl) (fun _ _ _ h => h) (Or.inl ⟨by rfl, ?qy1pa⟩) hHeld ?qr1pa
    case qy1pa => (intro w' hSw; go_simp; try with_reducible rfl)
    try simp only [Act.put, List.setIfInBounds_toArray, List.set_cons_zero, List.set_cons_succ]
    refine wpAnyH_take (i := 2) (oi := ⟨some 19, _, _, _, _, _⟩) (v := ?qv2pa) rfl (by kernel_rfl) (by kernel_rfl) (by kernel_rfl) (fun _ _ _ h => h) (Or.inl ⟨by rfl, ?qy2pa⟩) hHeld ?qr2pa
    case qy2pa => (intro w' hSw; have z0 := (hSw.cell (p := ⟨g, 0, none⟩) hgl).trans c0; go_simp; try with_reducible rfl)
    try simp only [Act.put, List.setIfInBounds_toArray, List.set_cons_zero, List.set_cons_succ]
    refine wpAnyH_take (i := 3) (oi := ⟨some 20, _, _, _, _, _⟩) (v := ?qv3pa) rfl (by kernel_rfl) (by kernel_rfl) (by kernel_rfl) (fun _ _ _ h => h) (Or.inl ⟨by rfl, ?qy3pa⟩) hHeld ?qr3pa
    case qy3pa => (intro w' hSw; go_simp; try with_reducible rfl)
    try simp only [Act.put, List.setIfInBounds_toArray, List.set_cons_zero, List.set_cons_succ]
    refine wpAnyH_take (i := 4) (oi := ⟨some 21, _, _, _, _, _⟩) (v := ?qv4pa) rfl (by kernel_rfl) (by kernel_rfl) (by kernel_rfl) (fun _ _ _ h => h) (Or.inl ⟨by rfl, ?qy4pa⟩) hHeld ?qr4pa
    case qy4pa => (intro w' hSw; go_simp; try with_reducible rfl)
    try simp only [Act.put, List.setIfInBounds_toArray, List.set_cons_zero, List.set_cons_succ]
    refine wpAnyH_take (i := 5) (oi := ⟨some 22, _, _, _, _, _⟩) (v := ?qv5pa) rfl (by kernel_rfl) (by kernel_rfl) (by kernel_rfl) (fun _ _ _ h => h) (Or.inl ⟨by rfl, ?qy5pa⟩) hHeld ?qr5pa
    case qy5pa => (intro w' hSw; have z0 := (hSw.cell (p := ⟨g, 0, none⟩) hgl).trans c0; go_simp; try with_reducible rfl)
    try simp only [Act.put, List.setIfInBounds_toArray, List.set_cons_zero, List.set_cons_succ]
    refine wpAnyH_take (i := 7) (oi := ⟨some 24, _, _, _, _, _⟩) (v := ?qv7pa) rfl (by kernel_rfl) (by kernel_rfl) (by kernel_rfl) (fun _ _ _ h => h) (Or.inl ⟨by rfl, ?qy7pa⟩) hHeld ?qr7pa
    case qy7pa => (intro w' hSw; go_simp; try with_reducible rfl)
    try simp only [Act.put, List.setIfInBounds_toArray, List.set_cons_zero, List.set_cons_succ]
    refine wpAnyH_take (i := 8) (oi := ⟨some 25, _, _, _, _, _⟩) (v := ?qv8pa) rfl (by kernel_rfl) (by kernel_rfl) (by kernel_rfl) (fun _ _ _ h => h) (Or.inl ⟨by rfl, ?qy8pa⟩) hHeld ?qr8pa
    case qy8pa => (intro w' hSw; have z0 := (hSw.cell (p := ⟨g, 0, none⟩) hgl).trans c0; go_simp; try with_reducible rfl)
    try simp only [Act.put, List.setIfInBounds_toArray, List.set_cons_zero, List.set_cons_succ]
    refine wpAnyH_ready (rs := [6]) (by kernel_rfl) (by simp) ?_
    refine AllReadyH.cons (o := ⟨some 23, _, _, _, _, _⟩) rfl (fun K hK => ?_) AllReadyH.nil
    refine step_go (by rfl) 50 _ _ (by rfl) (fun _ _ => by kernel_rfl) _ (by rfl) (G2.out _ (hb.below k1 hgl)) ?_
    rintro e w5 ⟨rfl, m5, rfl⟩
    refine ⟨_, rfl, ?_⟩
    refine hK.out _ _ (bel_drewN k1 _) (fun hHeld => ?_)
    clear hK K
    try simp only [Act.put, List.setIfInBounds_toArray, List.set_cons_zero, List.set_cons_succ]
    refine wpAnyH_ready (rs := [9]) (by kernel_rfl) (by simp) ?_
    refine AllReadyH.cons (o := ⟨some 26, _, _, _, _, _⟩) rfl (fun K hK => ?_) AllReadyH.nil
    refine step_go (by rfl) 50 _ _ (by rfl) (fun _ _ => by kernel_rfl) _ (by rfl) (G4.out _ (hb.below (bel_drewN k1 _) hgl)) ?_
    rintro e w6 ⟨rfl, m6, rfl⟩
    refine ⟨_, rfl, ?_⟩
    refine hK.out _ _ (bel_drewN (bel_drewN k1 _) _) (fun hHeld => ?_)
    clear hK K
    try simp only [Act.put, List.setIfInBounds_toArray, List.set_cons_zero, List.set_cons_succ]
    refine wpAnyH_take (i := 10) (oi := ⟨some 27, _, _, _, _, _⟩) (v := ?qv10pa) rfl (by kernel_rfl) (by kernel_rfl) (by kernel_rfl) (fun _ _ _ h => h) (Or.inl ⟨by rfl, ?qy10pa⟩) hHeld ?qr10pa
    case qy10pa => (intro w' hSw; go_simp; try with_reducible rfl)
    try simp only [Act.put, List.setIfInBounds_toArray, List.set_cons_zero, List.set_cons_succ]
    refine wpAnyH_take (i := 11) (oi := ⟨some 28, _, _, _, _, _⟩) (v := ?qv11pa) rfl (by kernel_rfl) (by kernel_rfl) (by kernel_rfl) (fun _ _ _ h => h) (Or.inl ⟨by rfl, ?qy11pa⟩) hHeld ?qr11pa
    case qy11pa => (intro w' hSw; go_simp; try with_reducible rfl)
    try simp only [Act.put, List.setIfInBounds_toArray, List.set_cons_zero, List.set_cons_succ]
    refine wpAnyH_take (i := 12) (oi := ⟨some 29, _, _, _, _, _⟩) (v := ?qv12pa) rfl (by kernel_rfl) (by kernel_rfl) (by kernel_rfl) (fun _ _ _ h => h) (Or.inl ⟨by rfl, ?qy12pa⟩) hHeld ?qr12pa
    case qy12pa => (intro w' hSw; go_simp; try with_reducible rfl)
    try simp only [Act.put, List.setIfInBounds_toArray, List.set_cons_zero, List.set_cons_succ]
    refine wpAnyH_ready (rs := [13]) (by kernel_rfl) (by simp) ?_
    refine AllReadyH.cons (o := ⟨some 30, _, _, _, _, _⟩) rfl (fun K hK => ?_) AllReadyH.nil
    go_simp
    refine hK.out _ _ ((bel_drewN k1 _).alloc (by have := k1.size; simpa using this) _) (fun hHeld => ?_)
    clear hK K
    try simp only [Act.put, List.setIfInBounds_toArray, List.set_cons_zero, List.set_cons_succ]
    refine wpAnyH_take (i := 14) (oi := ⟨some 3, _, _, _, _, _⟩) (v := ?qv14pa) rfl (by kernel_rfl) (by kernel_rfl) (by kernel_rfl) (fun _ _ _ h => h) (Or.inl ⟨by rfl, ?qy14pa⟩) hHeld ?qr14pa
    case qy14pa => (intro w' hSw; go_simp; try with_reducible rfl)
    try simp only [Act.put, List.setIfInBounds_toArray, List.set_cons_zero, List.set_cons_succ]
    refine wpAnyH_done (by kernel_rfl) ?_ _
    refine NoPanic.normal ?_
    have PI : PageIs ((D.drewN (m5 + m6)).alloc (.cells #[.bool true, .int .i64 kd, .int .i64 id, .slice none 0 0] 61)) w.heap.size D.heap.size kd id [] := ⟨k1.size, _, heap_alloc_new _ _, World.ownsRow_nil _ _ _ _, fun x hx => by cases hx⟩
    have B4 : Below w.heap.size w ((D.drewN (m5 + m6)).alloc (.cells #[.bool true, .int .i64 kd, .int .i64 id, .slice none 0 0] 61)) := (bel_drewN k1 _).alloc (by have := k1.size; simpa using this) _
    generalize ((D.drewN (m5 + m6)).alloc (.cells #[.bool true, .int .i64 kd, .int .i64 id, .slice none 0 0] 61)) = w4' at *
    generalize D.heap.size = q at *
    have d1 := (B4.cell (p := ⟨g, 1, none⟩) hgl).trans c1
    have P4 := Lib.hid PI
    clear hHeld k1 eN' wk w4 c0 G2 G4 PI
    go_wp2_with fail
    go_loopw [35] (fun i wr => ∃ (k : Nat) (r : List SlotV), k ≤ n ∧ i = .int .i64 k ∧ Hid (parsedS b k = some (snds r)) ∧ PageIs wr w.heap.size q kd id r ∧ Below w.heap.size w wr) (fun i _ => n - (intOf i).toNat)
    case atStart => exact ⟨0, [], Nat.zero_le _, rfl, rfl, P4.out, B4⟩
    case round =>
      obtain ⟨k, r, hk, rfl, hps, hp, hbl⟩ := hrel
      by_cases hlt : k < n
      · have t3 : decide ((k : Int) < (n : Int)) = true := by simp; omega
        obtain ⟨A, hA2, hA3⟩ : ∃ A : Nat, (16 : Int) + 4 * (k : Int) = (A : Int) ∧ A = 16 + 4 * k := ⟨16 + 4 * k, by omega, rfl⟩
        have hA4 : A ≤ 252 ∧ 16 ≤ A := by omega
        have hAn : (A == 512) = false := by simp; omega
        have hAn' : (512 == A) = false := by simp; omega
        have hA5 : ¬ 512 - A = 2 := by omega
        have hA6 : (2 : Int) ≤ ((512 - A : Nat) : Int) := by omega
        have hA7 : (512 - A == 2) = false := by simp; omega
        have hss : parsedS b (k + 1) = (slotAt b k).map fun x => snds r ++ [x] := by
          show (parsedS b k).bind _ = _
          rw [hps]
          rfl
        unfold slotAt at hss
        have hbr := hb.below hbl hgl
        have GX := Lib.hid (fun m off n c (h1 : off + 2 ≤ 512) (h2 : 2 ≤ n) => get16_blk (w := wr.drewN m) hbr off n c (by omega) h2)
        rw [show 18 + 4 * k = A + 2 by omega, show 16 + 4 * k = A by omega] at hss
        have lF := num2_lt b A
        have lM := num2_lt b (A + 2)
        generalize hNF : num2 b A = F at *
        generalize hNM : num2 b (A + 2) = M at *
        have HP := Lib.hid hp
        have HSS := Lib.hid hss
        have HBR := Lib.hid hbr
        clear hp hss hbr hA3 d1
        rcases (show M = 0 ∨ 1 ≤ M by omega) with hM | hM
        · subst hM
          obtain ⟨ao, c, hq1, hq2⟩ := HP.out.row
          obtain ⟨hlen, hsz⟩ := parsedS_size b k _ hps
          have hrk : r.length ≤ 60 := by
            have : r.length = k := by simpa [snds] using hlen
            omega
          have c3 : wr.cell? ⟨q, 3, none⟩ = some (.slice ao r.length c) := by simp [World.cell?, hq1]
          have hql := lt_of_block hq1
          have hbs := HP.out.size.1
          have BW : ∀ m, Below wr.heap.size wr ((wr.drewN m).alloc (.cells #[.slice none 0 0, .bool false] 64)) := fun m => (bel_drewN (Below.refl _ wr) m).alloc (Nat.le_refl _) _
          have PW := Lib.hid (fun m => HP.out.below (BW m))
          have OW := Lib.hid (fun m => (show OwnR ((wr.drewN m).alloc (.cells #[.slice none 0 0, .bool false] 64)) w.heap.size (.slice ao r.length c) r from (hq2.below (BW m)).1))
          have LIT := Lib.hid (fun m => show Rd ((wr.drewN m).alloc (.cells #[.slice none 0 0, .bool false] 64)) (.slice (some ⟨wr.heap.size, 0, none⟩) 1 1) 1 (rowV [(.slice none 0 0, none)]) from rd_alloc (wr.drewN m) #[.slice none 0 0, .bool false] 64 (0, 0) 1 (by simp [maxLen]))
          have BL := Lib.hid (fun m => hbl.trans ((BW m).mono hbl.size))
          have hSS : parsedS b (k + 1) = some (snds (r ++ [((Value.slice none 0 0, none) : SlotV)])) := by rw [HSS.out]; simp [snds]
          have HS2 := Lib.hid hSS
          clear hq1 hq2 hlen hsz hSS
          go_wp2_with fail
          go_quiet ((go_at_call 50; refine Calls.quiet_of (GX.out _ _ _ _ (by omega) (by omega))))
          rw [hNF, hNM]
          go_wp2_with (at_builtin; refine wpList_append_slotF rfl _ _ rfl w.heap.size _ r rfl (OW.out _) _ [(.slice none 0 0, none)] rfl (LIT.out _) (fun x hx => by simp at hx; subst hx; exact ⟨_, _, _, rfl⟩) (by simp; omega) (BL.out nq).size ?_)
          intro L2 w5 o5 f5
          obtain ⟨pg, pc, pf⟩ := PageIs.grown (PW.out nq) f5 o5 (fun x hx => by simp at hx; subst hx; rfl)
          have hx3 : w5.cell? ⟨q, 3, none⟩ = some (.slice ao r.length c) := by
            rw [pc, (BW nq).cell (p := ⟨q, 3, none⟩) hql]
            exact c3
          obtain ⟨a5, c5, rfl⟩ := o5.form
          have hl1 : (r ++ [((Value.slice none 0 0, none) : SlotV)]).length = r.length + 1 := by simp
          rw [hl1] at pg
          have PG := Lib.hid pg
          have BG := Lib.hid (((BL.out nq).trans f5.below).setCell (p := ⟨q, 3, none⟩) HP.out.size.2 (.slice a5 (r.length + 1) c5))
          clear pg pc o5 f5 c3 BW hl1
          go_wp2_with fail
          go_roundw
          case rel => exact ⟨k + 1, _, hlt, by go_num, HS2.out, PG.out, BG.out⟩
          case measure => simp [intOf]; omega
        · obtain ⟨m, rfl⟩ : ∃ m, M = m + 1 := ⟨M - 1, by omega⟩
          have hss := HSS.out
          rw [if_neg (by omega), Nat.add_sub_cancel] at hss
          clear HSS
          have hm0 : decide ((m : Int) < 0) = false := by simp
          by_cases hbad : 512 < F + m ∨ 400 < m
          · rw [if_pos hbad] at hss
            have HN := Lib.hid (parsedS_none b n (k + 1) hss hlt)
            have t5 : decide ((512 : Int) < (F : Int) + (m : Int)) = decide (512 < F + m) := by simp; omega
            rcases Nat.lt_or_ge 512 (F + m) with h5 | h5
            · have t6 : decide ((512 : Int) < (F : Int) + (m : Int)) = true := by simp; omega
              clear t5 hss hbad
              go_wp2_with fail
              go_quiet ((go_at_call 50; refine Calls.quiet_of (GX.out _ _ _ _ (by omega) (by omega))))
              go_wp2_with fail
              go_ret
              exact .no (by rw [HR.out, HN.out]; rfl) (bel_drewN hbl _)
            · have t6 : decide ((512 : Int) < (F : Int) + (m : Int)) = false := by simp; omega
              have t7 : decide ((400 : Int) < (m : Int)) = true := by simp; omega
              clear t5 hss hbad
              go_wp2_with fail
              go_quiet ((go_at_call 50; refine Calls.quiet_of (GX.out _ _ _ _ (by omega) (by omega))))
              go_wp2_with fail
              go_ret
              exact .no (by rw [HR.out, HN.out]; rfl) (bel_drewN hbl _)
          · rw [if_neg hbad] at hss
            have h5 : F + m ≤ 512 := by omega
            have h6 : m ≤ 400 := by omega
            obtain ⟨G, hG, hG'⟩ : ∃ G : Nat, (F : Int) + (m : Int) = (G : Int) ∧ G = F + m := ⟨F + m, by push_cast; rfl, rfl⟩
            have t6 : decide ((512 : Int) < (G : Int)) = false := by simp; omega
            have t7 : decide ((400 : Int) < (m : Int)) = false := by simp; omega
            have wG : IntKind.i64.wrap (G : Int) = (G : Int) := IntWalk.i64_in _ (by omega)
            have gF : F ≤ G := by omega
            have gF' : (F : Int) ≤ (G : Int) := by omega
            have g5 : (G : Int) ≤ 512 := by omega
            have g0 : (0 : Int) ≤ (G : Int) := by omega
            have eG : G - F = m := by omega
            have HGG := Lib.hid hG'
            clear hG'
            have hLl : ((b.drop F).take m).length = m := by rw [List.length_take, List.length_drop]; omega
            have HY0 := fun (w' : World) (h : Blk w' g b) => (show Byt w' (.slice (if 512 = F then some ⟨g, 0, none⟩ else some ⟨g, F, none⟩) m (512 - F)) ((b.drop F).take m) from by
              by_cases hF : 512 = F
              · obtain rfl : m = 0 := by omega
                rw [if_pos hF, List.take_zero]
                exact ⟨_, _, rfl, Nat.zero_le _, by unfold maxLen; omega, (fun h => by cases h), fun i hi => by simp [bytesV] at hi⟩
              · rw [if_neg hF]
                have h0 := (h.byt hl)
                have h1 : Byt w' (.slice (some ⟨g, 0, none⟩) b.length 512) b := by rw [hl]; exact h0
                have h2 := Byt.drop h1 (m := F) (by omega)
                rw [Nat.zero_add, hl] at h2
                have h3 : Byt w' (.slice (some ⟨g, F, none⟩) (b.drop F).length (512 - F)) (b.drop F) := by rw [List.length_drop, hl]; exact h2
                exact h3.take (by rw [List.length_drop]; omega))
            generalize hL : (b.drop F).take m = l at *
            have HY := Lib.hid HY0
            have hl58 : l.length ≤ 140737488355328 := by omega
            have HS2 := Lib.hid (fun (a : Option Addr) (c : Nat) => (show parsedS b (k + 1) = some (snds (r ++ [((Value.slice a l.length c, some l) : SlotV)])) by rw [hss]; simp [snds]))
            obtain ⟨hlen, hsz⟩ := parsedS_size b k _ hps
            have hrk : r.length ≤ 60 := by
              have : r.length = k := by simpa [snds] using hlen
              omega
            obtain ⟨ao, c, hq1, hq2⟩ := HP.out.row
            have HQ := Lib.hid HP.out.size.2
            have HRW := Lib.hid (fun (w' : World) (h : PageIs w' w.heap.size q kd id r) (hc : w'.cell? ⟨q, 3, none⟩ = some (.slice ao r.length c)) => (show OwnR w' w.heap.size (.slice ao r.length c) r from by
              obtain ⟨ao', c', h1, h2⟩ := h.row
              have : w'.cell? ⟨q, 3, none⟩ = some (.slice ao' r.length c') := by simp [World.cell?, h1]
              rw [hc] at this
              rw [Option.some.inj this]
              exact h2.1))
            have c3 : wr.cell? ⟨q, 3, none⟩ = some (.slice ao r.length c) := by simp [World.cell?, hq1]
            have ZW := Lib.hid c3
            clear hss hbad hLl hL HY0 hlen hsz hq1 hq2 c3
            go_wp2_with fail
            go_quiet ((go_at_call 50; refine Calls.quiet_of (GX.out _ _ _ _ (by omega) (by omega))))
            go_wp2_with fail
            have carry : PageIs (wr.drewN nq).drew w.heap.size q kd id r ∧ Blk (wr.drewN nq).drew g b ∧ Below w.heap.size w (wr.drewN nq).drew := ⟨HP.out.below (bel_drewN (Below.refl _ _) nq).drew, HBR.out, (bel_drewN hbl nq).drew⟩
            have ZD : Hid ((wr.drewN nq).drew.cell? ⟨q, 3, none⟩ = some (.slice ao r.length c)) := ZW
            clear ZW HBR HP GX hps
            refine wp_region_noPanic ?_
            refine wp_region_held_drew (S := fun w' => Below w.heap.size w w') (by kernel_rfl) (carry.2.2) (fun hHeld => ?_)
            generalize (wr.drewN nq).drew = D at hHeld carry ZD ⊢
            have k1 : Below w.heap.size w D := hHeld
            refine wpAnyH_take (i := 0) (oi := ⟨some 73, _, _, _, _, _⟩) (v := ?qv0o1) rfl (by kernel_rfl) (by kernel_rfl) (by kernel_rfl) (fun _ _ _ h => h) (Or.inl ⟨by rfl, ?qy0o1⟩) hHeld ?qr0o1
            case qy0o1 => (intro w' hSw; go_simp; try with_reducible rfl)
            try simp only [Act.put, List.setIfInBounds_toArray, List.set_cons_zero, List.set_cons_succ]
            refine wpAnyH_take (i := 1) (oi := ⟨some 74, _, _, _, _, _⟩) (v := ?qv1o1) rfl (by kernel_rfl) (by kernel_rfl) (by kernel_rfl) (fun _ _ _ h => h) (Or.inl ⟨by rfl, ?qy1o1⟩) hHeld ?qr1o1
            case qy1o1 => (intro w' hSw; go_simp; try with_reducible rfl)
            try simp only [Act.put, List.setIfInBounds_toArray, List.set_cons_zero, List.set_cons_succ]
            refine wpAnyH_take (i := 2) (oi := ⟨some 75, _, _, _, _, _⟩) (v := ?qv2o1) rfl (by kernel_rfl) (by kernel_rfl) (by kernel_rfl) (fun _ _ _ h => h) (Or.inl ⟨by rfl, ?qy2o1⟩) hHeld ?qr2o1
            case qy2o1 => (intro w' hSw; go_simp; try with_reducible rfl)
            try simp only [Act.put, List.setIfInBounds_toArray, List.set_cons_zero, List.set_cons_succ]
            refine wpAnyH_take (i := 3) (oi := ⟨some 76, _, _, _, _, _⟩) (v := ?qv3o1) rfl (by kernel_rfl) (by kernel_rfl) (by kernel_rfl) (fun _ _ _ h => h) (Or.inl ⟨by rfl, ?qy3o1⟩) hHeld ?qr3o1
            case qy3o1 => (intro w' hSw; go_simp; try with_reducible rfl)
            try simp only [Act.put, List.setIfInBounds_toArray, List.set_cons_zero, List.set_cons_succ]
            refine wpAnyH_take (i := 5) (oi := ⟨some 78, _, _, _, _, _⟩) (v := ?qv5o1) rfl (by kernel_rfl) (by kernel_rfl) (by kernel_rfl) (fun _ _ _ h => h) (Or.inl ⟨by rfl, ?qy5o1⟩) hHeld ?qr5o1
            case qy5o1 => (intro w' hSw; go_simp; try with_reducible rfl)
            try simp only [Act.put, List.setIfInBounds_toArray, List.set_cons_zero, List.set_cons_succ]
            refine wpAnyH_take (i := 6) (oi := ⟨some 79, _, _, _, _, _⟩) (v := ?qv6o1) rfl (by kernel_rfl) (by kernel_rfl) (by kernel_rfl) (fun _ _ _ h => h) (Or.inl ⟨by rfl, ?qy6o1⟩) hHeld ?qr6o1
            case qy6o1 => (intro w' hSw; go_simp; try with_reducible rfl)
            try simp only [Act.put, List.setIfInBounds_toArray, List.set_cons_zero, List.set_cons_succ]
            refine wpAnyH_take (i := 7) (oi := ⟨some 80, _, _, _, _, _⟩) (v := ?qv7o1) rfl (by kernel_rfl) (by kernel_rfl) (by kernel_rfl) (fun _ _ _ h => h) (Or.inl ⟨by rfl, ?qy7o1⟩) hHeld ?qr7o1
            case qy7o1 => (intro w' hSw; go_simp; try with_reducible rfl)
            try simp only [Act.put, List.setIfInBounds_toArray, List.set_cons_zero, List.set_cons_succ]
            refine wpAnyH_take (i := 8) (oi := ⟨some 81, _, _, _, _, _⟩) (v := ?qv8o1) rfl (by kernel_rfl) (by kernel_rfl) (by kernel_rfl) (fun _ _ _ h => h) (Or.inl ⟨by rfl, ?qy8o1⟩) hHeld ?qr8o1
            case qy8o1 => (intro w' hSw; go_simp; try with_reducible rfl)
            try simp only [Act.put, List.setIfInBounds_toArray, List.set_cons_zero, List.set_cons_succ]
            refine wpAnyH_take (i := 9) (oi := ⟨some 82, _, _, _, _, _⟩) (v := ?qv9o1) rfl (by kernel_rfl) (by kernel_rfl) (by kernel_rfl) (fun _ _ _ h => h) (Or.inl ⟨by rfl, ?qy9o1⟩) hHeld ?qr9o1
            case qy9o1 => (intro w' hSw; go_simp; try with_reducible rfl)
            try simp only [Act.put, List.setIfInBounds_toArray, List.set_cons_zero, List.set_cons_succ]
            refine wpAnyH_take (i := 10) (oi := ⟨some 83, _, _, _, _, _⟩) (v := ?qv10o1) rfl (by kernel_rfl) (by kernel_rfl) (by kernel_rfl) (fun _ _ _ h => h) (Or.inl ⟨by rfl, ?qy10o1⟩) hHeld ?qr10o1
            case qy10o1 => (intro w' hSw; go_simp; try with_reducible rfl)
            try simp only [Act.put, List.setIfInBounds_toArray, List.set_cons_zero, List.set_cons_succ]
            refine wpAnyH_ready (rs := [4, 11]) (by kernel_rfl) (by simp) ?_
            refine AllReadyH.cons (o := ⟨some 77, _, _, _, _, _⟩) rfl (fun K hK => ?_) (AllReadyH.cons (o := ⟨some 84, _, _, _, _, _⟩) rfl (fun K hK => ?_) AllReadyH.nil)
            · have z3 := ZD.out
              go_simp
              refine hK.out _ _ (k1) (fun hHeld => ?_)
              clear hK K
              try simp only [Act.put, List.setIfInBounds_toArray, List.set_cons_zero, List.set_cons_succ]
              refine wpAnyH_ready (rs := [11]) (by kernel_rfl) (by simp) ?_
              refine AllReadyH.cons (o := ⟨some 84, _, _, _, _, _⟩) rfl (fun K hK => ?_) AllReadyH.nil
              refine step_go (by rfl) 39 _ _ (by rfl) (fun _ _ => by kernel_rfl) _ (by rfl) (Clone_any _ l _ (HY.out _ carry.2.1) hl58) ?_
              rintro e w5 ⟨v5, rfl, o5, b5⟩
              refine ⟨_, rfl, ?_⟩
              have B5 : Below w.heap.size w w5 := k1.trans (b5.mono k1.size)
              have P5 := carry.1.below b5
              have Z5 : w5.cell? ⟨q, 3, none⟩ = some (.slice ao r.length c) := (b5.cell (p := ⟨q, 3, none⟩) (lt_of_block carry.1.row.choose_spec.choose_spec.1)).trans ZD.out
              have O5 : Own w5 w.heap.size v5 l := own_base o5 k1.size
              obtain ⟨a5, c5, rfl, _⟩ := Rd.of_own o5
              have b6 : Below w5.heap.size w5 (w5.alloc (.cells #[.slice a5 l.length c5, .bool true] 64)) := (Below.refl _ _).alloc (Nat.le_refl _) _
              have B6 := B5.trans (b6.mono B5.size)
              have P6 := P5.below b6
              have Z6 := (b6.cell (p := ⟨q, 3, none⟩) (lt_of_block P5.row.choose_spec.choose_spec.1)).trans Z5
              have O6 : Own (w5.alloc (.cells #[.slice a5 l.length c5, .bool true] 64)) w.heap.size _ l := own_below' O5 b6
              have LIT : Rd (w5.alloc (.cells #[.slice a5 l.length c5, .bool true] 64)) (.slice (some ⟨w5.heap.size, 0, none⟩) 1 1) 1 (rowV [(.slice a5 l.length c5, some l)]) := rd_alloc w5 #[.slice a5 l.length c5, .bool true] 64 (0, 0) 1 (by simp [maxLen])
              refine hK.out _ _ (B5) (fun hHeld => ?_)
              clear hK K
              try simp only [Act.put, List.setIfInBounds_toArray, List.set_cons_zero, List.set_cons_succ]
              refine wpAnyH_take (i := 12) (oi := ⟨some 85, _, _, _, _, _⟩) (v := ?qv12o2) rfl (by kernel_rfl) (by kernel_rfl) (by kernel_rfl) (fun _ _ _ h => h) (Or.inl ⟨by rfl, ?qy12o2⟩) hHeld ?qr12o2
              case qy12o2 => (intro w' hSw; go_simp; try with_reducible rfl)
              try simp only [Act.put, List.setIfInBounds_toArray, List.set_cons_zero, List.set_cons_succ]
              refine wpAnyH_ready (rs := [13]) (by kernel_rfl) (by simp) ?_
              refine AllReadyH.cons (o := ⟨some 86, _, _, _, _, _⟩) rfl (fun K hK => ?_) AllReadyH.nil
              go_simp
              refine hK.out _ _ (B6) (fun hHeld => ?_)
              clear hK K
              try simp only [Act.put, List.setIfInBounds_toArray, List.set_cons_zero, List.set_cons_succ]
              refine wpAnyH_ready (rs := [14]) (by kernel_rfl) (by simp) ?_
              refine AllReadyH.cons (o := ⟨some 87, _, _, _, _, _⟩) rfl (fun K hK => ?_) AllReadyH.nil
              rw [if_pos (show Region.wanted _ _ = true from rfl)]
              refine wp_append_slotF (.tmp 77) (.tmp 86) rfl w.heap.size (.slice ao r.length c) r rfl (HRW.out _ P6 Z6) _ [(.slice a5 l.length c5, some l)] rfl LIT (fun x hx => by simp at hx; subst hx; exact ⟨_, _, _, rfl⟩) (by simp; omega) B6.size ?_
              intro L7 w7 o7 f7
              obtain ⟨pg, pc, pf⟩ := PageIs.grown P6 f7 o7 (fun x hx => by simp at hx; subst hx; exact f7.own (by decide) (show World.ownsRow _ w.heap.size 5 1 _ l.length (bytesV l) from O6))
              rw [Z6] at pc
              obtain ⟨a7, c7, rfl⟩ := o7.form
              have B7 := B6.trans f7.below
              rw [show (r ++ [((Value.slice a5 l.length c5, some l) : SlotV)]).length = r.length + 1 by simp] at pg
              rw [show (r ++ [((Value.slice a5 l.length c5, some l) : SlotV)]).length = r.length + 1 by simp]
              refine hK.out _ _ (B7) (fun hHeld => ?_)
              clear hK K
              try simp only [Act.put, List.setIfInBounds_toArray, List.set_cons_zero, List.set_cons_succ]
              refine wpAnyH_take (i := 15) (oi := ⟨some 88, _, _, _, _, _⟩) (v := ?qv15o2) rfl (by kernel_rfl) (by kernel_rfl) (by kernel_rfl) (fun _ _ _ h => h) (Or.inl ⟨by rfl, ?qy15o2⟩) hHeld ?qr15o2
              case qy15o2 => (intro w' hSw; go_simp; try with_reducible rfl)
              try simp only [Act.put, List.setIfInBounds_toArray, List.set_cons_zero, List.set_cons_succ]
              refine wpAnyH_take (i := 16) (oi := ⟨some 89, _, _, _, _, _⟩) (v := ?qv16o2) rfl (by kernel_rfl) (by kernel_rfl) (by kernel_rfl) (fun _ _ _ h => h) (Or.inl ⟨by rfl, ?qy16o2⟩) hHeld ?qr16o2
              case qy16o2 => (intro w' hSw; go_simp; try with_reducible rfl)
              try simp only [Act.put, List.setIfInBounds_toArray, List.set_cons_zero, List.set_cons_succ]
              refine wpAnyH_ready (rs := [17]) (by kernel_rfl) (by simp) ?_
              refine AllReadyH.cons (o := ⟨none, _, _, _, _, _⟩) rfl (fun K hK => ?_) AllReadyH.nil
              go_simp
              refine hK.out _ _ (B7.setCell (p := ⟨q, 3, none⟩) HQ.out _) (fun hHeld => ?_)
              clear hK K
              try simp only [Act.put, List.setIfInBounds_toArray, List.set_cons_zero, List.set_cons_succ]
              refine wpAnyH_done (by kernel_rfl) ?_ _
              refine NoPanic.normal ?_
              have PG := Lib.hid pg
              have BG := Lib.hid (B7.setCell (p := ⟨q, 3, none⟩) HQ.out (.slice a7 (r.length + 1) c7))
              clear hHeld pg pc pf o7 f7 LIT Z5 Z6 P5 P6 B5 B6 O5 O6 b5 b6 o5 z3
              go_wp2_with fail
              go_roundw
              case rel => exact ⟨k + 1, _, hlt, by go_num, HS2.out _ _, PG.out, BG.out⟩
              case measure => simp [intOf]; omega
            · refine step_go (by rfl) 39 _ _ (by rfl) (fun _ _ => by kernel_rfl) _ (by rfl) (Clone_any _ l _ (HY.out _ carry.2.1) hl58) ?_
              rintro e w5 ⟨v5, rfl, o5, b5⟩
              refine ⟨_, rfl, ?_⟩
              have B5 : Below w.heap.size w w5 := k1.trans (b5.mono k1.size)
              have P5 := carry.1.below b5
              have Z5 : w5.cell? ⟨q, 3, none⟩ = some (.slice ao r.length c) := (b5.cell (p := ⟨q, 3, none⟩) (lt_of_block carry.1.row.choose_spec.choose_spec.1)).trans ZD.out
              have O5 : Own w5 w.heap.size v5 l := own_base o5 k1.size
              obtain ⟨a5, c5, rfl, _⟩ := Rd.of_own o5
              have b6 : Below w5.heap.size w5 (w5.alloc (.cells #[.slice a5 l.length c5, .bool true] 64)) := (Below.refl _ _).alloc (Nat.le_refl _) _
              have B6 := B5.trans (b6.mono B5.size)
              have P6 := P5.below b6
              have Z6 := (b6.cell (p := ⟨q, 3, none⟩) (lt_of_block P5.row.choose_spec.choose_spec.1)).trans Z5
              have O6 : Own (w5.alloc (.cells #[.slice a5 l.length c5, .bool true] 64)) w.heap.size _ l := own_below' O5 b6
              have LIT : Rd (w5.alloc (.cells #[.slice a5 l.length c5, .bool true] 64)) (.slice (some ⟨w5.heap.size, 0, none⟩) 1 1) 1 (rowV [(.slice a5 l.length c5, some l)]) := rd_alloc w5 #[.slice a5 l.length c5, .bool true] 64 (0, 0) 1 (by simp [maxLen])
              refine hK.out _ _ (B5) (fun hHeld => ?_)
              clear hK K
              try simp only [Act.put, List.setIfInBounds_toArray, List.set_cons_zero, List.set_cons_succ]
              refine wpAnyH_take (i := 12) (oi := ⟨some 85, _, _, _, _, _⟩) (v := ?qv12o3) rfl (by kernel_rfl) (by kernel_rfl) (by kernel_rfl) (fun _ _ _ h => h) (Or.inl ⟨by rfl, ?qy12o3⟩) hHeld ?qr12o3
              case qy12o3 => (intro w' hSw; go_simp; try with_reducible rfl)
              try simp only [Act.put, List.setIfInBounds_toArray, List.set_cons_zero, List.set_cons_succ]
              refine wpAnyH_ready (rs := [4, 13]) (by kernel_rfl) (by simp) ?_
              refine AllReadyH.cons (o := ⟨some 77, _, _, _, _, _⟩) rfl (fun K hK => ?_) (AllReadyH.cons (o := ⟨some 86, _, _, _, _, _⟩) rfl (fun K hK => ?_) AllReadyH.nil)
              · have z3 := Z5
                go_simp
                refine hK.out _ _ (B5) (fun hHeld => ?_)
                clear hK K
                try simp only [Act.put, List.setIfInBounds_toArray, List.set_cons_zero, List.set_cons_succ]
                refine wpAnyH_ready (rs := [13]) (by kernel_rfl) (by simp) ?_
                refine AllReadyH.cons (o := ⟨some 86, _, _, _, _, _⟩) rfl (fun K hK => ?_) AllReadyH.nil
                go_simp
                refine hK.out _ _ (B6) (fun hHeld => ?_)
                clear hK K
                try simp only [Act.put, List.setIfInBounds_toArray, List.set_cons_zero, List.set_cons_succ]
                refine wpAnyH_ready (rs := [14]) (by kernel_rfl) (by simp) ?_
                refine AllReadyH.cons (o := ⟨some 87, _, _, _, _, _⟩) rfl (fun K hK => ?_) AllReadyH.nil
                rw [if_pos (show Region.wanted _ _ = true from rfl)]
                refine wp_append_slotF (.tmp 77) (.tmp 86) rfl w.heap.size (.slice ao r.length c) r rfl (HRW.out _ P6 Z6) _ [(.slice a5 l.length c5, some l)] rfl LIT (fun x hx => by simp at hx; subst hx; exact ⟨_, _, _, rfl⟩) (by simp; omega) B6.size ?_
                intro L7 w7 o7 f7
                obtain ⟨pg, pc, pf⟩ := PageIs.grown P6 f7 o7 (fun x hx => by simp at hx; subst hx; exact f7.own (by decide) (show World.ownsRow _ w.heap.size 5 1 _ l.length (bytesV l) from O6))
                rw [Z6] at pc
                obtain ⟨a7, c7, rfl⟩ := o7.form
                have B7 := B6.trans f7.below
                rw [show (r ++ [((Value.slice a5 l.length c5, some l) : SlotV)]).length = r.length + 1 by simp] at pg
                rw [show (r ++ [((Value.slice a5 l.length c5, some l) : SlotV)]).length = r.length + 1 by simp]
                refine hK.out _ _ (B7) (fun hHeld => ?_)
                clear hK K
                try simp only [Act.put, List.setIfInBounds_toArray, List.set_cons_zero, List.set_cons_succ]
                refine wpAnyH_take (i := 15) (oi := ⟨some 88, _, _, _, _, _⟩) (v := ?qv15o4) rfl (by kernel_rfl) (by kernel_rfl) (by kernel_rfl) (fun _ _ _ h => h) (Or.inl ⟨by rfl, ?qy15o4⟩) hHeld ?qr15o4
                case qy15o4 => (intro w' hSw; go_simp; try with_reducible rfl)
                try simp only [Act.put, List.setIfInBounds_toArray, List.set_cons_zero, List.set_cons_succ]
                refine wpAnyH_take (i := 16) (oi := ⟨some 89, _, _, _, _, _⟩) (v := ?qv16o4) rfl (by kernel_rfl) (by kernel_rfl) (by kernel_rfl) (fun _ _ _ h => h) (Or.inl ⟨by rfl, ?qy16o4⟩) hHeld ?qr16o4
                case qy16o4 => (intro w' hSw; go_simp; try with_reducible rfl)
                try simp only [Act.put, List.setIfInBounds_toArray, List.set_cons_zero, List.set_cons_succ]
                refine wpAnyH_ready (rs := [17]) (by kernel_rfl) (by simp) ?_
                refine AllReadyH.cons (o := ⟨none, _, _, _, _, _⟩) rfl (fun K hK => ?_) AllReadyH.nil
                go_simp
                refine hK.out _ _ (B7.setCell (p := ⟨q, 3, none⟩) HQ.out _) (fun hHeld => ?_)
                clear hK K
                try simp only [Act.put, List.setIfInBounds_toArray, List.set_cons_zero, List.set_cons_succ]
                refine wpAnyH_done (by kernel_rfl) ?_ _
                refine NoPanic.normal ?_
                have PG := Lib.hid pg
                have BG := Lib.hid (B7.setCell (p := ⟨q, 3, none⟩) HQ.out (.slice a7 (r.length + 1) c7))
                clear hHeld pg pc pf o7 f7 LIT Z5 Z6 P5 P6 B5 B6 O5 O6 b5 b6 o5 z3
                go_wp2_with fail
                go_roundw
                case rel => exact ⟨k + 1, _, hlt, by go_num, HS2.out _ _, PG.out, BG.out⟩
                case measure => simp [intOf]; omega
              · go_simp
                refine hK.out _ _ (B6) (fun hHeld => ?_)
                clear hK K
                try simp only [Act.put, List.setIfInBounds_toArray, List.set_cons_zero, List.set_cons_succ]
                refine wpAnyH_ready (rs := [4]) (by kernel_rfl) (by simp) ?_
                refine AllReadyH.cons (o := ⟨some 77, _, _, _, _, _⟩) rfl (fun K hK => ?_) AllReadyH.nil
                have z3 := Z6
                go_simp
                refine hK.out _ _ (B6) (fun hHeld => ?_)
                clear hK K
                try simp only [Act.put, List.setIfInBounds_toArray, List.set_cons_zero, List.set_cons_succ]
                refine wpAnyH_ready (rs := [14]) (by kernel_rfl) (by simp) ?_
                refine AllReadyH.cons (o := ⟨some 87, _, _, _, _, _⟩) rfl (fun K hK => ?_) AllReadyH.nil
                rw [if_pos (show Region.wanted _ _ = true from rfl)]
                refine wp_append_slotF (.tmp 77) (.tmp 86) rfl w.heap.size (.slice ao r.length c) r rfl (HRW.out _ P6 Z6) _ [(.slice a5 l.length c5, some l)] rfl LIT (fun x hx => by simp at hx; subst hx; exact ⟨_, _, _, rfl⟩) (by simp; omega) B6.size ?_
                intro L7 w7 o7 f7
                obtain ⟨pg, pc, pf⟩ := PageIs.grown P6 f7 o7 (fun x hx => by simp at hx; subst hx; exact f7.own (by decide) (show World.ownsRow _ w.heap.size 5 1 _ l.length (bytesV l) from O6))
                rw [Z6] at pc
                obtain ⟨a7, c7, rfl⟩ := o7.form
                have B7 := B6.trans f7.below
                rw [show (r ++ [((Value.slice a5 l.length c5, some l) : SlotV)]).length = r.length + 1 by simp] at pg
                rw [show (r ++ [((Value.slice a5 l.length c5, some l) : SlotV)]).length = r.length + 1 by simp]
                refine hK.out _ _ (B7) (fun hHeld => ?_)
                clear hK K
                try simp only [Act.put, List.setIfInBounds_toArray, List.set_cons_zero, List.set_cons_succ]
                refine wpAnyH_take (i := 15) (oi := ⟨some 88, _, _, _, _, _⟩) (v := ?qv15o5) rfl (by kernel_rfl) (by kernel_rfl) (by kernel_rfl) (fun _ _ _ h => h) (Or.inl ⟨by rfl, ?qy15o5⟩) hHeld ?qr15o5
                case qy15o5 => (intro w' hSw; go_simp; try with_reducible rfl)
                try simp only [Act.put, List.setIfInBounds_toArray, List.set_cons_zero, List.set_cons_succ]
                refine wpAnyH_take (i := 16) (oi := ⟨some 89, _, _, _, _, _⟩) (v := ?qv16o5) rfl (by kernel_rfl) (by kernel_rfl) (by kernel_rfl) (fun _ _ _ h => h) (Or.inl ⟨by rfl, ?qy16o5⟩) hHeld ?qr16o5
                case qy16o5 => (intro w' hSw; go_simp; try with_reducible rfl)
                try simp only [Act.put, List.setIfInBounds_toArray, List.set_cons_zero, List.set_cons_succ]
                refine wpAnyH_ready (rs := [17]) (by kernel_rfl) (by simp) ?_
                refine AllReadyH.cons (o := ⟨none, _, _, _, _, _⟩) rfl (fun K hK => ?_) AllReadyH.nil
                go_simp
                refine hK.out _ _ (B7.setCell (p := ⟨q, 3, none⟩) HQ.out _) (fun hHeld => ?_)
                clear hK K
                try simp only [Act.put, List.setIfInBounds_toArray, List.set_cons_zero, List.set_cons_succ]
                refine wpAnyH_done (by kernel_rfl) ?_ _
                refine NoPanic.normal ?_
                have PG := Lib.hid pg
                have BG := Lib.hid (B7.setCell (p := ⟨q, 3, none⟩) HQ.out (.slice a7 (r.length + 1) c7))
                clear hHeld pg pc pf o7 f7 LIT Z5 Z6 P5 P6 B5 B6 O5 O6 b5 b6 o5 z3
                go_wp2_with fail
                go_roundw
                case rel => exact ⟨k + 1, _, hlt, by go_num, HS2.out _ _, PG.out, BG.out⟩
                case measure => simp [intOf]; omega
      · obtain rfl : k = n := by omega
        have t3 : decide ((k : Int) < (k : Int)) = false := by simp
        obtain ⟨hlen, hsz⟩ := parsedS_size b k _ hps
        have hrl : r.length = k := by simpa [snds] using hlen
        have HRR := Lib.hid (show parseR b = if lastFree (snds r) = true ∨ 512 < sizeS (snds r) ∨ pageB kd id (snds r) ≠ b then none else some (snds r) by
          rw [HR.out, show parsedS b k = some (snds r) from hps]
          rfl)
        have hr60 : r.length ≤ 60 := by omega
        have hszr : sizeR r ≤ 1000000 := by rw [sizeR_snds]; omega
        have hp' := hp
        obtain ⟨hqB, L, hq1, hq2⟩ := hp'
        have hql := lt_of_block hq1
        have US := Lib.hid (fun (w' : World) (h : Below wr.heap.size wr w') => used_any (hq2.below h) hszr)
        rw [sizeR_snds] at US
        have PS0 := Lib.hid (fun (h512 : sizeS (snds r) ≤ 512) (w' : World) (h : Below wr.heap.size wr w') => (show PageS w' w.heap.size q kd id (snds r) from PageS.below ⟨h512, by omega, r, rfl, hp⟩ h))
        have hbr := hb.below hbl hgl
        have hwg : g < wr.heap.size := Nat.lt_of_lt_of_le hgl hbl.size
        have HBR := Lib.hid (fun (w' : World) (h : Below wr.heap.size wr w') => hbr.below h hwg)
        rcases List.eq_nil_or_concat r with rfl | ⟨r0, x, hr0⟩
        · obtain ⟨ao, c, hL, _⟩ := hq2.open
          subst hL
          simp only [List.length_nil] at hq1
          have c3 : wr.cell? ⟨q, 3, none⟩ = some (.slice ao 0 c) := by simp [World.cell?, hq1]
          have H512 := Lib.hid (show sizeS (snds []) ≤ 512 by decide)
          have HLF := Lib.hid (show lastFree (snds []) = false from rfl)
          have PS := Lib.hid (PS0.out H512.out)
          have PB := Lib.hid (fun w' h => PBytes_any (PS.out w' h))
          have hpl := pageB_length kd id (snds []) H512.out
          obtain ⟨eqv, heqv⟩ : ∃ v, v = decide (pageB kd id (snds []) = b) := ⟨_, rfl⟩
          have HEQ := Lib.hid heqv
          have EQ := Lib.hid (fun (w' : World) (g' : Nat) (h : Blk w' g' (pageB kd id (snds []))) (h' : Below wr.heap.size wr w') => Equal_any _ _ _ b w' (h.byt hpl) ((HBR.out w' h').byt hl))
          rw [← heqv] at EQ
          have e16 : sizeS (snds []) = 16 := rfl
          rw [e16] at US
          clear hps hp hq1 hq2 hlen hsz hszr hpl heqv e16 hbr d1
          go_wp2_with fail
          refine wp_region_noPanic ?_
          refine wp_region_held_drew (S := fun w' => Below wr.heap.size wr w') (by kernel_rfl) (Below.refl _ _).drew (fun hHeld => ?_)
          generalize wr.drew = D at hHeld ⊢
          have k1 : Below wr.heap.size wr D := hHeld
          refine wpAnyH_take (i := 0) (oi := ⟨some 91, _, _, _, _, _⟩) (v := ?qv0e1) rfl (by kernel_rfl) (by kernel_rfl) (by kernel_rfl) (fun _ _ _ h => h) (Or.inl ⟨by rfl, ?qy0e1⟩) hHeld ?qr0e1
          case qy0e1 => (intro w' hSw; go_simp; try with_reducible rfl)
          try simp only [Act.put, List.setIfInBounds_toArray, List.set_cons_zero, List.set_cons_succ]
          refine wpAnyH_take (i := 1) (oi := ⟨some 92, _, _, _, _, _⟩) (v := ?qv1e1) rfl (by kernel_rfl) (by kernel_rfl) (by kernel_rfl) (fun _ _ _ h => h) (Or.inl ⟨by rfl, ?qy1e1⟩) hHeld ?qr1e1
          case qy1e1 => (intro w' hSw; go_simp; try with_reducible rfl)
          try simp only [Act.put, List.setIfInBounds_toArray, List.set_cons_zero, List.set_cons_succ]
          refine wpAnyH_take (i := 2) (oi := ⟨some 93, _, _, _, _, _⟩) (v := ?qv2e1) rfl (by kernel_rfl) (by kernel_rfl) (by kernel_rfl) (fun _ _ _ h => h) (Or.inl ⟨by rfl, ?qy2e1⟩) hHeld ?qr2e1
          case qy2e1 => (intro w' hSw; go_simp; try with_reducible rfl)
          try simp only [Act.put, List.setIfInBounds_toArray, List.set_cons_zero, List.set_cons_succ]
          refine wpAnyH_take (i := 3) (oi := ⟨some 94, _, _, _, _, _⟩) (v := ?qv3e1) rfl (by kernel_rfl) (by kernel_rfl) (by kernel_rfl) (fun _ _ _ h => h) (Or.inl ⟨by rfl, ?qy3e1⟩) hHeld ?qr3e1
          case qy3e1 => (intro w' hSw; have z3 := (hSw.cell (p := ⟨q, 3, none⟩) hql).trans c3; go_simp; try with_reducible rfl)
          try simp only [Act.put, List.setIfInBounds_toArray, List.set_cons_zero, List.set_cons_succ]
          refine wpAnyH_take (i := 4) (oi := ⟨some 95, _, _, _, _, _⟩) (v := ?qv4e1) rfl (by kernel_rfl) (by kernel_rfl) (by kernel_rfl) (fun _ _ _ h => h) (Or.inl ⟨by rfl, ?qy4e1⟩) hHeld ?qr4e1
          case qy4e1 => (intro w' hSw; go_simp; try with_reducible rfl)
          try simp only [Act.put, List.setIfInBounds_toArray, List.set_cons_zero, List.set_cons_succ]
          refine wpAnyH_take (i := 5) (oi := ⟨some 96, _, _, _, _, _⟩) (v := ?qv5e1) rfl (by kernel_rfl) (by kernel_rfl) (by kernel_rfl) (fun _ _ _ h => h) (Or.inl ⟨by rfl, ?qy5e1⟩) hHeld ?qr5e1
          case qy5e1 => (intro w' hSw; go_simp; try with_reducible rfl)
          try simp only [Act.put, List.setIfInBounds_toArray, List.set_cons_zero, List.set_cons_succ]
          refine wpAnyH_take (i := 6) (oi := ⟨some 97, _, _, _, _, _⟩) (v := ?qv6e1) rfl (by kernel_rfl) (by kernel_rfl) (by kernel_rfl) (fun _ _ _ h => h) (Or.inl ⟨by rfl, ?qy6e1⟩) hHeld ?qr6e1
          case qy6e1 => (intro w' hSw; go_simp; try with_reducible rfl)
          try simp only [Act.put, List.setIfInBounds_toArray, List.set_cons_zero, List.set_cons_succ]
          refine wpAnyH_take (i := 7) (oi := ⟨some 98, _, _, _, _, _⟩) (v := undef) rfl (by kernel_rfl) (by kernel_rfl) (by kernel_rfl) (fun _ _ _ h => h) (Or.inr ⟨by rfl, rfl⟩) hHeld ?_
          try simp only [Act.put, List.setIfInBounds_toArray, List.set_cons_zero, List.set_cons_succ]
          refine wpAnyH_take (i := 8) (oi := ⟨some 99, _, _, _, _, _⟩) (v := undef) rfl (by kernel_rfl) (by kernel_rfl) (by kernel_rfl) (fun _ _ _ h => h) (Or.inr ⟨by rfl, rfl⟩) hHeld ?_
          try simp only [Act.put, List.setIfInBounds_toArray, List.set_cons_zero, List.set_cons_succ]
          refine wpAnyH_take (i := 9) (oi := ⟨some 100, _, _, _, _, _⟩) (v := undef) rfl (by kernel_rfl) (by kernel_rfl) (by kernel_rfl) (fun _ _ _ h => h) (Or.inr ⟨by rfl, rfl⟩) hHeld ?_
          try simp only [Act.put, List.setIfInBounds_toArray, List.set_cons_zero, List.set_cons_succ]
          refine wpAnyH_take (i := 10) (oi := ⟨some 101, _, _, _, _, _⟩) (v := undef) rfl (by kernel_rfl) (by kernel_rfl) (by kernel_rfl) (fun _ _ _ h => h) (Or.inr ⟨by rfl, rfl⟩) hHeld ?_
          try simp only [Act.put, List.setIfInBounds_toArray, List.set_cons_zero, List.set_cons_succ]
          refine wpAnyH_take (i := 11) (oi := ⟨some 102, _, _, _, _, _⟩) (v := undef) rfl (by kernel_rfl) (by kernel_rfl) (by kernel_rfl) (fun _ _ _ h => h) (Or.inr ⟨by rfl, rfl⟩) hHeld ?_
          try simp only [Act.put, List.setIfInBounds_toArray, List.set_cons_zero, List.set_cons_succ]
          refine wpAnyH_take (i := 12) (oi := ⟨some 103, _, _, _, _, _⟩) (v := undef) rfl (by kernel_rfl) (by kernel_rfl) (by kernel_rfl) (fun _ _ _ h => h) (Or.inr ⟨by rfl, rfl⟩) hHeld ?_
          try simp only [Act.put, List.setIfInBounds_toArray, List.set_cons_zero, List.set_cons_succ]
          refine wpAnyH_take (i := 13) (oi := ⟨some 104, _, _, _, _, _⟩) (v := undef) rfl (by kernel_rfl) (by kernel_rfl) (by kernel_rfl) (fun _ _ _ h => h) (Or.inr ⟨by rfl, rfl⟩) hHeld ?_
          try simp only [Act.put, List.setIfInBounds_toArray, List.set_cons_zero, List.set_cons_succ]
          refine wpAnyH_take (i := 14) (oi := ⟨some 105, _, _, _, _, _⟩) (v := undef) rfl (by kernel_rfl) (by kernel_rfl) (by kernel_rfl) (fun _ _ _ h => h) (Or.inr ⟨by rfl, rfl⟩) hHeld ?_
          try simp only [Act.put, List.setIfInBounds_toArray, List.set_cons_zero, List.set_cons_succ]
          refine wpAnyH_take (i := 15) (oi := ⟨some 106, _, _, _, _, _⟩) (v := undef) rfl (by kernel_rfl) (by kernel_rfl) (by kernel_rfl) (fun _ _ _ h => h) (Or.inr ⟨by rfl, rfl⟩) hHeld ?_
          try simp only [Act.put, List.setIfInBounds_toArray, List.set_cons_zero, List.set_cons_succ]
          refine wpAnyH_take (i := 16) (oi := ⟨some 107, _, _, _, _, _⟩) (v := undef) rfl (by kernel_rfl) (by kernel_rfl) (by kernel_rfl) (fun _ _ _ h => h) (Or.inr ⟨by rfl, rfl⟩) hHeld ?_
          try simp only [Act.put, List.setIfInBounds_toArray, List.set_cons_zero, List.set_cons_succ]
          refine wpAnyH_take (i := 17) (oi := ⟨some 108, _, _, _, _, _⟩) (v := undef) rfl (by kernel_rfl) (by kernel_rfl) (by kernel_rfl) (fun _ _ _ h => h) (Or.inr ⟨by rfl, rfl⟩) hHeld ?_
          try simp only [Act.put, List.setIfInBounds_toArray, List.set_cons_zero, List.set_cons_succ]
          refine wpAnyH_take (i := 18) (oi := ⟨some 109, _, _, _, _, _⟩) (v := undef) rfl (by kernel_rfl) (by kernel_rfl) (by kernel_rfl) (fun _ _ _ h => h) (Or.inr ⟨by rfl, rfl⟩) hHeld ?_
          try simp only [Act.put, List.setIfInBounds_toArray, List.set_cons_zero, List.set_cons_succ]
          refine wpAnyH_take (i := 19) (oi := ⟨some 110, _, _, _, _, _⟩) (v := undef) rfl (by kernel_rfl) (by kernel_rfl) (by kernel_rfl) (fun _ _ _ h => h) (Or.inr ⟨by rfl, rfl⟩) hHeld ?_
          try simp only [Act.put, List.setIfInBounds_toArray, List.set_cons_zero, List.set_cons_succ]
          refine wpAnyH_take (i := 20) (oi := ⟨some 111, _, _, _, _, _⟩) (v := undef) rfl (by kernel_rfl) (by kernel_rfl) (by kernel_rfl) (fun _ _ _ h => h) (Or.inr ⟨by rfl, rfl⟩) hHeld ?_
          try simp only [Act.put, List.setIfInBounds_toArray, List.set_cons_zero, List.set_cons_succ]
          refine wpAnyH_take (i := 21) (oi := ⟨some 112, _, _, _, _, _⟩) (v := ?qv21e1) rfl (by kernel_rfl) (by kernel_rfl) (by kernel_rfl) (fun _ _ _ h => h) (Or.inl ⟨by rfl, ?qy21e1⟩) hHeld ?qr21e1
          case qy21e1 => (intro w' hSw; go_simp; try with_reducible rfl)
          try simp only [Act.put, List.setIfInBounds_toArray, List.set_cons_zero, List.set_cons_succ]
          refine wpAnyH_take (i := 22) (oi := ⟨some 113, _, _, _, _, _⟩) (v := ?qv22e1) rfl (by kernel_rfl) (by kernel_rfl) (by kernel_rfl) (fun _ _ _ h => h) (Or.inl ⟨by rfl, ?qy22e1⟩) hHeld ?qr22e1
          case qy22e1 => (intro w' hSw; go_simp; try with_reducible rfl)
          try simp only [Act.put, List.setIfInBounds_toArray, List.set_cons_zero, List.set_cons_succ]
          refine wpAnyH_take (i := 23) (oi := ⟨some 114, _, _, _, _, _⟩) (v := ?qv23e1) rfl (by kernel_rfl) (by kernel_rfl) (by kernel_rfl) (fun _ _ _ h => h) (Or.inl ⟨by rfl, ?qy23e1⟩) hHeld ?qr23e1
          case qy23e1 => (intro w' hSw; go_simp; try with_reducible rfl)
          try simp only [Act.put, List.setIfInBounds_toArray, List.set_cons_zero, List.set_cons_succ]
          refine wpAnyH_take (i := 24) (oi := ⟨some 115, _, _, _, _, _⟩) (v := ?qv24e1) rfl (by kernel_rfl) (by kernel_rfl) (by kernel_rfl) (fun _ _ _ h => h) (Or.inl ⟨by rfl, ?qy24e1⟩) hHeld ?qr24e1
          case qy24e1 => (intro w' hSw; go_simp; try with_reducible rfl)
          try simp only [Act.put, List.setIfInBounds_toArray, List.set_cons_zero, List.set_cons_succ]
          refine wpAnyH_take (i := 25) (oi := ⟨some 116, _, _, _, _, _⟩) (v := ?qv25e1) rfl (by kernel_rfl) (by kernel_rfl) (by kernel_rfl) (fun _ _ _ h => h) (Or.inl ⟨by rfl, ?qy25e1⟩) hHeld ?qr25e1
          case qy25e1 => (intro w' hSw; go_simp; try with_reducible rfl)
          try simp only [Act.put, List.setIfInBounds_toArray, List.set_cons_zero, List.set_cons_succ]
          refine wpAnyH_take (i := 26) (oi := ⟨some 117, _, _, _, _, _⟩) (v := ?qv26e1) rfl (by kernel_rfl) (by kernel_rfl) (by kernel_rfl) (fun _ _ _ h => h) (Or.inl ⟨by rfl, ?qy26e1⟩) hHeld ?qr26e1
          case qy26e1 => (intro w' hSw; have z3 := (hSw.cell (p := ⟨q, 3, none⟩) hql).trans c3; go_simp; try with_reducible rfl)
          try simp only [Act.put, List.setIfInBounds_toArray, List.set_cons_zero, List.set_cons_succ]
          refine wpAnyH_ready (rs := [27]) (by kernel_rfl) (by simp) ?_
          refine AllReadyH.cons (o := ⟨some 118, _, _, _, _, _⟩) rfl (fun K hK => ?_) AllReadyH.nil
          refine step_go (by rfl) 45 _ _ (by rfl) (fun _ _ => by kernel_rfl) _ (by rfl) (US.out _ k1) ?_
          rintro e w5 ⟨rfl, b5⟩
          refine ⟨_, rfl, ?_⟩
          refine hK.out _ _ (k1.trans (b5.mono k1.size)) (fun hHeld => ?_)
          clear hK K
          try simp only [Act.put, List.setIfInBounds_toArray, List.set_cons_zero, List.set_cons_succ]
          refine wpAnyH_take (i := 28) (oi := ⟨some 119, _, _, _, _, _⟩) (v := ?qv28e1) rfl (by kernel_rfl) (by kernel_rfl) (by kernel_rfl) (fun _ _ _ h => h) (Or.inl ⟨by rfl, ?qy28e1⟩) hHeld ?qr28e1
          case qy28e1 => (intro w' hSw; go_simp; try with_reducible rfl)
          try simp only [Act.put, List.setIfInBounds_toArray, List.set_cons_zero, List.set_cons_succ]
          refine wpAnyH_take (i := 29) (oi := ⟨some 120, _, _, _, _, _⟩) (v := ?qv29e1) rfl (by kernel_rfl) (by kernel_rfl) (by kernel_rfl) (fun _ _ _ h => h) (Or.inl ⟨by rfl, ?qy29e1⟩) hHeld ?qr29e1
          case qy29e1 => (intro w' hSw; go_simp; try with_reducible rfl)
          try simp only [Act.put, List.setIfInBounds_toArray, List.set_cons_zero, List.set_cons_succ]
          refine wpAnyH_take (i := 30) (oi := ⟨some 121, _, _, _, _, _⟩) (v := ?qv30e1) rfl (by kernel_rfl) (by kernel_rfl) (by kernel_rfl) (fun _ _ _ h => h) (Or.inl ⟨by rfl, ?qy30e1⟩) hHeld ?qr30e1
          case qy30e1 => (intro w' hSw; go_simp; try with_reducible rfl)
          try simp only [Act.put, List.setIfInBounds_toArray, List.set_cons_zero, List.set_cons_succ]
          refine wpAnyH_take (i := 31) (oi := ⟨some 122, _, _, _, _, _⟩) (v := ?qv31e1) rfl (by kernel_rfl) (by kernel_rfl) (by kernel_rfl) (fun _ _ _ h => h) (Or.inl ⟨by rfl, ?qy31e1⟩) hHeld ?qr31e1
          case qy31e1 => (intro w' hSw; go_simp; try with_reducible rfl)
          try simp only [Act.put, List.setIfInBounds_toArray, List.set_cons_zero, List.set_cons_succ]
          refine wpAnyH_take (i := 33) (oi := ⟨some 124, _, _, _, _, _⟩) (v := ?qv33e1) rfl (by kernel_rfl) (by kernel_rfl) (by kernel_rfl) (fun _ _ _ h => h) (Or.inl ⟨by rfl, ?qy33e1⟩) hHeld ?qr33e1
          case qy33e1 => (intro w' hSw; go_simp; try with_reducible rfl)
          try simp only [Act.put, List.setIfInBounds_toArray, List.set_cons_zero, List.set_cons_succ]
          refine wpAnyH_ready (rs := [32]) (by kernel_rfl) (by simp) ?_
          refine AllReadyH.cons (o := ⟨some 123, _, _, _, _, _⟩) rfl (fun K hK => ?_) AllReadyH.nil
          refine step_go (by rfl) 9 _ _ (by rfl) (fun _ _ => by kernel_rfl) _ (by rfl) (PB.out _ (k1.trans (b5.mono k1.size))) ?_
          rintro e w6 ⟨g6, rfl, hg6, K6, b6⟩
          refine ⟨_, rfl, ?_⟩
          refine hK.out _ _ ((k1.trans (b5.mono k1.size)).trans (b6.mono (k1.trans (b5.mono k1.size)).size)) (fun hHeld => ?_)
          clear hK K
          try simp only [Act.put, List.setIfInBounds_toArray, List.set_cons_zero, List.set_cons_succ]
          refine wpAnyH_ready (rs := [34]) (by kernel_rfl) (by simp) ?_
          refine AllReadyH.cons (o := ⟨some 125, _, _, _, _, _⟩) rfl (fun K hK => ?_) AllReadyH.nil
          refine step_go (by rfl) 51 _ _ (by rfl) (fun _ _ => by kernel_rfl) _ (by rfl) (EQ.out _ _ K6 ((k1.trans (b5.mono k1.size)).trans (b6.mono (k1.trans (b5.mono k1.size)).size))) ?_
          rintro e w7 ⟨rfl, n7, rfl⟩
          refine ⟨_, rfl, ?_⟩
          refine hK.out _ _ (bel_drewN ((k1.trans (b5.mono k1.size)).trans (b6.mono (k1.trans (b5.mono k1.size)).size)) _) (fun hHeld => ?_)
          clear hK K
          try simp only [Act.put, List.setIfInBounds_toArray, List.set_cons_zero, List.set_cons_succ]
          refine wpAnyH_take (i := 35) (oi := ⟨some 126, _, _, _, _, _⟩) (v := ?qv35e1) rfl (by kernel_rfl) (by kernel_rfl) (by kernel_rfl) (fun _ _ _ h => h) (Or.inl ⟨by rfl, ?qy35e1⟩) hHeld ?qr35e1
          case qy35e1 => (intro w' hSw; go_simp; try with_reducible rfl)
          try simp only [Act.put, List.setIfInBounds_toArray, List.set_cons_zero, List.set_cons_succ]
          refine wpAnyH_take (i := 36) (oi := ⟨some 127, _, _, _, _, _⟩) (v := ?qv36e1) rfl (by kernel_rfl) (by kernel_rfl) (by kernel_rfl) (fun _ _ _ h => h) (Or.inl ⟨by rfl, ?qy36e1⟩) hHeld ?qr36e1
          case qy36e1 => (intro w' hSw; go_simp; try with_reducible rfl)
          try simp only [Act.put, List.setIfInBounds_toArray, List.set_cons_zero, List.set_cons_succ]
          refine wpAnyH_done (by kernel_rfl) ?_ _
          refine NoPanic.normal ?_
          have B7 : Below wr.heap.size wr (w6.drewN n7) := bel_drewN ((k1.trans (b5.mono k1.size)).trans (b6.mono (k1.trans (b5.mono k1.size)).size)) _
          have BF := Lib.hid (hbl.trans (B7.mono hbl.size))
          have PF := Lib.hid (PS.out _ B7)
          clear hHeld k1 b5 b6 K6 B7
          cases eqv with
          | false =>
            have HN := Lib.hid (show parseR b = none by rw [HRR.out, if_pos (.inr (.inr (of_decide_eq_false HEQ.out.symm)))])
            go_wp2_with fail
            go_ret
            exact .no HN.out BF.out
          | true =>
            have HN := Lib.hid (show parseR b = some (snds []) by rw [HRR.out, if_neg (fun h => by
                rcases h with h | h | h
                · rw [HLF.out] at h; cases h
                · exact absurd h (by have := H512.out; omega)
                · exact h (of_decide_eq_true HEQ.out.symm))])
            go_wp2_with fail
            go_ret
            exact .yes HN.out HK.out HI.out BF.out PF.out
        · have hpos : 0 < r.length := by rw [hr0]; simp
          rcases hq2.1.2 with ⟨_, h0⟩ | ⟨gr, cap, cur, hL, hbg, hgh, hncap, hcm, _⟩
          · omega
          · subst hL
            have c3 : wr.cell? ⟨q, 3, none⟩ = some (.slice (some ⟨gr, 0, none⟩) r.length cap) := by simp [World.cell?, hq1]
            obtain ⟨hgr, y0, cl, _, _⟩ := OwnR.cells (show OwnR wr w.heap.size _ r from hq2.1) (r.length - 1) (by omega)
            have HLF0 := Lib.hid (lastFree_at (r := r) (by omega))
            obtain ⟨K, hK⟩ : ∃ K, r.length - 1 = K := ⟨_, rfl⟩
            have eK : IntKind.i64.wrap ((r.length : Int) - 1) = (K : Int) := by rw [IntWalk.i64_in _ (by omega)]; omega
            have j0 : (0 : Int) ≤ (K : Int) := by omega
            have j1 : (K : Int) < (r.length : Int) := by omega
            have t97 : decide ((0 : Int) < (r.length : Int)) = true := by simp; omega
            have t98 : decide (0 < r.length) = true := by simp; omega
            have t99 : ¬ r = [] := by rw [hr0]; simp
            obtain ⟨fl, hfl⟩ : ∃ fl, fl = (r[r.length - 1]'(by omega)).2.isSome := ⟨_, rfl⟩
            rw [← hfl] at HLF0 cl
            rw [hK] at cl
            unfold maxLen at hcm
            clear hfl hK hps hp hq1 hq2 hlen hsz hszr hbr d1 y0 hr0 hrl hgh
            cases fl with
            | false =>
              have HN := Lib.hid (show parseR b = none by rw [HRR.out, if_pos (.inl HLF0.out)])
              go_wp2_with fail
              refine wp_region_noPanic ?_
              refine wp_region_held_drew (S := fun w' => Below wr.heap.size wr w') (by kernel_rfl) (Below.refl _ _).drew (fun hHeld => ?_)
              generalize wr.drew = D at hHeld ⊢
              have k1 : Below wr.heap.size wr D := hHeld
              refine wpAnyH_take (i := 0) (oi := ⟨some 91, _, _, _, _, _⟩) (v := ?qv0a1) rfl (by kernel_rfl) (by kernel_rfl) (by kernel_rfl) (fun _ _ _ h => h) (Or.inl ⟨by rfl, ?qy0a1⟩) hHeld ?qr0a1
              case qy0a1 => (intro w' hSw; go_simp; try with_reducible rfl)
              try simp only [Act.put, List.setIfInBounds_toArray, List.set_cons_zero, List.set_cons_succ]
              refine wpAnyH_take (i := 1) (oi := ⟨some 92, _, _, _, _, _⟩) (v := ?qv1a1) rfl (by kernel_rfl) (by kernel_rfl) (by kernel_rfl) (fun _ _ _ h => h) (Or.inl ⟨by rfl, ?qy1a1⟩) hHeld ?qr1a1
              case qy1a1 => (intro w' hSw; go_simp; try with_reducible rfl)
              try simp only [Act.put, List.setIfInBounds_toArray, List.set_cons_zero, List.set_cons_succ]
              refine wpAnyH_take (i := 2) (oi := ⟨some 93, _, _, _, _, _⟩) (v := ?qv2a1) rfl (by kernel_rfl) (by kernel_rfl) (by kernel_rfl) (fun _ _ _ h => h) (Or.inl ⟨by rfl, ?qy2a1⟩) hHeld ?qr2a1
              case qy2a1 => (intro w' hSw; go_simp; try with_reducible rfl)
              try simp only [Act.put, List.setIfInBounds_toArray, List.set_cons_zero, List.set_cons_succ]
              refine wpAnyH_take (i := 3) (oi := ⟨some 94, _, _, _, _, _⟩) (v := ?qv3a1) rfl (by kernel_rfl) (by kernel_rfl) (by kernel_rfl) (fun _ _ _ h => h) (Or.inl ⟨by rfl, ?qy3a1⟩) hHeld ?qr3a1
              case qy3a1 => (intro w' hSw; have z3 := (hSw.cell (p := ⟨q, 3, none⟩) hql).trans c3; have zl := (hSw.cell (p := ⟨gr, K * 2 + 1, none⟩) hgr).trans cl; go_simp; try with_reducible rfl)
              try simp only [Act.put, List.setIfInBounds_toArray, List.set_cons_zero, List.set_cons_succ]
              refine wpAnyH_take (i := 4) (oi := ⟨some 95, _, _, _, _, _⟩) (v := ?qv4a1) rfl (by kernel_rfl) (by kernel_rfl) (by kernel_rfl) (fun _ _ _ h => h) (Or.inl ⟨by rfl, ?qy4a1⟩) hHeld ?qr4a1
              case qy4a1 => (intro w' hSw; go_simp; try with_reducible rfl)
              try simp only [Act.put, List.setIfInBounds_toArray, List.set_cons_zero, List.set_cons_succ]
              refine wpAnyH_take (i := 5) (oi := ⟨some 96, _, _, _, _, _⟩) (v := ?qv5a1) rfl (by kernel_rfl) (by kernel_rfl) (by kernel_rfl) (fun _ _ _ h => h) (Or.inl ⟨by rfl, ?qy5a1⟩) hHeld ?qr5a1
              case qy5a1 => (intro w' hSw; go_simp; try with_reducible rfl)
              try simp only [Act.put, List.setIfInBounds_toArray, List.set_cons_zero, List.set_cons_succ]
              refine wpAnyH_take (i := 6) (oi := ⟨some 97, _, _, _, _, _⟩) (v := ?qv6a1) rfl (by kernel_rfl) (by kernel_rfl) (by kernel_rfl) (fun _ _ _ h => h) (Or.inl ⟨by rfl, ?qy6a1⟩) hHeld ?qr6a1
              case qy6a1 => (intro w' hSw; go_simp; try with_reducible rfl)
              try simp only [Act.put, List.setIfInBounds_toArray, List.set_cons_zero, List.set_cons_succ]
              refine wpAnyH_take (i := 7) (oi := ⟨some 98, _, _, _, _, _⟩) (v := ?qv7a1) rfl (by kernel_rfl) (by kernel_rfl) (by kernel_rfl) (fun _ _ _ h => h) (Or.inl ⟨by rfl, ?qy7a1⟩) hHeld ?qr7a1
              case qy7a1 => (intro w' hSw; go_simp; try with_reducible rfl)
              try simp only [Act.put, List.setIfInBounds_toArray, List.set_cons_zero, List.set_cons_succ]
              refine wpAnyH_take (i := 8) (oi := ⟨some 99, _, _, _, _, _⟩) (v := ?qv8a1) rfl (by kernel_rfl) (by kernel_rfl) (by kernel_rfl) (fun _ _ _ h => h) (Or.inl ⟨by rfl, ?qy8a1⟩) hHeld ?qr8a1
              case qy8a1 => (intro w' hSw; go_simp; try with_reducible rfl)
              try simp only [Act.put, List.setIfInBounds_toArray, List.set_cons_zero, List.set_cons_succ]
              refine wpAnyH_take (i := 9) (oi := ⟨some 100, _, _, _, _, _⟩) (v := ?qv9a1) rfl (by kernel_rfl) (by kernel_rfl) (by kernel_rfl) (fun _ _ _ h => h) (Or.inl ⟨by rfl, ?qy9a1⟩) hHeld ?qr9a1
              case qy9a1 => (intro w' hSw; go_simp; try with_reducible rfl)
              try simp only [Act.put, List.setIfInBounds_toArray, List.set_cons_zero, List.set_cons_succ]
              refine wpAnyH_take (i := 10) (oi := ⟨some 101, _, _, _, _, _⟩) (v := ?qv10a1) rfl (by kernel_rfl) (by kernel_rfl) (by kernel_rfl) (fun _ _ _ h => h) (Or.inl ⟨by rfl, ?qy10a1⟩) hHeld ?qr10a1
              case qy10a1 => (intro w' hSw; have z3 := (hSw.cell (p := ⟨q, 3, none⟩) hql).trans c3; have zl := (hSw.cell (p := ⟨gr, K * 2 + 1, none⟩) hgr).trans cl; go_simp; try with_reducible rfl)
              try simp only [Act.put, List.setIfInBounds_toArray, List.set_cons_zero, List.set_cons_succ]
              refine wpAnyH_take (i := 11) (oi := ⟨some 102, _, _, _, _, _⟩) (v := ?qv11a1) rfl (by kernel_rfl) (by kernel_rfl) (by kernel_rfl) (fun _ _ _ h => h) (Or.inl ⟨by rfl, ?qy11a1⟩) hHeld ?qr11a1
              case qy11a1 => (intro w' hSw; go_simp; try with_reducible rfl)
              try simp only [Act.put, List.setIfInBounds_toArray, List.set_cons_zero, List.set_cons_succ]
              refine wpAnyH_take (i := 12) (oi := ⟨some 103, _, _, _, _, _⟩) (v := ?qv12a1) rfl (by kernel_rfl) (by kernel_rfl) (by kernel_rfl) (fun _ _ _ h => h) (Or.inl ⟨by rfl, ?qy12a1⟩) hHeld ?qr12a1
              case qy12a1 => (intro w' hSw; go_simp; try with_reducible rfl)
              try simp only [Act.put, List.setIfInBounds_toArray, List.set_cons_zero, List.set_cons_succ]
              refine wpAnyH_take (i := 13) (oi := ⟨some 104, _, _, _, _, _⟩) (v := ?qv13a1) rfl (by kernel_rfl) (by kernel_rfl) (by kernel_rfl) (fun _ _ _ h => h) (Or.inl ⟨by rfl, ?qy13a1⟩) hHeld ?qr13a1
              case qy13a1 => (intro w' hSw; go_simp; try with_reducible rfl)
              try simp only [Act.put, List.setIfInBounds_toArray, List.set_cons_zero, List.set_cons_succ]
              refine wpAnyH_take (i := 14) (oi := ⟨some 105, _, _, _, _, _⟩) (v := ?qv14a1) rfl (by kernel_rfl) (by kernel_rfl) (by kernel_rfl) (fun _ _ _ h => h) (Or.inl ⟨by rfl, ?qy14a1⟩) hHeld ?qr14a1
              case qy14a1 => (intro w' hSw; have z3 := (hSw.cell (p := ⟨q, 3, none⟩) hql).trans c3; have zl := (hSw.cell (p := ⟨gr, K * 2 + 1, none⟩) hgr).trans cl; go_simp; try with_reducible rfl)
              try simp only [Act.put, List.setIfInBounds_toArray, List.set_cons_zero, List.set_cons_succ]
              refine wpAnyH_take (i := 15) (oi := ⟨some 106, _, _, _, _, _⟩) (v := ?qv15a1) rfl (by kernel_rfl) (by kernel_rfl) (by kernel_rfl) (fun _ _ _ h => h) (Or.inl ⟨by rfl, ?qy15a1⟩) hHeld ?qr15a1
              case qy15a1 => (intro w' hSw; go_simp; try with_reducible rfl)
              try simp only [Act.put, List.setIfInBounds_toArray, List.set_cons_zero, List.set_cons_succ]
              refine wpAnyH_take (i := 16) (oi := ⟨some 107, _, _, _, _, _⟩) (v := ?qv16a1) rfl (by kernel_rfl) (by kernel_rfl) (by kernel_rfl) (fun _ _ _ h => h) (Or.inl ⟨by rfl, ?qy16a1⟩) hHeld ?qr16a1
              case qy16a1 => (intro w' hSw; go_simp; try with_reducible rfl)
              try simp only [Act.put, List.setIfInBounds_toArray, List.set_cons_zero, List.set_cons_succ]
              refine wpAnyH_take (i := 17) (oi := ⟨some 108, _, _, _, _, _⟩) (v := ?qv17a1) rfl (by kernel_rfl) (by kernel_rfl) (by kernel_rfl) (fun _ _ _ h => h) (Or.inl ⟨by rfl, ?qy17a1⟩) hHeld ?qr17a1
              case qy17a1 => (intro w' hSw; go_simp; try with_reducible rfl)
              try simp only [Act.put, List.setIfInBounds_toArray, List.set_cons_zero, List.set_cons_succ]
              refine wpAnyH_take (i := 18) (oi := ⟨some 109, _, _, _, _, _⟩) (v := ?qv18a1) rfl (by kernel_rfl) (by kernel_rfl) (by kernel_rfl) (fun _ _ _ h => h) (Or.inl ⟨by rfl, ?qy18a1⟩) hHeld ?qr18a1
              case qy18a1 => (intro w' hSw; go_simp; try with_reducible rfl)
              try simp only [Act.put, List.setIfInBounds_toArray, List.set_cons_zero, List.set_cons_succ]
              refine wpAnyH_take (i := 19) (oi := ⟨some 110, _, _, _, _, _⟩) (v := ?qv19a1) rfl (by kernel_rfl) (by kernel_rfl) (by kernel_rfl) (fun _ _ _ h => h) (Or.inl ⟨by rfl, ?qy19a1⟩) hHeld ?qr19a1
              case qy19a1 => (intro w' hSw; have z3 := (hSw.cell (p := ⟨q, 3, none⟩) hql).trans c3; have zl := (hSw.cell (p := ⟨gr, K * 2 + 1, none⟩) hgr).trans cl; go_simp; try with_reducible rfl)
              try simp only [Act.put, List.setIfInBounds_toArray, List.set_cons_zero, List.set_cons_succ]
              refine wpAnyH_take (i := 20) (oi := ⟨some 111, _, _, _, _, _⟩) (v := ?qv20a1) rfl (by kernel_rfl) (by kernel_rfl) (by kernel_rfl) (fun _ _ _ h => h) (Or.inl ⟨by rfl, ?qy20a1⟩) hHeld ?qr20a1
              case qy20a1 => (intro w' hSw; go_simp; try with_reducible rfl)
              try simp only [Act.put, List.setIfInBounds_toArray, List.set_cons_zero, List.set_cons_succ]
              refine wpAnyH_take (i := 21) (oi := ⟨some 112, _, _, _, _, _⟩) (v := ?qv21a1) rfl (by kernel_rfl) (by kernel_rfl) (by kernel_rfl) (fun _ _ _ h => h) (Or.inl ⟨by rfl, ?qy21a1⟩) hHeld ?qr21a1
              case qy21a1 => (intro w' hSw; go_simp; try with_reducible rfl)
              try simp only [Act.put, List.setIfInBounds_toArray, List.set_cons_zero, List.set_cons_succ]
              refine wpAnyH_take (i := 22) (oi := ⟨some 113, _, _, _, _, _⟩) (v := ?qv22a1) rfl (by kernel_rfl) (by kernel_rfl) (by kernel_rfl) (fun _ _ _ h => h) (Or.inl ⟨by rfl, ?qy22a1⟩) hHeld ?qr22a1
              case qy22a1 => (intro w' hSw; go_simp; try with_reducible rfl)
              try simp only [Act.put, List.setIfInBounds_toArray, List.set_cons_zero, List.set_cons_succ]
              refine wpAnyH_take (i := 23) (oi := ⟨some 114, _, _, _, _, _⟩) (v := undef) rfl (by kernel_rfl) (by kernel_rfl) (by kernel_rfl) (fun _ _ _ h => h) (Or.inr ⟨by rfl, rfl⟩) hHeld ?_
              try simp only [Act.put, List.setIfInBounds_toArray, List.set_cons_zero, List.set_cons_succ]
              refine wpAnyH_take (i := 24) (oi := ⟨some 115, _, _, _, _, _⟩) (v := undef) rfl (by kernel_rfl) (by kernel_rfl) (by kernel_rfl) (fun _ _ _ h => h) (Or.inr ⟨by rfl, rfl⟩) hHeld ?_
              try simp only [Act.put, List.setIfInBounds_toArray, List.set_cons_zero, List.set_cons_succ]
              refine wpAnyH_take (i := 25) (oi := ⟨some 116, _, _, _, _, _⟩) (v := undef) rfl (by kernel_rfl) (by kernel_rfl) (by kernel_rfl) (fun _ _ _ h => h) (Or.inr ⟨by rfl, rfl⟩) hHeld ?_
              try simp only [Act.put, List.setIfInBounds_toArray, List.set_cons_zero, List.set_cons_succ]
              refine wpAnyH_take (i := 26) (oi := ⟨some 117, _, _, _, _, _⟩) (v := undef) rfl (by kernel_rfl) (by kernel_rfl) (by kernel_rfl) (fun _ _ _ h => h) (Or.inr ⟨by rfl, rfl⟩) hHeld ?_
              try simp only [Act.put, List.setIfInBounds_toArray, List.set_cons_zero, List.set_cons_succ]
              refine wpAnyH_take (i := 27) (oi := ⟨some 118, _, _, _, _, _⟩) (v := undef) rfl (by kernel_rfl) (by kernel_rfl) (by kernel_rfl) (fun _ _ _ h => h) (Or.inr ⟨by rfl, rfl⟩) hHeld ?_
              try simp only [Act.put, List.setIfInBounds_toArray, List.set_cons_zero, List.set_cons_succ]
              refine wpAnyH_take (i := 28) (oi := ⟨some 119, _, _, _, _, _⟩) (v := undef) rfl (by kernel_rfl) (by kernel_rfl) (by kernel_rfl) (fun _ _ _ h => h) (Or.inr ⟨by rfl, rfl⟩) hHeld ?_
              try simp only [Act.put, List.setIfInBounds_toArray, List.set_cons_zero, List.set_cons_succ]
              refine wpAnyH_take (i := 29) (oi := ⟨some 120, _, _, _, _, _⟩) (v := ?qv29a1) rfl (by kernel_rfl) (by kernel_rfl) (by kernel_rfl) (fun _ _ _ h => h) (Or.inl ⟨by rfl, ?qy29a1⟩) hHeld ?qr29a1
              case qy29a1 => (intro w' hSw; go_simp; try with_reducible rfl)
              try simp only [Act.put, List.setIfInBounds_toArray, List.set_cons_zero, List.set_cons_succ]
              refine wpAnyH_take (i := 30) (oi := ⟨some 121, _, _, _, _, _⟩) (v := ?qv30a1) rfl (by kernel_rfl) (by kernel_rfl) (by kernel_rfl) (fun _ _ _ h => h) (Or.inl ⟨by rfl, ?qy30a1⟩) hHeld ?qr30a1
              case qy30a1 => (intro w' hSw; go_simp; try with_reducible rfl)
              try simp only [Act.put, List.setIfInBounds_toArray, List.set_cons_zero, List.set_cons_succ]
              refine wpAnyH_take (i := 31) (oi := ⟨some 122, _, _, _, _, _⟩) (v := undef) rfl (by kernel_rfl) (by kernel_rfl) (by kernel_rfl) (fun _ _ _ h => h) (Or.inr ⟨by rfl, rfl⟩) hHeld ?_
              try simp only [Act.put, List.setIfInBounds_toArray, List.set_cons_zero, List.set_cons_succ]
              refine wpAnyH_take (i := 32) (oi := ⟨some 123, _, _, _, _, _⟩) (v := undef) rfl (by kernel_rfl) (by kernel_rfl) (by kernel_rfl) (fun _ _ _ h => h) (Or.inr ⟨by rfl, rfl⟩) hHeld ?_
              try simp only [Act.put, List.setIfInBounds_toArray, List.set_cons_zero, List.set_cons_succ]
              refine wpAnyH_take (i := 33) (oi := ⟨some 124, _, _, _, _, _⟩) (v := undef) rfl (by kernel_rfl) (by kernel_rfl) (by kernel_rfl) (fun _ _ _ h => h) (Or.inr ⟨by rfl, rfl⟩) hHeld ?_
              try simp only [Act.put, List.setIfInBounds_toArray, List.set_cons_zero, List.set_cons_succ]
              refine wpAnyH_take (i := 34) (oi := ⟨some 125, _, _, _, _, _⟩) (v := undef) rfl (by kernel_rfl) (by kernel_rfl) (by kernel_rfl) (fun _ _ _ h => h) (Or.inr ⟨by rfl, rfl⟩) hHeld ?_
              try simp only [Act.put, List.setIfInBounds_toArray, List.set_cons_zero, List.set_cons_succ]
              refine wpAnyH_take (i := 35) (oi := ⟨some 126, _, _, _, _, _⟩) (v := undef) rfl (by kernel_rfl) (by kernel_rfl) (by kernel_rfl) (fun _ _ _ h => h) (Or.inr ⟨by rfl, rfl⟩) hHeld ?_
              try simp only [Act.put, List.setIfInBounds_toArray, List.set_cons_zero, List.set_cons_succ]
              refine wpAnyH_take (i := 36) (oi := ⟨some 127, _, _, _, _, _⟩) (v := ?qv36a1) rfl (by kernel_rfl) (by kernel_rfl) (by kernel_rfl) (fun _ _ _ h => h) (Or.inl ⟨by rfl, ?qy36a1⟩) hHeld ?qr36a1
              case qy36a1 => (intro w' hSw; go_simp; try with_reducible rfl)
              try simp only [Act.put, List.setIfInBounds_toArray, List.set_cons_zero, List.set_cons_succ]
              refine wpAnyH_done (by kernel_rfl) ?_ _
              refine NoPanic.normal ?_
              have BF := Lib.hid (hbl.trans (k1.mono hbl.size))
              clear hHeld k1
              go_wp2_with fail
              go_ret
              exact .no HN.out BF.out
            | true =>
              by_cases h512 : sizeS (snds r) ≤ 512
              · have H512 := Lib.hid h512
                have HLF := Lib.hid (show lastFree (snds r) = false from HLF0.out)
                have tz : decide ((512 : Int) < (sizeS (snds r) : Int)) = false := by simp; omega
                have PS := Lib.hid (PS0.out H512.out)
                have PB := Lib.hid (fun w' h => PBytes_any (PS.out w' h))
                have hpl := pageB_length kd id (snds r) H512.out
                obtain ⟨eqv, heqv⟩ : ∃ v, v = decide (pageB kd id (snds r) = b) := ⟨_, rfl⟩
                have HEQ := Lib.hid heqv
                have EQ := Lib.hid (fun (w' : World) (g' : Nat) (h : Blk w' g' (pageB kd id (snds r))) (h' : Below wr.heap.size wr w') => Equal_any _ _ _ b w' (h.byt hpl) ((HBR.out w' h').byt hl))
                rw [← heqv] at EQ
                clear hpl heqv h512
                go_wp2_with fail
                refine wp_region_noPanic ?_
                refine wp_region_held_drew (S := fun w' => Below wr.heap.size wr w') (by kernel_rfl) (Below.refl _ _).drew (fun hHeld => ?_)
                generalize wr.drew = D at hHeld ⊢
                have k1 : Below wr.heap.size wr D := hHeld
                refine wpAnyH_take (i := 0) (oi := ⟨some 91, _, _, _, _, _⟩) (v := ?qv0n1) rfl (by kernel_rfl) (by kernel_rfl) (by kernel_rfl) (fun _ _ _ h => h) (Or.inl ⟨by rfl, ?qy0n1⟩) hHeld ?qr0n1
                case qy0n1 => (intro w' hSw; go_simp; try with_reducible rfl)
                try simp only [Act.put, List.setIfInBounds_toArray, List.set_cons_zero, List.set_cons_succ]
                refine wpAnyH_take (i := 1) (oi := ⟨some 92, _, _, _, _, _⟩) (v := ?qv1n1) rfl (by kernel_rfl) (by kernel_rfl) (by kernel_rfl) (fun _ _ _ h => h) (Or.inl ⟨by rfl, ?qy1n1⟩) hHeld ?qr1n1
                case qy1n1 => (intro w' hSw; go_simp; try with_reducible rfl)
                try simp only [Act.put, List.setIfInBounds_toArray, List.set_cons_zero, List.set_cons_succ]
                refine wpAnyH_take (i := 2) (oi := ⟨some 93, _, _, _, _, _⟩) (v := ?qv2n1) rfl (by kernel_rfl) (by kernel_rfl) (by kernel_rfl) (fun _ _ _ h => h) (Or.inl ⟨by rfl, ?qy2n1⟩) hHeld ?qr2n1
                case qy2n1 => (intro w' hSw; go_simp; try with_reducible rfl)
                try simp only [Act.put, List.setIfInBounds_toArray, List.set_cons_zero, List.set_cons_succ]
                refine wpAnyH_take (i := 3) (oi := ⟨some 94, _, _, _, _, _⟩) (v := ?qv3n1) rfl (by kernel_rfl) (by kernel_rfl) (by kernel_rfl) (fun _ _ _ h => h) (Or.inl ⟨by rfl, ?qy3n1⟩) hHeld ?qr3n1
                case qy3n1 => (intro w' hSw; have z3 := (hSw.cell (p := ⟨q, 3, none⟩) hql).trans c3; have zl := (hSw.cell (p := ⟨gr, K * 2 + 1, none⟩) hgr).trans cl; go_simp; try with_reducible rfl)
                try simp only [Act.put, List.setIfInBounds_toArray, List.set_cons_zero, List.set_cons_succ]
                refine wpAnyH_take (i := 4) (oi := ⟨some 95, _, _, _, _, _⟩) (v := ?qv4n1) rfl (by kernel_rfl) (by kernel_rfl) (by kernel_rfl) (fun _ _ _ h => h) (Or.inl ⟨by rfl, ?qy4n1⟩) hHeld ?qr4n1
                case qy4n1 => (intro w' hSw; go_simp; try with_reducible rfl)
                try simp only [Act.put, List.setIfInBounds_toArray, List.set_cons_zero, List.set_cons_succ]
                refine wpAnyH_take (i := 5) (oi := ⟨some 96, _, _, _, _, _⟩) (v := ?qv5n1) rfl (by kernel_rfl) (by kernel_rfl) (by kernel_rfl) (fun _ _ _ h => h) (Or.inl ⟨by rfl, ?qy5n1⟩) hHeld ?qr5n1
                case qy5n1 => (intro w' hSw; go_simp; try with_reducible rfl)
                try simp only [Act.put, List.setIfInBounds_toArray, List.set_cons_zero, List.set_cons_succ]
                refine wpAnyH_take (i := 6) (oi := ⟨some 97, _, _, _, _, _⟩) (v := ?qv6n1) rfl (by kernel_rfl) (by kernel_rfl) (by kernel_rfl) (fun _ _ _ h => h) (Or.inl ⟨by rfl, ?qy6n1⟩) hHeld ?qr6n1
                case qy6n1 => (intro w' hSw; go_simp; try with_reducible rfl)
                try simp only [Act.put, List.setIfInBounds_toArray, List.set_cons_zero, List.set_cons_succ]
                refine wpAnyH_take (i := 7) (oi := ⟨some 98, _, _, _, _, _⟩) (v := ?qv7n1) rfl (by kernel_rfl) (by kernel_rfl) (by kernel_rfl) (fun _ _ _ h => h) (Or.inl ⟨by rfl, ?qy7n1⟩) hHeld ?qr7n1
                case qy7n1 => (intro w' hSw; go_simp; try with_reducible rfl)
                try simp only [Act.put, List.setIfInBounds_toArray, List.set_cons_zero, List.set_cons_succ]
                refine wpAnyH_take (i := 8) (oi := ⟨some 99, _, _, _, _, _⟩) (v := ?qv8n1) rfl (by kernel_rfl) (by kernel_rfl) (by kernel_rfl) (fun _ _ _ h => h) (Or.inl ⟨by rfl, ?qy8n1⟩) hHeld ?qr8n1
                case qy8n1 => (intro w' hSw; go_simp; try with_reducible rfl)
                try simp only [Act.put, List.setIfInBounds_toArray, List.set_cons_zero, List.set_cons_succ]
                refine wpAnyH_take (i := 9) (oi := ⟨some 100, _, _, _, _, _⟩) (v := ?qv9n1) rfl (by kernel_rfl) (by kernel_rfl) (by kernel_rfl) (fun _ _ _ h => h) (Or.inl ⟨by rfl, ?qy9n1⟩) hHeld ?qr9n1
                case qy9n1 => (intro w' hSw; go_simp; try with_reducible rfl)
                try simp only [Act.put, List.setIfInBounds_toArray, List.set_cons_zero, List.set_cons_succ]
                refine wpAnyH_take (i := 10) (oi := ⟨some 101, _, _, _, _, _⟩) (v := ?qv10n1) rfl (by kernel_rfl) (by kernel_rfl) (by kernel_rfl) (fun _ _ _ h => h) (Or.inl ⟨by rfl, ?qy10n1⟩) hHeld ?qr10n1
                case qy10n1 => (intro w' hSw; have z3 := (hSw.cell (p := ⟨q, 3, none⟩) hql).trans c3; have zl := (hSw.cell (p := ⟨gr, K * 2 + 1, none⟩) hgr).trans cl; go_simp; try with_reducible rfl)
                try simp only [Act.put, List.setIfInBounds_toArray, List.set_cons_zero, List.set_cons_succ]
                refine wpAnyH_take (i := 11) (oi := ⟨some 102, _, _, _, _, _⟩) (v := ?qv11n1) rfl (by kernel_rfl) (by kernel_rfl) (by kernel_rfl) (fun _ _ _ h => h) (Or.inl ⟨by rfl, ?qy11n1⟩) hHeld ?qr11n1
                case qy11n1 => (intro w' hSw; go_simp; try with_reducible rfl)
                try simp only [Act.put, List.setIfInBounds_toArray, List.set_cons_zero, List.set_cons_succ]
                refine wpAnyH_take (i := 12) (oi := ⟨some 103, _, _, _, _, _⟩) (v := ?qv12n1) rfl (by kernel_rfl) (by kernel_rfl) (by kernel_rfl) (fun _ _ _ h => h) (Or.inl ⟨by rfl, ?qy12n1⟩) hHeld ?qr12n1
                case qy12n1 => (intro w' hSw; go_simp; try with_reducible rfl)
                try simp only [Act.put, List.setIfInBounds_toArray, List.set_cons_zero, List.set_cons_succ]
                refine wpAnyH_take (i := 13) (oi := ⟨some 104, _, _, _, _, _⟩) (v := ?qv13n1) rfl (by kernel_rfl) (by kernel_rfl) (by kernel_rfl) (fun _ _ _ h => h) (Or.inl ⟨by rfl, ?qy13n1⟩) hHeld ?qr13n1
                case qy13n1 => (intro w' hSw; go_simp; try with_reducible rfl)
                try simp only [Act.put, List.setIfInBounds_toArray, List.set_cons_zero, List.set_cons_succ]
                refine wpAnyH_take (i := 14) (oi := ⟨some 105, _, _, _, _, _⟩) (v := ?qv14n1) rfl (by kernel_rfl) (by kernel_rfl) (by kernel_rfl) (fun _ _ _ h => h) (Or.inl ⟨by rfl, ?qy14n1⟩) hHeld ?qr14n1
                case qy14n1 => (intro w' hSw; have z3 := (hSw.cell (p := ⟨q, 3, none⟩) hql).trans c3; have zl := (hSw.cell (p := ⟨gr, K * 2 + 1, none⟩) hgr).trans cl; go_simp; try with_reducible rfl)
                try simp only [Act.put, List.setIfInBounds_toArray, List.set_cons_zero, List.set_cons_succ]
                refine wpAnyH_take (i := 15) (oi := ⟨some 106, _, _, _, _, _⟩) (v := ?qv15n1) rfl (by kernel_rfl) (by kernel_rfl) (by kernel_rfl) (fun _ _ _ h => h) (Or.inl ⟨by rfl, ?qy15n1⟩) hHeld ?qr15n1
                case qy15n1 => (intro w' hSw; go_simp; try with_reducible rfl)
                try simp only [Act.put, List.setIfInBounds_toArray, List.set_cons_zero, List.set_cons_succ]
                refine wpAnyH_take (i := 16) (oi := ⟨some 107, _, _, _, _, _⟩) (v := ?qv16n1) rfl (by kernel_rfl) (by kernel_rfl) (by kernel_rfl) (fun _ _ _ h => h) (Or.inl ⟨by rfl, ?qy16n1⟩) hHeld ?qr16n1
                case qy16n1 => (intro w' hSw; go_simp; try with_reducible rfl)
                try simp only [Act.put, List.setIfInBounds_toArray, List.set_cons_zero, List.set_cons_succ]
                refine wpAnyH_take (i := 17) (oi := ⟨some 108, _, _, _, _, _⟩) (v := ?qv17n1) rfl (by kernel_rfl) (by kernel_rfl) (by kernel_rfl) (fun _ _ _ h => h) (Or.inl ⟨by rfl, ?qy17n1⟩) hHeld ?qr17n1
                case qy17n1 => (intro w' hSw; go_simp; try with_reducible rfl)
                try simp only [Act.put, List.setIfInBounds_toArray, List.set_cons_zero, List.set_cons_succ]
                refine wpAnyH_take (i := 18) (oi := ⟨some 109, _, _, _, _, _⟩) (v := ?qv18n1) rfl (by kernel_rfl) (by kernel_rfl) (by kernel_rfl) (fun _ _ _ h => h) (Or.inl ⟨by rfl, ?qy18n1⟩) hHeld ?qr18n1
                case qy18n1 => (intro w' hSw; go_simp; try with_reducible rfl)
                try simp only [Act.put, List.setIfInBounds_toArray, List.set_cons_zero, List.set_cons_succ]
                refine wpAnyH_take (i := 19) (oi := ⟨some 110, _, _, _, _, _⟩) (v := ?qv19n1) rfl (by kernel_rfl) (by kernel_rfl) (by kernel_rfl) (fun _ _ _ h => h) (Or.inl ⟨by rfl, ?qy19n1⟩) hHeld ?qr19n1
                case qy19n1 => (intro w' hSw; have z3 := (hSw.cell (p := ⟨q, 3, none⟩) hql).trans c3; have zl := (hSw.cell (p := ⟨gr, K * 2 + 1, none⟩) hgr).trans cl; go_simp; try with_reducible rfl)
                try simp only [Act.put, List.setIfInBounds_toArray, List.set_cons_zero, List.set_cons_succ]
                refine wpAnyH_take (i := 20) (oi := ⟨some 111, _, _, _, _, _⟩) (v := ?qv20n1) rfl (by kernel_rfl) (by kernel_rfl) (by kernel_rfl) (fun _ _ _ h => h) (Or.inl ⟨by rfl, ?qy20n1⟩) hHeld ?qr20n1
                case qy20n1 => (intro w' hSw; go_simp; try with_reducible rfl)
                try simp only [Act.put, List.setIfInBounds_toArray, List.set_cons_zero, List.set_cons_succ]
                refine wpAnyH_take (i := 21) (oi := ⟨some 112, _, _, _, _, _⟩) (v := ?qv21n1) rfl (by kernel_rfl) (by kernel_rfl) (by kernel_rfl) (fun _ _ _ h => h) (Or.inl ⟨by rfl, ?qy21n1⟩) hHeld ?qr21n1
                case qy21n1 => (intro w' hSw; go_simp; try with_reducible rfl)
                try simp only [Act.put, List.setIfInBounds_toArray, List.set_cons_zero, List.set_cons_succ]
                refine wpAnyH_take (i := 22) (oi := ⟨some 113, _, _, _, _, _⟩) (v := ?qv22n1) rfl (by kernel_rfl) (by kernel_rfl) (by kernel_rfl) (fun _ _ _ h => h) (Or.inl ⟨by rfl, ?qy22n1⟩) hHeld ?qr22n1
                case qy22n1 => (intro w' hSw; go_simp; try with_reducible rfl)
                try simp only [Act.put, List.setIfInBounds_toArray, List.set_cons_zero, List.set_cons_succ]
                refine wpAnyH_take (i := 23) (oi := ⟨some 114, _, _, _, _, _⟩) (v := ?qv23n1) rfl (by kernel_rfl) (by kernel_rfl) (by kernel_rfl) (fun _ _ _ h => h) (Or.inl ⟨by rfl, ?qy23n1⟩) hHeld ?qr23n1
                case qy23n1 => (intro w' hSw; go_simp; try with_reducible rfl)
                try simp only [Act.put, List.setIfInBounds_toArray, List.set_cons_zero, List.set_cons_succ]
                refine wpAnyH_take (i := 24) (oi := ⟨some 115, _, _, _, _, _⟩) (v := ?qv24n1) rfl (by kernel_rfl) (by kernel_rfl) (by kernel_rfl) (fun _ _ _ h => h) (Or.inl ⟨by rfl, ?qy24n1⟩) hHeld ?qr24n1
                case qy24n1 => (intro w' hSw; go_simp; try with_reducible rfl)
                try simp only [Act.put, List.setIfInBounds_toArray, List.set_cons_zero, List.set_cons_succ]
                refine wpAnyH_take (i := 25) (oi := ⟨some 116, _, _, _, _, _⟩) (v := ?qv25n1) rfl (by kernel_rfl) (by kernel_rfl) (by kernel_rfl) (fun _ _ _ h => h) (Or.inl ⟨by rfl, ?qy25n1⟩) hHeld ?qr25n1
                case qy25n1 => (intro w' hSw; go_simp; try with_reducible rfl)
                try simp only [Act.put, List.setIfInBounds_toArray, List.set_cons_zero, List.set_cons_succ]
                refine wpAnyH_take (i := 26) (oi := ⟨some 117, _, _, _, _, _⟩) (v := ?qv26n1) rfl (by kernel_rfl) (by kernel_rfl) (by kernel_rfl) (fun _ _ _ h => h) (Or.inl ⟨by rfl, ?qy26n1⟩) hHeld ?qr26n1
                case qy26n1 => (intro w' hSw; have z3 := (hSw.cell (p := ⟨q, 3, none⟩) hql).trans c3; have zl := (hSw.cell (p := ⟨gr, K * 2 + 1, none⟩) hgr).trans cl; go_simp; try with_reducible rfl)
                try simp only [Act.put, List.setIfInBounds_toArray, List.set_cons_zero, List.set_cons_succ]
                refine wpAnyH_ready (rs := [27]) (by kernel_rfl) (by simp) ?_
                refine AllReadyH.cons (o := ⟨some 118, _, _, _, _, _⟩) rfl (fun K hK => ?_) AllReadyH.nil
                refine step_go (by rfl) 45 _ _ (by rfl) (fun _ _ => by kernel_rfl) _ (by rfl) (US.out _ k1) ?_
                rintro e w5 ⟨rfl, b5⟩
                refine ⟨_, rfl, ?_⟩
                refine hK.out _ _ (k1.trans (b5.mono k1.size)) (fun hHeld => ?_)
                clear hK K
                try simp only [Act.put, List.setIfInBounds_toArray, List.set_cons_zero, List.set_cons_succ]
                refine wpAnyH_take (i := 28) (oi := ⟨some 119, _, _, _, _, _⟩) (v := ?qv28n1) rfl (by kernel_rfl) (by kernel_rfl) (by kernel_rfl) (fun _ _ _ h => h) (Or.inl ⟨by rfl, ?qy28n1⟩) hHeld ?qr28n1
                case qy28n1 => (intro w' hSw; go_simp; try with_reducible rfl)
                try simp only [Act.put, List.setIfInBounds_toArray, List.set_cons_zero, List.set_cons_succ]
                refine wpAnyH_take (i := 29) (oi := ⟨some 120, _, _, _, _, _⟩) (v := ?qv29n1) rfl (by kernel_rfl) (by kernel_rfl) (by kernel_rfl) (fun _ _ _ h => h) (Or.inl ⟨by rfl, ?qy29n1⟩) hHeld ?qr29n1
                case qy29n1 => (intro w' hSw; go_simp; try with_reducible rfl)
                try simp only [Act.put, List.setIfInBounds_toArray, List.set_cons_zero, List.set_cons_succ]
                refine wpAnyH_take (i := 30) (oi := ⟨some 121, _, _, _, _, _⟩) (v := ?qv30n1) rfl (by kernel_rfl) (by kernel_rfl) (by kernel_rfl) (fun _ _ _ h => h) (Or.inl ⟨by rfl, ?qy30n1⟩) hHeld ?qr30n1
                case qy30n1 => (intro w' hSw; go_simp; try with_reducible rfl)
                try simp only [Act.put, List.setIfInBounds_toArray, List.set_cons_zero, List.set_cons_succ]
                refine wpAnyH_take (i := 31) (oi := ⟨some 122, _, _, _, _, _⟩) (v := ?qv31n1) rfl (by kernel_rfl) (by kernel_rfl) (by kernel_rfl) (fun _ _ _ h => h) (Or.inl ⟨by rfl, ?qy31n1⟩) hHeld ?qr31n1
                case qy31n1 => (intro w' hSw; go_simp; try with_reducible rfl)
                try simp only [Act.put, List.setIfInBounds_toArray, List.set_cons_zero, List.set_cons_succ]
                refine wpAnyH_take (i := 33) (oi := ⟨some 124, _, _, _, _, _⟩) (v := ?qv33n1) rfl (by kernel_rfl) (by kernel_rfl) (by kernel_rfl) (fun _ _ _ h => h) (Or.inl ⟨by rfl, ?qy33n1⟩) hHeld ?qr33n1
                case qy33n1 => (intro w' hSw; go_simp; try with_reducible rfl)
                try simp only [Act.put, List.setIfInBounds_toArray, List.set_cons_zero, List.set_cons_succ]
                refine wpAnyH_ready (rs := [32]) (by kernel_rfl) (by simp) ?_
                refine AllReadyH.cons (o := ⟨some 123, _, _, _, _, _⟩) rfl (fun K hK => ?_) AllReadyH.nil
                refine step_go (by rfl) 9 _ _ (by rfl) (fun _ _ => by kernel_rfl) _ (by rfl) (PB.out _ (k1.trans (b5.mono k1.size))) ?_
                rintro e w6 ⟨g6, rfl, hg6, K6, b6⟩
                refine ⟨_, rfl, ?_⟩
                refine hK.out _ _ ((k1.trans (b5.mono k1.size)).trans (b6.mono (k1.trans (b5.mono k1.size)).size)) (fun hHeld => ?_)
                clear hK K
                try simp only [Act.put, List.setIfInBounds_toArray, List.set_cons_zero, List.set_cons_succ]
                refine wpAnyH_ready (rs := [34]) (by kernel_rfl) (by simp) ?_
                refine AllReadyH.cons (o := ⟨some 125, _, _, _, _, _⟩) rfl (fun K hK => ?_) AllReadyH.nil
                refine step_go (by rfl) 51 _ _ (by rfl) (fun _ _ => by kernel_rfl) _ (by rfl) (EQ.out _ _ K6 ((k1.trans (b5.mono k1.size)).trans (b6.mono (k1.trans (b5.mono k1.size)).size))) ?_
                rintro e w7 ⟨rfl, n7, rfl⟩
                refine ⟨_, rfl, ?_⟩
                refine hK.out _ _ (bel_drewN ((k1.trans (b5.mono k1.size)).trans (b6.mono (k1.trans (b5.mono k1.size)).size)) _) (fun hHeld => ?_)
                clear hK K
                try simp only [Act.put, List.setIfInBounds_toArray, List.set_cons_zero, List.set_cons_succ]
                refine wpAnyH_take (i := 35) (oi := ⟨some 126, _, _, _, _, _⟩) (v := ?qv35n1) rfl (by kernel_rfl) (by kernel_rfl) (by kernel_rfl) (fun _ _ _ h => h) (Or.inl ⟨by rfl, ?qy35n1⟩) hHeld ?qr35n1
                case qy35n1 => (intro w' hSw; go_simp; try with_reducible rfl)
                try simp only [Act.put, List.setIfInBounds_toArray, List.set_cons_zero, List.set_cons_succ]
                refine wpAnyH_take (i := 36) (oi := ⟨some 127, _, _, _, _, _⟩) (v := ?qv36n1) rfl (by kernel_rfl) (by kernel_rfl) (by kernel_rfl) (fun _ _ _ h => h) (Or.inl ⟨by rfl, ?qy36n1⟩) hHeld ?qr36n1
                case qy36n1 => (intro w' hSw; go_simp; try with_reducible rfl)
                try simp only [Act.put, List.setIfInBounds_toArray, List.set_cons_zero, List.set_cons_succ]
                refine wpAnyH_done (by kernel_rfl) ?_ _
                refine NoPanic.normal ?_
                have B7 : Below wr.heap.size wr (w6.drewN n7) := bel_drewN ((k1.trans (b5.mono k1.size)).trans (b6.mono (k1.trans (b5.mono k1.size)).size)) _
                have BF := Lib.hid (hbl.trans (B7.mono hbl.size))
                have PF := Lib.hid (PS.out _ B7)
                clear hHeld k1 b5 b6 K6 B7
                cases eqv with
                | false =>
                  have HN := Lib.hid (show parseR b = none by rw [HRR.out, if_pos (.inr (.inr (of_decide_eq_false HEQ.out.symm)))])
                  go_wp2_with fail
                  go_ret
                  exact .no HN.out BF.out
                | true =>
                  have HN := Lib.hid (show parseR b = some (snds r) by rw [HRR.out, if_neg (fun h => by
                      rcases h with h | h | h
                      · rw [HLF.out] at h; cases h
                      · exact absurd h (by have := H512.out; omega)
                      · exact h (of_decide_eq_true HEQ.out.symm))])
                  go_wp2_with fail
                  go_ret
                  exact .yes HN.out HK.out HI.out BF.out PF.out
              · have HN := Lib.hid (show parseR b = none by rw [HRR.out, if_pos (.inr (.inl (by omega)))])
                have tz : decide ((512 : Int) < (sizeS (snds r) : Int)) = true := by simp; omega
                go_wp2_with fail
                refine wp_region_noPanic ?_
                refine wp_region_held_drew (S := fun w' => Below wr.heap.size wr w') (by kernel_rfl) (Below.refl _ _).drew (fun hHeld => ?_)
                generalize wr.drew = D at hHeld ⊢
                have k1 : Below wr.heap.size wr D := hHeld
                refine wpAnyH_take (i := 0) (oi := ⟨some 91, _, _, _, _, _⟩) (v := ?qv0b1) rfl (by kernel_rfl) (by kernel_rfl) (by kernel_rfl) (fun _ _ _ h => h) (Or.inl ⟨by rfl, ?qy0b1⟩) hHeld ?qr0b1
                case qy0b1 => (intro w' hSw; go_simp; try with_reducible rfl)
                try simp only [Act.put, List.setIfInBounds_toArray, List.set_cons_zero, List.set_cons_succ]
                refine wpAnyH_take (i := 1) (oi := ⟨some 92, _, _, _, _, _⟩) (v := ?qv1b1) rfl (by kernel_rfl) (by kernel_rfl) (by kernel_rfl) (fun _ _ _ h => h) (Or.inl ⟨by rfl, ?qy1b1⟩) hHeld ?qr1b1
                case qy1b1 => (intro w' hSw; go_simp; try with_reducible rfl)
                try simp only [Act.put, List.setIfInBounds_toArray, List.set_cons_zero, List.set_cons_succ]
                refine wpAnyH_take (i := 2) (oi := ⟨some 93, _, _, _, _, _⟩) (v := ?qv2b1) rfl (by kernel_rfl) (by kernel_rfl) (by kernel_rfl) (fun _ _ _ h => h) (Or.inl ⟨by rfl, ?qy2b1⟩) hHeld ?qr2b1
                case qy2b1 => (intro w' hSw; go_simp; try with_reducible rfl)
                try simp only [Act.put, List.setIfInBounds_toArray, List.set_cons_zero, List.set_cons_succ]
                refine wpAnyH_take (i := 3) (oi := ⟨some 94, _, _, _, _, _⟩) (v := ?qv3b1) rfl (by kernel_rfl) (by kernel_rfl) (by kernel_rfl) (fun _ _ _ h => h) (Or.inl ⟨by rfl, ?qy3b1⟩) hHeld ?qr3b1
                case qy3b1 => (intro w' hSw; have z3 := (hSw.cell (p := ⟨q, 3, none⟩) hql).trans c3; have zl := (hSw.cell (p := ⟨gr, K * 2 + 1, none⟩) hgr).trans cl; go_simp; try with_reducible rfl)
                try simp only [Act.put, List.setIfInBounds_toArray, List.set_cons_zero, List.set_cons_succ]
                refine wpAnyH_take (i := 4) (oi := ⟨some 95, _, _, _, _, _⟩) (v := ?qv4b1) rfl (by kernel_rfl) (by kernel_rfl) (by kernel_rfl) (fun _ _ _ h => h) (Or.inl ⟨by rfl, ?qy4b1⟩) hHeld ?qr4b1
                case qy4b1 => (intro w' hSw; go_simp; try with_reducible rfl)
                try simp only [Act.put, List.setIfInBounds_toArray, List.set_cons_zero, List.set_cons_succ]
                refine wpAnyH_take (i := 5) (oi := ⟨some 96, _, _, _, _, _⟩) (v := ?qv5b1) rfl (by kernel_rfl) (by kernel_rfl) (by kernel_rfl) (fun _ _ _ h => h) (Or.inl ⟨by rfl, ?qy5b1⟩) hHeld ?qr5b1
                case qy5b1 => (intro w' hSw; go_simp; try with_reducible rfl)
                try simp only [Act.put, List.setIfInBounds_toArray, List.set_cons_zero, List.set_cons_succ]
                refine wpAnyH_take (i := 6) (oi := ⟨some 97, _, _, _, _, _⟩) (v := ?qv6b1) rfl (by kernel_rfl) (by kernel_rfl) (by kernel_rfl) (fun _ _ _ h => h) (Or.inl ⟨by rfl, ?qy6b1⟩) hHeld ?qr6b1
                case qy6b1 => (intro w' hSw; go_simp; try with_reducible rfl)
                try simp only [Act.put, List.setIfInBounds_toArray, List.set_cons_zero, List.set_cons_succ]
                refine wpAnyH_take (i := 7) (oi := ⟨some 98, _, _, _, _, _⟩) (v := ?qv7b1) rfl (by kernel_rfl) (by kernel_rfl) (by kernel_rfl) (fun _ _ _ h => h) (Or.inl ⟨by rfl, ?qy7b1⟩) hHeld ?qr7b1
                case qy7b1 => (intro w' hSw; go_simp; try with_reducible rfl)
                try simp only [Act.put, List.setIfInBounds_toArray, List.set_cons_zero, List.set_cons_succ]
                refine wpAnyH_take (i := 8) (oi := ⟨some 99, _, _, _, _, _⟩) (v := ?qv8b1) rfl (by kernel_rfl) (by kernel_rfl) (by kernel_rfl) (fun _ _ _ h => h) (Or.inl ⟨by rfl, ?qy8b1⟩) hHeld ?qr8b1
                case qy8b1 => (intro w' hSw; go_simp; try with_reducible rfl)
                try simp only [Act.put, List.setIfInBounds_toArray, List.set_cons_zero, List.set_cons_succ]
                refine wpAnyH_take (i := 9) (oi := ⟨some 100, _, _, _, _, _⟩) (v := ?qv9b1) rfl (by kernel_rfl) (by kernel_rfl) (by kernel_rfl) (fun _ _ _ h => h) (Or.inl ⟨by rfl, ?qy9b1⟩) hHeld ?qr9b1
                case qy9b1 => (intro w' hSw; go_simp; try with_reducible rfl)
                try simp only [Act.put, List.setIfInBounds_toArray, List.set_cons_zero, List.set_cons_succ]
                refine wpAnyH_take (i := 10) (oi := ⟨some 101, _, _, _, _, _⟩) (v := ?qv10b1) rfl (by kernel_rfl) (by kernel_rfl) (by kernel_rfl) (fun _ _ _ h => h) (Or.inl ⟨by rfl, ?qy10b1⟩) hHeld ?qr10b1
                case qy10b1 => (intro w' hSw; have z3 := (hSw.cell (p := ⟨q, 3, none⟩) hql).trans c3; have zl := (hSw.cell (p := ⟨gr, K * 2 + 1, none⟩) hgr).trans cl; go_simp; try with_reducible rfl)
                try simp only [Act.put, List.setIfInBounds_toArray, List.set_cons_zero, List.set_cons_succ]
                refine wpAnyH_take (i := 11) (oi := ⟨some 102, _, _, _, _, _⟩) (v := ?qv11b1) rfl (by kernel_rfl) (by kernel_rfl) (by kernel_rfl) (fun _ _ _ h => h) (Or.inl ⟨by rfl, ?qy11b1⟩) hHeld ?qr11b1
                case qy11b1 => (intro w' hSw; go_simp; try with_reducible rfl)
                try simp only [Act.put, List.setIfInBounds_toArray, List.set_cons_zero, List.set_cons_succ]
                refine wpAnyH_take (i := 12) (oi := ⟨some 103, _, _, _, _, _⟩) (v := ?qv12b1) rfl (by kernel_rfl) (by kernel_rfl) (by kernel_rfl) (fun _ _ _ h => h) (Or.inl ⟨by rfl, ?qy12b1⟩) hHeld ?qr12b1
                case qy12b1 => (intro w' hSw; go_simp; try with_reducible rfl)
                try simp only [Act.put, List.setIfInBounds_toArray, List.set_cons_zero, List.set_cons_succ]
                refine wpAnyH_take (i := 13) (oi := ⟨some 104, _, _, _, _, _⟩) (v := ?qv13b1) rfl (by kernel_rfl) (by kernel_rfl) (by kernel_rfl) (fun _ _ _ h => h) (Or.inl ⟨by rfl, ?qy13b1⟩) hHeld ?qr13b1
                case qy13b1 => (intro w' hSw; go_simp; try with_reducible rfl)
                try simp only [Act.put, List.setIfInBounds_toArray, List.set_cons_zero, List.set_cons_succ]
                refine wpAnyH_take (i := 14) (oi := ⟨some 105, _, _, _, _, _⟩) (v := ?qv14b1) rfl (by kernel_rfl) (by kernel_rfl) (by kernel_rfl) (fun _ _ _ h => h) (Or.inl ⟨by rfl, ?qy14b1⟩) hHeld ?qr14b1
                case qy14b1 => (intro w' hSw; have z3 := (hSw.cell (p := ⟨q, 3, none⟩) hql).trans c3; have zl := (hSw.cell (p := ⟨gr, K * 2 + 1, none⟩) hgr).trans cl; go_simp; try with_reducible rfl)
                try simp only [Act.put, List.setIfInBounds_toArray, List.set_cons_zero, List.set_cons_succ]
                refine wpAnyH_take (i := 15) (oi := ⟨some 106, _, _, _, _, _⟩) (v := ?qv15b1) rfl (by kernel_rfl) (by kernel_rfl) (by kernel_rfl) (fun _ _ _ h => h) (Or.inl ⟨by rfl, ?qy15b1⟩) hHeld ?qr15b1
                case qy15b1 => (intro w' hSw; go_simp; try with_reducible rfl)
                try simp only [Act.put, List.setIfInBounds_toArray, List.set_cons_zero, List.set_cons_succ]
                refine wpAnyH_take (i := 16) (oi := ⟨some 107, _, _, _, _, _⟩) (v := ?qv16b1) rfl (by kernel_rfl) (by kernel_rfl) (by kernel_rfl) (fun _ _ _ h => h) (Or.inl ⟨by rfl, ?qy16b1⟩) hHeld ?qr16b1
                case qy16b1 => (intro w' hSw; go_simp; try with_reducible rfl)
                try simp only [Act.put, List.setIfInBounds_toArray, List.set_cons_zero, List.set_cons_succ]
                refine wpAnyH_take (i := 17) (oi := ⟨some 108, _, _, _, _, _⟩) (v := ?qv17b1) rfl (by kernel_rfl) (by kernel_rfl) (by kernel_rfl) (fun _ _ _ h => h) (Or.inl ⟨by rfl, ?qy17b1⟩) hHeld ?qr17b1
                case qy17b1 => (intro w' hSw; go_simp; try with_reducible rfl)
                try simp only [Act.put, List.setIfInBounds_toArray, List.set_cons_zero, List.set_cons_succ]
                refine wpAnyH_take (i := 18) (oi := ⟨some 109, _, _, _, _, _⟩) (v := ?qv18b1) rfl (by kernel_rfl) (by kernel_rfl) (by kernel_rfl) (fun _ _ _ h => h) (Or.inl ⟨by rfl, ?qy18b1⟩) hHeld ?qr18b1
                case qy18b1 => (intro w' hSw; go_simp; try with_reducible rfl)
                try simp only [Act.put, List.setIfInBounds_toArray, List.set_cons_zero, List.set_cons_succ]
                refine wpAnyH_take (i := 19) (oi := ⟨some 110, _, _, _, _, _⟩) (v := ?qv19b1) rfl (by kernel_rfl) (by kernel_rfl) (by kernel_rfl) (fun _ _ _ h => h) (Or.inl ⟨by rfl, ?qy19b1⟩) hHeld ?qr19b1
                case qy19b1 => (intro w' hSw; have z3 := (hSw.cell (p := ⟨q, 3, none⟩) hql).trans c3; have zl := (hSw.cell (p := ⟨gr, K * 2 + 1, none⟩) hgr).trans cl; go_simp; try with_reducible rfl)
                try simp only [Act.put, List.setIfInBounds_toArray, List.set_cons_zero, List.set_cons_succ]
                refine wpAnyH_take (i := 20) (oi := ⟨some 111, _, _, _, _, _⟩) (v := ?qv20b1) rfl (by kernel_rfl) (by kernel_rfl) (by kernel_rfl) (fun _ _ _ h => h) (Or.inl ⟨by rfl, ?qy20b1⟩) hHeld ?qr20b1
                case qy20b1 => (intro w' hSw; go_simp; try with_reducible rfl)
                try simp only [Act.put, List.setIfInBounds_toArray, List.set_cons_zero, List.set_cons_succ]
                refine wpAnyH_take (i := 21) (oi := ⟨some 112, _, _, _, _, _⟩) (v := ?qv21b1) rfl (by kernel_rfl) (by kernel_rfl) (by kernel_rfl) (fun _ _ _ h => h) (Or.inl ⟨by rfl, ?qy21b1⟩) hHeld ?qr21b1
                case qy21b1 => (intro w' hSw; go_simp; try with_reducible rfl)
                try simp only [Act.put, List.setIfInBounds_toArray, List.set_cons_zero, List.set_cons_succ]
                refine wpAnyH_take (i := 22) (oi := ⟨some 113, _, _, _, _, _⟩) (v := ?qv22b1) rfl (by kernel_rfl) (by kernel_rfl) (by kernel_rfl) (fun _ _ _ h => h) (Or.inl ⟨by rfl, ?qy22b1⟩) hHeld ?qr22b1
                case qy22b1 => (intro w' hSw; go_simp; try with_reducible rfl)
                try simp only [Act.put, List.setIfInBounds_toArray, List.set_cons_zero, List.set_cons_succ]
                refine wpAnyH_take (i := 23) (oi := ⟨some 114, _, _, _, _, _⟩) (v := ?qv23b1) rfl (by kernel_rfl) (by kernel_rfl) (by kernel_rfl) (fun _ _ _ h => h) (Or.inl ⟨by rfl, ?qy23b1⟩) hHeld ?qr23b1
                case qy23b1 => (intro w' hSw; go_simp; try with_reducible rfl)
                try simp only [Act.put, List.setIfInBounds_toArray, List.set_cons_zero, List.set_cons_succ]
                refine wpAnyH_take (i := 24) (oi := ⟨some 115, _, _, _, _, _⟩) (v := ?qv24b1) rfl (by kernel_rfl) (by kernel_rfl) (by kernel_rfl) (fun _ _ _ h => h) (Or.inl ⟨by rfl, ?qy24b1⟩) hHeld ?qr24b1
                case qy24b1 => (intro w' hSw; go_simp; try with_reducible rfl)
                try simp only [Act.put, List.setIfInBounds_toArray, List.set_cons_zero, List.set_cons_succ]
                refine wpAnyH_take (i := 25) (oi := ⟨some 116, _, _, _, _, _⟩) (v := ?qv25b1) rfl (by kernel_rfl) (by kernel_rfl) (by kernel_rfl) (fun _ _ _ h => h) (Or.inl ⟨by rfl, ?qy25b1⟩) hHeld ?qr25b1
                case qy25b1 => (intro w' hSw; go_simp; try with_reducible rfl)
                try simp only [Act.put, List.setIfInBounds_toArray, List.set_cons_zero, List.set_cons_succ]
                refine wpAnyH_take (i := 26) (oi := ⟨some 117, _, _, _, _, _⟩) (v := ?qv26b1) rfl (by kernel_rfl) (by kernel_rfl) (by kernel_rfl) (fun _ _ _ h => h) (Or.inl ⟨by rfl, ?qy26b1⟩) hHeld ?qr26b1
                case qy26b1 => (intro w' hSw; have z3 := (hSw.cell (p := ⟨q, 3, none⟩) hql).trans c3; have zl := (hSw.cell (p := ⟨gr, K * 2 + 1, none⟩) hgr).trans cl; go_simp; try with_reducible rfl)
                try simp only [Act.put, List.setIfInBounds_toArray, List.set_cons_zero, List.set_cons_succ]
                refine wpAnyH_ready (rs := [27]) (by kernel_rfl) (by simp) ?_
                refine AllReadyH.cons (o := ⟨some 118, _, _, _, _, _⟩) rfl (fun K hK => ?_) AllReadyH.nil
                refine step_go (by rfl) 45 _ _ (by rfl) (fun _ _ => by kernel_rfl) _ (by rfl) (US.out _ k1) ?_
                rintro e w5 ⟨rfl, b5⟩
                refine ⟨_, rfl, ?_⟩
                refine hK.out _ _ (k1.trans (b5.mono k1.size)) (fun hHeld => ?_)
                clear hK K
                try simp only [Act.put, List.setIfInBounds_toArray, List.set_cons_zero, List.set_cons_succ]
                refine wpAnyH_take (i := 28) (oi := ⟨some 119, _, _, _, _, _⟩) (v := ?qv28b1) rfl (by kernel_rfl) (by kernel_rfl) (by kernel_rfl) (fun _ _ _ h => h) (Or.inl ⟨by rfl, ?qy28b1⟩) hHeld ?qr28b1
                case qy28b1 => (intro w' hSw; go_simp; try with_reducible rfl)
                try simp only [Act.put, List.setIfInBounds_toArray, List.set_cons_zero, List.set_cons_succ]
                refine wpAnyH_take (i := 29) (oi := ⟨some 120, _, _, _, _, _⟩) (v := ?qv29b1) rfl (by kernel_rfl) (by kernel_rfl) (by kernel_rfl) (fun _ _ _ h => h) (Or.inl ⟨by rfl, ?qy29b1⟩) hHeld ?qr29b1
                case qy29b1 => (intro w' hSw; go_simp; try with_reducible rfl)
                try simp only [Act.put, List.setIfInBounds_toArray, List.set_cons_zero, List.set_cons_succ]
                refine wpAnyH_take (i := 30) (oi := ⟨some 121, _, _, _, _, _⟩) (v := ?qv30b1) rfl (by kernel_rfl) (by kernel_rfl) (by kernel_rfl) (fun _ _ _ h => h) (Or.inl ⟨by rfl, ?qy30b1⟩) hHeld ?qr30b1
                case qy30b1 => (intro w' hSw; go_simp; try with_reducible rfl)
                try simp only [Act.put, List.setIfInBounds_toArray, List.set_cons_zero, List.set_cons_succ]
                refine wpAnyH_take (i := 31) (oi := ⟨some 122, _, _, _, _, _⟩) (v := undef) rfl (by kernel_rfl) (by kernel_rfl) (by kernel_rfl) (fun _ _ _ h => h) (Or.inr ⟨by rfl, rfl⟩) hHeld ?_
                try simp only [Act.put, List.setIfInBounds_toArray, List.set_cons_zero, List.set_cons_succ]
                refine wpAnyH_take (i := 32) (oi := ⟨some 123, _, _, _, _, _⟩) (v := undef) rfl (by kernel_rfl) (by kernel_rfl) (by kernel_rfl) (fun _ _ _ h => h) (Or.inr ⟨by rfl, rfl⟩) hHeld ?_
                try simp only [Act.put, List.setIfInBounds_toArray, List.set_cons_zero, List.set_cons_succ]
                refine wpAnyH_take (i := 33) (oi := ⟨some 124, _, _, _, _, _⟩) (v := undef) rfl (by kernel_rfl) (by kernel_rfl) (by kernel_rfl) (fun _ _ _ h => h) (Or.inr ⟨by rfl, rfl⟩) hHeld ?_
                try simp only [Act.put, List.setIfInBounds_toArray, List.set_cons_zero, List.set_cons_succ]
                refine wpAnyH_take (i := 34) (oi := ⟨some 125, _, _, _, _, _⟩) (v := undef) rfl (by kernel_rfl) (by kernel_rfl) (by kernel_rfl) (fun _ _ _ h => h) (Or.inr ⟨by rfl, rfl⟩) hHeld ?_
                try simp only [Act.put, List.setIfInBounds_toArray, List.set_cons_zero, List.set_cons_succ]
                refine wpAnyH_take (i := 35) (oi := ⟨some 126, _, _, _, _, _⟩) (v := undef) rfl (by kernel_rfl) (by kernel_rfl) (by kernel_rfl) (fun _ _ _ h => h) (Or.inr ⟨by rfl, rfl⟩) hHeld ?_
                try simp only [Act.put, List.setIfInBounds_toArray, List.set_cons_zero, List.set_cons_succ]
                refine wpAnyH_take (i := 36) (oi := ⟨some 127, _, _, _, _, _⟩) (v := ?qv36b1) rfl (by kernel_rfl) (by kernel_rfl) (by kernel_rfl) (fun _ _ _ h => h) (Or.inl ⟨by rfl, ?qy36b1⟩) hHeld ?qr36b1
                case qy36b1 => (intro w' hSw; go_simp; try with_reducible rfl)
                try simp only [Act.put, List.setIfInBounds_toArray, List.set_cons_zero, List.set_cons_succ]
                refine wpAnyH_done (by kernel_rfl) ?_ _
                refine NoPanic.normal ?_
                have BF := Lib.hid (hbl.trans ((k1.trans (b5.mono k1.size)).mono hbl.size))
                clear hHeld k1 b5
                go_wp2_with fail
                go_ret
                exact .no HN.out BF.out

/-- slots.Parse -/
def ParseOk (w : World) (b : List UInt8) (e : Ending) (w' : World) : Prop :=
  ∃ P u, e = .returned (.tuple #[.pointer P, u]) ∧ Below w.heap.size w w' ∧
    match parseR b with
    | none => P = none ∧ (Er.fault strPage 0 (.num 10)).Is w' u
    | some st => u = .nilIface ∧ ∃ q, P = some ⟨q, 0, none⟩ ∧ PageS w' w.heap.size q ((b.getD 0 0).toNat : Nat) (idB b : Nat) st
theorem ParseP_any {w : World} {g : Nat} {b : List UInt8} (hb : Blk w g b) (hl : b.length = 512) :
    Calls Tryd.prog 11 #[.slice (some ⟨g, 0, none⟩) 512 512] w (ParseOk w b) := by
  have PA := parse_any hb hl
  clear hb
  cases hpr : parseR b with
  | none =>
    have BL := Lib.hid (fun w => blame_any 0 10 w)
    unfold ParseRet at PA
    unfold ParseOk
    simp only [hpr] at PA ⊢
    replace PA := Lib.hid PA
    clear hpr
    go_enter Tryd.func11, Tryd.ntmps11
    go_wp2_with fail
    refine PA.out.mono ?_
    rintro e w1 ⟨P, rfl, b1, rfl⟩
    go_wp2_with fail
    refine (BL.out _).mono ?_
    rintro e w2 ⟨u, rfl, hu, b2⟩
    go_wp2_with fail
    go_ret2
    exact ⟨_, _, rfl, b1.trans (b2.mono b1.size), rfl, hu⟩
  | some st =>
    unfold ParseRet at PA
    unfold ParseOk
    simp only [hpr] at PA ⊢
    replace PA := Lib.hid PA
    clear hpr
    go_enter Tryd.func11, Tryd.ntmps11
    go_wp2_with fail
    refine PA.out.mono ?_
    rintro e w1 ⟨P, rfl, b1, q, rfl, hp⟩
    have HP := Lib.hid hp
    clear hp
    go_wp2_with fail
    go_ret2
    exact ⟨_, _, rfl, b1, rfl, q, rfl, HP.out⟩
end Go.Proofs.YtdeibgljibcnlaaDoor
