/- FaultRoots answers true, whatever it is given. -/
import Derived.Test.YthijffpackkcnaaFaultNone
import Derived.Test.YthijffpackkcnaaMadeMany
import Derived.Test.YthijffpackkcnaaViewNd
import Derived.Deep.CutBlock
import Derived.Deep.CutRange
import Derived.Deep.RegionHeld3
namespace Go.Proofs.Ythijffpackkcnaa
open Go.RowKit Go.ChangeShapes

/-- a node's own four cells -/
def Nd.slot (w : World) (L : Nat) (d : Nd) (w0 : World) : Prop := ∃ c0 c1 c2 c3, w.heap[L]? = some (.cells #[c0, c1, c2, c3] 24 (0, 0)) ∧ d.Is w0 c0 c1 c2 c3

mutual
theorem en_sz : ∀ d : Nd, d.en.sz ≤ 2 * d.wt
  | .mk k n op l => by
    have h1 := enHead_sz l
    have h2 := ens_sz l
    simp only [Nd.en, Nd.wt]
    repeat' split
    all_goals (simp only [En.sz]; omega)
theorem enHead_sz : ∀ l : List Nd, (enHead l).sz ≤ 2 * wts l + 1
  | [] => by simp [enHead, En.sz, wts]
  | d :: l => by
    have := en_sz d
    simp only [enHead, wts]; omega
theorem ens_sz : ∀ l : List Nd, szs (ens l) ≤ 2 * wts l
  | [] => by simp [ens, szs]
  | d :: l => by
    have := en_sz d
    have := ens_sz l
    simp only [ens, szs, wts]; omega
end
theorem en_isNone (k n : Int) (op : ByteArray) (l : List Nd) : (Nd.mk k n op l).en.isNone = decide (¬ (1 ≤ k ∧ k ≤ 6)) := by
  simp only [Nd.en]
  by_cases h1 : k = 1
  · subst h1; simp [En.isNone]
  · by_cases h2 : k = 2
    · subst h2; simp [En.isNone]
    · by_cases h3 : k = 3
      · subst h3; simp [En.isNone]
      · by_cases h4 : k = 4
        · subst h4; simp [En.isNone]
        · by_cases h5 : k = 5
          · subst h5; simp [En.isNone]
          · by_cases h6 : k = 6
            · subst h6; simp [En.isNone]
            · simp only [if_neg h1, if_neg h2, if_neg h3, if_neg h4, if_neg h5, if_neg h6, En.isNone]
              symm; simp; omega
/-- does it go on? -/
def Nd.goes : Nd → Prop
  | .mk k _ _ l => (k = 2 ∨ k = 6) ∧ ∃ k2 n2 op2 l2 xs, l = .mk k2 n2 op2 l2 :: xs ∧ 1 ≤ k2 ∧ k2 ≤ 6
theorem Nd.down_stop (m : Nd) (h : ¬ m.goes) : m.en.down = (m.en, 0) := by
  rw [En.down_one]
  have : m.en.one.isNone = true := by
    obtain ⟨k, n, op, l⟩ := m
    have key : (k = 2 ∨ k = 6) → (enHead l).isNone = true := fun hk => by
      cases l with
      | nil => rfl
      | cons x xs =>
        obtain ⟨k2, n2, op2, l2⟩ := x
        show (Nd.mk k2 n2 op2 l2).en.isNone = true
        rw [en_isNone]
        simp only [decide_eq_true_eq]
        exact fun hb => h ⟨hk, k2, n2, op2, l2, xs, rfl, hb⟩
    simp only [Nd.en]
    by_cases h1 : k = 1
    · subst h1; simp [En.one, En.isNone]
    · by_cases h2 : k = 2
      · subst h2; simpa [En.one] using key (Or.inl rfl)
      · by_cases h3 : k = 3
        · subst h3; simp [En.one, En.isNone]
        · by_cases h4 : k = 4
          · subst h4; simp [En.one, En.isNone]
          · by_cases h5 : k = 5
            · subst h5; simp [En.one, En.isNone]
            · by_cases h6 : k = 6
              · subst h6; simpa [En.one] using key (Or.inr rfl)
              · simp [h1, h2, h3, h4, h5, h6, En.one, En.isNone]
  rw [this]; rfl
theorem Nd.down_goes (k n : Int) (op : ByteArray) (k2 n2 : Int) (op2 : ByteArray) (l2 xs : List Nd) (h : k = 2 ∨ k = 6) (h1 : 1 ≤ k2) (h2 : k2 ≤ 6) :
    (Nd.mk k n op (.mk k2 n2 op2 l2 :: xs)).en.down = ((Nd.mk k2 n2 op2 l2).en.down.1, (Nd.mk k2 n2 op2 l2).en.down.2 + 1) := by
  have ho : (Nd.mk k n op (.mk k2 n2 op2 l2 :: xs)).en.one = (Nd.mk k2 n2 op2 l2).en := by
    rcases h with rfl | rfl
    · rfl
    · rfl
  rw [En.down_one, ho, en_isNone]
  have : decide (¬ (1 ≤ k2 ∧ k2 ≤ 6)) = false := by simp; omega
  rw [this]; rfl

theorem isPlain (v : Value) (xT : TypeId) (w : World) : (Instr.typeAssert (.iface 34 v) xT 34 true).run Try.prog w = .ok (.tuple #[v, .bool true]) w := by kernel_rfl

/-- a block of four cells -/
theorem slot_cells {w : World} {L : Nat} {a b c d : Value} (h : w.heap[L]? = some (.cells #[a, b, c, d] 24 (0, 0))) :
    w.cell? ⟨L, 0, none⟩ = some a ∧ w.cell? ⟨L, 1, none⟩ = some b ∧ w.cell? ⟨L, 2, none⟩ = some c ∧ w.cell? ⟨L, 3, none⟩ = some d ∧ ∀ o, w.frozen? ⟨L, o, none⟩ = false := by
  refine ⟨?_, ?_, ?_, ?_, fun o => ?_⟩ <;> simp [World.cell?, World.frozen?, h]

theorem one_store {w : World} {L : Nat} {cs : Array Value} {T : TypeId} (o : Nat) (v : Value) (h : w.heap[L]? = some (.cells cs T (0, 0))) : (w.setCell ⟨L, o, none⟩ v).heap[L]? = some (.cells (cs.setIfInBounds o v) T (0, 0)) := by
  have hlt := lt_of_block h
  have h' : w.heap[L] = .cells cs T (0, 0) := by simpa [Array.getElem?_eq_getElem hlt] using h
  show (w.heap.modify L _)[L]? = _
  rw [Array.getElem?_eq_getElem (by simpa using hlt), Array.getElem_modify_self, h']
  rfl
theorem slot_store {w : World} {L : Nat} {a b c d a' b' c' d' : Value} (h : w.heap[L]? = some (.cells #[a, b, c, d] 24 (0, 0))) :
    ((((w.setCell ⟨L, 0, none⟩ a').setCell ⟨L, 1, none⟩ b').setCell ⟨L, 2, none⟩ c').setCell ⟨L, 3, none⟩ d').heap[L]? = some (.cells #[a', b', c', d'] 24 (0, 0)) :=
  one_store 3 d' (one_store 2 c' (one_store 1 b' (one_store 0 a' h)))

set_option maxRecDepth 100000 in
set_option maxHeartbeats 1000000 in
theorem roots_any (d : Nd) (c0 c1 c2 c3 : Value) (w : World) (hd : d.Is w c0 c1 c2 c3) :
    Calls Try.prog 3 #[.agg #[c0, c1, c2, c3]] w fun e w' => e = .returned (.bool true) ∧ Below w.heap.size w w' := by
  have b0 : Below w.heap.size w (w.alloc (.cells #[c0, c1, c2, c3] 24)) := (Below.refl _ _).alloc (Nat.le_refl _) _
  have HW := Lib.hid (weight_any d.wt d c0 c1 c2 c3 0 _ (Nat.le_refl _) (Nd.Is.below b0 hd) (by omega) (by omega))
  have HD := Lib.hid hd
  obtain ⟨kd, nm, op, kl⟩ := d
  obtain ⟨rfl, rfl, rfl, _, ao, c, rfl, _⟩ := hd
  go_enter Try.func3, Try.ntmps3
  go_wp2_with fail
  refine HW.out.mono ?_
  rintro e w1 ⟨r, rfl, hr0, hr1, hr2, b1⟩
  have B1 := b0.trans (b1.mono b0.size)
  by_cases hr : r ≤ 500
  case neg =>
    have t1 : decide (500 < r) = true := by simp; omega
    clear hr2
    go_wp2_with (go_at_call 7; refine (awake7_any _).mono ?_; rintro e w' ⟨rfl, hb5⟩)
    go_ret
    exact ⟨rfl, B1.trans (hb5.mono B1.size)⟩
  have hwt := hr2 hr
  have t1 : decide (500 < r) = false := by simp; omega
  have hbox : ∀ o, w1.cell? ⟨w.heap.size, o, none⟩ = (w.alloc (.cells #[.int .i64 kd, .int .i64 nm, .string op, .slice ao kl.length c] 24)).cell? ⟨w.heap.size, o, none⟩ := fun o => b1.cell (p := ⟨w.heap.size, o, none⟩) (by simp)
  have x0 := (hbox 0).trans (show _ = some (Value.int .i64 kd) by simp)
  have x1 := (hbox 1).trans (show _ = some (Value.int .i64 nm) by simp)
  have x2 := (hbox 2).trans (show _ = some (Value.string op) by simp)
  have x3 := (hbox 3).trans (show _ = some (Value.slice ao kl.length c) by simp)
  clear hr2 hbox
  obtain ⟨D, hD⟩ : ∃ D, (Nd.mk kd nm op kl).en.down = D := ⟨_, rfl⟩
  have HD2 := Lib.hid (show D = ((Nd.mk kd nm op kl).en.down.1, 0 + (Nd.mk kd nm op kl).en.down.2) by rw [hD]; simp)
  have HDD := Lib.hid hD
  clear hD
  have hslot : Nd.slot (w1.alloc (.cells #[.int .i64 kd, .int .i64 nm, .string op, .slice ao kl.length c] 24)) w1.heap.size (Nd.mk kd nm op kl) w := ⟨_, _, _, _, heap_alloc_new _ _, HD.out⟩
  have HSL := Lib.hid hslot
  clear hslot
  have b2 : Below w1.heap.size w1 (w1.alloc (.cells #[.int .i64 kd, .int .i64 nm, .string op, .slice ao kl.length c] 24)) := (Below.refl _ _).alloc (Nat.le_refl _) _
  obtain ⟨Wt, hWt⟩ : ∃ Wt, (Nd.mk kd nm op kl).wt = Wt := ⟨_, rfl⟩
  have HWt := Lib.hid hWt
  rw [hWt] at hwt
  clear hWt
  go_upto_block 0 with fail
  go_cut [3] from 16 to 51 (fun s wx => ∃ (m : Nd) (k : Nat), s = .int .i64 k ∧ Hid (Nd.slot wx w1.heap.size m w) ∧ Below w1.heap.size w1 wx ∧ k ≤ 500 ∧ Hid (D = (m.en, k)))
  case first =>
    go_wp2_with fail
    go_loopg [3] Wt (fun n s wr => ∃ (m : Nd) (k : Nat), s = .int .i64 k ∧ Hid (Nd.slot wr w1.heap.size m w) ∧ Below w1.heap.size w1 wr ∧ m.wt ≤ n ∧ k + m.wt ≤ 500 ∧ Hid (D = (m.en.down.1, k + m.en.down.2)))
    case atStart => exact ⟨_, 0, rfl, HSL, b2, Nat.le_of_eq HWt.out, by rw [HWt.out]; omega, HD2⟩
    case round =>
      obtain ⟨m, k, rfl, hs, hb, hmw, hkm, hdn⟩ := hrel
      obtain ⟨k', n', op', l'⟩ := m
      obtain ⟨_, _, _, _, hcell, rfl, rfl, rfl, _, ao', c', rfl, hc1, hc2, hl⟩ := hs.out
      obtain ⟨s0, s1, s2, s3, sf⟩ := slot_cells hcell
      by_cases hg : (Nd.mk k' n' op' l').goes
      · obtain ⟨hk', k2, n2, op2, l2, xs, rfl, hk1, hk2⟩ := hg
        obtain ⟨b, off, d0, d1, d2, d3, rfl, hb0, q0, q1, q2, q3, hd⟩ := hl.get 0 (by simp)
        rw [Nat.zero_add, Nat.zero_mul, Nat.add_zero] at q0 q1 q2 q3
        have hW := B1.trans (hb.mono B1.size)
        replace q0 := (hW.cell (p := ⟨b, off, none⟩) hb0).trans q0
        replace q1 := (hW.cell (p := ⟨b, off + 1, none⟩) hb0).trans q1
        replace q2 := (hW.cell (p := ⟨b, off + 2, none⟩) hb0).trans q2
        replace q3 := (hW.cell (p := ⟨b, off + 3, none⟩) hb0).trans q3
        have HDD := Lib.hid hd
        obtain ⟨rfl, rfl, rfl, _, ao3, c3, rfl, _⟩ := hd
        have hdn2 := hdn.out
        rw [Nd.down_goes k' n' op' k2 n2 op2 l2 xs hk' hk1 hk2] at hdn2
        have hwt2 : (Nd.mk k2 n2 op2 l2).wt < (Nd.mk k' n' op' (.mk k2 n2 op2 l2 :: xs)).wt := by simp only [Nd.wt, wts]; omega
        have hlen : 0 < (Nd.mk k2 n2 op2 l2 :: xs).length := by simp
        have HN := Lib.hid (show D = ((Nd.mk k2 n2 op2 l2).en.down.1, (k + 1) + (Nd.mk k2 n2 op2 l2).en.down.2) by rw [hdn2]; simp; omega)
        generalize (Nd.mk k2 n2 op2 l2 :: xs).length = len at *
        generalize (Nd.mk k' n' op' (.mk k2 n2 op2 l2 :: xs)).wt = wt1 at *
        generalize hw2 : (Nd.mk k2 n2 op2 l2).wt = wt2 at *
        have HW2 := Lib.hid hw2
        have t0 : decide ((0 : Int) < (len : Int)) = true := by simp; omega
        have i0 : (0 : Int) < (len : Int) := by omega
        have t2 : decide (1 ≤ k2) = true := by simp; omega
        have t3 : decide (k2 ≤ 6) = true := by simp; omega
        have hwt3 : wt2 < gk := by omega
        have HC := Lib.hid hcell
        clear hdn2 hw2 hdn hs hcell hl hlen
        rcases hk' with rfl | rfl
        all_goals
          go_wp2_with fail
          go_roundg wt2
          case measure => exact hwt3
          case rel => exact ⟨.mk k2 n2 op2 l2, k + 1, by go_num, ⟨_, _, _, _, slot_store HC.out, HDD.out⟩, (((hb.setCell (Nat.le_refl _) _).setCell (Nat.le_refl _) _).setCell (Nat.le_refl _) _).setCell (Nat.le_refl _) _, Nat.le_of_eq HW2.out, by rw [HW2.out]; omega, HN⟩
      · have hst := (Nd.mk k' n' op' l').down_stop hg
        have hfin : D = ((Nd.mk k' n' op' l').en, k) := by rw [hdn.out, hst]; simp
        have HF := Lib.hid hfin
        have HS := hs
        have hk5 : k ≤ 500 := by omega
        clear hst hfin hdn hs hcell
        by_cases hk2 : k' = 2 ∨ k' = 6
        · cases l' with
          | nil =>
            clear hl hg
            rcases hk2 with rfl | rfl
            all_goals
              go_wp2_with fail
              go_meet
              exact ⟨_, k, rfl, HS, hb, hk5, HF⟩
          | cons x xs =>
            obtain ⟨k2, n2, op2, l2⟩ := x
            obtain ⟨b, off, d0, d1, d2, d3, rfl, hb0, q0, q1, q2, q3, hd⟩ := hl.get 0 (by simp)
            rw [Nat.zero_add, Nat.zero_mul, Nat.add_zero] at q0
            have hW := B1.trans (hb.mono B1.size)
            replace q0 := (hW.cell (p := ⟨b, off, none⟩) hb0).trans q0
            obtain ⟨rfl, _⟩ := hd
            have hno : ¬ (1 ≤ k2 ∧ k2 ≤ 6) := fun h => hg ⟨hk2, k2, n2, op2, l2, xs, rfl, h⟩
            have hlen : 0 < (Nd.mk k2 n2 op2 l2 :: xs).length := by simp
            have HK : ∃ m, Hid (m = Nd.mk k' n' op' (.mk k2 n2 op2 l2 :: xs)) := ⟨_, rfl⟩
            obtain ⟨mm, hmm⟩ := HK
            rw [← hmm.out] at HF HS
            clear hl hg q1 q2 q3 hmm
            generalize (Nd.mk k2 n2 op2 l2 :: xs).length = len at *
            have t0 : decide ((0 : Int) < (len : Int)) = true := by simp; omega
            have i0 : (0 : Int) < (len : Int) := by omega
            by_cases h1 : 1 ≤ k2
            · have t2 : decide (1 ≤ k2) = true := by simp; omega
              have t3 : decide (k2 ≤ 6) = false := by simp; omega
              clear hno
              rcases hk2 with rfl | rfl
              all_goals
                go_wp2_with fail
                go_meet
                exact ⟨_, k, rfl, HS, hb, hk5, HF⟩
            · have t2 : decide (1 ≤ k2) = false := by simp; omega
              clear hno
              rcases hk2 with rfl | rfl
              all_goals
                go_wp2_with fail
                go_meet
                exact ⟨_, k, rfl, HS, hb, hk5, HF⟩
        · have t2 : (k' == 2) = false := by simp; omega
          have t6 : (k' == 6) = false := by simp; omega
          clear hl hg hk2
          go_wp2_with fail
          go_meet
          exact ⟨_, k, rfl, HS, hb, hk5, HF⟩
  case rest =>
    obtain ⟨m, k, rfl, hs, hb, hk, hdn⟩ := hcut
    obtain ⟨km, nm2, opm, lm⟩ := m
    obtain ⟨_, _, _, _, hcell, rfl, rfl, rfl, _, ao', c', rfl, _⟩ := hs.out
    obtain ⟨s0, s1, s2, s3, _⟩ := slot_cells hcell
    have HC := Lib.hid hcell
    have hW := B1.trans (hb.mono B1.size)
    have z1 := hb.size
    have y0 := (hb.cell (p := ⟨w.heap.size, 0, none⟩) (World.block_lt_of_cell? w1 ⟨w.heap.size, 0, none⟩ x0)).trans x0
    have y1 := (hb.cell (p := ⟨w.heap.size, 1, none⟩) (World.block_lt_of_cell? w1 ⟨w.heap.size, 0, none⟩ x0)).trans x1
    have y2 := (hb.cell (p := ⟨w.heap.size, 2, none⟩) (World.block_lt_of_cell? w1 ⟨w.heap.size, 0, none⟩ x0)).trans x2
    have y3 := (hb.cell (p := ⟨w.heap.size, 3, none⟩) (World.block_lt_of_cell? w1 ⟨w.heap.size, 0, none⟩ x0)).trans x3
    have MADE := Lib.hid (made_any 500 (by omega) (Nd.mk kd nm op kl) _ _ _ _ wc (by rw [HWt.out]; omega) (Nd.Is.below hW HD.out))
    have hz : (Nd.mk kd nm op kl).en.sz ≤ 1000000 := by have := en_sz (Nd.mk kd nm op kl); rw [HWt.out] at this; omega
    have hL := lt_of_block hcell
    clear hcell hs x0 x1 x2 x3
    go_wp2_with fail
    refine MADE.out.mono ?_
    rintro e w2 ⟨v, rfl, hon, b3⟩
    have hv := Lib.hid hon.is
    have s0' := (b3.cell (p := ⟨w1.heap.size, 0, none⟩) hL).trans s0
    have s1' := (b3.cell (p := ⟨w1.heap.size, 1, none⟩) hL).trans s1
    have s2' := (b3.cell (p := ⟨w1.heap.size, 2, none⟩) hL).trans s2
    have hW2 := hW.trans (b3.mono hW.size)
    clear s0 s1 s2 s3 y0 y1 y2 y3 hon
    go_wp2_with fail
    refine (Root_any _ _ _ hv.out hz).mono ?_
    rw [HDD.out, hdn.out]
    rintro e w' ⟨rv, rfl, hrv, rfl⟩
    have DEEP := Lib.hid (show ∀ m, Calls Try.prog 10 #[v] (w2.drewN m) fun e w'' => e = .returned (.int .i64 (k : Int)) ∧ ∃ m, w'' = w2.drewN m from fun m => by
      have := Deep_any _ _ _ (En.Is.below (Below.drewN' (Below.refl _ _) m) hv.out) hz
      rw [HDD.out, hdn.out] at this
      exact this.mono fun e w' ⟨h1, h2⟩ => ⟨h1, m, h2.symm⟩)
    have p1 := isNum_num
    have p2 := isPlain
    have B3 := fun m => Below.drewN' hW2 m
    have hsz2 := b3.size
    by_cases hkm : 1 ≤ km ∧ km ≤ 6
    · have hrn : (Nd.mk km nm2 opm lm).en ≠ .none := fun h => by
        have := en_isNone km nm2 opm lm
        rw [h] at this
        simp [En.isNone] at this
        omega
      have g1 : decide (km < 1) = false := by simp; omega
      have g2 : decide (6 < km) = false := by simp; omega
      by_cases hk1 : km = 1
      · subst hk1
        obtain rfl : rv = .iface 32 (.int .i64 nm2) := hrv
        clear hrn
        go_wp2_with fail
        go_quiet ((exact DEEP.out _))
        go_wp2_with (go_at_call 7; refine (awake7_any _).mono ?_; rintro e w' ⟨rfl, hb5⟩)
        go_ret
        exact ⟨rfl, (B3 _).trans (hb5.mono (B3 _).size)⟩
      · by_cases hk4 : km = 4
        · subst hk4
          obtain ⟨pb, rfl, hpb, hpc⟩ : ∃ b, rv = .iface 34 (.pointer (some ⟨b, 0, none⟩)) ∧ b < w2.heap.size ∧ w2.cell? ⟨b, 0, none⟩ = some (.string opm) := hrv
          clear hrn hk1
          go_wp2_with fail
          go_quiet ((exact DEEP.out _))
          go_wp2_with fail
          have KEEP := Lib.hid (show ∀ w', Below w2.heap.size w2 w' → w'.cell? ⟨pb, 0, none⟩ = some (.string opm) ∧ w'.cell? ⟨w1.heap.size, 2, none⟩ = some (.string opm) from fun w' h => ⟨(h.cell (p := ⟨pb, 0, none⟩) hpb).trans hpc, (h.cell (p := ⟨w1.heap.size, 2, none⟩) (Nat.lt_of_lt_of_le hL hsz2)).trans s2'⟩)
          go_region_held3 (fun w' => w'.cell? ⟨pb, 0, none⟩ = some (.string opm) ∧ w'.cell? ⟨w1.heap.size, 2, none⟩ = some (.string opm))
            (first | exact KEEP.out _ (Below.drewN' (Below.refl _ _) _).drew | exact KEEP.out _ ((Below.drewN' (Below.refl _ _) _).drew.trans (hb5.mono (Nat.le_refl _))))
            ((refine (awake7_any _).mono ?_; rintro e w5 ⟨rfl, hb5⟩))
          go_wp2
          go_ret
          exact ⟨rfl, ((B3 _).drew).trans (hb5.mono ((B3 _).drew).size)⟩
        · obtain ⟨T, y, rfl⟩ := hrv.some hrn
          have g3 : (km == 1) = false := by simp; omega
          have g4 : (km == 4) = false := by simp; omega
          clear hrn hrv hk1 hk4
          go_wp2_with fail
          go_quiet ((exact DEEP.out _))
          go_wp2_with (go_at_call 7; refine (awake7_any _).mono ?_; rintro e w' ⟨rfl, hb5⟩)
          go_ret
          exact ⟨rfl, (B3 _).trans (hb5.mono (B3 _).size)⟩
    · have hrn : (Nd.mk km nm2 opm lm).en = .none := En.isNone_iff.1 (by rw [en_isNone]; exact decide_eq_true hkm)
      rw [hrn] at hrv
      obtain rfl : rv = .nilIface := hrv
      have g3 : (km == 1) = false := by simp; omega
      have g4 : (km == 4) = false := by simp; omega
      by_cases h1 : km < 1
      · have g1 : decide (km < 1) = true := by simp; omega
        clear hrn hkm
        go_wp2_with fail
        go_quiet ((exact DEEP.out _))
        go_wp2_with (go_at_call 7; refine (awake7_any _).mono ?_; rintro e w' ⟨rfl, hb5⟩)
        go_ret
        exact ⟨rfl, (B3 _).trans (hb5.mono (B3 _).size)⟩
      · have g1 : decide (km < 1) = false := by simp; omega
        have g2 : decide (6 < km) = true := by simp; omega
        clear hrn hkm
        go_wp2_with fail
        go_quiet ((exact DEEP.out _))
        go_wp2_with (go_at_call 7; refine (awake7_any _).mono ?_; rintro e w' ⟨rfl, hb5⟩)
        go_ret
        exact ⟨rfl, (B3 _).trans (hb5.mono (B3 _).size)⟩

theorem faultRoots_calls {H : Type} {enc : TypeId × Value → H} {W : World} {base : Nat} {v0 : Value} {d0 : DataW H} {p0 : List MemPlace}
    (o0 : Value.okWide Try.prog W .any base 24 v0) (h0 : DataW.Trod enc Try.prog W 0 (fun _ => true) true 24 v0 d0 p0) :
    Calls Try.prog 3 #[v0] W fun e w' => e = .returned (.bool true) ∧ Below W.heap.size W w' := by
  obtain ⟨x, c0, c1, c2, c3, rfl, hx⟩ := view_node o0 h0
  exact roots_any x c0 c1 c2 c3 W hx
end Go.Proofs.Ythijffpackkcnaa
