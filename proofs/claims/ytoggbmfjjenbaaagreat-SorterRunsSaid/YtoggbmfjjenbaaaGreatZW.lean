/- pergolalaw20.SorterRuns. -/
import Derived.Test.YtoggbmfjjenbaaaGreatZSame
set_option linter.unusedSimpArgs false
set_option linter.unusedVariables false
namespace Go.Proofs.YtoggbmfjjenbaaaGreat
open Go.RowKit

/-- may pieces have that size? -/
def badSz (size : Int) : Bool := decide (size < 1 ∨ 1000 < size)
/-- the runs that are told -/
def toldL (size : Int) (L : List KdL) : List (List KdL) := if badSz size then [] else runsL size.toNat L ((L.length + size.toNat - 1) / size.toNat)
def szEr (size : Int) : Er := if badSz size then .num 1 else .none

theorem RunsB_any (v : Value) (r : List KdV) (size : Int) (w : World) (h : RunRd w v r) (hp : ∀ x ∈ r, x.1.pts.length ≤ 1000000) (hl : r.length ≤ 10000) :
    Calls Tryz.prog 7 #[v, .int .i64 size] w fun e w' => ∃ v' rs u, e = .returned (.tuple #[v', u]) ∧ RunsOwn w' w.heap.size v' rs ∧ conts rs = toldL size (r.map Prod.fst) ∧ (szEr size).Is w' u ∧ Below w.heap.size w w' := by
  by_cases hb : size < 1 ∨ 1000 < size
  · have e : badSz size = true := decide_eq_true hb
    unfold toldL szEr
    rw [e]
    refine (Runs_err v size w hb).mono ?_
    rintro e w' ⟨rfl, rfl⟩
    exact ⟨_, [], _, rfl, ⟨World.ownsRow_nil _ _ _ _, fun q hq => by cases hq⟩, rfl, rfl, Below.refl _ _⟩
  · have e : badSz size = false := decide_eq_false hb
    obtain ⟨s, rfl⟩ : ∃ s : Nat, size = (s : Int) := ⟨size.toNat, by omega⟩
    unfold toldL szEr
    rw [e]
    refine (Runs_any v r s w h hp hl (by omega) (by omega)).mono ?_
    rintro e w' ⟨v', rs, rfl, o, c, b⟩
    exact ⟨_, rs, _, rfl, o, by simpa using c, rfl, b⟩
theorem RunsKB_any (v : Value) (r : List KdV) (size : Int) (w : World) (h : RunRd w v r) (hl : r.length ≤ 10000) :
    Calls Tryz.prog 8 #[v, .int .i64 size] w fun e w' => ∃ v' rs, e = .returned (.tuple #[v', .int .i64 (szEr size).code]) ∧ RowsT w' w.heap.size v' rs ∧ conts rs = toldL size (r.map Prod.fst) ∧ (∀ q ∈ rs, ∀ x ∈ q.1, x ∈ r) ∧ Below w.heap.size w w' := by
  by_cases hb : size < 1 ∨ 1000 < size
  · have e : badSz size = true := decide_eq_true hb
    unfold toldL szEr
    rw [e]
    refine (RunsK_err v size w hb).mono ?_
    rintro e w' ⟨rfl, rfl⟩
    exact ⟨_, [], rfl, ⟨World.ownsRow_nil _ _ _ _, fun q hq => by cases hq⟩, rfl, (fun q hq => by cases hq), Below.refl _ _⟩
  · have e : badSz size = false := decide_eq_false hb
    obtain ⟨s, rfl⟩ : ∃ s : Nat, size = (s : Int) := ⟨size.toNat, by omega⟩
    unfold toldL szEr
    rw [e]
    refine (RunsK_any v r s w h hl (by omega) (by omega)).mono ?_
    rintro e w' ⟨v', rs, rfl, o, c, b⟩
    refine ⟨_, rs, rfl, o, ?_, fun q hq x hx => ?_, b⟩
    · have h1 : conts rs = (rs.map Prod.fst).map (fun q => q.map Prod.fst) := by simp [conts]
      rw [h1, c, runsK_fst]
      simp
    · have h1 : q.1 ∈ rs.map Prod.fst := List.mem_map_of_mem hq
      rw [c] at h1
      obtain ⟨j, _, h2⟩ := List.mem_map.1 h1
      rw [← h2] at hx
      exact List.mem_of_mem_drop (List.mem_of_mem_take (List.mem_mergeSort.1 hx))
theorem toldL_fit (size : Int) (L : List KdL) : (toldL size L).length ≤ L.length ∧ (toldL size L).flatten.length ≤ L.length ∧ ∀ q ∈ toldL size L, ∀ x ∈ q, x ∈ L := by
  unfold toldL
  by_cases hb : size < 1 ∨ 1000 < size
  · rw [show badSz size = true from decide_eq_true hb, if_pos rfl]
    exact ⟨Nat.zero_le _, Nat.zero_le _, fun q hq => by cases hq⟩
  · rw [show badSz size = false from decide_eq_false hb, if_neg (by simp)]
    obtain ⟨_, h2, _, _, _, h6, h7, _⟩ := runs_fit (s := size.toNat) (m := (L.length + size.toNat - 1) / size.toNat) (L := L) (by omega) rfl
    refine ⟨by rw [h7]; exact h2, by rw [h6.length_eq]; exact Nat.le_refl _, fun q hq x hx => h6.mem_iff.1 (List.mem_flatten.2 ⟨q, hq, hx⟩)⟩

/-- the pieces at the end of a row, so many -/
def tailsV (b off n c : Nat) (r : List KdV) (i : Nat) : List (List KdV × Value) := (List.range i).map fun j => (r.drop j, Value.slice (some ⟨b, off + j * 4, none⟩) (n - j) (c - j))
theorem tailsV_succ (b off n c : Nat) (r : List KdV) (i : Nat) : tailsV b off n c r (i + 1) = tailsV b off n c r i ++ [(r.drop i, Value.slice (some ⟨b, off + i * 4, none⟩) (n - i) (c - i))] := by simp [tailsV, List.range_succ]
theorem tailsV_conts (b off n c b' off' n' c' : Nat) (r : List KdV) (i : Nat) : conts (tailsV b off n c r i) = conts (tailsV b' off' n' c' r i) := by
  unfold conts tailsV
  rw [List.map_map, List.map_map]
  rfl
theorem tailsV_len (b off n c : Nat) (r : List KdV) (i : Nat) : (tailsV b off n c r i).length = i := by simp [tailsV]
theorem tailsV_rd {w : World} {b off n c : Nat} {r : List KdV} (h : RunRd w (.slice (some ⟨b, off, none⟩) n c) r) (hn : n = r.length) (hc : n ≤ c) (hm : c ≤ maxLen) {i : Nat} (hi : i ≤ n) : ∀ q ∈ tailsV b off n c r i, RunRd w q.2 q.1 := fun q hq => by
  obtain ⟨j, hj, rfl⟩ := List.mem_map.1 hq
  have hj' := List.mem_range.1 hj
  have := RunRd.sub h (x := j) (m := n - j) (c' := c - j) (by omega) (by omega) (by omega)
  rwa [List.take_of_length_le (by rw [List.length_drop]; omega)] at this
theorem tailsV_flat (b off n c : Nat) (r : List KdV) (i : Nat) : (conts (tailsV b off n c r i)).flatten.length ≤ i * r.length := by
  induction i with
  | zero => simp [tailsV, conts]
  | succ i ih =>
    rw [tailsV_succ]
    unfold conts at ih ⊢
    rw [List.map_append, List.flatten_append, List.length_append, Nat.succ_mul]
    simp only [List.map_cons, List.map_nil, List.flatten_cons, List.flatten_nil, List.append_nil, List.length_map, List.length_drop]
    omega
theorem tailsV_mem {b off n c : Nat} {r : List KdV} {i : Nat} {q : List KdL} {x : KdL} (hq : q ∈ conts (tailsV b off n c r i)) (hx : x ∈ q) : x ∈ r.map Prod.fst := by
  obtain ⟨t, ht, rfl⟩ := List.mem_map.1 hq
  obtain ⟨j, _, rfl⟩ := List.mem_map.1 ht
  obtain ⟨y, hy, rfl⟩ := List.mem_map.1 hx
  exact List.mem_map_of_mem (List.mem_of_mem_drop hy)

/-- both are merged, and held against each other -/
theorem fin_calls (vx vy : Value) (X Y : List (List KdV × Value)) (w : World) (hX : RunsRd w vx X) (hY : RunsRd w vy Y) (hc : conts X = conts Y) (hp : ∀ q ∈ conts X, ∀ x ∈ q, x.pts.length ≤ 1000000) (hl : X.length ≤ 1000000) (hF : (conts X).flatten.length ≤ 1000000) :
    Calls Tryz.prog 11 #[vx] w fun e w1 => ∃ v1, e = .returned v1 ∧ IsSl v1 ∧ Below w.heap.size w w1 ∧
      Calls Tryz.prog 12 #[vy] w1 fun e w2 => ∃ v2, e = .returned v2 ∧ IsSl v2 ∧ Below w1.heap.size w1 w2 ∧
        Calls Tryz.prog 10 #[v1, v2] w2 fun e w3 => e = .returned (.bool true) ∧ Below w2.heap.size w2 w3 := by
  have hyl : Y.length = X.length := by have := congrArg List.length hc; simpa using this.symm
  refine (Merge_any vx X w hX hp hl hF).mono ?_
  rintro e w1 ⟨v1, r1, rfl, o1, e1, b1⟩
  have s1 : IsSl v1 := by obtain ⟨_, _, e, _⟩ := o1.rd.1; exact ⟨_, _, _, e⟩
  refine ⟨v1, rfl, s1, b1, ?_⟩
  refine (MergeK_any vy Y w1 (hY.below b1) (by rw [hyl]; exact hl) (by rw [← hc]; exact hF)).mono ?_
  rintro e w2 ⟨v2, r2, rfl, o2, e2, b2⟩
  have R2 : RunRd w2 v2 r2 := ⟨Rd.of_own o2.1, fun x hx => (o2.2 x hx).below b2⟩
  have s2 : IsSl v2 := by obtain ⟨_, _, e, _⟩ := R2.1; exact ⟨_, _, _, e⟩
  exact ⟨v2, rfl, s2, b2, same_eq v1 v2 r1 r2 w2 (o1.rd.below b2) R2 (by rw [e1, e2, hc])⟩

set_option maxRecDepth 100000 in
set_option maxHeartbeats 16000000 in
theorem runs_law (v : Value) (r : List KdV) (size : Int) (turn : Bool) (w : World) (h : ItRd w v r) (hk : KeyIs r) :
    Calls Tryz.prog 3 #[v, .int .i64 size, .bool turn] w fun e w' => e = .returned (.bool true) ∧ Below w.heap.size w w' := by
  have AW := Lib.hid awake20_any
  have SM := Lib.hid (small_any v r w h)
  have HR := Lib.hid h
  have HK := Lib.hid hk
  obtain ⟨ao, c, rfl, hc1, hc2, -, -⟩ := h.open
  unfold maxLen at hc2
  clear h hk
  go_enter Tryz.func3, Tryz.ntmps3
  go_wp2_with fail
  refine SM.out.mono ?_
  rintro e w1 ⟨b, rfl, hsm, b1⟩
  have HSM := Lib.hid hsm
  clear hsm SM
  cases b with
  | false =>
    go_wp2_with fail
    refine (AW.out _).mono ?_
    rintro e wz ⟨rfl, bz⟩
    go_wp2_with fail
    go_ret
    exact ⟨rfl, b1.trans (bz.mono b1.size)⟩
  | true =>
    obtain ⟨hl, hpl⟩ := HSM.out rfl
    have KD := Lib.hid (keyed_any _ r w1 (HR.out.below b1) HK.out hl)
    have HKL := Lib.hid (Nat.le_trans (kept_len r) hl)
    have HPL := Lib.hid (show ∀ x ∈ kept r, x.1.pts.length ≤ 1000000 from fun x hx => Nat.le_trans (hpl x (kept_mem hx)) (by omega))
    generalize kept r = rk at *
    clear hpl HSM hl hc1 hc2
    go_wp2_with fail
    refine KD.out.mono ?_
    rintro e w2 ⟨va, vb, rfl, ra, rb, b2⟩
    have B2 := b1.trans (b2.mono b1.size)
    have HRA := Lib.hid ra
    have HRB := Lib.hid rb
    have RU1 := Lib.hid (RunsB_any va rk size w2 ra HPL.out (Nat.le_trans HKL.out (by omega)))
    obtain ⟨aa, ca, rfl, ga1, ga2, -, -⟩ := ra.open
    obtain ⟨ab, cb, rfl, gb1, gb2, -, -⟩ := rb.open
    unfold maxLen at ga2 gb2
    clear KD ra rb
    go_wp2_with fail
    refine RU1.out.mono ?_
    rintro e w3 ⟨vx, rx, u, rfl, ox, cx, hu, b3⟩
    have B3 := B2.trans (b3.mono B2.size)
    have RU2 := Lib.hid (RunsKB_any _ rk size w3 (HRB.out.below b3) (Nat.le_trans HKL.out (by omega)))
    have HOX := Lib.hid ox
    have HCX := Lib.hid cx
    have HU := Lib.hid hu
    obtain ⟨ax, kx, rfl, gx1, gx2, -⟩ := ox.rd.1
    unfold maxLen at gx2
    clear RU1 ox cx hu
    go_wp2_with fail
    refine RU2.out.mono ?_
    rintro e w4 ⟨vy, ry, rfl, oy, cy, my, b4⟩
    have B4 := B3.trans (b4.mono B3.size)
    have b24 := b3.trans (b4.mono b3.size)
    have CD := Lib.hid (Code_er (szEr size) u w4 (HU.out.below b4))
    have FT := Lib.hid (toldL_fit size (rk.map Prod.fst))
    have HCY := Lib.hid cy
    have hxy : ry.length = rx.length := by
      have h1 := congrArg List.length HCX.out
      have h2 := congrArg List.length cy
      rw [List.length_map] at h1 h2
      omega
    have hxl : rx.length ≤ 150 := by
      have h1 := congrArg List.length HCX.out
      rw [List.length_map] at h1
      have h2 := FT.out.1
      rw [List.length_map] at h2
      have := HKL.out
      omega
    have OX4 := HOX.out.below b4
    have MY := Lib.hid my
    have H23 := Lib.hid b3.size
    have RY4 := Lib.hid (show ∀ q ∈ ry, RunRd w4 q.2 q.1 from fun q hq => ⟨Rd.of_own (oy.2 q hq), fun x hx => (HRB.out.2 x (my q hq x hx)).below b24⟩)
    have HOX4 := Lib.hid OX4
    have HOY := Lib.hid oy
    obtain ⟨ay, ky, rfl, gy1, gy2, -⟩ := Rd.of_own oy.1
    unfold maxLen at gy2
    rw [hxy] at gy1 ⊢
    obtain ⟨m, hm⟩ : ∃ m, m = rx.length := ⟨_, rfl⟩
    have hmy : ry.length = m := hxy.trans hm.symm
    have E1 := Lib.hid (show ∀ i, i < m → ∃ b0 o0 b1 o1 a0 n0 c0 a1 n1 c1, ax = some ⟨b0, o0, none⟩ ∧ ay = some ⟨b1, o1, none⟩ ∧ b0 < w4.heap.size ∧ b1 < w4.heap.size ∧ w4.cell? ⟨b0, o0 + i, none⟩ = some (.slice a0 n0 c0) ∧ w4.cell? ⟨b1, o1 + i, none⟩ = some (.slice a1 n1 c1) ∧
        ∀ w', Below w4.heap.size w4 w' → Calls Tryz.prog 10 #[.slice a0 n0 c0, .slice a1 n1 c1] w' fun e w'' => e = .returned (.bool true) ∧ Below w'.heap.size w' w'' from fun i hi => by
      have hi1 : i < rx.length := by omega
      have hi2 : i < ry.length := by omega
      obtain ⟨_, _, e0, -, -, -, g0⟩ := OX4.rd.1
      obtain ⟨_, _, e1, -, -, -, g1⟩ := Rd.of_own oy.1
      obtain ⟨b0, o0, f0, l0, q0⟩ := g0 i (by simpa using hi1)
      obtain ⟨b1, o1, f1, l1, q1⟩ := g1 i (by simpa using hi2)
      simp only [Value.slice.injEq] at e0 e1
      rw [List.getElem_map] at q0 q1
      have R0 := (OX4.2 _ (List.getElem_mem hi1)).rd
      have R1 := RY4.out _ (List.getElem_mem hi2)
      obtain ⟨a0, n0, c0, h0⟩ : IsSl rx[i].2 := by obtain ⟨_, _, e, _⟩ := R0.1; exact ⟨_, _, _, e⟩
      obtain ⟨a1, n1, c1, h1⟩ : IsSl ry[i].2 := by obtain ⟨_, _, e, _⟩ := R1.1; exact ⟨_, _, _, e⟩
      rw [h0] at q0 R0
      rw [h1] at q1 R1
      refine ⟨b0, o0, b1, o1, a0, n0, c0, a1, n1, c1, e0.1.trans f0, e1.1.trans f1, l0, l1, q0, q1, fun w' hw => same_eq _ _ _ _ w' (R0.below hw) (R1.below hw) ?_⟩
      have h2 := congrArg (fun l => l[i]?) (HCX.out.trans HCY.out.symm)
      unfold conts at h2
      simp only [List.getElem?_map, List.getElem?_eq_getElem hi1, List.getElem?_eq_getElem hi2, Option.map_some, Option.some.injEq] at h2
      exact h2)
    rw [← hm] at gx1 gy1 hxl ⊢
    have HM := Lib.hid (And.intro hm hmy)
    have hs4 := B4.size
    have s24 := b24.size
    have t0 : ((szEr size).code != (szEr size).code) = false := by simp
    have t1 : ((m : Int) != (m : Int)) = false := by simp
    generalize (szEr size).code = cd at *
    clear RU2 oy cy my hxy OX4 hm hmy HU b3 b4 HOX
    go_wp2_with fail
    refine CD.out.mono ?_
    rintro e wc ⟨rfl, rfl⟩
    clear CD
    go_wp2_with fail
    go_loopw [13] (fun iv wr => ∃ i : Nat, i ≤ m ∧ iv = .int .i64 i ∧ Below w4.heap.size w4 wr) (fun iv _ => m - (intOf iv).toNat)
    case atStart => exact ⟨0, Nat.zero_le _, rfl, Below.refl _ _⟩
    case round =>
      obtain ⟨i, hi, rfl, hb⟩ := hrel
      have BB := B4.trans (hb.mono hs4)
      by_cases hlt : i < m
      · have t2 : decide ((i : Int) < (m : Int)) = true := decide_eq_true (by omega)
        obtain ⟨b0, o0, b1, o1, a0, n0, c0, a1, n1, c1, rfl, rfl, l0, l1, q0, q1, SE⟩ := E1.out i hlt
        have HSE := Lib.hid SE
        have i0 : (0 : Int) ≤ (i : Int) := by omega
        have i1 : (i : Int) < (m : Int) := by omega
        have Q0 := Lib.hid q0
        have Q1 := Lib.hid q1
        clear SE q0 q1
        go_wp2_with fail
        refine wp_region_noPanic ?_
        refine wp_region_held_drew (S := fun w' => Below w4.heap.size w4 w') (by kernel_rfl) hb.drew (fun hHeld => ?_)
        generalize wr.drew = D at hHeld ⊢
        have kb : Below w4.heap.size w4 D := hHeld
        refine wpAnyH_take (i := 0) (oi := ⟨some 53, _, _, _, _, _⟩) (v := ?qv0za) rfl (by kernel_rfl) (by kernel_rfl) (by kernel_rfl) (fun _ _ _ h => h) (Or.inl ⟨by rfl, ?qy0za⟩) hHeld ?qr0za
        case qy0za => (intro w' hSw; go_simp; try with_reducible rfl)
        try simp only [Act.put, List.setIfInBounds_toArray, List.set_cons_zero, List.set_cons_succ]
        refine wpAnyH_take (i := 1) (oi := ⟨some 54, _, _, _, _, _⟩) (v := ?qv1za) rfl (by kernel_rfl) (by kernel_rfl) (by kernel_rfl) (fun _ _ _ h => h) (Or.inl ⟨by rfl, ?qy1za⟩) hHeld ?qr1za
        case qy1za => (intro w' hSw; go_simp; try with_reducible rfl)
        try simp only [Act.put, List.setIfInBounds_toArray, List.set_cons_zero, List.set_cons_succ]
        refine wpAnyH_take (i := 2) (oi := ⟨some 55, _, _, _, _, _⟩) (v := ?qv2za) rfl (by kernel_rfl) (by kernel_rfl) (by kernel_rfl) (fun _ _ _ h => h) (Or.inl ⟨by rfl, ?qy2za⟩) hHeld ?qr2za
        case qy2za => (intro w' hSw; go_simp; try with_reducible rfl)
        try simp only [Act.put, List.setIfInBounds_toArray, List.set_cons_zero, List.set_cons_succ]
        refine wpAnyH_take (i := 3) (oi := ⟨some 56, _, _, _, _, _⟩) (v := ?qv3za) rfl (by kernel_rfl) (by kernel_rfl) (by kernel_rfl) (fun _ _ _ h => h) (Or.inl ⟨by rfl, ?qy3za⟩) hHeld ?qr3za
        case qy3za => (intro w' hSw; have q0 := (hSw.cell (p := ⟨b0, o0 + i, none⟩) l0).trans Q0.out; have q1 := (hSw.cell (p := ⟨b1, o1 + i, none⟩) l1).trans Q1.out; go_simp; try with_reducible rfl)
        try simp only [Act.put, List.setIfInBounds_toArray, List.set_cons_zero, List.set_cons_succ]
        refine wpAnyH_take (i := 4) (oi := ⟨some 57, _, _, _, _, _⟩) (v := ?qv4za) rfl (by kernel_rfl) (by kernel_rfl) (by kernel_rfl) (fun _ _ _ h => h) (Or.inl ⟨by rfl, ?qy4za⟩) hHeld ?qr4za
        case qy4za => (intro w' hSw; go_simp; try with_reducible rfl)
        try simp only [Act.put, List.setIfInBounds_toArray, List.set_cons_zero, List.set_cons_succ]
        refine wpAnyH_take (i := 5) (oi := ⟨some 58, _, _, _, _, _⟩) (v := ?qv5za) rfl (by kernel_rfl) (by kernel_rfl) (by kernel_rfl) (fun _ _ _ h => h) (Or.inl ⟨by rfl, ?qy5za⟩) hHeld ?qr5za
        case qy5za => (intro w' hSw; go_simp; try with_reducible rfl)
        try simp only [Act.put, List.setIfInBounds_toArray, List.set_cons_zero, List.set_cons_succ]
        refine wpAnyH_take (i := 6) (oi := ⟨some 59, _, _, _, _, _⟩) (v := ?qv6za) rfl (by kernel_rfl) (by kernel_rfl) (by kernel_rfl) (fun _ _ _ h => h) (Or.inl ⟨by rfl, ?qy6za⟩) hHeld ?qr6za
        case qy6za => (intro w' hSw; go_simp; try with_reducible rfl)
        try simp only [Act.put, List.setIfInBounds_toArray, List.set_cons_zero, List.set_cons_succ]
        refine wpAnyH_take (i := 7) (oi := ⟨some 60, _, _, _, _, _⟩) (v := ?qv7za) rfl (by kernel_rfl) (by kernel_rfl) (by kernel_rfl) (fun _ _ _ h => h) (Or.inl ⟨by rfl, ?qy7za⟩) hHeld ?qr7za
        case qy7za => (intro w' hSw; have q0 := (hSw.cell (p := ⟨b0, o0 + i, none⟩) l0).trans Q0.out; have q1 := (hSw.cell (p := ⟨b1, o1 + i, none⟩) l1).trans Q1.out; go_simp; try with_reducible rfl)
        try simp only [Act.put, List.setIfInBounds_toArray, List.set_cons_zero, List.set_cons_succ]
        refine wpAnyH_ready (rs := [8]) (by kernel_rfl) (by simp) ?_
        refine AllReadyH.cons (o := ⟨some 61, _, _, _, _, _⟩) rfl (fun K hK => ?_) AllReadyH.nil
        refine step_go (by rfl) 10 _ _ (by rfl) (fun _ _ => by kernel_rfl) _ (by rfl) (HSE.out _ kb) ?_
        rintro e w7 ⟨rfl, b7⟩
        refine ⟨_, rfl, ?_⟩
        refine hK.out _ _ (kb.trans (b7.mono kb.size)) (fun hHeld => ?_)
        clear hK K
        try simp only [Act.put, List.setIfInBounds_toArray, List.set_cons_zero, List.set_cons_succ]
        refine wpAnyH_take (i := 9) (oi := ⟨some 62, _, _, _, _, _⟩) (v := ?qv9za) rfl (by kernel_rfl) (by kernel_rfl) (by kernel_rfl) (fun _ _ _ h => h) (Or.inl ⟨by rfl, ?qy9za⟩) hHeld ?qr9za
        case qy9za => (intro w' hSw; go_simp; try with_reducible rfl)
        try simp only [Act.put, List.setIfInBounds_toArray, List.set_cons_zero, List.set_cons_succ]
        refine wpAnyH_done (by kernel_rfl) ?_ _
        refine NoPanic.normal ?_
        have B7 : Below w4.heap.size w4 w7 := hHeld
        clear hHeld kb b7
        go_wp2_with fail
        go_roundw
        case rel => exact ⟨i + 1, hlt, by go_num, B7⟩
        case measure => simp [intOf]; omega
      · obtain rfl : i = m := by omega
        have t2 : decide ((i : Int) < (i : Int)) = false := by simp
        have hsr := hb.size
        have b2r := b24.trans (hb.mono s24)
        have XO := Lib.hid (HOX4.out.below hb)
        have YO := Lib.hid (HOY.out.below hb)
        have RY := Lib.hid (show ∀ q ∈ ry, ∀ w', Below w4.heap.size w4 w' → RunRd w' q.2 q.1 from fun q hq w' hw => (RY4.out q hq).below hw)
        have HPX := Lib.hid (show ∀ q ∈ conts rx, ∀ x ∈ q, x.pts.length ≤ 1000000 from fun q hq x hx => by
          rw [HCX.out] at hq
          obtain ⟨z, hz, rfl⟩ := List.mem_map.1 (FT.out.2.2 q hq x hx)
          exact HPL.out z hz)
        have HFX := Lib.hid (show (conts rx).flatten.length ≤ 150 by
          rw [HCX.out]
          have := FT.out.2.1
          rw [List.length_map] at this
          have := HKL.out
          omega)
        have HXY := Lib.hid (HCX.out.trans HCY.out.symm)
        have HB4r := Lib.hid hb
        clear E1 RY4 HOX4 HOY
        cases turn with
        | false =>
          have FN := Lib.hid (show RunsRd wr (.slice ax i kx) rx ∧ RunsRd wr (.slice ay i ky) ry from by
            have f1 := XO.out.rd
            have f2 : RunsRd wr (.slice ay ry.length ky) ry := ⟨Rd.of_own YO.out.1, fun q hq => RY.out q hq wr HB4r.out⟩
            rw [← HM.out.1] at f1
            rw [HM.out.2] at f2
            exact ⟨f1, f2⟩)
          have HFW := Lib.hid (fin_calls _ _ rx ry wr FN.out.1 FN.out.2 HXY.out HPX.out (by have := HM.out.1; omega) (by have := HFX.out; omega))
          clear FN
          go_wp2_with fail
          refine HFW.out.mono ?_
          rintro e z1 ⟨v1, rfl, ⟨a1, n1, c1, rfl⟩, y1, k1⟩
          have K1 := Lib.hid k1
          clear k1
          go_wp2_with fail
          refine K1.out.mono ?_
          rintro e z2 ⟨v2, rfl, ⟨a2, n2, c2, rfl⟩, y2, k2⟩
          have K2 := Lib.hid k2
          clear k2
          go_wp2_with fail
          refine K2.out.mono ?_
          rintro e z3 ⟨rfl, y3⟩
          have y13 := y1.trans ((y2.trans (y3.mono y2.size)).mono y1.size)
          go_wp2_with fail
          refine (AW.out _).mono ?_
          rintro e wz ⟨rfl, bz⟩
          go_wp2_with fail
          go_ret
          exact ⟨rfl, by have t := BB.trans (y13.mono BB.size); exact t.trans (bz.mono t.size)⟩
        | true =>
          obtain ⟨n, hn⟩ : ∃ n, n = rk.length := ⟨_, rfl⟩
          rw [← hn] at ga1 gb1 ⊢
          have HN := Lib.hid hn
          have hkl := HKL.out
          rw [← hn] at hkl
          obtain ⟨wo, hwo⟩ : ∃ wo, wo = wr := ⟨_, rfl⟩
          subst hwo
          have hTA : ∃ b off, 0 < n → aa = some ⟨b, off, none⟩ := by
            rcases Nat.eq_zero_or_pos n with h0 | h0
            · exact ⟨0, 0, fun q => by omega⟩
            · obtain ⟨_, _, e, -, -, -, each⟩ := HRA.out.open
              simp only [Value.slice.injEq] at e
              obtain ⟨b, off, e2, hb, _⟩ := each 0 rk[0] (List.getElem?_eq_getElem (by omega))
              exact ⟨b, off, fun _ => e.1.trans e2⟩
          have hTB : ∃ b off, 0 < n → ab = some ⟨b, off, none⟩ := by
            rcases Nat.eq_zero_or_pos n with h0 | h0
            · exact ⟨0, 0, fun q => by omega⟩
            · obtain ⟨_, _, e, -, -, -, each⟩ := HRB.out.open
              simp only [Value.slice.injEq] at e
              obtain ⟨b, off, e2, hb, _⟩ := each 0 rk[0] (List.getElem?_eq_getElem (by omega))
              exact ⟨b, off, fun _ => e.1.trans e2⟩
          obtain ⟨ba, oa, hA⟩ := hTA
          obtain ⟨bb, ob, hB⟩ := hTB
          have RA := Lib.hid (show 0 < n → RunRd w2 (.slice (some ⟨ba, oa, none⟩) n ca) rk from fun h => by
            have := HRA.out
            rw [← hn, hA h] at this
            exact this)
          have RB := Lib.hid (show 0 < n → RunRd w2 (.slice (some ⟨bb, ob, none⟩) n cb) rk from fun h => by
            have := HRB.out
            rw [← hn, hB h] at this
            exact this)
          have hMX := HM.out.1
          have hMY := HM.out.2
          have ST0 := Lib.hid (show wo.ownsRow w2.heap.size 25 1 (.slice ax i kx) (i + 0) (rx.map Prod.snd ++ (tailsV ba oa n ca rk 0).map Prod.snd) ∧ wo.ownsRow w2.heap.size 26 1 (.slice ay i ky) (i + 0) (ry.map Prod.snd ++ (tailsV bb ob n cb rk 0).map Prod.snd) ∧ (∀ q ∈ ry, wo.ownsRow w2.heap.size 56 4 q.2 q.1.length (kdR q.1)) from by
            have f1 := XO.out.1
            have f2 := own_base YO.out.1 H23.out
            rw [← hMX] at f1
            rw [hMY] at f2
            refine ⟨?_, ?_, fun q hq => own_base (YO.out.2 q hq) H23.out⟩
            · simpa [tailsV] using f1
            · simpa [tailsV] using f2)
          have HXO2 := Lib.hid XO.out.2
          have HLEN := Lib.hid (And.intro hMX hMY)
          have BW := Lib.hid (And.intro b2r BB)
          have FIN := Lib.hid (show ∀ (xv yv : Value) (j : Nat) (wr : World), j ≤ n → wr.ownsRow w2.heap.size 25 1 xv (i + j) (rx.map Prod.snd ++ (tailsV ba oa n ca rk j).map Prod.snd) → wr.ownsRow w2.heap.size 26 1 yv (i + j) (ry.map Prod.snd ++ (tailsV bb ob n cb rk j).map Prod.snd) →
              (∀ q ∈ rx, RunOwn wr w2.heap.size q.2 q.1) → (∀ q ∈ ry, wr.ownsRow w2.heap.size 56 4 q.2 q.1.length (kdR q.1)) → Below w2.heap.size w2 wr → _ from fun xv yv j wr hj o1 o2 r1 r2 hbw => by
            have T1 : ∀ q ∈ tailsV ba oa n ca rk j, RunRd wr q.2 q.1 := fun q hq => by
              rcases Nat.eq_zero_or_pos n with h0 | h0
              · obtain rfl : j = 0 := by omega
                cases hq
              · exact (tailsV_rd (RA.out h0) HN.out ga1 (by unfold maxLen; exact ga2) hj q hq).below hbw
            have T2 : ∀ q ∈ tailsV bb ob n cb rk j, RunRd wr q.2 q.1 := fun q hq => by
              rcases Nat.eq_zero_or_pos n with h0 | h0
              · obtain rfl : j = 0 := by omega
                cases hq
              · exact (tailsV_rd (RB.out h0) HN.out gb1 (by unfold maxLen; exact gb2) hj q hq).below hbw
            have X1 : RunsRd wr xv (rx ++ tailsV ba oa n ca rk j) := ⟨by
              have := Rd.of_own o1
              rw [List.length_append, tailsV_len, List.map_append, ← HLEN.out.1]
              exact this, fun q hq => by
              rcases List.mem_append.1 hq with hq | hq
              · exact (r1 q hq).rd
              · exact T1 q hq⟩
            have Y1 : RunsRd wr yv (ry ++ tailsV bb ob n cb rk j) := ⟨by
              have := Rd.of_own o2
              rw [List.length_append, tailsV_len, List.map_append, HLEN.out.2]
              exact this, fun q hq => by
              rcases List.mem_append.1 hq with hq | hq
              · exact ⟨Rd.of_own (r2 q hq), fun x hx => (HRB.out.2 x (MY.out q hq x hx)).below hbw⟩
              · exact T2 q hq⟩
            have hcc : conts (rx ++ tailsV ba oa n ca rk j) = conts (ry ++ tailsV bb ob n cb rk j) := by
              unfold conts
              rw [List.map_append, List.map_append]
              have h1 := HXY.out
              have h2 := tailsV_conts ba oa n ca bb ob n cb rk j
              unfold conts at h1 h2
              rw [h1, h2]
            have hfl := tailsV_flat ba oa n ca rk j
            have hjn : j * rk.length ≤ 150 * 150 := Nat.mul_le_mul (by omega) (by rw [← HN.out]; omega)
            exact fin_calls xv yv _ _ wr X1 Y1 hcc (fun q hq x hx => by
              unfold conts at hq
              rw [List.map_append] at hq
              rcases List.mem_append.1 hq with hq | hq
              · exact HPX.out q hq x hx
              · obtain ⟨z, hz, rfl⟩ := List.mem_map.1 (tailsV_mem (b := ba) (off := oa) (n := n) (c := ca) (i := j) hq hx)
                exact HPL.out z hz) (by rw [List.length_append, tailsV_len]; have := HLEN.out.1; omega) (by
              unfold conts
              rw [List.map_append, List.flatten_append, List.length_append]
              have h1 := HFX.out
              unfold conts at h1 hfl
              omega))
          have HAA := Lib.hid hA
          have HBB := Lib.hid hB
          have hsw := BW.out.1.size
          clear XO YO RY hMX hMY b2r BB HB4r FT HXY HPX HFX HCX HCY hA hB HM hn
          go_wp2_with fail
          go_loopw [9, 11, 14] (fun xv yv iv wr => ∃ j : Nat, j ≤ n ∧ iv = .int .i64 j ∧ wr.ownsRow w2.heap.size 25 1 xv (i + j) (rx.map Prod.snd ++ (tailsV ba oa n ca rk j).map Prod.snd) ∧ wr.ownsRow w2.heap.size 26 1 yv (i + j) (ry.map Prod.snd ++ (tailsV bb ob n cb rk j).map Prod.snd) ∧
            (∀ q ∈ rx, RunOwn wr w2.heap.size q.2 q.1) ∧ (∀ q ∈ ry, wr.ownsRow w2.heap.size 56 4 q.2 q.1.length (kdR q.1)) ∧ Below w2.heap.size w2 wr ∧ Below w.heap.size w wr) (fun _ _ iv _ => n - (intOf iv).toNat)
          case atStart => exact ⟨0, Nat.zero_le _, rfl, ST0.out.1, ST0.out.2.1, HXO2.out, ST0.out.2.2, BW.out.1, BW.out.2⟩
          case round =>
            obtain ⟨j, hj, rfl, o1, o2, r1, r2, hb2, hbw⟩ := hrel
            have O1 := Lib.hid o1
            have O2 := Lib.hid o2
            have R1 := Lib.hid r1
            have R2 := Lib.hid r2
            clear o1 o2 r1 r2
            by_cases hlt : j < n
            · have t5 : decide ((j : Int) < (n : Int)) = true := decide_eq_true (Int.ofNat_lt.2 hlt)
              obtain rfl := HAA.out (Nat.lt_of_le_of_lt (Nat.zero_le _) hlt)
              obtain rfl := HBB.out (Nat.lt_of_le_of_lt (Nat.zero_le _) hlt)
              have bA : Below wr.heap.size wr (wr.alloc (.cells #[.slice (some ⟨ba, oa + j * 4, none⟩) (n - j) (ca - j)] 25)) := (Below.refl _ _).alloc (Nat.le_refl _) _
              have OA := Lib.hid (own_below' O1.out bA)
              have OB := Lib.hid (own_below' O2.out bA)
              have RX := Lib.hid (show ∀ q ∈ rx, RunOwn _ w2.heap.size q.2 q.1 from fun q hq => (R1.out q hq).below bA)
              have RYY := Lib.hid (show ∀ q ∈ ry, World.ownsRow _ w2.heap.size 56 4 q.2 q.1.length (kdR q.1) from fun q hq => own_below' (R2.out q hq) bA)
              have B2A := hb2.trans (bA.mono hb2.size)
              have BWA := hbw.trans (bA.mono hbw.size)
              have LIT := Lib.hid (rd_alloc wr #[.slice (some ⟨ba, oa + j * 4, none⟩) (n - j) (ca - j)] 25 (0, 0) 1 (by simp [maxLen]))
              have i0 : (0 : Int) ≤ (j : Int) := by omega
              have i1 : (j : Int) ≤ (n : Int) := by omega
              clear O1 O2 R1 R2 bA
              go_wp2_with (at_builtin; refine wpList_append_g rfl _ _ 29 rfl w2.heap.size 25 _ 1 24 Tryz.underlying29 info_runS rfl (by decide) _ (i + j) (rx.map Prod.snd ++ (tailsV ba oa n ca rk j).map Prod.snd) rfl OA.out _ 1 [.slice (some ⟨ba, oa + j * 4, none⟩) (n - j) (ca - j)] rfl LIT.out rfl (fun u hu => by obtain rfl := List.mem_singleton.1 hu; rfl) ?c1 ?c2 ?c3 ?_)
              case c1 => unfold maxLen; omega
              case c2 => omega
              case c3 => first | exact B2A.size | (have := B2A.size; simpa using this)
              intro v5 w5 o5 f5
              have B25 := B2A.trans f5.below
              have RX5 := Lib.hid (show ∀ q ∈ rx, RunOwn w5 w2.heap.size q.2 q.1 from fun q hq => (RX.out q hq).frmT f5 OA.out (by decide) (by decide))
              have RY5 := Lib.hid (show ∀ q ∈ ry, w5.ownsRow w2.heap.size 56 4 q.2 q.1.length (kdR q.1) from fun q hq => f5.ownT OA.out (by decide) (RYY.out q hq))
              have OB5 := f5.ownT OA.out (show 26 ≠ 25 by decide) OB.out
              have bC : Below w5.heap.size w5 (w5.alloc (.cells #[.slice (some ⟨bb, ob + j * 4, none⟩) (n - j) (cb - j)] 26)) := (Below.refl _ _).alloc (Nat.le_refl _) _
              have OA6 := Lib.hid (own_below' o5 bC)
              have OB6 := Lib.hid (own_below' OB5 bC)
              have RX6 := Lib.hid (show ∀ q ∈ rx, RunOwn _ w2.heap.size q.2 q.1 from fun q hq => (RX5.out q hq).below bC)
              have RY6 := Lib.hid (show ∀ q ∈ ry, World.ownsRow _ w2.heap.size 56 4 q.2 q.1.length (kdR q.1) from fun q hq => own_below' (RY5.out q hq) bC)
              have B26 := B25.trans (bC.mono B25.size)
              have LIT2 := Lib.hid (rd_alloc w5 #[.slice (some ⟨bb, ob + j * 4, none⟩) (n - j) (cb - j)] 26 (0, 0) 1 (by simp [maxLen]))
              clear o5 f5 OA OB RX RYY RX5 RY5 OB5 LIT B2A BWA bC
              go_wp2_with (at_builtin; refine wpList_append_g rfl _ _ 34 rfl w2.heap.size 26 _ 1 24 Tryz.underlying34 info_runKS rfl (by decide) _ (i + j) (ry.map Prod.snd ++ (tailsV bb ob n cb rk j).map Prod.snd) rfl OB6.out _ 1 [.slice (some ⟨bb, ob + j * 4, none⟩) (n - j) (cb - j)] rfl LIT2.out rfl (fun u hu => by obtain rfl := List.mem_singleton.1 hu; rfl) ?c4 ?c5 ?c6 ?_)
              case c4 => unfold maxLen; omega
              case c5 => omega
              case c6 => first | exact B26.size | (have := B26.size; simpa using this)
              intro v7 w7 o7 f7
              have B27 := B26.trans f7.below
              have BW7 := Lib.hid (B2.trans (B27.mono B2.size))
              have RX7 := Lib.hid (show ∀ q ∈ rx, RunOwn w7 w2.heap.size q.2 q.1 from fun q hq => (RX6.out q hq).frmT f7 OB6.out (by decide) (by decide))
              have RY7 := Lib.hid (show ∀ q ∈ ry, w7.ownsRow w2.heap.size 56 4 q.2 q.1.length (kdR q.1) from fun q hq => f7.ownT OB6.out (by decide) (RY6.out q hq))
              have OA7' := f7.ownT OB6.out (show 25 ≠ 26 by decide) OA6.out
              have OA7 := Lib.hid (show w7.ownsRow w2.heap.size 25 1 v5 (i + (j + 1)) (rx.map Prod.snd ++ (tailsV ba oa n ca rk (j + 1)).map Prod.snd) by
                rw [tailsV_succ, List.map_append, ← Nat.add_assoc]
                exact OA7')
              have OB7 := Lib.hid (show w7.ownsRow w2.heap.size 26 1 v7 (i + (j + 1)) (ry.map Prod.snd ++ (tailsV bb ob n cb rk (j + 1)).map Prod.snd) by
                rw [tailsV_succ, List.map_append, ← Nat.add_assoc]
                exact o7)
              obtain ⟨L, hL⟩ : ∃ L, L = i + (j + 1) := ⟨_, rfl⟩
              obtain ⟨a5, c5, e5, -⟩ := Rd.of_own OA7.out
              obtain ⟨a7, c7, e7, -⟩ := Rd.of_own OB7.out
              rw [← hL] at e5 e7
              subst e5 e7
              clear hL
              have B7 := Lib.hid B27
              clear o7 f7 OA6 OB6 RX6 RY6 OA7' LIT2 B25 B26 B27
              by_cases h8 : 8 < L
              · have t6 : decide ((8 : Int) < (L : Int)) = true := decide_eq_true (by omega)
                have t6n : decide (8 < L) = true := decide_eq_true h8
                have HFW := Lib.hid (FIN.out _ _ (j + 1) w7 hlt OA7.out OB7.out RX7.out RY7.out B7.out)
                clear h8
                go_wp2_with fail
                refine HFW.out.mono ?_
                rintro e z1 ⟨v1, rfl, ⟨a1, n1, c1, rfl⟩, y1, k1⟩
                have K1 := Lib.hid k1
                clear k1
                go_wp2_with fail
                refine K1.out.mono ?_
                rintro e z2 ⟨v2, rfl, ⟨a2, n2, c2, rfl⟩, y2, k2⟩
                have K2 := Lib.hid k2
                clear k2
                go_wp2_with fail
                refine K2.out.mono ?_
                rintro e z3 ⟨rfl, y3⟩
                have y13 := y1.trans ((y2.trans (y3.mono y2.size)).mono y1.size)
                go_wp2_with fail
                refine (AW.out _).mono ?_
                rintro e wz ⟨rfl, bz⟩
                go_wp2_with fail
                go_ret
                exact ⟨rfl, by have t := BW7.out.trans (y13.mono BW7.out.size); exact t.trans (bz.mono t.size)⟩
              · have t6 : decide ((8 : Int) < (L : Int)) = false := decide_eq_false (by omega)
                have t6n : decide (8 < L) = false := decide_eq_false h8
                clear h8
                go_wp2_with fail
                go_roundw
                case rel => exact ⟨j + 1, hlt, by go_num, OA7.out, OB7.out, RX7.out, RY7.out, B7.out, BW7.out⟩
                case measure => simp [intOf]; omega
            · obtain rfl : j = n := by omega
              have t5 : decide ((j : Int) < (j : Int)) = false := by simp
              obtain ⟨a5, c5, rfl, -⟩ := Rd.of_own O1.out
              obtain ⟨a7, c7, rfl, -⟩ := Rd.of_own O2.out
              have HFW := Lib.hid (FIN.out _ _ j wr (Nat.le_refl _) O1.out O2.out R1.out R2.out hb2)
              clear ST0
              go_wp2_with fail
              refine HFW.out.mono ?_
              rintro e z1 ⟨v1, rfl, ⟨a1, n1, c1, rfl⟩, y1, k1⟩
              have K1 := Lib.hid k1
              clear k1
              go_wp2_with fail
              refine K1.out.mono ?_
              rintro e z2 ⟨v2, rfl, ⟨a2, n2, c2, rfl⟩, y2, k2⟩
              have K2 := Lib.hid k2
              clear k2
              go_wp2_with fail
              refine K2.out.mono ?_
              rintro e z3 ⟨rfl, y3⟩
              have y13 := y1.trans ((y2.trans (y3.mono y2.size)).mono y1.size)
              go_wp2_with fail
              refine (AW.out _).mono ?_
              rintro e wz ⟨rfl, bz⟩
              go_wp2_with fail
              go_ret
              exact ⟨rfl, by have t := hbw.trans (y13.mono hbw.size); exact t.trans (bz.mono t.size)⟩
open Go.ChangeShapes Go.WideShapes Go.ChangeAt in
set_option maxRecDepth 100000 in
theorem sorterRuns_calls {H : Type} {enc : TypeId × Value → H} {W : World} {base : Nat} {v0 v1 v2 : Value} {d0 d1 d2 : DataW H} {p0 p1 p2 : List MemPlace}
    (o0 : Value.okWide Tryz.prog W .any base 22 v0) (h0 : DataW.Trod enc Tryz.prog W 0 (fun _ => true) true 22 v0 d0 p0)
    (o1 : Value.okWide Tryz.prog W .any base 3 v1) (h1 : DataW.Trod enc Tryz.prog W 0 (fun _ => true) true 3 v1 d1 p1)
    (o2 : Value.okWide Tryz.prog W .any base 4 v2) (h2 : DataW.Trod enc Tryz.prog W 0 (fun _ => true) true 4 v2 d2 p2) :
    Calls Tryz.prog 3 #[v0, v1, v2] W fun e w' => e = .returned (.bool true) ∧ Below W.heap.size W w' := by
  obtain ⟨r, hr, hk, _⟩ := view_items o0 h0
  obtain ⟨n, rfl, rfl, rfl, hw⟩ := open_int Tryz.underlying3 o1 h1
  obtain ⟨b, rfl, rfl, rfl⟩ := open_bool Tryz.underlying4 o2 h2
  exact runs_law v0 r n b W hr hk
end Go.Proofs.YtoggbmfjjenbaaaGreat
