/- sorter.Merge. -/
import Derived.Test.YtoggbmfjjenbaaaGreatDoorTw9

import Derived.Deep.OwnRows
set_option linter.unusedSimpArgs false
set_option linter.unusedVariables false
namespace Go.Proofs.YtoggbmfjjenbaaaGreatDoor
open Go.RowKit

/-- v reads as rows of items. -/
def RunsRd (w : World) (v : Value) (rs : List (List KdV × Value)) : Prop := Rd w v rs.length (rs.map Prod.snd) ∧ ∀ q ∈ rs, RunRd w q.2 q.1
theorem RunsOwn.rd {w : World} {B : Nat} {v : Value} {rs : List (List KdV × Value)} (h : RunsOwn w B v rs) : RunsRd w v rs := ⟨Rd.of_own h.1, fun q hq => (h.2 q hq).rd⟩
theorem RunsRd.below {w w' : World} {v : Value} {rs : List (List KdV × Value)} (h : RunsRd w v rs) (hb : Below w.heap.size w w') : RunsRd w' v rs := ⟨h.1.below hb, fun q hq => (h.2 q hq).below hb⟩
theorem conts_getD {rs : List (List KdV × Value)} {j : Nat} (h : j < rs.length) : (conts rs).getD j [] = rs[j].1.map Prod.fst := by
  rw [List.getD_eq_getElem?_getD, List.getElem?_map, List.getElem?_eq_getElem h]
  rfl
/-- what rows of rows say, cell by cell -/
theorem RunsRd.open {w : World} {v : Value} {rs : List (List KdV × Value)} (h : RunsRd w v rs) : ∃ ao c, v = .slice ao rs.length c ∧ rs.length ≤ c ∧ c ≤ maxLen ∧
    (∀ j, j < rs.length → ∃ b0 o0 aq cq, ao = some ⟨b0, o0, none⟩ ∧ b0 < w.heap.size ∧ w.cell? ⟨b0, o0 + j, none⟩ = some (.slice aq ((conts rs).getD j []).length cq) ∧ ((conts rs).getD j []).length ≤ cq ∧ cq ≤ maxLen) ∧
    (∀ j p x, j < rs.length → ((conts rs).getD j [])[p]? = some x → ∃ b0 o0 b o c v', ao = some ⟨b0, o0, none⟩ ∧ b0 < w.heap.size ∧ w.cell? ⟨b0, o0 + j, none⟩ = some (.slice (some ⟨b, o, none⟩) ((conts rs).getD j []).length c) ∧ ((conts rs).getD j []).length ≤ c ∧ c ≤ maxLen ∧ b < w.heap.size ∧
      w.cell? ⟨b, o + p * 4, none⟩ = some (.int .u64 x.key) ∧ w.cell? ⟨b, o + p * 4 + 1, none⟩ = some (.int .i64 x.id) ∧ w.cell? ⟨b, o + p * 4 + 2, none⟩ = some (.int .i64 x.kind) ∧ w.cell? ⟨b, o + p * 4 + 3, none⟩ = some v' ∧ Pts w v' x.pts) := by
  obtain ⟨ao, c, hv, h1, h2, h0, h3⟩ := h.1
  have row : ∀ j (hj : j < rs.length), ∃ b0 o0, ao = some ⟨b0, o0, none⟩ ∧ b0 < w.heap.size ∧ w.cell? ⟨b0, o0 + j, none⟩ = some rs[j].2 := fun j hj => by
    obtain ⟨b0, o0, e, hb, hc⟩ := h3 j (by simpa using hj)
    exact ⟨b0, o0, e, hb, by rw [hc, List.getElem_map]⟩
  refine ⟨ao, c, hv, h1, h2, fun j hj => ?_, fun j p x hj hx => ?_⟩
  · obtain ⟨b0, o0, e, hb, hc⟩ := row j hj
    obtain ⟨aq, cq, e2, g1, g2, _⟩ := (h.2 _ (List.getElem_mem hj)).open
    rw [conts_getD hj, List.length_map]
    exact ⟨b0, o0, aq, cq, e, hb, by rw [hc, e2], g1, g2⟩
  · obtain ⟨b0, o0, e, hb, hc⟩ := row j hj
    have hq := h.2 _ (List.getElem_mem hj)
    obtain ⟨aq, cq, e2, g1, g2, _, each⟩ := hq.open
    rw [conts_getD hj] at hx ⊢
    rw [List.length_map]
    rw [List.getElem?_map, Option.map_eq_some_iff] at hx
    obtain ⟨z, hz, rfl⟩ := hx
    obtain ⟨b, o, rfl, hbl, c0, c1, c2, c3⟩ := each p z hz
    exact ⟨b0, o0, b, o, cq, z.2, e, hb, by rw [hc, e2], g1, g2, hbl, c0, c1, c2, c3, hq.2 z (List.mem_of_getElem? hz)⟩

/-- places in rows, by value -/
def atL (n : Nat) (pos : Nat → Nat) : List Value := (List.range n).map fun j => .int .i64 (pos j)
theorem atL_get {n : Nat} {pos : Nat → Nat} {j : Nat} (h : j < n) : (atL n pos)[j]? = some (.int .i64 (pos j)) := by
  unfold atL
  rw [List.getElem?_map, List.getElem?_range h]
  rfl
theorem atL_set {n : Nat} {pos : Nat → Nat} {b : Nat} (h : b < n) : (atL n pos).set b (.int .i64 ((pos b : Int) + 1)) = atL n (upd pos b) := by
  refine List.ext_getElem? fun j => ?_
  rw [List.getElem?_set]
  by_cases hj : j < n
  · rw [atL_get hj, atL_get hj]
    by_cases hb : b = j
    · subst hb
      simp [upd, atL, h]
    · rw [if_neg hb]
      simp [upd, show ¬ j = b from fun q => hb q.symm]
  · have l1 : n ≤ j := by omega
    rw [List.getElem?_eq_none (by simpa [atL] using l1), List.getElem?_eq_none (by simpa [atL] using l1)]
    split
    · omega
    · rfl
/-- the row of places, of the call's own -/
def AtO (w : World) (g n : Nat) (pos : Nat → Nat) : Prop := w.ownsRow g 3 1 (.slice (some ⟨g, 0, none⟩) n n) n (atL n pos)
theorem AtO.below {w w' : World} {g n : Nat} {pos : Nat → Nat} (h : AtO w g n pos) (hb : Below w.heap.size w w') : AtO w' g n pos := own_below' h hb
theorem AtO.cell {w : World} {g n : Nat} {pos : Nat → Nat} (h : AtO w g n pos) {j : Nat} (hj : j < n) : w.cell? ⟨g, j, none⟩ = some (.int .i64 (pos j)) := (World.ownsRow.cellAt h j (by omega)).trans (atL_get hj)
theorem AtO.lt {w : World} {g n : Nat} {pos : Nat → Nat} (h : AtO w g n pos) : g < w.heap.size := (World.ownsRow.lt h g rfl).2
/-- a store in one's own row, as a frame -/
theorem FrmG.setCell (w : World) (g n c j : Nat) (u : Value) : FrmG (.slice (some ⟨g, 0, none⟩) n c) g w (w.setCell ⟨g, j, none⟩ u) :=
  ⟨(Below.refl _ _).setCell (p := ⟨g, j, none⟩) (Nat.le_refl _) u, fun k hk hne => Below.heap_setCell _ _ _ _ (fun q => hne (by simp only [Value.ownBlock]; rw [q]))⟩
def lenOfV : Value → Nat
  | .slice _ n _ => n
  | _ => 0
theorem RunOwn.len {w : World} {B : Nat} {v : Value} {r : List KdV} (h : RunOwn w B v r) : lenOfV v = r.length := by
  obtain ⟨ao, c, rfl, _⟩ := h.rd.open
  rfl
theorem info_intS : (Tryz.prog.info? 3).map (fun i => (i.zero, i.size, i.bytes)) = some (some (.int .i64 0), 1, 8) := by kernel_rfl

set_option maxRecDepth 100000 in
set_option maxHeartbeats 8000000 in
theorem Merge_any (v : Value) (rs : List (List KdV × Value)) (w : World) (h : RunsRd w v rs) (hp : ∀ q ∈ conts rs, ∀ x ∈ q, x.pts.length ≤ 1000000) (hl : rs.length ≤ 1000000) (hF : (conts rs).flatten.length ≤ 1000000) :
    Calls Tryz.prog 17 #[v] w fun e w' => ∃ v' r, e = .returned v' ∧ RunOwn w' w.heap.size v' r ∧ r.map Prod.fst = mergeF (conts rs) ∧ Below w.heap.size w w' := by
  obtain ⟨ao, c, rfl, hc1, hc2, hrow, hit⟩ := h.open
  have hP : ∀ (j p : Nat) (x : KdL), ((conts rs).getD j [])[p]? = some x → x.pts.length ≤ 1000000 := fun j p x hx => by
    rw [List.getD_eq_getElem?_getD] at hx
    cases hq : (conts rs)[j]? with
    | none => rw [hq] at hx; simp at hx
    | some q => rw [hq] at hx; exact hp q (List.mem_of_getElem? hq) x (List.mem_of_getElem? hx)
  have hlen : ∀ j, ((conts rs).getD j []).length ≤ 1000000 := fun j => by
    rw [List.getD_eq_getElem?_getD]
    cases hq : (conts rs)[j]? with
    | none => simp
    | some q => exact Nat.le_trans (List.Sublist.length_le (List.sublist_flatten_of_mem (List.mem_of_getElem? hq))) hF
  have hcl : (conts rs).length = rs.length := by simp
  obtain ⟨n, hn⟩ : ∃ n, n = rs.length := ⟨_, rfl⟩
  obtain ⟨C, hC⟩ : ∃ C, C = conts rs := ⟨_, rfl⟩
  rw [← hn, ← hC] at hrow hit
  rw [← hC] at hP hlen hcl hF ⊢
  rw [← hn] at hcl hc1 hl ⊢
  have ROW := Lib.hid hrow
  have ITM := Lib.hid hit
  have PTL := Lib.hid hP
  have LEN := Lib.hid hlen
  have HCL := Lib.hid hcl
  unfold maxLen at hc2
  have hmk := run_make_row' (P := Tryz.prog) 85 3 (.int .i64 0) 8 Tryz.underlying85 info_intS rfl .i64 .i64 n (by omega) (by omega)
  have AT0 := Lib.hid (show AtO (w.alloc (.cells (madeCells #[.int .i64 0] n) 3)) w.heap.size n (fun _ => 0) from by
    have h := World.ownsRow_lit (base := w.heap.size) (e := 3) (size := 1) w (madeCells #[.int .i64 0] n) n (Nat.le_refl _) (by unfold maxLen; omega) (by simp [size_madeCells])
    rw [toList_madeCells_one] at h
    unfold AtO
    rw [show atL n (fun _ => 0) = List.replicate n (.int .i64 0) from by
      unfold atL
      refine List.ext_getElem (by simp) fun i h1 h2 => ?_
      simp]
    exact h)
  have HF := Lib.hid hF
  clear h hp hrow hit hP hlen hn hC hcl hF
  go_enter Tryz.func17, Tryz.ntmps17
  go_wp2_with fail
  go_loopw [2] (fun ov wr => ∃ (pos : Nat → Nat) (done : List KdV), AtO wr w.heap.size n pos ∧ RunOwn wr w.heap.size ov done ∧ done.map Prod.fst ++ mergeF (remL C pos) = mergeF C ∧ done.length + (remL C pos).flatten.length = C.flatten.length ∧ Below w.heap.size w wr) (fun ov _ => C.flatten.length + 1 - lenOfV ov)
  case atStart => exact ⟨fun _ => 0, [], AT0.out, RunOwn.nil _ _, by rw [remL_zero]; rfl, by rw [remL_zero]; simp, (Below.refl _ _).alloc (Nat.le_refl _) _⟩
  case round =>
    obtain ⟨pos, done, hat, ho, hm, hd, hb⟩ := hrel
    obtain ⟨wo, hwo⟩ : ∃ wo, wo = wr := ⟨_, rfl⟩
    subst hwo
    have HAT := Lib.hid hat
    have HO := Lib.hid ho
    have HM := Lib.hid hm
    have HD := Lib.hid hd
    have hgl := hat.lt
    have hbs := hb.size
    clear hat ho hm hd
    go_wp2_with fail
    go_loopw [4, 12] (fun bv kv wr2 => ∃ (k : Nat) (B : Int), k ≤ n ∧ kv = .int .i64 k ∧ bv = .int .i64 B ∧ B = bestI (pick (remL C pos) k) ∧ Below wo.heap.size wo wr2) (fun _ kv _ => n - (intOf kv).toNat)
    case atStart => exact ⟨0, -1, Nat.zero_le _, rfl, rfl, rfl, Below.refl _ _⟩
    case round =>
      obtain ⟨k, B, hk, rfl, rfl, hB, hb2⟩ := hrel
      have BB := hb.trans (hb2.mono hbs)
      have AT := HAT.out.below hb2
      have hgl2 := AT.lt
      by_cases hlt : k < n
      · have t1 : decide ((k : Int) < (n : Int)) = true := by simp; omega
        have i0 : (0 : Int) ≤ (k : Int) := by omega
        have i1 : (k : Int) < (n : Int) := by omega
        have d0 := AT.cell hlt
        by_cases hu : (C.getD k []).length ≤ pos k
        · obtain ⟨b0, o0, aq, cq, rfl, hb0, c0, g1, g2⟩ := ROW.out k hlt
          have e0 := (BB.cell (p := ⟨b0, o0 + k, none⟩) hb0).trans c0
          have NX := Lib.hid (show B = bestI (pick (remL C pos) (k + 1)) by rw [pick_used (by rw [HCL.out]; exact hlt) hu]; exact hB)
          have hL := LEN.out k
          generalize (C.getD k []).length = L at *
          have HPOS := Lib.hid (rfl : pos k = pos k)
          generalize pos k = P at d0 hu
          have t2 : decide ((P : Int) < (L : Int)) = false := decide_eq_false (by omega)
          have t2n : decide (P < L) = false := decide_eq_false (by omega)
          unfold maxLen at g2
          clear c0 hB
          go_wp2_with fail
          refine wp_region_noPanic ?_
          refine wp_region_held_drew (S := fun w' => Below wr.heap.size wr w') (by kernel_rfl) (Below.refl _ _).drew (fun hHeld => ?_)
          generalize wr.drew = D at hHeld ⊢
          have kb : Below wr.heap.size wr D := hHeld
          refine wpAnyH_take (i := 0) (oi := ⟨some 17, _, _, _, _, _⟩) (v := ?qv0ma) rfl (by kernel_rfl) (by kernel_rfl) (by kernel_rfl) (fun _ _ _ h => h) (Or.inl ⟨by rfl, ?qy0ma⟩) hHeld ?qr0ma
          case qy0ma => (intro w' hSw; go_simp; try with_reducible rfl)
          try simp only [Act.put, List.setIfInBounds_toArray, List.set_cons_zero, List.set_cons_succ]
          refine wpAnyH_take (i := 1) (oi := ⟨some 18, _, _, _, _, _⟩) (v := ?qv1ma) rfl (by kernel_rfl) (by kernel_rfl) (by kernel_rfl) (fun _ _ _ h => h) (Or.inl ⟨by rfl, ?qy1ma⟩) hHeld ?qr1ma
          case qy1ma => (intro w' hSw; go_simp; try with_reducible rfl)
          try simp only [Act.put, List.setIfInBounds_toArray, List.set_cons_zero, List.set_cons_succ]
          refine wpAnyH_take (i := 2) (oi := ⟨some 19, _, _, _, _, _⟩) (v := ?qv2ma) rfl (by kernel_rfl) (by kernel_rfl) (by kernel_rfl) (fun _ _ _ h => h) (Or.inl ⟨by rfl, ?qy2ma⟩) hHeld ?qr2ma
          case qy2ma => (intro w' hSw; go_simp; try with_reducible rfl)
          try simp only [Act.put, List.setIfInBounds_toArray, List.set_cons_zero, List.set_cons_succ]
          refine wpAnyH_take (i := 3) (oi := ⟨some 20, _, _, _, _, _⟩) (v := ?qv3ma) rfl (by kernel_rfl) (by kernel_rfl) (by kernel_rfl) (fun _ _ _ h => h) (Or.inl ⟨by rfl, ?qy3ma⟩) hHeld ?qr3ma
          case qy3ma => (intro w' hSw; have q0 := (hSw.cell (p := ⟨w.heap.size, k, none⟩) hgl2).trans d0; go_simp; try with_reducible rfl)
          try simp only [Act.put, List.setIfInBounds_toArray, List.set_cons_zero, List.set_cons_succ]
          refine wpAnyH_take (i := 4) (oi := ⟨some 21, _, _, _, _, _⟩) (v := ?qv4ma) rfl (by kernel_rfl) (by kernel_rfl) (by kernel_rfl) (fun _ _ _ h => h) (Or.inl ⟨by rfl, ?qy4ma⟩) hHeld ?qr4ma
          case qy4ma => (intro w' hSw; go_simp; try with_reducible rfl)
          try simp only [Act.put, List.setIfInBounds_toArray, List.set_cons_zero, List.set_cons_succ]
          refine wpAnyH_take (i := 5) (oi := ⟨some 22, _, _, _, _, _⟩) (v := ?qv5ma) rfl (by kernel_rfl) (by kernel_rfl) (by kernel_rfl) (fun _ _ _ h => h) (Or.inl ⟨by rfl, ?qy5ma⟩) hHeld ?qr5ma
          case qy5ma => (intro w' hSw; go_simp; try with_reducible rfl)
          try simp only [Act.put, List.setIfInBounds_toArray, List.set_cons_zero, List.set_cons_succ]
          refine wpAnyH_take (i := 6) (oi := ⟨some 23, _, _, _, _, _⟩) (v := ?qv6ma) rfl (by kernel_rfl) (by kernel_rfl) (by kernel_rfl) (fun _ _ _ h => h) (Or.inl ⟨by rfl, ?qy6ma⟩) hHeld ?qr6ma
          case qy6ma => (intro w' hSw; go_simp; try with_reducible rfl)
          try simp only [Act.put, List.setIfInBounds_toArray, List.set_cons_zero, List.set_cons_succ]
          refine wpAnyH_take (i := 7) (oi := ⟨some 24, _, _, _, _, _⟩) (v := ?qv7ma) rfl (by kernel_rfl) (by kernel_rfl) (by kernel_rfl) (fun _ _ _ h => h) (Or.inl ⟨by rfl, ?qy7ma⟩) hHeld ?qr7ma
          case qy7ma => (intro w' hSw; go_simp; try with_reducible rfl)
          try simp only [Act.put, List.setIfInBounds_toArray, List.set_cons_zero, List.set_cons_succ]
          refine wpAnyH_take (i := 8) (oi := ⟨some 25, _, _, _, _, _⟩) (v := undef) rfl (by kernel_rfl) (by kernel_rfl) (by kernel_rfl) (fun _ _ _ h => h) (Or.inr ⟨by rfl, rfl⟩) hHeld ?_
          try simp only [Act.put, List.setIfInBounds_toArray, List.set_cons_zero, List.set_cons_succ]
          refine wpAnyH_take (i := 9) (oi := ⟨some 26, _, _, _, _, _⟩) (v := undef) rfl (by kernel_rfl) (by kernel_rfl) (by kernel_rfl) (fun _ _ _ h => h) (Or.inr ⟨by rfl, rfl⟩) hHeld ?_
          try simp only [Act.put, List.setIfInBounds_toArray, List.set_cons_zero, List.set_cons_succ]
          refine wpAnyH_take (i := 10) (oi := ⟨some 27, _, _, _, _, _⟩) (v := undef) rfl (by kernel_rfl) (by kernel_rfl) (by kernel_rfl) (fun _ _ _ h => h) (Or.inr ⟨by rfl, rfl⟩) hHeld ?_
          try simp only [Act.put, List.setIfInBounds_toArray, List.set_cons_zero, List.set_cons_succ]
          refine wpAnyH_take (i := 11) (oi := ⟨some 28, _, _, _, _, _⟩) (v := undef) rfl (by kernel_rfl) (by kernel_rfl) (by kernel_rfl) (fun _ _ _ h => h) (Or.inr ⟨by rfl, rfl⟩) hHeld ?_
          try simp only [Act.put, List.setIfInBounds_toArray, List.set_cons_zero, List.set_cons_succ]
          refine wpAnyH_take (i := 12) (oi := ⟨some 29, _, _, _, _, _⟩) (v := undef) rfl (by kernel_rfl) (by kernel_rfl) (by kernel_rfl) (fun _ _ _ h => h) (Or.inr ⟨by rfl, rfl⟩) hHeld ?_
          try simp only [Act.put, List.setIfInBounds_toArray, List.set_cons_zero, List.set_cons_succ]
          refine wpAnyH_take (i := 13) (oi := ⟨some 30, _, _, _, _, _⟩) (v := undef) rfl (by kernel_rfl) (by kernel_rfl) (by kernel_rfl) (fun _ _ _ h => h) (Or.inr ⟨by rfl, rfl⟩) hHeld ?_
          try simp only [Act.put, List.setIfInBounds_toArray, List.set_cons_zero, List.set_cons_succ]
          refine wpAnyH_take (i := 14) (oi := ⟨some 31, _, _, _, _, _⟩) (v := undef) rfl (by kernel_rfl) (by kernel_rfl) (by kernel_rfl) (fun _ _ _ h => h) (Or.inr ⟨by rfl, rfl⟩) hHeld ?_
          try simp only [Act.put, List.setIfInBounds_toArray, List.set_cons_zero, List.set_cons_succ]
          refine wpAnyH_take (i := 15) (oi := ⟨some 32, _, _, _, _, _⟩) (v := undef) rfl (by kernel_rfl) (by kernel_rfl) (by kernel_rfl) (fun _ _ _ h => h) (Or.inr ⟨by rfl, rfl⟩) hHeld ?_
          try simp only [Act.put, List.setIfInBounds_toArray, List.set_cons_zero, List.set_cons_succ]
          refine wpAnyH_take (i := 16) (oi := ⟨some 33, _, _, _, _, _⟩) (v := undef) rfl (by kernel_rfl) (by kernel_rfl) (by kernel_rfl) (fun _ _ _ h => h) (Or.inr ⟨by rfl, rfl⟩) hHeld ?_
          try simp only [Act.put, List.setIfInBounds_toArray, List.set_cons_zero, List.set_cons_succ]
          refine wpAnyH_take (i := 17) (oi := ⟨some 34, _, _, _, _, _⟩) (v := undef) rfl (by kernel_rfl) (by kernel_rfl) (by kernel_rfl) (fun _ _ _ h => h) (Or.inr ⟨by rfl, rfl⟩) hHeld ?_
          try simp only [Act.put, List.setIfInBounds_toArray, List.set_cons_zero, List.set_cons_succ]
          refine wpAnyH_take (i := 18) (oi := ⟨some 35, _, _, _, _, _⟩) (v := undef) rfl (by kernel_rfl) (by kernel_rfl) (by kernel_rfl) (fun _ _ _ h => h) (Or.inr ⟨by rfl, rfl⟩) hHeld ?_
          try simp only [Act.put, List.setIfInBounds_toArray, List.set_cons_zero, List.set_cons_succ]
          refine wpAnyH_take (i := 19) (oi := ⟨some 36, _, _, _, _, _⟩) (v := undef) rfl (by kernel_rfl) (by kernel_rfl) (by kernel_rfl) (fun _ _ _ h => h) (Or.inr ⟨by rfl, rfl⟩) hHeld ?_
          try simp only [Act.put, List.setIfInBounds_toArray, List.set_cons_zero, List.set_cons_succ]
          refine wpAnyH_take (i := 20) (oi := ⟨some 37, _, _, _, _, _⟩) (v := undef) rfl (by kernel_rfl) (by kernel_rfl) (by kernel_rfl) (fun _ _ _ h => h) (Or.inr ⟨by rfl, rfl⟩) hHeld ?_
          try simp only [Act.put, List.setIfInBounds_toArray, List.set_cons_zero, List.set_cons_succ]
          refine wpAnyH_take (i := 21) (oi := ⟨some 38, _, _, _, _, _⟩) (v := undef) rfl (by kernel_rfl) (by kernel_rfl) (by kernel_rfl) (fun _ _ _ h => h) (Or.inr ⟨by rfl, rfl⟩) hHeld ?_
          try simp only [Act.put, List.setIfInBounds_toArray, List.set_cons_zero, List.set_cons_succ]
          refine wpAnyH_take (i := 22) (oi := ⟨some 39, _, _, _, _, _⟩) (v := undef) rfl (by kernel_rfl) (by kernel_rfl) (by kernel_rfl) (fun _ _ _ h => h) (Or.inr ⟨by rfl, rfl⟩) hHeld ?_
          try simp only [Act.put, List.setIfInBounds_toArray, List.set_cons_zero, List.set_cons_succ]
          refine wpAnyH_take (i := 23) (oi := ⟨some 40, _, _, _, _, _⟩) (v := undef) rfl (by kernel_rfl) (by kernel_rfl) (by kernel_rfl) (fun _ _ _ h => h) (Or.inr ⟨by rfl, rfl⟩) hHeld ?_
          try simp only [Act.put, List.setIfInBounds_toArray, List.set_cons_zero, List.set_cons_succ]
          refine wpAnyH_take (i := 24) (oi := ⟨some 41, _, _, _, _, _⟩) (v := undef) rfl (by kernel_rfl) (by kernel_rfl) (by kernel_rfl) (fun _ _ _ h => h) (Or.inr ⟨by rfl, rfl⟩) hHeld ?_
          try simp only [Act.put, List.setIfInBounds_toArray, List.set_cons_zero, List.set_cons_succ]
          refine wpAnyH_take (i := 25) (oi := ⟨some 42, _, _, _, _, _⟩) (v := undef) rfl (by kernel_rfl) (by kernel_rfl) (by kernel_rfl) (fun _ _ _ h => h) (Or.inr ⟨by rfl, rfl⟩) hHeld ?_
          try simp only [Act.put, List.setIfInBounds_toArray, List.set_cons_zero, List.set_cons_succ]
          refine wpAnyH_take (i := 26) (oi := ⟨some 43, _, _, _, _, _⟩) (v := undef) rfl (by kernel_rfl) (by kernel_rfl) (by kernel_rfl) (fun _ _ _ h => h) (Or.inr ⟨by rfl, rfl⟩) hHeld ?_
          try simp only [Act.put, List.setIfInBounds_toArray, List.set_cons_zero, List.set_cons_succ]
          refine wpAnyH_take (i := 27) (oi := ⟨some 44, _, _, _, _, _⟩) (v := undef) rfl (by kernel_rfl) (by kernel_rfl) (by kernel_rfl) (fun _ _ _ h => h) (Or.inr ⟨by rfl, rfl⟩) hHeld ?_
          try simp only [Act.put, List.setIfInBounds_toArray, List.set_cons_zero, List.set_cons_succ]
          refine wpAnyH_take (i := 28) (oi := ⟨some 45, _, _, _, _, _⟩) (v := undef) rfl (by kernel_rfl) (by kernel_rfl) (by kernel_rfl) (fun _ _ _ h => h) (Or.inr ⟨by rfl, rfl⟩) hHeld ?_
          try simp only [Act.put, List.setIfInBounds_toArray, List.set_cons_zero, List.set_cons_succ]
          refine wpAnyH_take (i := 29) (oi := ⟨some 46, _, _, _, _, _⟩) (v := undef) rfl (by kernel_rfl) (by kernel_rfl) (by kernel_rfl) (fun _ _ _ h => h) (Or.inr ⟨by rfl, rfl⟩) hHeld ?_
          try simp only [Act.put, List.setIfInBounds_toArray, List.set_cons_zero, List.set_cons_succ]
          refine wpAnyH_take (i := 30) (oi := ⟨some 47, _, _, _, _, _⟩) (v := ?qv30ma) rfl (by kernel_rfl) (by kernel_rfl) (by kernel_rfl) (fun _ _ _ h => h) (Or.inl ⟨by rfl, ?qy30ma⟩) hHeld ?qr30ma
          case qy30ma => (intro w' hSw; go_simp; try with_reducible rfl)
          try simp only [Act.put, List.setIfInBounds_toArray, List.set_cons_zero, List.set_cons_succ]
          refine wpAnyH_done (by kernel_rfl) ?_ _
          refine NoPanic.normal ?_
          have B5 := hb2.trans (hHeld.mono hb2.size)
          clear hHeld kb
          go_wp2_with fail
          go_roundw
          case rel => exact ⟨k + 1, B, hlt, by go_num, rfl, NX.out, B5⟩
          case measure => simp [intOf]; omega
        · obtain ⟨x, hx⟩ : ∃ x, (C.getD k [])[pos k]? = some x := ⟨_, List.getElem?_eq_getElem (by omega)⟩
          obtain ⟨b0, o0, b1, o1, c1, v1, rfl, hb0, e0, g1, g2, hb1, x0, x1, x2, x3, hpt⟩ := ITM.out k (pos k) x hlt hx
          replace e0 := (BB.cell (p := ⟨b0, o0 + k, none⟩) hb0).trans e0
          replace x0 := (BB.cell (p := ⟨b1, o1 + pos k * 4, none⟩) hb1).trans x0
          replace x1 := (BB.cell (p := ⟨b1, o1 + pos k * 4 + 1, none⟩) hb1).trans x1
          replace x2 := (BB.cell (p := ⟨b1, o1 + pos k * 4 + 2, none⟩) hb1).trans x2
          replace x3 := (BB.cell (p := ⟨b1, o1 + pos k * 4 + 3, none⟩) hb1).trans x3
          have hL := LEN.out k
          have hsl := hpt.isSl
          have hbl0 : b0 < wr.heap.size := Nat.lt_of_lt_of_le hb0 BB.size
          have hbl1 : b1 < wr.heap.size := Nat.lt_of_lt_of_le hb1 BB.size
          unfold maxLen at g2
          cases hpk : pick (remL C pos) k with
          | none =>
            rw [hpk] at hB
            have NX := Lib.hid (show (k : Int) = bestI (pick (remL C pos) (k + 1)) by rw [pick_first (by rw [HCL.out]; exact hlt) hx hpk]; rfl)
            obtain rfl : B = -1 := hB
            have t2 : decide ((pos k : Int) < ((C.getD k []).length : Int)) = true := decide_eq_true (by omega)
            have t2n : decide (pos k < (C.getD k []).length) = true := decide_eq_true (by omega)
            generalize (C.getD k []).length = L at *
            generalize pos k = P at d0 hu t2 t2n x0 x1 x2 x3
            have t3 : decide ((-1 : Int) < 0) = true := rfl
            clear hx hpk hpt
            go_wp2_with fail
            refine wp_region_noPanic ?_
            refine wp_region_held_drew (S := fun w' => Below wr.heap.size wr w') (by kernel_rfl) (Below.refl _ _).drew (fun hHeld => ?_)
            generalize wr.drew = D at hHeld ⊢
            have kb : Below wr.heap.size wr D := hHeld
            refine wpAnyH_take (i := 0) (oi := ⟨some 17, _, _, _, _, _⟩) (v := ?qv0mb) rfl (by kernel_rfl) (by kernel_rfl) (by kernel_rfl) (fun _ _ _ h => h) (Or.inl ⟨by rfl, ?qy0mb⟩) hHeld ?qr0mb
            case qy0mb => (intro w' hSw; go_simp; try with_reducible rfl)
            try simp only [Act.put, List.setIfInBounds_toArray, List.set_cons_zero, List.set_cons_succ]
            refine wpAnyH_take (i := 1) (oi := ⟨some 18, _, _, _, _, _⟩) (v := ?qv1mb) rfl (by kernel_rfl) (by kernel_rfl) (by kernel_rfl) (fun _ _ _ h => h) (Or.inl ⟨by rfl, ?qy1mb⟩) hHeld ?qr1mb
            case qy1mb => (intro w' hSw; go_simp; try with_reducible rfl)
            try simp only [Act.put, List.setIfInBounds_toArray, List.set_cons_zero, List.set_cons_succ]
            refine wpAnyH_take (i := 2) (oi := ⟨some 19, _, _, _, _, _⟩) (v := ?qv2mb) rfl (by kernel_rfl) (by kernel_rfl) (by kernel_rfl) (fun _ _ _ h => h) (Or.inl ⟨by rfl, ?qy2mb⟩) hHeld ?qr2mb
            case qy2mb => (intro w' hSw; go_simp; try with_reducible rfl)
            try simp only [Act.put, List.setIfInBounds_toArray, List.set_cons_zero, List.set_cons_succ]
            refine wpAnyH_take (i := 3) (oi := ⟨some 20, _, _, _, _, _⟩) (v := ?qv3mb) rfl (by kernel_rfl) (by kernel_rfl) (by kernel_rfl) (fun _ _ _ h => h) (Or.inl ⟨by rfl, ?qy3mb⟩) hHeld ?qr3mb
            case qy3mb => (intro w' hSw; have q0 := (hSw.cell (p := ⟨w.heap.size, k, none⟩) hgl2).trans d0; go_simp; try with_reducible rfl)
            try simp only [Act.put, List.setIfInBounds_toArray, List.set_cons_zero, List.set_cons_succ]
            refine wpAnyH_take (i := 4) (oi := ⟨some 21, _, _, _, _, _⟩) (v := ?qv4mb) rfl (by kernel_rfl) (by kernel_rfl) (by kernel_rfl) (fun _ _ _ h => h) (Or.inl ⟨by rfl, ?qy4mb⟩) hHeld ?qr4mb
            case qy4mb => (intro w' hSw; go_simp; try with_reducible rfl)
            try simp only [Act.put, List.setIfInBounds_toArray, List.set_cons_zero, List.set_cons_succ]
            refine wpAnyH_take (i := 5) (oi := ⟨some 22, _, _, _, _, _⟩) (v := ?qv5mb) rfl (by kernel_rfl) (by kernel_rfl) (by kernel_rfl) (fun _ _ _ h => h) (Or.inl ⟨by rfl, ?qy5mb⟩) hHeld ?qr5mb
            case qy5mb => (intro w' hSw; go_simp; try with_reducible rfl)
            try simp only [Act.put, List.setIfInBounds_toArray, List.set_cons_zero, List.set_cons_succ]
            refine wpAnyH_take (i := 6) (oi := ⟨some 23, _, _, _, _, _⟩) (v := ?qv6mb) rfl (by kernel_rfl) (by kernel_rfl) (by kernel_rfl) (fun _ _ _ h => h) (Or.inl ⟨by rfl, ?qy6mb⟩) hHeld ?qr6mb
            case qy6mb => (intro w' hSw; go_simp; try with_reducible rfl)
            try simp only [Act.put, List.setIfInBounds_toArray, List.set_cons_zero, List.set_cons_succ]
            refine wpAnyH_take (i := 7) (oi := ⟨some 24, _, _, _, _, _⟩) (v := ?qv7mb) rfl (by kernel_rfl) (by kernel_rfl) (by kernel_rfl) (fun _ _ _ h => h) (Or.inl ⟨by rfl, ?qy7mb⟩) hHeld ?qr7mb
            case qy7mb => (intro w' hSw; go_simp; try with_reducible rfl)
            try simp only [Act.put, List.setIfInBounds_toArray, List.set_cons_zero, List.set_cons_succ]
            refine wpAnyH_take (i := 8) (oi := ⟨some 25, _, _, _, _, _⟩) (v := ?qv8mb) rfl (by kernel_rfl) (by kernel_rfl) (by kernel_rfl) (fun _ _ _ h => h) (Or.inl ⟨by rfl, ?qy8mb⟩) hHeld ?qr8mb
            case qy8mb => (intro w' hSw; go_simp; try with_reducible rfl)
            try simp only [Act.put, List.setIfInBounds_toArray, List.set_cons_zero, List.set_cons_succ]
            refine wpAnyH_take (i := 9) (oi := ⟨some 26, _, _, _, _, _⟩) (v := ?qv9mb) rfl (by kernel_rfl) (by kernel_rfl) (by kernel_rfl) (fun _ _ _ h => h) (Or.inl ⟨by rfl, ?qy9mb⟩) hHeld ?qr9mb
            case qy9mb => (intro w' hSw; go_simp; try with_reducible rfl)
            try simp only [Act.put, List.setIfInBounds_toArray, List.set_cons_zero, List.set_cons_succ]
            refine wpAnyH_take (i := 10) (oi := ⟨some 27, _, _, _, _, _⟩) (v := ?qv10mb) rfl (by kernel_rfl) (by kernel_rfl) (by kernel_rfl) (fun _ _ _ h => h) (Or.inl ⟨by rfl, ?qy10mb⟩) hHeld ?qr10mb
            case qy10mb => (intro w' hSw; go_simp; try with_reducible rfl)
            try simp only [Act.put, List.setIfInBounds_toArray, List.set_cons_zero, List.set_cons_succ]
            refine wpAnyH_take (i := 11) (oi := ⟨some 28, _, _, _, _, _⟩) (v := undef) rfl (by kernel_rfl) (by kernel_rfl) (by kernel_rfl) (fun _ _ _ h => h) (Or.inr ⟨by rfl, rfl⟩) hHeld ?_
            try simp only [Act.put, List.setIfInBounds_toArray, List.set_cons_zero, List.set_cons_succ]
            refine wpAnyH_take (i := 12) (oi := ⟨some 29, _, _, _, _, _⟩) (v := undef) rfl (by kernel_rfl) (by kernel_rfl) (by kernel_rfl) (fun _ _ _ h => h) (Or.inr ⟨by rfl, rfl⟩) hHeld ?_
            try simp only [Act.put, List.setIfInBounds_toArray, List.set_cons_zero, List.set_cons_succ]
            refine wpAnyH_take (i := 13) (oi := ⟨some 30, _, _, _, _, _⟩) (v := undef) rfl (by kernel_rfl) (by kernel_rfl) (by kernel_rfl) (fun _ _ _ h => h) (Or.inr ⟨by rfl, rfl⟩) hHeld ?_
            try simp only [Act.put, List.setIfInBounds_toArray, List.set_cons_zero, List.set_cons_succ]
            refine wpAnyH_take (i := 14) (oi := ⟨some 31, _, _, _, _, _⟩) (v := undef) rfl (by kernel_rfl) (by kernel_rfl) (by kernel_rfl) (fun _ _ _ h => h) (Or.inr ⟨by rfl, rfl⟩) hHeld ?_
            try simp only [Act.put, List.setIfInBounds_toArray, List.set_cons_zero, List.set_cons_succ]
            refine wpAnyH_take (i := 15) (oi := ⟨some 32, _, _, _, _, _⟩) (v := undef) rfl (by kernel_rfl) (by kernel_rfl) (by kernel_rfl) (fun _ _ _ h => h) (Or.inr ⟨by rfl, rfl⟩) hHeld ?_
            try simp only [Act.put, List.setIfInBounds_toArray, List.set_cons_zero, List.set_cons_succ]
            refine wpAnyH_take (i := 16) (oi := ⟨some 33, _, _, _, _, _⟩) (v := undef) rfl (by kernel_rfl) (by kernel_rfl) (by kernel_rfl) (fun _ _ _ h => h) (Or.inr ⟨by rfl, rfl⟩) hHeld ?_
            try simp only [Act.put, List.setIfInBounds_toArray, List.set_cons_zero, List.set_cons_succ]
            refine wpAnyH_take (i := 17) (oi := ⟨some 34, _, _, _, _, _⟩) (v := undef) rfl (by kernel_rfl) (by kernel_rfl) (by kernel_rfl) (fun _ _ _ h => h) (Or.inr ⟨by rfl, rfl⟩) hHeld ?_
            try simp only [Act.put, List.setIfInBounds_toArray, List.set_cons_zero, List.set_cons_succ]
            refine wpAnyH_take (i := 18) (oi := ⟨some 35, _, _, _, _, _⟩) (v := undef) rfl (by kernel_rfl) (by kernel_rfl) (by kernel_rfl) (fun _ _ _ h => h) (Or.inr ⟨by rfl, rfl⟩) hHeld ?_
            try simp only [Act.put, List.setIfInBounds_toArray, List.set_cons_zero, List.set_cons_succ]
            refine wpAnyH_take (i := 19) (oi := ⟨some 36, _, _, _, _, _⟩) (v := undef) rfl (by kernel_rfl) (by kernel_rfl) (by kernel_rfl) (fun _ _ _ h => h) (Or.inr ⟨by rfl, rfl⟩) hHeld ?_
            try simp only [Act.put, List.setIfInBounds_toArray, List.set_cons_zero, List.set_cons_succ]
            refine wpAnyH_take (i := 20) (oi := ⟨some 37, _, _, _, _, _⟩) (v := undef) rfl (by kernel_rfl) (by kernel_rfl) (by kernel_rfl) (fun _ _ _ h => h) (Or.inr ⟨by rfl, rfl⟩) hHeld ?_
            try simp only [Act.put, List.setIfInBounds_toArray, List.set_cons_zero, List.set_cons_succ]
            refine wpAnyH_take (i := 21) (oi := ⟨some 38, _, _, _, _, _⟩) (v := undef) rfl (by kernel_rfl) (by kernel_rfl) (by kernel_rfl) (fun _ _ _ h => h) (Or.inr ⟨by rfl, rfl⟩) hHeld ?_
            try simp only [Act.put, List.setIfInBounds_toArray, List.set_cons_zero, List.set_cons_succ]
            refine wpAnyH_take (i := 22) (oi := ⟨some 39, _, _, _, _, _⟩) (v := undef) rfl (by kernel_rfl) (by kernel_rfl) (by kernel_rfl) (fun _ _ _ h => h) (Or.inr ⟨by rfl, rfl⟩) hHeld ?_
            try simp only [Act.put, List.setIfInBounds_toArray, List.set_cons_zero, List.set_cons_succ]
            refine wpAnyH_take (i := 23) (oi := ⟨some 40, _, _, _, _, _⟩) (v := undef) rfl (by kernel_rfl) (by kernel_rfl) (by kernel_rfl) (fun _ _ _ h => h) (Or.inr ⟨by rfl, rfl⟩) hHeld ?_
            try simp only [Act.put, List.setIfInBounds_toArray, List.set_cons_zero, List.set_cons_succ]
            refine wpAnyH_take (i := 24) (oi := ⟨some 41, _, _, _, _, _⟩) (v := undef) rfl (by kernel_rfl) (by kernel_rfl) (by kernel_rfl) (fun _ _ _ h => h) (Or.inr ⟨by rfl, rfl⟩) hHeld ?_
            try simp only [Act.put, List.setIfInBounds_toArray, List.set_cons_zero, List.set_cons_succ]
            refine wpAnyH_take (i := 25) (oi := ⟨some 42, _, _, _, _, _⟩) (v := undef) rfl (by kernel_rfl) (by kernel_rfl) (by kernel_rfl) (fun _ _ _ h => h) (Or.inr ⟨by rfl, rfl⟩) hHeld ?_
            try simp only [Act.put, List.setIfInBounds_toArray, List.set_cons_zero, List.set_cons_succ]
            refine wpAnyH_take (i := 26) (oi := ⟨some 43, _, _, _, _, _⟩) (v := undef) rfl (by kernel_rfl) (by kernel_rfl) (by kernel_rfl) (fun _ _ _ h => h) (Or.inr ⟨by rfl, rfl⟩) hHeld ?_
            try simp only [Act.put, List.setIfInBounds_toArray, List.set_cons_zero, List.set_cons_succ]
            refine wpAnyH_take (i := 27) (oi := ⟨some 44, _, _, _, _, _⟩) (v := undef) rfl (by kernel_rfl) (by kernel_rfl) (by kernel_rfl) (fun _ _ _ h => h) (Or.inr ⟨by rfl, rfl⟩) hHeld ?_
            try simp only [Act.put, List.setIfInBounds_toArray, List.set_cons_zero, List.set_cons_succ]
            refine wpAnyH_take (i := 28) (oi := ⟨some 45, _, _, _, _, _⟩) (v := undef) rfl (by kernel_rfl) (by kernel_rfl) (by kernel_rfl) (fun _ _ _ h => h) (Or.inr ⟨by rfl, rfl⟩) hHeld ?_
            try simp only [Act.put, List.setIfInBounds_toArray, List.set_cons_zero, List.set_cons_succ]
            refine wpAnyH_take (i := 29) (oi := ⟨some 46, _, _, _, _, _⟩) (v := ?qv29mb) rfl (by kernel_rfl) (by kernel_rfl) (by kernel_rfl) (fun _ _ _ h => h) (Or.inl ⟨by rfl, ?qy29mb⟩) hHeld ?qr29mb
            case qy29mb => (intro w' hSw; go_simp; try with_reducible rfl)
            try simp only [Act.put, List.setIfInBounds_toArray, List.set_cons_zero, List.set_cons_succ]
            refine wpAnyH_take (i := 30) (oi := ⟨some 47, _, _, _, _, _⟩) (v := ?qv30mb) rfl (by kernel_rfl) (by kernel_rfl) (by kernel_rfl) (fun _ _ _ h => h) (Or.inl ⟨by rfl, ?qy30mb⟩) hHeld ?qr30mb
            case qy30mb => (intro w' hSw; go_simp; try with_reducible rfl)
            try simp only [Act.put, List.setIfInBounds_toArray, List.set_cons_zero, List.set_cons_succ]
            refine wpAnyH_done (by kernel_rfl) ?_ _
            refine NoPanic.normal ?_
            have B5 := hb2.trans (hHeld.mono hb2.size)
            clear hHeld kb
            go_wp2_with fail
            go_roundw
            case rel => exact ⟨k + 1, (k : Int), hlt, by go_num, rfl, NX.out, B5⟩
            case measure => simp [intOf]; omega
          | some b =>
            rw [hpk] at hB
            obtain rfl : B = (b : Int) := hB
            obtain ⟨hbk, y, hy⟩ := pick_some (by rw [HCL.out]; exact hk) hpk
            have hbn : b < n := by omega
            obtain ⟨b0', o0', b2, o2, c2, v2, eo, _, f0, g3, g4, hb2', y0, y1, y2, y3, hpt2⟩ := ITM.out b (pos b) y hbn hy
            simp only [Option.some.injEq, Addr.mk.injEq, and_true] at eo
            obtain ⟨rfl, rfl⟩ := eo
            replace f0 := (BB.cell (p := ⟨b0, o0 + b, none⟩) hb0).trans f0
            replace y0 := (BB.cell (p := ⟨b2, o2 + pos b * 4, none⟩) hb2').trans y0
            replace y1 := (BB.cell (p := ⟨b2, o2 + pos b * 4 + 1, none⟩) hb2').trans y1
            replace y2 := (BB.cell (p := ⟨b2, o2 + pos b * 4 + 2, none⟩) hb2').trans y2
            replace y3 := (BB.cell (p := ⟨b2, o2 + pos b * 4 + 3, none⟩) hb2').trans y3
            have hL2 := LEN.out b
            have hsl2 := hpt2.isSl
            have hbl2 : b2 < wr.heap.size := Nat.lt_of_lt_of_le hb2' BB.size
            have d1 := AT.cell hbn
            have j0 : (0 : Int) ≤ (b : Int) := by omega
            have j1 : (b : Int) < (n : Int) := by omega
            have NX := Lib.hid (show (if ltK x y = true then (k : Int) else (b : Int)) = bestI (pick (remL C pos) (k + 1)) by
              rw [pick_more (by rw [HCL.out]; exact hlt) hx hpk (by rw [HCL.out]; exact hbn) hy]
              split <;> rfl)
            have hPb : pos b < (C.getD b []).length := (List.getElem?_eq_some_iff.1 hy).1
            have t2 : decide ((pos k : Int) < ((C.getD k []).length : Int)) = true := decide_eq_true (by omega)
            have t2n : decide (pos k < (C.getD k []).length) = true := decide_eq_true (by omega)
            have k0 : (0 : Int) ≤ (pos k : Int) := by omega
            have k1 : (pos k : Int) < ((C.getD k []).length : Int) := by omega
            have k2 : (0 : Int) ≤ (pos b : Int) := by omega
            have k3 : (pos b : Int) < ((C.getD b []).length : Int) := by omega
            generalize (C.getD k []).length = L at *
            generalize (C.getD b []).length = L2 at *
            generalize pos k = P at d0 hu t2 t2n k0 k1 x0 x1 x2 x3
            generalize pos b = P2 at d1 hPb k2 k3 y0 y1 y2 y3
            have t3 : decide ((b : Int) < 0) = false := decide_eq_false (by omega)
            have LS := Lib.hid (fun w => Less_any (x, v1) (y, v2) w hsl hsl2)
            unfold maxLen at g4
            clear hx hpk hpt hpt2 hy
            go_wp2_with fail
            cases hc : ltK x y with
            | false =>
              have N2 := Lib.hid (show (b : Int) = bestI (pick (remL C pos) (k + 1)) by have := NX.out; rw [hc] at this; exact this)
              have LS2 := Lib.hid (show ∀ w, Calls Tryz.prog 33 #[kdA (x, v1), kdA (y, v2)] w fun e w' => e = .returned (.bool false) ∧ Below w.heap.size w w' from fun w => by have := LS.out w; simp only [hc] at this; exact this)
              clear NX hc LS
              refine wp_region_noPanic ?_
              refine wp_region_held_drew (S := fun w' => Below wr.heap.size wr w') (by kernel_rfl) (Below.refl _ _).drew (fun hHeld => ?_)
              generalize wr.drew = D at hHeld ⊢
              have kb : Below wr.heap.size wr D := hHeld
              refine wpAnyH_take (i := 0) (oi := ⟨some 17, _, _, _, _, _⟩) (v := ?qv0mc) rfl (by kernel_rfl) (by kernel_rfl) (by kernel_rfl) (fun _ _ _ h => h) (Or.inl ⟨by rfl, ?qy0mc⟩) hHeld ?qr0mc
              case qy0mc => (intro w' hSw; go_simp; try with_reducible rfl)
              try simp only [Act.put, List.setIfInBounds_toArray, List.set_cons_zero, List.set_cons_succ]
              refine wpAnyH_take (i := 1) (oi := ⟨some 18, _, _, _, _, _⟩) (v := ?qv1mc) rfl (by kernel_rfl) (by kernel_rfl) (by kernel_rfl) (fun _ _ _ h => h) (Or.inl ⟨by rfl, ?qy1mc⟩) hHeld ?qr1mc
              case qy1mc => (intro w' hSw; go_simp; try with_reducible rfl)
              try simp only [Act.put, List.setIfInBounds_toArray, List.set_cons_zero, List.set_cons_succ]
              refine wpAnyH_take (i := 2) (oi := ⟨some 19, _, _, _, _, _⟩) (v := ?qv2mc) rfl (by kernel_rfl) (by kernel_rfl) (by kernel_rfl) (fun _ _ _ h => h) (Or.inl ⟨by rfl, ?qy2mc⟩) hHeld ?qr2mc
              case qy2mc => (intro w' hSw; go_simp; try with_reducible rfl)
              try simp only [Act.put, List.setIfInBounds_toArray, List.set_cons_zero, List.set_cons_succ]
              refine wpAnyH_take (i := 3) (oi := ⟨some 20, _, _, _, _, _⟩) (v := ?qv3mc) rfl (by kernel_rfl) (by kernel_rfl) (by kernel_rfl) (fun _ _ _ h => h) (Or.inl ⟨by rfl, ?qy3mc⟩) hHeld ?qr3mc
              case qy3mc => (intro w' hSw; have q0 := (hSw.cell (p := ⟨w.heap.size, k, none⟩) hgl2).trans d0; have q1 := (hSw.cell (p := ⟨w.heap.size, b, none⟩) hgl2).trans d1; have r0 := (hSw.cell (p := ⟨b0, o0 + b, none⟩) hbl0).trans f0; have p0 := (hSw.cell (p := ⟨b1, o1 + P * 4, none⟩) hbl1).trans x0; have p1 := (hSw.cell (p := ⟨b1, o1 + P * 4 + 1, none⟩) hbl1).trans x1; have p2 := (hSw.cell (p := ⟨b1, o1 + P * 4 + 2, none⟩) hbl1).trans x2; have p3 := (hSw.cell (p := ⟨b1, o1 + P * 4 + 3, none⟩) hbl1).trans x3; have s0 := (hSw.cell (p := ⟨b2, o2 + P2 * 4, none⟩) hbl2).trans y0; have s1 := (hSw.cell (p := ⟨b2, o2 + P2 * 4 + 1, none⟩) hbl2).trans y1; have s2 := (hSw.cell (p := ⟨b2, o2 + P2 * 4 + 2, none⟩) hbl2).trans y2; have s3 := (hSw.cell (p := ⟨b2, o2 + P2 * 4 + 3, none⟩) hbl2).trans y3; go_simp; try with_reducible rfl)
              try simp only [Act.put, List.setIfInBounds_toArray, List.set_cons_zero, List.set_cons_succ]
              refine wpAnyH_take (i := 4) (oi := ⟨some 21, _, _, _, _, _⟩) (v := ?qv4mc) rfl (by kernel_rfl) (by kernel_rfl) (by kernel_rfl) (fun _ _ _ h => h) (Or.inl ⟨by rfl, ?qy4mc⟩) hHeld ?qr4mc
              case qy4mc => (intro w' hSw; go_simp; try with_reducible rfl)
              try simp only [Act.put, List.setIfInBounds_toArray, List.set_cons_zero, List.set_cons_succ]
              refine wpAnyH_take (i := 5) (oi := ⟨some 22, _, _, _, _, _⟩) (v := ?qv5mc) rfl (by kernel_rfl) (by kernel_rfl) (by kernel_rfl) (fun _ _ _ h => h) (Or.inl ⟨by rfl, ?qy5mc⟩) hHeld ?qr5mc
              case qy5mc => (intro w' hSw; go_simp; try with_reducible rfl)
              try simp only [Act.put, List.setIfInBounds_toArray, List.set_cons_zero, List.set_cons_succ]
              refine wpAnyH_take (i := 6) (oi := ⟨some 23, _, _, _, _, _⟩) (v := ?qv6mc) rfl (by kernel_rfl) (by kernel_rfl) (by kernel_rfl) (fun _ _ _ h => h) (Or.inl ⟨by rfl, ?qy6mc⟩) hHeld ?qr6mc
              case qy6mc => (intro w' hSw; go_simp; try with_reducible rfl)
              try simp only [Act.put, List.setIfInBounds_toArray, List.set_cons_zero, List.set_cons_succ]
              refine wpAnyH_take (i := 7) (oi := ⟨some 24, _, _, _, _, _⟩) (v := ?qv7mc) rfl (by kernel_rfl) (by kernel_rfl) (by kernel_rfl) (fun _ _ _ h => h) (Or.inl ⟨by rfl, ?qy7mc⟩) hHeld ?qr7mc
              case qy7mc => (intro w' hSw; go_simp; try with_reducible rfl)
              try simp only [Act.put, List.setIfInBounds_toArray, List.set_cons_zero, List.set_cons_succ]
              refine wpAnyH_take (i := 8) (oi := ⟨some 25, _, _, _, _, _⟩) (v := ?qv8mc) rfl (by kernel_rfl) (by kernel_rfl) (by kernel_rfl) (fun _ _ _ h => h) (Or.inl ⟨by rfl, ?qy8mc⟩) hHeld ?qr8mc
              case qy8mc => (intro w' hSw; go_simp; try with_reducible rfl)
              try simp only [Act.put, List.setIfInBounds_toArray, List.set_cons_zero, List.set_cons_succ]
              refine wpAnyH_take (i := 9) (oi := ⟨some 26, _, _, _, _, _⟩) (v := ?qv9mc) rfl (by kernel_rfl) (by kernel_rfl) (by kernel_rfl) (fun _ _ _ h => h) (Or.inl ⟨by rfl, ?qy9mc⟩) hHeld ?qr9mc
              case qy9mc => (intro w' hSw; go_simp; try with_reducible rfl)
              try simp only [Act.put, List.setIfInBounds_toArray, List.set_cons_zero, List.set_cons_succ]
              refine wpAnyH_take (i := 10) (oi := ⟨some 27, _, _, _, _, _⟩) (v := ?qv10mc) rfl (by kernel_rfl) (by kernel_rfl) (by kernel_rfl) (fun _ _ _ h => h) (Or.inl ⟨by rfl, ?qy10mc⟩) hHeld ?qr10mc
              case qy10mc => (intro w' hSw; go_simp; try with_reducible rfl)
              try simp only [Act.put, List.setIfInBounds_toArray, List.set_cons_zero, List.set_cons_succ]
              refine wpAnyH_take (i := 11) (oi := ⟨some 28, _, _, _, _, _⟩) (v := ?qv11mc) rfl (by kernel_rfl) (by kernel_rfl) (by kernel_rfl) (fun _ _ _ h => h) (Or.inl ⟨by rfl, ?qy11mc⟩) hHeld ?qr11mc
              case qy11mc => (intro w' hSw; go_simp; try with_reducible rfl)
              try simp only [Act.put, List.setIfInBounds_toArray, List.set_cons_zero, List.set_cons_succ]
              refine wpAnyH_take (i := 12) (oi := ⟨some 29, _, _, _, _, _⟩) (v := ?qv12mc) rfl (by kernel_rfl) (by kernel_rfl) (by kernel_rfl) (fun _ _ _ h => h) (Or.inl ⟨by rfl, ?qy12mc⟩) hHeld ?qr12mc
              case qy12mc => (intro w' hSw; go_simp; try with_reducible rfl)
              try simp only [Act.put, List.setIfInBounds_toArray, List.set_cons_zero, List.set_cons_succ]
              refine wpAnyH_take (i := 13) (oi := ⟨some 30, _, _, _, _, _⟩) (v := ?qv13mc) rfl (by kernel_rfl) (by kernel_rfl) (by kernel_rfl) (fun _ _ _ h => h) (Or.inl ⟨by rfl, ?qy13mc⟩) hHeld ?qr13mc
              case qy13mc => (intro w' hSw; go_simp; try with_reducible rfl)
              try simp only [Act.put, List.setIfInBounds_toArray, List.set_cons_zero, List.set_cons_succ]
              refine wpAnyH_take (i := 14) (oi := ⟨some 31, _, _, _, _, _⟩) (v := ?qv14mc) rfl (by kernel_rfl) (by kernel_rfl) (by kernel_rfl) (fun _ _ _ h => h) (Or.inl ⟨by rfl, ?qy14mc⟩) hHeld ?qr14mc
              case qy14mc => (intro w' hSw; go_simp; try with_reducible rfl)
              try simp only [Act.put, List.setIfInBounds_toArray, List.set_cons_zero, List.set_cons_succ]
              refine wpAnyH_take (i := 15) (oi := ⟨some 32, _, _, _, _, _⟩) (v := ?qv15mc) rfl (by kernel_rfl) (by kernel_rfl) (by kernel_rfl) (fun _ _ _ h => h) (Or.inl ⟨by rfl, ?qy15mc⟩) hHeld ?qr15mc
              case qy15mc => (intro w' hSw; have q0 := (hSw.cell (p := ⟨w.heap.size, k, none⟩) hgl2).trans d0; have q1 := (hSw.cell (p := ⟨w.heap.size, b, none⟩) hgl2).trans d1; have r0 := (hSw.cell (p := ⟨b0, o0 + b, none⟩) hbl0).trans f0; have p0 := (hSw.cell (p := ⟨b1, o1 + P * 4, none⟩) hbl1).trans x0; have p1 := (hSw.cell (p := ⟨b1, o1 + P * 4 + 1, none⟩) hbl1).trans x1; have p2 := (hSw.cell (p := ⟨b1, o1 + P * 4 + 2, none⟩) hbl1).trans x2; have p3 := (hSw.cell (p := ⟨b1, o1 + P * 4 + 3, none⟩) hbl1).trans x3; have s0 := (hSw.cell (p := ⟨b2, o2 + P2 * 4, none⟩) hbl2).trans y0; have s1 := (hSw.cell (p := ⟨b2, o2 + P2 * 4 + 1, none⟩) hbl2).trans y1; have s2 := (hSw.cell (p := ⟨b2, o2 + P2 * 4 + 2, none⟩) hbl2).trans y2; have s3 := (hSw.cell (p := ⟨b2, o2 + P2 * 4 + 3, none⟩) hbl2).trans y3; go_simp; try with_reducible rfl)
              try simp only [Act.put, List.setIfInBounds_toArray, List.set_cons_zero, List.set_cons_succ]
              refine wpAnyH_take (i := 16) (oi := ⟨some 33, _, _, _, _, _⟩) (v := ?qv16mc) rfl (by kernel_rfl) (by kernel_rfl) (by kernel_rfl) (fun _ _ _ h => h) (Or.inl ⟨by rfl, ?qy16mc⟩) hHeld ?qr16mc
              case qy16mc => (intro w' hSw; go_simp; try with_reducible rfl)
              try simp only [Act.put, List.setIfInBounds_toArray, List.set_cons_zero, List.set_cons_succ]
              refine wpAnyH_take (i := 17) (oi := ⟨some 34, _, _, _, _, _⟩) (v := ?qv17mc) rfl (by kernel_rfl) (by kernel_rfl) (by kernel_rfl) (fun _ _ _ h => h) (Or.inl ⟨by rfl, ?qy17mc⟩) hHeld ?qr17mc
              case qy17mc => (intro w' hSw; have q0 := (hSw.cell (p := ⟨w.heap.size, k, none⟩) hgl2).trans d0; have q1 := (hSw.cell (p := ⟨w.heap.size, b, none⟩) hgl2).trans d1; have r0 := (hSw.cell (p := ⟨b0, o0 + b, none⟩) hbl0).trans f0; have p0 := (hSw.cell (p := ⟨b1, o1 + P * 4, none⟩) hbl1).trans x0; have p1 := (hSw.cell (p := ⟨b1, o1 + P * 4 + 1, none⟩) hbl1).trans x1; have p2 := (hSw.cell (p := ⟨b1, o1 + P * 4 + 2, none⟩) hbl1).trans x2; have p3 := (hSw.cell (p := ⟨b1, o1 + P * 4 + 3, none⟩) hbl1).trans x3; have s0 := (hSw.cell (p := ⟨b2, o2 + P2 * 4, none⟩) hbl2).trans y0; have s1 := (hSw.cell (p := ⟨b2, o2 + P2 * 4 + 1, none⟩) hbl2).trans y1; have s2 := (hSw.cell (p := ⟨b2, o2 + P2 * 4 + 2, none⟩) hbl2).trans y2; have s3 := (hSw.cell (p := ⟨b2, o2 + P2 * 4 + 3, none⟩) hbl2).trans y3; go_simp; try with_reducible rfl)
              try simp only [Act.put, List.setIfInBounds_toArray, List.set_cons_zero, List.set_cons_succ]
              refine wpAnyH_take (i := 18) (oi := ⟨some 35, _, _, _, _, _⟩) (v := ?qv18mc) rfl (by kernel_rfl) (by kernel_rfl) (by kernel_rfl) (fun _ _ _ h => h) (Or.inl ⟨by rfl, ?qy18mc⟩) hHeld ?qr18mc
              case qy18mc => (intro w' hSw; go_simp; try with_reducible rfl)
              try simp only [Act.put, List.setIfInBounds_toArray, List.set_cons_zero, List.set_cons_succ]
              refine wpAnyH_take (i := 19) (oi := ⟨some 36, _, _, _, _, _⟩) (v := ?qv19mc) rfl (by kernel_rfl) (by kernel_rfl) (by kernel_rfl) (fun _ _ _ h => h) (Or.inl ⟨by rfl, ?qy19mc⟩) hHeld ?qr19mc
              case qy19mc => (intro w' hSw; go_simp; try with_reducible rfl)
              try simp only [Act.put, List.setIfInBounds_toArray, List.set_cons_zero, List.set_cons_succ]
              refine wpAnyH_take (i := 20) (oi := ⟨some 37, _, _, _, _, _⟩) (v := ?qv20mc) rfl (by kernel_rfl) (by kernel_rfl) (by kernel_rfl) (fun _ _ _ h => h) (Or.inl ⟨by rfl, ?qy20mc⟩) hHeld ?qr20mc
              case qy20mc => (intro w' hSw; go_simp; try with_reducible rfl)
              try simp only [Act.put, List.setIfInBounds_toArray, List.set_cons_zero, List.set_cons_succ]
              refine wpAnyH_take (i := 21) (oi := ⟨some 38, _, _, _, _, _⟩) (v := ?qv21mc) rfl (by kernel_rfl) (by kernel_rfl) (by kernel_rfl) (fun _ _ _ h => h) (Or.inl ⟨by rfl, ?qy21mc⟩) hHeld ?qr21mc
              case qy21mc => (intro w' hSw; have q0 := (hSw.cell (p := ⟨w.heap.size, k, none⟩) hgl2).trans d0; have q1 := (hSw.cell (p := ⟨w.heap.size, b, none⟩) hgl2).trans d1; have r0 := (hSw.cell (p := ⟨b0, o0 + b, none⟩) hbl0).trans f0; have p0 := (hSw.cell (p := ⟨b1, o1 + P * 4, none⟩) hbl1).trans x0; have p1 := (hSw.cell (p := ⟨b1, o1 + P * 4 + 1, none⟩) hbl1).trans x1; have p2 := (hSw.cell (p := ⟨b1, o1 + P * 4 + 2, none⟩) hbl1).trans x2; have p3 := (hSw.cell (p := ⟨b1, o1 + P * 4 + 3, none⟩) hbl1).trans x3; have s0 := (hSw.cell (p := ⟨b2, o2 + P2 * 4, none⟩) hbl2).trans y0; have s1 := (hSw.cell (p := ⟨b2, o2 + P2 * 4 + 1, none⟩) hbl2).trans y1; have s2 := (hSw.cell (p := ⟨b2, o2 + P2 * 4 + 2, none⟩) hbl2).trans y2; have s3 := (hSw.cell (p := ⟨b2, o2 + P2 * 4 + 3, none⟩) hbl2).trans y3; go_simp; try with_reducible rfl)
              try simp only [Act.put, List.setIfInBounds_toArray, List.set_cons_zero, List.set_cons_succ]
              refine wpAnyH_take (i := 22) (oi := ⟨some 39, _, _, _, _, _⟩) (v := ?qv22mc) rfl (by kernel_rfl) (by kernel_rfl) (by kernel_rfl) (fun _ _ _ h => h) (Or.inl ⟨by rfl, ?qy22mc⟩) hHeld ?qr22mc
              case qy22mc => (intro w' hSw; go_simp; try with_reducible rfl)
              try simp only [Act.put, List.setIfInBounds_toArray, List.set_cons_zero, List.set_cons_succ]
              refine wpAnyH_take (i := 23) (oi := ⟨some 40, _, _, _, _, _⟩) (v := ?qv23mc) rfl (by kernel_rfl) (by kernel_rfl) (by kernel_rfl) (fun _ _ _ h => h) (Or.inl ⟨by rfl, ?qy23mc⟩) hHeld ?qr23mc
              case qy23mc => (intro w' hSw; go_simp; try with_reducible rfl)
              try simp only [Act.put, List.setIfInBounds_toArray, List.set_cons_zero, List.set_cons_succ]
              refine wpAnyH_take (i := 24) (oi := ⟨some 41, _, _, _, _, _⟩) (v := ?qv24mc) rfl (by kernel_rfl) (by kernel_rfl) (by kernel_rfl) (fun _ _ _ h => h) (Or.inl ⟨by rfl, ?qy24mc⟩) hHeld ?qr24mc
              case qy24mc => (intro w' hSw; go_simp; try with_reducible rfl)
              try simp only [Act.put, List.setIfInBounds_toArray, List.set_cons_zero, List.set_cons_succ]
              refine wpAnyH_take (i := 25) (oi := ⟨some 42, _, _, _, _, _⟩) (v := ?qv25mc) rfl (by kernel_rfl) (by kernel_rfl) (by kernel_rfl) (fun _ _ _ h => h) (Or.inl ⟨by rfl, ?qy25mc⟩) hHeld ?qr25mc
              case qy25mc => (intro w' hSw; have q0 := (hSw.cell (p := ⟨w.heap.size, k, none⟩) hgl2).trans d0; have q1 := (hSw.cell (p := ⟨w.heap.size, b, none⟩) hgl2).trans d1; have r0 := (hSw.cell (p := ⟨b0, o0 + b, none⟩) hbl0).trans f0; have p0 := (hSw.cell (p := ⟨b1, o1 + P * 4, none⟩) hbl1).trans x0; have p1 := (hSw.cell (p := ⟨b1, o1 + P * 4 + 1, none⟩) hbl1).trans x1; have p2 := (hSw.cell (p := ⟨b1, o1 + P * 4 + 2, none⟩) hbl1).trans x2; have p3 := (hSw.cell (p := ⟨b1, o1 + P * 4 + 3, none⟩) hbl1).trans x3; have s0 := (hSw.cell (p := ⟨b2, o2 + P2 * 4, none⟩) hbl2).trans y0; have s1 := (hSw.cell (p := ⟨b2, o2 + P2 * 4 + 1, none⟩) hbl2).trans y1; have s2 := (hSw.cell (p := ⟨b2, o2 + P2 * 4 + 2, none⟩) hbl2).trans y2; have s3 := (hSw.cell (p := ⟨b2, o2 + P2 * 4 + 3, none⟩) hbl2).trans y3; go_simp; try with_reducible rfl)
              try simp only [Act.put, List.setIfInBounds_toArray, List.set_cons_zero, List.set_cons_succ]
              refine wpAnyH_take (i := 26) (oi := ⟨some 43, _, _, _, _, _⟩) (v := ?qv26mc) rfl (by kernel_rfl) (by kernel_rfl) (by kernel_rfl) (fun _ _ _ h => h) (Or.inl ⟨by rfl, ?qy26mc⟩) hHeld ?qr26mc
              case qy26mc => (intro w' hSw; go_simp; try with_reducible rfl)
              try simp only [Act.put, List.setIfInBounds_toArray, List.set_cons_zero, List.set_cons_succ]
              refine wpAnyH_take (i := 27) (oi := ⟨some 44, _, _, _, _, _⟩) (v := ?qv27mc) rfl (by kernel_rfl) (by kernel_rfl) (by kernel_rfl) (fun _ _ _ h => h) (Or.inl ⟨by rfl, ?qy27mc⟩) hHeld ?qr27mc
              case qy27mc => (intro w' hSw; have q0 := (hSw.cell (p := ⟨w.heap.size, k, none⟩) hgl2).trans d0; have q1 := (hSw.cell (p := ⟨w.heap.size, b, none⟩) hgl2).trans d1; have r0 := (hSw.cell (p := ⟨b0, o0 + b, none⟩) hbl0).trans f0; have p0 := (hSw.cell (p := ⟨b1, o1 + P * 4, none⟩) hbl1).trans x0; have p1 := (hSw.cell (p := ⟨b1, o1 + P * 4 + 1, none⟩) hbl1).trans x1; have p2 := (hSw.cell (p := ⟨b1, o1 + P * 4 + 2, none⟩) hbl1).trans x2; have p3 := (hSw.cell (p := ⟨b1, o1 + P * 4 + 3, none⟩) hbl1).trans x3; have s0 := (hSw.cell (p := ⟨b2, o2 + P2 * 4, none⟩) hbl2).trans y0; have s1 := (hSw.cell (p := ⟨b2, o2 + P2 * 4 + 1, none⟩) hbl2).trans y1; have s2 := (hSw.cell (p := ⟨b2, o2 + P2 * 4 + 2, none⟩) hbl2).trans y2; have s3 := (hSw.cell (p := ⟨b2, o2 + P2 * 4 + 3, none⟩) hbl2).trans y3; go_simp; try with_reducible rfl)
              try simp only [Act.put, List.setIfInBounds_toArray, List.set_cons_zero, List.set_cons_succ]
              refine wpAnyH_ready (rs := [28]) (by kernel_rfl) (by simp) ?_
              refine AllReadyH.cons (o := ⟨some 45, _, _, _, _, _⟩) rfl (fun K hK => ?_) AllReadyH.nil
              refine step_go (by rfl) 33 _ _ (by rfl) (fun _ _ => by kernel_rfl) _ (by rfl) (LS2.out _) ?_
              rintro e w4 ⟨rfl, b4⟩
              refine ⟨_, rfl, ?_⟩
              refine hK.out _ _ (kb.trans (b4.mono kb.size)) (fun hHeld => ?_)
              clear hK K
              try simp only [Act.put, List.setIfInBounds_toArray, List.set_cons_zero, List.set_cons_succ]
              refine wpAnyH_take (i := 29) (oi := ⟨some 46, _, _, _, _, _⟩) (v := ?qv29mc) rfl (by kernel_rfl) (by kernel_rfl) (by kernel_rfl) (fun _ _ _ h => h) (Or.inl ⟨by rfl, ?qy29mc⟩) hHeld ?qr29mc
              case qy29mc => (intro w' hSw; go_simp; try with_reducible rfl)
              try simp only [Act.put, List.setIfInBounds_toArray, List.set_cons_zero, List.set_cons_succ]
              refine wpAnyH_take (i := 30) (oi := ⟨some 47, _, _, _, _, _⟩) (v := ?qv30mc) rfl (by kernel_rfl) (by kernel_rfl) (by kernel_rfl) (fun _ _ _ h => h) (Or.inl ⟨by rfl, ?qy30mc⟩) hHeld ?qr30mc
              case qy30mc => (intro w' hSw; go_simp; try with_reducible rfl)
              try simp only [Act.put, List.setIfInBounds_toArray, List.set_cons_zero, List.set_cons_succ]
              refine wpAnyH_done (by kernel_rfl) ?_ _
              refine NoPanic.normal ?_
              have B5 := hb2.trans ((show Below wr.heap.size wr w4 from hHeld).mono hb2.size)
              clear hHeld kb b4
              go_wp2_with fail
              go_roundw
              case rel => exact ⟨k + 1, (b : Int), hlt, by go_num, rfl, N2.out, B5⟩
              case measure => simp [intOf]; omega
            | true =>
              have N2 := Lib.hid (show (k : Int) = bestI (pick (remL C pos) (k + 1)) by have := NX.out; rw [hc] at this; exact this)
              have LS2 := Lib.hid (show ∀ w, Calls Tryz.prog 33 #[kdA (x, v1), kdA (y, v2)] w fun e w' => e = .returned (.bool true) ∧ Below w.heap.size w w' from fun w => by have := LS.out w; simp only [hc] at this; exact this)
              clear NX hc LS
              refine wp_region_noPanic ?_
              refine wp_region_held_drew (S := fun w' => Below wr.heap.size wr w') (by kernel_rfl) (Below.refl _ _).drew (fun hHeld => ?_)
              generalize wr.drew = D at hHeld ⊢
              have kb : Below wr.heap.size wr D := hHeld
              refine wpAnyH_take (i := 0) (oi := ⟨some 17, _, _, _, _, _⟩) (v := ?qv0md) rfl (by kernel_rfl) (by kernel_rfl) (by kernel_rfl) (fun _ _ _ h => h) (Or.inl ⟨by rfl, ?qy0md⟩) hHeld ?qr0md
              case qy0md => (intro w' hSw; go_simp; try with_reducible rfl)
              try simp only [Act.put, List.setIfInBounds_toArray, List.set_cons_zero, List.set_cons_succ]
              refine wpAnyH_take (i := 1) (oi := ⟨some 18, _, _, _, _, _⟩) (v := ?qv1md) rfl (by kernel_rfl) (by kernel_rfl) (by kernel_rfl) (fun _ _ _ h => h) (Or.inl ⟨by rfl, ?qy1md⟩) hHeld ?qr1md
              case qy1md => (intro w' hSw; go_simp; try with_reducible rfl)
              try simp only [Act.put, List.setIfInBounds_toArray, List.set_cons_zero, List.set_cons_succ]
              refine wpAnyH_take (i := 2) (oi := ⟨some 19, _, _, _, _, _⟩) (v := ?qv2md) rfl (by kernel_rfl) (by kernel_rfl) (by kernel_rfl) (fun _ _ _ h => h) (Or.inl ⟨by rfl, ?qy2md⟩) hHeld ?qr2md
              case qy2md => (intro w' hSw; go_simp; try with_reducible rfl)
              try simp only [Act.put, List.setIfInBounds_toArray, List.set_cons_zero, List.set_cons_succ]
              refine wpAnyH_take (i := 3) (oi := ⟨some 20, _, _, _, _, _⟩) (v := ?qv3md) rfl (by kernel_rfl) (by kernel_rfl) (by kernel_rfl) (fun _ _ _ h => h) (Or.inl ⟨by rfl, ?qy3md⟩) hHeld ?qr3md
              case qy3md => (intro w' hSw; have q0 := (hSw.cell (p := ⟨w.heap.size, k, none⟩) hgl2).trans d0; have q1 := (hSw.cell (p := ⟨w.heap.size, b, none⟩) hgl2).trans d1; have r0 := (hSw.cell (p := ⟨b0, o0 + b, none⟩) hbl0).trans f0; have p0 := (hSw.cell (p := ⟨b1, o1 + P * 4, none⟩) hbl1).trans x0; have p1 := (hSw.cell (p := ⟨b1, o1 + P * 4 + 1, none⟩) hbl1).trans x1; have p2 := (hSw.cell (p := ⟨b1, o1 + P * 4 + 2, none⟩) hbl1).trans x2; have p3 := (hSw.cell (p := ⟨b1, o1 + P * 4 + 3, none⟩) hbl1).trans x3; have s0 := (hSw.cell (p := ⟨b2, o2 + P2 * 4, none⟩) hbl2).trans y0; have s1 := (hSw.cell (p := ⟨b2, o2 + P2 * 4 + 1, none⟩) hbl2).trans y1; have s2 := (hSw.cell (p := ⟨b2, o2 + P2 * 4 + 2, none⟩) hbl2).trans y2; have s3 := (hSw.cell (p := ⟨b2, o2 + P2 * 4 + 3, none⟩) hbl2).trans y3; go_simp; try with_reducible rfl)
              try simp only [Act.put, List.setIfInBounds_toArray, List.set_cons_zero, List.set_cons_succ]
              refine wpAnyH_take (i := 4) (oi := ⟨some 21, _, _, _, _, _⟩) (v := ?qv4md) rfl (by kernel_rfl) (by kernel_rfl) (by kernel_rfl) (fun _ _ _ h => h) (Or.inl ⟨by rfl, ?qy4md⟩) hHeld ?qr4md
              case qy4md => (intro w' hSw; go_simp; try with_reducible rfl)
              try simp only [Act.put, List.setIfInBounds_toArray, List.set_cons_zero, List.set_cons_succ]
              refine wpAnyH_take (i := 5) (oi := ⟨some 22, _, _, _, _, _⟩) (v := ?qv5md) rfl (by kernel_rfl) (by kernel_rfl) (by kernel_rfl) (fun _ _ _ h => h) (Or.inl ⟨by rfl, ?qy5md⟩) hHeld ?qr5md
              case qy5md => (intro w' hSw; go_simp; try with_reducible rfl)
              try simp only [Act.put, List.setIfInBounds_toArray, List.set_cons_zero, List.set_cons_succ]
              refine wpAnyH_take (i := 6) (oi := ⟨some 23, _, _, _, _, _⟩) (v := ?qv6md) rfl (by kernel_rfl) (by kernel_rfl) (by kernel_rfl) (fun _ _ _ h => h) (Or.inl ⟨by rfl, ?qy6md⟩) hHeld ?qr6md
              case qy6md => (intro w' hSw; go_simp; try with_reducible rfl)
              try simp only [Act.put, List.setIfInBounds_toArray, List.set_cons_zero, List.set_cons_succ]
              refine wpAnyH_take (i := 7) (oi := ⟨some 24, _, _, _, _, _⟩) (v := ?qv7md) rfl (by kernel_rfl) (by kernel_rfl) (by kernel_rfl) (fun _ _ _ h => h) (Or.inl ⟨by rfl, ?qy7md⟩) hHeld ?qr7md
              case qy7md => (intro w' hSw; go_simp; try with_reducible rfl)
              try simp only [Act.put, List.setIfInBounds_toArray, List.set_cons_zero, List.set_cons_succ]
              refine wpAnyH_take (i := 8) (oi := ⟨some 25, _, _, _, _, _⟩) (v := ?qv8md) rfl (by kernel_rfl) (by kernel_rfl) (by kernel_rfl) (fun _ _ _ h => h) (Or.inl ⟨by rfl, ?qy8md⟩) hHeld ?qr8md
              case qy8md => (intro w' hSw; go_simp; try with_reducible rfl)
              try simp only [Act.put, List.setIfInBounds_toArray, List.set_cons_zero, List.set_cons_succ]
              refine wpAnyH_take (i := 9) (oi := ⟨some 26, _, _, _, _, _⟩) (v := ?qv9md) rfl (by kernel_rfl) (by kernel_rfl) (by kernel_rfl) (fun _ _ _ h => h) (Or.inl ⟨by rfl, ?qy9md⟩) hHeld ?qr9md
              case qy9md => (intro w' hSw; go_simp; try with_reducible rfl)
              try simp only [Act.put, List.setIfInBounds_toArray, List.set_cons_zero, List.set_cons_succ]
              refine wpAnyH_take (i := 10) (oi := ⟨some 27, _, _, _, _, _⟩) (v := ?qv10md) rfl (by kernel_rfl) (by kernel_rfl) (by kernel_rfl) (fun _ _ _ h => h) (Or.inl ⟨by rfl, ?qy10md⟩) hHeld ?qr10md
              case qy10md => (intro w' hSw; go_simp; try with_reducible rfl)
              try simp only [Act.put, List.setIfInBounds_toArray, List.set_cons_zero, List.set_cons_succ]
              refine wpAnyH_take (i := 11) (oi := ⟨some 28, _, _, _, _, _⟩) (v := ?qv11md) rfl (by kernel_rfl) (by kernel_rfl) (by kernel_rfl) (fun _ _ _ h => h) (Or.inl ⟨by rfl, ?qy11md⟩) hHeld ?qr11md
              case qy11md => (intro w' hSw; go_simp; try with_reducible rfl)
              try simp only [Act.put, List.setIfInBounds_toArray, List.set_cons_zero, List.set_cons_succ]
              refine wpAnyH_take (i := 12) (oi := ⟨some 29, _, _, _, _, _⟩) (v := ?qv12md) rfl (by kernel_rfl) (by kernel_rfl) (by kernel_rfl) (fun _ _ _ h => h) (Or.inl ⟨by rfl, ?qy12md⟩) hHeld ?qr12md
              case qy12md => (intro w' hSw; go_simp; try with_reducible rfl)
              try simp only [Act.put, List.setIfInBounds_toArray, List.set_cons_zero, List.set_cons_succ]
              refine wpAnyH_take (i := 13) (oi := ⟨some 30, _, _, _, _, _⟩) (v := ?qv13md) rfl (by kernel_rfl) (by kernel_rfl) (by kernel_rfl) (fun _ _ _ h => h) (Or.inl ⟨by rfl, ?qy13md⟩) hHeld ?qr13md
              case qy13md => (intro w' hSw; go_simp; try with_reducible rfl)
              try simp only [Act.put, List.setIfInBounds_toArray, List.set_cons_zero, List.set_cons_succ]
              refine wpAnyH_take (i := 14) (oi := ⟨some 31, _, _, _, _, _⟩) (v := ?qv14md) rfl (by kernel_rfl) (by kernel_rfl) (by kernel_rfl) (fun _ _ _ h => h) (Or.inl ⟨by rfl, ?qy14md⟩) hHeld ?qr14md
              case qy14md => (intro w' hSw; go_simp; try with_reducible rfl)
              try simp only [Act.put, List.setIfInBounds_toArray, List.set_cons_zero, List.set_cons_succ]
              refine wpAnyH_take (i := 15) (oi := ⟨some 32, _, _, _, _, _⟩) (v := ?qv15md) rfl (by kernel_rfl) (by kernel_rfl) (by kernel_rfl) (fun _ _ _ h => h) (Or.inl ⟨by rfl, ?qy15md⟩) hHeld ?qr15md
              case qy15md => (intro w' hSw; have q0 := (hSw.cell (p := ⟨w.heap.size, k, none⟩) hgl2).trans d0; have q1 := (hSw.cell (p := ⟨w.heap.size, b, none⟩) hgl2).trans d1; have r0 := (hSw.cell (p := ⟨b0, o0 + b, none⟩) hbl0).trans f0; have p0 := (hSw.cell (p := ⟨b1, o1 + P * 4, none⟩) hbl1).trans x0; have p1 := (hSw.cell (p := ⟨b1, o1 + P * 4 + 1, none⟩) hbl1).trans x1; have p2 := (hSw.cell (p := ⟨b1, o1 + P * 4 + 2, none⟩) hbl1).trans x2; have p3 := (hSw.cell (p := ⟨b1, o1 + P * 4 + 3, none⟩) hbl1).trans x3; have s0 := (hSw.cell (p := ⟨b2, o2 + P2 * 4, none⟩) hbl2).trans y0; have s1 := (hSw.cell (p := ⟨b2, o2 + P2 * 4 + 1, none⟩) hbl2).trans y1; have s2 := (hSw.cell (p := ⟨b2, o2 + P2 * 4 + 2, none⟩) hbl2).trans y2; have s3 := (hSw.cell (p := ⟨b2, o2 + P2 * 4 + 3, none⟩) hbl2).trans y3; go_simp; try with_reducible rfl)
              try simp only [Act.put, List.setIfInBounds_toArray, List.set_cons_zero, List.set_cons_succ]
              refine wpAnyH_take (i := 16) (oi := ⟨some 33, _, _, _, _, _⟩) (v := ?qv16md) rfl (by kernel_rfl) (by kernel_rfl) (by kernel_rfl) (fun _ _ _ h => h) (Or.inl ⟨by rfl, ?qy16md⟩) hHeld ?qr16md
              case qy16md => (intro w' hSw; go_simp; try with_reducible rfl)
              try simp only [Act.put, List.setIfInBounds_toArray, List.set_cons_zero, List.set_cons_succ]
              refine wpAnyH_take (i := 17) (oi := ⟨some 34, _, _, _, _, _⟩) (v := ?qv17md) rfl (by kernel_rfl) (by kernel_rfl) (by kernel_rfl) (fun _ _ _ h => h) (Or.inl ⟨by rfl, ?qy17md⟩) hHeld ?qr17md
              case qy17md => (intro w' hSw; have q0 := (hSw.cell (p := ⟨w.heap.size, k, none⟩) hgl2).trans d0; have q1 := (hSw.cell (p := ⟨w.heap.size, b, none⟩) hgl2).trans d1; have r0 := (hSw.cell (p := ⟨b0, o0 + b, none⟩) hbl0).trans f0; have p0 := (hSw.cell (p := ⟨b1, o1 + P * 4, none⟩) hbl1).trans x0; have p1 := (hSw.cell (p := ⟨b1, o1 + P * 4 + 1, none⟩) hbl1).trans x1; have p2 := (hSw.cell (p := ⟨b1, o1 + P * 4 + 2, none⟩) hbl1).trans x2; have p3 := (hSw.cell (p := ⟨b1, o1 + P * 4 + 3, none⟩) hbl1).trans x3; have s0 := (hSw.cell (p := ⟨b2, o2 + P2 * 4, none⟩) hbl2).trans y0; have s1 := (hSw.cell (p := ⟨b2, o2 + P2 * 4 + 1, none⟩) hbl2).trans y1; have s2 := (hSw.cell (p := ⟨b2, o2 + P2 * 4 + 2, none⟩) hbl2).trans y2; have s3 := (hSw.cell (p := ⟨b2, o2 + P2 * 4 + 3, none⟩) hbl2).trans y3; go_simp; try with_reducible rfl)
              try simp only [Act.put, List.setIfInBounds_toArray, List.set_cons_zero, List.set_cons_succ]
              refine wpAnyH_take (i := 18) (oi := ⟨some 35, _, _, _, _, _⟩) (v := ?qv18md) rfl (by kernel_rfl) (by kernel_rfl) (by kernel_rfl) (fun _ _ _ h => h) (Or.inl ⟨by rfl, ?qy18md⟩) hHeld ?qr18md
              case qy18md => (intro w' hSw; go_simp; try with_reducible rfl)
              try simp only [Act.put, List.setIfInBounds_toArray, List.set_cons_zero, List.set_cons_succ]
              refine wpAnyH_take (i := 19) (oi := ⟨some 36, _, _, _, _, _⟩) (v := ?qv19md) rfl (by kernel_rfl) (by kernel_rfl) (by kernel_rfl) (fun _ _ _ h => h) (Or.inl ⟨by rfl, ?qy19md⟩) hHeld ?qr19md
              case qy19md => (intro w' hSw; go_simp; try with_reducible rfl)
              try simp only [Act.put, List.setIfInBounds_toArray, List.set_cons_zero, List.set_cons_succ]
              refine wpAnyH_take (i := 20) (oi := ⟨some 37, _, _, _, _, _⟩) (v := ?qv20md) rfl (by kernel_rfl) (by kernel_rfl) (by kernel_rfl) (fun _ _ _ h => h) (Or.inl ⟨by rfl, ?qy20md⟩) hHeld ?qr20md
              case qy20md => (intro w' hSw; go_simp; try with_reducible rfl)
              try simp only [Act.put, List.setIfInBounds_toArray, List.set_cons_zero, List.set_cons_succ]
              refine wpAnyH_take (i := 21) (oi := ⟨some 38, _, _, _, _, _⟩) (v := ?qv21md) rfl (by kernel_rfl) (by kernel_rfl) (by kernel_rfl) (fun _ _ _ h => h) (Or.inl ⟨by rfl, ?qy21md⟩) hHeld ?qr21md
              case qy21md => (intro w' hSw; have q0 := (hSw.cell (p := ⟨w.heap.size, k, none⟩) hgl2).trans d0; have q1 := (hSw.cell (p := ⟨w.heap.size, b, none⟩) hgl2).trans d1; have r0 := (hSw.cell (p := ⟨b0, o0 + b, none⟩) hbl0).trans f0; have p0 := (hSw.cell (p := ⟨b1, o1 + P * 4, none⟩) hbl1).trans x0; have p1 := (hSw.cell (p := ⟨b1, o1 + P * 4 + 1, none⟩) hbl1).trans x1; have p2 := (hSw.cell (p := ⟨b1, o1 + P * 4 + 2, none⟩) hbl1).trans x2; have p3 := (hSw.cell (p := ⟨b1, o1 + P * 4 + 3, none⟩) hbl1).trans x3; have s0 := (hSw.cell (p := ⟨b2, o2 + P2 * 4, none⟩) hbl2).trans y0; have s1 := (hSw.cell (p := ⟨b2, o2 + P2 * 4 + 1, none⟩) hbl2).trans y1; have s2 := (hSw.cell (p := ⟨b2, o2 + P2 * 4 + 2, none⟩) hbl2).trans y2; have s3 := (hSw.cell (p := ⟨b2, o2 + P2 * 4 + 3, none⟩) hbl2).trans y3; go_simp; try with_reducible rfl)
              try simp only [Act.put, List.setIfInBounds_toArray, List.set_cons_zero, List.set_cons_succ]
              refine wpAnyH_take (i := 22) (oi := ⟨some 39, _, _, _, _, _⟩) (v := ?qv22md) rfl (by kernel_rfl) (by kernel_rfl) (by kernel_rfl) (fun _ _ _ h => h) (Or.inl ⟨by rfl, ?qy22md⟩) hHeld ?qr22md
              case qy22md => (intro w' hSw; go_simp; try with_reducible rfl)
              try simp only [Act.put, List.setIfInBounds_toArray, List.set_cons_zero, List.set_cons_succ]
              refine wpAnyH_take (i := 23) (oi := ⟨some 40, _, _, _, _, _⟩) (v := ?qv23md) rfl (by kernel_rfl) (by kernel_rfl) (by kernel_rfl) (fun _ _ _ h => h) (Or.inl ⟨by rfl, ?qy23md⟩) hHeld ?qr23md
              case qy23md => (intro w' hSw; go_simp; try with_reducible rfl)
              try simp only [Act.put, List.setIfInBounds_toArray, List.set_cons_zero, List.set_cons_succ]
              refine wpAnyH_take (i := 24) (oi := ⟨some 41, _, _, _, _, _⟩) (v := ?qv24md) rfl (by kernel_rfl) (by kernel_rfl) (by kernel_rfl) (fun _ _ _ h => h) (Or.inl ⟨by rfl, ?qy24md⟩) hHeld ?qr24md
              case qy24md => (intro w' hSw; go_simp; try with_reducible rfl)
              try simp only [Act.put, List.setIfInBounds_toArray, List.set_cons_zero, List.set_cons_succ]
              refine wpAnyH_take (i := 25) (oi := ⟨some 42, _, _, _, _, _⟩) (v := ?qv25md) rfl (by kernel_rfl) (by kernel_rfl) (by kernel_rfl) (fun _ _ _ h => h) (Or.inl ⟨by rfl, ?qy25md⟩) hHeld ?qr25md
              case qy25md => (intro w' hSw; have q0 := (hSw.cell (p := ⟨w.heap.size, k, none⟩) hgl2).trans d0; have q1 := (hSw.cell (p := ⟨w.heap.size, b, none⟩) hgl2).trans d1; have r0 := (hSw.cell (p := ⟨b0, o0 + b, none⟩) hbl0).trans f0; have p0 := (hSw.cell (p := ⟨b1, o1 + P * 4, none⟩) hbl1).trans x0; have p1 := (hSw.cell (p := ⟨b1, o1 + P * 4 + 1, none⟩) hbl1).trans x1; have p2 := (hSw.cell (p := ⟨b1, o1 + P * 4 + 2, none⟩) hbl1).trans x2; have p3 := (hSw.cell (p := ⟨b1, o1 + P * 4 + 3, none⟩) hbl1).trans x3; have s0 := (hSw.cell (p := ⟨b2, o2 + P2 * 4, none⟩) hbl2).trans y0; have s1 := (hSw.cell (p := ⟨b2, o2 + P2 * 4 + 1, none⟩) hbl2).trans y1; have s2 := (hSw.cell (p := ⟨b2, o2 + P2 * 4 + 2, none⟩) hbl2).trans y2; have s3 := (hSw.cell (p := ⟨b2, o2 + P2 * 4 + 3, none⟩) hbl2).trans y3; go_simp; try with_reducible rfl)
              try simp only [Act.put, List.setIfInBounds_toArray, List.set_cons_zero, List.set_cons_succ]
              refine wpAnyH_take (i := 26) (oi := ⟨some 43, _, _, _, _, _⟩) (v := ?qv26md) rfl (by kernel_rfl) (by kernel_rfl) (by kernel_rfl) (fun _ _ _ h => h) (Or.inl ⟨by rfl, ?qy26md⟩) hHeld ?qr26md
              case qy26md => (intro w' hSw; go_simp; try with_reducible rfl)
              try simp only [Act.put, List.setIfInBounds_toArray, List.set_cons_zero, List.set_cons_succ]
              refine wpAnyH_take (i := 27) (oi := ⟨some 44, _, _, _, _, _⟩) (v := ?qv27md) rfl (by kernel_rfl) (by kernel_rfl) (by kernel_rfl) (fun _ _ _ h => h) (Or.inl ⟨by rfl, ?qy27md⟩) hHeld ?qr27md
              case qy27md => (intro w' hSw; have q0 := (hSw.cell (p := ⟨w.heap.size, k, none⟩) hgl2).trans d0; have q1 := (hSw.cell (p := ⟨w.heap.size, b, none⟩) hgl2).trans d1; have r0 := (hSw.cell (p := ⟨b0, o0 + b, none⟩) hbl0).trans f0; have p0 := (hSw.cell (p := ⟨b1, o1 + P * 4, none⟩) hbl1).trans x0; have p1 := (hSw.cell (p := ⟨b1, o1 + P * 4 + 1, none⟩) hbl1).trans x1; have p2 := (hSw.cell (p := ⟨b1, o1 + P * 4 + 2, none⟩) hbl1).trans x2; have p3 := (hSw.cell (p := ⟨b1, o1 + P * 4 + 3, none⟩) hbl1).trans x3; have s0 := (hSw.cell (p := ⟨b2, o2 + P2 * 4, none⟩) hbl2).trans y0; have s1 := (hSw.cell (p := ⟨b2, o2 + P2 * 4 + 1, none⟩) hbl2).trans y1; have s2 := (hSw.cell (p := ⟨b2, o2 + P2 * 4 + 2, none⟩) hbl2).trans y2; have s3 := (hSw.cell (p := ⟨b2, o2 + P2 * 4 + 3, none⟩) hbl2).trans y3; go_simp; try with_reducible rfl)
              try simp only [Act.put, List.setIfInBounds_toArray, List.set_cons_zero, List.set_cons_succ]
              refine wpAnyH_ready (rs := [28]) (by kernel_rfl) (by simp) ?_
              refine AllReadyH.cons (o := ⟨some 45, _, _, _, _, _⟩) rfl (fun K hK => ?_) AllReadyH.nil
              refine step_go (by rfl) 33 _ _ (by rfl) (fun _ _ => by kernel_rfl) _ (by rfl) (LS2.out _) ?_
              rintro e w4 ⟨rfl, b4⟩
              refine ⟨_, rfl, ?_⟩
              refine hK.out _ _ (kb.trans (b4.mono kb.size)) (fun hHeld => ?_)
              clear hK K
              try simp only [Act.put, List.setIfInBounds_toArray, List.set_cons_zero, List.set_cons_succ]
              refine wpAnyH_take (i := 29) (oi := ⟨some 46, _, _, _, _, _⟩) (v := ?qv29md) rfl (by kernel_rfl) (by kernel_rfl) (by kernel_rfl) (fun _ _ _ h => h) (Or.inl ⟨by rfl, ?qy29md⟩) hHeld ?qr29md
              case qy29md => (intro w' hSw; go_simp; try with_reducible rfl)
              try simp only [Act.put, List.setIfInBounds_toArray, List.set_cons_zero, List.set_cons_succ]
              refine wpAnyH_take (i := 30) (oi := ⟨some 47, _, _, _, _, _⟩) (v := ?qv30md) rfl (by kernel_rfl) (by kernel_rfl) (by kernel_rfl) (fun _ _ _ h => h) (Or.inl ⟨by rfl, ?qy30md⟩) hHeld ?qr30md
              case qy30md => (intro w' hSw; go_simp; try with_reducible rfl)
              try simp only [Act.put, List.setIfInBounds_toArray, List.set_cons_zero, List.set_cons_succ]
              refine wpAnyH_done (by kernel_rfl) ?_ _
              refine NoPanic.normal ?_
              have B5 := hb2.trans ((show Below wr.heap.size wr w4 from hHeld).mono hb2.size)
              clear hHeld kb b4
              go_wp2_with fail
              go_roundw
              case rel => exact ⟨k + 1, (k : Int), hlt, by go_num, rfl, N2.out, B5⟩
              case measure => simp [intOf]; omega
      · obtain rfl : k = n := by omega
        have t1 : decide ((k : Int) < (k : Int)) = false := by simp
        have RO := HO.out.below hb2
        cases hpk : pick (remL C pos) k with
        | none =>
          rw [hpk] at hB
          obtain rfl : B = -1 := hB
          have t3 : decide ((-1 : Int) < 0) = true := rfl
          have FIN := Lib.hid (show done.map Prod.fst = mergeF C by have := HM.out; rw [merge_end (by rw [HCL.out]; exact hpk), List.append_nil] at this; exact this)
          have HRO := Lib.hid RO
          clear hpk RO
          go_wp2_with fail
          go_ret
          exact ⟨_, _, rfl, HRO.out, FIN.out, BB⟩
        | some b =>
          rw [hpk] at hB
          obtain rfl : B = (b : Int) := hB
          obtain ⟨hbn, y, hy, hfl, hms⟩ := merge_step (by rw [HCL.out]; exact hpk)
          rw [HCL.out] at hbn
          obtain ⟨b0, o0, b2, o2, c2, v2, rfl, hb0, f0, g3, g4, hb2', y0, y1, y2, y3, hpt2⟩ := ITM.out b (pos b) y hbn hy
          have hyl := PTL.out b (pos b) y hy
          have hL2 := LEN.out b
          have hPb : pos b < (C.getD b []).length := (List.getElem?_eq_some_iff.1 hy).1
          have NX1 := Lib.hid (show ∀ z : KdV, z.1 = y → (done ++ [z]).map Prod.fst ++ mergeF (remL C (upd pos b)) = mergeF C from fun z hz => by
            have := HM.out
            rw [hms] at this
            rw [List.map_append, List.append_assoc, ← this]
            simp [hz])
          have NX2 := Lib.hid (show done.length + 1 + (remL C (upd pos b)).flatten.length = C.flatten.length by have := HD.out; omega)
          have NX3 := Lib.hid (show ∀ w', AtO w' w.heap.size k pos → AtO (w'.setCell ⟨w.heap.size, b, none⟩ (.int .i64 ((pos b : Int) + 1))) w.heap.size k (upd pos b) from fun w' h => by
            have := (World.ownsRow.stored h b (.int .i64 ((pos b : Int) + 1))).1
            rw [atL_set hbn] at this
            exact this)
          have NX4 := Lib.hid (show ∀ w', AtO w' w.heap.size k pos → w'.cell? ⟨w.heap.size, b, none⟩ = some (.int .i64 (pos b)) from fun w' h => h.cell hbn)
          have t3 : decide ((b : Int) < 0) = false := decide_eq_false (by omega)
          have j0 : (0 : Int) ≤ (b : Int) := by omega
          have j1 : (b : Int) < (k : Int) := by omega
          have k2 : (0 : Int) ≤ (pos b : Int) := by omega
          have k3 : (pos b : Int) < ((C.getD b []).length : Int) := by omega
          generalize (C.getD b []).length = L2 at *
          generalize pos b = P2 at hPb k2 k3 y0 y1 y2 y3 NX3 NX4
          obtain ⟨sa, sn, sc, rfl⟩ := hpt2.isSl
          have OWN := Lib.hid (show ∀ w', Below w.heap.size w w' → _ from fun w' hb => own_any (y, .slice sa sn sc) w' (hpt2.below hb) hyl)
          obtain ⟨kk, ki, kd, kp⟩ := y
          unfold kdA at OWN
          simp only at OWN y0 y1 y2
          have hdl : done.length ≤ 1000000 := by have := HD.out; have := HF.out; omega
          have carry : RunOwn wr.drew w.heap.size u2 done := RO.below (Below.refl _ _).drew
          unfold maxLen at g4
          clear hpk hy hpt2 RO hfl hms
          go_wp2_with fail
          refine wp_region_noPanic ?_
          refine wp_region_held_drew (S := fun w' => Below w.heap.size w w' ∧ AtO w' w.heap.size k pos) (by kernel_rfl) (⟨BB.drew, AT.below (Below.refl _ _).drew⟩) (fun hHeld => ?_)
          generalize wr.drew = D at hHeld carry ⊢
          have kb := hHeld
          refine wpAnyH_take (i := 0) (oi := ⟨some 53, _, _, _, _, _⟩) (v := ?qv0me) rfl (by kernel_rfl) (by kernel_rfl) (by kernel_rfl) (fun _ _ _ h => h) (Or.inl ⟨by rfl, ?qy0me⟩) hHeld ?qr0me
          case qy0me => (intro w' hSw; go_simp; try with_reducible rfl)
          try simp only [Act.put, List.setIfInBounds_toArray, List.set_cons_zero, List.set_cons_succ]
          refine wpAnyH_take (i := 1) (oi := ⟨some 54, _, _, _, _, _⟩) (v := ?qv1me) rfl (by kernel_rfl) (by kernel_rfl) (by kernel_rfl) (fun _ _ _ h => h) (Or.inl ⟨by rfl, ?qy1me⟩) hHeld ?qr1me
          case qy1me => (intro w' hSw; go_simp; try with_reducible rfl)
          try simp only [Act.put, List.setIfInBounds_toArray, List.set_cons_zero, List.set_cons_succ]
          refine wpAnyH_take (i := 2) (oi := ⟨some 55, _, _, _, _, _⟩) (v := ?qv2me) rfl (by kernel_rfl) (by kernel_rfl) (by kernel_rfl) (fun _ _ _ h => h) (Or.inl ⟨by rfl, ?qy2me⟩) hHeld ?qr2me
          case qy2me => (intro w' hSw; go_simp; try with_reducible rfl)
          try simp only [Act.put, List.setIfInBounds_toArray, List.set_cons_zero, List.set_cons_succ]
          refine wpAnyH_take (i := 3) (oi := ⟨some 56, _, _, _, _, _⟩) (v := ?qv3me) rfl (by kernel_rfl) (by kernel_rfl) (by kernel_rfl) (fun _ _ _ h => h) (Or.inl ⟨by rfl, ?qy3me⟩) hHeld ?qr3me
          case qy3me => (intro w' hSw; go_simp; try with_reducible rfl)
          try simp only [Act.put, List.setIfInBounds_toArray, List.set_cons_zero, List.set_cons_succ]
          refine wpAnyH_take (i := 4) (oi := ⟨some 57, _, _, _, _, _⟩) (v := ?qv4me) rfl (by kernel_rfl) (by kernel_rfl) (by kernel_rfl) (fun _ _ _ h => h) (Or.inl ⟨by rfl, ?qy4me⟩) hHeld ?qr4me
          case qy4me => (intro w' hSw; have q1 := NX4.out _ hSw.2; have r0 := (hSw.1.cell (p := ⟨b0, o0 + b, none⟩) hb0).trans f0; have s0 := (hSw.1.cell (p := ⟨b2, o2 + P2 * 4, none⟩) hb2').trans y0; have s1 := (hSw.1.cell (p := ⟨b2, o2 + P2 * 4 + 1, none⟩) hb2').trans y1; have s2 := (hSw.1.cell (p := ⟨b2, o2 + P2 * 4 + 2, none⟩) hb2').trans y2; have s3 := (hSw.1.cell (p := ⟨b2, o2 + P2 * 4 + 3, none⟩) hb2').trans y3; go_simp; try with_reducible rfl)
          try simp only [Act.put, List.setIfInBounds_toArray, List.set_cons_zero, List.set_cons_succ]
          refine wpAnyH_take (i := 5) (oi := ⟨some 58, _, _, _, _, _⟩) (v := ?qv5me) rfl (by kernel_rfl) (by kernel_rfl) (by kernel_rfl) (fun _ _ _ h => h) (Or.inl ⟨by rfl, ?qy5me⟩) hHeld ?qr5me
          case qy5me => (intro w' hSw; go_simp; try with_reducible rfl)
          try simp only [Act.put, List.setIfInBounds_toArray, List.set_cons_zero, List.set_cons_succ]
          refine wpAnyH_take (i := 6) (oi := ⟨some 59, _, _, _, _, _⟩) (v := ?qv6me) rfl (by kernel_rfl) (by kernel_rfl) (by kernel_rfl) (fun _ _ _ h => h) (Or.inl ⟨by rfl, ?qy6me⟩) hHeld ?qr6me
          case qy6me => (intro w' hSw; go_simp; try with_reducible rfl)
          try simp only [Act.put, List.setIfInBounds_toArray, List.set_cons_zero, List.set_cons_succ]
          refine wpAnyH_take (i := 7) (oi := ⟨some 60, _, _, _, _, _⟩) (v := ?qv7me) rfl (by kernel_rfl) (by kernel_rfl) (by kernel_rfl) (fun _ _ _ h => h) (Or.inl ⟨by rfl, ?qy7me⟩) hHeld ?qr7me
          case qy7me => (intro w' hSw; go_simp; try with_reducible rfl)
          try simp only [Act.put, List.setIfInBounds_toArray, List.set_cons_zero, List.set_cons_succ]
          refine wpAnyH_take (i := 8) (oi := ⟨some 61, _, _, _, _, _⟩) (v := ?qv8me) rfl (by kernel_rfl) (by kernel_rfl) (by kernel_rfl) (fun _ _ _ h => h) (Or.inl ⟨by rfl, ?qy8me⟩) hHeld ?qr8me
          case qy8me => (intro w' hSw; have q1 := NX4.out _ hSw.2; have r0 := (hSw.1.cell (p := ⟨b0, o0 + b, none⟩) hb0).trans f0; have s0 := (hSw.1.cell (p := ⟨b2, o2 + P2 * 4, none⟩) hb2').trans y0; have s1 := (hSw.1.cell (p := ⟨b2, o2 + P2 * 4 + 1, none⟩) hb2').trans y1; have s2 := (hSw.1.cell (p := ⟨b2, o2 + P2 * 4 + 2, none⟩) hb2').trans y2; have s3 := (hSw.1.cell (p := ⟨b2, o2 + P2 * 4 + 3, none⟩) hb2').trans y3; go_simp; try with_reducible rfl)
          try simp only [Act.put, List.setIfInBounds_toArray, List.set_cons_zero, List.set_cons_succ]
          refine wpAnyH_take (i := 9) (oi := ⟨some 62, _, _, _, _, _⟩) (v := ?qv9me) rfl (by kernel_rfl) (by kernel_rfl) (by kernel_rfl) (fun _ _ _ h => h) (Or.inl ⟨by rfl, ?qy9me⟩) hHeld ?qr9me
          case qy9me => (intro w' hSw; go_simp; try with_reducible rfl)
          try simp only [Act.put, List.setIfInBounds_toArray, List.set_cons_zero, List.set_cons_succ]
          refine wpAnyH_take (i := 10) (oi := ⟨some 63, _, _, _, _, _⟩) (v := ?qv10me) rfl (by kernel_rfl) (by kernel_rfl) (by kernel_rfl) (fun _ _ _ h => h) (Or.inl ⟨by rfl, ?qy10me⟩) hHeld ?qr10me
          case qy10me => (intro w' hSw; have q1 := NX4.out _ hSw.2; have r0 := (hSw.1.cell (p := ⟨b0, o0 + b, none⟩) hb0).trans f0; have s0 := (hSw.1.cell (p := ⟨b2, o2 + P2 * 4, none⟩) hb2').trans y0; have s1 := (hSw.1.cell (p := ⟨b2, o2 + P2 * 4 + 1, none⟩) hb2').trans y1; have s2 := (hSw.1.cell (p := ⟨b2, o2 + P2 * 4 + 2, none⟩) hb2').trans y2; have s3 := (hSw.1.cell (p := ⟨b2, o2 + P2 * 4 + 3, none⟩) hb2').trans y3; go_simp; try with_reducible rfl)
          try simp only [Act.put, List.setIfInBounds_toArray, List.set_cons_zero, List.set_cons_succ]
          refine wpAnyH_ready (rs := [11]) (by kernel_rfl) (by simp) ?_
          refine AllReadyH.cons (o := ⟨some 64, _, _, _, _, _⟩) rfl (fun K hK => ?_) AllReadyH.nil
          refine step_go (by rfl) 30 _ _ (by rfl) (fun _ _ => by kernel_rfl) _ (by rfl) (OWN.out _ kb.1) ?_
          rintro e w3 ⟨v3, rfl, o3, b3⟩
          refine ⟨_, rfl, ?_⟩
          obtain ⟨ta, tn, tc, rfl⟩ := o3.isSl
          have R3 := carry.below b3
          have O3 : OwnPt w3 w.heap.size (.slice ta tn tc) kp := own_base o3 kb.1.size
          refine hK.out _ _ (⟨kb.1.trans (b3.mono kb.1.size), AtO.below kb.2 b3⟩) (fun hHeld => ?_)
          clear hK K
          try simp only [Act.put, List.setIfInBounds_toArray, List.set_cons_zero, List.set_cons_succ]
          refine wpAnyH_ready (rs := [12]) (by kernel_rfl) (by simp) ?_
          refine AllReadyH.cons (o := ⟨some 65, _, _, _, _, _⟩) rfl (fun K hK => ?_) AllReadyH.nil
          go_simp
          refine hK.out _ _ (⟨hHeld.1.alloc hHeld.1.size _, AtO.below hHeld.2 ((Below.refl _ _).alloc (Nat.le_refl _) _)⟩) (fun hHeld => ?_)
          clear hK K
          try simp only [Act.put, List.setIfInBounds_toArray, List.set_cons_zero, List.set_cons_succ]
          refine wpAnyH_ready (rs := [13]) (by kernel_rfl) (by simp) ?_
          refine AllReadyH.cons (o := ⟨some 66, _, _, _, _, _⟩) rfl (fun K hK => ?_) AllReadyH.nil
          have bA : Below w3.heap.size w3 (w3.alloc (.cells #[.int .u64 kk, .int .i64 ki, .int .i64 kd, .slice ta tn tc] 53)) := (Below.refl _ _).alloc (Nat.le_refl _) _
          have R4 := R3.below bA
          have O4 := O3.below bA
          have LIT := rd_alloc w3 #[.int .u64 kk, .int .i64 ki, .int .i64 kd, .slice ta tn tc] 53 (0, 0) 1 (by simp [maxLen])
          refine step_append_g rfl _ _ 50 rfl w.heap.size 53 _ 4 48 Tryz.underlying50 info_kdS rfl (by decide) _ done.length (kdR done) rfl R4.1 _ 1 (kdR [(⟨kk, ki, kd, kp⟩, .slice ta tn tc)]) rfl LIT rfl (kdR_one _ (fun x hx => by obtain rfl := List.mem_singleton.1 hx; exact ⟨_, _, _, rfl⟩)) (by unfold maxLen; omega) (by omega) hHeld.1.size ?_
          intro v5 w5 o5 f5
          refine hK.out _ _ ⟨hHeld.1.trans f5.below, f5.ownT R4.1 (by decide) hHeld.2⟩ (fun hHeld => ?_)
          clear hK K
          try simp only [Act.put, List.setIfInBounds_toArray, List.set_cons_zero, List.set_cons_succ]
          refine wpAnyH_take (i := 14) (oi := ⟨some 2, _, _, _, _, _⟩) (v := ?qv14me) rfl (by kernel_rfl) (by kernel_rfl) (by kernel_rfl) (fun _ _ _ h => h) (Or.inl ⟨by rfl, ?qy14me⟩) hHeld ?qr14me
          case qy14me => (intro w' hSw; go_simp; try with_reducible rfl)
          try simp only [Act.put, List.setIfInBounds_toArray, List.set_cons_zero, List.set_cons_succ]
          refine wpAnyH_done (by kernel_rfl) ?_ _
          refine NoPanic.normal ?_
          have R5 : RunOwn w5 w.heap.size v5 (done ++ [(⟨kk, ki, kd, kp⟩, .slice ta tn tc)]) := ⟨by rw [kdR_append, List.length_append]; exact o5, fun x hx => by
            rcases List.mem_append.1 hx with hx | hx
            · exact f5.ownT R4.1 (by decide) (R4.2 x hx)
            · obtain rfl := List.mem_singleton.1 hx
              exact f5.ownT R4.1 (by decide) O4⟩
          obtain ⟨B5, A5⟩ := hHeld
          have q5 := NX4.out _ A5
          have hf5 := World.ownsRow.frozenAt A5 b
          have A6 := Lib.hid (NX3.out _ A5)
          have F6 := FrmG.setCell w5 w.heap.size k k b (.int .i64 ((P2 : Int) + 1))
          have R6 := Lib.hid (R5.frmT F6 A5 (by decide) (by decide))
          have B6 := Lib.hid (B5.trans F6.below)
          have FN := Lib.hid (NX1.out (⟨kk, ki, kd, kp⟩, .slice ta tn tc) rfl)
          have hol := HO.out.len
          have hol5 := R5.len
          rw [List.length_append] at hol5
          have HDD := HD.out
          clear kb carry R3 R4 O3 O4 o3 o5 f5 b3 bA LIT R5 A5 F6 NX1 NX3 NX4 OWN
          go_wp2_with fail
          go_roundw
          case rel => exact ⟨upd pos b, _, A6.out, R6.out, FN.out, by rw [List.length_append]; exact NX2.out, B6.out⟩
          case measure => simp at hol5; omega
end Go.Proofs.YtoggbmfjjenbaaaGreatDoor
