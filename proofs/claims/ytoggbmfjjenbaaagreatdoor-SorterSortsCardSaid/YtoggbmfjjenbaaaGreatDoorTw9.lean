/- sorter.Runs. Merging rows in plain Lean: what it picks; of sorted rows it makes the sorted row. What is left of rows behind so many items each; one step of merging. -/
import Derived.Test.YtoggbmfjjenbaaaGreatDoorTw8
import Derived.Test.YtoggbmfjjenbaaaGreatDoorTw1
set_option linter.unusedSimpArgs false
set_option linter.unusedVariables false
namespace Go.Proofs.YtoggbmfjjenbaaaGreatDoor
/-! SRuns -/
section
open Go.RowKit

/-- v reads as a row of items with keys. -/
def RunRd (w : World) (v : Value) (r : List KdV) : Prop := Rd w v r.length (kdR r) ∧ ∀ x ∈ r, Pts w x.2 x.1.pts
/-- v is a row of items with keys of the call's own, their points too. -/
def RunOwn (w : World) (B : Nat) (v : Value) (r : List KdV) : Prop := w.ownsRow B 53 4 v r.length (kdR r) ∧ ∀ x ∈ r, OwnPt w B x.2 x.1.pts
theorem RunOwn.rd {w : World} {B : Nat} {v : Value} {r : List KdV} (h : RunOwn w B v r) : RunRd w v r := ⟨Rd.of_own h.1, fun x hx => (h.2 x hx).pts⟩
theorem RunOwn.below {w w' : World} {B : Nat} {v : Value} {r : List KdV} (h : RunOwn w B v r) (hb : Below w.heap.size w w') : RunOwn w' B v r := ⟨own_below' h.1 hb, fun x hx => (h.2 x hx).below hb⟩
theorem RunOwn.base {w : World} {B B' : Nat} {v : Value} {r : List KdV} (h : RunOwn w B v r) (hb : B' ≤ B) : RunOwn w B' v r := ⟨own_base h.1 hb, fun x hx => own_base (h.2 x hx) hb⟩
theorem RunRd.below {w w' : World} {v : Value} {r : List KdV} (h : RunRd w v r) (hb : Below w.heap.size w w') : RunRd w' v r := ⟨h.1.below hb, fun x hx => (h.2 x hx).below hb⟩
theorem RunOwn.nil (w : World) (B : Nat) : RunOwn w B (.slice none 0 0) [] := ⟨World.ownsRow_nil _ _ _ _, fun x hx => by cases hx⟩
/-- where something of another type turns, points stay -/
theorem OwnPt.onlG {w w' : World} {B g : Nat} {v : Value} {l : List Pt} (h : OwnPt w B v l) (f : OnlG g w w') {c : Array Value} {T : TypeId} {m : Nat × Nat} (hg : w.heap[g]? = some (.cells c T m)) (hT : T ≠ 67) : OwnPt w' B v l := by
  refine ⟨h.1, ?_⟩
  rcases h.2 with hn | ⟨g', cap, cur, e, hbg, hg', q⟩
  · exact .inl hn
  · refine .inr ⟨g', cap, cur, e, hbg, ?_, q⟩
    refine (f.kept g' (fun e => ?_) (lt_of_block hg')).trans hg'
    rw [e, hg] at hg'
    simp at hg'
    exact hT hg'.2.1
theorem RunOwn.frmT {e0 : TypeId} {s0 n0 b0 : Nat} {xs0 : List Value} {v0 : Value} {B B' : Nat} {w w' : World} (h : FrmG v0 B' w w') (h0 : w.ownsRow b0 e0 s0 v0 n0 xs0) (h1 : 53 ≠ e0) (h2 : 67 ≠ e0) {v : Value} {r : List KdV} (ho : RunOwn w B v r) : RunOwn w' B v r :=
  ⟨h.ownT h0 h1 ho.1, fun x hx => h.ownT h0 h2 (ho.2 x hx)⟩
theorem kdR_one (r : List KdV) (h : ∀ x ∈ r, IsSl x.2) : ∀ u ∈ kdR r, u.oneCell' = true := by
  intro u hu
  obtain ⟨x, hx, hu⟩ := List.mem_flatMap.1 hu
  simp only [kdC, List.mem_cons, List.not_mem_nil, or_false] at hu
  rcases hu with rfl | rfl | rfl | rfl
  · rfl
  · rfl
  · rfl
  · exact (h x hx).one
theorem info_kdS : (Tryz.prog.info? 53).map (fun i => (i.zero, i.size, i.bytes)) = some (some (.agg #[.int .u64 0, .int .i64 0, .int .i64 0, .slice none 0 0]), 4, 48) := by kernel_rfl
theorem info_runS : (Tryz.prog.info? 50).map (fun i => (i.zero, i.size, i.bytes)) = some (some (.slice none 0 0), 1, 24) := by kernel_rfl
/-- what a readable row says, cell by cell -/
theorem RunRd.open {w : World} {v : Value} {r : List KdV} (h : RunRd w v r) : ∃ ao c, v = .slice ao r.length c ∧ r.length ≤ c ∧ c ≤ maxLen ∧ (ao = none → c = 0) ∧
    ∀ i x, r[i]? = some x → ∃ b off, ao = some ⟨b, off, none⟩ ∧ b < w.heap.size ∧ w.cell? ⟨b, off + i * 4, none⟩ = some (.int .u64 x.1.key) ∧ w.cell? ⟨b, off + i * 4 + 1, none⟩ = some (.int .i64 x.1.id) ∧ w.cell? ⟨b, off + i * 4 + 2, none⟩ = some (.int .i64 x.1.kind) ∧ w.cell? ⟨b, off + i * 4 + 3, none⟩ = some x.2 := by
  obtain ⟨ao, c, hv, h1, h2, h0, h3⟩ := h.1
  refine ⟨ao, c, hv, h1, h2, h0, fun i x hx => ?_⟩
  obtain ⟨hi, rfl⟩ := List.getElem?_eq_some_iff.1 hx
  have hl := kdR_length r
  have c := fun j (hj : j < 4) => kdR_get r i hi j hj
  have each : ∀ j, j < 4 → ∃ b off, ao = some ⟨b, off, none⟩ ∧ b < w.heap.size ∧ w.cell? ⟨b, off + (i * 4 + j), none⟩ = (kdC r[i])[j]? := fun j hj => by
    obtain ⟨b, off, e, hb, hc⟩ := h3 (i * 4 + j) (by omega)
    refine ⟨b, off, e, hb, ?_⟩
    rw [hc, ← c j hj, List.getElem?_eq_getElem]
  obtain ⟨b, off, e, hb, c0⟩ := each 0 (by omega)
  obtain ⟨b1, o1, e1, _, c1⟩ := each 1 (by omega)
  obtain ⟨b2, o2, e2, _, c2⟩ := each 2 (by omega)
  obtain ⟨b3, o3, e3, _, c3⟩ := each 3 (by omega)
  rw [e] at e1 e2 e3
  cases e1; cases e2; cases e3
  exact ⟨b, off, e, hb, c0, c1, c2, c3⟩

/-- the runs: pieces of so many, each sorted -/
def runsL (s : Nat) (l : List KdL) (i : Nat) : List (List KdL) := (List.range i).map fun j => ((l.drop (j * s)).take s).mergeSort leK
theorem runsL_succ (s : Nat) (l : List KdL) (i : Nat) : runsL s l (i + 1) = runsL s l i ++ [((l.drop (i * s)).take s).mergeSort leK] := by simp [runsL, List.range_succ]
/-- v is a row of rows of the call's own. -/
def RunsOwn (w : World) (B : Nat) (v : Value) (rs : List (List KdV × Value)) : Prop := w.ownsRow B 50 1 v rs.length (rs.map Prod.snd) ∧ ∀ q ∈ rs, RunOwn w B q.2 q.1
theorem RunsOwn.below {w w' : World} {B : Nat} {v : Value} {rs : List (List KdV × Value)} (h : RunsOwn w B v rs) (hb : Below w.heap.size w w') : RunsOwn w' B v rs := ⟨own_below' h.1 hb, fun q hq => (h.2 q hq).below hb⟩
abbrev conts (rs : List (List KdV × Value)) : List (List KdL) := rs.map fun q => q.1.map Prod.fst

theorem Runs_err (v : Value) (size : Int) (w : World) (h : size < 1 ∨ 1000 < size) :
    Calls Tryz.prog 15 #[v, .int .i64 size] w fun e w' => e = .returned (.tuple #[.slice none 0 0, .iface 60 (.int .i64 1)]) ∧ w = w' := by
  by_cases h1 : size < 1
  · have t1 := decide_eq_true h1
    clear h
    go_enter Tryz.func15, Tryz.ntmps15
    go_wp2_with fail
    go_ret2
    exact ⟨rfl, rfl⟩
  · have t1 := decide_eq_false h1
    have t2 := decide_eq_true (show 1000 < size by omega)
    clear h
    go_enter Tryz.func15, Tryz.ntmps15
    go_wp2_with fail
    go_ret2
    exact ⟨rfl, rfl⟩
theorem Runs_nil (s : Nat) (w : World) (h1 : 1 ≤ s) (h2 : s ≤ 1000) :
    Calls Tryz.prog 15 #[.slice none 0 0, .int .i64 s] w fun e w' => e = .returned (.tuple #[.slice none 0 0, .nilIface]) ∧ w = w' := by
  have t1 : decide ((s : Int) < 1) = false := by simp; omega
  have t2 : decide ((1000 : Int) < (s : Int)) = false := by simp; omega
  go_enter Tryz.func15, Tryz.ntmps15
  go_wp2_with fail
  go_loopw [4, 6] (fun v x wr => v = .slice none 0 0 ∧ x = .int .i64 0 ∧ wr = w) (fun _ _ _ => 0)
  case atStart => exact ⟨rfl, rfl, by first | rfl | trivial⟩
  case round =>
    obtain ⟨rfl, rfl, rfl⟩ := hrel
    go_wp2_with fail
    go_ret2
    exact ⟨rfl, rfl⟩

set_option maxRecDepth 100000 in
set_option maxHeartbeats 8000000 in
theorem Runs_any (v : Value) (r : List KdV) (s : Nat) (w : World) (h : RunRd w v r) (hp : ∀ x ∈ r, x.1.pts.length ≤ 1000000) (hl : r.length ≤ 10000) (hs1 : 1 ≤ s) (hs2 : s ≤ 1000) :
    Calls Tryz.prog 15 #[v, .int .i64 s] w fun e w' => ∃ v' rs, e = .returned (.tuple #[v', .nilIface]) ∧ RunsOwn w' w.heap.size v' rs ∧ conts rs = runsL s (r.map Prod.fst) ((r.length + s - 1) / s) ∧ Below w.heap.size w w' := by
  have t1 : decide ((s : Int) < 1) = false := by simp; omega
  have t2 : decide ((1000 : Int) < (s : Int)) = false := by simp; omega
  have hpts := h.2
  obtain ⟨ao, c, rfl, hc1, hc2, _, hc3⟩ := h.open
  have HC := Lib.hid hc3
  have HP := Lib.hid (show ∀ i x, r[i]? = some x → ∀ w', Below w.heap.size w w' → Pts w' x.2 x.1.pts from fun i x hx w' hb => (hpts x (List.mem_of_getElem? hx)).below hb)
  have HL := Lib.hid (show ∀ i x, r[i]? = some x → x.1.pts.length ≤ 1000000 from fun i x hx => hp x (List.mem_of_getElem? hx))
  unfold maxLen at hc2
  obtain ⟨n, hn⟩ : ∃ n, n = r.length := ⟨_, rfl⟩
  rw [← hn] at hc1 hl ⊢
  have HN := Lib.hid hn
  clear h hp hc3 hpts hn
  go_enter Tryz.func15, Tryz.ntmps15
  go_wp2_with fail
  go_loopw [4, 6] (fun vo xv wr => ∃ (i x : Nat) (rs : List (List KdV × Value)), x = i * s ∧ x < n + s ∧ xv = .int .i64 x ∧ rs.length = i ∧ conts rs = runsL s (r.map Prod.fst) i ∧ RunsOwn wr w.heap.size vo rs ∧ Below w.heap.size w wr) (fun _ xv _ => n + s - (intOf xv).toNat)
  case atStart => exact ⟨0, 0, [], by omega, by omega, rfl, rfl, rfl, ⟨World.ownsRow_nil _ _ _ _, fun q hq => by cases hq⟩, Below.refl _ _⟩
  case round =>
    obtain ⟨i, x, rs, hx, hxn, rfl, hrl, hct, ho, hb⟩ := hrel
    by_cases hlt : x < n
    · have t3 : decide ((x : Int) < (n : Int)) = true := by simp; omega
      obtain ⟨m, hm⟩ : ∃ m, m = min s (n - x) := ⟨_, rfl⟩
      have hm1 : 1 ≤ m ∧ m ≤ s ∧ x + m ≤ n := by omega
      obtain ⟨y, hy⟩ : ∃ y, y = x + m := ⟨_, rfl⟩
      obtain ⟨z, hz⟩ : ∃ z, z = x + s := ⟨_, rfl⟩
      have q1 : (x : Int) + (s : Int) = (z : Int) := by omega
      have wz : IntKind.i64.wrap (z : Int) = (z : Int) := IntWalk.i64_in _ (by omega)
      obtain ⟨b, off, rfl, hbl, _⟩ := HC.out x (r[x]'(by rw [← HN.out]; omega)) (List.getElem?_eq_getElem _)
      have HO := Lib.hid ho
      have HX := Lib.hid hx
      have HM := Lib.hid hm
      have HY := Lib.hid hy
      have HRL := Lib.hid hrl
      have HCT := Lib.hid hct
      have hzn : y ≤ n ∧ x ≤ y ∧ z ≤ 20000 := by omega
      clear ho hx hm hy hrl hct hz
      have RS := Lib.hid (fun k (hk : k < m) => List.getElem?_eq_getElem (l := r) (i := x + k) (by rw [← HN.out]; omega))
      have HNIL := Lib.hid (show ∀ i x, r[i]? = some x → IsSl x.2 from fun i x hx => (HP.out i x hx w (Below.refl _ _)).isSl)
      obtain ⟨wo, hwo⟩ : ∃ wo, wo = wr := ⟨_, rfl⟩
      subst hwo
      have hbs := hb.size
      rcases Nat.lt_or_ge n z with hnz | hnz
      all_goals
        try have e5 : z - x = m := by have := HM.out; omega
        try have e6 : n - x = m := by have := HM.out; omega
        go_wp2_with fail
        go_loopw [7, 34] (fun rv kv wr2 => ∃ (k : Nat) (rr : List KdV), k ≤ m ∧ kv = .int .i64 k ∧ rr.map Prod.fst = ((r.drop x).take k).map Prod.fst ∧ RunOwn wr2 wo.heap.size rv rr ∧ Below wo.heap.size wo wr2) (fun _ kv _ => m - (intOf kv).toNat)
        case atStart => exact ⟨0, [], Nat.zero_le _, rfl, by simp, RunOwn.nil _ _, Below.refl _ _⟩
        case round =>
          obtain ⟨k, rr, hk, rfl, hcc, hro, hb2⟩ := hrel
          have BB := hb.trans (hb2.mono hbs)
          have hrl := congrArg List.length hcc
          rw [List.length_map, List.length_map, List.length_take, List.length_drop, ← HN.out] at hrl
          have hrl' : rr.length = k := by omega
          have HRR := Lib.hid hrl'
          clear hrl hrl'
          by_cases hlt2 : k < m
          · have t4 : decide ((k : Int) < (m : Int)) = true := by simp; omega
            have hxk := RS.out k hlt2
            have hdk : (r.drop x).take (k + 1) = (r.drop x).take k ++ [r[x + k]'(by rw [← HN.out]; omega)] := by
              rw [List.take_succ_eq_append_getElem (by rw [List.length_drop, ← HN.out]; omega), List.getElem_drop]
            generalize r[x + k]'(by rw [← HN.out]; omega) = xk at *
            obtain ⟨b', off', e', hbl', c0, c1, c2, c3⟩ := HC.out _ _ hxk
            simp only [Option.some.injEq, Addr.mk.injEq, and_true] at e'
            obtain ⟨rfl, rfl⟩ := e'
            rw [show off + (x + k) * 4 = off + x * 4 + k * 4 by omega] at c0 c1 c2 c3
            have d0 := (BB.cell (p := ⟨b, off + x * 4 + k * 4, none⟩) hbl').trans c0
            have d1 := (BB.cell (p := ⟨b, off + x * 4 + k * 4 + 1, none⟩) hbl').trans c1
            have d2 := (BB.cell (p := ⟨b, off + x * 4 + k * 4 + 2, none⟩) hbl').trans c2
            have d3 := (BB.cell (p := ⟨b, off + x * 4 + k * 4 + 3, none⟩) hbl').trans c3
            have hP1 := HP.out _ _ hxk
            have hL1 := HL.out _ _ hxk
            have hS1 := HNIL.out _ _ hxk
            obtain ⟨⟨kk, ki, kd, kp⟩, kv⟩ := xk
            simp only at d0 d1 d2 d3 hP1 hL1 hS1
            obtain ⟨sa, sn, sc, rfl⟩ := hS1
            have BA := BB.alloc BB.size (.cells #[.int .u64 kk, .int .i64 ki, .int .i64 kd, .slice sa sn sc] 53)
            have bA : Below wr.heap.size wr (wr.alloc (.cells #[.int .u64 kk, .int .i64 ki, .int .i64 kd, .slice sa sn sc] 53)) := (Below.refl _ _).alloc (Nat.le_refl _) _
            have OWN := Lib.hid (own_any (⟨kk, ki, kd, kp⟩, .slice sa sn sc) (wr.alloc (.cells #[.int .u64 kk, .int .i64 ki, .int .i64 kd, .slice sa sn sc] 53)) (hP1 _ BA) hL1)
            have HRO := Lib.hid hro
            have HDK := Lib.hid hdk
            have HCC := Lib.hid hcc
            have i0 : (0 : Int) ≤ (k : Int) := by omega
            have i1 : (k : Int) < (m : Int) := by omega
            clear c0 c1 c2 c3 hxk hro hdk hcc hP1 hL1
            unfold kdA at OWN
            simp only at OWN
            go_wp2_with fail
            refine OWN.out.mono ?_
            rintro e w3 ⟨v3, rfl, o3, b3⟩
            obtain ⟨ta, tn, tc, rfl⟩ := o3.isSl
            have b23 := bA.trans (b3.mono bA.size)
            have R3 := HRO.out.below b23
            have B3 := hb2.trans (b23.mono hb2.size)
            have o3' : OwnPt w3 wo.heap.size (.slice ta tn tc) kp := own_base o3 (Nat.le_trans hb2.size bA.size)
            have b4 : Below w3.heap.size w3 (w3.alloc (.cells #[.int .u64 kk, .int .i64 ki, .int .i64 kd, .slice ta tn tc] 53)) := (Below.refl _ _).alloc (Nat.le_refl _) _
            have R4 := R3.below b4
            have o4 := o3'.below b4
            have B4 := B3.trans (b4.mono B3.size)
            have LIT := Lib.hid (rd_alloc w3 #[.int .u64 kk, .int .i64 ki, .int .i64 kd, .slice ta tn tc] 53 (0, 0) 1 (by simp [maxLen]))
            have HR4 := Lib.hid R4
            have HO4 := Lib.hid o4
            have hm4 : m ≤ 20000 := by omega
            clear OWN o3 b3 o3' R3 R4 o4 b23
            go_wp2_with (at_builtin; refine wpList_append_g rfl _ _ 50 rfl wo.heap.size 53 _ 4 48 Tryz.underlying50 info_kdS rfl (by decide) _ rr.length (kdR rr) rfl HR4.out.1 _ 1 (kdR [(⟨kk, ki, kd, kp⟩, .slice ta tn tc)]) rfl LIT.out rfl (kdR_one _ (fun x hx => by obtain rfl := List.mem_singleton.1 hx; exact ⟨_, _, _, rfl⟩)) ?c1 ?c2 ?c3 ?_)
            case c1 => rw [HRR.out]; unfold maxLen; omega
            case c2 => rw [HRR.out]; omega
            case c3 => exact B4.size
            intro v5 w5 o5 f5
            have B5 := B4.trans f5.below
            have R5 := Lib.hid (show RunOwn w5 wo.heap.size v5 (rr ++ [(⟨kk, ki, kd, kp⟩, .slice ta tn tc)]) from ⟨by rw [kdR_append, List.length_append]; exact o5, fun x hx => by
              rcases List.mem_append.1 hx with hx | hx
              · exact f5.ownT HR4.out.1 (by decide) (HR4.out.2 x hx)
              · obtain rfl := List.mem_singleton.1 hx
                exact f5.ownT HR4.out.1 (by decide) HO4.out⟩)
            clear o5 f5 HR4 HO4 LIT
            go_wp2_with fail
            go_roundw
            case rel => exact ⟨k + 1, _, hlt2, by go_num, by rw [HDK.out, List.map_append, List.map_append, HCC.out]; rfl, R5.out, B5⟩
            case measure => simp [intOf]; omega
          · obtain rfl : k = m := by omega
            have t4 : decide ((k : Int) < (k : Int)) = false := by simp
            have hrl : rr.length = k := HRR.out
            obtain ⟨g, cap, rfl, hro'⟩ : ∃ g cap, u7 = .slice (some ⟨g, 0, none⟩) k cap ∧ RowO wr wo.heap.size g cap rr := by
              rcases hro.1.2 with ⟨_, h0⟩ | ⟨g, cap, cur, e, h1, h2, h3⟩
              · omega
              · rw [hrl] at e
                refine ⟨g, cap, e, ?_⟩
                have := hro.1
                rw [e] at this
                unfold RowO
                rw [hrl] at this ⊢
                exact this
            have ST := Lib.hid (stableF_any rr wr wo.heap.size g cap k hrl hro' (fun x hx => (hro.2 x hx).isSl) (by omega))
            have hgk := hro'.kind
            have hgl := hro'.lt
            have HPO := Lib.hid hro.2
            have HKD := Lib.hid hgk
            have HCC := Lib.hid hcc
            clear hro hro' hcc hgk hrl
            unfold cmpV at ST
            go_wp2_with fail
            refine ST.out.mono ?_
            rintro e w6 ⟨rfl, r6, f6⟩
            have hls : (rr.mergeSort leV).length = k := by rw [List.length_mergeSort]; exact HRR.out
            have N6 : RunOwn w6 wo.heap.size (.slice (some ⟨g, 0, none⟩) k cap) (rr.mergeSort leV) := ⟨by
              have := r6
              unfold RowO at this
              rw [hls] at this ⊢
              exact this, fun x hx => by
              obtain ⟨c', m', hk'⟩ := HKD.out
              exact (HPO.out x (List.mem_mergeSort.1 hx)).onlG f6 hk' (by decide)⟩
            have B6 : Below wo.heap.size wo w6 := hb2.trans (f6.below.mono hgl.1)
            have b7 : Below w6.heap.size w6 (w6.alloc (.cells #[.slice (some ⟨g, 0, none⟩) k cap] 50)) := (Below.refl _ _).alloc (Nat.le_refl _) _
            have N7 := Lib.hid (N6.below b7)
            have O7 := Lib.hid ((HO.out.below B6).below b7)
            have B7 := B6.trans (b7.mono B6.size)
            have LIT := Lib.hid (rd_alloc w6 #[.slice (some ⟨g, 0, none⟩) k cap] 50 (0, 0) 1 (by simp [maxLen]))
            have hil : i ≤ 10000 := by
              have := HX.out
              have : i ≤ i * s := Nat.le_mul_of_pos_right i (by omega)
              omega
            have hbw : w.heap.size ≤ (w6.alloc (.cells #[.slice (some ⟨g, 0, none⟩) k cap] 50)).heap.size := Nat.le_trans hbs B7.size
            clear r6 f6 N6 ST HPO HKD hls b7
            go_wp2_with (at_builtin; refine wpList_append_g rfl _ _ 47 rfl w.heap.size 50 _ 1 24 Tryz.underlying47 info_runS rfl (by decide) _ rs.length (rs.map Prod.snd) rfl O7.out.1 _ 1 [.slice (some ⟨g, 0, none⟩) k cap] rfl LIT.out rfl (fun u hu => by obtain rfl := List.mem_singleton.1 hu; rfl) ?c1 ?c2 hbw ?_)
            case c1 => rw [HRL.out]; unfold maxLen; omega
            case c2 => rw [HRL.out]; omega
            intro v8 w8 o8 f8
            have B8 : Below w.heap.size w w8 := (hb.trans (B7.mono hbs)).trans f8.below
            have O8 := Lib.hid (show RunsOwn w8 w.heap.size v8 (rs ++ [(rr.mergeSort leV, .slice (some ⟨g, 0, none⟩) k cap)]) from ⟨by rw [List.length_append, List.map_append]; exact o8, fun q hq => by
              rcases List.mem_append.1 hq with hq | hq
              · exact (O7.out.2 q hq).frmT f8 O7.out.1 (by decide) (by decide)
              · obtain rfl := List.mem_singleton.1 hq
                exact (N7.out.base hbs).frmT f8 O7.out.1 (by decide) (by decide)⟩)
            have CT8 := Lib.hid (show conts (rs ++ [(rr.mergeSort leV, .slice (some ⟨g, 0, none⟩) k cap)]) = runsL s (r.map Prod.fst) (i + 1) by
              rw [runsL_succ]
              unfold conts
              rw [List.map_append]
              have h1 := HCT.out
              unfold conts at h1
              rw [h1]
              congr 1
              show [(rr.mergeSort leV).map Prod.fst] = _
              rw [srt_content, HCC.out, List.map_take, List.map_drop, ← HX.out]
              congr 2
              have := HM.out
              rw [List.take_eq_take_iff, List.length_drop, List.length_map, ← HN.out]
              omega)
            clear o8 f8 O7 N7 LIT
            go_wp2_with fail
            go_roundw
            case rel => exact ⟨i + 1, z, _, by have := HX.out; rw [Nat.succ_mul]; omega, by omega, by go_num, by simp [HRL.out], CT8.out, O8.out, B8⟩
            case measure => simp [intOf]; omega
    · have t3 : decide ((x : Int) < (n : Int)) = false := by simp; omega
      have hie : i = (n + s - 1) / s := by
        have h1 : i * s ≤ n + s - 1 := by omega
        have h2 : n + s - 1 < (i + 1) * s := by rw [Nat.succ_mul]; omega
        have h3 : i ≤ (n + s - 1) / s := (Nat.le_div_iff_mul_le (by omega)).2 h1
        have h4 : (n + s - 1) / s < i + 1 := (Nat.div_lt_iff_lt_mul (by omega)).2 h2
        omega
      have FIN := Lib.hid (show conts rs = runsL s (r.map Prod.fst) ((n + s - 1) / s) by rw [← hie]; exact hct)
      have HO := Lib.hid ho
      clear hx hct ho hie hrl
      go_wp2_with fail
      go_ret2
      exact ⟨_, _, rfl, HO.out, FIN.out, hb⟩
end

/-! MergeMath -/
section
/-- the row whose first item stands first, of the first k rows -/
def pick (rs : List (List KdL)) : Nat → Option Nat
  | 0 => none
  | k + 1 => match (rs.getD k []).head? with
    | none => pick rs k
    | some x => match pick rs k with
      | none => some k
      | some b => match (rs.getD b []).head? with
        | none => some k
        | some y => if ltK x y = true then some k else some b
def mergeN : Nat → List (List KdL) → List KdL
  | 0, _ => []
  | f + 1, rs => match pick rs rs.length with
    | none => []
    | some b => match rs.getD b [] with
      | [] => []
      | x :: t => x :: mergeN f (rs.set b t)
def mergeF (rs : List (List KdL)) : List KdL := mergeN rs.flatten.length rs

theorem pick_lt {rs : List (List KdL)} : ∀ {k b : Nat}, pick rs k = some b → b < k ∧ ∃ x t, rs.getD b [] = x :: t
  | 0, b, h => by cases h
  | k + 1, b, h => by
    unfold pick at h
    cases hx : (rs.getD k []).head? with
    | none =>
      rw [hx] at h
      obtain ⟨h1, h2⟩ := pick_lt h
      exact ⟨by omega, h2⟩
    | some x =>
      have hk : ∃ x t, rs.getD k [] = x :: t := by
        cases hl : rs.getD k [] with
        | nil => rw [hl] at hx; cases hx
        | cons y t => exact ⟨y, t, rfl⟩
      rw [hx] at h
      cases hb : pick rs k with
      | none =>
        rw [hb] at h
        simp only [Option.some.injEq] at h
        subst h
        exact ⟨by omega, hk⟩
      | some b' =>
        rw [hb] at h
        obtain ⟨h1, h2⟩ := pick_lt hb
        simp only at h
        split at h
        · simp only [Option.some.injEq] at h; subst h; exact ⟨by omega, hk⟩
        · split at h
          · simp only [Option.some.injEq] at h; subst h; exact ⟨by omega, hk⟩
          · simp only [Option.some.injEq] at h; subst h; exact ⟨by omega, h2⟩
theorem pick_none {rs : List (List KdL)} : ∀ {k : Nat}, pick rs k = none → ∀ j, j < k → rs.getD j [] = []
  | 0, _, j, hj => by omega
  | k + 1, h, j, hj => by
    unfold pick at h
    cases hx : (rs.getD k []).head? with
    | none =>
      rw [hx] at h
      rcases Nat.lt_or_ge j k with h1 | h1
      · exact pick_none h j h1
      · obtain rfl : j = k := by omega
        exact List.head?_eq_none_iff.1 hx
    | some x =>
      rw [hx] at h
      exfalso
      cases hb : pick rs k with
      | none => rw [hb] at h; cases h
      | some b => rw [hb] at h; simp only at h; split at h <;> (try split at h) <;> cases h
/-- what is picked stands ahead of the other rows' first items; strictly, where these are of earlier rows -/
theorem pick_min {rs : List (List KdL)} : ∀ {k b : Nat} {x : KdL}, pick rs k = some b → (rs.getD b []).head? = some x → ∀ j y, j < k → (rs.getD j []).head? = some y → (j < b → ltK x y = true) ∧ ltK y x = false
  | 0, b, x, h, _, j, y, hj, _ => by omega
  | k + 1, b, x, h, hx, j, y, hj, hy => by
    have asym : ∀ u v : KdL, ltK u v = true → ltK v u = false := fun u v h => by rw [ltK_iff] at h; rw [ltK_no]; omega
    have irr : ∀ u : KdL, ltK u u = false := fun u => by rw [ltK_no]; omega
    have tr : ∀ u v z : KdL, ltK u v = true → ltK z v = false → ltK u z = true := fun u v z h1 h2 => by rw [ltK_iff] at *; rw [ltK_no] at h2; omega
    unfold pick at h
    cases hz : (rs.getD k []).head? with
    | none =>
      rw [hz] at h
      rcases Nat.lt_or_ge j k with h1 | h1
      · exact pick_min h hx j y h1 hy
      · obtain rfl : j = k := by omega
        rw [hz] at hy; cases hy
    | some z =>
      rw [hz] at h
      cases hb : pick rs k with
      | none =>
        rw [hb] at h
        simp only [Option.some.injEq] at h
        subst h
        rw [hz] at hx; cases hx
        rcases Nat.lt_or_ge j k with h1 | h1
        · rw [pick_none hb j h1] at hy; cases hy
        · obtain rfl : j = k := by omega
          rw [hz] at hy; cases hy
          exact ⟨fun h => by omega, irr _⟩
      | some b' =>
        rw [hb] at h
        obtain ⟨hb1, x', t', hb2⟩ := pick_lt hb
        have hx' : (rs.getD b' []).head? = some x' := by rw [hb2]; rfl
        simp only [hx'] at h
        have IH := fun j y (hj : j < k) (hy : (rs.getD j []).head? = some y) => pick_min hb hx' j y hj hy
        by_cases hlt : ltK z x' = true
        · rw [if_pos hlt] at h
          simp only [Option.some.injEq] at h
          subst h
          rw [hz] at hx; cases hx
          rcases Nat.lt_or_ge j k with h1 | h1
          · have h2 := (IH j y h1 hy).2
            have h3 : ltK x y = true := tr _ _ _ hlt h2
            exact ⟨fun _ => h3, asym _ _ h3⟩
          · obtain rfl : j = k := by omega
            rw [hz] at hy; cases hy
            exact ⟨fun h => by omega, irr _⟩
        · rw [if_neg hlt] at h
          simp only [Option.some.injEq] at h
          subst h
          rw [hx'] at hx; cases hx
          rcases Nat.lt_or_ge j k with h1 | h1
          · exact IH j y h1 hy
          · obtain rfl : j = k := by omega
            rw [hz] at hy; cases hy
            exact ⟨fun h => by omega, by simpa using hlt⟩

/-! ### rows with ranks -/
abbrev Rc := KdL × Nat
def tlc (x y : Rc) : Prop := x.1.key < y.1.key ∨ (x.1.key = y.1.key ∧ (x.1.id < y.1.id ∨ (x.1.id = y.1.id ∧ x.2 ≤ y.2)))
theorem tlc_trans {x y z : Rc} (h1 : tlc x y) (h2 : tlc y z) : tlc x z := by unfold tlc at *; omega
theorem tlc_zip (x y : Rc) : List.zipIdxLE leK x y = true ↔ tlc x y := by
  unfold List.zipIdxLE leK tlc ltK
  split <;> (try split) <;> simp_all <;> omega
theorem srtc_unique (l : List KdL) (s : List Rc) (hp : s.Perm l.zipIdx) (hs : s.Pairwise tlc) : s.map Prod.fst = l.mergeSort leK := by
  rw [← List.mergeSort_zipIdx]
  congr 1
  have h2 : (l.zipIdx.mergeSort (List.zipIdxLE leK)).Pairwise (fun x y => tlc x y) := by
    have := List.pairwise_mergeSort (le := List.zipIdxLE leK) (fun a b c h1 h2 => by
      rw [tlc_zip] at *
      exact tlc_trans h1 h2) (fun a b => by
      rw [Bool.or_eq_true, tlc_zip, tlc_zip]
      unfold tlc
      omega) l.zipIdx
    exact this.imp fun h => (tlc_zip _ _).1 h
  refine List.Perm.eq_of_pairwise (le := tlc) (fun a b ha hb h1 h2 => ?_) hs h2 (hp.trans (List.mergeSort_perm _ _).symm)
  have ha' : a ∈ l.zipIdx := hp.mem_iff.1 ha
  have hb' : b ∈ l.zipIdx := (List.mergeSort_perm _ _).mem_iff.1 hb
  have hr : a.2 = b.2 := by unfold tlc at h1 h2; omega
  obtain ⟨i, hi⟩ := List.mem_iff_getElem.1 ha'
  obtain ⟨j, hj⟩ := List.mem_iff_getElem.1 hb'
  obtain ⟨hi1, rfl⟩ := hi
  obtain ⟨hj1, rfl⟩ := hj
  simp only [List.getElem_zipIdx, Nat.zero_add] at hr ⊢
  subst hr
  rfl
/-- the rows' contents -/
abbrev cont (rs : List (List Rc)) : List (List KdL) := rs.map fun r => r.map Prod.fst
theorem cont_getD (rs : List (List Rc)) (b : Nat) : (cont rs).getD b [] = (rs.getD b []).map Prod.fst := by
  rw [List.getD_eq_getElem?_getD, List.getD_eq_getElem?_getD, List.getElem?_map]
  cases rs[b]? <;> rfl
theorem cont_set (rs : List (List Rc)) (b : Nat) (t : List Rc) : (cont rs).set b (t.map Prod.fst) = cont (rs.set b t) := by simp [cont, List.map_set]
theorem flat_set {rs : List (List Rc)} {b : Nat} {x : Rc} {t : List Rc} (h : rs.getD b [] = x :: t) : rs.flatten.Perm (x :: (rs.set b t).flatten) := by
  induction rs generalizing b with
  | nil => simp at h
  | cons r rs ih =>
    cases b with
    | zero =>
      have : r = x :: t := h
      subst this
      exact List.Perm.refl _
    | succ b =>
      have h' : rs.getD b [] = x :: t := h
      have := ih h'
      rw [List.set_cons_succ, List.flatten_cons, List.flatten_cons]
      refine (List.Perm.append_left r this).trans ?_
      exact List.perm_middle
/-- sorted rows, the ranks of each ahead of those of the later ones, are merged to one sorted row -/
theorem merge_srt : ∀ (f : Nat) (rs : List (List Rc)), rs.flatten.length = f → (∀ r ∈ rs, r.Pairwise tlc) → rs.Pairwise (fun a b => ∀ x ∈ a, ∀ y ∈ b, x.2 < y.2) →
    ∃ s : List Rc, s.map Prod.fst = mergeN f (cont rs) ∧ s.Perm rs.flatten ∧ s.Pairwise tlc
  | 0, rs, hf, _, _ => ⟨[], rfl, by rw [List.eq_nil_of_length_eq_zero hf], List.Pairwise.nil⟩
  | f + 1, rs, hf, h1, h2 => by
    have hlen : (cont rs).length = rs.length := by simp
    cases hp : pick (cont rs) (cont rs).length with
    | none =>
      exfalso
      have h := pick_none hp
      have h0 : rs.flatten = [] := by
        rw [List.flatten_eq_nil_iff]
        intro r hr
        obtain ⟨j, hj, rfl⟩ := List.mem_iff_getElem.1 hr
        have := h j (by omega)
        rw [cont_getD, List.getD_eq_getElem?_getD, List.getElem?_eq_getElem hj] at this
        simpa using this
      rw [h0] at hf
      simp at hf
    | some b =>
      obtain ⟨hb, x, t, he⟩ := pick_lt hp
      rw [cont_getD] at he
      obtain ⟨X, T, hXT, rfl, rfl⟩ : ∃ X T, rs.getD b [] = X :: T ∧ X.1 = x ∧ T.map Prod.fst = t := by
        cases hr : rs.getD b [] with
        | nil => rw [hr] at he; cases he
        | cons X T => rw [hr] at he; simp at he; exact ⟨X, T, rfl, he.1, he.2⟩
      have hbr : b < rs.length := by omega
      have hrb : rs[b] = X :: T := by
        rw [List.getD_eq_getElem?_getD, List.getElem?_eq_getElem hbr] at hXT
        exact hXT
      have hpm := flat_set hXT
      have hf' : (rs.set b T).flatten.length = f := by
        have := hpm.length_eq
        rw [hf, List.length_cons] at this
        omega
      have g1 : ∀ r ∈ rs.set b T, r.Pairwise tlc := fun r hr => by
        rcases List.mem_or_eq_of_mem_set hr with hr | rfl
        · exact h1 r hr
        · have := h1 _ (List.getElem_mem hbr)
          rw [hrb] at this
          exact (List.pairwise_cons.1 this).2
      have g2 : (rs.set b T).Pairwise (fun a b => ∀ x ∈ a, ∀ y ∈ b, x.2 < y.2) := by
        rw [List.pairwise_iff_getElem] at h2 ⊢
        intro i j hi hj hij x hx y hy
        rw [List.length_set] at hi hj
        have sub : ∀ (k : Nat) (hk : k < rs.length) z, z ∈ (rs.set b T)[k]'(by rw [List.length_set]; exact hk) → z ∈ rs[k] := fun k hk z hz => by
          rw [List.getElem_set] at hz
          split at hz
          · rename_i hbk
            subst hbk
            rw [hrb]; exact List.mem_cons_of_mem _ hz
          · exact hz
        exact h2 i j hi hj hij x (sub i hi x hx) y (sub j hj y hy)
      obtain ⟨s, e1, e2, e3⟩ := merge_srt f (rs.set b T) hf' g1 g2
      refine ⟨X :: s, ?_, ?_, ?_⟩
      · unfold mergeN
        rw [hp]
        simp only
        rw [cont_getD, hXT]
        simp only [List.map_cons]
        rw [cont_set, e1]
      · exact (List.Perm.cons X e2).trans hpm.symm
      · refine List.pairwise_cons.2 ⟨fun y hy => ?_, e3⟩
        have hy' : y ∈ (rs.set b T).flatten := e2.mem_iff.1 hy
        obtain ⟨r, hr, hyr⟩ := List.mem_flatten.1 hy'
        obtain ⟨j, hj, rfl⟩ := List.mem_iff_getElem.1 hr
        rw [List.length_set] at hj
        rw [List.getElem_set] at hyr
        have hXh : ((cont rs).getD b []).head? = some X.1 := by rw [cont_getD, hXT]; rfl
        by_cases hbj : b = j
        · rw [if_pos hbj] at hyr
          have := h1 _ (List.getElem_mem hbr)
          rw [hrb] at this
          exact (List.pairwise_cons.1 this).1 y hyr
        · rw [if_neg hbj] at hyr
          have hrj : ∃ Y U, rs[j] = Y :: U := by
            cases hq : rs[j] with
            | nil => rw [hq] at hyr; cases hyr
            | cons Y U => exact ⟨Y, U, rfl⟩
          obtain ⟨Y, U, hq⟩ := hrj
          have hYh : ((cont rs).getD j []).head? = some Y.1 := by
            rw [cont_getD, List.getD_eq_getElem?_getD, List.getElem?_eq_getElem hj, Option.getD_some, hq]; rfl
          obtain ⟨m1, m2⟩ := pick_min hp hXh j Y.1 (by omega) hYh
          have hXY : tlc X Y := by
            rcases Nat.lt_or_ge j b with hlt | hlt
            · have := m1 hlt
              rw [ltK_iff] at this
              unfold tlc; omega
            · have hr2 := List.pairwise_iff_getElem.1 h2 b j hbr hj (by omega) X (by rw [hrb]; simp) Y (by rw [hq]; simp)
              rw [ltK_no] at m2
              unfold tlc; omega
          have hs := h1 _ (List.getElem_mem hj)
          rw [hq] at hs hyr
          rcases List.mem_cons.1 hyr with rfl | hyU
          · exact hXY
          · exact tlc_trans hXY ((List.pairwise_cons.1 hs).1 y hyU)
end

/-! MergeRem -/
section
/-- what is left of the rows -/
def remL (C : List (List KdL)) (pos : Nat → Nat) : List (List KdL) := (List.range C.length).map fun j => (C.getD j []).drop (pos j)
/-- one more of row b -/
def upd (pos : Nat → Nat) (b : Nat) (j : Nat) : Nat := if j = b then pos j + 1 else pos j
theorem remL_length (C : List (List KdL)) (pos : Nat → Nat) : (remL C pos).length = C.length := by simp [remL]
theorem remL_getD {C : List (List KdL)} {pos : Nat → Nat} {j : Nat} (h : j < C.length) : (remL C pos).getD j [] = (C.getD j []).drop (pos j) := by
  unfold remL
  rw [List.getD_eq_getElem?_getD, List.getElem?_map, List.getElem?_range h]
  rfl
theorem remL_set {C : List (List KdL)} {pos : Nat → Nat} {b : Nat} (_ : b < C.length) : (remL C pos).set b ((C.getD b []).drop (pos b + 1)) = remL C (upd pos b) := by
  refine List.ext_getElem? fun j => ?_
  unfold remL
  rw [List.getElem?_set]
  by_cases hj : j < C.length
  · rw [List.getElem?_map, List.getElem?_map, List.getElem?_range hj]
    by_cases hb : b = j
    · subst hb
      simp [upd, hj]
    · rw [if_neg hb]
      simp [upd, show ¬ j = b from fun q => hb q.symm]
  · rw [List.getElem?_eq_none (by simp; omega), List.getElem?_eq_none (by simp; omega)]
    split <;> simp_all
theorem remL_zero (C : List (List KdL)) : remL C (fun _ => 0) = C := by
  refine List.ext_getElem? fun j => ?_
  unfold remL
  by_cases hj : j < C.length
  · rw [List.getElem?_map, List.getElem?_range hj]
    simp [List.getD_eq_getElem?_getD, hj]
  · rw [List.getElem?_eq_none (by simp; omega), List.getElem?_eq_none (by omega)]
theorem flat_len {α : Type} {rs : List (List α)} {b : Nat} {x : α} {t : List α} (h : rs.getD b [] = x :: t) : rs.flatten.length = (rs.set b t).flatten.length + 1 := by
  induction rs generalizing b with
  | nil => simp at h
  | cons r rs ih =>
    cases b with
    | zero =>
      have : r = x :: t := h
      subst this
      simp <;> omega
    | succ b =>
      have h' : rs.getD b [] = x :: t := h
      have := ih h'
      rw [List.set_cons_succ, List.flatten_cons, List.flatten_cons, List.length_append, List.length_append]
      omega
theorem mergeN_one {f : Nat} {rs : List (List KdL)} {b : Nat} {x : KdL} {t : List KdL} (h : pick rs rs.length = some b) (e : rs.getD b [] = x :: t) : mergeN (f + 1) rs = x :: mergeN f (rs.set b t) := by
  conv => lhs; unfold mergeN
  rw [h]
  simp only
  rw [e]
/-- one step -/
theorem merge_step {C : List (List KdL)} {pos : Nat → Nat} {b : Nat} (h : pick (remL C pos) C.length = some b) :
    b < C.length ∧ ∃ x, (C.getD b [])[pos b]? = some x ∧ (remL C pos).flatten.length = (remL C (upd pos b)).flatten.length + 1 ∧ mergeF (remL C pos) = x :: mergeF (remL C (upd pos b)) := by
  obtain ⟨hb, x, t, e⟩ := pick_lt h
  refine ⟨hb, x, ?_⟩
  have e' := e
  rw [remL_getD hb] at e'
  have hx : (C.getD b [])[pos b]? = some x := by
    have := congrArg List.head? e'
    rw [List.head?_drop] at this
    exact this
  have ht : (C.getD b []).drop (pos b + 1) = t := by
    have := congrArg List.tail e'
    rw [List.tail_drop] at this
    exact this
  have hl := flat_len e
  rw [← ht, remL_set hb] at hl
  refine ⟨hx, hl, ?_⟩
  unfold mergeF
  rw [hl]
  rw [mergeN_one (by rw [remL_length]; exact h) e, ← ht, remL_set hb]
/-- the end -/
theorem merge_end {C : List (List KdL)} {pos : Nat → Nat} (h : pick (remL C pos) C.length = none) : mergeF (remL C pos) = [] := by
  have h1 := pick_none h
  have h0 : (remL C pos).flatten = [] := by
    rw [List.flatten_eq_nil_iff]
    intro r hr
    obtain ⟨j, hj, rfl⟩ := List.mem_iff_getElem.1 hr
    have := h1 j (by rw [remL_length] at hj; exact hj)
    rw [List.getD_eq_getElem?_getD, List.getElem?_eq_getElem hj] at this
    exact this
  unfold mergeF
  rw [h0]
  rfl
/-- best, as a number -/
def bestI : Option Nat → Int
  | none => -1
  | some b => (b : Int)
theorem pick_used {C : List (List KdL)} {pos : Nat → Nat} {k : Nat} (hk : k < C.length) (h : (C.getD k []).length ≤ pos k) : pick (remL C pos) (k + 1) = pick (remL C pos) k := by
  conv => lhs; unfold pick
  rw [remL_getD hk, List.drop_eq_nil_of_le h]
  rfl
theorem pick_first {C : List (List KdL)} {pos : Nat → Nat} {k : Nat} {x : KdL} (hk : k < C.length) (h : (C.getD k [])[pos k]? = some x) (hp : pick (remL C pos) k = none) : pick (remL C pos) (k + 1) = some k := by
  conv => lhs; unfold pick
  rw [remL_getD hk, List.head?_drop, h, hp]
theorem pick_more {C : List (List KdL)} {pos : Nat → Nat} {k b : Nat} {x y : KdL} (hk : k < C.length) (h : (C.getD k [])[pos k]? = some x) (hp : pick (remL C pos) k = some b) (hb : b < C.length) (hy : (C.getD b [])[pos b]? = some y) :
    pick (remL C pos) (k + 1) = if ltK x y = true then some k else some b := by
  conv => lhs; unfold pick
  rw [remL_getD hk, List.head?_drop, h, hp]
  simp only
  rw [remL_getD hb, List.head?_drop, hy]
theorem pick_some {C : List (List KdL)} {pos : Nat → Nat} {k b : Nat} (hk : k ≤ C.length) (hp : pick (remL C pos) k = some b) : b < k ∧ ∃ y, (C.getD b [])[pos b]? = some y := by
  obtain ⟨hb, x, t, e⟩ := pick_lt hp
  refine ⟨hb, x, ?_⟩
  rw [remL_getD (by omega)] at e
  have := congrArg List.head? e
  rw [List.head?_drop] at this
  exact this
end

end Go.Proofs.YtoggbmfjjenbaaaGreatDoor
