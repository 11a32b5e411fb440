/- The runs of a row, merged, are the row sorted; empty rows at both ends turn nothing. plane.CheckBox, boxes, Has; segm.may, span. -/
import Derived.Test.YtoggbmfjjenbaaaGreatDoorTw9
import Derived.Test.YtoggbmfjjenbaaaGreatDoorTw2
set_option linter.unusedSimpArgs false
set_option linter.unusedVariables false
namespace Go.Proofs.YtoggbmfjjenbaaaGreatDoor
/-! MergeLaw -/
section
theorem merge_rows (R : List (List Rc)) (L : List KdL) (h1 : ∀ r ∈ R, r.Pairwise tlc) (h2 : R.Pairwise (fun a b => ∀ x ∈ a, ∀ y ∈ b, x.2 < y.2)) (h3 : R.flatten.Perm L.zipIdx) : mergeF (cont R) = L.mergeSort leK := by
  obtain ⟨s, e1, e2, e3⟩ := merge_srt R.flatten.length R rfl h1 h2
  unfold mergeF
  have hl : (cont R).flatten.length = R.flatten.length := by
    rw [show (cont R).flatten = R.flatten.map Prod.fst from by rw [List.map_flatten], List.length_map]
  rw [hl, ← e1]
  exact srtc_unique L s (e2.trans h3) e3

def pieceL {α : Type} (s : Nat) (l : List α) (j : Nat) : List α := (l.drop (j * s)).take s
def rowC (s : Nat) (l : List KdL) (j : Nat) : List Rc := ((pieceL s l j).zipIdx.mergeSort (List.zipIdxLE leK)).map fun x => (x.1, x.2 + j * s)
theorem chunk_flat {α : Type} (s : Nat) (Z : List α) : ∀ m, ((List.range m).map fun j => pieceL s Z j).flatten = Z.take (m * s)
  | 0 => by simp
  | m + 1 => by
    rw [List.range_succ, List.map_append, List.flatten_append, chunk_flat s Z m, Nat.succ_mul, List.take_add]
    simp [pieceL]
theorem flat_perm {α : Type} (f g : Nat → List α) (h : ∀ j, (f j).Perm (g j)) : ∀ l : List Nat, ((l.map f).flatten).Perm (l.map g).flatten
  | [] => List.Perm.refl _
  | x :: l => by
    rw [List.map_cons, List.map_cons, List.flatten_cons, List.flatten_cons]
    exact (h x).append (flat_perm f g h l)
theorem shift_piece (s : Nat) (l : List KdL) (j : Nat) : (pieceL s l j).zipIdx.map (fun x => (x.1, x.2 + j * s)) = pieceL s l.zipIdx j := by
  refine List.ext_getElem? fun i => ?_
  unfold pieceL
  rw [List.getElem?_map, List.getElem?_zipIdx, List.getElem?_take, List.getElem?_take, List.getElem?_drop, List.getElem?_drop, List.getElem?_zipIdx]
  split
  · cases l[j * s + i]? with
    | none => rfl
    | some x => simp; omega
  · rfl
theorem rowC_perm (s : Nat) (l : List KdL) (j : Nat) : (rowC s l j).Perm (pieceL s l.zipIdx j) := by
  rw [← shift_piece]
  exact (List.mergeSort_perm _ _).map _
theorem rowC_fst (s : Nat) (l : List KdL) (j : Nat) : (rowC s l j).map Prod.fst = (pieceL s l j).mergeSort leK := by
  unfold rowC
  rw [List.map_map, ← List.mergeSort_zipIdx (le := leK) (l := pieceL s l j)]
  rfl
theorem rowC_srt (s : Nat) (l : List KdL) (j : Nat) : (rowC s l j).Pairwise tlc := by
  have := List.pairwise_mergeSort (le := List.zipIdxLE leK) (fun a b c h1 h2 => by
      rw [tlc_zip] at *
      exact tlc_trans h1 h2) (fun a b => by
      rw [Bool.or_eq_true, tlc_zip, tlc_zip]
      unfold tlc
      omega) (pieceL s l j).zipIdx
  unfold rowC
  rw [List.pairwise_map]
  refine this.imp fun {a b} h => ?_
  rw [tlc_zip] at h
  unfold tlc at *
  simp only
  omega
theorem rowC_rank {s : Nat} {l : List KdL} {j : Nat} {x : Rc} (h : x ∈ rowC s l j) : j * s ≤ x.2 ∧ x.2 < (j + 1) * s := by
  have h1 := (rowC_perm s l j).mem_iff.1 h
  obtain ⟨i, hi⟩ := List.mem_iff_getElem?.1 h1
  unfold pieceL at hi
  rw [List.getElem?_take] at hi
  split at hi
  · rw [List.getElem?_drop, List.getElem?_zipIdx, Option.map_eq_some_iff] at hi
    obtain ⟨y, _, rfl⟩ := hi
    rw [Nat.succ_mul]
    simp only
    omega
  · cases hi
/-- the runs: pieces of so many, each sorted -/
def runsC (s : Nat) (l : List KdL) (i : Nat) : List (List KdL) := (List.range i).map fun j => ((l.drop (j * s)).take s).mergeSort leK
theorem runsL_cont (s : Nat) (l : List KdL) (m : Nat) : runsC s l m = cont ((List.range m).map (rowC s l)) := by
  unfold runsC cont
  rw [List.map_map]
  refine List.map_congr_left fun j _ => ?_
  exact (rowC_fst s l j).symm
theorem rows_apart (s : Nat) (l : List KdL) (m : Nat) : ((List.range m).map (rowC s l)).Pairwise (fun a b => ∀ x ∈ a, ∀ y ∈ b, x.2 < y.2) := by
  rw [List.pairwise_map]
  refine (List.pairwise_lt_range).imp fun {i j} hij x hx y hy => ?_
  have a := (rowC_rank hx).2
  have b := (rowC_rank hy).1
  have c : (i + 1) * s ≤ j * s := Nat.mul_le_mul_right s hij
  omega
theorem rows_flat (s : Nat) (l : List KdL) (m : Nat) (hm : l.length ≤ m * s) : ((List.range m).map (rowC s l)).flatten.Perm l.zipIdx := by
  refine (flat_perm _ _ (rowC_perm s l) _).trans ?_
  rw [chunk_flat, List.take_of_length_le (by rw [List.length_zipIdx]; exact hm)]
theorem merge_runs (s : Nat) (l : List KdL) (m : Nat) (hm : l.length ≤ m * s) : mergeF (runsC s l m) = l.mergeSort leK := by
  rw [runsL_cont]
  refine merge_rows _ l (fun r hr => ?_) (rows_apart s l m) (rows_flat s l m hm)
  obtain ⟨j, _, rfl⟩ := List.mem_map.1 hr
  exact rowC_srt s l j
theorem merge_runs_pad (s : Nat) (l : List KdL) (m : Nat) (hm : l.length ≤ m * s) : mergeF ([] :: (runsC s l m ++ [[]])) = l.mergeSort leK := by
  have e : [] :: (runsC s l m ++ [[]]) = cont ([] :: ((List.range m).map (rowC s l) ++ [[]])) := by
    rw [runsL_cont]
    simp [cont]
  rw [e]
  refine merge_rows _ l (fun r hr => ?_) ?_ ?_
  · rcases List.mem_cons.1 hr with rfl | hr
    · exact List.Pairwise.nil
    · rcases List.mem_append.1 hr with hr | hr
      · obtain ⟨j, _, rfl⟩ := List.mem_map.1 hr
        exact rowC_srt s l j
      · obtain rfl := List.mem_singleton.1 hr
        exact List.Pairwise.nil
  · refine List.pairwise_cons.2 ⟨fun b _ x hx => (by cases hx), List.pairwise_append.2 ⟨rows_apart s l m, List.pairwise_singleton _ _, fun a _ b hb x _ y hy => ?_⟩⟩
    obtain rfl := List.mem_singleton.1 hb
    cases hy
  · simpa using rows_flat s l m hm
end

/-! Segm -/
section
open Go.RowKit

theorem ckBox_ok (a b c d : Int) (w : World) (h1 : inP a b) (h2 : inP c d) (h3 : a ≤ c) (h4 : b ≤ d) : Calls Tryz.prog 44 #[.agg #[.int .i64 a, .int .i64 b, .int .i64 c, .int .i64 d]] w (ErRet w .none) := by
  have M := Lib.hid (fun g w h => may_any (.slice (some ⟨g, 0, none⟩) 2 2) [(a, b), (c, d)] w h)
  have e0 : allP [(a, b), (c, d)] = true := by simp [allP, okP, h1, h2]
  rw [e0] at M
  clear e0
  have B0 : Below w.heap.size w ((w.alloc (.cells #[.int .i64 a, .int .i64 b, .int .i64 c, .int .i64 d] 69)).alloc (.cells #[.int .i64 a, .int .i64 b, .int .i64 c, .int .i64 d] 67)) := ((Below.refl _ _).alloc (Nat.le_refl _) _).alloc (by simp) _
  have Q0 := Lib.hid ((quad_alloc w a b c d 69 w.heap.size rfl).alloc (.cells #[.int .i64 a, .int .i64 b, .int .i64 c, .int .i64 d] 67))
  have t1 : decide (c < a) = false := by simp; omega
  have t2 : decide (d < b) = false := by simp; omega
  clear h1 h2
  go_enter Tryz.func44, Tryz.ntmps44
  go_wp2_with fail
  refine (M.out _ _ (pts2 _ _ _ (by simp) _ _ _ _)).mono ?_
  rintro e w1 ⟨rfl, b1⟩
  obtain ⟨y0, y1, y2, y3⟩ := Q0.out.below b1
  go_wp2_with fail
  go_ret
  exact ⟨_, rfl, rfl, B0.trans (b1.mono B0.size)⟩

theorem boxes1 (g : Nat) (a b c d : Int) (w : World) (q : Quad w g a b c d) (h1 : inP a b) (h2 : inP c d) (h3 : a ≤ c) (h4 : b ≤ d) :
    Calls Tryz.prog 95 #[.slice (some ⟨g, 0, none⟩) 1 1] w fun e w' => e = .returned (.bool true) ∧ Below w.heap.size w w' := by
  have C := Lib.hid (fun w => ckBox_ok a b c d w h1 h2 h3 h4)
  have hb := World.block_lt_of_cell? w ⟨g, 0, none⟩ q.c0
  obtain ⟨y0, y1, y2, y3⟩ := q
  clear h1 h2
  go_enter Tryz.func95, Tryz.ntmps95
  go_wp2_with fail
  refine wp_loop_rounds 2 ?_
  rw [rounds_succ]
  go_wp2_with fail
  refine (C.out _).mono ?_
  rintro e w1 ⟨u, rfl, rfl, b1⟩
  go_wp2_with fail
  rw [rounds_succ]
  go_wp2_with fail
  go_ret
  exact ⟨rfl, ((Below.refl _ _).alloc (Nat.le_refl _) _).trans (b1.mono (by simp))⟩

theorem Has_ok (a b c d x y : Int) (w : World) (h1 : inP a b) (h2 : inP c d) (h3 : a ≤ c) (h4 : b ≤ d) (hp : inP x y) :
    Calls Tryz.prog 90 #[.agg #[.int .i64 a, .int .i64 b, .int .i64 c, .int .i64 d], .agg #[.int .i64 x, .int .i64 y]] w fun e w' => e = .returned (.bool (decide (a ≤ x ∧ x ≤ c ∧ b ≤ y ∧ y ≤ d))) ∧ Below w.heap.size w w' := by
  have BX := Lib.hid (fun g w q => boxes1 g a b c d w q h1 h2 h3 h4)
  have M := Lib.hid (fun g w h => may_any (.slice (some ⟨g, 0, none⟩) 1 1) [(x, y)] w h)
  have e0 : allP [(x, y)] = true := by simp [allP, okP, hp]
  rw [e0] at M
  clear e0 h1 h2 hp
  have B0 : Below w.heap.size w (((w.alloc (.cells #[.int .i64 a, .int .i64 b, .int .i64 c, .int .i64 d] 69)).alloc (.cells #[.int .i64 x, .int .i64 y] 67)).alloc (.cells #[.int .i64 a, .int .i64 b, .int .i64 c, .int .i64 d] 69)) := (((Below.refl _ _).alloc (Nat.le_refl _) _).alloc (by simp) _).alloc (by simp; omega) _
  have Q0 := Lib.hid (((quad_alloc w a b c d 69 w.heap.size rfl).alloc (.cells #[.int .i64 x, .int .i64 y] 67)).alloc (.cells #[.int .i64 a, .int .i64 b, .int .i64 c, .int .i64 d] 69))
  have P0 := Lib.hid ((pair_alloc (w.alloc (.cells #[.int .i64 a, .int .i64 b, .int .i64 c, .int .i64 d] 69)) x y 67 (w.heap.size + 1) (by simp)).alloc (.cells #[.int .i64 a, .int .i64 b, .int .i64 c, .int .i64 d] 69))
  have HH : ∀ q, decide (a ≤ x ∧ x ≤ c ∧ b ≤ y ∧ y ≤ d) = q → Calls Tryz.prog 90 #[.agg #[.int .i64 a, .int .i64 b, .int .i64 c, .int .i64 d], .agg #[.int .i64 x, .int .i64 y]] w fun e w' => e = .returned (.bool q) ∧ Below w.heap.size w w' := by
    intro q hq
    by_cases c1 : a ≤ x
    · have t1 := decide_eq_true c1
      by_cases c2 : x ≤ c
      · have t2 := decide_eq_true c2
        by_cases c3 : b ≤ y
        · have t3 := decide_eq_true c3
          by_cases c4 : y ≤ d
          · have t4 := decide_eq_true c4
            obtain rfl : q = true := by rw [← hq]; simp [*]
            clear hq
            go_enter Tryz.func90, Tryz.ntmps90
            go_wp2_with fail
            refine (BX.out _ _ (quad_alloc _ _ _ _ _ _ _ (by simp))).mono ?_
            rintro e w1 ⟨rfl, b1⟩
            obtain ⟨z0, z1⟩ := P0.out.below b1
            have hz := World.block_lt_of_cell? w1 ⟨w.heap.size + 1, 0, none⟩ z0
            go_wp2_with fail
            refine (M.out _ _ (pts1 _ _ _ (by simp) _ _)).mono ?_
            rintro e w2 ⟨rfl, b2⟩
            have b1a := b1.alloc b1.size (.cells #[.int .i64 x, .int .i64 y] 67)
            have b12 := b1a.trans (b2.mono b1a.size)
            clear z0 z1
            obtain ⟨z0, z1⟩ := P0.out.below b12
            obtain ⟨y0, y1, y2, y3⟩ := Q0.out.below b12
            go_wp2_with fail
            go_ret
            exact ⟨rfl, B0.trans (b12.mono B0.size)⟩
          · have t4 := decide_eq_false c4
            obtain rfl : q = false := by rw [← hq]; simp [*]
            clear hq
            go_enter Tryz.func90, Tryz.ntmps90
            go_wp2_with fail
            refine (BX.out _ _ (quad_alloc _ _ _ _ _ _ _ (by simp))).mono ?_
            rintro e w1 ⟨rfl, b1⟩
            obtain ⟨z0, z1⟩ := P0.out.below b1
            have hz := World.block_lt_of_cell? w1 ⟨w.heap.size + 1, 0, none⟩ z0
            go_wp2_with fail
            refine (M.out _ _ (pts1 _ _ _ (by simp) _ _)).mono ?_
            rintro e w2 ⟨rfl, b2⟩
            have b1a := b1.alloc b1.size (.cells #[.int .i64 x, .int .i64 y] 67)
            have b12 := b1a.trans (b2.mono b1a.size)
            clear z0 z1
            obtain ⟨z0, z1⟩ := P0.out.below b12
            obtain ⟨y0, y1, y2, y3⟩ := Q0.out.below b12
            go_wp2_with fail
            go_ret
            exact ⟨rfl, B0.trans (b12.mono B0.size)⟩
        · have t3 := decide_eq_false c3
          obtain rfl : q = false := by rw [← hq]; simp [*]
          clear hq
          go_enter Tryz.func90, Tryz.ntmps90
          go_wp2_with fail
          refine (BX.out _ _ (quad_alloc _ _ _ _ _ _ _ (by simp))).mono ?_
          rintro e w1 ⟨rfl, b1⟩
          obtain ⟨z0, z1⟩ := P0.out.below b1
          have hz := World.block_lt_of_cell? w1 ⟨w.heap.size + 1, 0, none⟩ z0
          go_wp2_with fail
          refine (M.out _ _ (pts1 _ _ _ (by simp) _ _)).mono ?_
          rintro e w2 ⟨rfl, b2⟩
          have b1a := b1.alloc b1.size (.cells #[.int .i64 x, .int .i64 y] 67)
          have b12 := b1a.trans (b2.mono b1a.size)
          clear z0 z1
          obtain ⟨z0, z1⟩ := P0.out.below b12
          obtain ⟨y0, y1, y2, y3⟩ := Q0.out.below b12
          go_wp2_with fail
          go_ret
          exact ⟨rfl, B0.trans (b12.mono B0.size)⟩
      · have t2 := decide_eq_false c2
        obtain rfl : q = false := by rw [← hq]; simp [*]
        clear hq
        go_enter Tryz.func90, Tryz.ntmps90
        go_wp2_with fail
        refine (BX.out _ _ (quad_alloc _ _ _ _ _ _ _ (by simp))).mono ?_
        rintro e w1 ⟨rfl, b1⟩
        obtain ⟨z0, z1⟩ := P0.out.below b1
        have hz := World.block_lt_of_cell? w1 ⟨w.heap.size + 1, 0, none⟩ z0
        go_wp2_with fail
        refine (M.out _ _ (pts1 _ _ _ (by simp) _ _)).mono ?_
        rintro e w2 ⟨rfl, b2⟩
        have b1a := b1.alloc b1.size (.cells #[.int .i64 x, .int .i64 y] 67)
        have b12 := b1a.trans (b2.mono b1a.size)
        clear z0 z1
        obtain ⟨z0, z1⟩ := P0.out.below b12
        obtain ⟨y0, y1, y2, y3⟩ := Q0.out.below b12
        go_wp2_with fail
        go_ret
        exact ⟨rfl, B0.trans (b12.mono B0.size)⟩
    · have t1 := decide_eq_false c1
      obtain rfl : q = false := by rw [← hq]; simp [*]
      clear hq
      go_enter Tryz.func90, Tryz.ntmps90
      go_wp2_with fail
      refine (BX.out _ _ (quad_alloc _ _ _ _ _ _ _ (by simp))).mono ?_
      rintro e w1 ⟨rfl, b1⟩
      obtain ⟨z0, z1⟩ := P0.out.below b1
      have hz := World.block_lt_of_cell? w1 ⟨w.heap.size + 1, 0, none⟩ z0
      go_wp2_with fail
      refine (M.out _ _ (pts1 _ _ _ (by simp) _ _)).mono ?_
      rintro e w2 ⟨rfl, b2⟩
      have b1a := b1.alloc b1.size (.cells #[.int .i64 x, .int .i64 y] 67)
      have b12 := b1a.trans (b2.mono b1a.size)
      clear z0 z1
      obtain ⟨z0, z1⟩ := P0.out.below b12
      obtain ⟨y0, y1, y2, y3⟩ := Q0.out.below b12
      go_wp2_with fail
      go_ret
      exact ⟨rfl, B0.trans (b12.mono B0.size)⟩
  exact HH _ rfl

theorem span_any (ax ay bx bz : Int) (w : World) : Calls Tryz.prog 91 #[.agg #[.int .i64 ax, .int .i64 ay], .agg #[.int .i64 bx, .int .i64 bz]] w fun e w' => e = .returned (.agg #[.int .i64 (min ax bx), .int .i64 (min ay bz), .int .i64 (max ax bx), .int .i64 (max ay bz)]) ∧ Below w.heap.size w w' := by
  go_enter Tryz.func91, Tryz.ntmps91
  go_wp2_with fail
  all_goals
    refine bodyPost_ret (v := .agg #[.int .i64 (min ax bx), .int .i64 (min ay bz), .int .i64 (max ax bx), .int .i64 (max ay bz)]) ?_ rfl ⟨rfl, (((Below.refl _ _).alloc (Nat.le_refl _) _).alloc (by simp) _).alloc (by simp; omega) _⟩
    simp [results, Tryz.results91, go_sem]
    try omega

theorem segmMay_any (v : Value) (l : List (Int × Int)) (w : World) (hv : Pts w v l) :
    Calls Tryz.prog 88 #[v] w fun e w' => e = .returned (.bool (allP l)) ∧ Below w.heap.size w w' := by
  obtain ⟨ao, c, rfl, h1, h2, h0, h3⟩ := hv.open
  unfold maxLen at h2
  have H3 := Lib.hid h3
  clear h0 h3 hv
  go_enter Tryz.func88, Tryz.ntmps88
  go_wp2_with fail
  go_loopw [7] (fun i wr => ∃ k : Nat, k ≤ l.length ∧ i = .int .i64 k ∧ Hid (allP (l.take k) = true) ∧ Below w.heap.size w wr) (fun i _ => l.length - (intOf i).toNat)
  case atStart => exact ⟨0, Nat.zero_le _, rfl, Lib.hid rfl, Below.refl _ _⟩
  case round =>
    obtain ⟨k, hk, rfl, ha, hb⟩ := hrel
    have hs := hb.size
    by_cases hlt : k < l.length
    · obtain ⟨g, off, rfl, hg, hx, hy⟩ := H3.out k hlt
      have hx' := (hb.cell (p := ⟨g, off + k * 2, none⟩) hg).trans hx
      have hy' := (hb.cell (p := ⟨g, off + k * 2 + 1, none⟩) hg).trans hy
      have HS := Lib.hid (allP_snoc l k hlt)
      have HF := Lib.hid (allP_false l k hlt)
      clear hx hy
      generalize l[k] = p at *
      obtain ⟨x, y⟩ := p
      simp only at hx' hy'
      have i0 : (0 : Int) ≤ (k : Int) := by omega
      have i1 : (k : Int) < (l.length : Int) := by omega
      have hb1 := hb.alloc hs (.cells #[.int .i64 x, .int .i64 y] 67)
      have C := Lib.hid (fun w => ckPoint_any x y w)
      cases hq : okP (x, y) with
      | true =>
        rw [hq] at C
        have HA := Lib.hid (show allP (l.take (k + 1)) = true by rw [HS.out, ha.out, hq]; rfl)
        clear hq ha
        go_wp2_with fail
        refine (C.out _).mono ?_
        rintro e w1 ⟨u, rfl, rfl, b1⟩
        have hb2 := hb1.trans (b1.mono hb1.size)
        go_wp2_with fail
        go_roundw
        case rel => exact ⟨k + 1, by omega, by go_num, HA, hb2⟩
        case measure => simp [intOf]; omega
      | false =>
        rw [hq] at C
        have HN := Lib.hid (HF.out hq)
        clear hq ha
        go_wp2_with fail
        refine (C.out _).mono ?_
        rintro e w1 ⟨u, rfl, rfl, b1⟩
        have hb2 := hb1.trans (b1.mono hb1.size)
        go_wp2_with fail
        go_ret
        exact ⟨by rw [HN.out]; rfl, hb2⟩
    · have HN := Lib.hid (show allP l = true by have := ha.out; rwa [List.take_of_length_le (by omega)] at this)
      have t1 : decide ((k : Int) < (l.length : Int)) = false := by simp; omega
      clear ha
      go_wp2_with fail
      go_ret
      exact ⟨by rw [HN.out]; rfl, hb⟩
end

end Go.Proofs.YtoggbmfjjenbaaaGreatDoor
