/- pergolalaw20.keyed; what the runs of a row are. -/
import Derived.Test.YtoggbmfjjenbaaaGreatSRefKey
set_option linter.unusedSimpArgs false
set_option linter.unusedVariables false
namespace Go.Proofs.YtoggbmfjjenbaaaGreat
open Go.RowKit

/-- the items that have keys -/
def kept (r : List KdV) : List KdV := r.filter fun x => decide (objCode x.1.kind x.1.pts = 0)
theorem kept_yes {r : List KdV} {k : Nat} {x : KdV} (h : r[k]? = some x) (hc : objCode x.1.kind x.1.pts = 0) : kept (r.take (k + 1)) = kept (r.take k) ++ [x] := by
  obtain ⟨hk, rfl⟩ := List.getElem?_eq_some_iff.1 h
  unfold kept
  rw [List.take_succ_eq_append_getElem hk, List.filter_append]
  congr 1
  simp [hc]
theorem kept_no {r : List KdV} {k : Nat} {x : KdV} (h : r[k]? = some x) (hc : objCode x.1.kind x.1.pts ≠ 0) : kept (r.take (k + 1)) = kept (r.take k) := by
  obtain ⟨hk, rfl⟩ := List.getElem?_eq_some_iff.1 h
  unfold kept
  rw [List.take_succ_eq_append_getElem hk, List.filter_append]
  simp [hc]
theorem kept_mem {r : List KdV} {x : KdV} (h : x ∈ kept r) : x ∈ r := (List.mem_filter.1 h).1
theorem kept_len (r : List KdV) : (kept r).length ≤ r.length := List.length_filter_le _ _
theorem info_kdRS : (Tryz.prog.info? 56).map (fun i => (i.zero, i.size, i.bytes)) = some (some (.agg #[.int .u64 0, .int .i64 0, .int .i64 0, .slice none 0 0]), 4, 48) := by kernel_rfl

set_option maxRecDepth 100000 in
set_option maxHeartbeats 4000000 in
theorem keyed_any (v : Value) (r : List KdV) (w : World) (h : ItRd w v r) (hk : KeyIs r) (hl : r.length ≤ 150) :
    Calls Tryz.prog 6 #[v] w fun e w' => ∃ va vb, e = .returned (.tuple #[va, vb]) ∧ RunRd w' va (kept r) ∧ RunRd w' vb (kept r) ∧ Below w.heap.size w w' := by
  have hpts := h.2
  obtain ⟨ao, c, rfl, hc1, hc2, -, each⟩ := h.open
  have EA := Lib.hid each
  have HP := Lib.hid (show ∀ i x, r[i]? = some x → ∀ w', Below w.heap.size w w' → Pts w' x.2 x.1.pts from fun i x hx w' hb => (hpts x (List.mem_of_getElem? hx)).below hb)
  have HK := Lib.hid hk
  have HPA := Lib.hid hpts
  unfold maxLen at hc2
  obtain ⟨n, hn⟩ : ∃ n, n = r.length := ⟨_, rfl⟩
  rw [← hn] at hc1 hl ⊢
  have HN := Lib.hid hn
  clear h hk each hpts hn
  go_enter Tryz.func6, Tryz.ntmps6
  go_wp2_with fail
  go_loopw [4, 5, 6] (fun va vb iv wr => ∃ k : Nat, k ≤ n ∧ iv = .int .i64 k ∧ wr.ownsRow w.heap.size 55 4 va (kept (r.take k)).length (kdR (kept (r.take k))) ∧ wr.ownsRow w.heap.size 56 4 vb (kept (r.take k)).length (kdR (kept (r.take k))) ∧ Below w.heap.size w wr) (fun _ _ iv _ => n - (intOf iv).toNat)
  case atStart => exact ⟨0, Nat.zero_le _, rfl, World.ownsRow_nil _ _ _ _, World.ownsRow_nil _ _ _ _, Below.refl _ _⟩
  case round =>
    obtain ⟨k, hkn, rfl, hoa, hob, hb⟩ := hrel
    have HA := Lib.hid hoa
    have HB := Lib.hid hob
    have hbs := hb.size
    clear hoa hob
    by_cases hlt : k < n
    · have t1 : decide ((k : Int) < (n : Int)) = true := decide_eq_true (by omega)
      obtain ⟨x, hx⟩ : ∃ x, r[k]? = some x := ⟨_, List.getElem?_eq_getElem (by have := HN.out; omega)⟩
      obtain ⟨b, o, rfl, hbl, c0, c1, c2⟩ := EA.out k x hx
      have hp := HP.out k x hx
      have hkx := HK.out x (List.mem_of_getElem? hx)
      have i0 : (0 : Int) ≤ (k : Int) := by omega
      have i1 : (k : Int) < (n : Int) := by omega
      have hkl : (kept (r.take k)).length ≤ 150 := Nat.le_trans (kept_len _) (by rw [List.length_take, ← HN.out]; omega)
      have HKL := Lib.hid hkl
      have d1 := (hb.cell (p := ⟨b, o + k * 3 + 1, none⟩) hbl).trans c1
      have d2 : wr.cell? ⟨b, o + k * 3 + 1 + 1, none⟩ = some x.2 := (hb.cell (p := ⟨b, o + k * 3 + 2, none⟩) hbl).trans c2
      by_cases hc : objCode x.1.kind x.1.pts = 0
      · have KY := Lib.hid (kept_yes hx hc)
        obtain ⟨⟨kk, ki, kd, kp⟩, xv⟩ := x
        simp only at c0 c1 c2 hp hkx d1 d2 hc
        obtain ⟨sa, sn, sc, rfl⟩ := (hp w (Below.refl _ _)).isSl
        have IK := Lib.hid (ItemKey_ok kd _ kp wr (hp wr hb) hc)
        rw [← hkx] at IK
        have HC := Lib.hid (And.intro c0 (And.intro c1 c2))
        clear hp hkx hkl hx c0 c1 c2 hc
        go_wp2_with fail
        refine IK.out.mono ?_
        rintro e w1 ⟨rfl, b1⟩
        have B1 := hb.trans (b1.mono hbs)
        have d0 := (B1.cell (p := ⟨b, o + k * 3, none⟩) hbl).trans HC.out.1
        have d1 := (B1.cell (p := ⟨b, o + k * 3 + 1, none⟩) hbl).trans HC.out.2.1
        have d2 := (B1.cell (p := ⟨b, o + k * 3 + 2, none⟩) hbl).trans HC.out.2.2
        have bA : Below w1.heap.size w1 (w1.alloc (.cells #[.int .u64 kk, .int .i64 ki, .int .i64 kd, .slice sa sn sc] 55)) := (Below.refl _ _).alloc (Nat.le_refl _) _
        have OA := Lib.hid (own_below' (own_below' HA.out b1) bA)
        have OB := Lib.hid (own_below' (own_below' HB.out b1) bA)
        have BA := B1.trans (bA.mono B1.size)
        have LIT := Lib.hid (rd_alloc w1 #[.int .u64 kk, .int .i64 ki, .int .i64 kd, .slice sa sn sc] 55 (0, 0) 1 (by simp [maxLen]))
        clear IK HA HB bA
        go_wp2_with (at_builtin; refine wpList_append_g rfl _ _ 25 rfl w.heap.size 55 _ 4 48 Tryz.underlying25 info_kdS rfl (by decide) _ (kept (r.take k)).length (kdR (kept (r.take k))) rfl OA.out _ 1 (kdR [(⟨kk, ki, kd, kp⟩, .slice sa sn sc)]) rfl LIT.out rfl (kdR_one _ (fun x hx => by obtain rfl := List.mem_singleton.1 hx; exact ⟨_, _, _, rfl⟩)) ?c1 ?c2 ?c3 ?_)
        case c1 => have := HKL.out; unfold maxLen; omega
        case c2 => have := HKL.out; omega
        case c3 => first | exact BA.size | (have := BA.size; simpa using this)
        intro v5 w5 o5 f5
        have B5 := BA.trans f5.below
        have OB5 := f5.ownT OA.out (show 56 ≠ 55 by decide) OB.out
        have e0 := (B5.cell (p := ⟨b, o + k * 3, none⟩) hbl).trans HC.out.1
        have e1 := (B5.cell (p := ⟨b, o + k * 3 + 1, none⟩) hbl).trans HC.out.2.1
        have e2 := (B5.cell (p := ⟨b, o + k * 3 + 2, none⟩) hbl).trans HC.out.2.2
        have bC : Below w5.heap.size w5 (w5.alloc (.cells #[.int .u64 kk, .int .i64 ki, .int .i64 kd, .slice sa sn sc] 56)) := (Below.refl _ _).alloc (Nat.le_refl _) _
        have OA6 := Lib.hid (own_below' o5 bC)
        have OB6 := Lib.hid (own_below' OB5 bC)
        have B6 := B5.trans (bC.mono B5.size)
        have LIT2 := Lib.hid (rd_alloc w5 #[.int .u64 kk, .int .i64 ki, .int .i64 kd, .slice sa sn sc] 56 (0, 0) 1 (by simp [maxLen]))
        clear o5 f5 OA OB LIT OB5 d0 d1 d2 bC BA B1
        go_wp2_with (at_builtin; refine wpList_append_g rfl _ _ 26 rfl w.heap.size 56 _ 4 48 Tryz.underlying26 info_kdRS rfl (by decide) _ (kept (r.take k)).length (kdR (kept (r.take k))) rfl OB6.out _ 1 (kdR [(⟨kk, ki, kd, kp⟩, .slice sa sn sc)]) rfl LIT2.out rfl (kdR_one _ (fun x hx => by obtain rfl := List.mem_singleton.1 hx; exact ⟨_, _, _, rfl⟩)) ?c4 ?c5 ?c6 ?_)
        case c4 => have := HKL.out; unfold maxLen; omega
        case c5 => have := HKL.out; omega
        case c6 => first | exact B6.size | (have := B6.size; simpa using this)
        intro v7 w7 o7 f7
        have B7 := B6.trans f7.below
        have OA7 := f7.ownT OB6.out (show 55 ≠ 56 by decide) OA6.out
        have FA := Lib.hid (show w7.ownsRow w.heap.size 55 4 v5 (kept (r.take (k + 1))).length (kdR (kept (r.take (k + 1)))) by rw [KY.out, List.length_append, kdR_append]; exact OA7)
        have FB := Lib.hid (show w7.ownsRow w.heap.size 56 4 v7 (kept (r.take (k + 1))).length (kdR (kept (r.take (k + 1)))) by rw [KY.out, List.length_append, kdR_append]; exact o7)
        clear o7 f7 OA6 OB6 LIT2 OA7
        go_wp2_with fail
        go_roundw
        case rel => exact ⟨k + 1, hlt, by go_num, FA.out, FB.out, B7⟩
        case measure => simp [intOf]; omega
      · have KN := Lib.hid (kept_no hx hc)
        obtain ⟨⟨kk, ki, kd, kp⟩, xv⟩ := x
        simp only at c0 c1 c2 hp hkx d1 d2 hc
        obtain ⟨sa, sn, sc, rfl⟩ := (hp w (Below.refl _ _)).isSl
        have IK := Lib.hid (ItemKey_no kd _ kp wr (hp wr hb) hc)
        generalize objCode kd kp = K at *
        have t2 : (K != 0) = true := by simpa using hc
        clear hp hkx hkl hx c0 c1 c2 hc
        go_wp2_with fail
        refine IK.out.mono ?_
        rintro e w1 ⟨rfl, b1⟩
        have B1 := hb.trans (b1.mono hbs)
        have FA := Lib.hid (own_below' HA.out b1)
        have FB := Lib.hid (own_below' HB.out b1)
        rw [← KN.out] at FA FB
        clear IK
        go_wp2_with fail
        go_roundw
        case rel => exact ⟨k + 1, hlt, by go_num, FA.out, FB.out, B1⟩
        case measure => simp [intOf]; omega
    · obtain rfl : k = n := by omega
      have t1 : decide ((k : Int) < (k : Int)) = false := by simp
      have FA := Lib.hid (show RunRd wr u4 (kept r) by
        have h := HA.out
        rw [List.take_of_length_le (by rw [← HN.out]; exact Nat.le_refl _)] at h
        exact ⟨Rd.of_own h, fun x hx => (HPA.out x (kept_mem hx)).below hb⟩)
      have FB := Lib.hid (show RunRd wr u5 (kept r) by
        have h := HB.out
        rw [List.take_of_length_le (by rw [← HN.out]; exact Nat.le_refl _)] at h
        exact ⟨Rd.of_own h, fun x hx => (HPA.out x (kept_mem hx)).below hb⟩)
      clear HA HB
      go_wp2_with fail
      go_ret2
      exact ⟨_, _, rfl, FA.out, FB.out, hb⟩

/-- what the runs of a row are -/
theorem runs_fit {s m : Nat} {L : List KdL} (hs : 1 ≤ s) (hm : m = (L.length + s - 1) / s) :
    L.length ≤ m * s ∧ m ≤ L.length ∧ (∀ i, i < m → i * s < L.length) ∧ mergeF (runsL s L m) = L.mergeSort leK ∧ mergeF ([] :: (runsL s L m ++ [[]])) = L.mergeSort leK ∧ (runsL s L m).flatten.Perm L ∧
      (runsL s L m).length = m ∧ (∀ i, i < m → ((runsL s L m).getD i []).length = min s (L.length - i * s)) := by
  have hms : L.length ≤ m * s := by
    have h1 := Nat.lt_succ_self ((L.length + s - 1) / s)
    rw [Nat.div_lt_iff_lt_mul (by omega)] at h1
    rw [hm]
    rw [Nat.succ_mul] at h1
    omega
  have hlt : ∀ i, i < m → i * s < L.length := fun i hi => by
    rw [hm, Nat.lt_iff_add_one_le, Nat.le_div_iff_mul_le (by omega), Nat.succ_mul] at hi
    omega
  refine ⟨hms, ?_, hlt, merge_runs _ _ _ hms, merge_runs_pad _ _ _ hms, ?_, by simp [runsL], fun i hi => ?_⟩
  · rcases Nat.eq_zero_or_pos m with h | h
    · omega
    · have h1 := hlt (m - 1) (by omega)
      have h2 : (m - 1) * 1 ≤ (m - 1) * s := Nat.mul_le_mul_left _ hs
      omega
  · have h1 : ((List.range m).map fun j => (pieceL s L j).mergeSort leK).flatten.Perm ((List.range m).map fun j => pieceL s L j).flatten := flat_perm _ _ (fun j => List.mergeSort_perm _ _) _
    rw [chunk_flat, List.take_of_length_le hms] at h1
    exact h1
  · unfold runsL
    rw [List.getD_eq_getElem?_getD, List.getElem?_map, List.getElem?_range hi]
    simp
end Go.Proofs.YtoggbmfjjenbaaaGreat
