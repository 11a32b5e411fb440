/- slices.stableCmpFunc, SortStableFunc at items with keys: the row is sorted, alike ones as they stood. append with its frame; rows of points of the call's own; slices.Clone of points; sorter.own. -/
import Derived.Test.YtoggbmfjjenbaaaGreatDoorTw7
import Derived.Test.YtoggbmfjjenbaaaGreatDoorTw2
import Derived.Test.YtoggbmfjjenbaaaGreatDoorTw1
import Derived.WalkSpells
import Derived.Lib.SlBytesConst
set_option linter.unusedSimpArgs false
set_option linter.unusedVariables false
namespace Go.Proofs.YtoggbmfjjenbaaaGreatDoor
/-! SStab -/
section
open Go.RowKit

/-- rows bs, each sorted, hold what the pieces of D of length s hold -/
def Blks (s : Nat) : List (List Rk) → List Rk → Prop
  | [], D => D = []
  | b :: bs, D => b.Perm (D.take s) ∧ Srt b ∧ D ≠ [] ∧ Blks s bs (D.drop s)
theorem Blks.perm {s : Nat} : ∀ {bs : List (List Rk)} {D : List Rk}, Blks s bs D → bs.flatten.Perm D
  | [], D, h => by
    obtain rfl : D = [] := h
    exact List.Perm.refl _
  | b :: bs, D, h => by
    obtain ⟨h1, _, _, h2⟩ := h
    have := h1.append (Blks.perm h2)
    rw [List.take_append_drop] at this
    exact this
theorem Blks.length {s : Nat} {bs : List (List Rk)} {D : List Rk} (h : Blks s bs D) : bs.flatten.length = D.length := h.perm.length_eq
theorem Blks.snoc {s : Nat} {b E : List Rk} (hb : b.Perm E) (hs : Srt b) (hE : E ≠ []) (hl : E.length ≤ s) : ∀ {bs : List (List Rk)} {D : List Rk}, Blks s bs D → D.length = s * bs.length → Blks s (bs ++ [b]) (D ++ E)
  | [], D, h, _ => by
    obtain rfl : D = [] := h
    simp only [List.nil_append]
    refine ⟨?_, hs, hE, ?_⟩
    · rw [List.take_of_length_le hl]; exact hb
    · exact List.drop_eq_nil_of_le hl
  | c :: bs, D, h, hD => by
    obtain ⟨h1, h2, h3, h4⟩ := h
    have hlen : s ≤ D.length := by rw [hD, List.length_cons, Nat.mul_succ]; omega
    refine ⟨by rw [List.take_append_of_le_length hlen]; exact h1, h2, by simp [h3], ?_⟩
    rw [List.drop_append_of_le_length hlen]
    exact Blks.snoc hb hs hE hl h4 (by rw [List.length_drop, hD, List.length_cons, Nat.mul_succ]; omega)
/-- two at the head -/
theorem Blks.two {s : Nat} {es : List (List Rk)} {D : List Rk} (h : Blks s es D) (hD : s < D.length) : ∃ e1 e2 es', es = e1 :: e2 :: es' ∧ e1.Perm (D.take s) ∧ e2.Perm ((D.drop s).take s) ∧ Srt e1 ∧ Srt e2 ∧ Blks s es' (D.drop (s + s)) := by
  match es, h with
  | [], h =>
    obtain rfl : D = [] := h
    simp at hD
  | e1 :: [], h =>
    obtain ⟨_, _, _, h4⟩ := h
    have := congrArg List.length (show D.drop s = [] from h4)
    rw [List.length_drop] at this
    simp at this
    omega
  | e1 :: e2 :: es', h =>
    obtain ⟨h1, h2, h3, h4, h5, h6, h7⟩ := h
    rw [List.drop_drop] at h7
    exact ⟨e1, e2, es', rfl, h1, h4, h2, h5, h7⟩
/-- no more than one -/
theorem Blks.one {s : Nat} {es : List (List Rk)} {D : List Rk} (h : Blks s es D) (hD : D.length ≤ s) : (es = [] ∧ D = []) ∨ ∃ e, es = [e] ∧ e.Perm D ∧ Srt e ∧ D ≠ [] := by
  match es, h with
  | [], h => exact .inl ⟨rfl, h⟩
  | e :: es', h =>
    obtain ⟨h1, h2, h3, h4⟩ := h
    rw [List.take_of_length_le hD] at h1
    rw [List.drop_eq_nil_of_le hD] at h4
    match es', h4 with
    | [], _ => exact .inr ⟨e, rfl, h1, h2, h3⟩
    | c :: cs, h4 => exact absurd rfl h4.2.2.1
theorem rise_apart {D : List Rk} (h : Rise D) (s t : Nat) {x y : Rk} (hx : x ∈ D.take s) (hy : y ∈ (D.drop s).take t) : x.2 < y.2 := by
  have hy' : y ∈ D.drop s := List.mem_of_mem_take hy
  have e : D.take s ++ D.drop s = D := List.take_append_drop _ _
  unfold Rise at h
  rw [← e] at h
  exact (List.pairwise_append.1 h).2.2 x hx y hy'
theorem rise_drop {D : List Rk} (h : Rise D) (s : Nat) : Rise (D.drop s) := List.Pairwise.sublist (List.drop_sublist s D) h
theorem rise_take {D : List Rk} (h : Rise D) (s : Nat) : Rise (D.take s) := List.Pairwise.sublist (List.take_sublist s D) h
theorem vals_zip (r : List KdV) : vals r.zipIdx = r := by
  unfold vals
  rw [List.zipIdx_map_fst]

set_option maxRecDepth 100000 in
set_option maxHeartbeats 8000000 in
theorem stable_any (r : List KdV) (w : World) (B g cap n : Nat) (hn : r.length = n) (h : RowO w B g cap r) (hs : ∀ x ∈ r, IsSl x.2) (hn2 : n ≤ 100000) :
    Calls Tryz.prog 52 #[.slice (some ⟨g, 0, none⟩) n cap, .int .i64 n, cmpV] w fun e w' => e = .returned (.tuple #[]) ∧ RowO w' B g cap (r.mergeSort leV) ∧ OnlG g w w' := by
  have hz := vals_zip r
  have hri := rise_zipIdx r
  have hsl : AllSl r.zipIdx := fun x hx => hs _ (by rw [← hz]; exact List.mem_map.2 ⟨x, hx, rfl⟩)
  have hl : r.zipIdx.length = n := by rw [List.length_zipIdx, hn]
  have FIN := Lib.hid (show ∀ b w', b.Perm r.zipIdx → Srt b → RowO w' B g cap (vals b) → RowO w' B g cap (r.mergeSort leV) from fun b w' h1 h2 h3 => by
    rw [← srt_unique r b h1 h2]; exact h3)
  rw [← hz] at h
  generalize r.zipIdx = D at *
  have INS := Lib.hid (fun (A L C : List Rk) (w' : World) (a b : Nat) h1 h2 h3 h4 h5 h6 => ins_any A L C w' B g cap n a b h1 h2 h3 h4 h5 h6 (by omega))
  have SYM := Lib.hid (sym_any B g cap n (by omega) (n + 1))
  have HW := Lib.hid h
  have HD := Lib.hid hl
  have HSL := Lib.hid hsl
  have HRI := Lib.hid hri
  clear h hs hz hri hsl hl hn
  unfold cmpV at *
  go_enter Tryz.func52, Tryz.ntmps52
  go_wp2_with fail
  go_loopw [7, 8] (fun a b wr => ∃ (k x y : Nat) (bs : List (List Rk)), x = 20 * k ∧ y = x + 20 ∧ x ≤ n ∧ a = .int .i64 x ∧ b = .int .i64 y ∧ bs.length = k ∧ Blks 20 bs (D.take x) ∧ RowO wr B g cap (vals (bs.flatten ++ D.drop x)) ∧ OnlG g w wr) (fun a _ _ => n + 1 - (intOf a).toNat)
  case atStart => exact ⟨0, 0, 20, [], rfl, rfl, Nat.zero_le _, rfl, rfl, rfl, (by rw [List.take_zero]; rfl), by simpa using HW.out, OnlG.refl _ _⟩
  case round =>
    obtain ⟨k, x, y, bs, hx, hy, hxn, rfl, rfl, hbl, hbk, hr, ho⟩ := hrel
    have hfl : bs.flatten.length = x := by rw [hbk.length, List.length_take, HD.out]; omega
    by_cases hlt : y ≤ n
    · have t1 : decide ((y : Int) ≤ (n : Int)) = true := by simp; omega
      have hdr : D.drop x = (D.drop x).take 20 ++ D.drop y := by
        rw [hy, ← List.drop_drop, List.take_append_drop]
      have hl1 : ((D.drop x).take 20).length = 20 := by rw [List.length_take, List.length_drop, HD.out]; omega
      have I1 := Lib.hid (INS.out bs.flatten ((D.drop x).take 20) (D.drop y) wr x y hfl (by omega) (by rw [List.length_append, List.length_append, hfl, hl1, List.length_drop, HD.out]; omega) (by rw [List.append_assoc, ← hdr]; exact hr) (fun z hz => HSL.out z (List.mem_of_mem_drop (List.mem_of_mem_take hz))) (rise_take (rise_drop HRI.out x) 20))
      have F2 := Lib.hid (show ∀ L' w', L'.Perm ((D.drop x).take 20) → Srt L' → RowO w' B g cap (vals (bs.flatten ++ L' ++ D.drop y)) → OnlG g wr w' → ∃ (k' x' y' : Nat) (bs' : List (List Rk)), x' = 20 * k' ∧ y' = x' + 20 ∧ x' ≤ n ∧ Value.int .i64 (y : Int) = .int .i64 x' ∧ Value.int .i64 ((y + 20 : Nat) : Int) = .int .i64 y' ∧ bs'.length = k' ∧ Blks 20 bs' (D.take x') ∧ RowO w' B g cap (vals (bs'.flatten ++ D.drop x')) ∧ OnlG g w w' from fun L' w' q1 q2 q3 q4 =>
        ⟨k + 1, y, y + 20, bs ++ [L'], by omega, rfl, hlt, rfl, rfl, by simp [hbl], by
          have e : D.take y = D.take x ++ (D.drop x).take 20 := by rw [hy, List.take_add]
          rw [e]
          exact Blks.snoc q1 q2 (fun h => by rw [h] at hl1; simp at hl1) (by omega) hbk (by rw [List.length_take, HD.out]; omega), by simpa using q3, ho.trans q4⟩)
      clear hr ho hbk hx hfl hl1 hdr hbl
      have HY := Lib.hid hy
      clear hy
      go_wp2_with fail
      refine I1.out.mono ?_
      rintro e w2 ⟨rfl, L', q1, q2, q3, q4⟩
      have F3 := Lib.hid (F2.out L' w2 q1 q2 q3 q4)
      clear q1 q2 q3 q4 F2 I1
      go_wp2_with fail
      go_roundw
      case rel => exact F3.out
      case measure => simp [intOf]; have := HY.out; omega
    · have t1 : decide ((y : Int) ≤ (n : Int)) = false := by simp; omega
      have I1 := Lib.hid (INS.out bs.flatten (D.drop x) [] wr x n hfl (by rw [List.length_drop, HD.out]; omega) (by rw [List.length_append, List.length_append, hfl, List.length_drop, HD.out]; simp; omega) (by rw [List.append_nil]; exact hr) (fun z hz => HSL.out z (List.mem_of_mem_drop hz)) (rise_drop HRI.out x))
      have F2 := Lib.hid (show ∀ L' w', L'.Perm (D.drop x) → Srt L' → RowO w' B g cap (vals (bs.flatten ++ L' ++ [])) → ∃ bs', Blks 20 bs' D ∧ RowO w' B g cap (vals bs'.flatten) from fun L' w' q1 q2 q3 => by
        rw [List.append_nil] at q3
        rcases nil_or_pos (D.drop x) with h0 | h0
        · have e0 : L' = [] := by rw [h0] at q1; exact List.Perm.eq_nil q1
          refine ⟨bs, ?_, by rw [e0, List.append_nil] at q3; exact q3⟩
          have e := List.take_append_drop x D
          rw [h0, List.append_nil] at e
          rw [← e]; exact hbk
        · refine ⟨bs ++ [L'], ?_, by simpa using q3⟩
          have e := List.take_append_drop x D
          rw [← e]
          exact Blks.snoc q1 q2 (fun h => by rw [h] at h0; simp at h0) (by rw [List.length_drop, HD.out]; omega) hbk (by rw [List.length_take, HD.out]; omega))
      have HO := Lib.hid ho
      clear hr ho hbk hx hfl hbl hy
      go_wp2_with fail
      refine I1.out.mono ?_
      rintro e w2 ⟨rfl, L', q1, q2, q3, q4⟩
      have F3 := Lib.hid (F2.out L' w2 q1 q2 q3)
      have O2 := Lib.hid (HO.out.trans q4)
      clear q1 q2 q3 q4 F2 I1 HO
      go_wp2_with fail
      go_loopw [6] (fun sv wr => ∃ (s : Nat) (bs : List (List Rk)), 1 ≤ s ∧ s ≤ 2 * n + 20 ∧ sv = .int .i64 s ∧ Blks s bs D ∧ RowO wr B g cap (vals bs.flatten) ∧ OnlG g w wr) (fun sv _ => 4 * n + 60 - (intOf sv).toNat)
      case atStart =>
        obtain ⟨bs', z1, z2⟩ := F3.out
        exact ⟨20, bs', by omega, by omega, rfl, z1, z2, O2.out⟩
      case round =>
        obtain ⟨s, bs, hs1, hs2, rfl, hbk, hr, ho⟩ := hrel
        have HBK := Lib.hid hbk
        have HR := Lib.hid hr
        have HO := Lib.hid ho
        clear hbk hr ho
        by_cases hlt : s < n
        · have t1 : decide ((s : Int) < (n : Int)) = true := by simp; omega
          obtain ⟨s2, hs3⟩ : ∃ s2, s2 = 2 * s := ⟨_, rfl⟩
          have q1 : 2 * (s : Int) = (s2 : Int) := by omega
          have q1' : (s : Int) * 2 = (s2 : Int) := by omega
          have ws2 : IntKind.i64.wrap (s2 : Int) = (s2 : Int) := IntWalk.i64_in _ (by omega)
          have HS3 := Lib.hid hs3
          have hsb : s2 ≤ 200000 := by omega
          clear hs3
          go_wp2_with fail
          go_loopw [7, 8] (fun a b wr => ∃ (k x y : Nat) (ds es : List (List Rk)), x = s2 * k ∧ y = x + s2 ∧ x ≤ n ∧ a = .int .i64 x ∧ b = .int .i64 y ∧ ds.length = k ∧ Blks s2 ds (D.take x) ∧ Blks s es (D.drop x) ∧ RowO wr B g cap (vals (ds.flatten ++ es.flatten)) ∧ OnlG g w wr) (fun a _ _ => n + 1 - (intOf a).toNat)
          case atStart => exact ⟨0, 0, s2, [], bs, rfl, by omega, Nat.zero_le _, rfl, rfl, rfl, (by rw [List.take_zero]; rfl), (by rw [List.drop_zero]; exact HBK.out), by simpa using HR.out, HO.out⟩
          case round =>
            obtain ⟨k, x, y, ds, es, hx, hy, hxn, rfl, rfl, hdl, hds, hes, hr, ho⟩ := hrel
            have hfl : ds.flatten.length = x := by rw [hds.length, List.length_take, HD.out]; omega
            have hs3 := HS3.out
            by_cases hlt : y ≤ n
            · have t2 : decide ((y : Int) ≤ (n : Int)) = true := by simp; omega
              obtain ⟨e1, e2, es', rfl, p1, p2, o1, o2, hes'⟩ := hes.two (by rw [List.length_drop, HD.out]; omega)
              obtain ⟨m, hm⟩ : ∃ m, m = x + s := ⟨_, rfl⟩
              have q2 : (x : Int) + (s : Int) = (m : Int) := by omega
              have l1 : e1.length = s := by rw [p1.length_eq, List.length_take, List.length_drop, HD.out]; omega
              have l2 : e2.length = s := by rw [p2.length_eq, List.length_take, List.length_drop, List.length_drop, HD.out]; omega
              have l3 : es'.flatten.length = n - y := by rw [hes'.length, List.length_drop, List.length_drop, HD.out]; omega
              have S1 := Lib.hid (SYM.out ds.flatten e1 e2 es'.flatten wr x m y (by omega) hfl (by omega) (by omega) (by omega) (by omega) (by rw [List.length_append, List.length_append, List.length_append, hfl, l1, l2, l3]; omega) (by simpa using hr)
                (fun z hz => HSL.out z (List.mem_of_mem_drop (List.mem_of_mem_take (p1.mem_iff.1 hz)))) (fun z hz => HSL.out z (List.mem_of_mem_drop (List.mem_of_mem_drop (List.mem_of_mem_take (p2.mem_iff.1 hz))))) o1 o2
                (fun z hz z' hz' => rise_apart (rise_drop HRI.out x) s s (p1.mem_iff.1 hz) (p2.mem_iff.1 hz')))
              have F2 := Lib.hid (show ∀ M w', M.Perm (e1 ++ e2) → Srt M → RowO w' B g cap (vals (ds.flatten ++ M ++ es'.flatten)) → OnlG g wr w' → ∃ (k' x' y' : Nat) (ds' es : List (List Rk)), x' = s2 * k' ∧ y' = x' + s2 ∧ x' ≤ n ∧ Value.int .i64 (y : Int) = .int .i64 x' ∧ Value.int .i64 ((y + s2 : Nat) : Int) = .int .i64 y' ∧ ds'.length = k' ∧ Blks s2 ds' (D.take x') ∧ Blks s es (D.drop x') ∧ RowO w' B g cap (vals (ds'.flatten ++ es.flatten)) ∧ OnlG g w w' from fun M w' a1 a2 a3 a4 => by
                have e : D.take y = D.take x ++ ((D.drop x).take s ++ ((D.drop x).drop s).take s) := by
                  rw [← List.take_add, hy, List.take_add, show s + s = s2 by omega]
                have e' : (D.drop x).drop (s + s) = D.drop y := by rw [List.drop_drop]; congr 1; omega
                refine ⟨k + 1, y, y + s2, ds ++ [M], es', by rw [Nat.mul_succ]; omega, rfl, hlt, rfl, rfl, by simp [hdl], ?_, by rw [← e']; exact hes', by simpa using a3, ho.trans a4⟩
                rw [e]
                have hp := a1.trans (p1.append p2)
                exact Blks.snoc hp a2 (fun h => by
                  have := hp.length_eq
                  rw [h, a1.length_eq, List.length_append, l1] at this
                  simp at this
                  omega) (by rw [List.length_append, List.length_take, List.length_take, List.length_drop, List.length_drop]; omega) hds (by rw [List.length_take, HD.out, hdl, ← hx]; omega))
              have HY := Lib.hid hy
              clear hr ho hds hes' hx hfl hdl p1 p2 o1 o2 hy l1 l2 l3 hm hs3 hes
              go_wp2_with fail
              refine S1.out.mono ?_
              rintro e w2 ⟨rfl, M, a1, a2, a3, a4⟩
              have F3 := Lib.hid (F2.out M w2 a1 a2 a3 a4)
              clear a1 a2 a3 a4 F2 S1
              go_wp2_with fail
              go_roundw
              case rel => exact F3.out
              case measure => simp [intOf]; have := HY.out; omega
            · have t2 : decide ((y : Int) ≤ (n : Int)) = false := by simp; omega
              obtain ⟨m, hm⟩ : ∃ m, m = x + s := ⟨_, rfl⟩
              have q2 : (x : Int) + (s : Int) = (m : Int) := by omega
              by_cases hmn : m < n
              · have t3 : decide ((m : Int) < (n : Int)) = true := by simp; omega
                obtain ⟨e1, e2, es', rfl, p1, p2, o1, o2, hes'⟩ := hes.two (by rw [List.length_drop, HD.out]; omega)
                have l1 : e1.length = s := by rw [p1.length_eq, List.length_take, List.length_drop, HD.out]; omega
                have l2 : e2.length = n - m := by rw [p2.length_eq, List.length_take, List.length_drop, List.length_drop, HD.out]; omega
                have l3 : es' = [] := by
                  have := hes'.length
                  rw [List.length_drop, List.length_drop, HD.out] at this
                  match es', hes' with
                  | [], _ => rfl
                  | c :: cs, h =>
                    exact absurd (List.drop_eq_nil_of_le (by rw [List.length_drop, HD.out]; omega)) h.2.2.1
                subst l3
                have S1 := Lib.hid (SYM.out ds.flatten e1 e2 [] wr x m n (by omega) hfl (by omega) (by omega) (by omega) (by omega) (by rw [List.length_append, List.length_append, List.length_append, hfl, l1, l2]; simp; omega) (by simpa using hr)
                  (fun z hz => HSL.out z (List.mem_of_mem_drop (List.mem_of_mem_take (p1.mem_iff.1 hz)))) (fun z hz => HSL.out z (List.mem_of_mem_drop (List.mem_of_mem_drop (List.mem_of_mem_take (p2.mem_iff.1 hz))))) o1 o2
                  (fun z hz z' hz' => rise_apart (rise_drop HRI.out x) s s (p1.mem_iff.1 hz) (p2.mem_iff.1 hz')))
                have F2 := Lib.hid (show ∀ M w', M.Perm (e1 ++ e2) → Srt M → RowO w' B g cap (vals (ds.flatten ++ M ++ [])) → OnlG g wr w' → ∃ (s' : Nat) (bs : List (List Rk)), 1 ≤ s' ∧ s' ≤ 2 * n + 20 ∧ Value.int .i64 (s2 : Int) = .int .i64 s' ∧ Blks s' bs D ∧ RowO w' B g cap (vals bs.flatten) ∧ OnlG g w w' from fun M w' a1 a2 a3 a4 => by
                  have e : D = D.take x ++ ((D.drop x).take s ++ ((D.drop x).drop s).take s) := by
                    rw [← List.take_add, show s + s = s2 by omega, List.take_of_length_le (l := D.drop x) (by rw [List.length_drop, HD.out]; omega), List.take_append_drop]
                  refine ⟨s2, ds ++ [M], by omega, by omega, rfl, ?_, by simpa using a3, ho.trans a4⟩
                  rw [e]
                  have hp := a1.trans (p1.append p2)
                  exact Blks.snoc hp a2 (fun h => by
                    have := hp.length_eq
                    rw [h, a1.length_eq, List.length_append, l1] at this
                    simp at this
                    omega) (by rw [List.length_append, List.length_take, List.length_take, List.length_drop, List.length_drop]; omega) hds (by rw [List.length_take, HD.out, hdl, ← hx]; omega))
                clear hr ho hds hes' hx hfl hdl p1 p2 o1 o2 hy l1 l2 hm hs3 hes
                go_wp2_with fail
                refine S1.out.mono ?_
                rintro e w2 ⟨rfl, M, a1, a2, a3, a4⟩
                have F3 := Lib.hid (F2.out M w2 a1 a2 a3 a4)
                clear a1 a2 a3 a4 F2 S1
                go_wp2_with fail
                go_roundw
                case rel => exact F3.out
                case measure => simp [intOf]; have := HS3.out; omega
              · have t3 : decide ((m : Int) < (n : Int)) = false := by simp; omega
                have F3 := Lib.hid (show ∃ (s' : Nat) (bs : List (List Rk)), 1 ≤ s' ∧ s' ≤ 2 * n + 20 ∧ Value.int .i64 (s2 : Int) = .int .i64 s' ∧ Blks s' bs D ∧ RowO wr B g cap (vals bs.flatten) ∧ OnlG g w wr from by
                  rcases hes.one (by rw [List.length_drop, HD.out]; omega) with ⟨rfl, hD0⟩ | ⟨e1, rfl, p1, o1, hne⟩
                  · refine ⟨s2, ds, by omega, by omega, rfl, ?_, by simpa using hr, ho⟩
                    have e := List.take_append_drop x D
                    rw [hD0, List.append_nil] at e
                    rw [← e]; exact hds
                  · refine ⟨s2, ds ++ [e1], by omega, by omega, rfl, ?_, by simpa using hr, ho⟩
                    have e := List.take_append_drop x D
                    rw [← e]
                    exact Blks.snoc p1 o1 hne (by rw [List.length_drop, HD.out]; omega) hds (by rw [List.length_take, HD.out, hdl, ← hx]; omega))
                clear hr ho hds hes hx hfl hdl hy hm hs3
                go_wp2_with fail
                go_roundw
                case rel => exact F3.out
                case measure => simp [intOf]; have := HS3.out; omega
        · have t1 : decide ((s : Int) < (n : Int)) = false := by simp; omega
          have F3 := Lib.hid (show RowO wr B g cap (r.mergeSort leV) from by
            rcases HBK.out.one (by rw [HD.out]; omega) with ⟨rfl, hD0⟩ | ⟨e1, rfl, p1, o1, hne⟩
            · exact FIN.out [] wr (by rw [hD0]) List.Pairwise.nil (by simpa using HR.out)
            · exact FIN.out e1 wr p1 o1 (by simpa using HR.out))
          clear HBK HR
          go_wp2_with fail
          go_end0
          exact ⟨rfl, F3.out, HO.out⟩

theorem stableF_any (r : List KdV) (w : World) (B g cap n : Nat) (hn : r.length = n) (h : RowO w B g cap r) (hs : ∀ x ∈ r, IsSl x.2) (hn2 : n ≤ 100000) :
    Calls Tryz.prog 31 #[.slice (some ⟨g, 0, none⟩) n cap, cmpV] w fun e w' => e = .returned (.tuple #[]) ∧ RowO w' B g cap (r.mergeSort leV) ∧ OnlG g w w' := by
  have S := Lib.hid (stable_any r w B g cap n hn h hs hn2)
  unfold cmpV at *
  clear h hn hs
  go_enter Tryz.func31, Tryz.ntmps31
  go_wp2_with fail
  refine S.out.mono ?_
  rintro e w2 ⟨rfl, q1, q2⟩
  go_wp2_with fail
  go_end0
  exact ⟨rfl, q1, q2⟩
end

/-! SOwn -/
section
open Go.RowKit

/-- the block of the row v alone, and new ones, turn -/
structure FrmG (v : Value) (B : Nat) (w w' : World) : Prop where
  below : Below B w w'
  kept : ∀ k, k < w.heap.size → v.ownBlock ≠ some k → w'.heap[k]? = w.heap[k]?
theorem FrmG.own {v0 : Value} {B : Nat} {w w' : World} (h : FrmG v0 B w w') {b s n : Nat} {e : TypeId} {v : Value} {xs : List Value} (hne : ∀ k, v.ownBlock = some k → v0.ownBlock ≠ some k) (ho : w.ownsRow b e s v n xs) : w'.ownsRow b e s v n xs := by
  refine ⟨ho.1, ?_⟩
  rcases ho.2 with hn | ⟨g, cap, cur, rfl, hbg, hg, q⟩
  · exact .inl hn
  · exact .inr ⟨g, cap, cur, rfl, hbg, (h.kept g (lt_of_block hg) (hne g (by simp [Value.ownBlock]))).trans hg, q⟩
/-- a row of another type stays -/
theorem FrmG.ownT {e0 : TypeId} {s0 n0 b0 : Nat} {xs0 : List Value} {v0 : Value} {B : Nat} {w w' : World} (h : FrmG v0 B w w') (h0 : w.ownsRow b0 e0 s0 v0 n0 xs0) {b s n : Nat} {e : TypeId} {v : Value} {xs : List Value} (hne : e ≠ e0) (ho : w.ownsRow b e s v n xs) : w'.ownsRow b e s v n xs := by
  refine h.own (fun k hk q => ?_) ho
  obtain ⟨c1, m1, h1⟩ := Go.Lib.ownsRow_kind ho k hk
  obtain ⟨c2, m2, h2⟩ := Go.Lib.ownsRow_kind h0 k q
  rw [h1] at h2
  simp at h2
  exact hne h2.2.1

/-- append(v, x...): v owned, x whatever can be read; all else stays. -/
theorem wp_append_g {P : Program} {w : World} {o : Oper} {a : Act} {K : Act → World → Prop} {Q : Exit → Act → World → Prop} (s x : Operand) (t : TypeId)
    (ho : o.op = .call { callee := .builtin .append, args := #[s, x], argTypes := #[t, t] })
    (base : Nat) (e : TypeId) (z : Value) (size bytes : Nat) (ht : P.underlying t = some (.slice e)) (hi : (P.info? e).map (fun i => (i.zero, i.size, i.bytes)) = some (some z, size, bytes))
    (hzs : z.cells.size = size) (hsz : 0 < size)
    (v : Value) (n : Nat) (xs : List Value) (hs : a.eval s = v) (hown : w.ownsRow base e size v n xs)
    (y : Value) (m : Nat) (news : List Value) (hx : a.eval x = y) (hy : Rd w y m news) (hl : news.length = m * size) (h1 : ∀ u ∈ news, u.oneCell' = true)
    (h63 : n + m ≤ maxLen) (hbytes : (n + m) * bytes ≤ 140737488355328) (hbase : base ≤ w.heap.size)
    (h : ∀ v' w', w'.ownsRow base e size v' (n + m) (xs ++ news) → FrmG v base w w' → K (a.put o.dst v') w') : o.wp P a w K Q := by
  obtain ⟨i, hi, hz, hsize, hby⟩ := info_parts hi
  obtain ⟨ao, c, rfl, h2, h3, h0, h4⟩ := hy
  cases ao with
  | none =>
    obtain rfl := h0 rfl
    obtain rfl : m = 0 := by omega
    obtain rfl : news = [] := List.eq_nil_of_length_eq_zero (by simpa using hl)
    have hrun := run_append_owned_none (P := P) (w := w) base t o.type e i size ht hi v n xs hown
    unfold Oper.wp
    simp [execOp, ho, resolve, invoke, builtin, hs, hx, hrun, Result.andThen]
    exact h v w (by simpa using hown) ⟨Below.refl _ _, fun _ _ _ => rfl⟩
  | some ad =>
    refine wp_append_own w s x t ho base e i z size bytes ht hi hz hsize hby hzs hsz v n xs hs hown ad m c news hx hl ?_ h1 h63 hbytes hbase ?_
    · intro j u hu
      obtain ⟨hj, rfl⟩ := List.getElem?_eq_some_iff.1 hu
      obtain ⟨b, off, e, hlt, hc⟩ := h4 j hj
      obtain rfl := Option.some.inj e
      rw [Addr.add_lit]
      exact hc
    · intro v' w' h5 h6 h7
      exact h v' w' h5 ⟨below_grown hown h6 (Nat.le_refl _) hbase, fun k hk hne => h6.block k hk (fun q => hne q.symm)⟩
theorem wpList_append_g {P : Program} {w : World} {ops : Array Oper} {rest : List Oper} {o : Oper} {a : Act} {Q : Exit → Act → World → Prop} (hgd : o.guard = none) (s x : Operand) (t : TypeId)
    (ho : o.op = .call { callee := .builtin .append, args := #[s, x], argTypes := #[t, t] })
    (base : Nat) (e : TypeId) (z : Value) (size bytes : Nat) (ht : P.underlying t = some (.slice e)) (hi : (P.info? e).map (fun i => (i.zero, i.size, i.bytes)) = some (some z, size, bytes))
    (hzs : z.cells.size = size) (hsz : 0 < size)
    (v : Value) (n : Nat) (xs : List Value) (hs : a.eval s = v) (hown : w.ownsRow base e size v n xs)
    (y : Value) (m : Nat) (news : List Value) (hx : a.eval x = y) (hy : Rd w y m news) (hl : news.length = m * size) (h1 : ∀ u ∈ news, u.oneCell' = true)
    (h63 : n + m ≤ maxLen) (hbytes : (n + m) * bytes ≤ 140737488355328) (hbase : base ≤ w.heap.size)
    (h : ∀ v' w', w'.ownsRow base e size v' (n + m) (xs ++ news) → FrmG v base w w' → wpList P ops Q rest (a.put o.dst v') w') : wpList P ops Q (o :: rest) a w :=
  wpList_plain hgd fun _ hK => wp_append_g s x t ho base e z size bytes ht hi hzs hsz v n xs hs hown y m news hx hy hl h1 h63 hbytes hbase fun v' w' h2 h3 => hK _ _ (h v' w' h2 h3)
theorem step_append_g {P : Program} {w : World} {ops : Array Oper} {o : Oper} {a : Act} {K : Act → World → Prop} {Q : Exit → Act → World → Prop} {E : Prop} (hgd : o.guard = none) (s x : Operand) (t : TypeId)
    (ho : o.op = .call { callee := .builtin .append, args := #[s, x], argTypes := #[t, t] })
    (base : Nat) (e : TypeId) (z : Value) (size bytes : Nat) (ht : P.underlying t = some (.slice e)) (hi : (P.info? e).map (fun i => (i.zero, i.size, i.bytes)) = some (some z, size, bytes))
    (hzs : z.cells.size = size) (hsz : 0 < size)
    (v : Value) (n : Nat) (xs : List Value) (hs : a.eval s = v) (hown : w.ownsRow base e size v n xs)
    (y : Value) (m : Nat) (news : List Value) (hx : a.eval x = y) (hy : Rd w y m news) (hl : news.length = m * size) (h1 : ∀ u ∈ news, u.oneCell' = true)
    (h63 : n + m ≤ maxLen) (hbytes : (n + m) * bytes ≤ 140737488355328) (hbase : base ≤ w.heap.size)
    (h : ∀ v' w', w'.ownsRow base e size v' (n + m) (xs ++ news) → FrmG v base w w' → K (a.put o.dst v') w') :
    if Region.wanted o (yielded ops a.tmps) = true then Oper.wp P o a w K Q else E := by
  have hw : Region.wanted o (yielded ops a.tmps) = true := by simp [Region.wanted, hgd]
  rw [if_pos hw]
  exact wp_append_g s x t ho base e z size bytes ht hi hzs hsz v n xs hs hown y m news hx hy hl h1 h63 hbytes hbase h

/-- a store below the rows that the call owns -/
theorem own_setLow {w : World} {base : Nat} {e : TypeId} {size n : Nat} {v : Value} {xs : List Value} (h : w.ownsRow base e size v n xs) {g : Nat} (hg : g < base) (j : Nat) (u : Value) : (w.setCell ⟨g, j, none⟩ u).ownsRow base e size v n xs := by
  refine ⟨h.1, ?_⟩
  rcases h.2 with hn | ⟨g', cap, cur, rfl, hbg, hg', q⟩
  · exact .inl hn
  · exact .inr ⟨g', cap, cur, rfl, hbg, (Below.heap_setCell _ _ _ _ (fun q => by simp at q; omega)).trans hg', q⟩

/-! ### points -/
theorem info_ptS : (Tryz.prog.info? 67).map (fun i => (i.zero, i.size, i.bytes)) = some (some (.agg #[.int .i64 0, .int .i64 0]), 2, 16) := by kernel_rfl
/-- v is a row of points of the call's own, from block 'base' on. -/
def OwnPt (w : World) (base : Nat) (v : Value) (l : List Pt) : Prop := w.ownsRow base 67 2 v l.length (ptsV l)
theorem OwnPt.pts {w : World} {base : Nat} {v : Value} {l : List Pt} (h : OwnPt w base v l) : Pts w v l := Rd.of_own h
theorem OwnPt.below {w w' : World} {base : Nat} {v : Value} {l : List Pt} (h : OwnPt w base v l) (hb : Below w.heap.size w w') : OwnPt w' base v l := own_below' h hb
theorem Pts.isSl {w : World} {v : Value} {l : List Pt} (h : Pts w v l) : IsSl v := by obtain ⟨ao, c, e, _⟩ := h; exact ⟨ao, _, c, e⟩
theorem OwnPt.isSl {w : World} {base : Nat} {v : Value} {l : List Pt} (h : OwnPt w base v l) : IsSl v := h.pts.isSl

/-- slices.Clone of points -/
theorem CloneP_any (v : Value) (l : List Pt) (w : World) (hv : Pts w v l) (hl : l.length ≤ 1000000) :
    Calls Tryz.prog 51 #[v] w fun e w' => ∃ v', e = .returned v' ∧ OwnPt w' w.heap.size v' l ∧ Below w.heap.size w w' := by
  obtain ⟨ao, c, rfl, h1, h2, h0, h3⟩ := hv.open
  unfold maxLen at h2
  cases ao with
  | none =>
    obtain rfl := h0 rfl
    obtain rfl : l = [] := List.eq_nil_of_length_eq_zero (by omega)
    have he := Lib.run_eql_slice_nil (P := Tryz.prog) w 37 67 none 0 0 0 0 Tryz.underlying37
    go_enter Tryz.func51, Tryz.ntmps51
    go_wp2
    go_ret
    exact ⟨_, rfl, World.ownsRow_nil _ _ _ _, Below.refl _ _⟩
  | some ad =>
    have he := Lib.run_eql_slice_nil (P := Tryz.prog) w 37 67 (some ad) l.length c 0 0 Tryz.underlying37
    go_enter Tryz.func51, Tryz.ntmps51
    have ho : (w.alloc (.cells #[] 67)).ownsRow w.heap.size 67 2 (.slice (some ⟨w.heap.size, 0, none⟩) 0 0) 0 [] := World.ownsRow_lit w #[] 0 (Nat.le_refl _) (by simp [maxLen]) rfl
    have hv' : Rd (w.alloc (.cells #[] 67)) (.slice (some ad) l.length c) l.length (ptsV l) := Rd.alloc hv _
    clear hv h0 h3
    go_wp2_with (at_builtin; refine wpList_append_g rfl _ _ 37 rfl w.heap.size 67 _ 2 16 Tryz.underlying37 info_ptS rfl (by decide) _ 0 [] rfl ho _ l.length (ptsV l) rfl hv' (ptsV_length _) (ptsV_one _) ?c1 ?c2 ?c3 ?_)
    case c1 => unfold maxLen; omega
    case c2 => omega
    case c3 => simp
    intro v2 w2 ho2 hb2
    go_wp2
    go_ret
    refine ⟨_, rfl, ?_, ((Below.refl _ _).alloc (Nat.le_refl _) _).trans hb2.below⟩
    have h3 : OwnPt w2 w.heap.size v2 l := by unfold OwnPt; simpa using ho2
    exact h3

theorem own_cells (w : World) (g : Nat) (x y z t : Value) (h : w.there g 0 4) :
    ((((w.setCell ⟨g, 0, none⟩ x).setCell ⟨g, 1, none⟩ y).setCell ⟨g, 2, none⟩ z).setCell ⟨g, 3, none⟩ t).cell? ⟨g, 0, none⟩ = some x ∧ ((((w.setCell ⟨g, 0, none⟩ x).setCell ⟨g, 1, none⟩ y).setCell ⟨g, 2, none⟩ z).setCell ⟨g, 3, none⟩ t).cell? ⟨g, 1, none⟩ = some y ∧
    ((((w.setCell ⟨g, 0, none⟩ x).setCell ⟨g, 1, none⟩ y).setCell ⟨g, 2, none⟩ z).setCell ⟨g, 3, none⟩ t).cell? ⟨g, 2, none⟩ = some z ∧ ((((w.setCell ⟨g, 0, none⟩ x).setCell ⟨g, 1, none⟩ y).setCell ⟨g, 2, none⟩ z).setCell ⟨g, 3, none⟩ t).cell? ⟨g, 3, none⟩ = some t := by
  have r := World.rangeAt_setCells_same w g 0 [x, y, z, t] h
  exact ⟨r 0 _ rfl, r 1 _ rfl, r 2 _ rfl, r 3 _ rfl⟩

set_option maxRecDepth 100000 in
/-- sorter.own -/
theorem own_any (x : KdV) (w : World) (hx : Pts w x.2 x.1.pts) (hl : x.1.pts.length ≤ 1000000) :
    Calls Tryz.prog 30 #[kdA x] w fun e w' => ∃ v', e = .returned (kdA (x.1, v')) ∧ OwnPt w' w.heap.size v' x.1.pts ∧ Below w.heap.size w w' := by
  obtain ⟨⟨k, i, d, p⟩, v⟩ := x
  simp only at hx hl
  unfold kdA
  simp only
  have hx0 := hx
  obtain ⟨ao, c, rfl, h1, h2, _, _⟩ := hx.open
  have BA : Below w.heap.size w (w.alloc (.cells #[.int .u64 k, .int .i64 i, .int .i64 d, .slice ao p.length c] 53)) := (Below.refl _ _).alloc (Nat.le_refl _) _
  have BB : Below w.heap.size w ((w.alloc (.cells #[.int .u64 k, .int .i64 i, .int .i64 d, .slice ao p.length c] 53)).alloc (.cells #[.int .u64 0, .int .i64 0, .int .i64 0, .slice none 0 0] 53)) := BA.alloc BA.size _
  have C := Lib.hid (CloneP_any _ p _ (hx0.below BB) hl)
  have HX := Lib.hid (show ∀ j, j < 4 → ((w.alloc (.cells #[.int .u64 k, .int .i64 i, .int .i64 d, .slice ao p.length c] 53)).alloc (.cells #[.int .u64 0, .int .i64 0, .int .i64 0, .slice none 0 0] 53)).heap[w.heap.size]? = some (.cells #[.int .u64 k, .int .i64 i, .int .i64 d, .slice ao p.length c] 53 (0, 0)) ∧
      ((w.alloc (.cells #[.int .u64 k, .int .i64 i, .int .i64 d, .slice ao p.length c] 53)).alloc (.cells #[.int .u64 0, .int .i64 0, .int .i64 0, .slice none 0 0] 53)).heap[w.heap.size + 1]? = some (.cells #[.int .u64 0, .int .i64 0, .int .i64 0, .slice none 0 0] 53 (0, 0)) from fun j _ => by
    have e1 := heap_alloc_new (w.alloc (.cells #[.int .u64 k, .int .i64 i, .int .i64 d, .slice ao p.length c] 53)) (.cells #[.int .u64 0, .int .i64 0, .int .i64 0, .slice none 0 0] 53)
    have e2 := heap_alloc_new w (.cells #[.int .u64 k, .int .i64 i, .int .i64 d, .slice ao p.length c] 53)
    rw [show (w.alloc (.cells #[.int .u64 k, .int .i64 i, .int .i64 d, .slice ao p.length c] 53)).heap.size = w.heap.size + 1 by simp] at e1
    refine ⟨?_, e1⟩
    rw [← e2]
    exact ((Below.refl _ _).alloc (Nat.le_refl _) _).block _ (by simp))
  have HB := Lib.hid BB
  clear hx hx0 BA BB
  unfold maxLen at h2
  go_enter Tryz.func30, Tryz.ntmps30
  go_wp2_with fail
  refine C.out.mono ?_
  rintro e w2 ⟨v2, rfl, o2, b2⟩
  generalize (w.alloc (.cells #[.int .u64 k, .int .i64 i, .int .i64 d, .slice ao p.length c] 53)).alloc (.cells #[.int .u64 0, .int .i64 0, .int .i64 0, .slice none 0 0] 53) = w1 at *
  obtain ⟨hx1, hx2⟩ := HX.out 0 (by omega)
  have g1 := (b2.block _ (lt_of_block hx1)).trans hx1
  have g2 := (b2.block _ (lt_of_block hx2)).trans hx2
  have B2 := HB.out.trans (b2.mono HB.out.size)
  have hl1 := lt_of_block g1
  have hl2 := lt_of_block g2
  have hb1 : w.heap.size + 1 < w1.heap.size := lt_of_block hx2
  obtain ⟨a2, n2, c2, rfl⟩ := o2.isSl
  have p0 : w2.cell? ⟨w.heap.size, 0, none⟩ = some (.int .u64 k) := by simp [World.cell?, g1]
  have p1 : w2.cell? ⟨w.heap.size, 1, none⟩ = some (.int .i64 i) := by simp [World.cell?, g1]
  have p2 : w2.cell? ⟨w.heap.size, 2, none⟩ = some (.int .i64 d) := by simp [World.cell?, g1]
  have p3 : w2.cell? ⟨w.heap.size, 3, none⟩ = some (.slice ao p.length c) := by simp [World.cell?, g1]
  have f3 : w2.frozen? ⟨w.heap.size, 3, none⟩ = false := by simp [World.frozen?, g1]
  have q0 : w2.cell? ⟨w.heap.size + 1, 0, none⟩ = some (.int .u64 0) := by simp [World.cell?, g2]
  have q1 : w2.cell? ⟨w.heap.size + 1, 1, none⟩ = some (.int .i64 0) := by simp [World.cell?, g2]
  have q2 : w2.cell? ⟨w.heap.size + 1, 2, none⟩ = some (.int .i64 0) := by simp [World.cell?, g2]
  have q3 : w2.cell? ⟨w.heap.size + 1, 3, none⟩ = some (.slice none 0 0) := by simp [World.cell?, g2]
  have e0 : w2.frozen? ⟨w.heap.size + 1, 0, none⟩ = false := by simp [World.frozen?, g2]
  have e1 : w2.frozen? ⟨w.heap.size + 1, 1, none⟩ = false := by simp [World.frozen?, g2]
  have e2 : w2.frozen? ⟨w.heap.size + 1, 2, none⟩ = false := by simp [World.frozen?, g2]
  have e3 : w2.frozen? ⟨w.heap.size + 1, 3, none⟩ = false := by simp [World.frozen?, g2]
  have HO := Lib.hid (own_base (own_setLow (own_setLow (own_setLow (own_setLow (own_setLow o2 (g := w.heap.size) (by omega) 3 (.slice a2 n2 c2)) (g := w.heap.size + 1) (by omega) 0 (.int .u64 k)) (g := w.heap.size + 1) (by omega) 1 (.int .i64 i)) (g := w.heap.size + 1) (by omega) 2 (.int .i64 d)) (g := w.heap.size + 1) (by omega) 3 (.slice a2 n2 c2)) (show w.heap.size ≤ w1.heap.size by omega))
  have B3 := B2.setCell (p := ⟨w.heap.size, 3, none⟩) (Nat.le_refl _) (.slice a2 n2 c2)
  have B4 := Lib.hid ((((B3.setCell (p := ⟨w.heap.size + 1, 0, none⟩) (Nat.le_succ _) (.int .u64 k)).setCell (p := ⟨w.heap.size + 1, 1, none⟩) (Nat.le_succ _) (.int .i64 i)).setCell (p := ⟨w.heap.size + 1, 2, none⟩) (Nat.le_succ _) (.int .i64 d)).setCell (p := ⟨w.heap.size + 1, 3, none⟩) (Nat.le_succ _) (.slice a2 n2 c2))
  have HR := Lib.hid (own_cells (w2.setCell ⟨w.heap.size, 3, none⟩ (.slice a2 n2 c2)) (w.heap.size + 1) (.int .u64 k) (.int .i64 i) (.int .i64 d) (.slice a2 n2 c2) (by
    intro j hj
    have hne : (w2.setCell ⟨w.heap.size, 3, none⟩ (.slice a2 n2 c2)).heap[w.heap.size + 1]? = some (.cells #[.int .u64 0, .int .i64 0, .int .i64 0, .slice none 0 0] 53 (0, 0)) := (Below.heap_setCell _ _ _ _ (fun q => by simp at q)).trans g2
    refine ⟨?_, by simp [World.frozen?, hne]⟩
    rw [Nat.zero_add, show (w2.setCell ⟨w.heap.size, 3, none⟩ (.slice a2 n2 c2)).cell? ⟨w.heap.size + 1, j, none⟩ = (#[Value.int .u64 0, .int .i64 0, .int .i64 0, .slice none 0 0])[j]? from by simp [World.cell?, hne]]
    match j, hj with
    | 0, _ => rfl
    | 1, _ => rfl
    | 2, _ => rfl
    | 3, _ => rfl))
  clear o2 HX HB C hx1 hx2 b2 g1 g2 B3
  go_wp2_with fail
  generalize (((((w2.setCell ⟨w.heap.size, 3, none⟩ (.slice a2 n2 c2)).setCell ⟨w.heap.size + 1, 0, none⟩ (.int .u64 k)).setCell ⟨w.heap.size + 1, 1, none⟩ (.int .i64 i)).setCell ⟨w.heap.size + 1, 2, none⟩ (.int .i64 d)).setCell ⟨w.heap.size + 1, 3, none⟩ (.slice a2 n2 c2)) = w9 at *
  obtain ⟨r0, r1, r2, r3⟩ := HR.out
  clear p0 p1 p2 p3 f3 q0 q1 q2 q3 e0 e1 e2 e3
  exact bodyPost_ret (v := .agg #[.int .u64 k, .int .i64 i, .int .i64 d, .slice a2 n2 c2]) (by simp [results, Tryz.results30, go_sem, r0, r1, r2, r3]) rfl ⟨_, rfl, HO.out, B4.out⟩
end

end Go.Proofs.YtoggbmfjjenbaaaGreatDoor
