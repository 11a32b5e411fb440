/- pergolaref14.Runs. -/
import Derived.Test.YtoggbmfjjenbaaaGreatZSort
set_option linter.unusedSimpArgs false
set_option linter.unusedVariables false
namespace Go.Proofs.YtoggbmfjjenbaaaGreat
open Go.RowKit

theorem kdR_mid (r : List KdV) (x m : Nat) (i : Nat) (hi : i < (kdR ((r.drop x).take m)).length) : (kdR r)[x * 4 + i]? = some (kdR ((r.drop x).take m))[i] := by
  by_cases hx : x ≤ r.length
  · have e : kdR r = kdR (r.take x) ++ (kdR ((r.drop x).take m) ++ kdR ((r.drop x).drop m)) := by
      rw [← kdR_append, List.take_append_drop, ← kdR_append, List.take_append_drop]
    have hl : (kdR (r.take x)).length = x * 4 := by rw [kdR_length, List.length_take, Nat.min_eq_left hx]
    rw [e, List.getElem?_append_right (by omega), hl, Nat.add_sub_cancel_left, List.getElem?_append_left hi, List.getElem?_eq_getElem hi]
  · rw [List.drop_eq_nil_of_le (by omega)] at hi
    simp [kdR] at hi
/-- a piece of a row that is read -/
theorem RunRd.sub {w : World} {b off n c : Nat} {r : List KdV} (h : RunRd w (.slice (some ⟨b, off, none⟩) n c) r) {x m c' : Nat} (hx : x + m ≤ r.length) (h1 : m ≤ c') (h2 : c' ≤ maxLen) :
    RunRd w (.slice (some ⟨b, off + x * 4, none⟩) m c') ((r.drop x).take m) := by
  have hl : ((r.drop x).take m).length = m := by rw [List.length_take, List.length_drop]; omega
  refine ⟨⟨some ⟨b, off + x * 4, none⟩, c', by rw [hl], by rw [hl]; exact h1, h2, (fun q => by cases q), fun i hi => ?_⟩, fun z hz => h.2 z (List.mem_of_mem_drop (List.mem_of_mem_take hz))⟩
  obtain ⟨ao, cc, e, -, -, -, h3⟩ := h.1
  have hk := kdR_mid r x m i hi
  obtain ⟨hk1, hk2⟩ := List.getElem?_eq_some_iff.1 hk
  obtain ⟨b', off', e', hb, hc⟩ := h3 (x * 4 + i) hk1
  simp only [Value.slice.injEq] at e
  rw [← e.1] at e'
  simp only [Option.some.injEq, Addr.mk.injEq, and_true] at e'
  obtain ⟨rfl, rfl⟩ := e'
  exact ⟨_, _, rfl, hb, by rw [Nat.add_assoc, hc, hk2]⟩

/-- v is the document's row of rows, of the call's own. -/
def RowsT (w : World) (B : Nat) (v : Value) (rs : List (List KdV × Value)) : Prop := w.ownsRow B 26 1 v rs.length (rs.map Prod.snd) ∧ ∀ q ∈ rs, w.ownsRow B 56 4 q.2 q.1.length (kdR q.1)
theorem RowsT.below {w w' : World} {B : Nat} {v : Value} {rs : List (List KdV × Value)} (h : RowsT w B v rs) (hb : Below w.heap.size w w') : RowsT w' B v rs := ⟨own_below' h.1 hb, fun q hq => own_below' (h.2 q hq) hb⟩
/-- the pieces, each sorted, with the slices of their points -/
def runsK (s : Nat) (r : List KdV) (i : Nat) : List (List KdV) := (List.range i).map fun j => ((r.drop (j * s)).take s).mergeSort leV
theorem runsK_succ (s : Nat) (r : List KdV) (i : Nat) : runsK s r (i + 1) = runsK s r i ++ [((r.drop (i * s)).take s).mergeSort leV] := by simp [runsK, List.range_succ]
theorem runsK_fst (s : Nat) (r : List KdV) (i : Nat) : (runsK s r i).map (fun q => q.map Prod.fst) = runsL s (r.map Prod.fst) i := by
  unfold runsK runsL
  rw [List.map_map]
  refine List.map_congr_left fun j _ => ?_
  show (((r.drop (j * s)).take s).mergeSort leV).map Prod.fst = _
  rw [srt_content, List.map_take, List.map_drop]
theorem info_runKS : (Tryz.prog.info? 26).map (fun i => (i.zero, i.size, i.bytes)) = some (some (.slice none 0 0), 1, 24) := by kernel_rfl

theorem RunsK_err (v : Value) (size : Int) (w : World) (h : size < 1 ∨ 1000 < size) :
    Calls Tryz.prog 8 #[v, .int .i64 size] w fun e w' => e = .returned (.tuple #[.slice none 0 0, .int .i64 1]) ∧ w = w' := by
  by_cases h1 : size < 1
  · have t1 := decide_eq_true h1
    clear h
    go_enter Tryz.func8, Tryz.ntmps8
    go_wp2_with fail
    go_ret2
    exact ⟨rfl, rfl⟩
  · have t1 := decide_eq_false h1
    have t2 := decide_eq_true (show 1000 < size by omega)
    clear h
    go_enter Tryz.func8, Tryz.ntmps8
    go_wp2_with fail
    go_ret2
    exact ⟨rfl, rfl⟩

set_option maxRecDepth 100000 in
set_option maxHeartbeats 8000000 in
theorem RunsK_any (v : Value) (r : List KdV) (s : Nat) (w : World) (h : RunRd w v r) (hl : r.length ≤ 10000) (hs1 : 1 ≤ s) (hs2 : s ≤ 1000) :
    Calls Tryz.prog 8 #[v, .int .i64 s] w fun e w' => ∃ v' rs, e = .returned (.tuple #[v', .int .i64 0]) ∧ RowsT w' w.heap.size v' rs ∧ rs.map Prod.fst = runsK s r ((r.length + s - 1) / s) ∧ Below w.heap.size w w' := by
  have t1 : decide ((s : Int) < 1) = false := by simp; omega
  have t2 : decide ((1000 : Int) < (s : Int)) = false := by simp; omega
  have HH := Lib.hid h
  obtain ⟨ao, c, rfl, hc1, hc2, _, hc3⟩ := h.open
  have HC := Lib.hid hc3
  have HMX := Lib.hid hc2
  unfold maxLen at hc2
  obtain ⟨n, hn⟩ : ∃ n, n = r.length := ⟨_, rfl⟩
  rw [← hn] at hc1 hl HH ⊢
  have HN := Lib.hid hn
  clear h hc3 hn
  go_enter Tryz.func8, Tryz.ntmps8
  go_wp2_with fail
  go_loopw [6, 7] (fun vo xv wr => ∃ (i x : Nat) (rs : List (List KdV × Value)), x = i * s ∧ x < n + s ∧ xv = .int .i64 x ∧ rs.length = i ∧ rs.map Prod.fst = runsK s r i ∧ RowsT wr w.heap.size vo rs ∧ Below w.heap.size w wr) (fun _ xv _ => n + s - (intOf xv).toNat)
  case atStart => exact ⟨0, 0, [], by omega, by omega, rfl, rfl, rfl, ⟨World.ownsRow_nil _ _ _ _, fun q hq => by cases hq⟩, Below.refl _ _⟩
  case round =>
    obtain ⟨i, x, rs, hx, hxn, rfl, hrl, hct, ho, hb⟩ := hrel
    by_cases hlt : x < n
    · have t3 : decide ((x : Int) < (n : Int)) = true := by simp; omega
      obtain ⟨m, hm⟩ : ∃ m, m = min s (n - x) := ⟨_, rfl⟩
      have hm1 : 1 ≤ m ∧ m ≤ s ∧ x + m ≤ n := by omega
      obtain ⟨y, hy⟩ : ∃ y, y = x + m := ⟨_, rfl⟩
      obtain ⟨z, hz⟩ : ∃ z, z = x + s := ⟨_, rfl⟩
      have q1 : (x : Int) + (s : Int) = (z : Int) := by omega
      have wz : IntKind.i64.wrap (z : Int) = (z : Int) := IntWalk.i64_in _ (by omega)
      obtain ⟨b, off, rfl, hbl, _⟩ := HC.out x (r[x]'(by rw [← HN.out]; omega)) (List.getElem?_eq_getElem _)
      have HO := Lib.hid ho
      have HX := Lib.hid hx
      have HM := Lib.hid hm
      have HRL := Lib.hid hrl
      have HCT := Lib.hid hct
      have hzn : y ≤ n ∧ x ≤ y ∧ z ≤ 20000 := by omega
      have hbs := hb.size
      have SUB := Lib.hid (show RunRd wr (.slice (some ⟨b, off + x * 4, none⟩) m (c - x)) ((r.drop x).take m) from (RunRd.sub HH.out (by rw [← HN.out]; omega) (by omega) (by have := HMX.out; omega)).below hb)
      have SK := Lib.hid (sortK_any _ _ wr SUB.out (by rw [List.length_take]; omega))
      have hsl : ((r.drop x).take m).length = m := by rw [List.length_take, List.length_drop, ← HN.out]; omega
      rw [hsl] at SK
      have HSL := Lib.hid hsl
      clear ho hx hm hrl hct hy hz hsl
      rcases Nat.lt_or_ge n z with hnz | hnz
      all_goals
        try have e5 : z - x = m := by have := HM.out; omega
        try have e6 : n - x = m := by have := HM.out; omega
        go_wp2_with fail
        refine SK.out.mono ?_
        rintro e w6 ⟨v6, rfl, o6, b6⟩
        have B6 := hb.trans (b6.mono hbs)
        have b7 : Below w6.heap.size w6 (w6.alloc (.cells #[v6] 26)) := (Below.refl _ _).alloc (Nat.le_refl _) _
        have N7 := Lib.hid (own_base (own_below' o6 b7) hbs)
        have O7 := Lib.hid ((HO.out.below b6).below b7)
        have B7 := B6.trans (b7.mono B6.size)
        have LIT := Lib.hid (rd_alloc w6 #[v6] 26 (0, 0) 1 (by simp [maxLen]))
        have h1v := Lib.hid (show v6.oneCell' = true by obtain ⟨_, _, e, _⟩ := Rd.of_own o6; rw [e]; rfl)
        have hil : i ≤ 10000 := by
          have := HX.out
          have : i ≤ i * s := Nat.le_mul_of_pos_right i (by omega)
          omega
        obtain ⟨a6, c6, rfl, -⟩ := Rd.of_own o6
        clear o6 SK b6 b7
        go_wp2_with (at_builtin; refine wpList_append_g rfl _ _ 34 rfl w.heap.size 26 _ 1 24 Tryz.underlying34 info_runKS rfl (by decide) _ rs.length (rs.map Prod.snd) rfl O7.out.1 _ 1 [.slice a6 m c6] rfl LIT.out rfl (fun u hu => by obtain rfl := List.mem_singleton.1 hu; rfl) ?c1 ?c2 ?c3 ?_)
        case c1 => rw [HRL.out]; unfold maxLen; omega
        case c2 => rw [HRL.out]; omega
        case c3 => first | exact B7.size | (have := B7.size; simpa using this)
        intro v8 w8 o8 f8
        have B8 : Below w.heap.size w w8 := B7.trans f8.below
        have O8 := Lib.hid (show RowsT w8 w.heap.size v8 (rs ++ [(((r.drop x).take m).mergeSort leV, Value.slice a6 m c6)]) from ⟨by rw [List.length_append, List.map_append]; exact o8, fun q hq => by
          rcases List.mem_append.1 hq with hq | hq
          · exact f8.ownT O7.out.1 (by decide) (O7.out.2 q hq)
          · obtain rfl := List.mem_singleton.1 hq
            have := f8.ownT O7.out.1 (by decide) N7.out
            simp only [List.length_mergeSort]
            rw [HSL.out]
            exact this⟩)
        have CT8 := Lib.hid (show (rs ++ [(((r.drop x).take m).mergeSort leV, Value.slice a6 m c6)]).map Prod.fst = runsK s r (i + 1) by
          rw [runsK_succ, List.map_append, HCT.out]
          congr 1
          show [((r.drop x).take m).mergeSort leV] = _
          rw [← HX.out]
          congr 2
          have := HM.out
          rw [List.take_eq_take_iff, List.length_drop, ← HN.out]
          omega)
        clear o8 f8 O7 N7 LIT
        go_wp2_with fail
        go_roundw
        case rel => exact ⟨i + 1, z, _, by have := HX.out; rw [Nat.succ_mul]; omega, by omega, by go_num, by simp [HRL.out], CT8.out, O8.out, B8⟩
        case measure => simp [intOf]; omega
    · have t3 : decide ((x : Int) < (n : Int)) = false := by simp; omega
      have hie : i = (n + s - 1) / s := by
        have h1 : i * s ≤ n + s - 1 := by omega
        have h2 : n + s - 1 < (i + 1) * s := by rw [Nat.succ_mul]; omega
        have h3 : i ≤ (n + s - 1) / s := (Nat.le_div_iff_mul_le (by omega)).2 h1
        have h4 : (n + s - 1) / s < i + 1 := (Nat.div_lt_iff_lt_mul (by omega)).2 h2
        omega
      have FIN := Lib.hid (show rs.map Prod.fst = runsK s r ((n + s - 1) / s) by rw [← hie]; exact hct)
      have HO := Lib.hid ho
      clear hx hct ho hie hrl
      go_wp2_with fail
      go_ret2
      exact ⟨_, _, rfl, HO.out, FIN.out, hb⟩
end Go.Proofs.YtoggbmfjjenbaaaGreat
