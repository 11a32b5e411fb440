/- pergolaref14.Sort; the numbers of its errors. -/
import Derived.Test.YtoggbmfjjenbaaaGreatDoorZSort
set_option linter.unusedSimpArgs false
set_option linter.unusedVariables false
namespace Go.Proofs.YtoggbmfjjenbaaaGreatDoor
open Go.RowKit

theorem objCode_range (kind : Int) (l : List Pt) : 0 ≤ objCode kind l ∧ objCode kind l ≤ 15 := by
  have hb : ∀ a b c d, 0 ≤ boxCode a b c d ∧ boxCode a b c d ≤ 15 := fun a b c d => by
    unfold boxCode
    split
    · split <;> omega
    · omega
  have hr : 0 ≤ (ringRes l).1 ∧ (ringRes l).1 ≤ 15 := by
    unfold ringRes
    split
    · simp
    · split
      · simp
      · split <;> simp
  unfold objCode
  split
  · split
    · omega
    · split
      · omega
      · split <;> omega
  · split
    · split
      · omega
      · exact hb _ _ _ _
    · split
      · exact hr
      · omega
theorem obj_root (kind : Int) (l : List Pt) (h : objCode kind l ≠ 0) : (objEr kind l).root = some (objCode kind l) := by
  unfold objEr
  by_cases h4 : kind = 4
  · subst h4
    rw [if_pos rfl, ringEr_res]
    rw [objCode_4] at h ⊢
    unfold Er.ofRes
    rw [if_neg h]
    rfl
  · rw [if_neg h4]
    unfold ofC
    rw [if_neg h]
    rfl
theorem obj_none (kind : Int) (l : List Pt) (h : objCode kind l = 0) : objEr kind l = .none := objEr_none.2 h
/-- the number of an object's error, wrapped or not -/
theorem obj_code (kind : Int) (l : List Pt) : ((objEr kind l).wrap strObj kind).code = objCode kind l := by
  by_cases h : objCode kind l = 0
  · rw [obj_none _ _ h, h]; rfl
  · have hr := obj_root kind l h
    have hg := objCode_range kind l
    cases hE : objEr kind l with
    | none => rw [hE] at hr; cases hr
    | num j =>
      rw [hE] at hr
      have hj : j = objCode kind l := by simpa [Er.root] using hr
      simp only [Er.wrap, Er.code, Er.root]
      rw [hj, if_pos (by omega)]
    | fault o i e =>
      rw [hE] at hr
      have hj : e.root = some (objCode kind l) := by simpa [Er.root] using hr
      simp only [Er.wrap, Er.code, Er.root]
      rw [hj]
      simp only
      rw [if_pos (by omega)]
/-- what the document says of the items: the number, and the id that is to blame -/
def sortRes : List KdL → Int × Int
  | [] => (0, 0)
  | x :: l => if objCode x.kind x.pts = 0 then sortRes l else (objCode x.kind x.pts, x.id)
theorem sortRes_ok {l : List KdL} (h : ∀ x ∈ l, okO x) : sortRes l = (0, 0) := by
  induction l with
  | nil => rfl
  | cons x l ih =>
    unfold sortRes
    rw [if_pos (h x (by simp)), ih (fun y hy => h y (by simp [hy]))]
theorem sortRes_no {l : List KdL} {i : Nat} {x : KdL} (h : ∀ y ∈ l.take i, okO y) (hx : l[i]? = some x) (hn : objCode x.kind x.pts ≠ 0) : sortRes l = (objCode x.kind x.pts, x.id) := by
  induction l generalizing i with
  | nil => simp at hx
  | cons y l ih =>
    unfold sortRes
    cases i with
    | zero =>
      simp at hx
      subst hx
      rw [if_neg hn]
    | succ i =>
      rw [if_pos (h y (by simp)), ih (fun z hz => h z (by rw [List.take_succ_cons]; exact List.mem_cons_of_mem _ hz)) (by simpa using hx)]
theorem sort_code (l : List KdL) : (sortEr l).code = (sortRes l).1 := by
  induction l with
  | nil => rfl
  | cons x l ih =>
    unfold sortEr sortRes
    by_cases h : objCode x.kind x.pts = 0
    · rw [if_pos h, if_pos h]; exact ih
    · rw [if_neg h, if_neg h]
      have hc := obj_code x.kind x.pts
      have hg := objCode_range x.kind x.pts
      have hr := obj_root x.kind x.pts h
      cases hE : objEr x.kind x.pts with
      | none => rw [hE] at hr; cases hr
      | num j => rw [hE] at hc; simpa [Er.wrap, Er.code, Er.root] using hc
      | fault o i e => rw [hE] at hc; simpa [Er.wrap, Er.code, Er.root] using hc
theorem sort_isB (l : List KdL) (h : (sortRes l).1 ≠ 0) : (sortEr l).isB (sortRes l).1 strSort (sortRes l).2 = true := by
  have hc := sort_code l
  induction l with
  | nil => exact absurd rfl h
  | cons x l ih =>
    unfold sortEr sortRes at hc ⊢
    unfold sortRes at h
    by_cases h0 : objCode x.kind x.pts = 0
    · rw [if_pos h0] at hc h ⊢
      rw [if_pos h0] at hc ⊢
      exact ih h hc
    · rw [if_neg h0] at hc h ⊢
      rw [if_neg h0] at hc ⊢
      have hE := wrap_ne (s := strObj) (i := x.kind) (objEr_ne h0)
      generalize (objEr x.kind x.pts).wrap strObj x.kind = E at *
      unfold Er.isB
      rw [hc]
      cases E with
      | none => exact absurd rfl hE
      | num j => simp [Er.wrap]
      | fault o i e => simp [Er.wrap]

theorem SortR_err (v : Value) (size : Int) (w : World) (h : size < 1 ∨ 1000 < size) :
    Calls Tryz.prog 7 #[v, .int .i64 size] w fun e w' => e = .returned (.tuple #[.slice none 0 0, .int .i64 1, .int .i64 0]) ∧ w = w' := by
  by_cases h1 : size < 1
  · have t1 := decide_eq_true h1
    clear h
    go_enter Tryz.func7, Tryz.ntmps7
    go_wp2_with fail
    exact bodyPost_ret (v := .tuple #[.slice none 0 0, .int .i64 1, .int .i64 0]) (by simp [results, Tryz.results7, go_sem]) rfl ⟨rfl, rfl⟩
  · have t1 := decide_eq_false h1
    have t2 := decide_eq_true (show 1000 < size by omega)
    clear h
    go_enter Tryz.func7, Tryz.ntmps7
    go_wp2_with fail
    exact bodyPost_ret (v := .tuple #[.slice none 0 0, .int .i64 1, .int .i64 0]) (by simp [results, Tryz.results7, go_sem]) rfl ⟨rfl, rfl⟩

set_option maxRecDepth 100000 in
set_option maxHeartbeats 8000000 in
theorem SortR_any (v : Value) (r : List KdV) (s : Nat) (w : World) (h : ItRd w v r) (hk : KeyIs r) (hl : r.length ≤ 10000) (hs1 : 1 ≤ s) (hs2 : s ≤ 1000) :
    Calls Tryz.prog 7 #[v, .int .i64 s] w fun e w' => ∃ v' r', e = .returned (.tuple #[v', .int .i64 (sortRes (r.map Prod.fst)).1, .int .i64 (sortRes (r.map Prod.fst)).2]) ∧ ItRd w' v' r' ∧
      ((sortRes (r.map Prod.fst)).1 = 0 → r'.map Prod.fst = (r.map Prod.fst).mergeSort leK) ∧ ((sortRes (r.map Prod.fst)).1 ≠ 0 → r' = []) ∧ Below w.heap.size w w' := by
  have t1 : decide ((s : Int) < 1) = false := decide_eq_false (by omega)
  have t2 : decide ((1000 : Int) < (s : Int)) = false := decide_eq_false (by omega)
  have HH := Lib.hid h
  obtain ⟨ao, c, rfl, hc1, hc2, -, each⟩ := h.open
  have EA := Lib.hid each
  have HP := Lib.hid (show ∀ i x, r[i]? = some x → ∀ w', Below w.heap.size w w' → Pts w' x.2 x.1.pts from fun i x hx w' hb => (HH.out.2 x (List.mem_of_getElem? hx)).below hb)
  have HK := Lib.hid hk
  unfold maxLen at hc2
  obtain ⟨n, hn⟩ : ∃ n, n = r.length := ⟨_, rfl⟩
  rw [← hn] at hc1 hl ⊢
  have HN := Lib.hid hn
  obtain ⟨rr, hrr⟩ : ∃ rr, rr = sortRes (r.map Prod.fst) := ⟨_, rfl⟩
  rw [← hrr]
  have HRR := Lib.hid hrr
  clear h hk each hn hs1 hs2 hrr
  go_enter Tryz.func7, Tryz.ntmps7
  go_wp2_with fail
  go_loopw [7, 8] (fun vo iv wr => ∃ k : Nat, k ≤ n ∧ iv = .int .i64 k ∧ (∀ x ∈ (r.map Prod.fst).take k, okO x) ∧ wr.ownsRow w.heap.size 56 4 vo (r.take k).length (kdR (r.take k)) ∧ Below w.heap.size w wr) (fun _ iv _ => n - (intOf iv).toNat)
  case atStart => exact ⟨0, Nat.zero_le _, rfl, fun x hx => by simp at hx, World.ownsRow_nil _ _ _ _, Below.refl _ _⟩
  case round =>
    obtain ⟨k, hkn, rfl, hok, ho, hb⟩ := hrel
    have HO := Lib.hid ho
    have HOK := Lib.hid hok
    have hbs := hb.size
    clear ho hok
    by_cases hlt : k < n
    · have t3 : decide ((k : Int) < (n : Int)) = true := decide_eq_true (by omega)
      obtain ⟨x, hx⟩ : ∃ x, r[k]? = some x := ⟨_, List.getElem?_eq_getElem (by have := HN.out; omega)⟩
      obtain ⟨b, o, rfl, hbl, c0, c1, c2⟩ := EA.out k x hx
      have hp := HP.out k x hx
      have hkx := HK.out x (List.mem_of_getElem? hx)
      have hxm : (r.map Prod.fst)[k]? = some x.1 := by rw [List.getElem?_map, hx]; rfl
      have htk : r.take (k + 1) = r.take k ++ [x] := by
        obtain ⟨h1, h2⟩ := List.getElem?_eq_some_iff.1 hx
        rw [List.take_succ_eq_append_getElem h1, h2]
      have htm : (r.map Prod.fst).take (k + 1) = (r.map Prod.fst).take k ++ [x.1] := by rw [← List.map_take, htk, List.map_append, List.map_take]; rfl
      have i0 : (0 : Int) ≤ (k : Int) := by omega
      have i1 : (k : Int) < (n : Int) := by omega
      have htl : (r.take k).length = k := by rw [List.length_take, ← HN.out]; omega
      have HTL := Lib.hid htl
      have d1 := (hb.cell (p := ⟨b, o + k * 3 + 1, none⟩) hbl).trans c1
      have d2 : wr.cell? ⟨b, o + k * 3 + 1 + 1, none⟩ = some x.2 := (hb.cell (p := ⟨b, o + k * 3 + 2, none⟩) hbl).trans c2
      by_cases hc : objCode x.1.kind x.1.pts = 0
      · have HOK2 := Lib.hid (show ∀ z ∈ (r.map Prod.fst).take (k + 1), okO z by
          rw [htm]
          intro z hz
          rcases List.mem_append.1 hz with hz | hz
          · exact HOK.out z hz
          · obtain rfl := List.mem_singleton.1 hz
            exact hc)
        have HTK := Lib.hid htk
        obtain ⟨⟨kk, ki, kd, kp⟩, xv⟩ := x
        simp only at c0 c1 c2 hp hkx d1 d2 hc
        obtain ⟨sa, sn, sc, rfl⟩ := (hp w (Below.refl _ _)).isSl
        have IK := Lib.hid (ItemKey_ok kd _ kp wr (hp wr hb) hc)
        rw [← hkx] at IK
        have HC := Lib.hid (And.intro c0 (And.intro c1 c2))
        clear hp hkx hx c0 c1 c2 hc htm hxm htk htl
        go_wp2_with fail
        refine IK.out.mono ?_
        rintro e w1 ⟨rfl, b1⟩
        have B1 := hb.trans (b1.mono hbs)
        have d0 := (B1.cell (p := ⟨b, o + k * 3, none⟩) hbl).trans HC.out.1
        have d1 := (B1.cell (p := ⟨b, o + k * 3 + 1, none⟩) hbl).trans HC.out.2.1
        have d2 := (B1.cell (p := ⟨b, o + k * 3 + 2, none⟩) hbl).trans HC.out.2.2
        have bA : Below w1.heap.size w1 (w1.alloc (.cells #[.int .u64 kk, .int .i64 ki, .int .i64 kd, .slice sa sn sc] 56)) := (Below.refl _ _).alloc (Nat.le_refl _) _
        have OA := Lib.hid (own_below' (own_below' HO.out b1) bA)
        have BA := B1.trans (bA.mono B1.size)
        have LIT := Lib.hid (rd_alloc w1 #[.int .u64 kk, .int .i64 ki, .int .i64 kd, .slice sa sn sc] 56 (0, 0) 1 (by simp [maxLen]))
        clear IK HO bA
        go_wp2_with (at_builtin; refine wpList_append_g rfl _ _ 55 rfl w.heap.size 56 _ 4 48 Tryz.underlying55 info_kdRS rfl (by decide) _ (r.take k).length (kdR (r.take k)) rfl OA.out _ 1 (kdR [(⟨kk, ki, kd, kp⟩, .slice sa sn sc)]) rfl LIT.out rfl (kdR_one _ (fun x hx => by obtain rfl := List.mem_singleton.1 hx; exact ⟨_, _, _, rfl⟩)) ?c1 ?c2 ?c3 ?_)
        case c1 => rw [HTL.out]; unfold maxLen; omega
        case c2 => rw [HTL.out]; omega
        case c3 => first | exact BA.size | (have := BA.size; simpa using this)
        intro v5 w5 o5 f5
        have B5 := BA.trans f5.below
        have FA := Lib.hid (show w5.ownsRow w.heap.size 56 4 v5 (r.take (k + 1)).length (kdR (r.take (k + 1))) by rw [HTK.out, List.length_append, kdR_append]; first | exact o5 | (rw [List.length_take]; exact o5))
        clear o5 f5 OA LIT d0 d1 d2 BA B1
        go_wp2_with fail
        go_roundw
        case rel => exact ⟨k + 1, hlt, by go_num, HOK2.out, FA.out, B5⟩
        case measure => simp [intOf]; omega
      · have HSR := Lib.hid (sortRes_no HOK.out hxm hc)
        obtain ⟨⟨kk, ki, kd, kp⟩, xv⟩ := x
        simp only at c0 c1 c2 hp hkx d1 d2 hc HSR
        obtain ⟨sa, sn, sc, rfl⟩ := (hp w (Below.refl _ _)).isSl
        have IK := Lib.hid (ItemKey_no kd _ kp wr (hp wr hb) hc)
        have HCC := Lib.hid hc
        generalize objCode kd kp = K at *
        have t4 : (K != 0) = true := by simpa using hc
        have HC := Lib.hid c0
        have HE := Lib.hid (HRR.out.trans HSR.out)
        clear hp hkx hx c0 c1 c2 hc htm hxm htk htl HSR
        go_wp2_with fail
        refine IK.out.mono ?_
        rintro e w1 ⟨rfl, b1⟩
        have B1 := hb.trans (b1.mono hbs)
        have d0 := (B1.cell (p := ⟨b, o + k * 3, none⟩) hbl).trans HC.out
        have BD := Lib.hid (fun n => bel_drewN' B1 n)
        clear IK
        go_wp2_with fail
        go_quiet (fail)
        go_wp2_with fail
        exact bodyPost_ret (v := .tuple #[.slice none 0 0, .int .i64 K, .int .i64 ki]) (by simp [results, Tryz.results7, go_sem]) rfl ⟨_, [], by rw [HE.out], ItRd.nil _, fun h => absurd (by rw [HE.out] at h; exact h) HCC.out, fun _ => rfl, BD.out _⟩
    · obtain rfl : k = n := by omega
      have t3 : decide ((k : Int) < (k : Int)) = false := by simp
      have HSR := Lib.hid (sortRes_ok (l := r.map Prod.fst) (by have := HOK.out; rwa [List.take_of_length_le (by rw [List.length_map, ← HN.out]; exact Nat.le_refl _)] at this))
      have ho := HO.out
      rw [List.take_of_length_le (by rw [← HN.out]; exact Nat.le_refl _)] at ho
      have hrd : RunRd wr u7 r := ⟨Rd.of_own ho, fun x hx => (HH.out.2 x hx).below hb⟩
      have SK := Lib.hid (sortK_any u7 r wr hrd (by rw [← HN.out]; omega))
      have HE := Lib.hid (HRR.out.trans HSR.out)
      obtain ⟨Z, hZ⟩ : ∃ Z, Z = r.mergeSort leV := ⟨_, rfl⟩
      rw [← hZ] at SK
      have HZ := Lib.hid hZ
      have hZl : Z.length = k := by rw [hZ, List.length_mergeSort, HN.out]
      have HZP := Lib.hid (show ∀ x ∈ Z, Pts w x.2 x.1.pts from fun x hx => HH.out.2 x (by rw [hZ] at hx; exact List.mem_mergeSort.1 hx))
      have HFST := Lib.hid (show Z.map Prod.fst = (r.map Prod.fst).mergeSort leK by rw [hZ, srt_content])
      clear ho hrd hZ HO HSR EA HP HK HOK
      go_wp2_with fail
      refine SK.out.mono ?_
      rintro e w6 ⟨v6, rfl, o6, b6⟩
      have B6 := hb.trans (b6.mono hbs)
      have hs6 := B6.size
      have R6 : RunRd w6 v6 Z := ⟨by rw [hZl, HN.out]; exact Rd.of_own o6, fun x hx => (HZP.out x hx).below B6⟩
      obtain ⟨a6, c6, rfl, g1, g2, -, each⟩ := R6.open
      have EZ := Lib.hid each
      rw [hZl] at g1 ⊢
      unfold maxLen at g2
      have HZL := Lib.hid hZl
      clear SK o6 R6 each hZl
      go_wp2_with fail
      go_loopw [11, 12] (fun ov jv wq => ∃ j : Nat, j ≤ k ∧ jv = .int .i64 j ∧ wq.ownsRow w6.heap.size 41 3 ov (Z.take j).length (itR (Z.take j)) ∧ Below w6.heap.size w6 wq) (fun _ jv _ => k - (intOf jv).toNat)
      case atStart => exact ⟨0, Nat.zero_le _, rfl, World.ownsRow_nil _ _ _ _, Below.refl _ _⟩
      case round =>
        obtain ⟨j, hj, rfl, ho, hb2⟩ := hrel
        have HOU := Lib.hid ho
        clear ho
        by_cases hlt2 : j < k
        · have t5 : decide ((j : Int) < (k : Int)) = true := decide_eq_true (by omega)
          have j0 : (0 : Int) ≤ (j : Int) := by omega
          have j1 : (j : Int) < (k : Int) := by omega
          obtain ⟨x, hx⟩ : ∃ x, Z[j]? = some x := ⟨_, List.getElem?_eq_getElem (by rw [HZL.out]; exact hlt2)⟩
          obtain ⟨b, o, rfl, hbl, c0, c1, c2, c3⟩ := EZ.out j x hx
          have d1 := (hb2.cell (p := ⟨b, o + j * 4 + 1, none⟩) hbl).trans c1
          have d2 : wr.cell? ⟨b, o + j * 4 + 1 + 1, none⟩ = some (.int .i64 x.1.kind) := (hb2.cell (p := ⟨b, o + j * 4 + 2, none⟩) hbl).trans c2
          have d3 : wr.cell? ⟨b, o + j * 4 + 1 + 2, none⟩ = some x.2 := (hb2.cell (p := ⟨b, o + j * 4 + 3, none⟩) hbl).trans c3
          have htk : Z.take (j + 1) = Z.take j ++ [x] := by
            obtain ⟨h1, h2⟩ := List.getElem?_eq_some_iff.1 hx
            rw [List.take_succ_eq_append_getElem h1, h2]
          have HTK := Lib.hid htk
          have htl : (Z.take j).length = j := by rw [List.length_take, HZL.out]; omega
          have HTL := Lib.hid htl
          obtain ⟨sa, sn, sc, hsl⟩ := (HZP.out x (List.mem_of_getElem? hx)).isSl
          obtain ⟨⟨kk, ki, kd, kp⟩, xv⟩ := x
          simp only at hsl d1 d2 d3
          subst hsl
          have bA : Below wr.heap.size wr (wr.alloc (.cells #[.int .i64 ki, .int .i64 kd, .slice sa sn sc] 41)) := (Below.refl _ _).alloc (Nat.le_refl _) _
          have O4 := Lib.hid (own_below' HOU.out bA)
          have BA := hb2.trans (bA.mono hb2.size)
          have LIT := Lib.hid (rd_alloc wr #[.int .i64 ki, .int .i64 kd, .slice sa sn sc] 41 (0, 0) 1 (by simp [maxLen]))
          clear hx htk htl c0 c1 c2 c3 HOU bA
          go_wp2_with (at_builtin; refine wpList_append_g rfl _ _ 22 rfl w6.heap.size 41 _ 3 40 Tryz.underlying22 info_itS rfl (by decide) _ (Z.take j).length (itR (Z.take j)) rfl O4.out _ 1 (itR [(⟨kk, ki, kd, kp⟩, .slice sa sn sc)]) rfl LIT.out rfl (itR_one _ (fun x hx => by obtain rfl := List.mem_singleton.1 hx; exact ⟨_, _, _, rfl⟩)) ?c4 ?c5 ?c6 ?_)
          case c4 => unfold maxLen; first | (rw [HTL.out]; omega) | omega
          case c5 => first | (rw [HTL.out]; omega) | omega
          case c6 => first | exact BA.size | (have := BA.size; simpa using this)
          intro v7 w7 o7 f7
          have B7 := BA.trans f7.below
          have O7 := Lib.hid (show w7.ownsRow w6.heap.size 41 3 v7 (Z.take (j + 1)).length (itR (Z.take (j + 1))) by rw [HTK.out, List.length_append, itR_append]; first | exact o7 | (rw [List.length_take]; exact o7))
          clear o7 f7 O4 LIT d1 d2 d3 BA
          go_wp2_with fail
          go_roundw
          case rel => exact ⟨j + 1, hlt2, by go_num, O7.out, B7⟩
          case measure => simp [intOf]; omega
        · obtain rfl : j = k := by omega
          have t5 : decide ((j : Int) < (j : Int)) = false := by simp
          have BB := B6.trans (hb2.mono hs6)
          have FIN := Lib.hid (show ItRd wr u11 Z by
            have h := HOU.out
            rw [List.take_of_length_le (by rw [HZL.out]; exact Nat.le_refl _)] at h
            exact ⟨Rd.of_own h, fun x hx => (HZP.out x hx).below BB⟩)
          clear HOU
          go_wp2_with fail
          exact bodyPost_ret (v := .tuple #[u11, .int .i64 0, .int .i64 0]) (by simp [results, Tryz.results7, go_sem]) rfl ⟨_, Z, by rw [HE.out], FIN.out, fun _ => HFST.out, fun h => absurd (by rw [HE.out]) h, BB⟩
end Go.Proofs.YtoggbmfjjenbaaaGreatDoor
