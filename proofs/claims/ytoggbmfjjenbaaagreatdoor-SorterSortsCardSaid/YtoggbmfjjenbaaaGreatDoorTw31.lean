/- sorter.Sort. pergolaalike.Sum of one more, Rows, Total. pergolaalike.Items, pergolalaw20.small; pergolaref3.Points, Same at alike ones. pergolaalike.Round. -/
import Derived.Test.YtoggbmfjjenbaaaGreatDoorTw30
import Derived.Test.YtoggbmfjjenbaaaGreatDoorTw1
import Derived.Deep.RegionHeld3
import Derived.Deep.QuietTactic
import Derived.BigQuiet
set_option linter.unusedSimpArgs false
set_option linter.unusedVariables false
namespace Go.Proofs.YtoggbmfjjenbaaaGreatDoor
/-! SSort -/
section
open Go.RowKit

theorem Sort_err (v : Value) (size : Int) (w : World) (h : size < 1 ∨ 1000 < size) :
    Calls Tryz.prog 6 #[v, .int .i64 size] w fun e w' => e = .returned (.tuple #[.slice none 0 0, .iface 60 (.int .i64 1)]) ∧ w = w' := by
  have C := Lib.hid (Runs_err (.slice none 0 0) size w h)
  clear h
  go_enter Tryz.func6, Tryz.ntmps6
  go_wp2_with fail
  refine C.out.mono ?_
  rintro e w1 ⟨rfl, rfl⟩
  go_wp2_with fail
  go_ret2
  exact ⟨rfl, rfl⟩

set_option maxRecDepth 100000 in
set_option maxHeartbeats 8000000 in
theorem Sort_any (v : Value) (r : List KdV) (s : Nat) (w : World) (h : ItRd w v r) (hk : KeyIs r) (hp : ∀ x ∈ r, x.1.pts.length ≤ 1000000) (hl : r.length ≤ 10000) (hs1 : 1 ≤ s) (hs2 : s ≤ 1000) :
    Calls Tryz.prog 6 #[v, .int .i64 s] w fun e w' => Below w.heap.size w w' ∧
      ((∃ v' r', e = .returned (.tuple #[v', .nilIface]) ∧ sortEr (r.map Prod.fst) = .none ∧ ItOwn w' w.heap.size v' r' ∧ r'.map Prod.fst = (r.map Prod.fst).mergeSort leK) ∨
        (∃ u, e = .returned (.tuple #[.slice none 0 0, u]) ∧ sortEr (r.map Prod.fst) ≠ .none ∧ (sortEr (r.map Prod.fst)).Is w' u)) := by
  have hpts := h.2
  obtain ⟨ao, c, rfl, hc1, hc2, _, hc3⟩ := h.open
  have HC := Lib.hid hc3
  have HP := Lib.hid (show ∀ i x, r[i]? = some x → ∀ w', Below w.heap.size w w' → Pts w' x.2 x.1.pts from fun i x hx w' hb => (hpts x (List.mem_of_getElem? hx)).below hb)
  have HKY := Lib.hid (show ∀ i x, r[i]? = some x → x.1.key = objKey x.1.kind x.1.pts from fun i x hx => hk x (List.mem_of_getElem? hx))
  have HPA := Lib.hid hpts
  have HPL := Lib.hid hp
  have RN := Lib.hid (Runs_nil s w hs1 hs2)
  unfold maxLen at hc2
  obtain ⟨n, hn⟩ : ∃ n, n = r.length := ⟨_, rfl⟩
  rw [← hn] at hc1 hl ⊢
  have HN := Lib.hid hn
  have HS := Lib.hid (And.intro hs1 hs2)
  clear h hk hp hpts hc3 hn
  go_enter Tryz.func6, Tryz.ntmps6
  go_wp2_with fail
  refine RN.out.mono ?_
  rintro e w1 ⟨rfl, rfl⟩
  go_wp2_with fail
  go_loopw [4, 8, 27] (fun zv av iv wr => ∃ i : Nat, zv = .slice none 0 0 ∧ i ≤ n ∧ iv = .int .i64 i ∧ (∀ x ∈ (r.map Prod.fst).take i, okO x) ∧ wr.ownsRow w.heap.size 53 4 av (r.take i).length (kdR (r.take i)) ∧ Below w.heap.size w wr) (fun _ _ iv _ => n - (intOf iv).toNat)
  case atStart => exact ⟨0, rfl, Nat.zero_le _, rfl, (by simp), World.ownsRow_nil _ _ _ _, Below.refl _ _⟩
  case round =>
    obtain ⟨i, rfl, hi, rfl, hok, ho, hb⟩ := hrel
    have hbs := hb.size
    have HOK := Lib.hid hok
    have HO := Lib.hid ho
    clear hok ho
    by_cases hlt : i < n
    · have t1 : decide ((i : Int) < (n : Int)) = true := decide_eq_true (by omega)
      have i0 : (0 : Int) ≤ (i : Int) := by omega
      have i1 : (i : Int) < (n : Int) := by omega
      obtain ⟨x, hx⟩ : ∃ x, r[i]? = some x := ⟨_, List.getElem?_eq_getElem (by rw [← HN.out]; exact hlt)⟩
      obtain ⟨b, o, rfl, hbl, c0, c1, c2⟩ := HC.out i x hx
      replace c0 := (hb.cell (p := ⟨b, o + i * 3, none⟩) hbl).trans c0
      replace c1 := (hb.cell (p := ⟨b, o + i * 3 + 1, none⟩) hbl).trans c1
      replace c2 := (hb.cell (p := ⟨b, o + i * 3 + 2, none⟩) hbl).trans c2
      have hkx := HKY.out i x hx
      have hpx := HP.out i x hx
      have hxm : (r.map Prod.fst)[i]? = some x.1 := by rw [List.getElem?_map, hx]; rfl
      have htk : r.take (i + 1) = r.take i ++ [x] := by
        obtain ⟨h1, h2⟩ := List.getElem?_eq_some_iff.1 hx
        rw [List.take_succ_eq_append_getElem h1, h2]
      have htm : (r.map Prod.fst).take (i + 1) = (r.map Prod.fst).take i ++ [x.1] := by rw [← List.map_take, htk, List.map_append, List.map_take]; rfl
      have hsl := (hpx w (Below.refl _ _)).isSl
      obtain ⟨⟨kk, ki, kd, kp⟩, xv⟩ := x
      simp only at c0 c1 c2 hkx hpx hsl
      obtain ⟨sa, sn, sc, rfl⟩ := hsl
      have BA := hb.alloc hbs (.cells #[.int .i64 ki, .int .i64 kd, .slice sa sn sc] 41)
      have bA : Below wr.heap.size wr (wr.alloc (.cells #[.int .i64 ki, .int .i64 kd, .slice sa sn sc] 41)) := (Below.refl _ _).alloc (Nat.le_refl _) _
      have z0 : (wr.alloc (.cells #[.int .i64 ki, .int .i64 kd, .slice sa sn sc] 41)).cell? ⟨wr.heap.size, 0, none⟩ = some (.int .i64 ki) := by simp
      have z1 : (wr.alloc (.cells #[.int .i64 ki, .int .i64 kd, .slice sa sn sc] 41)).cell? ⟨wr.heap.size, 1, none⟩ = some (.int .i64 kd) := by simp
      have z2 : (wr.alloc (.cells #[.int .i64 ki, .int .i64 kd, .slice sa sn sc] 41)).cell? ⟨wr.heap.size, 2, none⟩ = some (.slice sa sn sc) := by simp
      have hzl : wr.heap.size < (wr.alloc (.cells #[.int .i64 ki, .int .i64 kd, .slice sa sn sc] 41)).heap.size := by simp
      by_cases hc : objCode kd kp = 0
      · have KO := Lib.hid (Key_ok kd _ kp _ (hpx _ BA) hc)
        rw [← hkx] at KO
        have HOK2 := Lib.hid (show ∀ x ∈ (r.map Prod.fst).take (i + 1), okO x by
          rw [htm]
          intro y hy
          rcases List.mem_append.1 hy with hy | hy
          · exact HOK.out y hy
          · obtain rfl := List.mem_singleton.1 hy
            exact hc)
        have HTK := Lib.hid htk
        have HBA := Lib.hid (And.intro BA bA)
        have HZ := Lib.hid (And.intro z0 (And.intro z1 z2))
        clear hx hkx hpx hxm htk htm hc BA bA z0 z1 z2
        go_wp2_with fail
        refine KO.out.mono ?_
        rintro e w3 ⟨rfl, b3⟩
        have z0 := (b3.cell (p := ⟨wr.heap.size, 0, none⟩) hzl).trans HZ.out.1
        have z1 := (b3.cell (p := ⟨wr.heap.size, 1, none⟩) hzl).trans HZ.out.2.1
        have z2 := (b3.cell (p := ⟨wr.heap.size, 2, none⟩) hzl).trans HZ.out.2.2
        have B3 := HBA.out.1.trans (b3.mono HBA.out.1.size)
        have O3 := own_below' (own_below' HO.out HBA.out.2) b3
        have b4 : Below w3.heap.size w3 (w3.alloc (.cells #[.int .u64 kk, .int .i64 ki, .int .i64 kd, .slice sa sn sc] 53)) := (Below.refl _ _).alloc (Nat.le_refl _) _
        have O4 := Lib.hid (own_below' O3 b4)
        have B4 := B3.trans (b4.mono B3.size)
        have LIT := Lib.hid (rd_alloc w3 #[.int .u64 kk, .int .i64 ki, .int .i64 kd, .slice sa sn sc] 53 (0, 0) 1 (by simp [maxLen]))
        have htl : (r.take i).length = i := by rw [List.length_take, ← HN.out]; omega
        have HTL := Lib.hid htl
        clear KO O3 b3 htl
        go_wp2_with (at_builtin; refine wpList_append_g rfl _ _ 50 rfl w.heap.size 53 _ 4 48 Tryz.underlying50 info_kdS rfl (by decide) _ (r.take i).length (kdR (r.take i)) rfl O4.out _ 1 (kdR [(⟨kk, ki, kd, kp⟩, .slice sa sn sc)]) rfl LIT.out rfl (kdR_one _ (fun x hx => by obtain rfl := List.mem_singleton.1 hx; exact ⟨_, _, _, rfl⟩)) ?c1 ?c2 ?c3 ?_)
        case c1 => rw [HTL.out]; unfold maxLen; omega
        case c2 => rw [HTL.out]; omega
        case c3 => exact B4.size
        intro v5 w5 o5 f5
        have B5 := B4.trans f5.below
        have O5 := Lib.hid (show w5.ownsRow w.heap.size 53 4 v5 (r.take (i + 1)).length (kdR (r.take (i + 1))) by rw [HTK.out, List.length_append, kdR_append]; first | exact o5 | (rw [List.length_take]; exact o5))
        clear o5 f5 O4 LIT z0 z1 z2
        go_wp2_with fail
        go_roundw
        case rel => exact ⟨i + 1, rfl, hlt, by go_num, HOK2.out, O5.out, B5⟩
        case measure => simp [intOf]; omega
      · have KN := Lib.hid (Key_no kd _ kp _ (hpx _ BA) hc)
        have hne := Lib.hid (wrap_ne (s := strObj) (i := kd) (objEr_ne hc))
        have hser := Lib.hid (sortEr_no HOK.out hxm hc)
        have hnn := Lib.hid (wrap_ne (s := strSort) (i := ki) hne.out)
        have HBA := Lib.hid (And.intro BA bA)
        have HZ := Lib.hid z0
        simp only at hser
        generalize (objEr kd kp).wrap strObj kd = E at *
        clear hx hkx hpx hxm htk htm hc BA bA z0 z1 z2
        go_wp2_with fail
        refine KN.out.mono ?_
        rintro e w3 ⟨u, rfl, hu, b3⟩
        obtain ⟨T, y, rfl⟩ := hu.iface hne.out
        have z0 := (b3.cell (p := ⟨wr.heap.size, 0, none⟩) hzl).trans HZ.out
        have B3 := HBA.out.1.trans (b3.mono HBA.out.1.size)
        have NW := Lib.hid (New_er strSort ki E _ w3 hu)
        unfold strSort at NW
        clear KN hu b3
        go_wp2_with fail
        refine NW.out.mono ?_
        rintro e w4 ⟨u4, rfl, hu4, b4⟩
        have FIN := Lib.hid (show sortEr (r.map Prod.fst) ≠ .none ∧ (sortEr (r.map Prod.fst)).Is w4 u4 by rw [hser.out]; exact ⟨hnn.out, hu4⟩)
        have B4 := B3.trans (b4.mono B3.size)
        obtain ⟨T4, y4, rfl⟩ := hu4.iface hnn.out
        clear NW hu4 b4
        go_wp2_with fail
        go_ret2
        exact ⟨B4, Or.inr ⟨_, rfl, FIN.out.1, FIN.out.2⟩⟩
    · obtain rfl : i = n := by omega
      have t1 : decide ((i : Int) < (i : Int)) = false := by simp
      have htk : r.take i = r := List.take_of_length_le (by rw [← HN.out]; omega)
      have hser := Lib.hid (sortEr_ok (l := r.map Prod.fst) (by have := HOK.out; rwa [← List.map_take, htk] at this))
      have ho := HO.out
      rw [htk] at ho
      have hrd : RunRd wr u8 r := ⟨Rd.of_own ho, fun x hx => (HPA.out x hx).below hb⟩
      have RU := Lib.hid (Runs_any u8 r s wr hrd HPL.out (by rw [← HN.out]; exact hl) HS.out.1 HS.out.2)
      clear ho hrd htk HC HP HKY HOK HO RN
      go_wp2_with fail
      refine RU.out.mono ?_
      rintro e w1 ⟨v1, rs, rfl, o1, ct1, b1⟩
      have B1 := hb.trans (b1.mono hbs)
      obtain ⟨m, hm⟩ : ∃ m, m = (r.length + s - 1) / s := ⟨_, rfl⟩
      rw [← hm] at ct1
      have hms : r.length ≤ m * s := by
        have h1 := Nat.lt_succ_self ((r.length + s - 1) / s)
        rw [Nat.div_lt_iff_lt_mul (by have := HS.out.1; omega)] at h1
        rw [hm]
        rw [Nat.succ_mul] at h1
        omega
      have hml : m ≤ 20000 := by
        rw [hm]
        have h1 : (r.length + s - 1) / s ≤ r.length + s - 1 := Nat.div_le_self _ _
        have := HS.out.2; have := HN.out
        omega
      have hcr : conts rs = runsC s (r.map Prod.fst) m := ct1
      have hmf : mergeF (conts rs) = (r.map Prod.fst).mergeSort leK := by rw [hcr]; exact merge_runs _ _ _ (by rw [List.length_map]; exact hms)
      have hrl : rs.length = m := by
        have := congrArg List.length hcr
        simpa [runsC] using this
      have hfp : (conts rs).flatten.Perm (r.map Prod.fst) := by
        rw [hcr]
        have h1 : ((List.range m).map fun j => (pieceL s (r.map Prod.fst) j).mergeSort leK).flatten.Perm ((List.range m).map fun j => pieceL s (r.map Prod.fst) j).flatten := flat_perm _ _ (fun j => List.mergeSort_perm _ _) _
        rw [chunk_flat, List.take_of_length_le (by rw [List.length_map]; exact hms)] at h1
        exact h1
      have MG := Lib.hid (Merge_any v1 rs w1 o1.rd (fun q hq x hx => by
          have := hfp.mem_iff.1 (List.mem_flatten.2 ⟨q, hq, hx⟩)
          obtain ⟨z, hz, rfl⟩ := List.mem_map.1 this
          exact HPL.out z hz) (by omega) (by rw [hfp.length_eq, List.length_map, ← HN.out]; omega))
      rw [hmf] at MG
      have hv1 := o1.rd.1
      obtain ⟨a1, cap1, rfl, _⟩ := hv1
      clear ct1 hcr hmf hfp hms hm hml hrl RU o1
      go_wp2_with fail
      refine MG.out.mono ?_
      rintro e w2 ⟨v2, r2, rfl, o2, e2, b2⟩
      have B2 := B1.trans (b2.mono B1.size)
      have hr2 : r2.length = i := by
        have := congrArg List.length e2
        rw [List.length_map, List.length_mergeSort, List.length_map] at this
        rw [this]; exact HN.out.symm
      obtain ⟨ao2, cap2, rfl, g1, g2, _, each⟩ := o2.rd.open
      rw [hr2] at g1 o2 ⊢
      have HR2 := Lib.hid hr2
      have EA := Lib.hid each
      have HO2 := Lib.hid o2
      have HE2 := Lib.hid e2
      have B2s := B2.size
      unfold maxLen at g2
      clear hr2 each o2 e2 MG
      go_wp2_with fail
      go_loopw [4, 59] (fun ov jv wq => ∃ j : Nat, j ≤ i ∧ jv = .int .i64 j ∧ wq.ownsRow w2.heap.size 41 3 ov (r2.take j).length (itR (r2.take j)) ∧ Below w2.heap.size w2 wq) (fun _ jv _ => i - (intOf jv).toNat)
      case atStart => exact ⟨0, Nat.zero_le _, rfl, World.ownsRow_nil _ _ _ _, Below.refl _ _⟩
      case round =>
        obtain ⟨j, hj, rfl, ho, hb2⟩ := hrel
        have HOU := Lib.hid ho
        clear ho
        by_cases hlt2 : j < i
        · have t2 : decide ((j : Int) < (i : Int)) = true := decide_eq_true (by omega)
          have j0 : (0 : Int) ≤ (j : Int) := by omega
          have j1 : (j : Int) < (i : Int) := by omega
          obtain ⟨x, hx⟩ : ∃ x, r2[j]? = some x := ⟨_, List.getElem?_eq_getElem (by rw [HR2.out]; exact hlt2)⟩
          obtain ⟨b, o, rfl, hbl, c0, c1, c2, c3⟩ := EA.out j x hx
          replace c0 := (hb2.cell (p := ⟨b, o + j * 4, none⟩) hbl).trans c0
          replace c1 := (hb2.cell (p := ⟨b, o + j * 4 + 1, none⟩) hbl).trans c1
          replace c2 := (hb2.cell (p := ⟨b, o + j * 4 + 2, none⟩) hbl).trans c2
          replace c3 := (hb2.cell (p := ⟨b, o + j * 4 + 3, none⟩) hbl).trans c3
          have htk : r2.take (j + 1) = r2.take j ++ [x] := by
            obtain ⟨h1, h2⟩ := List.getElem?_eq_some_iff.1 hx
            rw [List.take_succ_eq_append_getElem h1, h2]
          have hsl := (HO2.out.2 x (List.mem_of_getElem? hx)).isSl
          obtain ⟨⟨kk, ki, kd, kp⟩, xv⟩ := x
          simp only at c0 c1 c2 c3 hsl
          obtain ⟨sa, sn, sc, rfl⟩ := hsl
          have bA : Below wr.heap.size wr ((wr.alloc (.cells #[.int .u64 kk, .int .i64 ki, .int .i64 kd, .slice sa sn sc] 53)).alloc (.cells #[.int .i64 ki, .int .i64 kd, .slice sa sn sc] 41)) := ((Below.refl _ _).alloc (Nat.le_refl _) _).alloc (by simp) _
          have O4 := Lib.hid (own_below' HOU.out bA)
          have B4 := hb2.trans (bA.mono hb2.size)
          have lit := rd_alloc (wr.alloc (.cells #[.int .u64 kk, .int .i64 ki, .int .i64 kd, .slice sa sn sc] 53)) #[.int .i64 ki, .int .i64 kd, .slice sa sn sc] 41 (0, 0) 1 (by simp [maxLen])
          rw [show (wr.alloc (.cells #[.int .u64 kk, .int .i64 ki, .int .i64 kd, .slice sa sn sc] 53)).heap.size = wr.heap.size + 1 by simp] at lit
          have LIT := Lib.hid lit
          clear lit
          have HTK := Lib.hid htk
          have htl : (r2.take j).length = j := by rw [List.length_take, HR2.out]; omega
          have HTL := Lib.hid htl
          clear hx htk bA htl
          go_wp2_with (at_builtin; refine wpList_append_g rfl _ _ 22 rfl w2.heap.size 41 _ 3 40 Tryz.underlying22 info_itS rfl (by decide) _ (r2.take j).length (itR (r2.take j)) rfl O4.out _ 1 (itR [(⟨kk, ki, kd, kp⟩, .slice sa sn sc)]) rfl LIT.out rfl (itR_one _ (fun x hx => by obtain rfl := List.mem_singleton.1 hx; exact ⟨_, _, _, rfl⟩)) ?c1 ?c2 ?c3 ?_)
          case c1 => have := HR2.out; unfold maxLen; omega
          case c2 => have := HR2.out; omega
          case c3 => have := hb2.size; first | exact B4.size | omega
          intro v5 w5 o5 f5
          have B5 := B4.trans f5.below
          have O5 := Lib.hid (show w5.ownsRow w2.heap.size 41 3 v5 (r2.take (j + 1)).length (itR (r2.take (j + 1))) by rw [HTK.out, List.length_append, itR_append]; first | exact o5 | (rw [List.length_take]; exact o5))
          clear o5 f5 O4 LIT c0 c1 c2 c3
          go_wp2_with fail
          go_roundw
          case rel => exact ⟨j + 1, hlt2, by go_num, O5.out, B5⟩
          case measure => simp [intOf]; omega
        · obtain rfl : j = i := by omega
          have t2 : decide ((j : Int) < (j : Int)) = false := by simp
          have htk : r2.take j = r2 := List.take_of_length_le (by rw [HR2.out]; omega)
          have ho := HOU.out
          rw [htk] at ho
          have FIN := Lib.hid (show ItOwn wr w.heap.size u4 r2 from ⟨own_base ho B2s, fun x hx => own_base ((HO2.out.2 x hx).below hb2) B1.size⟩)
          have BF := B2.trans (hb2.mono B2s)
          clear ho htk HOU
          go_wp2_with fail
          go_ret2
          exact ⟨BF, Or.inl ⟨_, _, rfl, hser.out, FIN.out, HE2.out⟩⟩
end

/-! SumB -/
section
open Go.RowKit

/-- what pergolaalike.Sum answers of one more number -/
def satAdd (n m : Int) : Int := if n > 1099511627776 ∨ m > 1099511627776 - n then 1099511627776 else n + m

theorem Sum_one (n m : Int) (b off c : Nat) (w : World) (hc : w.cell? ⟨b, off, none⟩ = some (.int .i64 m)) (hn : 0 ≤ n) (hn2 : n ≤ 4611686018427387904) (hm : 0 ≤ m) :
    Calls Tryz.prog 28 #[.int .i64 n, .slice (some ⟨b, off, none⟩) 1 c] w fun e w' => e = .returned (.int .i64 (satAdd n m)) ∧ w = w' := by
  generalize hx : satAdd n m = x
  have HX := Lib.hid hx
  clear hx
  by_cases g1 : 1099511627776 < n
  · have hf : x = 1099511627776 := by rw [← HX.out, satAdd, if_pos (Or.inl g1)]
    have HF := Lib.hid hf
    clear hf
    go_enter Tryz.func28, Tryz.ntmps28
    go_wp2
    refine wp_loop_rounds 1 ?_
    rw [rounds_succ]
    go_wp2
    go_ret
    exact ⟨by rw [HF.out]; rfl, rfl⟩
  · by_cases g2 : 1099511627776 - n < m
    · have hf : x = 1099511627776 := by rw [← HX.out, satAdd, if_pos (Or.inr g2)]
      have HF := Lib.hid hf
      clear hf
      go_enter Tryz.func28, Tryz.ntmps28
      go_wp2
      refine wp_loop_rounds 1 ?_
      rw [rounds_succ]
      go_wp2
      go_ret
      exact ⟨by rw [HF.out]; rfl, rfl⟩
    · have hf : x = n + m := by rw [← HX.out, satAdd, if_neg (by omega)]
      have HF := Lib.hid hf
      clear hf
      go_enter Tryz.func28, Tryz.ntmps28
      go_wp2
      refine wp_loop_rounds 2 ?_
      rw [rounds_succ]
      go_wp2
      rw [rounds_succ]
      go_wp2
      go_ret
      exact ⟨by rw [HF.out]; rfl, rfl⟩
end

/-! SAlike -/
section
open Go.RowKit

/-- all points of the first k items -/
def lensP (r : List KdV) : Nat → Nat
  | 0 => 0
  | k + 1 => lensP r k + ((r.map fun x => x.1.pts.length).getD k 0)
theorem lensP_le (r : List KdV) : ∀ j k, j ≤ k → lensP r j ≤ lensP r k
  | j, 0, h => by obtain rfl : j = 0 := by omega
                  exact Nat.le_refl _
  | j, k + 1, h => by
    by_cases e : j = k + 1
    · subst e; exact Nat.le_refl _
    · have := lensP_le r j k (by omega)
      simp only [lensP]; omega
theorem item_le (r : List KdV) {x : KdV} (hx : x ∈ r) : x.1.pts.length ≤ lensP r r.length := by
  obtain ⟨k, hk, rfl⟩ := List.mem_iff_getElem.1 hx
  have h1 := lensP_le r (k + 1) r.length hk
  have h2 : (r.map fun x => x.1.pts.length).getD k 0 = r[k].1.pts.length := by
    rw [List.getD_eq_getElem?_getD, List.getElem?_map, List.getElem?_eq_getElem hk]
    rfl
  simp only [lensP, h2] at h1
  omega

theorem Items_any (v : Value) (r : List KdV) (w : World) (hv : ItRd w v r) (hl : r.length ≤ 150) :
    Calls Tryz.prog 13 #[v, .int .i64 1500] w fun e w' => ∃ t : Int, e = .returned (.int .i64 t) ∧ 0 ≤ t ∧ t ≤ 4611686018427387904 ∧ (t ≤ 1500 → lensP r r.length ≤ 1500) ∧ Below w.heap.size w w' := by
  have hpts := hv.2
  obtain ⟨ao, c, rfl, h1, h2, _, h3⟩ := hv.open
  unfold maxLen at h2
  obtain ⟨n, hn⟩ : ∃ n, n = r.length := ⟨_, rfl⟩
  rw [← hn] at h1 hl ⊢
  have HN := Lib.hid hn
  have HC := Lib.hid h3
  have HP := Lib.hid (show ∀ i x, r[i]? = some x → Pts w x.2 x.1.pts from fun i x hx => hpts x (List.mem_of_getElem? hx))
  clear hv hpts h3 hn
  have s0 : satAdd 0 (n : Int) = n := by unfold satAdd; rw [if_neg (by omega)]; omega
  go_enter Tryz.func13, Tryz.ntmps13
  go_wp2_with (go_at_call 28; refine (Sum_one 0 n w.heap.size 0 1 _ (by simp) (by omega) (by omega) (by omega)).mono ?_; rw [s0]; rintro e w' ⟨rfl, rfl⟩)
  go_loopw [5, 6] (fun nv i wr => ∃ (k : Nat) (t : Int), k ≤ n ∧ i = .int .i64 k ∧ nv = .int .i64 t ∧ 0 ≤ t ∧ t ≤ 4611686018427387904 ∧ Hid (t ≤ 1500 → t = n + lensP r k) ∧ Below w.heap.size w wr) (fun _ i _ => n - (intOf i).toNat)
  case atStart => exact ⟨0, n, Nat.zero_le _, rfl, rfl, by omega, by omega, (fun _ => by simp [lensP]), (Below.refl _ _).alloc (Nat.le_refl _) _⟩
  case round =>
    obtain ⟨k, t, hk, rfl, rfl, ht0, ht1, ht, hbel⟩ := hrel
    by_cases hlt : k < n
    · by_cases htop : t ≤ 1500
      · obtain ⟨x, hx⟩ : ∃ x, r[k]? = some x := ⟨_, List.getElem?_eq_getElem (by rw [← HN.out]; exact hlt)⟩
        obtain ⟨b, off, rfl, hb, _, _, hc⟩ := HC.out k x hx
        obtain ⟨ao2, c2, e2, g1, g2, -, -⟩ := (HP.out k x hx).open
        have hcell : wr.cell? ⟨b, off + k * 3 + 2, none⟩ = some (.slice ao2 x.1.pts.length c2) := by
          rw [← e2]; exact (hbel.cell (p := ⟨b, off + k * 3 + 2, none⟩) hb).trans hc
        unfold maxLen at g2
        have hm0 : (0 : Int) ≤ (x.1.pts.length : Int) := by omega
        have hgl : (r.map fun x => x.1.pts.length).getD k 0 = x.1.pts.length := by
          rw [List.getD_eq_getElem?_getD, List.getElem?_map, hx]
          rfl
        generalize hm : x.1.pts.length = m at *
        have hsat : 0 ≤ satAdd t m ∧ satAdd t m ≤ 4611686018427387904 ∧ (satAdd t m ≤ 1500 → satAdd t m = t + m) := by
          unfold satAdd; split
          · refine ⟨by omega, by omega, by omega⟩
          · refine ⟨by omega, by omega, fun _ => rfl⟩
        have ht' : Hid (satAdd t m ≤ 1500 → satAdd t m = n + lensP r (k + 1)) := fun h => by
          have e1 := hsat.2.2 h
          have e3 := ht.out htop
          simp only [lensP, hgl]
          omega
        have hs1 := hsat.1
        have hs2 := hsat.2.1
        have hsz := hbel.size
        have i0 : (0 : Int) ≤ (k : Int) := by omega
        have i1 : (k : Int) < (n : Int) := by omega
        clear hc hsat hm ht e2 hx hgl
        go_wp2_with (go_at_call 28; refine (Sum_one t m wr.heap.size 0 1 _ (by simp) (by omega) (by omega) (by omega)).mono ?_; rintro e w' ⟨rfl, rfl⟩)
        go_roundw
        case rel => exact ⟨k + 1, _, by omega, by go_num, rfl, hs1, hs2, ht', hbel.alloc hsz _⟩
        case measure => simp [intOf]; omega
      · have HT := Lib.hid htop
        go_wp2
        go_ret
        exact ⟨t, rfl, ht0, ht1, fun h => by have := HT.out; omega, hbel⟩
    · obtain rfl : k = n := by omega
      go_wp2
      go_ret
      refine ⟨t, rfl, ht0, ht1, fun h => ?_, hbel⟩
      have := ht.out h
      omega
/-- are items looked at? -/
theorem small_any (v : Value) (r : List KdV) (w : World) (hv : ItRd w v r) :
    Calls Tryz.prog 4 #[v] w fun e w' => ∃ b : Bool, e = .returned (.bool b) ∧ (b = true → r.length ≤ 150 ∧ ∀ x ∈ r, x.1.pts.length ≤ 1500) ∧ Below w.heap.size w w' := by
  have hv0 := hv
  obtain ⟨ao, c, rfl, h1, h2, -, -⟩ := hv.open
  unfold maxLen at h2
  by_cases hl : r.length ≤ 150
  · have IT := Lib.hid (Items_any _ r w hv0 hl)
    have HI := Lib.hid (fun x (hx : x ∈ r) => item_le r hx)
    have t1 : decide ((r.length : Int) ≤ 150) = true := decide_eq_true (by omega)
    have t1n : decide (r.length ≤ 150) = true := decide_eq_true hl
    clear hv hv0
    generalize r.length = n at *
    go_enter Tryz.func4, Tryz.ntmps4
    go_wp2_with fail
    refine IT.out.mono ?_
    rintro e w1 ⟨t, rfl, g0, g1, ht, hb⟩
    have HT := Lib.hid ht
    clear ht IT
    by_cases hle : t ≤ 1500
    · have t2 : decide (t ≤ 1500) = true := decide_eq_true hle
      have HL := Lib.hid hle
      clear hle
      go_wp2_with fail
      go_ret
      exact ⟨true, rfl, fun _ => ⟨hl, fun x hx => Nat.le_trans (HI.out x hx) (HT.out HL.out)⟩, hb⟩
    · have t2 : decide (t ≤ 1500) = false := decide_eq_false hle
      clear hle
      go_wp2_with fail
      go_ret
      exact ⟨false, rfl, fun h => (by cases h), hb⟩
  · have t1 : decide ((r.length : Int) ≤ 150) = false := decide_eq_false (by omega)
    have t1n : decide (r.length ≤ 150) = false := decide_eq_false hl
    clear hv hv0
    generalize r.length = n at *
    clear hl
    go_enter Tryz.func4, Tryz.ntmps4
    go_wp2_with fail
    go_ret
    exact ⟨false, rfl, fun h => (by cases h), Below.refl _ _⟩

/-- alike points are told to be alike -/
theorem PointsR_eq (v v' : Value) (l : List Pt) (w : World) (h : Pts w v l) (h' : Pts w v' l) :
    Calls Tryz.prog 35 #[v, v'] w fun e w' => e = .returned (.bool true) ∧ Below w.heap.size w w' := by
  obtain ⟨ao, c, rfl, h1, h2, _, h3⟩ := h.open
  obtain ⟨ao', c', rfl, g1, g2, _, g3⟩ := h'.open
  unfold maxLen at h2 g2
  obtain ⟨n, hn⟩ : ∃ n, n = l.length := ⟨_, rfl⟩
  rw [← hn] at h1 g1 ⊢
  have E1 := Lib.hid (show ∀ i, i < n → ∃ x y : Int, ∃ b off b' off', ao = some ⟨b, off, none⟩ ∧ ao' = some ⟨b', off', none⟩ ∧ b < w.heap.size ∧ b' < w.heap.size ∧ w.cell? ⟨b, off + i * 2, none⟩ = some (.int .i64 x) ∧ w.cell? ⟨b, off + i * 2 + 1, none⟩ = some (.int .i64 y) ∧ w.cell? ⟨b', off' + i * 2, none⟩ = some (.int .i64 x) ∧ w.cell? ⟨b', off' + i * 2 + 1, none⟩ = some (.int .i64 y) from fun i hi => by
    obtain ⟨b, off, e, hb, c0, c1⟩ := h3 i (by omega)
    obtain ⟨b', off', e', hb', d0, d1⟩ := g3 i (by omega)
    exact ⟨_, _, b, off, b', off', e, e', hb, hb', c0, c1, d0, d1⟩)
  clear h h' h3 g3 hn
  go_enter Tryz.func35, Tryz.ntmps35
  go_wp2_with fail
  go_loopw [5] (fun i wr => ∃ k : Nat, k ≤ n ∧ i = .int .i64 k ∧ Below w.heap.size w wr) (fun i _ => n - (intOf i).toNat)
  case atStart => exact ⟨0, Nat.zero_le _, rfl, Below.refl _ _⟩
  case round =>
    obtain ⟨k, hk, rfl, hb⟩ := hrel
    by_cases hlt : k < n
    · have t1 : decide ((k : Int) < (n : Int)) = true := decide_eq_true (by omega)
      have i0 : (0 : Int) ≤ (k : Int) := by omega
      have i1 : (k : Int) < (n : Int) := by omega
      obtain ⟨x, y, b, off, b', off', rfl, rfl, hb0, hb1, c0, c1, d0, d1⟩ := E1.out k hlt
      replace c0 := (hb.cell (p := ⟨b, off + k * 2, none⟩) hb0).trans c0
      replace c1 := (hb.cell (p := ⟨b, off + k * 2 + 1, none⟩) hb0).trans c1
      replace d0 := (hb.cell (p := ⟨b', off' + k * 2, none⟩) hb1).trans d0
      replace d1 := (hb.cell (p := ⟨b', off' + k * 2 + 1, none⟩) hb1).trans d1
      have hbd := Lib.hid (fun nq => (show Below w.heap.size w (wr.drewN nq) from ⟨hb.os, hb.tape, hb.output, hb.size, hb.block⟩))
      go_wp2_with fail
      go_quiet (fail)
      go_wp2_with fail
      go_roundw
      case rel => exact ⟨k + 1, hlt, by go_num, hbd.out _⟩
      case measure => simp [intOf]; omega
    · obtain rfl : k = n := by omega
      have t1 : decide ((k : Int) < (k : Int)) = false := by simp
      go_wp2_with fail
      go_ret
      exact ⟨rfl, hb⟩
/-- alike objects are told to be alike -/
theorem SameR_eq (v v' : Value) (kind : Int) (l : List Pt) (w : World) (h : Pts w v l) (h' : Pts w v' l) :
    Calls Tryz.prog 19 #[.agg #[.int .i64 kind, v], .agg #[.int .i64 kind, v']] w fun e w' => e = .returned (.bool true) ∧ Below w.heap.size w w' := by
  have h0 := h
  have h0' := h'
  obtain ⟨ao, c, rfl, _, _, _, _⟩ := h.open
  obtain ⟨ao', c', rfl, _, _, _, _⟩ := h'.open
  have BA : Below w.heap.size w ((w.alloc (.cells #[.int .i64 kind, .slice ao l.length c] 39)).alloc (.cells #[.int .i64 kind, .slice ao' l.length c'] 39)) := ((Below.refl _ _).alloc (Nat.le_refl _) _).alloc (by simp) _
  have PT := Lib.hid (PointsR_eq _ _ l _ (h0.below BA) (h0'.below BA))
  have t1 : (kind == kind) = true := by simp
  clear h h' h0 h0'
  go_enter Tryz.func19, Tryz.ntmps19
  go_wp2_with fail
  refine PT.out.mono ?_
  rintro e w1 ⟨rfl, b1⟩
  have B1 := BA.trans (b1.mono BA.size)
  go_wp2_with fail
  go_ret
  exact ⟨rfl, B1⟩
end

/-! Round -/
section
open Go.RowKit

theorem Round_any (k : Int) (n : Nat) (w : World) (hn : 0 < n) (h1 : n ≤ 1000000) :
    Calls Tryz.prog 29 #[.int .i64 k, .int .i64 n] w fun e w' => e = .returned (.int .i64 (k % (n : Int))) ∧ w = w' := by
  have e1 : k % (n : Int) = if k.tmod n < 0 then k.tmod n + n else k.tmod n := by
    rw [Int.tmod_eq_emod]
    have := Int.emod_nonneg k (show (n : Int) ≠ 0 by omega)
    have := Int.emod_lt_of_pos k (show (0 : Int) < n by omega)
    split <;> split <;> omega
  have b1 : -(n : Int) < k.tmod n ∧ k.tmod n < n := by
    have := Int.tmod_lt_of_pos k (show (0 : Int) < n by omega)
    have := Int.lt_tmod_of_pos k (show (0 : Int) < n by omega)
    omega
  have E1 := Lib.hid e1
  clear e1
  have hn' : (1 : Int) ≤ (n : Int) := by omega
  have hz : ((n : Int) == 0) = false := by simp; omega
  by_cases hneg : k.tmod n < 0
  · go_enter Tryz.func29, Tryz.ntmps29
    go_wp2
    go_ret
    refine ⟨?_, rfl⟩
    rw [E1.out, if_pos hneg]
    rfl
  · go_enter Tryz.func29, Tryz.ntmps29
    go_wp2
    go_ret
    refine ⟨?_, rfl⟩
    rw [E1.out, if_neg (by omega)]
    rfl

theorem Round_at (k m : Int) (n : Nat) (w : World) (hn : 0 < n) (h1 : n ≤ 1000000) (hm : m = (n : Int)) :
    Calls Tryz.prog 29 #[.int .i64 k, .int .i64 m] w fun e w' => ∃ r : Nat, e = .returned (.int .i64 (r : Int)) ∧ r < n ∧ w = w' := by
  subst hm
  refine (Round_any k n w hn h1).mono fun e w' ⟨h2, h3⟩ => ?_
  have a1 := Int.emod_nonneg k (show (n : Int) ≠ 0 by omega)
  have a2 := Int.emod_lt_of_pos k (show (0 : Int) < n by omega)
  obtain ⟨r, hr⟩ := Int.eq_ofNat_of_zero_le a1
  exact ⟨r, by rw [h2, hr], by omega, h3⟩
end

end Go.Proofs.YtoggbmfjjenbaaaGreatDoor
