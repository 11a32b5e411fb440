/- pergolaref8's page: Get, Used, Slots. -/
import Derived.Test.YtdeibgljibcnlaaDoorRef1
namespace Go.Proofs.YtdeibgljibcnlaaDoor
open Go.RowKit

/-- What Get hands back. -/
def RGetRet (w : World) (st : List SlotL) (i : Int) (e : Ending) (w' : World) : Prop :=
  ∃ v c, e = .returned (.tuple #[v, .int .i64 c]) ∧ (if hasS st i = true then c = 0 ∧ Byt w v (getB st i) else c = 15 ∧ v = .slice none 0 0) ∧ w = w'
theorem RGet_any {w : World} {base q : Nat} {kind id : Int} {r : List SlotV} (h : RefIs w base q kind id r) (i : Int) :
    Calls Tryd.prog 20 #[.pointer (some ⟨q, 0, none⟩), .int .i64 i] w (RGetRet w (snds r) i) := by
  have HI := Lib.hid (RIs_any h i)
  unfold RGetRet
  cases hh : hasS (snds r) i with
  | false =>
    rw [hh] at HI
    simp only [Bool.false_eq_true, if_false]
    clear h hh
    go_enter Tryd.func20, Tryd.ntmps20
    go_wp2_with fail
    refine HI.out.mono ?_
    rintro e w1 ⟨rfl, rfl⟩
    go_wp2_with fail
    go_ret2
    exact ⟨_, _, rfl, ⟨rfl, rfl⟩, rfl⟩
  | true =>
    rw [hh] at HI
    simp only [if_true]
    unfold hasS at hh
    rw [Bool.and_eq_true, decide_eq_true_eq] at hh
    obtain ⟨k, rfl⟩ := Int.eq_ofNat_of_zero_le hh.1
    rw [Int.toNat_natCast] at hh
    have hkl : k < r.length := by
      rcases Nat.lt_or_ge k r.length with hk' | hk'
      · exact hk'
      · have := hh.2
        rw [List.getD_eq_getElem?_getD, List.getElem?_eq_none (by simp [snds]; omega)] at this
        simp at this
    have hg : (snds r).getD k none = r[k].2 := by
      rw [List.getD_eq_getElem?_getD, List.getElem?_eq_getElem (by simp [snds]; omega)]
      simp [snds]
    rw [hg] at hh
    obtain ⟨l, hl⟩ := Option.isSome_iff_exists.1 hh.2
    have hgb : getB (snds r) (k : Int) = l := by
      unfold getB
      rw [Int.toNat_natCast, hg, hl]
      rfl
    have hsl := h.2.choose_spec.choose_spec.2.2.2 r[k] (List.getElem_mem hkl)
    unfold SlotIs at hsl
    rw [hl] at hsl
    have hby : Byt w r[k].1 l := Own.byt hsl
    obtain ⟨ab, cb, ah, ch, h1, b1, k1, b2, k2, hb, _⟩ := h.open
    obtain ⟨b, off, rfl, _, hc⟩ := hb k hkl
    have c2 : w.cell? ⟨q, 2, none⟩ = some (.slice (some ⟨b, off, none⟩) r.length cb) := by simp [World.cell?, h1]
    unfold maxLen at b2
    obtain ⟨ao, c, hv, _⟩ := hby.open
    rw [hgb]
    rw [hv] at hc hby
    have HB := Lib.hid hby
    have i0 : (0 : Int) ≤ (k : Int) := by omega
    have i1 : (k : Int) < (r.length : Int) := by omega
    clear h h1 hb hh hg hl hgb hsl hby hv
    go_enter Tryd.func20, Tryd.ntmps20
    go_wp2_with fail
    refine HI.out.mono ?_
    rintro e w1 ⟨rfl, rfl⟩
    go_wp2_with fail
    go_ret2
    exact ⟨_, _, rfl, ⟨rfl, HB.out⟩, rfl⟩

/-- Used -/
theorem RUsed_any {w : World} {base q : Nat} {kind id : Int} {r : List SlotV} (h : RefIs w base q kind id r) (hs : sizeR r ≤ 1000000) :
    Calls Tryd.prog 35 #[.pointer (some ⟨q, 0, none⟩)] w fun e w' => e = .returned (.int .i64 (sizeR r : Int)) ∧ w = w' := by
  have hr := h.2.choose_spec.choose_spec.2.2.2
  obtain ⟨ab, cb, ah, ch, h1, b1, k1, b2, k2, hb, _⟩ := h.open
  have c2 : w.cell? ⟨q, 2, none⟩ = some (.slice ab r.length cb) := by simp [World.cell?, h1]
  have c3 : w.cell? ⟨q, 3, none⟩ = some (.slice ah r.length ch) := by simp [World.cell?, h1]
  have HF := Lib.hid (show ∀ i (h : i < r.length), ∃ ao c, r[i].1 = .slice ao (blen r[i].2) c ∧ c ≤ maxLen from fun i h => (hr _ (List.getElem_mem h)).form)
  have HC := Lib.hid hb
  unfold maxLen at b2 k2
  unfold sizeR at hs ⊢
  clear h h1 hb hr
  go_enter Tryd.func35, Tryd.ntmps35
  go_wp2_with fail
  go_loopw [3, 4] (fun n i wr => ∃ k m : Nat, k ≤ r.length ∧ i = .int .i64 k ∧ n = .int .i64 m ∧ m = 16 + 4 * r.length + sumR (r.take k) ∧ wr = w) (fun _ i _ => r.length - (intOf i).toNat)
  case atStart => exact ⟨0, 16 + 4 * r.length, Nat.zero_le _, rfl, by go_num, by simp [sumR], rfl⟩
  case round =>
    obtain ⟨k, m, hk, rfl, rfl, hm, rfl⟩ := hrel
    have hle := sumR_le r k
    by_cases hlt : k < r.length
    · obtain ⟨b, off, rfl, _, hc⟩ := HC.out k hlt
      obtain ⟨ao, c, hv, hcm⟩ := HF.out k hlt
      rw [hv] at hc
      have hst := sumR_take hlt
      have hle2 := sumR_le r (k + 1)
      have t1 : decide ((k : Int) < (r.length : Int)) = true := by simp; omega
      have i0 : (0 : Int) ≤ (k : Int) := by omega
      have i1 : (k : Int) < (r.length : Int) := by omega
      have hb1 : m + blen r[k].2 ≤ 1000000 := by omega
      have HM := Lib.hid (show m + blen r[k].2 = 16 + 4 * r.length + sumR (r.take (k + 1)) by omega)
      generalize blen r[k].2 = bl at *
      clear hm hst hle hle2 hv
      go_wp2_with fail
      go_roundw
      case rel => exact ⟨k + 1, m + bl, hlt, by go_num, by go_num, HM.out, trivial⟩
      case measure => simp [intOf]; omega
    · obtain rfl : k = r.length := by omega
      have t1 : decide ((r.length : Int) < (r.length : Int)) = false := by simp
      rw [List.take_length] at hm
      have HM := Lib.hid hm
      clear hm
      go_wp2_with fail
      go_ret
      exact ⟨by have h := HM.out; subst h; rfl, rfl⟩

/-- Slots -/
theorem RSlots_any {w : World} {base q : Nat} {kind id : Int} {r : List SlotV} (h : RefIs w base q kind id r) (hl : r.length ≤ 60) :
    Calls Tryd.prog 43 #[.pointer (some ⟨q, 0, none⟩)] w fun e w' => ∃ v, e = .returned v ∧ OwnN w' w.heap.size v (fullS (snds r)) ∧ Below w.heap.size w w' := by
  have hsl : (snds r).length = r.length := by simp [snds]
  have HT := Lib.hid (show fullS (snds r) = fullR r r.length by unfold fullS fullR; rw [hsl])
  obtain ⟨ab, cb, ah, ch, h1, b1, k1, b2, k2, _, hh⟩ := h.open
  have c3 : w.cell? ⟨q, 3, none⟩ = some (.slice ah r.length ch) := by simp [World.cell?, h1]
  have hql := lt_of_block h1
  have HC := Lib.hid hh
  unfold maxLen at k2
  clear h h1 hh
  go_enter Tryd.func43, Tryd.ntmps43
  go_wp2_with fail
  go_loopw [3, 4] (fun v i wr => ∃ k : Nat, k ≤ r.length ∧ i = .int .i64 k ∧ OwnN wr w.heap.size v (fullR r k) ∧ Below w.heap.size w wr) (fun _ i => fun _ => r.length - (intOf i).toNat)
  case atStart => exact ⟨0, Nat.zero_le _, rfl, World.ownsRow_nil _ _ _ _, Below.refl _ _⟩
  case round =>
    obtain ⟨k, hk, rfl, ho, hb⟩ := hrel
    have d3 := (hb.cell (p := ⟨q, 3, none⟩) hql).trans c3
    by_cases hlt : k < r.length
    · obtain ⟨b, off, rfl, hbl, x0⟩ := HC.out k hlt
      have hx0 := (hb.cell (p := ⟨b, off + k, none⟩) hbl).trans x0
      have FS := Lib.hid (fullR_succ r k hlt)
      have hfl := fullR_le r k
      have t1 : decide ((k : Int) < (r.length : Int)) = true := by simp; omega
      have i0 : (0 : Int) ≤ (k : Int) := by omega
      have i1 : (k : Int) < (r.length : Int) := by omega
      have OW := Lib.hid ho
      obtain ⟨av, cv, rfl⟩ := ho.form
      clear ho x0 c3
      cases hf : r[k].2.isSome with
      | true =>
        rw [hf] at hx0
        rw [hf, if_pos rfl] at FS
        have hB : Below wr.heap.size wr (wr.alloc (.cells #[.int .i64 k] 3)) := (Below.refl _ _).alloc (Nat.le_refl _) _
        have LIT := Lib.hid (show Rd (wr.alloc (.cells #[.int .i64 k] 3)) (.slice (some ⟨wr.heap.size, 0, none⟩) 1 1) 1 (numsV [(k : Int)]) from rd_alloc wr #[.int .i64 k] 3 (0, 0) 1 (by simp [maxLen]))
        have OW2 := Lib.hid (show OwnN (wr.alloc (.cells #[.int .i64 k] 3)) w.heap.size _ (fullR r k) from own_below' OW.out hB)
        have B2 := hb.trans (hB.mono hb.size)
        have h63 : (fullR r k).length + [(k : Int)].length ≤ 1000000 := by simp; omega
        clear hf hB OW
        go_wp2_with (at_builtin; refine wpList_append_num rfl _ _ rfl w.heap.size _ _ rfl OW2.out _ [(k : Int)] rfl LIT.out h63 B2.size ?_)
        intro v3 w3 ho3 hb3
        have B3 := B2.trans hb3
        have HO3 := Lib.hid ho3
        clear ho3 hb3
        go_wp2_with fail
        go_roundw
        case rel => exact ⟨k + 1, hlt, by go_num, by rw [FS.out]; exact HO3.out, B3⟩
        case measure => simp [intOf]; omega
      | false =>
        rw [hf] at hx0
        rw [hf, if_neg (by decide)] at FS
        clear hf
        go_wp2_with fail
        go_roundw
        case rel => exact ⟨k + 1, hlt, by go_num, by rw [FS.out]; exact OW.out, hb⟩
        case measure => simp [intOf]; omega
    · obtain rfl : k = r.length := by omega
      have t1 : decide ((r.length : Int) < (r.length : Int)) = false := by simp
      have HO := Lib.hid ho
      obtain ⟨av, cv, rfl⟩ := ho.form
      clear ho
      go_wp2_with fail
      go_ret
      exact ⟨_, rfl, by rw [HT.out]; exact HO.out, hb⟩
end Go.Proofs.YtdeibgljibcnlaaDoor
