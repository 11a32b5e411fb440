/- pergolaref8's page: trim, Delete. -/
import Derived.Test.YtdeibgljibcnlaaDoorRef2
import Derived.Test.YtdeibgljibcnlaaDoorReg
import Derived.Deep.LoopGhost
namespace Go.Proofs.YtdeibgljibcnlaaDoor
open Go.RowKit

theorem page_setCell2 {w : World} {p : Nat} {a b c d x : Value} {t : TypeId} (h : w.heap[p]? = some (.cells #[a, b, c, d] t (0, 0))) : (w.setCell ⟨p, 2, none⟩ x).heap[p]? = some (.cells #[a, b, x, d] t (0, 0)) := by
  have hlt := lt_of_block h
  have h' : w.heap[p] = .cells #[a, b, c, d] t (0, 0) := by simpa [Array.getElem?_eq_getElem hlt] using h
  show (w.heap.modify p _)[p]? = _
  rw [Array.getElem?_eq_getElem (by simpa using hlt), Array.getElem_modify_self, h']
  rfl
theorem free_page4 {w : World} {p : Nat} {a b c d : Value} {t : TypeId} (h : w.heap[p]? = some (.cells #[a, b, c, d] t (0, 0))) (j : Nat) : w.frozen? ⟨p, j, none⟩ = false := by simp [World.frozen?, h]
theorem FrmR.setPage {base : Nat} {w w' : World} (h : FrmR base w w') {p : Nat} {c : Array Value} {m : Nat × Nat} (hp : w'.heap[p]? = some (.cells c 77 m)) (hb : base ≤ p) (j : Nat) (u : Value) : FrmR base w (w'.setCell ⟨p, j, none⟩ u) :=
  ⟨h.below.setCell (p := ⟨p, j, none⟩) hb u, fun k c' t m' e h1 h2 h3 => by
    have hk := (h.kept k c' t m' e h1 h2 h3).trans e
    have hne : k ≠ p := fun q => by
      subst q
      rw [hp] at hk
      simp at hk
      exact h3 hk.2.1.symm
    rw [Below.heap_setCell _ _ _ _ (fun q => hne (by simpa using q)), hk, e]⟩
theorem own_setOther' {w : World} {B s n : Nat} {e : TypeId} {v : Value} {xs : List Value} (h : w.ownsRow B e s v n xs) {g : Nat} {c : Array Value} {t : TypeId} {m : Nat × Nat} (hp : w.heap[g]? = some (.cells c t m)) (ht : t ≠ e) (j : Nat) (u : Value) :
    (w.setCell ⟨g, j, none⟩ u).ownsRow B e s v n xs := by
  refine ownsRow_setCell_other h (fun q => ?_) u
  obtain ⟨c', fz, h2⟩ := Go.Lib.ownsRow_kind h g q
  rw [hp] at h2
  simp at h2
  exact ht h2.2.1
/-- the last cell is let go -/
theorem own_pop {w : World} {B n c : Nat} {e : TypeId} {ao : Option Addr} {xs : List Value} {x : Value} (h : w.ownsRow B e 1 (.slice ao (n + 1) c) (n + 1) (xs ++ [x])) : w.ownsRow B e 1 (.slice ao n c) n xs := by
  have hl : xs.length = n := by have := h.1; simp at this; exact this
  refine ⟨by simpa using hl, ?_⟩
  rcases h.2 with ⟨q, _⟩ | ⟨g', cap', cur, e', hb, hg, hn, hm, hs, ht⟩
  · simp at q
  · simp only [Value.slice.injEq] at e'
    obtain ⟨rfl, _, rfl⟩ := e'
    refine .inr ⟨g', c, cur, rfl, hb, hg, by omega, hm, hs, ?_⟩
    have := congrArg (List.take (n * 1)) ht
    rw [List.take_take, List.take_left' (by omega)] at this
    rw [← this]
    congr 1
    omega
/-- both rows are one shorter -/
theorem ref_pop {w : World} {B q : Nat} {kind id : Int} {r0 : List SlotV} {x : SlotV} {ab ah : Option Addr} {cb ch : Nat} (hB : B ≤ q)
    (h1 : w.heap[q]? = some (.cells #[.int .i64 kind, .int .i64 id, .slice ab (r0.length + 1) cb, .slice ah (r0.length + 1) ch] 77 (0, 0)))
    (h2 : w.ownsRow B 30 1 (.slice ab (r0.length + 1) cb) (r0.length + 1) (bytV (r0 ++ [x]))) (h3 : w.ownsRow B 4 1 (.slice ah (r0.length + 1) ch) (r0.length + 1) (hasV (r0 ++ [x])))
    (h4 : ∀ y ∈ r0 ++ [x], SlotIs w B y) {w0 : World} (hf : FrmR B w0 w) :
    RefIs ((w.setCell ⟨q, 3, none⟩ (.slice ah r0.length ch)).setCell ⟨q, 2, none⟩ (.slice ab r0.length cb)) B q kind id r0 ∧ FrmR B w0 ((w.setCell ⟨q, 3, none⟩ (.slice ah r0.length ch)).setCell ⟨q, 2, none⟩ (.slice ab r0.length cb)) := by
  have s1 := page_setCell (x := .slice ah r0.length ch) h1
  have s2 := page_setCell2 (x := .slice ab r0.length cb) s1
  refine ⟨⟨hB, _, _, s2, ?_, ?_, fun y hy => ?_⟩, (hf.setPage h1 hB _ _).setPage s1 hB _ _⟩
  · exact own_setOther' (own_setOther' (own_pop (by simpa [bytV] using h2)) h1 (by decide) _ _) s1 (by decide) _ _
  · exact own_setOther' (own_setOther' (own_pop (by simpa [hasV] using h3)) h1 (by decide) _ _) s1 (by decide) _ _
  · exact ((h4 y (List.mem_append_left _ hy)).setOther h1 (by decide) _ _).setOther s1 (by decide) _ _

set_option maxHeartbeats 2000000 in
set_option maxRecDepth 100000 in
/-- trim -/
theorem RTrim_any {w : World} {B q : Nat} {kind id : Int} {r : List SlotV} (h : RefIs w B q kind id r) (hl : r.length ≤ 60) :
    Calls Tryd.prog 38 #[.pointer (some ⟨q, 0, none⟩)] w fun e w' => e = .returned (.tuple #[]) ∧ ∃ r', snds r' = trimS (snds r) ∧ RefIs w' B q kind id r' ∧ FrmR B w w' := by
  have hbs : B ≤ w.heap.size := Nat.le_trans h.1 (Nat.le_of_lt (lt_of_block h.2.choose_spec.choose_spec.1))
  have HR := Lib.hid h
  have HF := Lib.hid (FrmR.of_below (Below.refl _ w) hbs)
  clear h
  go_enter Tryd.func38, Tryd.ntmps38
  go_wp2_with fail
  go_loopg [] r.length (fun n wr => ∃ r1 : List SlotV, r1.length ≤ n ∧ r1.length ≤ 60 ∧ Hid (trimS (snds r1) = trimS (snds r)) ∧ RefIs wr B q kind id r1 ∧ FrmR B w wr)
  case atStart => exact ⟨r, Nat.le_refl _, hl, rfl, HR.out, HF.out⟩
  case round =>
    obtain ⟨r1, hn, hn60, htr, hrf, hfm⟩ := hrel
    have BD : ∀ m, Below wr.heap.size wr (wr.drewN m) := fun m => bel_drewN (Below.refl _ wr) m
    have hbs2 : B ≤ wr.heap.size := Nat.le_trans hbs hfm.below.size
    have PF := Lib.hid (show ∀ m, trimS (snds r1) = snds r1 → ∃ r', snds r' = trimS (snds r) ∧ RefIs (wr.drewN m) B q kind id r' ∧ FrmR B w (wr.drewN m) from fun m h => ⟨r1, by rw [← h]; exact htr, hrf.below (BD m), hfm.trans (.of_below (BD m) hbs2)⟩)
    have hrf' := hrf
    obtain ⟨hB, VB, VH, h1, h2, h3, h4⟩ := hrf'
    rcases List.eq_nil_or_concat r1 with rfl | ⟨r0, x, rfl⟩
    · have F := Lib.hid (fun m => PF.out m rfl)
      obtain ⟨ah, ch, rfl, _⟩ := Rd.of_own h3
      have c3 : wr.cell? ⟨q, 3, none⟩ = some (.slice ah 0 ch) := by simp [World.cell?, h1]
      clear PF hrf h1 h2 h3 h4
      go_wp2_with fail
      go_quiet (fail)
      go_wp2_with fail
      go_end0
      exact ⟨rfl, F.out _⟩
    · rw [List.concat_eq_append] at *
      have hl1 : (r0 ++ [x]).length = r0.length + 1 := by simp
      rw [hl1] at h2 h3 hn hn60
      obtain ⟨ah, ch, rfl, hk1, hk2, _, hk3⟩ := Rd.of_own h3
      obtain ⟨ab, cb, rfl, hb1, hb2, _, hb3⟩ := Rd.of_own h2
      obtain ⟨gh, off, rfl, hgl, hcl⟩ := hk3 r0.length (by rw [hasV_length]; simp)
      obtain ⟨gb, offb, rfl, _, _⟩ := hb3 r0.length (by rw [bytV_length]; simp)
      unfold maxLen at hk2 hb2
      have c3 : wr.cell? ⟨q, 3, none⟩ = some (.slice (some ⟨gh, off, none⟩) (r0.length + 1) ch) := by simp [World.cell?, h1]
      have e1 : IntKind.i64.wrap (((r0.length + 1 : Nat) : Int) - 1) = (r0.length : Int) := by rw [IntWalk.i64_in _ (by omega)]; omega
      have cl : wr.cell? ⟨gh, off + r0.length, none⟩ = some (.bool x.2.isSome) := by rw [hcl]; simp [hasV]
      cases hxo : x.2 with
      | some l =>
        have F := Lib.hid (fun m => PF.out m (by simp only [snds, List.map_append, List.map_cons, List.map_nil, hxo]; exact trimS_some _ _))
        rw [hxo] at cl
        simp only [Option.isSome_some] at cl
        clear PF hrf h1 h2 h3 h4 hxo hk3 hb3 hcl htr
        go_wp2_with fail
        go_quiet (fail)
        go_wp2_with fail
        go_end0
        exact ⟨rfl, F.out _⟩
      | none =>
        rw [hxo] at cl
        simp only [Option.isSome_none] at cl
        have htr' : trimS (snds r0) = trimS (snds r) := by
          have := htr.out
          rw [show snds (r0 ++ [x]) = snds r0 ++ [none] by simp [snds, hxo], trimS_none] at this
          exact this
        have HTR := Lib.hid htr'
        have PP := Lib.hid (fun m => ref_pop (w := wr.drewN m) hB h1 (own_below' h2 (BD m)) (own_below' h3 (BD m)) (fun y hy => (h4 y hy).below (BD m)) (hfm.trans (.of_below (BD m) hbs2)))
        have c2 : wr.cell? ⟨q, 2, none⟩ = some (.slice (some ⟨gb, offb, none⟩) (r0.length + 1) cb) := by simp [World.cell?, h1]
        have f3 : wr.frozen? ⟨q, 3, none⟩ = false := free_page4 h1 3
        have f2 : wr.frozen? ⟨q, 2, none⟩ = false := free_page4 h1 2
        have e2 : (r0.length : Int).toNat = r0.length := by omega
        have e3 : (0 : Int) ≤ (r0.length : Int) := by omega
        have e4 : (r0.length : Int) ≤ (ch : Int) := by omega
        have e4' : (r0.length : Int) ≤ (cb : Int) := by omega
        have e6 : (ch == 0) = false := by simp; omega
        have e7 : ¬ ch = 0 := by omega
        have e6' : (cb == 0) = false := by simp; omega
        have e7' : ¬ cb = 0 := by omega
        have e5 : IntKind.i64.wrap (r0.length : Int) = (r0.length : Int) := by rw [IntWalk.i64_in _ (by omega)]
        clear PF hrf h1 h2 h3 h4 hxo hk3 hb3 hcl htr htr' hfm
        go_wp2_with fail
        go_quiet (fail)
        go_wp2_with fail
        go_region
        go_wp2_with fail
        go_region
        go_wp2_with fail
        go_roundg r0.length
        case measure => omega
        case rel => exact ⟨r0, Nat.le_refl _, by omega, HTR.out, (PP.out (nq + 1)).1, (PP.out (nq + 1)).2.below.drew, (PP.out (nq + 1)).2.kept⟩

/-- a slot is freed, in both rows -/
theorem ref_clear {w : World} {B q gb gh cb ch : Nat} {kind id : Int} {r : List SlotV} (hB : B ≤ q)
    (h1 : w.heap[q]? = some (.cells #[.int .i64 kind, .int .i64 id, .slice (some ⟨gb, 0, none⟩) r.length cb, .slice (some ⟨gh, 0, none⟩) r.length ch] 77 (0, 0)))
    (h2 : w.ownsRow B 30 1 (.slice (some ⟨gb, 0, none⟩) r.length cb) r.length (bytV r)) (h3 : w.ownsRow B 4 1 (.slice (some ⟨gh, 0, none⟩) r.length ch) r.length (hasV r))
    (h4 : ∀ y ∈ r, SlotIs w B y) (k : Nat) {x : SlotV} (hx : SlotIs w B x) :
    RefIs ((w.setCell ⟨gh, k, none⟩ (.bool x.2.isSome)).setCell ⟨gb, k, none⟩ x.1) B q kind id (r.set k x) ∧ FrmR B w ((w.setCell ⟨gh, k, none⟩ (.bool x.2.isSome)).setCell ⟨gb, k, none⟩ x.1) := by
  obtain ⟨_, _, hgh⟩ := Go.Lib.ownsRow_kind h3 gh rfl
  have s3 := (World.ownsRow.stored h3 k (.bool x.2.isSome)).1
  have s2 := own_setOther' h2 hgh (by decide) k (.bool x.2.isSome)
  obtain ⟨_, _, hgb⟩ := Go.Lib.ownsRow_kind s2 gb rfl
  have s2' := (World.ownsRow.stored s2 k x.1).1
  have s3' := own_setOther' s3 hgb (by decide) k x.1
  have n1 : q ≠ gh := fun e => by subst e; rw [h1] at hgh; simp at hgh
  have k1 : (w.setCell ⟨gh, k, none⟩ (.bool x.2.isSome)).heap[q]? = w.heap[q]? := Below.heap_setCell _ _ _ _ (fun e => n1 (by simpa using e))
  have n2 : q ≠ gb := fun e => by subst e; rw [k1, h1] at hgb; simp at hgb
  have bgh := (World.ownsRow.lt h3 gh rfl).1
  have bgb := (World.ownsRow.lt h2 gb rfl).1
  have goal1 : RefIs ((w.setCell ⟨gh, k, none⟩ (.bool x.2.isSome)).setCell ⟨gb, k, none⟩ x.1) B q kind id (r.set k x) := by
    refine ⟨hB, .slice (some ⟨gb, 0, none⟩) r.length cb, .slice (some ⟨gh, 0, none⟩) r.length ch, ?_, ?_, ?_, fun y hy => ?_⟩
    · rw [Below.heap_setCell _ _ _ _ (fun e => n2 (by simpa using e)), k1, h1]
    · rw [List.length_set]
      have e : bytV (r.set k x) = (bytV r).set k x.1 := by simp [bytV, List.map_set]
      rw [e]
      exact s2'
    · rw [List.length_set]
      have e : hasV (r.set k x) = (hasV r).set k (.bool x.2.isSome) := by simp [hasV, List.map_set]
      rw [e]
      exact s3'
    · rcases List.mem_or_eq_of_mem_set hy with hy | rfl
      · exact ((h4 y hy).setOther hgh (by decide) _ _).setOther hgb (by decide) _ _
      · exact (hx.setOther hgh (by decide) _ _).setOther hgb (by decide) _ _
  refine ⟨goal1, ?_, fun j c t m hj t1 t2 t3 => ?_⟩
  · exact ((Below.refl _ _).setCell (p := ⟨gh, k, none⟩) bgh _).setCell (p := ⟨gb, k, none⟩) bgb _
  · have m1 : j ≠ gh := fun e => by subst e; rw [hgh] at hj; simp at hj; exact t1 hj.2.1.symm
    have k2 : (w.setCell ⟨gh, k, none⟩ (.bool x.2.isSome)).heap[j]? = w.heap[j]? := Below.heap_setCell _ _ _ _ (fun e => m1 (by simpa using e))
    have m2 : j ≠ gb := fun e => by subst e; rw [← k2, hgb] at hj; simp at hj; exact t2 hj.2.1.symm
    rw [Below.heap_setCell _ _ _ _ (fun e => m2 (by simpa using e)), k2]

/-- What a call that may change the reference's page hands back. -/
def RPutRet (B q : Nat) (kind id : Int) (w : World) (k : Int) (st' : List SlotL) (e : Ending) (w' : World) : Prop :=
  e = .returned (.int .i64 k) ∧ (∃ r', snds r' = st' ∧ RefIs w' B q kind id r') ∧ FrmR B w w' ∧ (¬ k = 0 → Below w.heap.size w w')

set_option maxRecDepth 100000 in
/-- Delete -/
theorem RDelete_any {w : World} {B q : Nat} {kind id : Int} {r : List SlotV} (h : RefIs w B q kind id r) (hl : r.length ≤ 60) (i : Int) :
    Calls Tryd.prog 18 #[.pointer (some ⟨q, 0, none⟩), .int .i64 i] w (RPutRet B q kind id w (if hasS (snds r) i = true then 0 else 15) (if hasS (snds r) i = true then delS (snds r) i.toNat else snds r)) := by
  have HI := Lib.hid (RIs_any h i)
  have hbs : B ≤ w.heap.size := Nat.le_trans h.1 (Nat.le_of_lt (lt_of_block h.2.choose_spec.choose_spec.1))
  unfold RPutRet
  cases hh : hasS (snds r) i with
  | false =>
    rw [hh] at HI
    have HR := Lib.hid h
    simp only [Bool.false_eq_true, if_false]
    clear h hh
    go_enter Tryd.func18, Tryd.ntmps18
    go_wp2_with fail
    refine HI.out.mono ?_
    rintro e w1 ⟨rfl, rfl⟩
    go_wp2_with fail
    go_ret
    exact ⟨rfl, ⟨r, rfl, HR.out⟩, .of_below (Below.refl _ _) hbs, fun _ => Below.refl _ _⟩
  | true =>
    rw [hh] at HI
    simp only [if_true]
    unfold hasS at hh
    rw [Bool.and_eq_true, decide_eq_true_eq] at hh
    obtain ⟨k, rfl⟩ := Int.eq_ofNat_of_zero_le hh.1
    rw [Int.toNat_natCast] at hh ⊢
    have hkl : k < r.length := by
      rcases Nat.lt_or_ge k r.length with hk' | hk'
      · exact hk'
      · have := hh.2
        rw [List.getD_eq_getElem?_getD, List.getElem?_eq_none (by simp [snds]; omega)] at this
        simp at this
    obtain ⟨hB, VB, VH, h1, h2, h3, h4⟩ := h
    rcases h2.2 with ⟨_, q0⟩ | ⟨gb, cb, cur, rfl, hbg, hgb, hbn, hbm, _⟩
    · omega
    rcases h3.2 with ⟨_, q0⟩ | ⟨gh, ch, cur', rfl, hhg, hgh, hhn, hhm, _⟩
    · omega
    unfold maxLen at hbm hhm
    obtain ⟨RC, RF⟩ := ref_clear hB h1 h2 h3 h4 k (x := (.slice none 0 0, none)) rfl
    have TR := Lib.hid (RTrim_any RC (by simp; exact hl))
    have hst : trimS (snds (r.set k (.slice none 0 0, none))) = delS (snds r) k := by
      unfold delS
      simp [snds, List.map_set]
    rw [hst] at TR
    have RFF := Lib.hid RF
    have c2 : w.cell? ⟨q, 2, none⟩ = some (.slice (some ⟨gb, 0, none⟩) r.length cb) := by simp [World.cell?, h1]
    have c3 : w.cell? ⟨q, 3, none⟩ = some (.slice (some ⟨gh, 0, none⟩) r.length ch) := by simp [World.cell?, h1]
    have x3 := World.ownsRow.cellAt h3 k (by omega)
    rw [List.getElem?_eq_getElem (by rw [hasV_length]; exact hkl)] at x3
    have f3 := World.ownsRow.frozenAt h3 k
    have s2 := own_setOther' h2 hgh (by decide) k (.bool false)
    have x2 := World.ownsRow.cellAt s2 k (by omega)
    rw [List.getElem?_eq_getElem (by rw [bytV_length]; exact hkl)] at x2
    have f2 := World.ownsRow.frozenAt s2 k
    have n1 : q ≠ gh := fun e => by subst e; rw [h1] at hgh; simp at hgh
    have y2 : (w.setCell ⟨gh, k, none⟩ (.bool false)).cell? ⟨q, 2, none⟩ = some (.slice (some ⟨gb, 0, none⟩) r.length cb) := by
      rw [World.cell?_setCell_far _ _ _ _ (by simpa using n1.symm)]
      exact c2
    generalize (hasV r)[k]'(by rw [hasV_length]; exact hkl) = o3 at *
    generalize (bytV r)[k]'(by rw [bytV_length]; exact hkl) = o2 at *
    have i0 : (0 : Int) ≤ (k : Int) := by omega
    have i1 : (k : Int) < (r.length : Int) := by omega
    clear h1 h2 h3 h4 hgb hgh RC RF hst s2 hh n1
    go_enter Tryd.func18, Tryd.ntmps18
    go_wp2_with fail
    refine HI.out.mono ?_
    rintro e w1 ⟨rfl, rfl⟩
    go_wp2_with fail
    refine TR.out.mono ?_
    rintro e w2 ⟨rfl, r', hr', p2, f2'⟩
    have P2 := Lib.hid (show ∃ r', snds r' = delS (snds r) k ∧ RefIs w2 B q kind id r' from ⟨r', hr', p2⟩)
    have F2 := Lib.hid (RFF.out.trans f2')
    clear hr' p2 f2'
    go_wp2_with fail
    go_ret
    exact ⟨rfl, P2.out, F2.out, fun h => by simp at h⟩
end Go.Proofs.YtdeibgljibcnlaaDoor
