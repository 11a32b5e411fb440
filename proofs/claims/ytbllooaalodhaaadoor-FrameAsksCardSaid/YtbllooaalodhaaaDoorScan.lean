/- frame.Scan; pergolaalike.Rows, Total. -/
import Derived.Test.YtbllooaalodhaaaDoorScanFacts
import Derived.Test.YtbllooaalodhaaaDoorRws
import Derived.Test.YtbllooaalodhaaaDoorSumA
namespace Go.Proofs.YtbllooaalodhaaaDoor
open Go.RowKit

/-- The call hands back rows of bytes, a number, and an error. -/
def ScanRet (w : World) (r : List (List UInt8) × Nat × Int) (e : Ending) (w' : World) : Prop :=
  ∃ v u, e = .returned (.tuple #[v, .int .i64 (r.2.1 : Int), u]) ∧ OwnRws w' w.heap.size v r.1 ∧ Er.Is w' (if r.2.2 = 0 then .none else .fault frameStr (r.2.1 : Int) (.num r.2.2)) u ∧ Below w.heap.size w w'

/-- what is known behind k frames -/
def ScanAt (l : List UInt8) (rows : List (List UInt8)) (a : Nat) : Prop :=
  scanOf l = (rows ++ (scanOf (l.drop a)).1, a + (scanOf (l.drop a)).2.1, (scanOf (l.drop a)).2.2)

theorem ScanAt.next {l : List UInt8} {rows : List (List UInt8)} {a : Nat} (h : ScanAt l rows a) (ha : a < l.length) (h0 : (nextOf (l.drop a)).1 = 0) :
    ScanAt l (rows ++ [(nextOf (l.drop a)).2.1]) (a + (nextOf (l.drop a)).2.2) := by
  have hl : 0 < (l.drop a).length := by rw [List.length_drop]; omega
  unfold ScanAt at h ⊢
  rw [h, scanOf_ok hl h0, List.drop_drop]
  simp [Nat.add_assoc]

theorem rows_far {w w1 : World} {base : Nat} {lv v1 : Value} {rows : List (List UInt8)} {p : List UInt8} (hrows : OwnRws w base lv rows) (ho : Own w1 w.heap.size v1 p) :
    ∀ g, v1.ownBlock = some g → g < w1.heap.size ∧ lv.ownBlock ≠ some g := by
  obtain ⟨_, _, h, _⟩ := hrows
  intro g hg
  exact ⟨(ho.lt g hg).2, fun e => by have := (h.lt g e).2; have := (ho.lt g hg).1; omega⟩

theorem er_num {w : World} {code : Int} {u : Value} (h : code ≠ 0) (he : Er.Is w (if code = 0 then .none else .num code) u) : Er.Is w (.num code) u := by rwa [if_neg h] at he

set_option maxRecDepth 100000 in
theorem Scan_any (v : Value) (l : List UInt8) (w : World) (hv : Byt w v l) (hl : l.length ≤ 1000000) :
    Calls Tryd.prog 13 #[v] w (ScanRet w (scanOf l)) := by
  obtain ⟨ao, c, rfl, h1, h2, h0, h3⟩ := hv.open
  unfold maxLen at h2
  generalize hR : scanOf l = R
  have HR := Lib.hid hR
  clear hR
  go_enter Tryd.func13, Tryd.ntmps13
  go_wp2
  go_loopw [2, 3] (fun lv i wr => ∃ (rows : List (List UInt8)) (a : Nat), a ≤ l.length ∧ i = .int .i64 a ∧ OwnRws wr w.heap.size lv rows ∧ Below w.heap.size w wr ∧ rows.length ≤ a ∧ ScanAt l rows a) (fun _ i _ => l.length - (intOf i).toNat)
  case atStart => exact ⟨[], 0, Nat.zero_le _, rfl, OwnRws.nil _ _, Below.refl _ _, Nat.le_refl _, by simp [ScanAt]⟩
  case round =>
    obtain ⟨rows, a, ha, rfl, hrows, hbel, hra, hat⟩ := hrel
    by_cases hlt : a < l.length
    · obtain ⟨b, off, rfl, hb, _⟩ := h3 0 (by omega)
      clear h3
      have hca : ¬ c = a := by omega
      have hv1 := (hv.below hbel).drop (m := a) (by omega)
      have hdl : (l.drop a).length ≤ 140737488355328 := by rw [List.length_drop]; omega
      have i0 : (0 : Int) ≤ (a : Int) := by omega
      have i1 : (a : Int) ≤ (l.length : Int) := by omega
      rcases nextOf_code (l.drop a) with hc | hc
      · have hle := nextOf_le hc
        have hnext := hat.next hlt hc
        rw [List.length_drop] at hle
        obtain ⟨code, p, n, hr⟩ : ∃ code p n, nextOf (l.drop a) = (code, p, n) := ⟨_, _, _, rfl⟩
        rw [hr] at hc hle hnext
        obtain rfl : code = 0 := hc
        have HR2 := Lib.hid hr
        have hle1 : 8 ≤ n := hle.1
        have hle2 : n ≤ l.length - a := hle.2.1
        have hnext' : ScanAt l (rows ++ [p]) (a + n) := hnext
        clear hr hle hnext hat
        have hsz := hbel.size
        have hrl : rows.length ≤ 1000000 := by omega
        go_wp2_with (first
          | (go_at_call 24; refine (next_any _ _ _ hv1 hdl).mono ?_; rw [HR2.out]; rintro e w1 ⟨v1, u1, rfl, ho1, he1, hb1⟩; obtain rfl : u1 = .nilIface := he1; have hfar := rows_far hrows ho1; have hby1 := ho1.byt; have hrows1 := hrows.below hb1; have hsz1 := hb1.size; obtain ⟨ao1, cp1, rfl, _⟩ := ho1.byt.open)
          | (at_builtin; refine wpList_append_row rfl _ _ rfl w.heap.size u2 (.slice ao1 p.length cp1) rows p rfl hrows1 rfl hby1 hfar hrl (Nat.le_trans hsz hsz1) ?_))
        intro v3 w3 hrows3 hb3
        have hb4 := (hbel.trans (hb1.mono hsz)).trans hb3
        clear hrows hrows1 hfar ho1 hby1
        go_wp2
        go_roundw
        case rel => exact ⟨rows ++ [p], a + n, by omega, by go_num, hrows3, hb4, by simp; omega, hnext'⟩
        case measure => simp [intOf]; omega
      · have hc0 : (nextOf (l.drop a)).1 ≠ 0 := by omega
        obtain ⟨code, p, n, hr⟩ : ∃ code p n, nextOf (l.drop a) = (code, p, n) := ⟨_, _, _, rfl⟩
        have hbad := scanOf_bad (l := l.drop a) (by rw [List.length_drop]; omega) hc0
        rw [hr] at hc0 hbad
        have hfin : R = (rows, a, code) := by
          rw [← HR.out, hat, hbad]; simp
        have HF := Lib.hid hfin
        have HC := Lib.hid hc0
        have HR2 := Lib.hid hr
        clear hr hc hc0 hbad hfin hat
        go_wp2_with (go_at_call 24; refine (next_any _ _ _ hv1 hdl).mono ?_; rw [HR2.out]; rintro e w1 ⟨v1, u1, rfl, ho1, he1, hb1⟩; have he2 := er_num HC.out he1; obtain rfl : u1 = .iface 52 (.int .i64 code) := he2)
        go_wp2_with (go_at_call 22; refine (New_er frameStr (a : Int) (.num code) _ _ rfl).mono ?_; rintro e w2 ⟨u2', rfl, he3, hb2⟩)
        go_ret3
        refine ⟨_, _, by rw [HF.out]; rfl, ?_, ?_, (hbel.trans (hb1.mono hbel.size)).trans (hb2.mono (Nat.le_trans hbel.size hb1.size))⟩
        · rw [HF.out]; exact (hrows.below hb1).below hb2
        · rw [HF.out]
          simp only [if_neg HC.out]
          exact he3
    · obtain rfl : a = l.length := by omega
      have hfin : R = (rows, l.length, 0) := by
        rw [← HR.out, hat, List.drop_length, scanOf_nil]; simp
      have HF := Lib.hid hfin
      clear hfin hat h3
      go_wp2
      go_ret3
      refine ⟨_, _, by rw [HF.out]; rfl, ?_, ?_, hbel⟩
      · rw [HF.out]; exact hrows
      · rw [HF.out]; rfl
end Go.Proofs.YtbllooaalodhaaaDoor
