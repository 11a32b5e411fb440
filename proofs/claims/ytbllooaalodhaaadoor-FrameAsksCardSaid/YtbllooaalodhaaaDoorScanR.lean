/- pergolaref8.Scan. -/
import Derived.Test.YtbllooaalodhaaaDoorScan
import Derived.Test.YtbllooaalodhaaaDoorNextR
namespace Go.Proofs.YtbllooaalodhaaaDoor
open Go.RowKit

/-- The call hands back rows of bytes, a number, and a code. -/
def ScanRetR (w : World) (r : List (List UInt8) × Nat × Int) (e : Ending) (w' : World) : Prop :=
  ∃ v, e = .returned (.tuple #[v, .int .i64 (r.2.1 : Int), .int .i64 r.2.2]) ∧ OwnRws w' w.heap.size v r.1 ∧ Below w.heap.size w w'

set_option maxRecDepth 100000 in
theorem ScanR_any (v : Value) (l : List UInt8) (w : World) (hv : Byt w v l) (hl : l.length ≤ 1000000) :
    Calls Tryd.prog 17 #[v] w (ScanRetR w (scanOf l)) := by
  obtain ⟨ao, c, rfl, h1, h2, h0, h3⟩ := hv.open
  unfold maxLen at h2
  generalize hR : scanOf l = R
  have HR := Lib.hid hR
  clear hR
  go_enter Tryd.func17, Tryd.ntmps17
  go_wp2
  go_loopw [5, 6] (fun lv i wr => ∃ (rows : List (List UInt8)) (a : Nat), a ≤ l.length ∧ i = .int .i64 a ∧ OwnRws wr w.heap.size lv rows ∧ Below w.heap.size w wr ∧ rows.length ≤ a ∧ ScanAt l rows a) (fun _ i _ => l.length - (intOf i).toNat)
  case atStart => exact ⟨[], 0, Nat.zero_le _, rfl, OwnRws.nil _ _, Below.refl _ _, Nat.le_refl _, by simp [ScanAt]⟩
  case round =>
    obtain ⟨rows, a, ha, rfl, hrows, hbel, hra, hat⟩ := hrel
    by_cases hlt : a < l.length
    · obtain ⟨b, off, rfl, hb, _⟩ := h3 0 (by omega)
      clear h3
      have hca : ¬ c = a := by omega
      have hv1 := (hv.below hbel).drop (m := a) (by omega)
      have hdl : (l.drop a).length ≤ 140737488355328 := by rw [List.length_drop]; omega
      have i0 : (0 : Int) ≤ (a : Int) := by omega
      have i1 : (a : Int) ≤ (l.length : Int) := by omega
      rcases nextOf_code (l.drop a) with hc | hc
      · have hle := nextOf_le hc
        have hnext := hat.next hlt hc
        rw [List.length_drop] at hle
        obtain ⟨code, p, n, hr⟩ : ∃ code p n, nextOf (l.drop a) = (code, p, n) := ⟨_, _, _, rfl⟩
        rw [hr] at hc hle hnext
        obtain rfl : code = 0 := hc
        have HR2 := Lib.hid hr
        have hle1 : 8 ≤ n := hle.1
        have hle2 : n ≤ l.length - a := hle.2.1
        have hnext' : ScanAt l (rows ++ [p]) (a + n) := hnext
        clear hr hle hnext hat
        have hsz := hbel.size
        have hrl : rows.length ≤ 1000000 := by omega
        go_wp2_with (first
          | (go_at_call 16; refine (NextR_any _ _ _ hv1 hdl).mono ?_; rw [HR2.out]; rintro e w1 ⟨v1, rfl, ho1, hb1⟩; have hfar := rows_far hrows ho1; have hby1 := ho1.byt; have hrows1 := hrows.below hb1; have hsz1 := hb1.size; obtain ⟨ao1, cp1, rfl, _⟩ := ho1.byt.open)
          | (at_builtin; refine wpList_append_row rfl _ _ rfl w.heap.size u5 (.slice ao1 p.length cp1) rows p rfl hrows1 rfl hby1 hfar hrl (Nat.le_trans hsz hsz1) ?_))
        intro v3 w3 hrows3 hb3
        have hb4 := (hbel.trans (hb1.mono hsz)).trans hb3
        clear hrows hrows1 hfar ho1 hby1
        go_wp2
        go_roundw
        case rel => exact ⟨rows ++ [p], a + n, by omega, by go_num, hrows3, hb4, by simp; omega, hnext'⟩
        case measure => simp [intOf]; omega
      · have hc0 : (nextOf (l.drop a)).1 ≠ 0 := by omega
        obtain ⟨code, p, n, hr⟩ : ∃ code p n, nextOf (l.drop a) = (code, p, n) := ⟨_, _, _, rfl⟩
        have hbad := scanOf_bad (l := l.drop a) (by rw [List.length_drop]; omega) hc0
        rw [hr] at hc0 hbad
        have hfin : R = (rows, a, code) := by
          rw [← HR.out, hat, hbad]; simp
        have HF := Lib.hid hfin
        have HC := Lib.hid hc0
        have HR2 := Lib.hid hr
        clear hr hc hc0 hbad hfin hat
        have hcn : ((code : Int) != 0) = true := by simp; exact HC.out
        go_wp2_with (go_at_call 16; refine (NextR_any _ _ _ hv1 hdl).mono ?_; rw [HR2.out]; rintro e w1 ⟨v1, rfl, ho1, hb1⟩)
        go_ret3
        refine ⟨_, by rw [HF.out]; rfl, ?_, hbel.trans (hb1.mono hbel.size)⟩
        rw [HF.out]; exact hrows.below hb1
    · obtain rfl : a = l.length := by omega
      have hfin : R = (rows, l.length, 0) := by
        rw [← HR.out, hat, List.drop_length, scanOf_nil]; simp
      have HF := Lib.hid hfin
      clear hfin hat h3
      go_wp2
      go_ret3
      refine ⟨_, by rw [HF.out]; rfl, ?_, hbel⟩
      rw [HF.out]; exact hrows
end Go.Proofs.YtbllooaalodhaaaDoor
