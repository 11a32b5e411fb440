/- pergolalaw20.keyed; what the runs of a row are. -/
import Derived.Test.YtoggbmfjjenbaaaGreatDoorSRefKey
set_option linter.unusedSimpArgs false
set_option linter.unusedVariables false
namespace Go.Proofs.YtoggbmfjjenbaaaGreatDoor
open Go.RowKit

/-- the items that have keys -/
def kept (r : List KdV) : List KdV := r.filter fun x => decide (objCode x.1.kind x.1.pts = 0)
theorem kept_yes {r : List KdV} {k : Nat} {x : KdV} (h : r[k]? = some x) (hc : objCode x.1.kind x.1.pts = 0) : kept (r.take (k + 1)) = kept (r.take k) ++ [x] := by
  obtain ⟨hk, rfl⟩ := List.getElem?_eq_some_iff.1 h
  unfold kept
  rw [List.take_succ_eq_append_getElem hk, List.filter_append]
  congr 1
  simp [hc]
theorem kept_no {r : List KdV} {k : Nat} {x : KdV} (h : r[k]? = some x) (hc : objCode x.1.kind x.1.pts ≠ 0) : kept (r.take (k + 1)) = kept (r.take k) := by
  obtain ⟨hk, rfl⟩ := List.getElem?_eq_some_iff.1 h
  unfold kept
  rw [List.take_succ_eq_append_getElem hk, List.filter_append]
  simp [hc]
theorem kept_mem {r : List KdV} {x : KdV} (h : x ∈ kept r) : x ∈ r := (List.mem_filter.1 h).1
theorem kept_len (r : List KdV) : (kept r).length ≤ r.length := List.length_filter_le _ _
theorem info_kdRS : (Tryz.prog.info? 56).map (fun i => (i.zero, i.size, i.bytes)) = some (some (.agg #[.int .u64 0, .int .i64 0, .int .i64 0, .slice none 0 0]), 4, 48) := by kernel_rfl

/-- what the runs of a row are -/
theorem runs_fit {s m : Nat} {L : List KdL} (hs : 1 ≤ s) (hm : m = (L.length + s - 1) / s) :
    L.length ≤ m * s ∧ m ≤ L.length ∧ (∀ i, i < m → i * s < L.length) ∧ mergeF (runsL s L m) = L.mergeSort leK ∧ mergeF ([] :: (runsL s L m ++ [[]])) = L.mergeSort leK ∧ (runsL s L m).flatten.Perm L ∧
      (runsL s L m).length = m ∧ (∀ i, i < m → ((runsL s L m).getD i []).length = min s (L.length - i * s)) := by
  have hms : L.length ≤ m * s := by
    have h1 := Nat.lt_succ_self ((L.length + s - 1) / s)
    rw [Nat.div_lt_iff_lt_mul (by omega)] at h1
    rw [hm]
    rw [Nat.succ_mul] at h1
    omega
  have hlt : ∀ i, i < m → i * s < L.length := fun i hi => by
    rw [hm, Nat.lt_iff_add_one_le, Nat.le_div_iff_mul_le (by omega), Nat.succ_mul] at hi
    omega
  refine ⟨hms, ?_, hlt, merge_runs _ _ _ hms, merge_runs_pad _ _ _ hms, ?_, by simp [runsL], fun i hi => ?_⟩
  · rcases Nat.eq_zero_or_pos m with h | h
    · omega
    · have h1 := hlt (m - 1) (by omega)
      have h2 : (m - 1) * 1 ≤ (m - 1) * s := Nat.mul_le_mul_left _ hs
      omega
  · have h1 : ((List.range m).map fun j => (pieceL s L j).mergeSort leK).flatten.Perm ((List.range m).map fun j => pieceL s L j).flatten := flat_perm _ _ (fun j => List.mergeSort_perm _ _) _
    rw [chunk_flat, List.take_of_length_le hms] at h1
    exact h1
  · unfold runsL
    rw [List.getD_eq_getElem?_getD, List.getElem?_map, List.getElem?_range hi]
    simp
end Go.Proofs.YtoggbmfjjenbaaaGreatDoor
