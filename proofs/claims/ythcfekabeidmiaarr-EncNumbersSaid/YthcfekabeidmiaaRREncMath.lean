/- Numbers as bytes in plain Lean: groups of seven digits; numbers with signs. -/
import Derived.Test.YthcfekabeidmiaaRRChecked
namespace Go.Proofs.YthcfekabeidmiaaRR

/-- a number in groups of seven digits, the least first -/
def vint (v : Nat) : List UInt8 :=
  if h : v < 128 then [UInt8.ofNat v] else UInt8.ofNat (v % 128 + 128) :: vint (v / 128)
termination_by v
decreasing_by omega
theorem vint_small {v : Nat} (h : v < 128) : vint v = [UInt8.ofNat v] := by rw [vint, dif_pos h]
theorem vint_big {v : Nat} (h : ¬ v < 128) : vint v = UInt8.ofNat (v % 128 + 128) :: vint (v / 128) := by rw [vint, dif_neg h]
theorem vint_len : ∀ (k v : Nat), v < 128 ^ (k + 1) → (vint v).length ≤ k + 1
  | 0, v, h => by rw [vint_small (by simpa using h)]; simp
  | k + 1, v, h => by
    by_cases hv : v < 128
    · rw [vint_small hv]; simp
    · rw [vint_big hv, List.length_cons]
      have := vint_len k (v / 128) (by rw [Nat.div_lt_iff_lt_mul (by omega)]; rwa [Nat.pow_succ] at h)
      omega
theorem vint_len64 (v : Nat) (h : v < 18446744073709551616) : (vint v).length ≤ 10 := vint_len 9 v (by omega)
theorem vint_pos (v : Nat) : 1 ≤ (vint v).length := by
  by_cases hv : v < 128
  · rw [vint_small hv]; simp
  · rw [vint_big hv]; simp
theorem vint_mono (v : Nat) : ∀ w, v ≤ w → (vint v).length ≤ (vint w).length := by
  induction v using Nat.strongRecOn with
  | _ v ih =>
    intro w h
    by_cases hv : v < 128
    · rw [vint_small hv]; simp only [List.length_singleton]; exact vint_pos w
    · rw [vint_big hv, vint_big (show ¬ w < 128 by omega), List.length_cons, List.length_cons]
      have := ih (v / 128) (by omega) (w / 128) (Nat.div_le_div_right h)
      omega

/-- the number that bytes begin with, from the byte 10 - k on -/
def unvAt (b : List UInt8) : Nat → Nat → Nat × Nat
  | 0, _ => (0, 0)
  | k + 1, v =>
    match b[9 - k]? with
    | none => (0, 0)
    | some c =>
      if c.toNat < 128 then (if (k = 0 ∧ 1 < c.toNat) ∨ (k < 9 ∧ c.toNat = 0) then (0, 0) else (v + c.toNat * 128 ^ (9 - k), 10 - k))
      else unvAt b k (v + c.toNat % 128 * 128 ^ (9 - k))
/-- the number that bytes begin with, and of how many bytes it is -/
def unv (b : List UInt8) : Nat × Nat := unvAt b 10 0

/-- there and back -/
theorem unvAt_vint (z : Nat) : ∀ (p q : List UInt8) (k v : Nat), p.length + k = 10 → z * 128 ^ p.length < 18446744073709551616 → (1 ≤ p.length → z ≠ 0) → unvAt (p ++ (vint z ++ q)) k v = (v + z * 128 ^ p.length, p.length + (vint z).length) := by
  induction z using Nat.strongRecOn with
  | _ z ih =>
    intro p q k v hk hz h0
    cases k with
    | zero =>
      have hp : p.length = 10 := by omega
      rw [hp] at hz
      have := h0 (by omega)
      omega
    | succ k =>
      have hp : 9 - k = p.length := by omega
      unfold unvAt
      rw [hp]
      by_cases hv : z < 128
      · rw [vint_small hv]
        have e : (p ++ ([UInt8.ofNat z] ++ q))[p.length]? = some (UInt8.ofNat z) := by simp
        rw [e]
        have et : (UInt8.ofNat z).toNat = z := by simp; omega
        simp only [et]
        rw [if_pos hv, if_neg]
        · rw [show 10 - k = p.length + [UInt8.ofNat z].length by simp; omega]
        · rintro (⟨rfl, h2⟩ | ⟨h1, h2⟩)
          · have hp9 : p.length = 9 := by omega
            rw [hp9] at hz
            omega
          · exact h0 (by omega) h2
      · rw [vint_big hv]
        have e : (p ++ (UInt8.ofNat (z % 128 + 128) :: vint (z / 128) ++ q))[p.length]? = some (UInt8.ofNat (z % 128 + 128)) := by simp
        rw [e]
        have et : (UInt8.ofNat (z % 128 + 128)).toNat = z % 128 + 128 := by simp; omega
        simp only [et]
        rw [if_neg (by omega), show (z % 128 + 128) % 128 = z % 128 by omega]
        have e2 : p ++ (UInt8.ofNat (z % 128 + 128) :: vint (z / 128) ++ q) = (p ++ [UInt8.ofNat (z % 128 + 128)]) ++ (vint (z / 128) ++ q) := by simp
        have hm : z / 128 * 128 ^ (p.length + 1) + z % 128 * 128 ^ p.length = z * 128 ^ p.length := by
          rw [Nat.pow_succ, Nat.mul_comm (128 ^ p.length) 128, ← Nat.mul_assoc, ← Nat.add_mul]
          congr 1; omega
        have hl : (p ++ [UInt8.ofNat (z % 128 + 128)]).length = p.length + 1 := by simp
        rw [e2, ih (z / 128) (by omega) _ q k _ (by rw [hl]; omega) (by rw [hl]; omega) (fun _ => by omega), hl, List.length_cons]
        refine Prod.ext ?_ ?_
        · simp only; omega
        · simp only; omega
theorem unv_vint (z : Nat) (q : List UInt8) (h : z < 18446744073709551616) : unv (vint z ++ q) = (z, (vint z).length) := by
  have := unvAt_vint z [] q 10 0 (by simp) (by simpa using h) (by simp)
  simpa [unv] using this
theorem vint_inj {a b : Nat} (ha : a < 18446744073709551616) (hb : b < 18446744073709551616) (h : vint a = vint b) : a = b := by
  have h1 := unv_vint a [] ha
  have h2 := unv_vint b [] hb
  rw [h, h2] at h1
  exact (congrArg Prod.fst h1).symm
theorem unvAt_le (b : List UInt8) : ∀ (k v : Nat), k ≤ 10 → (unvAt b k v).2 ≤ 10 ∧ (unvAt b k v).2 ≤ b.length ∧ (v < 128 ^ (10 - k) → (unvAt b k v).1 < 18446744073709551616)
  | 0, v, _ => by simp [unvAt]
  | k + 1, v, hk => by
    unfold unvAt
    cases hb : b[9 - k]? with
    | none => simp
    | some c =>
      have hlt : 9 - k < b.length := by
        have := List.getElem?_eq_some_iff.1 hb
        exact this.1
      have ih := unvAt_le b k (v + c.toNat % 128 * 128 ^ (9 - k)) (by omega)
      simp only
      have hpow : 128 ^ (10 - k) = 128 ^ (9 - k) * 128 := by rw [← Nat.pow_succ]; congr 1; omega
      split
      · rename_i hc
        split
        · simp
        · rename_i hn
          refine ⟨by simp, by simp; omega, fun hv => ?_⟩
          simp only
          have e9 : 10 - (k + 1) = 9 - k := by omega
          rw [e9] at hv
          by_cases hk0 : k = 0
          · subst hk0
            have hc1 : c.toNat ≤ 1 := by omega
            have : c.toNat * 128 ^ (9 - 0) ≤ 1 * 128 ^ (9 - 0) := Nat.mul_le_mul_right _ hc1
            omega
          · have hle : 128 ^ (10 - k) ≤ 128 ^ 9 := Nat.pow_le_pow_right (by omega) (by omega)
            have : c.toNat * 128 ^ (9 - k) ≤ 127 * 128 ^ (9 - k) := Nat.mul_le_mul_right _ (by omega)
            omega
      · refine ⟨ih.1, ih.2.1, fun hv => ih.2.2 ?_⟩
        have e9 : 10 - (k + 1) = 9 - k := by omega
        rw [e9] at hv
        have hm : c.toNat % 128 * 128 ^ (9 - k) ≤ 127 * 128 ^ (9 - k) := Nat.mul_le_mul_right _ (by omega)
        omega
theorem unv_le (b : List UInt8) : (unv b).2 ≤ 10 ∧ (unv b).2 ≤ b.length ∧ (unv b).1 < 18446744073709551616 := by
  obtain ⟨h1, h2, h3⟩ := unvAt_le b 10 0 (by omega)
  exact ⟨h1, h2, h3 (by omega)⟩

/-- a number with a sign, without one -/
def zig (n : Int) : Nat := if n < 0 then (2 * (-(n + 1)) + 1).toNat else (2 * n).toNat
/-- a number without a sign, with one -/
def zag (v : Nat) : Int := if v % 2 = 1 then -((v / 2 : Nat) : Int) - 1 else ((v / 2 : Nat) : Int)
theorem zag_zig (n : Int) : zag (zig n) = n := by
  unfold zag zig
  split <;> split <;> omega
theorem zig_lt (n : Int) (h : -9223372036854775808 ≤ n ∧ n ≤ 9223372036854775807) : zig n < 18446744073709551616 := by
  unfold zig
  split <;> omega
/-- the number with a sign that bytes begin with -/
def unsg (b : List UInt8) : Int × Nat × Bool := if (unv b).2 = 0 then (0, 0, false) else (zag (unv b).1, (unv b).2, true)
end Go.Proofs.YthcfekabeidmiaaRR
