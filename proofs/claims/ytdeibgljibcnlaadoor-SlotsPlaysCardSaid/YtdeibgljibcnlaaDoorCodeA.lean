/- pergolaalike.Code at any error that is none, a number, or a Fault that wraps such. -/
import Derived.Test.YtdeibgljibcnlaaDoorIs
namespace Go.Proofs.YtdeibgljibcnlaaDoor
open Go.RowKit Go.Extern.Stop Go.Stop Go.Extern

/-- the number at an error's root -/
def Er.root : Er → Option Int
  | .none => Option.none
  | .num j => some j
  | .fault _ _ e => e.root
/-- the number of an error, as pergolaalike.Code has it -/
def Er.code (e : Er) : Int :=
  match e with
  | .none => 0
  | e => match e.root with
    | some j => if 1 ≤ j ∧ j ≤ 15 then j else -1
    | Option.none => -1
theorem Er.has_root (k : Int) : ∀ e : Er, e.has k = (e.root == some k)
  | .none => rfl
  | .num j => by simp [Er.has, Er.root]
  | .fault _ _ e => by rw [Er.has, Er.root, Er.has_root k e]
theorem Er.code_hit {e : Er} {k : Int} (h : e.has k = true) (h1 : 1 ≤ k) (h2 : k ≤ 15) : e.code = k := by
  rw [Er.has_root] at h
  have h' : e.root = some k := by simpa using h
  cases e <;> simp [Er.code, Er.root] at h' ⊢
  · subst h'; simp [h1, h2]
  · rw [h']; simp [h1, h2]
theorem Er.code_miss {e : Er} (hn : e ≠ .none) (h : ∀ k : Nat, 1 ≤ k → k < 16 → e.has (k : Int) = false) : e.code = -1 := by
  have hr : ∀ j : Int, e.root = some j → ¬ (1 ≤ j ∧ j ≤ 15) := by
    intro j hj hb
    have := h j.toNat (by omega) (by omega)
    rw [Er.has_root, hj] at this
    simp [show ((j.toNat : Nat) : Int) = j from by omega] at this
  cases e with
  | none => exact absurd rfl hn
  | num j => have := hr j rfl; simp [Er.code, Er.root, this]
  | fault a b c =>
    cases hc : c.root with
    | none => simp [Er.code, Er.root, hc]
    | some j => have := hr j hc; simp [Er.code, Er.root, hc, this]

theorem Code_er (E : Er) (v : Value) (w : World) (hv : E.Is w v) :
    Calls Tryd.prog 33 #[v] w fun e w' => e = .returned (.int .i64 E.code) ∧ w = w' := by
  by_cases hE : E = .none
  · subst hE
    obtain rfl : v = .nilIface := hv
    go_enter Tryd.func33, Tryd.ntmps33
    go_wp2
    go_ret
    exact ⟨rfl, rfl⟩
  · obtain ⟨T, x, rfl⟩ : ∃ T x, v = .iface T x := by
      cases E with
      | none => exact absurd rfl hE
      | num j => exact ⟨_, _, hv⟩
      | fault a b c => obtain ⟨b, u, h, _⟩ := hv; exact ⟨_, _, h⟩
    have HE := Lib.hid hE; clear hE
    go_enter Tryd.func33, Tryd.ntmps33
    go_wp2
    go_loop [3] (fun i => ∃ k : Nat, 1 ≤ k ∧ k ≤ 16 ∧ i = .int .i64 k ∧ Hid (∀ j : Nat, 1 ≤ j → j < k → E.has (j : Int) = false)) (fun i => 16 - (intOf i).toNat)
    case atStart => exact ⟨1, by omega, by omega, rfl, fun j h1 h2 => by omega⟩
    case round =>
      obtain ⟨k, hk1, hk2, rfl, hm⟩ := hrel
      by_cases hlt : k ≤ 15
      · cases hh : E.has (k : Int) with
        | true =>
          have hfin := Er.code_hit hh (by omega) (by omega)
          go_wp2_with fail
          refine (Is_er E k _ _ hv).mono ?_
          rw [hh]
          rintro e w' ⟨rfl, rfl⟩
          go_wp2
          go_ret
          exact ⟨by rw [hfin]; rfl, rfl⟩
        | false =>
          have hm' : Hid (∀ j : Nat, 1 ≤ j → j < k + 1 → E.has (j : Int) = false) := fun j h1 h2 => by
            by_cases hj : j = k
            · subst hj; exact hh
            · exact hm.out j h1 (by omega)
          go_wp2_with fail
          refine (Is_er E k _ _ hv).mono ?_
          rw [hh]
          rintro e w' ⟨rfl, rfl⟩
          go_wp2
          go_round
          case rel => exact ⟨k + 1, by omega, by omega, by go_num, hm'⟩
          case measure => simp [intOf]; omega
      · have hfin := Er.code_miss HE.out (fun j h1 h2 => hm.out j h1 (by omega))
        go_wp2
        go_ret
        exact ⟨rfl, rfl⟩
end Go.Proofs.YtdeibgljibcnlaaDoor
