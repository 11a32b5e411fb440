/- FrameLimit answers true, whatever it is given. -/
import Derived.Test.YtbllooaalodhaaaFrameFacts
import Derived.Test.YtbllooaalodhaaaIs
import Derived.Test.YtbllooaalodhaaaAwake9
import Derived.Test.YtbllooaalodhaaaView
namespace Go.Proofs.Ytbllooaalodhaaa
open Go.RowKit Go.ChangeShapes

theorem limit_out (n : Int) (w : World) (h : n < 0 ∨ 65541 < n) :
    Calls Try.prog 4 #[.int .i64 n] w fun e w' => e = .returned (.bool true) ∧ Below w.heap.size w w' := by
  by_cases h0 : n < 0
  · have t : decide (n < 0) = true := by simp; omega
    clear h
    go_enter Try.func4, Try.ntmps4
    go_wp2_with (go_at_call 5; refine (awake_any _).mono ?_; rintro e w' ⟨rfl, hb5⟩)
    go_ret
    exact ⟨rfl, hb5⟩
  · have t : decide (n < 0) = false := by simp; omega
    have t' : decide (65541 < n) = true := by simp; omega
    clear h
    go_enter Try.func4, Try.ntmps4
    go_wp2_with (go_at_call 5; refine (awake_any _).mono ?_; rintro e w' ⟨rfl, hb5⟩)
    go_ret
    exact ⟨rfl, hb5⟩

/-- so many zero bytes, as make lays them -/
theorem own_zeros {w' : World} {base : Nat} {v : Value} {n : Nat} (h : w'.ownsRow base 5 1 v n (madeCells #[Value.int .u8 0] n).toList) : Own w' base v (List.replicate n 0) := by
  unfold Own
  rw [List.length_replicate]
  have e : bytesV (List.replicate n 0) = (madeCells #[Value.int .u8 0] n).toList := by
    rw [toList_madeCells_one]
    simp [bytesV]
  rw [e]; exact h

theorem limit_many (n : Nat) (w : World) (h1 : 65536 < n) (h2 : n ≤ 65541) :
    Calls Try.prog 4 #[.int .i64 n] w fun e w' => e = .returned (.bool true) ∧ Below w.heap.size w w' := by
  obtain ⟨i, hi, hz, hsz, hby⟩ := info_parts info_u8
  have q1 : i.bytes * n ≤ 281474976710656 := by rw [hby]; omega
  have q2 : n ≤ maxLen := by unfold maxLen; omega
  have t : decide ((n : Int) < 0) = false := by simp
  have t' : decide ((65541 : Int) < n) = false := by simp; omega
  have t2 : (65536 : Int) < n := by omega
  go_enter Try.func4, Try.ntmps4
  go_wp2_with (first
    | (refine wpList_make_full _ rfl _ _ 22 rfl w.heap.size 5 i _ 1 Try.underlying22 hi hz hsz _ _ _ _ n rfl rfl rfl rfl q1 q2 (Nat.le_refl _) ?_)
    | fail)
  intro w1 ho1 hg1
  have ho := own_zeros ho1
  have hb1 : Below w.heap.size w w1 := (Below.refl _ _).grown hg1 (Nat.le_refl _) (fun k h => by cases h)
  have hlen : (List.replicate n (0 : UInt8)).length = n := List.length_replicate
  go_wp2_with (first
    | (go_at_call 7; refine (Put_many _ _ _ ho.byt (by rw [hlen]; exact h1)).mono ?_; rintro e w2 ⟨u2, rfl, he2, hb2⟩)
    | (go_at_call 8; refine (Code_er _ _ _ he2).mono ?_; rintro e w' ⟨rfl, rfl⟩)
    | (go_at_call 5; refine (awake_any _).mono ?_; rintro e w' ⟨rfl, hb5⟩))
  go_ret
  exact ⟨rfl, (hb1.trans (hb2.mono hb1.size)).trans (hb5.mono (Nat.le_trans hb1.size hb2.size))⟩

theorem limit_ok (n : Nat) (w : World) (h2 : n ≤ 65536) :
    Calls Try.prog 4 #[.int .i64 n] w fun e w' => e = .returned (.bool true) ∧ Below w.heap.size w w' := by
  obtain ⟨i, hi, hz, hsz, hby⟩ := info_parts info_u8
  have q1 : i.bytes * n ≤ 281474976710656 := by rw [hby]; omega
  have q2 : n ≤ maxLen := by unfold maxLen; omega
  have t : decide ((n : Int) < 0) = false := by simp
  have t' : decide ((65541 : Int) < n) = false := by simp; omega
  have t2 : ¬ (65536 : Int) < n := by omega
  go_enter Try.func4, Try.ntmps4
  go_wp2_with (first
    | (refine wpList_make_full _ rfl _ _ 22 rfl w.heap.size 5 i _ 1 Try.underlying22 hi hz hsz _ _ _ _ n rfl rfl rfl rfl q1 q2 (Nat.le_refl _) ?_)
    | fail)
  intro w1 ho1 hg1
  have ho := own_zeros ho1
  have hb1 : Below w.heap.size w w1 := (Below.refl _ _).grown hg1 (Nat.le_refl _) (fun k h => by cases h)
  have hlen : (List.replicate n (0 : UInt8)).length = n := List.length_replicate
  generalize hp : List.replicate n (0 : UInt8) = p at *
  subst hlen
  go_wp2_with fail
  refine (Put_ok _ _ _ ho.byt h2).mono ?_
  rintro e w2 ⟨v2, rfl, ho2, hb2⟩
  go_wp2_with fail
  have hn := nextOf_frameOf p [] h2
  rw [List.append_nil] at hn
  refine (Next_any _ _ _ ho2.byt (by rw [frameOf_length]; omega)).mono ?_
  rw [hn]
  rintro e w3 ⟨v3, u3, rfl, ho3, he3, hb3⟩
  obtain rfl : u3 = .nilIface := he3
  obtain ⟨ao, c, rfl, g1, g2, g0, g3⟩ := ho3.byt.open
  clear g3 hn
  have t3 : (((p.length : Int) + 8) == ((p.length + 8 : Nat) : Int)) = true := by simp
  have hf : Below w.heap.size w w3 := (hb1.trans (hb2.mono hb1.size)).trans (hb3.mono (Nat.le_trans hb1.size hb2.size))
  go_wp2_with (go_at_call 5; refine (awake_any _).mono ?_; rintro e w' ⟨rfl, hb5⟩)
  go_ret
  exact ⟨rfl, hf.trans (hb5.mono hf.size)⟩

theorem frameLimit_calls {H : Type} {enc : TypeId × Value → H} {W : World} {base : Nat} {v0 : Value} {d0 : DataW H} {p0 : List MemPlace}
    (o0 : Value.okWide Try.prog W .any base 3 v0) (h0 : DataW.Trod enc Try.prog W 0 (fun _ => true) true 3 v0 d0 p0) :
    Calls Try.prog 4 #[v0] W fun e w' => e = .returned (.bool true) ∧ Below W.heap.size W w' := by
  obtain ⟨n, rfl, rfl, rfl, hw⟩ := open_int Try.underlying3 o0 h0
  by_cases h : n < 0 ∨ 65541 < n
  · exact limit_out n W h
  · obtain ⟨m, rfl⟩ := Int.eq_ofNat_of_zero_le (show 0 ≤ n by omega)
    by_cases h' : m ≤ 65536
    · exact limit_ok m W h'
    · exact limit_many m W (by omega) (by omega)
end Go.Proofs.Ytbllooaalodhaaa
