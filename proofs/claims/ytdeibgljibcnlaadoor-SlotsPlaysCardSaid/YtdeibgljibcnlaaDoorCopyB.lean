/- copy onto a block of bytes. -/
import Derived.Test.YtdeibgljibcnlaaDoorPageB
namespace Go.Proofs.YtdeibgljibcnlaaDoor
open Go.RowKit

theorem Byt.src {w : World} {ao : Option Addr} {n c : Nat} {l : List UInt8} (h : Byt w (.slice ao n c) l) (hl : 0 < l.length) : ∃ ad, ao = some ad ∧ ∀ j v, (bytesV l)[j]? = some v → w.cell? (ad.add j) = some v := by
  obtain ⟨ao', c', e, _, _, _, h3⟩ := h
  simp only [Value.slice.injEq] at e
  obtain ⟨rfl, rfl, rfl⟩ := e
  obtain ⟨b, off, rfl, _, _⟩ := h3 0 (by rw [bytesV_length]; omega)
  refine ⟨_, rfl, fun j v hv => ?_⟩
  obtain ⟨hj, rfl⟩ := List.getElem?_eq_some_iff.1 hv
  obtain ⟨b', off', e', _, hc⟩ := h3 j hj
  cases e'
  rw [Addr.add_lit]
  exact hc
theorem size_u8 : (Tryd.prog.info? 5).map (·.size) = some 1 := by kernel_rfl

/-- copy(out[off:], b) -/
theorem wp_copy_blk {w : World} {o : Oper} {a : Act} {K : Act → World → Prop} {Q : Exit → Act → World → Prop} (d s : Operand) (dT sT : TypeId)
    (ho : o.op = .call { callee := .builtin .copy, args := #[d, s], argTypes := #[dT, sT] }) (hu : Tryd.prog.underlying dT = some (.slice 5))
    (dp sp : Option Addr) (dLen dCap sCap : Nat) (g off : Nat) (out b : List UInt8) (hd : a.eval d = .slice dp dLen dCap) (hs : a.eval s = .slice sp b.length sCap)
    (hg : Blk w g out) (hb : Byt w (.slice sp b.length sCap) b) (hdp : 0 < b.length → dp = some ⟨g, off, none⟩) (hfit : b.length ≤ dLen) (hout : off + b.length ≤ out.length)
    (h : ∀ w', Blk w' g (splice out off b) → Onl g w w' → K (a.put o.dst (goInt b.length)) w') : o.wp Tryd.prog a w K Q := by
  by_cases h0 : b = []
  · subst h0
    have hrun := run_copy_none (P := Tryd.prog) w dT sT o.type 5 dp sp dLen dCap 0 sCap hu size_u8 (Nat.zero_min _)
    unfold Oper.wp
    simp only [List.length_nil] at hs
    simp [execOp, ho, resolve, invoke, builtin, hd, hs, hrun, Result.andThen]
    refine h w ?_ (Onl.refl _ _)
    have : splice out off ([] : List UInt8) = out := by simp [splice]
    rw [this]
    exact hg
  · have hl : 0 < b.length := List.length_pos_iff.2 h0
    obtain ⟨ad, rfl, hsrc⟩ := hb.src hl
    obtain rfl := hdp hl
    have hrun := run_copy_row (P := Tryd.prog) w dT sT o.type 5 g off dLen dCap ad b.length sCap (bytesV out).toArray 5 (bytesV b) hu size_u8 hg (by rw [bytesV_length]; exact (Nat.min_eq_left hfit).symm) hsrc (by rw [bytesV_length]; simpa [bytesV] using hout) (bytesV_one b)
    unfold Oper.wp
    have e1 : ((bytesV out).toArray.toList.take off ++ bytesV b ++ (bytesV out).toArray.toList.drop (off + (bytesV b).length)) = bytesV (splice out off b) := by
      simp [bytesV, splice, List.map_take, List.map_drop]
    rw [e1, bytesV_length] at hrun
    simp [execOp, ho, resolve, invoke, builtin, hd, hs, hrun, Result.andThen]
    exact h _ (setRow_heap _ _ _ _ _ _ hg) ⟨below_setRow (Below.refl _ _) (Nat.le_refl _) _, fun k hk _ => setRow_other _ _ _ _ hk⟩
end Go.Proofs.YtdeibgljibcnlaaDoor
