/- fault.within calls a function of each error within one, in order. -/
import Derived.Test.YthijffpackkcnaaDoorWrappedD
import Derived.Deep.LoopGhost
namespace Go.Proofs.YthijffpackkcnaaDoor
open Go.RowKit

/-- What a function value that is called of errors does: it tells whether it is enough, and keeps a state of its own. -/
def Asked {σ : Type} (K : FuncId) (caps : Array Value) (Inv : Nat → σ → World → Prop) (stop : σ → En → Bool) (next : σ → En → σ) (w0 : World) : Prop :=
  ∀ (m : Nat) (s : σ) (e : En) (u : Value) (w : World), e ≠ .none → e.Is w0 u → Below w0.heap.size w0 w → Inv (m + 1) s w →
    Calls Tryd.prog K (#[u] ++ caps) w fun ev w' => ev = .returned (.bool (stop s e)) ∧ Inv m (next s e) w' ∧ Below w0.heap.size w0 w'
/-- .. and its state stands where nothing old turns. -/
def Stands {σ : Type} (Inv : Nat → σ → World → Prop) : Prop := (∀ m s w w', Inv m s w → Below w.heap.size w w' → Inv m s w') ∧ ∀ m s w, Inv (m + 1) s w → Inv m s w
theorem Stands.le {σ : Type} {Inv : Nat → σ → World → Prop} (h : Stands Inv) {s : σ} {w : World} : ∀ (k : Nat) {m : Nat}, Inv (k + m) s w → Inv m s w
  | 0, m, hi => by rw [Nat.zero_add] at hi; exact hi
  | k + 1, m, hi => h.le k (h.2 _ _ _ (by rw [Nat.add_right_comm] at hi; exact hi))

/-- a function with a text of its own -/
def Enters (K : FuncId) : Prop := ∀ (args : Array Value) (w : World), (callFunc K args).run Tryd.prog w = .ok (.enter K args) w

def RunsTo {σ : Type} (Inv : σ → World → Prop) (r : Bool × σ) (w0 : World) (ev : Ending) (w' : World) : Prop :=
  ev = .returned (.bool r.1) ∧ Inv r.2 w' ∧ Below w0.heap.size w0 w'

set_option maxHeartbeats 1000000 in
theorem within_any {σ : Type} (K : FuncId) (caps : Array Value) (Inv : Nat → σ → World → Prop) (stop : σ → En → Bool) (next : σ → En → σ) (w0 : World) (hC : Asked K caps Inv stop next w0) (hI : Stands Inv) (hK : Enters K) :
    ∀ (n : Nat) (e : En) (u : Value) (w : World) (s : σ) (m : Nat), e.sz ≤ n → e.Is w0 u → Below w0.heap.size w0 w → Inv (e.pre.length + m) s w →
      Calls Tryd.prog 22 #[u, .func (.func K) #[] caps] w (RunsTo (Inv m) (runs stop next s e.pre) w0) := by
  unfold Enters at hK
  intro n
  induction n with
  | zero =>
    intro e u w s m hn
    cases e <;> simp [En.sz] at hn
  | succ n ih =>
    intro e u w s m hn he hb hs
    have IH := Lib.hid ih
    clear ih
    by_cases h0 : e = .none
    · subst h0
      obtain rfl : u = .nilIface := he
      go_enter Tryd.func22, Tryd.ntmps22
      go_wp2_with fail
      go_ret
      exact ⟨rfl, by simpa [En.pre, runs] using hs, hb⟩
    · obtain ⟨T, v, rfl⟩ := he.some h0
      have hpre := e.pre_kids h0
      have hs' : Inv ((pres e.kids).length + m + 1) s w := by rw [hpre] at hs; simpa [Nat.add_right_comm] using hs
      clear hs
      have H0 := Lib.hid h0
      have HP := Lib.hid hpre
      have HE := Lib.hid he
      have HI := Lib.hid hI
      have HC := Lib.hid hC
      clear hpre h0 he hI hC
      go_enter Tryd.func22, Tryd.ntmps22
      go_wp2_with fail
      refine (HC.out _ s e _ _ H0.out HE.out hb hs').mono ?_
      cases hst : stop s e with
      | true =>
        rintro ev w1 ⟨rfl, i1, b1⟩
        go_wp2
        go_ret
        refine ⟨?_, ?_, b1⟩
        · rw [HP.out]; simp [runs, hst]
        · rw [HP.out]; simpa [runs, hst] using HI.out.le _ i1
      | false =>
        rintro ev w1 ⟨rfl, i1, b1⟩
        have HR := Lib.hid (show runs stop next s e.pre = runs stop next (next s e) (pres e.kids) from by rw [HP.out]; simp [runs, hst])
        clear hst
        go_wp2_with fail
        refine (wrapped_any e _ w0 _ HE.out b1 H0.out).mono ?_
        rintro ev w2 ⟨sv, vs, rfl, rd, es, b2, hor⟩
        have RD := Lib.hid rd
        obtain ⟨ao, c, rfl, r1, r2, r3, r4⟩ := rd
        unfold maxLen at r2
        have hlen := es.length
        have i2 := HI.out.1 _ _ _ _ i1 b2
        have b2' := b1.trans (b2.mono b1.size)
        have hsz := e.sz_kids H0.out
        have HS := Lib.hid (show ∀ x ∈ e.kids, x.sz ≤ n from fun x hx => by have := szs_mem hx; omega)
        have ES := Lib.hid es
        have HO := Lib.hid hor
        have HL := Lib.hid hlen
        clear r3 r4 es hor hlen hsz hn i1 b1 b2 hs'
        generalize hks : e.kids = ks at *
        generalize hs1 : next s e = s1 at *
        clear hks hs1
        go_wp2_with fail
        go_loopw [15] (fun i wr => ∃ (k : Nat) (st : σ), k ≤ ks.length ∧ i = .int .i64 k ∧ Inv ((pres (ks.drop k)).length + m) st wr ∧ Below w0.heap.size w0 wr ∧ Hid (runs stop next s1 (pres (ks.take k)) = (false, st)) ∧ Hid (k < ks.length → Rd wr (.slice ao ks.length c) ks.length vs)) (fun i _ => ks.length - (intOf i).toNat)
        case atStart => exact ⟨0, s1, Nat.zero_le _, rfl, i2, b2', Lib.hid rfl, Lib.hid fun _ => RD.out⟩
        case round =>
          obtain ⟨k, st, hk, rfl, ist, bst, hrun, hrd⟩ := hrel
          by_cases hlt : k < ks.length
          · have hlt' : k < vs.length := by rw [HL.out]; exact hlt
            obtain ⟨ao', c', e1, _, _, _, q4⟩ := hrd.out hlt
            obtain ⟨b, off, e2, hbl, hcell⟩ := q4 k hlt'
            simp only [Value.slice.injEq, true_and] at e1
            obtain ⟨rfl, rfl⟩ := e1
            subst e2
            have hx := ES.out.get k hlt hlt'
            have hsx := HS.out ks[k] (List.getElem_mem hlt)
            have hps : pres (ks.take (k + 1)) = pres (ks.take k) ++ ks[k].pre := by
              rw [List.take_succ_eq_append_getElem hlt, pres_append]; simp [pres]
            have hap := runs_append stop next s1 (pres (ks.take k)) ks[k].pre
            rw [← hps, hrun.out] at hap
            have hall : pres ks = pres (ks.take (k + 1)) ++ pres (ks.drop (k + 1)) := by
              rw [← pres_append, List.take_append_drop]
            have hap2 := runs_append stop next s1 (pres (ks.take (k + 1))) (pres (ks.drop (k + 1)))
            rw [← hall] at hap2
            simp only [Bool.false_eq_true, if_false] at hap
            have hdr : pres (ks.drop k) = ks[k].pre ++ pres (ks.drop (k + 1)) := by rw [List.drop_eq_getElem_cons hlt]; rfl
            have ist' : Inv (ks[k].pre.length + ((pres (ks.drop (k + 1))).length + m)) st wr := by rw [hdr, List.length_append, Nat.add_assoc] at ist; exact ist
            clear hdr ist
            generalize vs[k] = y at *
            generalize ks[k] = x at *
            have HX := Lib.hid hx
            have HA := Lib.hid hap
            have HB := Lib.hid hap2
            clear hx hap hap2 hall hps q4
            go_wp2_with fail
            refine (IH.out x y _ st _ hsx HX.out bst ist').mono ?_
            unfold RunsTo
            cases hq : runs stop next st x.pre with
            | mk q sq =>
              cases q with
              | true =>
                rintro ev w3 ⟨rfl, i3, b3⟩
                rw [HA.out, hq] at HB
                have hfin : runs stop next s1 (pres ks) = (true, sq) := by rw [HB.out]; simp
                have HF := Lib.hid hfin
                clear hfin hq
                go_wp2_with fail
                go_ret
                refine ⟨?_, ?_, b3⟩
                · rw [HR.out, HF.out]; rfl
                · rw [HR.out, HF.out]; exact HI.out.le _ i3
              | false =>
                rintro ev w3 ⟨rfl, i3, b3⟩
                have hst3 : runs stop next s1 (pres (ks.take (k + 1))) = (false, sq) := by rw [HA.out, hq]
                have HT := Lib.hid hst3
                have hr3 : k + 1 < ks.length → Rd w3 (.slice (some ⟨b, off, none⟩) ks.length c) ks.length vs := fun h => by
                  rcases HO.out with h1 | h1
                  · omega
                  · exact h1.below b3
                have HR3 := Lib.hid hr3
                clear hst3 hq hr3
                go_wp2_with fail
                go_roundw
                case rel => exact ⟨k + 1, sq, by omega, by go_num, i3, b3, HT, HR3⟩
                case measure => simp [intOf]; omega
          · obtain rfl : k = ks.length := by omega
            have hfin := hrun.out
            rw [List.take_length] at hfin
            have HF := Lib.hid hfin
            clear hfin hrd
            go_wp2_with fail
            go_ret
            refine ⟨?_, ?_, bst⟩
            · rw [HR.out, HF.out]; rfl
            · rw [HR.out, HF.out]; exact HI.out.le _ ist
end Go.Proofs.YthijffpackkcnaaDoor
