/- What is met within a node's error, and which nodes are within. -/
import Derived.Test.YthijffpackkcnaaFind
import Derived.Test.YthijffpackkcnaaChain
import Derived.Test.YthijffpackkcnaaSel
namespace Go.Proofs.Ythijffpackkcnaa
open Go.RowKit

/-! ### what is met within a node's error, and which nodes are within -/
def numOf : En → Option Int | .num k => some k | _ => none
def faultOf : En → Option (ByteArray × Int) | .fault op id _ => some (op, id) | _ => none
mutual
theorem pre_num : ∀ d : Nd, d.en.pre.filterMap numOf = (d.sel 1).map Nd.num
  | .mk k n op l => by
    have h1 := preHead_num l
    have h2 := pres_num l
    by_cases e1 : k = 1
    · subst e1; simp [Nd.en, Nd.sel, En.pre, numOf, Nd.num]
    · by_cases e2 : k = 2
      · subst e2; simpa [Nd.en, Nd.sel, En.pre, List.filterMap_cons, numOf] using h1
      · by_cases e3 : k = 3
        · subst e3; simpa [Nd.en, Nd.sel, En.pre, List.filterMap_cons, numOf] using h2
        · by_cases e4 : k = 4
          · subst e4; simp [Nd.en, Nd.sel, En.pre, List.filterMap_cons, numOf]
          · by_cases e5 : k = 5
            · subst e5; simp [Nd.en, Nd.sel, En.pre, List.filterMap_cons, numOf]
            · by_cases e6 : k = 6
              · subst e6; simpa [Nd.en, Nd.sel, En.pre, List.filterMap_cons, numOf] using h1
              · simp [Nd.en, Nd.sel, e1, e2, e3, e4, e5, e6, En.pre]
theorem preHead_num : ∀ l : List Nd, (enHead l).pre.filterMap numOf = (selHead 1 l).map Nd.num
  | [] => by simp [enHead, En.pre, selHead]
  | d :: _ => by simpa [enHead, selHead] using pre_num d
theorem pres_num : ∀ l : List Nd, (pres (ens l)).filterMap numOf = (sels 1 l).map Nd.num
  | [] => by simp [ens, pres, sels]
  | d :: l => by
    have h1 := pre_num d
    have h2 := pres_num l
    simp [ens, pres, sels, h1, h2]
end
mutual
theorem pre_fault : ∀ d : Nd, d.en.pre.filterMap faultOf = (d.sel 2).map fun d => (d.op, d.num)
  | .mk k n op l => by
    have h1 := preHead_fault l
    have h2 := pres_fault l
    by_cases e1 : k = 1
    · subst e1; simp [Nd.en, Nd.sel, En.pre, List.filterMap_cons, faultOf]
    · by_cases e2 : k = 2
      · subst e2; simpa [Nd.en, Nd.sel, En.pre, List.filterMap_cons, faultOf, Nd.op, Nd.num] using h1
      · by_cases e3 : k = 3
        · subst e3; simpa [Nd.en, Nd.sel, En.pre, List.filterMap_cons, faultOf] using h2
        · by_cases e4 : k = 4
          · subst e4; simp [Nd.en, Nd.sel, En.pre, List.filterMap_cons, faultOf]
          · by_cases e5 : k = 5
            · subst e5; simp [Nd.en, Nd.sel, En.pre, List.filterMap_cons, faultOf]
            · by_cases e6 : k = 6
              · subst e6; simpa [Nd.en, Nd.sel, En.pre, List.filterMap_cons, faultOf] using h1
              · simp [Nd.en, Nd.sel, e1, e2, e3, e4, e5, e6, En.pre]
theorem preHead_fault : ∀ l : List Nd, (enHead l).pre.filterMap faultOf = (selHead 2 l).map fun d => (d.op, d.num)
  | [] => by simp [enHead, En.pre, selHead]
  | d :: _ => by simpa [enHead, selHead] using pre_fault d
theorem pres_fault : ∀ l : List Nd, (pres (ens l)).filterMap faultOf = (sels 2 l).map fun d => (d.op, d.num)
  | [] => by simp [ens, pres, sels]
  | d :: l => by
    have h1 := pre_fault d
    have h2 := pres_fault l
    simp [ens, pres, sels, h1, h2]
end
/-- the first number of nodes -/
def codeOf : List Nd → Int | [] => 0 | d :: _ => d.num
theorem runsC : ∀ (l : List En) (s : Int), (runs stopC nextC s l).2 = match l.filterMap numOf with | [] => s | x :: _ => x
  | [], s => rfl
  | e :: l, s => by
    have ih := runsC l s
    cases e <;> simp [runs, stopC, nextC, List.filterMap_cons, numOf, ih]
theorem first_en (d : Nd) : d.en.first = codeOf (d.sel 1) := by
  rw [En.first, runsC, pre_num]
  cases d.sel 1 <;> rfl
theorem runsH : ∀ (l : List En) (s : List ByteArray), (runs stopH nextH s l).2 = s ++ (l.filterMap faultOf).map (·.1)
  | [], s => by simp [runs]
  | e :: l, s => by
    have ih := fun s => runsH l s
    cases e <;> simp [runs, stopH, nextH, List.filterMap_cons, faultOf, ih]
theorem chain_en (d : Nd) : d.en.chain = (d.sel 2).map Nd.op := by
  rw [En.chain, runsH, pre_fault]
  simp
/-- the first one of an op -/
def firstOp (op : ByteArray) (l : List Nd) : Option Nd := l.find? fun d => decide (d.op = op)
theorem runsF_find (op : ByteArray) : ∀ (l : List En), ((runs (stopF op) (nextF op) none l).2).bind faultOf = (l.filterMap faultOf).find? (fun p => decide (p.1 = op)) ∧
    ((runs (stopF op) (nextF op) none l).2 = none ∨ ∃ id x, (runs (stopF op) (nextF op) none l).2 = some (.fault op id x))
  | [] => by simp [runs]
  | e :: l => by
    have ih := runsF_find op l
    cases e with
    | fault o id x =>
      by_cases h : o = op
      · subst h; simp [runs, stopF, nextF, faultOf]
      · simpa [runs, stopF, nextF, List.filterMap_cons, faultOf, h] using ih
    | _ => simpa [runs, stopF, nextF, List.filterMap_cons, faultOf] using ih
/-- what fault.Find tells of a node's error -/
theorem find_en (op : ByteArray) (d : Nd) : (firstOp op (d.sel 2) = none ∧ d.en.find op = none) ∨ ∃ m x, firstOp op (d.sel 2) = some m ∧ d.en.find op = some (.fault op m.num x) := by
  obtain ⟨h1, h2⟩ := runsF_find op d.en.pre
  rw [show (runs (stopF op) (nextF op) none d.en.pre).2 = d.en.find op from rfl] at h1 h2
  rw [pre_fault, List.find?_map] at h1
  have e : (d.sel 2).find? ((fun p : ByteArray × Int => decide (p.1 = op)) ∘ fun d => (d.op, d.num)) = firstOp op (d.sel 2) := rfl
  rw [e] at h1
  rcases h2 with h2 | ⟨id, x, h2⟩
  · rw [h2] at h1
    left
    cases hq : firstOp op (d.sel 2) with
    | none => exact ⟨rfl, h2⟩
    | some m => rw [hq] at h1; simp at h1
  · rw [h2] at h1
    right
    cases hq : firstOp op (d.sel 2) with
    | none => rw [hq] at h1; simp [faultOf] at h1
    | some m =>
      rw [hq] at h1
      simp [faultOf] at h1
      exact ⟨m, x, rfl, by rw [h2, h1.2]⟩
theorem firstOp_take (op : ByteArray) (l : List Nd) (k : Nat) (h : k < l.length) : firstOp op (l.take (k + 1)) = (firstOp op (l.take k)).or (if l[k].op = op then some l[k] else none) := by
  unfold firstOp
  rw [List.take_succ_eq_append_getElem h, List.find?_append]
  congr 1
  by_cases e : l[k].op = op <;> simp [e]
end Go.Proofs.Ythijffpackkcnaa
