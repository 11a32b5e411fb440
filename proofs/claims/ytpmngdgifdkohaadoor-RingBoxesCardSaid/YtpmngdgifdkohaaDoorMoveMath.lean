/- Moved together a ring is as before: plain Lean. -/
import Derived.Test.YtpmngdgifdkohaaDoorTwice
namespace Go.Proofs.YtpmngdgifdkohaaDoor

theorem anyB_congr {f g : Nat → Bool} {n : Nat} (h : ∀ i, i < n → f i = g i) : anyB f n = anyB g n := by
  cases hg : anyB g n with
  | true =>
    obtain ⟨i, hi, hx⟩ := anyB_get hg
    exact anyB_true hi (by rw [h i hi, hx])
  | false => exact anyB_false fun i hi => by rw [h i hi]; exact anyB_none hg hi

/-- a point that is moved -/
def mv (x y : Int) (p : Pt) : Pt := (p.1 + x, p.2 + y)
theorem crs_mv (x y : Int) (a b c : Pt) : crs (mv x y a) (mv x y b) (mv x y c) = crs a b c := by
  unfold crs mv
  simp only
  rw [show b.1 + x - (a.1 + x) = b.1 - a.1 by omega, show c.2 + y - (a.2 + y) = c.2 - a.2 by omega, show b.2 + y - (a.2 + y) = b.2 - a.2 by omega, show c.1 + x - (a.1 + x) = c.1 - a.1 by omega]
theorem boxB_mv (x y : Int) (a b p : Pt) : boxB (mv x y a) (mv x y b) (mv x y p) = boxB a b p := by
  unfold boxB mv
  exact decide_eq_decide.2 (by simp only; omega)
theorem mv_inj {x y : Int} {a b : Pt} : mv x y a = mv x y b ↔ a = b := by
  constructor
  · intro h
    have h1 := congrArg Prod.fst h
    have h2 := congrArg Prod.snd h
    simp only [mv] at h1 h2
    exact Prod.ext (by omega) (by omega)
  · intro h; rw [h]
theorem onB_mv {x y : Int} {a b p : Pt} (ha : okP a = true) (hb : okP b = true) (hp : okP p = true) (ha' : okP (mv x y a) = true) (hb' : okP (mv x y b) = true) (hp' : okP (mv x y p) = true) :
    onB (mv x y a) (mv x y b) (mv x y p) = onB a b p := by
  unfold onB
  rw [ha, hb, hp, ha', hb', hp', crs_mv, boxB_mv]
theorem properB_mv (x y : Int) (a b c d : Pt) : properB (mv x y a) (mv x y b) (mv x y c) (mv x y d) = properB a b c d := by
  unfold properB
  rw [crs_mv, crs_mv, crs_mv, crs_mv]
theorem pt_map (x y : Int) (l : List Pt) {i : Nat} (h : i < l.length) : pt (l.map (mv x y)) i = mv x y (pt l i) := by
  rw [pt_get _ _ (by rw [List.length_map]; exact h), pt_get _ _ h, List.getElem_map]
theorem spoil_mv {x y : Int} {l : List Pt} (hl : allP l = true) (hm : allP (l.map (mv x y)) = true) {i k : Nat} (hi : i < l.length) (hk : k < l.length) :
    spoilB (l.map (mv x y)) i k = spoilB l i k := by
  have h0 : 0 < l.length := by omega
  have ni : (i + 1) % l.length < l.length := Nat.mod_lt _ h0
  have nk : (k + 1) % l.length < l.length := Nat.mod_lt _ h0
  have ok := fun j (hj : j < l.length) => pt_ok hl hj
  have ok' := fun j (hj : j < l.length) => by
    have := pt_ok hm (i := j) (by rw [List.length_map]; exact hj)
    rw [pt_map x y l hj] at this
    exact this
  unfold spoilB
  simp only [List.length_map]
  rw [pt_map x y l hi, pt_map x y l hk, pt_map x y l ni, pt_map x y l nk]
  have a1 := ok _ hi
  have a2 := ok _ hk
  have a3 := ok _ ni
  have a4 := ok _ nk
  have b1 := ok' _ hi
  have b2 := ok' _ hk
  have b3 := ok' _ ni
  have b4 := ok' _ nk
  by_cases h : pt l i = pt l k
  · rw [if_pos h, if_pos (mv_inj.2 h)]
  · rw [if_neg h, if_neg (fun h' => h (mv_inj.1 h'))]
    by_cases h1 : (i + 1) % l.length = k
    · rw [if_pos h1, if_pos h1, onB_mv a1 a3 a4 b1 b3 b4, onB_mv a2 a4 a1 b2 b4 b1]
    · rw [if_neg h1, if_neg h1]
      by_cases h2 : (k + 1) % l.length = i
      · rw [if_pos h2, if_pos h2, onB_mv a2 a4 a3 b2 b4 b3, onB_mv a1 a3 a2 b1 b3 b2]
      · rw [if_neg h2, if_neg h2]
        unfold meetB
        rw [properB_mv, onB_mv a1 a3 a2 b1 b3 b2, onB_mv a1 a3 a4 b1 b3 b4, onB_mv a2 a4 a1 b2 b4 b1, onB_mv a2 a4 a3 b2 b4 b3]
theorem badI_mv {x y : Int} {l : List Pt} (hl : allP l = true) (hm : allP (l.map (mv x y)) = true) {i : Nat} (hi : i < l.length) : badI (l.map (mv x y)) i = badI l i := by
  unfold badI
  rw [List.length_map]
  exact anyB_congr fun k hk => by rw [spoil_mv hl hm hi hk]
theorem ringEr_mv {x y : Int} {l : List Pt} (hl : allP l = true) (hm : allP (l.map (mv x y)) = true) : ringEr (l.map (mv x y)) = ringEr l := by
  unfold ringEr
  have h1 := first_ok hl
  have h2 := first_ok hm
  rw [h1, h2]
  simp only [List.length_map]
  rw [first_congr (f := badI (l.map (mv x y))) (g := badI l) (n := l.length) (fun i hi _ _ => badI_mv hl hm hi)]
theorem areaTo_mv (x y : Int) (l : List Pt) : ∀ k, k ≤ l.length → areaTo (l.map (mv x y)) k = areaTo l k
  | 0, _ => rfl
  | k + 1, h => by
    unfold areaTo
    rw [areaTo_mv x y l k (by omega), List.length_map, pt_map x y l (by omega), pt_map x y l (by omega), pt_map x y l (Nat.mod_lt _ (by omega)), crs_mv]
theorem areaV_mv (x y : Int) (l : List Pt) : areaV (l.map (mv x y)) = areaV l := by
  unfold areaV
  rw [List.length_map, areaTo_mv x y l _ (Nat.le_refl _)]
theorem ringOk_mv {x y : Int} {l : List Pt} (hl : allP l = true) (hm : allP (l.map (mv x y)) = true) : ringOk (l.map (mv x y)) = ringOk l := by
  unfold ringOk
  rw [ringEr_mv hl hm]
theorem left_mv {x y : Int} {l : List Pt} (hl : allP l = true) (hm : allP (l.map (mv x y)) = true) : leftE (l.map (mv x y)) = leftE l := by
  unfold leftE
  rw [ringOk_mv hl hm, areaV_mv]
theorem twice_mv {x y : Int} {l : List Pt} (hl : allP l = true) (hm : allP (l.map (mv x y)) = true) : twiceE (l.map (mv x y)) = twiceE l := by
  unfold twiceE
  rw [ringOk_mv hl hm, areaV_mv]
theorem edgeB_mv {x y : Int} {l : List Pt} (hl : allP l = true) (hm : allP (l.map (mv x y)) = true) {p : Pt} (hp : okP p = true) (hp' : okP (mv x y p) = true) : edgeB (l.map (mv x y)) (mv x y p) = edgeB l p := by
  unfold edgeB
  rw [List.length_map]
  refine anyB_congr fun i hi => ?_
  have ni : (i + 1) % l.length < l.length := Nat.mod_lt _ (by omega)
  have b1 := pt_ok hm (i := i) (by rw [List.length_map]; exact hi)
  have b2 := pt_ok hm (i := (i + 1) % l.length) (by rw [List.length_map]; exact ni)
  rw [pt_map x y l hi] at b1
  rw [pt_map x y l ni] at b2
  unfold edgeAt
  rw [List.length_map, pt_map x y l hi, pt_map x y l ni, onB_mv (pt_ok hl hi) (pt_ok hl ni) hp b1 b2 hp']
theorem crossAt_mv (x y : Int) {l : List Pt} {p : Pt} {i : Nat} (hi : i < l.length) : crossAt (l.map (mv x y)) (mv x y p) i = crossAt l p i := by
  have ni : (i + 1) % l.length < l.length := Nat.mod_lt _ (by omega)
  unfold crossAt
  simp only [List.length_map]
  rw [pt_map x y l hi, pt_map x y l ni, crs_mv, crs_mv]
  have e1 : ((mv x y (pt l ((i + 1) % l.length))).2 < (mv x y (pt l i)).2) ↔ (pt l ((i + 1) % l.length)).2 < (pt l i).2 := by unfold mv; simp only; omega
  have e2 : ∀ a b : Pt, decide ((mv x y a).2 ≤ (mv x y b).2) = decide (a.2 ≤ b.2) := fun a b => decide_eq_decide.2 (by unfold mv; simp only; omega)
  have e3 : ∀ a b : Pt, decide ((mv x y a).2 < (mv x y b).2) = decide (a.2 < b.2) := fun a b => decide_eq_decide.2 (by unfold mv; simp only; omega)
  rw [e2, e2, e3, e3]
  by_cases h : (pt l ((i + 1) % l.length)).2 < (pt l i).2
  · rw [if_pos h, if_pos (e1.2 h)]
  · rw [if_neg h, if_neg (fun h' => h (e1.1 h'))]
theorem crossTo_mv (x y : Int) {l : List Pt} {p : Pt} : ∀ k, k ≤ l.length → crossTo (l.map (mv x y)) (mv x y p) k = crossTo l p k
  | 0, _ => rfl
  | k + 1, h => by
    unfold crossTo
    rw [crossTo_mv x y k (by omega), crossAt_mv x y (by omega)]
theorem has_mv {x y : Int} {l : List Pt} (hl : allP l = true) (hm : allP (l.map (mv x y)) = true) {p : Pt} (hp : okP p = true) (hp' : okP (mv x y p) = true) : hasE (l.map (mv x y)) (mv x y p) = hasE l p := by
  unfold hasE
  rw [ringOk_mv hl hm, hp, hp', edgeB_mv hl hm hp hp', List.length_map, crossTo_mv x y _ (Nat.le_refl _)]
end Go.Proofs.YtpmngdgifdkohaaDoor
