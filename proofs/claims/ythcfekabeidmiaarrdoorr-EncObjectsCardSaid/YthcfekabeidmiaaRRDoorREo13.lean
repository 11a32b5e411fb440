/- A simple polygon's area is not nought and fits a word: plain Lean, of functions of the corners' numbers. -/
namespace Go.Proofs.YthcfekabeidmiaaRRDoorR.Jord

/-- is the number of those below n odd? -/
def par (p : Nat → Bool) : Nat → Bool
  | 0 => false
  | k + 1 => (par p k ^^ p k)
theorem par_congr {p q : Nat → Bool} : ∀ {n : Nat}, (∀ i, i < n → p i = q i) → par p n = par q n
  | 0, _ => rfl
  | n + 1, h => by
    unfold par
    rw [par_congr (fun i hi => h i (by omega)), h n (by omega)]
theorem par_xor (p q : Nat → Bool) : ∀ n, par (fun g => p g ^^ q g) n = (par p n ^^ par q n)
  | 0 => rfl
  | n + 1 => by
    unfold par
    rw [par_xor p q n]
    cases par p n <;> cases par q n <;> cases p n <;> cases q n <;> rfl
theorem par_no {p : Nat → Bool} : ∀ {n : Nat}, (∀ i, i < n → p i = false) → par p n = false
  | 0, _ => rfl
  | n + 1, h => by
    unfold par
    rw [par_no (fun i hi => h i (by omega)), h n (by omega)]; rfl
theorem par_at (i : Nat) (b : Bool) : ∀ n, par (fun g => decide (g = i) && b) n = (decide (i < n) && b)
  | 0 => by simp [par]
  | n + 1 => by
    unfold par
    rw [par_at i b n]
    by_cases h : n = i
    · subst h; simp
    · have e : (i < n + 1) ↔ i < n := by omega
      simp [h, e]
/-- two places alone -/
theorem par_two {p : Nat → Bool} {n i j : Nat} (hi : i < n) (hj : j < n) (hij : i ≠ j) (h : ∀ g, g < n → g ≠ i → g ≠ j → p g = false) : par p n = (p i ^^ p j) := by
  have e : par p n = par (fun g => (decide (g = i) && p i) ^^ (decide (g = j) && p j)) n := par_congr fun g hg => by
    by_cases a : g = i
    · subst a; simp [hij]
    · by_cases b : g = j
      · subst b; simp [a]
      · rw [h g hg a b]; simp [a, b]
  rw [e, par_xor (fun g => decide (g = i) && p i) (fun g => decide (g = j) && p j), par_at, par_at]
  simp [hi, hj]

def sumN (f : Nat → Int) : Nat → Int
  | 0 => 0
  | k + 1 => sumN f k + f k
theorem sumN_congr {f g : Nat → Int} : ∀ {n : Nat}, (∀ i, i < n → f i = g i) → sumN f n = sumN g n
  | 0, _ => rfl
  | n + 1, h => by
    unfold sumN
    rw [sumN_congr (fun i hi => h i (by omega)), h n (by omega)]
theorem sumN_zero : ∀ n : Nat, sumN (fun _ => 0) n = 0
  | 0 => rfl
  | n + 1 => by unfold sumN; rw [sumN_zero n]; rfl
theorem sumN_add (f g : Nat → Int) : ∀ n, sumN (fun i => f i + g i) n = sumN f n + sumN g n
  | 0 => rfl
  | n + 1 => by unfold sumN; rw [sumN_add f g n]; omega
theorem sumN_mul (c : Int) (f : Nat → Int) : ∀ n, sumN (fun i => c * f i) n = c * sumN f n
  | 0 => by simp [sumN]
  | n + 1 => by unfold sumN; rw [sumN_mul c f n, Int.mul_add]
theorem sumN_swap (f : Nat → Nat → Int) (n : Nat) : ∀ m, sumN (fun i => sumN (fun j => f i j) m) n = sumN (fun j => sumN (fun i => f i j) n) m
  | 0 => by simp only [sumN]; exact sumN_zero n
  | m + 1 => by
    simp only [sumN]
    rw [sumN_add, sumN_swap f n m]
theorem sumN_le {f g : Nat → Int} : ∀ {n : Nat}, (∀ i, i < n → f i ≤ g i) → sumN f n ≤ sumN g n
  | 0, _ => Int.le_refl _
  | n + 1, h => by
    unfold sumN
    have := sumN_le (n := n) (fun i hi => h i (by omega))
    have := h n (by omega)
    omega
theorem sumN_const (c : Int) : ∀ n : Nat, sumN (fun _ => c) n = n * c
  | 0 => by simp [sumN]
  | n + 1 => by
    unfold sumN
    rw [sumN_const c n]
    grind
theorem sumN_pos {f : Nat → Int} {n : Nat} (h0 : ∀ i, i < n → 0 ≤ f i) {i : Nat} (hi : i < n) (h1 : 1 ≤ f i) : 1 ≤ sumN f n := by
  induction n with
  | zero => omega
  | succ n ih =>
    unfold sumN
    have hn : 0 ≤ sumN f n := by
      have := sumN_le (f := fun _ => 0) (g := f) (n := n) (fun i hi => h0 i (by omega))
      rw [sumN_zero] at this
      exact this
    by_cases e : i = n
    · subst e; omega
    · have := ih (fun i hi => h0 i (by omega)) (by omega)
      have := h0 n (by omega)
      omega
/-- all but one place as they were -/
theorem sumN_at {f g : Nat → Int} {n e : Nat} (he : e < n) (d : Int) (h : ∀ i, i < n → i ≠ e → f i = g i) (h1 : f e = g e + d) : sumN f n = sumN g n + d := by
  induction n with
  | zero => omega
  | succ n ih =>
    unfold sumN
    by_cases a : e = n
    · subst a
      rw [sumN_congr (fun i hi => h i (by omega) (by omega)), h1]; omega
    · rw [ih (by omega) (fun i hi => h i (by omega)), h n (by omega) (fun k => a k.symm)]; omega

/-- the edge's heights, ends too -/
def cl (nx : Nat → Nat) (h : Nat → Int) (i : Nat) (s : Int) : Prop := (h i ≤ s ∧ s ≤ h (nx i)) ∨ (h (nx i) ≤ s ∧ s ≤ h i)
def nd (nx : Nat → Nat) (h : Nat → Int) (i : Nat) (s : Int) : Prop := s = h i ∨ s = h (nx i)
/-- does the edge cross the level? -/
def sp (nx : Nat → Nat) (h : Nat → Int) (i : Nat) (s : Int) : Bool := decide ((h i < s ∧ s < h (nx i)) ∨ (h (nx i) < s ∧ s < h i))
def up (nx : Nat → Nat) (h : Nat → Int) (i : Nat) : Bool := decide (h i < h (nx i))

structure Pg (n : Nat) (nx : Nat → Nat) (h : Nat → Int) (X : Nat → Int → Int) (V : Nat → Int) : Prop where
  nx_lt : ∀ i, i < n → nx i < n
  nx_ne : ∀ i, i < n → nx i ≠ i
  pv : ∀ i, i < n → ∃ u, u < n ∧ nx u = i
  inj : ∀ i j, i < n → j < n → nx i = nx j → i = j
  succ : ∀ i, i + 1 < n → nx i = i + 1
  even : ∀ i, i < n → h i % 2 = 0
  dist : ∀ i j, i < n → j < n → h i = h j → i = j
  at0 : ∀ i, i < n → X i (h i) = V i
  at1 : ∀ i, i < n → X i (h (nx i)) = V (nx i)
  ord : ∀ i j, i < n → j < n → i ≠ j → ∀ s t, cl nx h i s → cl nx h i t → cl nx h j s → cl nx h j t → ¬ (nd nx h i s ∧ nd nx h j s) → ¬ (nd nx h i t ∧ nd nx h j t) → X i s ≠ X j s ∧ (X i s < X j s ↔ X i t < X j t)

section
variable {n : Nat} {nx : Nat → Nat} {h : Nat → Int} {X : Nat → Int → Int} {V : Nat → Int}

/-- how many stand to the left, odd? -/
def nbr (n : Nat) (nx : Nat → Nat) (h : Nat → Int) (X : Nat → Int → Int) (e : Nat) (s : Int) : Bool := par (fun g => sp nx h g s && decide (X g s < X e s)) n

theorem sp_iff {i : Nat} {s : Int} : sp nx h i s = true ↔ ((h i < s ∧ s < h (nx i)) ∨ (h (nx i) < s ∧ s < h i)) := by unfold sp; exact decide_eq_true_iff

/-- an edge without an end at the level between -/
theorem Pg.pass (P : Pg n nx h X V) {g : Nat} (hg : g < n) {s : Int} (hs : s % 2 = 0) (h1 : h g ≠ s) (h2 : h (nx g) ≠ s) : sp nx h g (s - 1) = sp nx h g (s + 1) := by
  have e1 := P.even g hg
  have e2 := P.even _ (P.nx_lt g hg)
  rw [Bool.eq_iff_iff, sp_iff, sp_iff]
  omega
theorem Pg.ord' (P : Pg n nx h X V) {i j : Nat} (hi : i < n) (hj : j < n) (hij : i ≠ j) {s t : Int} (a1 : cl nx h i s) (a2 : cl nx h i t) (a3 : cl nx h j s) (a4 : cl nx h j t) (h1 : ¬ nd nx h j s ∨ ¬ nd nx h i s) (h2 : ¬ nd nx h j t ∨ ¬ nd nx h i t) :
    decide (X i s < X j s) = decide (X i t < X j t) :=
  decide_eq_decide.2 (P.ord i j hi hj hij s t a1 a2 a3 a4 (fun k => by rcases h1 with h1 | h1; exact h1 k.2; exact h1 k.1) (fun k => by rcases h2 with h2 | h2; exact h2 k.2; exact h2 k.1)).2

theorem Pg.step (P : Pg n nx h X V) {e : Nat} (he : e < n) {s : Int} (hs : s % 2 = 0) (s1 : sp nx h e (s - 1) = true) (s2 : sp nx h e (s + 1) = true) : nbr n nx h X e (s - 1) = nbr n nx h X e (s + 1) := by
  have key : (nbr n nx h X e (s - 1) ^^ nbr n nx h X e (s + 1)) = false := by
    unfold nbr
    rw [← par_xor]
    have ev1 := P.even e he
    have ev2 := P.even _ (P.nx_lt e he)
    rw [sp_iff] at s1 s2
    have ne1 : h e ≠ s := by omega
    have ne2 : h (nx e) ≠ s := by omega
    have none : ∀ g, g < n → h g ≠ s → h (nx g) ≠ s → ((sp nx h g (s - 1) && decide (X g (s - 1) < X e (s - 1))) ^^ (sp nx h g (s + 1) && decide (X g (s + 1) < X e (s + 1)))) = false := by
      intro g hg n1 n2
      have e1 := P.even g hg
      have e2 := P.even _ (P.nx_lt g hg)
      rw [P.pass hg hs n1 n2]
      cases hc : sp nx h g (s + 1) with
      | false => rfl
      | true =>
        have hc' := hc
        rw [← P.pass hg hs n1 n2] at hc'
        rw [sp_iff] at hc hc'
        by_cases a : g = e
        · subst a; simp
        · rw [P.ord' hg he a (s := s - 1) (t := s + 1) (by unfold cl; omega) (by unfold cl; omega) (by unfold cl; omega) (by unfold cl; omega) (.inl (by unfold nd; omega)) (.inl (by unfold nd; omega))]
          simp
    by_cases hv : ∃ v, v < n ∧ h v = s
    · obtain ⟨v, hv, hvs⟩ := hv
      obtain ⟨u, hu, huv⟩ := P.pv v hv
      have huv' : u ≠ v := fun k => P.nx_ne u hu (by rw [huv, k])
      have hve : v ≠ e := fun k => ne1 (by rw [← k, hvs])
      have hue : u ≠ e := fun k => ne2 (by rw [← k, huv, hvs])
      have one : ∀ g, g < n → g ≠ e → ((h g = s ∧ h (nx g) ≠ s) ∨ (h (nx g) = s ∧ h g ≠ s)) → ((sp nx h g (s - 1) && decide (X g (s - 1) < X e (s - 1))) ^^ (sp nx h g (s + 1) && decide (X g (s + 1) < X e (s + 1)))) = decide (X g s < X e s) := by
        intro g hg hge hh
        have e1 := P.even g hg
        have e2 := P.even _ (P.nx_lt g hg)
        by_cases b : sp nx h g (s - 1) = true
        · have b' : sp nx h g (s + 1) = false := by
            rw [← Bool.not_eq_true, sp_iff]; rw [sp_iff] at b; omega
          rw [b, b']
          rw [sp_iff] at b
          rw [P.ord' hg he hge (s := s - 1) (t := s) (by unfold cl; omega) (by unfold cl; omega) (by unfold cl; omega) (by unfold cl; omega) (.inl (by unfold nd; omega)) (.inl (by unfold nd; omega))]
          simp
        · have b' : sp nx h g (s + 1) = true := by rw [sp_iff] at b ⊢; omega
          have b0 : sp nx h g (s - 1) = false := by simpa using b
          rw [b0, b']
          rw [sp_iff] at b'
          rw [P.ord' hg he hge (s := s + 1) (t := s) (by unfold cl; omega) (by unfold cl; omega) (by unfold cl; omega) (by unfold cl; omega) (.inl (by unfold nd; omega)) (.inl (by unfold nd; omega))]
          simp
      rw [par_two hv hu (fun k => huv' k.symm) (fun g hg gv gu => none g hg (fun k => gv (P.dist _ _ hg hv (by rw [k, hvs]))) (fun k => gu (P.inj _ _ hg hu (P.dist _ _ (P.nx_lt g hg) (P.nx_lt u hu) (by rw [k, huv, hvs])))))]
      rw [one v hv hve (.inl ⟨hvs, fun k => P.nx_ne v hv (P.dist _ _ (P.nx_lt v hv) hv (by rw [k, hvs]))⟩), one u hu hue (.inr ⟨by rw [huv, hvs], fun k => huv' (P.dist _ _ hu hv (by rw [k, hvs]))⟩)]
      have x1 := P.at0 v hv
      have x2 := P.at1 u hu
      rw [huv] at x2
      rw [hvs] at x1 x2
      rw [x1, x2]
      simp
    · exact par_no fun g hg => none g hg (fun k => hv ⟨g, hg, k⟩) (fun k => hv ⟨nx g, P.nx_lt g hg, k⟩)
  cases h1 : nbr n nx h X e (s - 1) <;> cases h2 : nbr n nx h X e (s + 1) <;> simp_all

theorem Pg.along (P : Pg n nx h X V) {e : Nat} (he : e < n) {s : Int} (hs : s % 2 = 1) (s1 : sp nx h e s = true) : ∀ k : Nat, sp nx h e (s + 2 * k) = true → nbr n nx h X e s = nbr n nx h X e (s + 2 * k)
  | 0, _ => by simp
  | k + 1, h2 => by
    have h3 : sp nx h e (s + 2 * k) = true := by rw [sp_iff] at s1 h2 ⊢; omega
    rw [P.along he hs s1 k h3]
    have := P.step he (s := s + 2 * k + 1) (by omega) (by rw [show s + 2 * (k : Int) + 1 - 1 = s + 2 * k by omega]; exact h3) (by rw [show s + 2 * (k : Int) + 1 + 1 = s + 2 * ((k + 1 : Nat) : Int) by omega]; exact h2)
    rw [show s + 2 * (k : Int) + 1 - 1 = s + 2 * k by omega, show s + 2 * (k : Int) + 1 + 1 = s + 2 * ((k + 1 : Nat) : Int) by omega] at this
    exact this
theorem Pg.edge (P : Pg n nx h X V) {e : Nat} (he : e < n) {s t : Int} (hs : s % 2 = 1) (ht : t % 2 = 1) (s1 : sp nx h e s = true) (s2 : sp nx h e t = true) : nbr n nx h X e s = nbr n nx h X e t := by
  rcases Int.le_total s t with hle | hle
  · have e1 : t = s + 2 * (((t - s) / 2).toNat : Int) := by omega
    rw [e1] at s2 ⊢
    exact P.along he hs s1 _ s2
  · have e1 : s = t + 2 * (((s - t) / 2).toNat : Int) := by omega
    rw [e1] at s1 ⊢
    exact (P.along he ht s2 _ s1).symm

/-- from an edge to the next one -/
theorem Pg.turn (P : Pg n nx h X V) {u v : Nat} (hu : u < n) (huv : nx u = v) {s t : Int} (hs : s % 2 = 1) (ht : t % 2 = 1) (s1 : sp nx h u s = true) (s2 : sp nx h v t = true) :
    (nbr n nx h X u s ^^ up nx h u) = (nbr n nx h X v t ^^ up nx h v) := by
  have hv : v < n := by rw [← huv]; exact P.nx_lt u hu
  have huv' : u ≠ v := fun k => P.nx_ne u hu (by rw [huv, k])
  have ev := P.even v hv
  have eu := P.even u hu
  have ew := P.even _ (P.nx_lt v hv)
  have du : h u ≠ h v := fun k => huv' (P.dist _ _ hu hv k)
  have dw : h (nx v) ≠ h v := fun k => P.nx_ne v hv (P.dist _ _ (P.nx_lt v hv) hv k)
  -- the levels beside the corner
  have main : ∀ a b : Int, (a = h v - 1 ∨ a = h v + 1) → (b = h v - 1 ∨ b = h v + 1) → sp nx h u a = true → sp nx h v b = true → (nbr n nx h X u a ^^ up nx h u) = (nbr n nx h X v b ^^ up nx h v) := by
    intro a b ha hb sa sb
    have key : (nbr n nx h X u a ^^ nbr n nx h X v b) = (up nx h u ^^ up nx h v) := by
      unfold nbr
      rw [← par_xor]
      have sa' := sp_iff.1 sa
      have sb' := sp_iff.1 sb
      rw [huv] at sa'
      have none : ∀ g, g < n → g ≠ u → g ≠ v → ((sp nx h g a && decide (X g a < X u a)) ^^ (sp nx h g b && decide (X g b < X v b))) = false := by
        intro g hg gu gv
        have e1 := P.even g hg
        have e2 := P.even _ (P.nx_lt g hg)
        have n1 : h g ≠ h v := fun k => gv (P.dist _ _ hg hv k)
        have n2 : h (nx g) ≠ h v := fun k => gu (P.inj _ _ hg hu (P.dist _ _ (P.nx_lt g hg) (P.nx_lt u hu) (by rw [k, huv])))
        have hp := P.pass hg ev n1 n2
        have hp1 : sp nx h g a = sp nx h g (h v + 1) := by rcases ha with rfl | rfl; exact hp; rfl
        have hp2 : sp nx h g b = sp nx h g (h v + 1) := by rcases hb with rfl | rfl; exact hp; rfl
        rw [hp1, hp2]
        cases hc : sp nx h g (h v + 1) with
        | false => rfl
        | true =>
          have c1 := sp_iff.1 (hp1.trans hc)
          have c2 := sp_iff.1 (hp2.trans hc)
          rw [P.ord' hg hu gu (s := a) (t := h v) (by unfold cl; omega) (by unfold cl; omega) (by unfold cl; rw [huv]; omega) (by unfold cl; rw [huv]; omega) (.inr (by unfold nd; omega)) (.inr (by unfold nd; omega))]
          rw [P.ord' hg hv gv (s := b) (t := h v) (by unfold cl; omega) (by unfold cl; omega) (by unfold cl; omega) (by unfold cl; omega) (.inr (by unfold nd; omega)) (.inr (by unfold nd; omega))]
          have x1 := P.at0 v hv
          have x2 := P.at1 u hu
          rw [huv] at x2
          rw [x1, x2]
          simp
      rw [par_two hu hv huv' none]
      have z1 : decide (X u a < X u a) = false := by simp
      have z2 : decide (X v b < X v b) = false := by simp
      rw [z1, z2, Bool.and_false, Bool.and_false, Bool.false_xor, Bool.xor_false]
      by_cases hab : a = b
      · subst hab
        rw [sa, sb, Bool.true_and, Bool.true_and]
        have hne := (P.ord u v hu hv huv' a a (by unfold cl; rw [huv]; omega) (by unfold cl; rw [huv]; omega) (by unfold cl; omega) (by unfold cl; omega) (fun k => by have := k.1; unfold nd at this; rw [huv] at this; omega) (fun k => by have := k.1; unfold nd at this; rw [huv] at this; omega)).1
        have hup : (up nx h u ^^ up nx h v) = true := by
          unfold up
          rw [huv]
          rcases ha with rfl | rfl
          · rw [decide_eq_true (show h u < h v by omega), decide_eq_false (show ¬ h v < h (nx v) by omega)]; rfl
          · rw [decide_eq_false (show ¬ h u < h v by omega), decide_eq_true (show h v < h (nx v) by omega)]; rfl
        rw [hup]
        rcases Int.lt_or_gt_of_ne hne with hlt | hlt
        · rw [decide_eq_true hlt, decide_eq_false (show ¬ X v a < X u a by omega)]; rfl
        · rw [decide_eq_false (show ¬ X u a < X v a by omega), decide_eq_true (show X v a < X u a by omega)]; rfl
      · have q1 : sp nx h u b = false := by rw [← Bool.not_eq_true, sp_iff, huv]; omega
        have q2 : sp nx h v a = false := by rw [← Bool.not_eq_true, sp_iff]; omega
        rw [q1, q2]
        have hup : (up nx h u ^^ up nx h v) = false := by
          unfold up
          rw [huv]
          by_cases c : h u < h v
          · rw [decide_eq_true c, decide_eq_true (show h v < h (nx v) by omega)]; rfl
          · rw [decide_eq_false c, decide_eq_false (show ¬ h v < h (nx v) by omega)]; rfl
        rw [hup]; rfl
    revert key
    cases nbr n nx h X u a <;> cases nbr n nx h X v b <;> cases up nx h u <;> cases up nx h v <;> simp
  have hs1 := sp_iff.1 s1
  have hs2 := sp_iff.1 s2
  rw [huv] at hs1
  have ca : ∃ a, (a = h v - 1 ∨ a = h v + 1) ∧ sp nx h u a = true := by
    by_cases c : h u < h v
    · exact ⟨h v - 1, .inl rfl, by rw [sp_iff, huv]; omega⟩
    · exact ⟨h v + 1, .inr rfl, by rw [sp_iff, huv]; omega⟩
  have cb : ∃ b, (b = h v - 1 ∨ b = h v + 1) ∧ sp nx h v b = true := by
    by_cases c : h (nx v) < h v
    · exact ⟨h v - 1, .inl rfl, by rw [sp_iff]; omega⟩
    · exact ⟨h v + 1, .inr rfl, by rw [sp_iff]; omega⟩
  obtain ⟨a, ha, sa⟩ := ca
  obtain ⟨b, hb, sb⟩ := cb
  rw [P.edge hu hs (t := a) (by omega) s1 sa, P.edge hv ht (t := b) (by omega) s2 sb]
  exact main a b ha hb sa sb

/-- one bit for all edges and levels -/
theorem Pg.side (P : Pg n nx h X V) (h0 : 0 < n) : ∃ c : Bool, ∀ e s, e < n → s % 2 = 1 → sp nx h e s = true → (nbr n nx h X e s ^^ up nx h e) = c := by
  have lev : ∀ e, e < n → ∃ s : Int, s % 2 = 1 ∧ sp nx h e s = true := by
    intro e he
    have e1 := P.even e he
    have e2 := P.even _ (P.nx_lt e he)
    have d : h (nx e) ≠ h e := fun k => P.nx_ne e he (P.dist _ _ (P.nx_lt e he) he k)
    by_cases c : h e < h (nx e)
    · exact ⟨h e + 1, by omega, by rw [sp_iff]; omega⟩
    · exact ⟨h e - 1, by omega, by rw [sp_iff]; omega⟩
  obtain ⟨s0, o0, p0⟩ := lev 0 h0
  refine ⟨nbr n nx h X 0 s0 ^^ up nx h 0, fun e => ?_⟩
  induction e with
  | zero =>
    intro s _ hs hp
    rw [P.edge h0 hs o0 hp p0]
  | succ e ih =>
    intro s he hs hp
    obtain ⟨s1, o1, p1⟩ := lev e (by omega)
    rw [← ih s1 (by omega) o1 p1]
    exact (P.turn (by omega) (P.succ e he) o1 hs p1 hp).symm
end
section
variable {n : Nat} {nx : Nat → Nat} {h : Nat → Int} {X : Nat → Int → Int} {V : Nat → Int}
/-- up is 1, down is -1 -/
def dr (nx : Nat → Nat) (h : Nat → Int) (i : Nat) : Int := if up nx h i then 1 else -1
/-- the ways of those up to u -/
def fl (n : Nat) (nx : Nat → Nat) (h : Nat → Int) (X : Nat → Int → Int) (s u : Int) : Int := sumN (fun g => if sp nx h g s = true ∧ X g s ≤ u then dr nx h g else 0) n
/-- is the number of those up to u odd? -/
def od (n : Nat) (nx : Nat → Nat) (h : Nat → Int) (X : Nat → Int → Int) (s u : Int) : Bool := par (fun g => sp nx h g s && decide (X g s ≤ u)) n

theorem Pg.apart (P : Pg n nx h X V) {g e : Nat} (hg : g < n) (he : e < n) (hne : g ≠ e) {s : Int} (hs : s % 2 = 1) (s1 : sp nx h g s = true) (s2 : sp nx h e s = true) : X g s ≠ X e s := by
  rw [sp_iff] at s1 s2
  have e1 := P.even g hg
  have e2 := P.even _ (P.nx_lt g hg)
  exact (P.ord g e hg he hne s s (by unfold cl; omega) (by unfold cl; omega) (by unfold cl; omega) (by unfold cl; omega) (fun k => by have := k.1; unfold nd at this; omega) (fun k => by have := k.1; unfold nd at this; omega)).1

theorem Pg.flow (P : Pg n nx h X V) {c : Bool} (hc : ∀ e s, e < n → s % 2 = 1 → sp nx h e s = true → (nbr n nx h X e s ^^ up nx h e) = c) {s : Int} (hs : s % 2 = 1) {A : Int}
    (hA : ∀ g, g < n → sp nx h g s = true → A ≤ X g s) : ∀ k : Nat, fl n nx h X s (A - 1 + k) = if od n nx h X s (A - 1 + k) then (if c then 1 else -1) else 0
  | 0 => by
    have e1 : od n nx h X s (A - 1 + (0 : Nat)) = false := par_no fun g hg => by
      cases q : sp nx h g s with
      | false => rfl
      | true => have := hA g hg q; rw [decide_eq_false (by omega)]; rfl
    have e2 : fl n nx h X s (A - 1 + (0 : Nat)) = 0 := by
      unfold fl
      rw [sumN_congr (g := fun _ => 0) (fun g hg => if_neg (fun q => by have := hA g hg q.1; have := q.2; omega)), sumN_zero]
    rw [e1, e2]; rfl
  | k + 1 => by
    have ih := P.flow hc hs hA k
    have eu : A - 1 + ((k + 1 : Nat) : Int) = A - 1 + (k : Int) + 1 := by omega
    rw [eu]
    generalize A - 1 + (k : Int) = u at *
    by_cases hx : ∃ e, e < n ∧ sp nx h e s = true ∧ X e s = u + 1
    · obtain ⟨e, he, se, xe⟩ := hx
      have others : ∀ g, g < n → g ≠ e → sp nx h g s = true → (X g s ≤ u + 1 ↔ X g s ≤ u) := fun g hg hge sg => by
        have := P.apart hg he hge hs sg se
        omega
      have f1 : fl n nx h X s (u + 1) = fl n nx h X s u + dr nx h e := by
        refine sumN_at he _ (fun g hg hge => ?_) ?_
        · by_cases q : sp nx h g s = true
          · have := others g hg hge q
            simp only [q, true_and, this]
          · simp only [q, false_and, if_false, Bool.false_eq_true]
        · rw [if_pos ⟨se, by omega⟩, if_neg (fun q => by have := q.2; omega)]; omega
      have f2 : od n nx h X s u = nbr n nx h X e s := par_congr fun g hg => by
        rw [xe, decide_eq_decide.2 (show X g s ≤ u ↔ X g s < u + 1 by omega)]
      have f3 : od n nx h X s (u + 1) = !od n nx h X s u := by
        have : (od n nx h X s (u + 1) ^^ od n nx h X s u) = true := by
          unfold od
          rw [← par_xor]
          rw [par_congr (q := fun g => decide (g = e) && true) (fun g hg => by
            by_cases a : g = e
            · subst a
              rw [se, decide_eq_true (show X g s ≤ u + 1 by omega), decide_eq_false (show ¬ X g s ≤ u by omega)]; simp
            · cases q : sp nx h g s with
              | false => simp [a]
              | true => simp [a, others g hg a q])]
          rw [par_at]; simp [he]
        revert this
        cases od n nx h X s (u + 1) <;> cases od n nx h X s u <;> simp
      have hI := hc e s he hs se
      rw [← f2] at hI
      rw [f1, ih, f3]
      unfold dr
      revert hI
      cases od n nx h X s u <;> cases up nx h e <;> cases c <;> simp
    · have same : ∀ g, g < n → sp nx h g s = true → (X g s ≤ u + 1 ↔ X g s ≤ u) := fun g hg sg => by
        have : X g s ≠ u + 1 := fun k => hx ⟨g, hg, sg, k⟩
        omega
      have f1 : fl n nx h X s (u + 1) = fl n nx h X s u := sumN_congr fun g hg => by
        by_cases q : sp nx h g s = true
        · simp only [q, true_and, same g hg q]
        · simp only [q, false_and, if_false, Bool.false_eq_true]
      have f2 : od n nx h X s (u + 1) = od n nx h X s u := par_congr fun g hg => by
        cases q : sp nx h g s with
        | false => rfl
        | true => rw [decide_eq_decide.2 (same g hg q)]
      rw [f1, f2, ih]

/-- a closed row crosses a level so many times: not odd -/
theorem par_last (f : Nat → Bool) : ∀ m : Nat, par (fun g => f g ^^ f (g + 1)) m = (f 0 ^^ f m)
  | 0 => by simp [par]
  | m + 1 => by
    unfold par
    rw [par_last f m]
    cases f 0 <;> cases f m <;> cases f (m + 1) <;> rfl
theorem Pg.closed (P : Pg n nx h X V) (h0 : 0 < n) {s : Int} (hs : s % 2 = 1) : par (fun g => sp nx h g s) n = false := by
  have e1 : ∀ g, g < n → sp nx h g s = (decide (s < h g) ^^ decide (s < h (nx g))) := fun g hg => by
    have e1 := P.even g hg
    have e2 := P.even _ (P.nx_lt g hg)
    rw [Bool.eq_iff_iff, sp_iff]
    by_cases a : s < h g <;> by_cases b : s < h (nx g) <;> simp [a, b] <;> omega
  have last : nx (n - 1) = 0 := by
    obtain ⟨u, hu, e⟩ := P.pv 0 h0
    by_cases a : u = n - 1
    · rw [← a, e]
    · have := P.succ u (by omega); omega
  rw [par_congr e1]
  obtain ⟨m, rfl⟩ : ∃ m, n = m + 1 := ⟨n - 1, by omega⟩
  unfold par
  rw [show m + 1 - 1 = m by omega] at last
  rw [last, par_congr (q := fun g => decide (s < h g) ^^ decide (s < h (g + 1))) (fun g hg => by rw [P.succ g (by omega)]), par_last (fun g => decide (s < h g))]
  cases decide (s < h 0) <;> cases decide (s < h m) <;> rfl

/-- how many places of [A, A + L) are inside -/
def ins (n : Nat) (nx : Nat → Nat) (h : Nat → Int) (X : Nat → Int → Int) (s A : Int) (L : Nat) : Int := sumN (fun k => if od n nx h X s (A + k) then 1 else 0) L
/-- the level's sum -/
def lvl (n : Nat) (nx : Nat → Nat) (h : Nat → Int) (X : Nat → Int → Int) (s : Int) : Int := sumN (fun g => if sp nx h g s = true then dr nx h g * X g s else 0) n

theorem count_le (x A : Int) (d : Int) : ∀ L : Nat, A ≤ x → x ≤ A + L → sumN (fun k : Nat => if x ≤ A + k then d else 0) L = d * (A + L - x)
  | 0, h1, h2 => by
    have : A + ((0 : Nat) : Int) - x = 0 := by omega
    rw [this]; simp [sumN]
  | L + 1, h1, h2 => by
    unfold sumN
    by_cases h3 : x ≤ A + L
    · rw [count_le x A d L h1 h3, if_pos h3]
      rw [show A + ((L + 1 : Nat) : Int) - x = (A + L - x) + 1 by omega, Int.mul_add, Int.mul_one]
    · rw [if_neg h3, sumN_congr (g := fun _ => 0) (fun k hk => if_neg (by omega)), sumN_zero]
      rw [show A + ((L + 1 : Nat) : Int) - x = 0 by omega]; simp

theorem Pg.level (P : Pg n nx h X V) (h0 : 0 < n) {c : Bool} (hc : ∀ e s, e < n → s % 2 = 1 → sp nx h e s = true → (nbr n nx h X e s ^^ up nx h e) = c) {s : Int} (hs : s % 2 = 1) {A : Int} {L : Nat}
    (hA : ∀ g, g < n → sp nx h g s = true → A ≤ X g s ∧ X g s ≤ A + L) : lvl n nx h X s = -((if c then 1 else -1) * ins n nx h X s A L) := by
  have fl' : ∀ k : Nat, fl n nx h X s (A + k) = if od n nx h X s (A + k) then (if c then 1 else -1) else 0 := fun k => by
    have := P.flow hc hs (fun g hg q => (hA g hg q).1) (k + 1)
    rw [show A - 1 + ((k + 1 : Nat) : Int) = A + k by omega] at this
    exact this
  have top : fl n nx h X s (A + L) = 0 := by
    rw [fl' L]
    have : od n nx h X s (A + L) = false := by
      rw [← P.closed h0 hs]
      exact par_congr fun g hg => by
        cases q : sp nx h g s with
        | false => rfl
        | true => rw [decide_eq_true (hA g hg q).2]; rfl
    rw [this]; rfl
  have e1 : lvl n nx h X s + sumN (fun k : Nat => fl n nx h X s (A + k)) L = (A + L) * fl n nx h X s (A + L) := by
    unfold lvl fl
    rw [← sumN_swap (fun g (k : Nat) => if sp nx h g s = true ∧ X g s ≤ A + k then dr nx h g else 0), ← sumN_add, ← sumN_mul]
    refine sumN_congr fun g hg => ?_
    by_cases q : sp nx h g s = true
    · obtain ⟨b1, b2⟩ := hA g hg q
      simp only [q, true_and, if_true]
      rw [count_le _ _ _ L b1 b2, if_pos b2]
      grind
    · simp only [q, false_and, if_false, Bool.false_eq_true, sumN_zero]
      simp
  rw [top, Int.mul_zero] at e1
  have e2 : sumN (fun k : Nat => fl n nx h X s (A + k)) L = (if c then 1 else -1) * ins n nx h X s A L := by
    unfold ins
    rw [← sumN_mul]
    refine sumN_congr fun k _ => ?_
    rw [fl' k]
    cases od n nx h X s (A + k) <;> simp
  omega
theorem ins_bd (s A : Int) (L : Nat) : 0 ≤ ins n nx h X s A L ∧ ins n nx h X s A L ≤ L := by
  constructor
  · have := sumN_le (f := fun _ => 0) (g := fun k : Nat => if od n nx h X s (A + k) then 1 else 0) (n := L) (fun k _ => by split <;> omega)
    rw [sumN_zero] at this
    exact this
  · have := sumN_le (f := fun k : Nat => if od n nx h X s (A + k) then 1 else 0) (g := fun _ => 1) (n := L) (fun k _ => by split <;> omega)
    rw [sumN_const] at this
    unfold ins
    omega
theorem Pg.inside (P : Pg n nx h X V) (h0 : 0 < n) {s : Int} (hs : s % 2 = 1) {A : Int} {L : Nat}
    (hA : ∀ g, g < n → sp nx h g s = true → A ≤ X g s ∧ X g s ≤ A + L) {e : Nat} (he : e < n) (se : sp nx h e s = true) : 1 ≤ ins n nx h X s A L := by
  obtain ⟨b1, b2⟩ := hA e he se
  have top : od n nx h X s (A + L) = false := by
    rw [← P.closed h0 hs]
    exact par_congr fun g hg => by
      cases q : sp nx h g s with
      | false => rfl
      | true => rw [decide_eq_true (hA g hg q).2]; rfl
  have bot : od n nx h X s (A - 1) = false := par_no fun g hg => by
    cases q : sp nx h g s with
    | false => rfl
    | true => have := (hA g hg q).1; rw [decide_eq_false (by omega)]; rfl
  have step : (od n nx h X s (X e s) ^^ od n nx h X s (X e s - 1)) = true := by
    unfold od
    rw [← par_xor]
    rw [par_congr (q := fun g => decide (g = e) && true) (fun g hg => by
      by_cases a : g = e
      · subst a
        rw [se, decide_eq_true (show X g s ≤ X g s by omega), decide_eq_false (show ¬ X g s ≤ X g s - 1 by omega)]; simp
      · cases q : sp nx h g s with
        | false => simp [a]
        | true =>
          have := P.apart hg he a hs q se
          have e2 : X g s ≤ X e s ↔ X g s ≤ X e s - 1 := by omega
          simp [a, e2])]
    rw [par_at]; simp [he]
  have pos : ∀ u : Int, A - 1 ≤ u → u ≤ A + L → od n nx h X s u = true → 1 ≤ ins n nx h X s A L := by
    intro u h1 h2 ho
    have n1 : u ≠ A - 1 := fun k => by rw [k, bot] at ho; cases ho
    have n2 : u ≠ A + L := fun k => by rw [k, top] at ho; cases ho
    refine sumN_pos (i := (u - A).toNat) (fun i _ => by split <;> omega) (by omega) ?_
    rw [show A + (((u - A).toNat : Nat) : Int) = u by omega, ho]
    simp
  cases h1 : od n nx h X s (X e s) with
  | true => exact pos _ (by omega) b2 h1
  | false =>
    rw [h1] at step
    exact pos (X e s - 1) (by omega) (by omega) (by simpa using step)
end
/-! ### affine functions -/
def inr (a b s : Int) : Prop := (a ≤ s ∧ s ≤ b) ∨ (b ≤ s ∧ s ≤ a)
def opp (x y : Int) : Prop := (0 < x ∧ y < 0) ∨ (x < 0 ∧ 0 < y)
def ss (x y : Int) : Prop := (0 < x ∧ 0 < y) ∨ (x < 0 ∧ y < 0)
def Aff (f : Int → Int) : Prop := ∀ p q r : Int, (q - p) * f r = (q - r) * f p + (r - p) * f q
theorem Aff.neg {f : Int → Int} (h : Aff f) : Aff (fun x => - f x) := fun p q r => by
  have := h p q r
  simp only [Int.mul_neg]
  omega
theorem pos_of_mul {d x : Int} (hd : 0 < d) (h : 0 < d * x) : 0 < x := by
  rcases Int.lt_or_le 0 x with a | a
  · exact a
  · have := Int.mul_nonneg (show 0 ≤ d by omega) (show 0 ≤ - x by omega)
    rw [Int.mul_neg] at this
    omega
theorem Aff.mid {f : Int → Int} (h : Aff f) {p q r : Int} (h1 : p ≤ r) (h2 : r ≤ q) (a : 0 < f p) (b : 0 < f q) : 0 < f r := by
  by_cases e : p = r
  · rw [← e]; exact a
  · have i := h p q r
    have k1 := Int.mul_nonneg (show 0 ≤ q - r by omega) (show 0 ≤ f p by omega)
    have k2 := Int.mul_pos (show 0 < r - p by omega) b
    exact pos_of_mul (show 0 < q - p by omega) (by omega)
theorem Aff.out {f : Int → Int} (h : Aff f) {p q r : Int} (h1 : r ≤ p) (h2 : p < q) (a : 0 < f p) (b : f q < 0) : 0 < f r := by
  have i := h p q r
  have k1 := Int.mul_pos (show 0 < q - r by omega) a
  have k2 := Int.mul_nonneg (show 0 ≤ p - r by omega) (show 0 ≤ - f q by omega)
  rw [Int.mul_neg, ← Int.neg_mul, Int.neg_sub] at k2
  exact pos_of_mul (show 0 < q - p by omega) (by omega)
theorem Aff.out' {f : Int → Int} (h : Aff f) {p q r : Int} (h1 : q ≤ r) (h2 : p < q) (a : 0 < f p) (b : f q < 0) : f r < 0 := by
  have i := h p q r
  have k1 := Int.mul_nonneg (show 0 ≤ r - q by omega) (show 0 ≤ f p by omega)
  have k2 := Int.mul_pos (show 0 < r - p by omega) (show 0 < - f q by omega)
  rw [Int.mul_neg] at k2
  have e : (q - r) * f p = - ((r - q) * f p) := by rw [← Int.neg_mul, Int.neg_sub]
  have := pos_of_mul (d := q - p) (x := - f r) (by omega) (by rw [Int.mul_neg]; omega)
  omega
theorem far_sorted {f : Int → Int} (h : Aff f) {a b c d : Int} (hab : a < b) (hcd : c < d) (na : inr c d a → f a ≠ 0) (nb : inr c d b → f b ≠ 0) (nc : inr a b c → f c ≠ 0) (ne : inr a b d → f d ≠ 0)
    (hx : ¬ (opp (f a) (f b) ∧ opp (f c) (f d))) {s t : Int} (s1 : inr a b s) (s2 : inr c d s) (t1 : inr a b t) (t2 : inr c d t) : ss (f s) (f t) := by
  unfold inr at *
  unfold opp at hx
  have l0 : f (max a c) ≠ 0 := by
    rcases Int.le_total a c with k | k
    · rw [Int.max_eq_right k]; exact nc (by omega)
    · rw [Int.max_eq_left k]; exact na (by omega)
  have u0 : f (min b d) ≠ 0 := by
    rcases Int.le_total b d with k | k
    · rw [Int.min_eq_left k]; exact nb (by omega)
    · rw [Int.min_eq_right k]; exact ne (by omega)
  have ls : max a c ≤ s ∧ s ≤ min b d := by omega
  have lt : max a c ≤ t ∧ t ≤ min b d := by omega
  have la : a ≤ max a c ∧ c ≤ max a c := by omega
  have lb : min b d ≤ b ∧ min b d ≤ d := by omega
  clear na nb nc ne s1 s2 t1 t2
  generalize max a c = lo at *
  generalize min b d = hi at *
  have hn := h.neg
  rcases Int.lt_or_gt_of_ne l0 with l1 | l1 <;> rcases Int.lt_or_gt_of_ne u0 with u1 | u1
  · have := hn.mid ls.1 ls.2 (by omega) (by omega)
    have := hn.mid lt.1 lt.2 (by omega) (by omega)
    exact .inr ⟨by omega, by omega⟩
  · exfalso
    have hl : lo < hi := by
      rcases Int.lt_or_eq_of_le (show lo ≤ hi by omega) with k | k
      · exact k
      · rw [k] at l1; omega
    have k1 := hn.out la.1 hl (by omega) (by omega)
    have k2 := hn.out la.2 hl (by omega) (by omega)
    have k3 := hn.out' lb.1 hl (by omega) (by omega)
    have k4 := hn.out' lb.2 hl (by omega) (by omega)
    exact hx ⟨.inr ⟨by omega, by omega⟩, .inr ⟨by omega, by omega⟩⟩
  · exfalso
    have hl : lo < hi := by
      rcases Int.lt_or_eq_of_le (show lo ≤ hi by omega) with k | k
      · exact k
      · rw [k] at l1; omega
    have k1 := h.out la.1 hl l1 u1
    have k2 := h.out la.2 hl l1 u1
    have k3 := h.out' lb.1 hl l1 u1
    have k4 := h.out' lb.2 hl l1 u1
    exact hx ⟨.inl ⟨k1, k3⟩, .inl ⟨k2, k4⟩⟩
  · exact .inl ⟨h.mid ls.1 ls.2 l1 u1, h.mid lt.1 lt.2 l1 u1⟩
theorem opp_comm {x y : Int} (h : opp x y) : opp y x := by unfold opp at *; omega
theorem inr_comm {a b s : Int} (h : inr a b s) : inr b a s := by unfold inr at *; omega
theorem farAff {f : Int → Int} (h : Aff f) {a b c d : Int} (hab : a ≠ b) (hcd : c ≠ d) (na : inr c d a → f a ≠ 0) (nb : inr c d b → f b ≠ 0) (nc : inr a b c → f c ≠ 0) (ne : inr a b d → f d ≠ 0)
    (hx : ¬ (opp (f a) (f b) ∧ opp (f c) (f d))) {s t : Int} (s1 : inr a b s) (s2 : inr c d s) (t1 : inr a b t) (t2 : inr c d t) : ss (f s) (f t) := by
  rcases Int.lt_or_gt_of_ne hab with k | k <;> rcases Int.lt_or_gt_of_ne hcd with m | m
  · exact far_sorted h k m na nb nc ne hx s1 s2 t1 t2
  · exact far_sorted h k m (fun q => na (inr_comm q)) (fun q => nb (inr_comm q)) ne nc (fun q => hx ⟨q.1, opp_comm q.2⟩) s1 (inr_comm s2) t1 (inr_comm t2)
  · exact far_sorted h k m nb na (fun q => nc (inr_comm q)) (fun q => ne (inr_comm q)) (fun q => hx ⟨opp_comm q.1, q.2⟩) (inr_comm s1) s2 (inr_comm t1) t2
  · exact far_sorted h k m (fun q => nb (inr_comm q)) (fun q => na (inr_comm q)) (fun q => ne (inr_comm q)) (fun q => nc (inr_comm q)) (fun q => hx ⟨opp_comm q.1, opp_comm q.2⟩) (inr_comm s1) (inr_comm s2) (inr_comm t1) (inr_comm t2)
/-- two edges with one corner, b: the other ends are a and d -/
theorem near {f : Int → Int} (h : Aff f) {a b d : Int} (hab : a ≠ b) (hbd : b ≠ d) (h0 : f b = 0) (na : inr b d a → f a ≠ 0) (ne : inr a b d → f d ≠ 0)
    {s t : Int} (s1 : inr a b s) (s2 : inr b d s) (t1 : inr a b t) (t2 : inr b d t) (sb : s ≠ b) (tb : t ≠ b) : ss (f s) (f t) := by
  have key : ∀ m, f m ≠ 0 → m ≠ b → (∀ r, inr a b r → inr b d r → r ≠ b → inr b m r) → ss (f s) (f t) := by
    intro m hm hmb hr
    have one : ∀ r, inr b m r → r ≠ b → ss (f r) (f m) := by
      intro r h1 h2
      have i := h b m r
      rw [h0, Int.mul_zero, Int.zero_add] at i
      unfold inr at h1
      unfold ss
      rcases Int.lt_or_gt_of_ne hmb with k | k
      · have i' : (b - m) * f r = (b - r) * f m := by
          have e1 : (b - m) * f r = - ((m - b) * f r) := by rw [← Int.neg_mul, Int.neg_sub]
          have e2 : (b - r) * f m = - ((r - b) * f m) := by rw [← Int.neg_mul, Int.neg_sub]
          omega
        rcases Int.lt_or_gt_of_ne hm with p | p
        · right
          refine ⟨?_, p⟩
          have := Int.mul_pos (show 0 < b - r by omega) (show 0 < - f m by omega)
          rw [Int.mul_neg] at this
          have := pos_of_mul (d := b - m) (x := - f r) (by omega) (by rw [Int.mul_neg]; omega)
          omega
        · left
          have := Int.mul_pos (show 0 < b - r by omega) p
          exact ⟨pos_of_mul (d := b - m) (by omega) (by omega), p⟩
      · rcases Int.lt_or_gt_of_ne hm with p | p
        · right
          refine ⟨?_, p⟩
          have := Int.mul_pos (show 0 < r - b by omega) (show 0 < - f m by omega)
          rw [Int.mul_neg] at this
          have := pos_of_mul (d := m - b) (x := - f r) (by omega) (by rw [Int.mul_neg]; omega)
          omega
        · left
          have := Int.mul_pos (show 0 < r - b by omega) p
          exact ⟨pos_of_mul (d := m - b) (by omega) (by omega), p⟩
    have q1 := one s (hr s s1 s2 sb) sb
    have q2 := one t (hr t t1 t2 tb) tb
    unfold ss at *
    omega
  by_cases c : inr b d a
  · exact key a (na c) hab (fun r h1 h2 h3 => inr_comm h1)
  · by_cases c2 : inr a b d
    · exact key d (ne c2) (fun k => hbd k.symm) (fun r h1 h2 h3 => h2)
    · exfalso
      unfold inr at *
      omega
/-! ### a simple polygon -/
section
variable (nx : Nat → Nat) (px py : Nat → Int)
def hh (i : Nat) : Int := 2 * (17179869184 * py i + px i)
def c3 (a b c : Nat) : Int := (px b - px a) * (py c - py a) - (py b - py a) * (px c - px a)
def onP (a b p : Nat) : Prop := c3 px py a b p = 0 ∧ min (px a) (px b) ≤ px p ∧ px p ≤ max (px a) (px b) ∧ min (py a) (py b) ≤ py p ∧ py p ≤ max (py a) (py b)
def ln (i : Nat) (s : Int) : Int := px i * (hh px py (nx i) - s) + px (nx i) * (s - hh px py i)
def dn (i : Nat) : Int := hh px py (nx i) - hh px py i
def sf (i j : Nat) (s : Int) : Int := ln nx px py i s * dn nx px py j - ln nx px py j s * dn nx px py i

structure Simple (n : Nat) : Prop where
  nx_lt : ∀ i, i < n → nx i < n
  nx_ne : ∀ i, i < n → nx i ≠ i
  nx_ne2 : ∀ i, i < n → nx (nx i) ≠ i
  pv : ∀ i, i < n → ∃ u, u < n ∧ nx u = i
  inj : ∀ i j, i < n → j < n → nx i = nx j → i = j
  succ : ∀ i, i + 1 < n → nx i = i + 1
  bdx : ∀ i, i < n → -1073741823 ≤ px i ∧ px i ≤ 1073741823
  bdy : ∀ i, i < n → -1073741823 ≤ py i ∧ py i ≤ 1073741823
  diff : ∀ i j, i < n → j < n → px i = px j → py i = py j → i = j
  adj : ∀ i, i < n → ¬ onP px py i (nx i) (nx (nx i)) ∧ ¬ onP px py (nx i) (nx (nx i)) i
  far : ∀ i j, i < n → j < n → i ≠ j → nx i ≠ j → nx j ≠ i → ¬ onP px py i (nx i) j ∧ ¬ onP px py i (nx i) (nx j) ∧ ¬ onP px py j (nx j) i ∧ ¬ onP px py j (nx j) (nx i) ∧
    ¬ (opp (c3 px py i (nx i) j) (c3 px py i (nx i) (nx j)) ∧ opp (c3 px py j (nx j) i) (c3 px py j (nx j) (nx i)))
end
section
variable {n : Nat} {nx : Nat → Nat} {px py : Nat → Int}

theorem sf_aff (i j : Nat) : Aff (sf nx px py i j) := by
  intro p q r
  unfold sf ln
  generalize dn nx px py i = a
  generalize dn nx px py j = b
  grind
theorem sf_0 (i j : Nat) : sf nx px py i j (hh px py j) = dn nx px py j * (34359738368 * c3 px py i (nx i) j) := by
  unfold sf ln dn c3 hh
  grind
theorem sf_1 (i j : Nat) : sf nx px py i j (hh px py (nx j)) = dn nx px py j * (34359738368 * c3 px py i (nx i) (nx j)) := by
  unfold sf ln dn c3 hh
  grind
theorem sf_swap (i j : Nat) (s : Int) : sf nx px py i j s = - sf nx px py j i s := by
  unfold sf; omega
theorem betw {p q u v : Int} (hp : p ≠ 0) (h : p * u = q * v) (hq : inr 0 p q) : inr 0 v u := by
  have pos : ∀ p q u v : Int, 0 < p → 0 ≤ q → q ≤ p → p * u = q * v → inr 0 v u := by
    intro p q u v hp h0 h1 h
    rcases Int.le_total 0 v with k | k
    · have a := Int.mul_nonneg h0 k
      have b := Int.mul_nonneg (show 0 ≤ p - q by omega) k
      left
      constructor
      · exact Int.not_lt.1 fun m => by
          have := Int.mul_pos hp (show 0 < - u by omega)
          rw [Int.mul_neg] at this; omega
      · exact Int.not_lt.1 fun m => by
          have := Int.mul_pos hp (show 0 < u - v by omega)
          rw [Int.mul_sub] at this
          rw [Int.sub_mul] at b
          omega
    · have a := Int.mul_nonneg h0 (show 0 ≤ - v by omega)
      have b := Int.mul_nonneg (show 0 ≤ p - q by omega) (show 0 ≤ - v by omega)
      rw [Int.mul_neg] at a b
      right
      constructor
      · exact Int.not_lt.1 fun m => by
          have := Int.mul_pos hp (show 0 < v - u by omega)
          rw [Int.mul_sub] at this
          rw [Int.sub_mul] at b
          omega
      · exact Int.not_lt.1 fun m => by
          have := Int.mul_pos hp m
          omega
  unfold inr at hq
  rcases Int.lt_or_gt_of_ne hp with k | k
  · exact pos (-p) (-q) u v (by omega) (by omega) (by omega) (by rw [Int.neg_mul, Int.neg_mul, h])
  · exact pos p q u v k (by omega) (by omega) h
theorem on_of {a b c : Nat} (hne : hh px py a ≠ hh px py b) (h0 : c3 px py a b c = 0) (hr : inr (hh px py a) (hh px py b) (hh px py c)) : onP px py a b c := by
  refine ⟨h0, ?_⟩
  have r : inr 0 (hh px py b - hh px py a) (hh px py c - hh px py a) := by unfold inr at *; omega
  have e1 := betw (u := px c - px a) (v := px b - px a) (show hh px py b - hh px py a ≠ 0 by omega) (by unfold hh; unfold c3 at h0; grind) r
  have e2 := betw (u := py c - py a) (v := py b - py a) (show hh px py b - hh px py a ≠ 0 by omega) (by unfold hh; unfold c3 at h0; grind) r
  clear r hr h0
  unfold inr at e1 e2
  omega
theorem opp_of_mul {k x y : Int} (h : opp (k * x) (k * y)) : opp x y := by
  have pos : ∀ x y k : Int, 0 < k * x → k * y < 0 → opp x y := by
    intro x y k h1 h2
    rcases Int.lt_trichotomy k 0 with a | a | a
    · have b1 := pos_of_mul (d := -k) (x := -x) (by omega) (by rw [Int.neg_mul_neg]; exact h1)
      have b2 := pos_of_mul (d := -k) (x := y) (by omega) (by rw [Int.neg_mul]; omega)
      exact .inr ⟨by omega, b2⟩
    · subst a; simp at h1
    · have b1 := pos_of_mul a h1
      have b2 := pos_of_mul (x := -y) a (by rw [Int.mul_neg]; omega)
      exact .inl ⟨b1, by omega⟩
  rcases h with ⟨h1, h2⟩ | ⟨h1, h2⟩
  · exact pos x y k h1 h2
  · exact opp_comm (pos y x k h2 h1)

theorem Simple.hd (S : Simple nx px py n) {i j : Nat} (hi : i < n) (hj : j < n) (h : hh px py i = hh px py j) : i = j := by
  obtain ⟨a1, a2⟩ := S.bdx i hi
  obtain ⟨b1, b2⟩ := S.bdx j hj
  unfold hh at h
  exact S.diff i j hi hj (by omega) (by omega)
theorem Simple.hne (S : Simple nx px py n) {i : Nat} (hi : i < n) : hh px py i ≠ hh px py (nx i) := fun k => S.nx_ne i hi (S.hd hi (S.nx_lt i hi) k).symm
theorem Simple.dn0 (S : Simple nx px py n) {i : Nat} (hi : i < n) : dn nx px py i ≠ 0 := by
  have := S.hne hi
  unfold dn
  omega
theorem nz {a b : Int} (ha : a ≠ 0) (hb : b ≠ 0) : a * (34359738368 * b) ≠ 0 := Int.mul_ne_zero ha (Int.mul_ne_zero (by omega) hb)

theorem Simple.adjS (S : Simple nx px py n) {i j : Nat} (hi : i < n) (hij : nx i = j) {s t : Int} (s1 : cl nx (hh px py) i s) (t1 : cl nx (hh px py) i t) (s2 : cl nx (hh px py) j s) (t2 : cl nx (hh px py) j t)
    (h1 : ¬ (nd nx (hh px py) i s ∧ nd nx (hh px py) j s)) (h2 : ¬ (nd nx (hh px py) i t ∧ nd nx (hh px py) j t)) : ss (sf nx px py i j s) (sf nx px py i j t) := by
  subst hij
  have hj := S.nx_lt i hi
  obtain ⟨o1, o2⟩ := S.adj i hi
  refine near (a := hh px py i) (b := hh px py (nx i)) (d := hh px py (nx (nx i))) (sf_aff i (nx i)) (S.hne hi) (S.hne hj) ?_ ?_ ?_ s1 s2 t1 t2 ?_ ?_
  · rw [sf_0]
    have : c3 px py i (nx i) (nx i) = 0 := by unfold c3; rw [Int.mul_comm]; omega
    rw [this]; simp
  · intro hr
    rw [sf_swap, sf_0]
    have : c3 px py (nx i) (nx (nx i)) i ≠ 0 := fun k => o2 (on_of (S.hne hj) k hr)
    have := nz (S.dn0 hi) this
    omega
  · intro hr
    rw [sf_1]
    have : c3 px py i (nx i) (nx (nx i)) ≠ 0 := fun k => o1 (on_of (S.hne hi) k hr)
    exact nz (S.dn0 hj) this
  · intro k; exact h1 ⟨.inr k, .inl k⟩
  · intro k; exact h2 ⟨.inr k, .inl k⟩
theorem Simple.ordS (S : Simple nx px py n) {i j : Nat} (hi : i < n) (hj : j < n) (hij : i ≠ j) {s t : Int} (s1 : cl nx (hh px py) i s) (t1 : cl nx (hh px py) i t) (s2 : cl nx (hh px py) j s) (t2 : cl nx (hh px py) j t)
    (h1 : ¬ (nd nx (hh px py) i s ∧ nd nx (hh px py) j s)) (h2 : ¬ (nd nx (hh px py) i t ∧ nd nx (hh px py) j t)) : ss (sf nx px py i j s) (sf nx px py i j t) := by
  by_cases a : nx i = j
  · exact S.adjS hi a s1 t1 s2 t2 h1 h2
  · by_cases b : nx j = i
    · have := S.adjS hj b s2 t2 s1 t1 (fun k => h1 ⟨k.2, k.1⟩) (fun k => h2 ⟨k.2, k.1⟩)
      rw [sf_swap i j s, sf_swap i j t]
      unfold ss at *
      omega
    · obtain ⟨o1, o2, o3, o4, o5⟩ := S.far i j hi hj hij a b
      have f0 : sf nx px py i j (hh px py i) = - (dn nx px py i * (34359738368 * c3 px py j (nx j) i)) := by rw [sf_swap, sf_0]
      have f1 : sf nx px py i j (hh px py (nx i)) = - (dn nx px py i * (34359738368 * c3 px py j (nx j) (nx i))) := by rw [sf_swap, sf_1]
      refine farAff (sf_aff i j) (S.hne hi) (S.hne hj) ?_ ?_ ?_ ?_ ?_ s1 s2 t1 t2
      · intro hr
        rw [f0]
        have := nz (S.dn0 hi) (fun k => o3 (on_of (S.hne hj) k hr))
        omega
      · intro hr
        rw [f1]
        have := nz (S.dn0 hi) (fun k => o4 (on_of (S.hne hj) k hr))
        omega
      · intro hr
        rw [sf_0]
        exact nz (S.dn0 hj) (fun k => o1 (on_of (S.hne hi) k hr))
      · intro hr
        rw [sf_1]
        exact nz (S.dn0 hj) (fun k => o2 (on_of (S.hne hi) k hr))
      · rintro ⟨k1, k2⟩
        rw [f0, f1] at k1
        rw [sf_0, sf_1] at k2
        have k1' : opp (dn nx px py i * (34359738368 * c3 px py j (nx j) i)) (dn nx px py i * (34359738368 * c3 px py j (nx j) (nx i))) := by unfold opp at *; omega
        exact o5 ⟨opp_of_mul (opp_of_mul k2), opp_of_mul (opp_of_mul k1')⟩

theorem common (f : Nat → Int) : ∀ n : Nat, (∀ i, i < n → f i ≠ 0) → ∃ D : Int, 0 < D ∧ ∀ i, i < n → ∃ q, f i * q = D
  | 0, _ => ⟨1, by omega, fun i hi => absurd hi (Nat.not_lt_zero _)⟩
  | n + 1, h => by
    obtain ⟨D, hD, hq⟩ := common f n (fun i hi => h i (by omega))
    have hn := h n (by omega)
    refine ⟨D * (f n * f n), Int.mul_pos hD ?_, fun i hi => ?_⟩
    · rcases Int.lt_or_gt_of_ne hn with k | k
      · exact Int.mul_pos_of_neg_of_neg k k
      · exact Int.mul_pos k k
    · rcases Nat.lt_succ_iff_lt_or_eq.1 hi with k | k
      · obtain ⟨q, e⟩ := hq i k
        exact ⟨q * (f n * f n), by rw [← Int.mul_assoc, e]⟩
      · subst k
        exact ⟨D * f i, by grind⟩
theorem ss_of {a a' b b' k D : Int} (hk : k ≠ 0) (hD : 0 < D) (h1 : a * k = D * b) (h2 : a' * k = D * b') (h : ss b b') : ss a a' := by
  have one : ∀ a b : Int, a * k = D * b → 0 < b → (0 < k ∧ 0 < a) ∨ (k < 0 ∧ a < 0) := by
    intro a b h hb
    have p := Int.mul_pos hD hb
    rcases Int.lt_or_gt_of_ne hk with c | c
    · right
      have := pos_of_mul (d := -k) (x := -a) (by omega) (by rw [Int.neg_mul_neg, Int.mul_comm]; omega)
      exact ⟨c, by omega⟩
    · left
      exact ⟨c, pos_of_mul c (by rw [Int.mul_comm]; omega)⟩
  rcases h with ⟨p, q⟩ | ⟨p, q⟩
  · have := one a b h1 p
    have := one a' b' h2 q
    unfold ss; omega
  · have := one (-a) (-b) (by rw [Int.neg_mul, Int.mul_neg, h1]) (by omega)
    have := one (-a') (-b') (by rw [Int.neg_mul, Int.mul_neg, h2]) (by omega)
    unfold ss; omega
theorem Simple.pg (S : Simple nx px py n) {D : Int} (hD : 0 < D) {q : Nat → Int} (hq : ∀ i, i < n → dn nx px py i * q i = D) :
    Pg n nx (hh px py) (fun i s => ln nx px py i s * q i) (fun i => D * px i) where
  nx_lt := S.nx_lt
  nx_ne := S.nx_ne
  pv := S.pv
  inj := S.inj
  succ := S.succ
  even := fun i _ => by unfold hh; omega
  dist := fun i j hi hj h => S.hd hi hj h
  at0 := fun i hi => by
    have := hq i hi
    have e : ln nx px py i (hh px py i) = px i * dn nx px py i := by unfold ln dn; simp
    rw [e, Int.mul_assoc, this, Int.mul_comm]
  at1 := fun i hi => by
    have := hq i hi
    have e : ln nx px py i (hh px py (nx i)) = px (nx i) * dn nx px py i := by unfold ln dn; simp
    rw [e, Int.mul_assoc, this, Int.mul_comm]
  ord := fun i j hi hj hij s t s1 t1 s2 t2 h1 h2 => by
    have qi := hq i hi
    have qj := hq j hj
    have key : ∀ r, (ln nx px py i r * q i - ln nx px py j r * q j) * (dn nx px py i * dn nx px py j) = D * sf nx px py i j r := fun r => by
      unfold sf
      generalize ln nx px py i r = x
      generalize ln nx px py j r = y
      generalize dn nx px py i = u at *
      generalize dn nx px py j = v at *
      grind
    have := ss_of (Int.mul_ne_zero (S.dn0 hi) (S.dn0 hj)) hD (key s) (key t) (S.ordS hi hj hij s1 t1 s2 t2 h1 h2)
    unfold ss at this
    omega
theorem Simple.bound (S : Simple nx px py n) {D : Int} (hD : 0 < D) {q : Nat → Int} (hq : ∀ i, i < n → dn nx px py i * q i = D) {i : Nat} (hi : i < n) {s : Int} (hs : sp nx (hh px py) i s = true) :
    -1073741823 * D ≤ ln nx px py i s * q i ∧ ln nx px py i s * q i ≤ 1073741823 * D := by
  rw [sp_iff] at hs
  obtain ⟨a1, a2⟩ := S.bdx i hi
  obtain ⟨b1, b2⟩ := S.bdx _ (S.nx_lt i hi)
  have qi := hq i hi
  have n0 := S.dn0 hi
  have up : ∀ p r u v d k : Int, d * k = D → 0 < d → u + v = d → 0 ≤ u → 0 ≤ v → p ≤ 1073741823 → r ≤ 1073741823 → (p * u + r * v) * k ≤ 1073741823 * D := by
    intro p r u v d k h1 h2 h3 h4 h5 h6 h7
    have hk : 0 < k := pos_of_mul h2 (by omega)
    have w1 := Int.mul_nonneg (show 0 ≤ 1073741823 - p by omega) h4
    have w2 := Int.mul_nonneg (show 0 ≤ 1073741823 - r by omega) h5
    have w3 := Int.mul_nonneg (Int.add_nonneg w1 w2) (show 0 ≤ k by omega)
    have e : ((1073741823 - p) * u + (1073741823 - r) * v) * k = 1073741823 * D - (p * u + r * v) * k := by
      subst h1
      subst h3
      grind
    omega
  unfold ln
  unfold dn at qi
  rcases hs with ⟨c1, c2⟩ | ⟨c1, c2⟩
  · have k1 := up (px i) (px (nx i)) (hh px py (nx i) - s) (s - hh px py i) _ (q i) qi (by omega) (by omega) (by omega) (by omega) a2 b2
    have k2 := up (- px i) (- px (nx i)) (hh px py (nx i) - s) (s - hh px py i) _ (q i) qi (by omega) (by omega) (by omega) (by omega) (by omega) (by omega)
    have e : (- px i * (hh px py (nx i) - s) + - px (nx i) * (s - hh px py i)) * q i = - ((px i * (hh px py (nx i) - s) + px (nx i) * (s - hh px py i)) * q i) := by grind
    omega
  · have qi' : (hh px py i - hh px py (nx i)) * (- q i) = D := by rw [← qi]; grind
    have k1 := up (px i) (px (nx i)) (s - hh px py (nx i)) (hh px py i - s) _ (- q i) qi' (by omega) (by omega) (by omega) (by omega) a2 b2
    have k2 := up (- px i) (- px (nx i)) (s - hh px py (nx i)) (hh px py i - s) _ (- q i) qi' (by omega) (by omega) (by omega) (by omega) (by omega) (by omega)
    have e1 : (px i * (s - hh px py (nx i)) + px (nx i) * (hh px py i - s)) * (- q i) = (px i * (hh px py (nx i) - s) + px (nx i) * (s - hh px py i)) * q i := by grind
    have e2 : (- px i * (s - hh px py (nx i)) + - px (nx i) * (hh px py i - s)) * (- q i) = - ((px i * (hh px py (nx i) - s) + px (nx i) * (s - hh px py i)) * q i) := by grind
    omega

/-! ### the area -/
theorem sum_slice (f : Nat → Int) {k0 k1 : Nat} (h01 : k0 ≤ k1) : ∀ M : Nat, k1 ≤ M → sumN (fun k => if k0 ≤ k ∧ k < k1 then f k else 0) M = sumN (fun j => f (k0 + j)) (k1 - k0)
  | 0, h => by
    have : k1 - k0 = 0 := by omega
    rw [this]; rfl
  | M + 1, h => by
    by_cases a : k1 ≤ M
    · unfold sumN
      rw [sum_slice f h01 M a, if_neg (by omega)]
      cases hk : k1 - k0 with
      | zero => rfl
      | succ m => simp only [sumN]; omega
    · have e : k1 = M + 1 := by omega
      subst e
      have all : ∀ m, sumN (fun k => if k0 ≤ k ∧ k < M + 1 then f k else 0) m = if m ≤ k0 then 0 else if m ≤ M + 1 then sumN (fun j => f (k0 + j)) (m - k0) else sumN (fun k => if k0 ≤ k ∧ k < M + 1 then f k else 0) m := by
        intro m
        induction m with
        | zero => rw [if_pos (by omega)]; rfl
        | succ m ih =>
          by_cases b : m + 1 ≤ k0
          · rw [if_pos b]
            unfold sumN
            rw [ih, if_pos (by omega), if_neg (by omega)]; rfl
          · rw [if_neg b]
            by_cases c : m + 1 ≤ M + 1
            · rw [if_pos c]
              unfold sumN
              rw [ih]
              by_cases d : m ≤ k0
              · rw [if_pos d, if_pos (by omega)]
                obtain rfl : m = k0 := by omega
                rw [show m + 1 - m = 0 + 1 by omega]
                simp only [sumN, Nat.add_zero]
              · rw [if_neg d, if_pos (by omega), if_pos (by omega), show m + 1 - k0 = (m - k0) + 1 by omega]
                simp only [show k0 + (m - k0) = m by omega]
            · rw [if_neg c]
      rw [all (M + 1)]
      by_cases b : M + 1 ≤ k0
      · rw [if_pos b, show M + 1 - k0 = 0 by omega]; rfl
      · rw [if_neg b, if_pos (Nat.le_refl _)]
theorem sum_arith (x y w q : Int) : ∀ k : Nat, sumN (fun j => (x * (w - (2 * (j : Int) + 1)) + y * (2 * (j : Int) + 1)) * q) k = (x * ((k : Int) * w - (k : Int) * k) + y * ((k : Int) * k)) * q
  | 0 => by simp [sumN]
  | k + 1 => by
    unfold sumN
    rw [sum_arith x y w q k]
    have : ((k + 1 : Nat) : Int) = (k : Int) + 1 := by omega
    rw [this]
    grind
theorem Simple.line (S : Simple nx px py n) {D : Int} {q : Nat → Int} (hq : ∀ i, i < n → dn nx px py i * q i = D) {M : Nat} (hM : (M : Int) = 36893488115206848510) {g : Nat} (hg : g < n) :
    4 * sumN (fun k : Nat => if sp nx (hh px py) g (2 * k + 1 - M) = true then dr nx (hh px py) g * (ln nx px py g (2 * k + 1 - M) * q g) else 0) M = D * (dn nx px py g * (px g + px (nx g))) := by
  obtain ⟨a1, a2⟩ := S.bdx g hg
  obtain ⟨b1, b2⟩ := S.bdx _ (S.nx_lt g hg)
  obtain ⟨a3, a4⟩ := S.bdy g hg
  obtain ⟨b3, b4⟩ := S.bdy _ (S.nx_lt g hg)
  have qi := hq g hg
  have n0 := S.dn0 hg
  have ha : -M ≤ hh px py g ∧ hh px py g ≤ M := by unfold hh; omega
  have hb : -M ≤ hh px py (nx g) ∧ hh px py (nx g) ≤ M := by unfold hh; omega
  have ea : ∃ a : Int, hh px py g = 2 * a := ⟨_, rfl⟩
  have eb : ∃ b : Int, hh px py (nx g) = 2 * b := ⟨_, rfl⟩
  obtain ⟨a, ea⟩ := ea
  obtain ⟨b, eb⟩ := eb
  unfold dn at *
  unfold ln dr up sp
  rw [ea] at ha n0 qi ⊢
  rw [eb] at hb n0 qi ⊢
  clear a1 a2 a3 a4 b1 b2 b3 b4 hq ea eb
  generalize px g = x at *
  generalize px (nx g) = y at *
  generalize q g = k at *
  by_cases c : 2 * a < 2 * b
  · obtain ⟨k0, h0⟩ : ∃ k0 : Nat, (2 * (k0 : Int)) = 2 * a + M := ⟨((2 * a + M) / 2).toNat, by omega⟩
    obtain ⟨k1, h1⟩ : ∃ k1 : Nat, (2 * (k1 : Int)) = 2 * b + M := ⟨((2 * b + M) / 2).toNat, by omega⟩
    have e : sumN (fun k_1 : Nat => if decide ((2 * a < 2 * (k_1 : Int) + 1 - M ∧ 2 * (k_1 : Int) + 1 - M < 2 * b) ∨ (2 * b < 2 * (k_1 : Int) + 1 - M ∧ 2 * (k_1 : Int) + 1 - M < 2 * a)) = true then (if decide (2 * a < 2 * b) = true then 1 else -1) * ((x * (2 * b - (2 * (k_1 : Int) + 1 - M)) + y * (2 * (k_1 : Int) + 1 - M - 2 * a)) * k) else 0) M
        = sumN (fun k_1 : Nat => if k0 ≤ k_1 ∧ k_1 < k1 then (x * (2 * b - (2 * (k_1 : Int) + 1 - M)) + y * (2 * (k_1 : Int) + 1 - M - 2 * a)) * k else 0) M := sumN_congr fun i hi => by
      rw [decide_eq_true c]
      have : ((2 * a < 2 * (i : Int) + 1 - M ∧ 2 * (i : Int) + 1 - M < 2 * b) ∨ (2 * b < 2 * (i : Int) + 1 - M ∧ 2 * (i : Int) + 1 - M < 2 * a)) ↔ (k0 ≤ i ∧ i < k1) := by omega
      simp only [decide_eq_true_eq, this, if_true, Int.one_mul]
    rw [e, sum_slice _ (by omega) M (by omega)]
    have e2 : sumN (fun j : Nat => (x * (2 * b - (2 * ((k0 + j : Nat) : Int) + 1 - M)) + y * (2 * ((k0 + j : Nat) : Int) + 1 - M - 2 * a)) * k) (k1 - k0) = sumN (fun j : Nat => (x * ((2 * b - 2 * a) - (2 * (j : Int) + 1)) + y * (2 * (j : Int) + 1)) * k) (k1 - k0) := sumN_congr fun j hj => by
      rw [show 2 * b - (2 * ((k0 + j : Nat) : Int) + 1 - M) = (2 * b - 2 * a) - (2 * (j : Int) + 1) by omega, show 2 * ((k0 + j : Nat) : Int) + 1 - M - 2 * a = 2 * (j : Int) + 1 by omega]
    rw [e2, sum_arith]
    have e3 : ((k1 - k0 : Nat) : Int) = b - a := by omega
    rw [e3, ← qi]
    grind
  · obtain ⟨k0, h0⟩ : ∃ k0 : Nat, (2 * (k0 : Int)) = 2 * b + M := ⟨((2 * b + M) / 2).toNat, by omega⟩
    obtain ⟨k1, h1⟩ : ∃ k1 : Nat, (2 * (k1 : Int)) = 2 * a + M := ⟨((2 * a + M) / 2).toNat, by omega⟩
    have e : sumN (fun k_1 : Nat => if decide ((2 * a < 2 * (k_1 : Int) + 1 - M ∧ 2 * (k_1 : Int) + 1 - M < 2 * b) ∨ (2 * b < 2 * (k_1 : Int) + 1 - M ∧ 2 * (k_1 : Int) + 1 - M < 2 * a)) = true then (if decide (2 * a < 2 * b) = true then 1 else -1) * ((x * (2 * b - (2 * (k_1 : Int) + 1 - M)) + y * (2 * (k_1 : Int) + 1 - M - 2 * a)) * k) else 0) M
        = sumN (fun k_1 : Nat => if k0 ≤ k_1 ∧ k_1 < k1 then -((x * (2 * b - (2 * (k_1 : Int) + 1 - M)) + y * (2 * (k_1 : Int) + 1 - M - 2 * a)) * k) else 0) M := sumN_congr fun i hi => by
      rw [decide_eq_false c]
      have : ((2 * a < 2 * (i : Int) + 1 - M ∧ 2 * (i : Int) + 1 - M < 2 * b) ∨ (2 * b < 2 * (i : Int) + 1 - M ∧ 2 * (i : Int) + 1 - M < 2 * a)) ↔ (k0 ≤ i ∧ i < k1) := by omega
      simp only [decide_eq_true_eq, this, if_false, Bool.false_eq_true, Int.neg_mul, Int.one_mul]
    rw [e, sum_slice _ (by omega) M (by omega)]
    have e2 : sumN (fun j : Nat => -((x * (2 * b - (2 * ((k0 + j : Nat) : Int) + 1 - M)) + y * (2 * ((k0 + j : Nat) : Int) + 1 - M - 2 * a)) * k)) (k1 - k0) = sumN (fun j : Nat => (y * ((2 * a - 2 * b) - (2 * (j : Int) + 1)) + x * (2 * (j : Int) + 1)) * k) (k1 - k0) := sumN_congr fun j hj => by
      rw [show 2 * b - (2 * ((k0 + j : Nat) : Int) + 1 - M) = - (2 * (j : Int) + 1) by omega, show 2 * ((k0 + j : Nat) : Int) + 1 - M - 2 * a = - ((2 * a - 2 * b) - (2 * (j : Int) + 1)) by omega]
      grind
    rw [e2, sum_arith]
    have e3 : ((k1 - k0 : Nat) : Int) = a - b := by omega
    rw [e3, ← qi]
    grind
theorem sum_shift (f : Nat → Int) : ∀ m : Nat, sumN (fun g => f (g + 1)) m + f 0 = sumN f (m + 1)
  | 0 => by simp [sumN]
  | m + 1 => by
    rw [show sumN (fun g => f (g + 1)) (m + 1) = sumN (fun g => f (g + 1)) m + f (m + 1) from rfl]
    rw [show sumN f (m + 1 + 1) = sumN f (m + 1) + f (m + 1) from rfl, ← sum_shift f m]
    omega
theorem Simple.cyc (S : Simple nx px py n) (h0 : 0 < n) (f : Nat → Int) : sumN (fun g => f (nx g)) n = sumN f n := by
  have last : nx (n - 1) = 0 := by
    obtain ⟨u, hu, e⟩ := S.pv 0 h0
    by_cases a : u = n - 1
    · rw [← a, e]
    · have := S.succ u (by omega); omega
  obtain ⟨m, rfl⟩ : ∃ m, n = m + 1 := ⟨n - 1, by omega⟩
  rw [← sum_shift f m]
  rw [show m + 1 - 1 = m by omega] at last
  rw [show sumN (fun g => f (nx g)) (m + 1) = sumN (fun g => f (nx g)) m + f (nx m) from rfl, last]
  rw [sumN_congr (f := fun g => f (nx g)) (g := fun g => f (g + 1)) (fun g hg => by rw [S.succ g (by omega)])]
/-- twice the area -/
def area2 (nx : Nat → Nat) (px py : Nat → Int) (n : Nat) : Int := sumN (fun g => px g * py (nx g) - py g * px (nx g)) n
theorem Simple.shear (S : Simple nx px py n) (h0 : 0 < n) : sumN (fun g => dn nx px py g * (px g + px (nx g))) n = 34359738368 * area2 nx px py n := by
  have e1 := S.cyc h0 (fun g => 34359738368 * (px g * py g) + 2 * (px g * px g))
  have e2 : sumN (fun g => dn nx px py g * (px g + px (nx g)) + (34359738368 * (px g * py g) + 2 * (px g * px g))) n = sumN (fun g => 34359738368 * (px g * py (nx g) - py g * px (nx g)) + (34359738368 * (px (nx g) * py (nx g)) + 2 * (px (nx g) * px (nx g)))) n := sumN_congr fun g _ => by
    unfold dn hh
    grind
  rw [sumN_add, sumN_add (fun g => 34359738368 * (px g * py (nx g) - py g * px (nx g))), sumN_mul] at e2
  unfold area2
  omega
theorem Simple.area (S : Simple nx px py n) (h0 : 0 < n) : area2 nx px py n ≠ 0 ∧ -9223372036854775808 < area2 nx px py n ∧ area2 nx px py n < 9223372036854775808 := by
  obtain ⟨D, hD, hq0⟩ := common (dn nx px py) n (fun i hi => S.dn0 hi)
  have hq : ∀ i, i < n → dn nx px py i * (D / dn nx px py i) = D := fun i hi => by
    obtain ⟨k, hk⟩ := hq0 i hi
    rw [← hk, Int.mul_ediv_cancel_left _ (S.dn0 hi)]
  obtain ⟨M, hM⟩ : ∃ M : Nat, (M : Int) = 36893488115206848510 := ⟨36893488115206848510, rfl⟩
  have P := S.pg hD (q := fun i => D / dn nx px py i) hq
  obtain ⟨c, hc⟩ := P.side h0
  obtain ⟨L, hL⟩ : ∃ L : Nat, (L : Int) = 2147483646 * D := ⟨(2147483646 * D).toNat, by omega⟩
  have bd : ∀ s : Int, ∀ g, g < n → sp nx (hh px py) g s = true → -1073741823 * D ≤ ln nx px py g s * (D / dn nx px py g) ∧ ln nx px py g s * (D / dn nx px py g) ≤ -1073741823 * D + L := fun s g hg hs => by
    have := S.bound hD (q := fun i => D / dn nx px py i) hq hg hs
    omega
  have tot : sumN (fun k : Nat => lvl n nx (hh px py) (fun i s => ln nx px py i s * (D / dn nx px py i)) (2 * k + 1 - M)) M * 4 = D * (34359738368 * area2 nx px py n) := by
    unfold lvl
    rw [sumN_swap, ← S.shear h0, Int.mul_comm, ← sumN_mul, ← sumN_mul]
    exact sumN_congr fun g hg => S.line (q := fun i => D / dn nx px py i) hq hM hg
  have each : sumN (fun k : Nat => lvl n nx (hh px py) (fun i s => ln nx px py i s * (D / dn nx px py i)) (2 * k + 1 - M)) M = -(if c then 1 else -1) * sumN (fun k : Nat => ins n nx (hh px py) (fun i s => ln nx px py i s * (D / dn nx px py i)) (2 * k + 1 - M) (-1073741823 * D) L) M := by
    rw [← sumN_mul]
    refine sumN_congr fun k _ => ?_
    rw [P.level h0 hc (show (2 * (k : Int) + 1 - M) % 2 = 1 by omega) (bd _)]
    exact (Int.neg_mul _ _).symm
  have low : 1 ≤ sumN (fun k : Nat => ins n nx (hh px py) (fun i s => ln nx px py i s * (D / dn nx px py i)) (2 * k + 1 - M) (-1073741823 * D) L) M := by
    obtain ⟨a1, a2⟩ := S.bdx 0 h0
    obtain ⟨b1, b2⟩ := S.bdx _ (S.nx_lt 0 h0)
    obtain ⟨a3, a4⟩ := S.bdy 0 h0
    obtain ⟨b3, b4⟩ := S.bdy _ (S.nx_lt 0 h0)
    have ha : -M ≤ hh px py 0 ∧ hh px py 0 ≤ M := by unfold hh; omega
    have hb : -M ≤ hh px py (nx 0) ∧ hh px py (nx 0) ≤ M := by unfold hh; omega
    have e1 := P.even 0 h0
    have e2 := P.even _ (S.nx_lt 0 h0)
    have hne := S.hne h0
    have : ∃ k : Nat, k < M ∧ sp nx (hh px py) 0 (2 * k + 1 - M) = true := by
      by_cases d : hh px py 0 < hh px py (nx 0)
      · exact ⟨((hh px py 0 + M) / 2).toNat, by omega, by rw [sp_iff]; omega⟩
      · exact ⟨((hh px py (nx 0) + M) / 2).toNat, by omega, by rw [sp_iff]; omega⟩
    obtain ⟨k, hk, hsp⟩ := this
    exact sumN_pos (fun i _ => (ins_bd _ _ _).1) hk (P.inside h0 (by omega) (bd _) h0 hsp)
  have high : sumN (fun k : Nat => ins n nx (hh px py) (fun i s => ln nx px py i s * (D / dn nx px py i)) (2 * k + 1 - M) (-1073741823 * D) L) M ≤ M * L := by
    rw [← sumN_const]
    exact sumN_le fun i _ => (ins_bd _ _ _).2
  rw [each] at tot
  generalize sumN (fun k : Nat => ins n nx (hh px py) (fun i s => ln nx px py i s * (D / dn nx px py i)) (2 * k + 1 - M) (-1073741823 * D) L) M = T at *
  generalize area2 nx px py n = Z at *
  have hT : T ≤ D * (2147483646 * 36893488115206848510) := by
    rw [hM, hL] at high
    have e : (36893488115206848510 : Int) * (2147483646 * D) = D * (2147483646 * 36893488115206848510) := by grind
    omega
  clear each high hM hL bd P hc S hq0 hq h0
  have fin : ∀ Y : Int, 4 * T = D * (34359738368 * Y) → 0 < Y ∧ Y < 9223372036854775808 := by
    intro Y h
    have y0 : 0 < Y := by
      have := pos_of_mul hD (x := 34359738368 * Y) (by omega)
      omega
    refine ⟨y0, Int.not_le.1 fun hle => ?_⟩
    have : D * (4 * (2147483646 * 36893488115206848510)) < D * (34359738368 * Y) := Int.mul_lt_mul_of_pos_left (by omega) hD
    have e : D * (4 * (2147483646 * 36893488115206848510)) = 4 * (D * (2147483646 * 36893488115206848510)) := by grind
    omega
  cases c with
  | true =>
    have := fin (-Z) (by simp at tot; rw [Int.mul_neg, Int.mul_neg]; omega)
    omega
  | false =>
    have := fin Z (by simp at tot; omega)
    omega
end
end Go.Proofs.YthcfekabeidmiaaRRDoorR.Jord
