/- pergolalaw7.made: the error that a node stands for. -/
import Derived.Test.YthijffpackkcnaaNd
import Derived.Test.YthijffpackkcnaaApp
import Derived.Deep.RegionHeld3
import Derived.OneCell
namespace Go.Proofs.Ythijffpackkcnaa
open Go.RowKit

/-! ### an error, and in which blocks it lies -/
def RdOn (S : Nat → Prop) (w : World) (v : Value) (n : Nat) (xs : List Value) : Prop :=
  ∃ ao c, v = .slice ao n c ∧ n ≤ c ∧ c ≤ maxLen ∧ (ao = none → c = 0) ∧
    ∀ i (h : i < xs.length), ∃ b off, ao = some ⟨b, off, none⟩ ∧ S b ∧ b < w.heap.size ∧ w.cell? ⟨b, off + i, none⟩ = some xs[i]
theorem RdOn.rd {S : Nat → Prop} {w : World} {v : Value} {n : Nat} {xs : List Value} (h : RdOn S w v n xs) : Rd w v n xs := by
  obtain ⟨ao, c, h1, h2, h3, h4, h5⟩ := h
  refine ⟨ao, c, h1, h2, h3, h4, fun i hi => ?_⟩
  obtain ⟨b, off, e, _, r⟩ := h5 i hi
  exact ⟨b, off, e, r⟩
/-- what lies in these blocks stays -/
structure SameOn (S : Nat → Prop) (w w' : World) : Prop where
  size : w.heap.size ≤ w'.heap.size
  cell : ∀ b, S b → b < w.heap.size → ∀ off, w'.cell? ⟨b, off, none⟩ = w.cell? ⟨b, off, none⟩
theorem RdOn.same {S T : Nat → Prop} {w w' : World} {v : Value} {n : Nat} {xs : List Value} (h : RdOn S w v n xs) (hs : SameOn S w w') (hT : ∀ b, S b → b < w.heap.size → T b) : RdOn T w' v n xs := by
  obtain ⟨ao, c, h1, h2, h3, h4, h5⟩ := h
  refine ⟨ao, c, h1, h2, h3, h4, fun i hi => ?_⟩
  obtain ⟨b, off, e, r1, r2, r3⟩ := h5 i hi
  exact ⟨b, off, e, hT b r1 r2, Nat.lt_of_lt_of_le r2 hs.size, (hs.cell b r1 r2 _).trans r3⟩

mutual
def En.On (S : Nat → Prop) (w : World) : En → Value → Prop
  | .none, v => v = .nilIface
  | .num k, v => v = .iface 32 (.int .i64 k)
  | .fault op id e, v => ∃ b u, v = .iface 41 (.pointer (some ⟨b, 0, Option.none⟩)) ∧ S b ∧ b < w.heap.size ∧ w.cell? ⟨b, 0, Option.none⟩ = some (.string op) ∧ w.cell? ⟨b, 1, Option.none⟩ = some (.int .i64 id) ∧ w.cell? ⟨b, 2, Option.none⟩ = some u ∧ e.On S w u
  | .many j l, v => ∃ b s vs, v = .iface (manyT j) (.pointer (some ⟨b, 0, Option.none⟩)) ∧ S b ∧ b < w.heap.size ∧ w.cell? ⟨b, 0, Option.none⟩ = some s ∧ RdOn S w s l.length vs ∧ EnsOn S w l vs
  | .plain s, v => ∃ b, v = .iface 34 (.pointer (some ⟨b, 0, Option.none⟩)) ∧ S b ∧ b < w.heap.size ∧ w.cell? ⟨b, 0, Option.none⟩ = some (.string s)
  | .nilf, v => v = .iface 41 (.pointer Option.none)
  | .cover e, v => ∃ b u, v = .iface 59 (.pointer (some ⟨b, 0, Option.none⟩)) ∧ S b ∧ b < w.heap.size ∧ w.cell? ⟨b, 0, Option.none⟩ = some u ∧ e.On S w u
def EnsOn (S : Nat → Prop) (w : World) : List En → List Value → Prop
  | [], vs => vs = []
  | e :: l, vs => ∃ v vs', vs = v :: vs' ∧ e.On S w v ∧ EnsOn S w l vs'
end
mutual
theorem En.On.is {S : Nat → Prop} {w : World} : ∀ {e : En} {v : Value}, e.On S w v → e.Is w v
  | .none, _, h => h
  | .num _, _, h => h
  | .fault _ _ _, _, ⟨b, u, h1, _, h2, h3, h4, h5, h6⟩ => ⟨b, u, h1, h2, h3, h4, h5, En.On.is h6⟩
  | .many _ _, _, ⟨b, s, vs, h1, _, h2, h3, h4, h5⟩ => ⟨b, s, vs, h1, h2, h3, h4.rd, EnsOn.is h5⟩
  | .plain _, _, ⟨b, h1, _, h2, h3⟩ => ⟨b, h1, h2, h3⟩
  | .nilf, _, h => h
  | .cover _, _, ⟨b, u, h1, _, h2, h3, h4⟩ => ⟨b, u, h1, h2, h3, En.On.is h4⟩
theorem EnsOn.is {S : Nat → Prop} {w : World} : ∀ {l : List En} {vs : List Value}, EnsOn S w l vs → EnsIs w l vs
  | [], _, h => h
  | _ :: _, _, ⟨v, vs', h1, h2, h3⟩ => ⟨v, vs', h1, En.On.is h2, EnsOn.is h3⟩
end
mutual
theorem En.On.same {S T : Nat → Prop} {w w' : World} (hs : SameOn S w w') (hT : ∀ b, S b → b < w.heap.size → T b) : ∀ {e : En} {v : Value}, e.On S w v → e.On T w' v
  | .none, _, h => h
  | .num _, _, h => h
  | .fault _ _ _, _, ⟨b, u, h1, h0, h2, h3, h4, h5, h6⟩ => ⟨b, u, h1, hT b h0 h2, Nat.lt_of_lt_of_le h2 hs.size, (hs.cell b h0 h2 _).trans h3, (hs.cell b h0 h2 _).trans h4, (hs.cell b h0 h2 _).trans h5, En.On.same hs hT h6⟩
  | .many _ _, _, ⟨b, s, vs, h1, h0, h2, h3, h4, h5⟩ => ⟨b, s, vs, h1, hT b h0 h2, Nat.lt_of_lt_of_le h2 hs.size, (hs.cell b h0 h2 _).trans h3, h4.same hs hT, EnsOn.same hs hT h5⟩
  | .plain _, _, ⟨b, h1, h0, h2, h3⟩ => ⟨b, h1, hT b h0 h2, Nat.lt_of_lt_of_le h2 hs.size, (hs.cell b h0 h2 _).trans h3⟩
  | .nilf, _, h => h
  | .cover _, _, ⟨b, u, h1, h0, h2, h3, h4⟩ => ⟨b, u, h1, hT b h0 h2, Nat.lt_of_lt_of_le h2 hs.size, (hs.cell b h0 h2 _).trans h3, En.On.same hs hT h4⟩
theorem EnsOn.same {S T : Nat → Prop} {w w' : World} (hs : SameOn S w w') (hT : ∀ b, S b → b < w.heap.size → T b) : ∀ {l : List En} {vs : List Value}, EnsOn S w l vs → EnsOn T w' l vs
  | [], _, h => h
  | _ :: _, _, ⟨v, vs', h1, h2, h3⟩ => ⟨v, vs', h1, En.On.same hs hT h2, EnsOn.same hs hT h3⟩
end
theorem EnsOn.snoc {S : Nat → Prop} {w : World} : ∀ {l : List En} {vs : List Value} {e : En} {v : Value}, EnsOn S w l vs → e.On S w v → EnsOn S w (l ++ [e]) (vs ++ [v])
  | [], vs, e, v, h, he => by
    have h : vs = [] := h
    subst h
    exact ⟨v, [], rfl, he, rfl⟩
  | _ :: l, vs, e, v, h, he => by
    obtain ⟨u, vs', rfl, h1, h2⟩ := h
    exact ⟨u, vs' ++ [v], rfl, h1, EnsOn.snoc h2 he⟩

theorem SameOn.below {S : Nat → Prop} {w w' : World} (h : Below w.heap.size w w') : SameOn S w w' := ⟨h.size, fun b _ hb off => h.cell (p := ⟨b, off, none⟩) hb⟩
theorem SameOn.setCell {S : Nat → Prop} (w : World) (B o : Nat) (u : Value) (h : ∀ b, S b → b ≠ B) : SameOn S w (w.setCell ⟨B, o, none⟩ u) := by
  refine ⟨by simp, fun b hb hl off => ?_⟩
  simp only [World.cell?]
  rw [Below.heap_setCell _ _ _ _ (h b hb)]

/-- The call hands back an error in memory of its own. -/
def MadeRet (w : World) (x : En) (e : Ending) (w' : World) : Prop := ∃ v, e = .returned v ∧ x.On (fun b => w.heap.size ≤ b) w' v ∧ Below w.heap.size w w'

theorem made_other (k n : Int) (op : ByteArray) (c3 : Value) (w : World) (h : ¬ (1 ≤ k ∧ k ≤ 6)) :
    Calls Try.prog 8 #[.agg #[.int .i64 k, .int .i64 n, .string op, c3]] w (MadeRet w .none) := by
  have t1 : (k == 1) = false := by simp; omega
  have t2 : (k == 2) = false := by simp; omega
  have t3 : (k == 3) = false := by simp; omega
  have t4 : (k == 4) = false := by simp; omega
  have t5 : (k == 5) = false := by simp; omega
  have t6 : (k == 6) = false := by simp; omega
  clear h
  go_enter Try.func8, Try.ntmps8
  go_wp2
  go_ret
  exact ⟨_, rfl, rfl, (Below.refl _ _).alloc (Nat.le_refl _) _⟩
theorem made_num (n : Int) (op : ByteArray) (c3 : Value) (w : World) :
    Calls Try.prog 8 #[.agg #[.int .i64 1, .int .i64 n, .string op, c3]] w (MadeRet w (.num n)) := by
  go_enter Try.func8, Try.ntmps8
  go_wp2
  go_ret
  exact ⟨_, rfl, rfl, (Below.refl _ _).alloc (Nat.le_refl _) _⟩
theorem made_plain (n : Int) (op : ByteArray) (c3 : Value) (w : World) :
    Calls Try.prog 8 #[.agg #[.int .i64 4, .int .i64 n, .string op, c3]] w (MadeRet w (.plain op)) := by
  go_enter Try.func8, Try.ntmps8
  go_wp2
  go_ret
  exact ⟨_, rfl, ⟨_, rfl, Nat.le_succ _, by simp, by simp⟩, ((Below.refl _ _).alloc (Nat.le_refl _) _).alloc (by simp) _⟩
theorem made_nilf (n : Int) (op : ByteArray) (c3 : Value) (w : World) :
    Calls Try.prog 8 #[.agg #[.int .i64 5, .int .i64 n, .string op, c3]] w (MadeRet w .nilf) := by
  go_enter Try.func8, Try.ntmps8
  go_wp2
  go_ret
  exact ⟨_, rfl, rfl, (Below.refl _ _).alloc (Nat.le_refl _) _⟩

theorem made_fault0 (n : Int) (op : ByteArray) (ao : Option Addr) (c : Nat) (w : World) :
    Calls Try.prog 8 #[.agg #[.int .i64 2, .int .i64 n, .string op, .slice ao 0 c]] w (MadeRet w (.fault op n .none)) := by
  go_enter Try.func8, Try.ntmps8
  go_wp2
  go_ret
  exact ⟨_, rfl, ⟨_, _, rfl, Nat.le_succ _, by simp, by simp, by simp, by simp, rfl⟩, ((Below.refl _ _).alloc (Nat.le_refl _) _).alloc (by simp) _⟩
theorem made_cover0 (n : Int) (op : ByteArray) (ao : Option Addr) (c : Nat) (w : World) :
    Calls Try.prog 8 #[.agg #[.int .i64 6, .int .i64 n, .string op, .slice ao 0 c]] w (MadeRet w (.cover .none)) := by
  go_enter Try.func8, Try.ntmps8
  go_wp2
  go_ret
  exact ⟨_, rfl, ⟨_, _, rfl, Nat.le_succ _, by simp, by simp, rfl⟩, ((Below.refl _ _).alloc (Nat.le_refl _) _).alloc (by simp) _⟩

/-- the first kid's cells -/
structure Kid (w : World) (b off : Nat) (d0 d1 d2 d3 : Value) : Prop where
  lt : b < w.heap.size
  q0 : w.cell? ⟨b, off, none⟩ = some d0
  q1 : w.cell? ⟨b, off + 1, none⟩ = some d1
  q2 : w.cell? ⟨b, off + 2, none⟩ = some d2
  q3 : w.cell? ⟨b, off + 3, none⟩ = some d3
theorem Kid.below {w w' : World} {b off : Nat} {d0 d1 d2 d3 : Value} (h : Kid w b off d0 d1 d2 d3) (hb : Below w.heap.size w w') : Kid w' b off d0 d1 d2 d3 :=
  ⟨Nat.lt_of_lt_of_le h.lt hb.size, (hb.cell (p := ⟨b, off, none⟩) h.lt).trans h.q0, (hb.cell (p := ⟨b, off + 1, none⟩) h.lt).trans h.q1, (hb.cell (p := ⟨b, off + 2, none⟩) h.lt).trans h.q2, (hb.cell (p := ⟨b, off + 3, none⟩) h.lt).trans h.q3⟩

set_option maxHeartbeats 1000000 in
theorem made_fault1 (n : Int) (op : ByteArray) (b off len c : Nat) (d0 d1 d2 d3 : Value) (x : En) (w : World) (hlen : 0 < len) (hl2 : len ≤ 9223372036854775807) (hk : Kid w b off d0 d1 d2 d3)
    (ih : ∀ w', Below w.heap.size w w' → Calls Try.prog 8 #[.agg #[d0, d1, d2, d3]] w' (MadeRet w' x)) :
    Calls Try.prog 8 #[.agg #[.int .i64 2, .int .i64 n, .string op, .slice (some ⟨b, off, none⟩) len c]] w (MadeRet w (.fault op n x)) := by
  have hb2 : Below w.heap.size w ((w.alloc (.cells #[.int .i64 2, .int .i64 n, .string op, .slice (some ⟨b, off, none⟩) len c] 24)).alloc (.cells #[.string op, .int .i64 n, .nilIface] 45)) := ((Below.refl _ _).alloc (Nat.le_refl _) _).alloc (by simp) _
  have IH := Lib.hid (ih _ hb2)
  obtain ⟨_, q0, q1, q2, q3⟩ := hk.below hb2
  have t0 : decide ((0 : Int) < (len : Int)) = true := by simp; omega
  have i0 : (0 : Int) < (len : Int) := by omega
  have HB := Lib.hid hb2
  clear ih hk hb2
  go_enter Try.func8, Try.ntmps8
  go_wp2_with fail
  refine IH.out.mono ?_
  rintro e w2 ⟨v, rfl, hon, hb2⟩
  have hF : ∀ o, w2.cell? ⟨w.heap.size + 1, o, none⟩ = (((w.alloc (.cells #[.int .i64 2, .int .i64 n, .string op, .slice (some ⟨b, off, none⟩) len c] 24)).alloc (.cells #[.string op, .int .i64 n, .nilIface] 45))).cell? ⟨w.heap.size + 1, o, none⟩ := fun o => hb2.cell (p := ⟨w.heap.size + 1, o, none⟩) (by simp)
  have f0 := (hF 0).trans (show _ = some (Value.string op) by simp)
  have f1 := (hF 1).trans (show _ = some (Value.int .i64 n) by simp)
  have f2 := (hF 2).trans (show _ = some Value.nilIface by simp)
  have f3 : w2.frozen? ⟨w.heap.size + 1, 2, none⟩ = false := (hb2.frozen (p := ⟨w.heap.size + 1, 2, none⟩) (by simp)).trans (by simp)
  have hon2 := En.On.same (T := fun b => w.heap.size ≤ b) (SameOn.setCell w2 (w.heap.size + 1) 2 v (fun b hb => by simp at hb; omega)) (fun b hb _ => by simp at hb; omega) hon
  have hsz := hb2.size
  have hbel := (HB.out.trans (hb2.mono HB.out.size)).setCell (p := ⟨w.heap.size + 1, 2, none⟩) (Nat.le_succ _) v
  have ON := Lib.hid hon2
  rcases hon.is.form with rfl | ⟨T, y, rfl⟩
  all_goals
    have g0 := fun u => (World.cell?_setCell_other w2 ⟨w.heap.size + 1, 2, none⟩ ⟨w.heap.size + 1, 0, none⟩ u (by simp)).trans f0
    have g1 := fun u => (World.cell?_setCell_other w2 ⟨w.heap.size + 1, 2, none⟩ ⟨w.heap.size + 1, 1, none⟩ u (by simp)).trans f1
    have g2 := fun u => World.cell?_setCell_same w2 ⟨w.heap.size + 1, 2, none⟩ u f2
    have G0 := Lib.hid g0
    have G1 := Lib.hid g1
    have G2 := Lib.hid g2
    have hsz' : w.heap.size + 1 < (w2.setCell ⟨w.heap.size + 1, 2, none⟩ .nilIface).heap.size := by simp at hsz ⊢; omega
    have HS := Lib.hid hsz'
    clear hF hon hon2 g0 g1 g2 f0 f1 hsz'
    go_wp2_with fail
    go_ret
    exact ⟨_, rfl, ⟨_, _, rfl, Nat.le_succ _, by have := HS.out; simpa using this, G0.out _, G1.out _, G2.out _, ON.out⟩, hbel⟩

set_option maxHeartbeats 1000000 in
theorem made_cover1 (n : Int) (op : ByteArray) (b off len c : Nat) (d0 d1 d2 d3 : Value) (x : En) (w : World) (hlen : 0 < len) (hl2 : len ≤ 9223372036854775807) (hk : Kid w b off d0 d1 d2 d3)
    (ih : ∀ w', Below w.heap.size w w' → Calls Try.prog 8 #[.agg #[d0, d1, d2, d3]] w' (MadeRet w' x)) :
    Calls Try.prog 8 #[.agg #[.int .i64 6, .int .i64 n, .string op, .slice (some ⟨b, off, none⟩) len c]] w (MadeRet w (.cover x)) := by
  have hb2 : Below w.heap.size w ((w.alloc (.cells #[.int .i64 6, .int .i64 n, .string op, .slice (some ⟨b, off, none⟩) len c] 24)).alloc (.cells #[.nilIface] 61)) := ((Below.refl _ _).alloc (Nat.le_refl _) _).alloc (by simp) _
  have IH := Lib.hid (ih _ hb2)
  obtain ⟨_, q0, q1, q2, q3⟩ := hk.below hb2
  have t0 : decide ((0 : Int) < (len : Int)) = true := by simp; omega
  have i0 : (0 : Int) < (len : Int) := by omega
  have HB := Lib.hid hb2
  clear ih hk hb2
  go_enter Try.func8, Try.ntmps8
  go_wp2_with fail
  refine IH.out.mono ?_
  rintro e w2 ⟨v, rfl, hon, hb2⟩
  have f2 : w2.cell? ⟨w.heap.size + 1, 0, none⟩ = some Value.nilIface := (hb2.cell (p := ⟨w.heap.size + 1, 0, none⟩) (by simp)).trans (by simp)
  have f3 : w2.frozen? ⟨w.heap.size + 1, 0, none⟩ = false := (hb2.frozen (p := ⟨w.heap.size + 1, 0, none⟩) (by simp)).trans (by simp)
  have hon2 := En.On.same (T := fun b => w.heap.size ≤ b) (SameOn.setCell w2 (w.heap.size + 1) 0 v (fun b hb => by simp at hb; omega)) (fun b hb _ => by simp at hb; omega) hon
  have hsz := hb2.size
  have hbel := (HB.out.trans (hb2.mono HB.out.size)).setCell (p := ⟨w.heap.size + 1, 0, none⟩) (Nat.le_succ _) v
  have ON := Lib.hid hon2
  rcases hon.is.form with rfl | ⟨T, y, rfl⟩
  all_goals
    have g2 := fun u => World.cell?_setCell_same w2 ⟨w.heap.size + 1, 0, none⟩ u f2
    have G2 := Lib.hid g2
    have hsz' : w.heap.size + 1 < (w2.setCell ⟨w.heap.size + 1, 0, none⟩ .nilIface).heap.size := by simp at hsz ⊢; omega
    have HS := Lib.hid hsz'
    clear hon hon2 g2 hsz'
    go_wp2_with fail
    go_ret
    exact ⟨_, rfl, ⟨_, _, rfl, Nat.le_succ _, by have := HS.out; simpa using this, G2.out _, ON.out⟩, hbel⟩
end Go.Proofs.Ythijffpackkcnaa
