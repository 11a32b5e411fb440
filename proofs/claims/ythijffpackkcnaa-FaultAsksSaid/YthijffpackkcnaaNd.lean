/- Nodes: errors as plain data; what they read as in memory; their weight. -/
import Derived.Test.YthijffpackkcnaaDown
import Derived.Test.YthijffpackkcnaaSumB
namespace Go.Proofs.Ythijffpackkcnaa
open Go.RowKit

/-- a node -/
inductive Nd where
  | mk (kind n : Int) (op : ByteArray) (kids : List Nd)

mutual
/-- In world w these four cells are a node. -/
def Nd.Is (w : World) : Nd → Value → Value → Value → Value → Prop
  | .mk k n op kids, c0, c1, c2, c3 => c0 = .int .i64 k ∧ c1 = .int .i64 n ∧ c2 = .string op ∧ op.size ≤ maxLen ∧ ∃ ao c, c3 = .slice ao kids.length c ∧ kids.length ≤ c ∧ c ≤ maxLen ∧ NdsIs w ao 0 kids
def NdsIs (w : World) (ao : Option Addr) : Nat → List Nd → Prop
  | _, [] => True
  | i, d :: ds => (∃ b off c0 c1 c2 c3, ao = some ⟨b, off, none⟩ ∧ b < w.heap.size ∧ w.cell? ⟨b, off + i * 4, none⟩ = some c0 ∧ w.cell? ⟨b, off + i * 4 + 1, none⟩ = some c1 ∧ w.cell? ⟨b, off + i * 4 + 2, none⟩ = some c2 ∧ w.cell? ⟨b, off + i * 4 + 3, none⟩ = some c3 ∧ d.Is w c0 c1 c2 c3) ∧ NdsIs w ao (i + 1) ds
end
mutual
theorem Nd.Is.below {w w' : World} (hb : Below w.heap.size w w') : ∀ {d : Nd} {c0 c1 c2 c3 : Value}, d.Is w c0 c1 c2 c3 → d.Is w' c0 c1 c2 c3
  | .mk _ _ _ _, _, _, _, _, ⟨h0, h1, h2, h3, ao, c, h4, h5, h6, h7⟩ => ⟨h0, h1, h2, h3, ao, c, h4, h5, h6, NdsIs.below hb h7⟩
theorem NdsIs.below {w w' : World} (hb : Below w.heap.size w w') {ao : Option Addr} : ∀ {i : Nat} {l : List Nd}, NdsIs w ao i l → NdsIs w' ao i l
  | _, [], _ => trivial
  | i, _ :: _, ⟨⟨b, off, c0, c1, c2, c3, h0, h1, h2, h3, h4, h5, h6⟩, h7⟩ =>
    ⟨⟨b, off, c0, c1, c2, c3, h0, Nat.lt_of_lt_of_le h1 hb.size, (hb.cell (p := ⟨b, off + i * 4, none⟩) h1).trans h2, (hb.cell (p := ⟨b, off + i * 4 + 1, none⟩) h1).trans h3, (hb.cell (p := ⟨b, off + i * 4 + 2, none⟩) h1).trans h4, (hb.cell (p := ⟨b, off + i * 4 + 3, none⟩) h1).trans h5, Nd.Is.below hb h6⟩, NdsIs.below hb h7⟩
end
theorem NdsIs.get {w : World} {ao : Option Addr} : ∀ {i : Nat} {l : List Nd}, NdsIs w ao i l → ∀ k (h : k < l.length),
    ∃ b off c0 c1 c2 c3, ao = some ⟨b, off, none⟩ ∧ b < w.heap.size ∧ w.cell? ⟨b, off + (i + k) * 4, none⟩ = some c0 ∧ w.cell? ⟨b, off + (i + k) * 4 + 1, none⟩ = some c1 ∧ w.cell? ⟨b, off + (i + k) * 4 + 2, none⟩ = some c2 ∧ w.cell? ⟨b, off + (i + k) * 4 + 3, none⟩ = some c3 ∧ l[k].Is w c0 c1 c2 c3
  | _, [], _, k, h => by simp at h
  | i, d :: ds, ⟨h0, h1⟩, k, h => by
    cases k with
    | zero => exact h0
    | succ k =>
      have := h1.get k (by simpa using h)
      rw [show i + 1 + k = i + (k + 1) from by omega] at this
      exact this

def Nd.kids : Nd → List Nd | .mk _ _ _ l => l
def Nd.kind : Nd → Int | .mk k _ _ _ => k
def Nd.num : Nd → Int | .mk _ n _ _ => n
def Nd.op : Nd → ByteArray | .mk _ _ s _ => s
mutual
/-- what a node and all within weigh -/
def Nd.wt : Nd → Nat
  | .mk _ _ op l => 1 + op.size + wts l
def wts : List Nd → Nat
  | [] => 0
  | d :: l => d.wt + wts l
end
mutual
/-- the error that is made of it -/
def Nd.en : Nd → En
  | .mk k n op l => if k = 1 then .num n else if k = 2 then .fault op n (enHead l) else if k = 3 then .many false (ens l) else if k = 4 then .plain op else if k = 5 then .nilf else if k = 6 then .cover (enHead l) else .none
def enHead : List Nd → En
  | [] => .none
  | d :: _ => d.en
def ens : List Nd → List En
  | [] => []
  | d :: l => d.en :: ens l
end
theorem ens_length : ∀ l : List Nd, (ens l).length = l.length
  | [] => rfl
  | _ :: l => by simp [ens, ens_length l]
theorem wts_mem {d : Nd} : ∀ {l : List Nd}, d ∈ l → d.wt ≤ wts l
  | [], h => by simp at h
  | x :: l, h => by
    rcases List.mem_cons.1 h with rfl | h
    · simp only [wts]; omega
    · have := wts_mem h; simp only [wts]; omega
theorem wts_take (l : List Nd) (k : Nat) (h : k < l.length) : wts (l.take (k + 1)) = wts (l.take k) + l[k].wt := by
  induction l generalizing k with
  | nil => simp at h
  | cons d l ih =>
    cases k with
    | zero => simp [wts]
    | succ k =>
      have := ih k (by simpa using h)
      simp only [List.take_succ_cons, wts, List.getElem_cons_succ]
      omega
theorem ens_take (l : List Nd) (k : Nat) (h : k < l.length) : ens (l.take (k + 1)) = ens (l.take k) ++ [l[k].en] := by
  induction l generalizing k with
  | nil => simp at h
  | cons d l ih =>
    cases k with
    | zero => simp [ens]
    | succ k =>
      have := ih k (by simpa using h)
      simp only [List.take_succ_cons, ens, List.getElem_cons_succ, this, List.cons_append]

/-- what is known of a weight's answer -/
def WtRet (w : World) (d : Nd) (e : Ending) (w' : World) : Prop :=
  ∃ r : Int, e = .returned (.int .i64 r) ∧ 0 ≤ r ∧ r ≤ 4611686018427387904 ∧ (r ≤ 500 → (d.wt : Int) ≤ r) ∧ Below w.heap.size w w'

theorem weight_deep (c0 c1 c2 c3 : Value) (deep : Int) (w : World) (d : Nd) (hd : 30 < deep) :
    Calls Try.prog 6 #[.agg #[c0, c1, c2, c3], .int .i64 deep] w (WtRet w d) := by
  have t : decide (30 < deep) = true := by simp; omega
  go_enter Try.func6, Try.ntmps6
  go_wp2
  go_ret
  exact ⟨_, rfl, by omega, by omega, fun h => by omega, (Below.refl _ _).alloc (Nat.le_refl _) _⟩

theorem weight_any : ∀ (n : Nat) (d : Nd) (c0 c1 c2 c3 : Value) (deep : Int) (w : World), d.wt ≤ n → d.Is w c0 c1 c2 c3 → 0 ≤ deep → deep ≤ 31 →
    Calls Try.prog 6 #[.agg #[c0, c1, c2, c3], .int .i64 deep] w (WtRet w d) := by
  intro n
  induction n with
  | zero =>
    intro d c0 c1 c2 c3 deep w hn
    cases d; simp [Nd.wt] at hn
  | succ n ih =>
    intro d c0 c1 c2 c3 deep w hn hd h0 h1
    by_cases hdp : 30 < deep
    · exact weight_deep c0 c1 c2 c3 deep w d hdp
    · have IH := Lib.hid ih
      clear ih
      obtain ⟨k, m, op, l⟩ := d
      obtain ⟨rfl, rfl, rfl, hop, ao, c, rfl, hc1, hc2, hl⟩ := hd
      unfold maxLen at hop hc2
      have s0 : 0 ≤ satAdd 1 (op.size : Int) ∧ satAdd 1 (op.size : Int) ≤ 4611686018427387904 ∧ (satAdd 1 (op.size : Int) ≤ 500 → satAdd 1 (op.size : Int) = 1 + op.size) := by
        unfold satAdd; split <;> omega
      obtain ⟨s1, s2, s3⟩ := s0
      generalize hs0 : satAdd 1 (op.size : Int) = t0 at *
      have HS0 := Lib.hid hs0
      clear hs0
      have HW : Hid (∀ x ∈ l, x.wt ≤ n) := fun x hx => by have := wts_mem hx; simp only [Nd.wt] at hn; omega
      have hbw : ∀ o : Obj, Below w.heap.size w (w.alloc o) := fun o => (Below.refl _ _).alloc (Nat.le_refl _) _
      have HL := Lib.hid hl
      clear hl hn
      go_enter Try.func6, Try.ntmps6
      go_wp2_with fail
      refine (Sum_one 1 op.size (w.heap.size + 1) 0 1 _ (by simp) (by omega) (by omega) (by omega)).mono ?_
      rw [HS0.out]
      rintro e w' ⟨rfl, rfl⟩
      have box : ∀ wr, Below (w.heap.size + 1) (w.alloc (.cells #[.int .i64 k, .int .i64 m, .string op, .slice ao l.length c] 24)) wr → wr.cell? ⟨w.heap.size, 3, none⟩ = some (.slice ao l.length c) := fun wr h => (h.cell (p := ⟨w.heap.size, 3, none⟩) (by simp)).trans (by simp)
      have HB := Lib.hid box
      clear box
      go_wp2_with fail
      go_loopw [5, 6] (fun tv i wr => ∃ (j : Nat) (t : Int), j ≤ l.length ∧ i = .int .i64 j ∧ tv = .int .i64 t ∧ 0 ≤ t ∧ t ≤ 4611686018427387904 ∧ Hid (t ≤ 500 → (1 + op.size + wts (l.take j) : Nat) ≤ t) ∧ Below (w.heap.size + 1) (w.alloc (.cells #[.int .i64 k, .int .i64 m, .string op, .slice ao l.length c] 24)) wr) (fun _ i _ => l.length - (intOf i).toNat)
      case atStart => exact ⟨0, t0, Nat.zero_le _, rfl, rfl, s1, s2, fun h => by have := s3 h; simp [wts]; omega, (Below.refl _ _).alloc (by simp) _⟩
      case round =>
        obtain ⟨j, t, hj, rfl, rfl, ht0, ht1, ht, hbel⟩ := hrel
        have hkc := HB.out _ hbel
        have hW := (hbw (.cells #[.int .i64 k, .int .i64 m, .string op, .slice ao l.length c] 24)).trans (hbel.mono (Nat.le_succ _))
        by_cases hlt : j < l.length
        · by_cases htop : t < 1000
          · obtain ⟨b, off, d0, d1, d2, d3, rfl, hb0, q0, q1, q2, q3, hd⟩ := HL.out.get j hlt
            rw [Nat.zero_add] at q0 q1 q2 q3
            replace q0 := (hW.cell (p := ⟨b, off + j * 4, none⟩) hb0).trans q0
            replace q1 := (hW.cell (p := ⟨b, off + j * 4 + 1, none⟩) hb0).trans q1
            replace q2 := (hW.cell (p := ⟨b, off + j * 4 + 2, none⟩) hb0).trans q2
            replace q3 := (hW.cell (p := ⟨b, off + j * 4 + 3, none⟩) hb0).trans q3
            have hd' := Lib.hid (Nd.Is.below hW hd)
            clear hd
            go_wp2_with fail
            refine (IH.out l[j] d0 d1 d2 d3 (deep + 1) _ (HW.out _ (List.getElem_mem hlt)) hd'.out (by omega) (by omega)).mono ?_
            rintro e w2 ⟨r, rfl, hr0, hr1, hr2, hb2⟩
            have s4 : 0 ≤ satAdd t r ∧ satAdd t r ≤ 4611686018427387904 ∧ (satAdd t r ≤ 500 → (1 + op.size + wts (l.take (j + 1)) : Nat) ≤ satAdd t r) := by
              have h1 := ht.out
              rw [wts_take l j hlt]
              unfold satAdd; split <;> omega
            obtain ⟨s5, s6, s7⟩ := s4
            have HS := Lib.hid s7
            have hbel2 := hbel.trans (hb2.mono (by have := hbel.size; simpa using this))
            have hbel3 := hbel2.alloc (by have := hbel2.size; simpa using this) (.cells #[.int .i64 r] 3)
            clear s7 hr2 q0 q1 q2 q3 hkc hb2 hW ht
            go_wp2_with fail
            refine (Sum_one t r w2.heap.size 0 1 _ (by simp) (by omega) (by omega) (by omega)).mono ?_
            rintro e w' ⟨rfl, rfl⟩
            generalize satAdd t r = t1 at *
            go_wp2_with fail
            go_roundw
            case rel => exact ⟨j + 1, t1, by omega, by go_num, rfl, s5, s6, HS, hbel3⟩
            case measure => simp [intOf]; omega
          · have b1 : decide (t < 1000) = false := by simp; omega
            go_wp2_with fail
            go_ret
            exact ⟨t, rfl, by omega, by omega, fun h => by omega, hW⟩
        · obtain rfl : j = l.length := by omega
          have h1 := ht.out
          rw [List.take_length] at h1
          have H1 := Lib.hid h1
          clear h1 ht
          go_wp2_with fail
          go_ret
          exact ⟨t, rfl, by omega, by omega, fun h => by have := H1.out h; simp only [Nd.wt]; omega, hW⟩
end Go.Proofs.Ythijffpackkcnaa
