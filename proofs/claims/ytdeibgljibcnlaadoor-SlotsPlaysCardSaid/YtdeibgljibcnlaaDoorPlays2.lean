/- SlotsPlays: Get and Parse on both pages; the errors are alike. -/
import Derived.Test.YtdeibgljibcnlaaDoorPlays1
import Derived.Test.YtdeibgljibcnlaaDoorParse
namespace Go.Proofs.YtdeibgljibcnlaaDoor
open Go.RowKit

theorem IsE_any (i k : Int) (hk : 0 ≤ k ∧ k ≤ 15) (u : Value) (w : World) (hu : (erOf i k).Is w u) (hg : ErrT w) :
    Calls Tryd.prog 12 #[u, .int .i64 k, .string strPage, .int .i64 i] w fun e w' => e = .returned (.bool true) ∧ Below w.heap.size w w' := by
  have h := IsA_any (erOf i k) k strPage i u w hu hg
  rw [erOf_isB i k hk] at h
  exact h
theorem BytesE_any (va vb : Value) (l : List UInt8) (w : World) (ha : Byt w va l) (hb : Byt w vb l) :
    Calls Tryd.prog 21 #[va, vb] w fun e w' => e = .returned (.bool true) ∧ Below w.heap.size w w' :=
  (Bytes_any va vb l l w ha hb).mono fun e w' ⟨h1, n, h2⟩ => ⟨by rw [h1]; simp, by rw [h2]; exact bel_drewN (Below.refl _ _) n⟩

/-- Get, on both -/
theorem PlayIs.get {w : World} {B p q kind id : Nat} {st : List SlotL} (h : PlayIs w B p q kind id st) (i : Int) :
    ∃ (k : Int), (0 ≤ k ∧ k ≤ 15) ∧ Calls Tryd.prog 19 #[.pointer (some ⟨p, 0, none⟩), .int .i64 i] w (fun e w1 => ∃ v u, e = .returned (.tuple #[v, u]) ∧ Below w.heap.size w w1 ∧
      Calls Tryd.prog 20 #[.pointer (some ⟨q, 0, none⟩), .int .i64 i] w1 fun e w2 => ∃ v' bs, e = .returned (.tuple #[v', .int .i64 k]) ∧ Byt w2 v bs ∧ Byt w2 v' bs ∧ (erOf i k).Is w2 u ∧ w1 = w2) := by
  obtain ⟨r, hr1, hr2, hr3, hr4⟩ := h.ref
  obtain ⟨hg, hp, _⟩ := h
  have GE := Get_any hp i
  cases hh : hasS st i with
  | true =>
    refine ⟨0, by decide, GE.mono ?_⟩
    unfold GetRet
    rw [hh]
    rintro e w1 ⟨v, u, rfl, hvu, b1⟩
    obtain ⟨hu, hv⟩ : u = .nilIface ∧ Own w1 w.heap.size v (getB st i) := by simpa using hvu
    refine ⟨v, u, rfl, b1, (RGet_any (hr2.below b1) i).mono ?_⟩
    unfold RGetRet
    rw [hr1, hh]
    rintro e w2 ⟨v', c, rfl, hc, rfl⟩
    obtain ⟨rfl, hv'⟩ : c = 0 ∧ Byt w1 v' (getB st i) := by simpa using hc
    exact ⟨v', _, rfl, hv.byt, hv', hu, rfl⟩
  | false =>
    refine ⟨15, by decide, GE.mono ?_⟩
    unfold GetRet
    rw [hh]
    rintro e w1 ⟨v, u, rfl, hvu, b1⟩
    obtain ⟨rfl, hu⟩ : v = .slice none 0 0 ∧ (Er.fault strPage i (.num 15)).Is w1 u := by simpa using hvu
    refine ⟨_, u, rfl, b1, (RGet_any (hr2.below b1) i).mono ?_⟩
    unfold RGetRet
    rw [hr1, hh]
    rintro e w2 ⟨v', c, rfl, hc, rfl⟩
    obtain ⟨rfl, rfl⟩ : c = 15 ∧ v' = .slice none 0 0 := by simpa using hc
    exact ⟨_, [], rfl, Rd.nil _, Rd.nil _, hu, rfl⟩

/-- what was laid is read -/
theorem PlayIs.parse {w : World} {B p q kind id g : Nat} {st : List SlotL} (h : PlayIs w B p q kind id st) (hk : kind ≤ 255) (hid : id ≤ 4294967295) (hg : Blk w g (pageB kind id st)) (hB : B ≤ w.heap.size) :
    Calls Tryd.prog 11 #[.slice (some ⟨g, 0, none⟩) 512 512] w fun e w' => ∃ p', e = .returned (.tuple #[.pointer (some ⟨p', 0, none⟩), .nilIface]) ∧ PlayIs w' B p' q kind id st ∧ Below w.heap.size w w' := by
  obtain ⟨hgo, hp, r, hr1, hr2⟩ := h
  have hpr := parseR_page kind id st hp.1 hp.2.1 hk hid hgo.1 hgo.2
  obtain ⟨e1, e2, e3⟩ := page_head kind id st hp.1 hp.2.1 hk hid
  refine (ParseP_any hg (pageB_length' kind id st hp.1)).mono ?_
  rintro e w' ⟨P, u, rfl, hb, hm⟩
  rw [hpr, e1, e3] at hm
  obtain ⟨rfl, p', rfl, hp'⟩ := hm
  exact ⟨p', rfl, ⟨hgo, hp'.base hB, r, hr1, hr2.below hb⟩, hb⟩
/-- nothing of another type turns -/
theorem PlayIs.start {w1 w2 : World} {B p q kind id : Nat} (hp : PageIs w1 B p kind id []) (hb : Below w1.heap.size w1 w2) (hq : RefIs w2 B q kind id []) : PlayIs w2 B p q kind id [] :=
  ⟨good_nil, (show PageS w1 B p kind id [] from ⟨by decide, by decide, [], rfl, hp⟩).below hb, [], rfl, hq⟩
end Go.Proofs.YtdeibgljibcnlaaDoor
