/- pergolalaw11.same: both show the same. -/
import Derived.Test.YtdeibgljibcnlaaDoorInts
import Derived.Test.YtdeibgljibcnlaaDoorRefBytes
import Derived.Test.YtdeibgljibcnlaaDoorRoundP
import Derived.Test.YtdeibgljibcnlaaDoorReg
namespace Go.Proofs.YtdeibgljibcnlaaDoor
open Go.RowKit

set_option maxRecDepth 100000 in
set_option maxHeartbeats 4000000 in
theorem Same_any {w : World} {B p q kind id : Nat} {st : List SlotL} {r : List SlotV} (hp : PageS w B p kind id st) (hq : RefIs w B q kind id r) (hr : snds r = st) (hk : kind ≤ 255) (hid : id ≤ 4294967295) :
    Calls Tryd.prog 22 #[.pointer (some ⟨p, 0, none⟩), .pointer (some ⟨q, 0, none⟩)] w fun e w' => e = .returned (.bool true) ∧ Below w.heap.size w w' := by
  have hs := hp.1
  have hl : r.length ≤ 60 := by
    have := hp.2.1
    rw [← hr] at this
    simpa [snds] using this
  have hsr : sizeR r = sizeS st := by rw [sizeR_snds, hr]
  have P := Lib.hid (fun w' (h : Below w.heap.size w w') => hp.below h)
  have Q := Lib.hid (fun w' (h : Below w.heap.size w w') => hq.below h)
  have US := Lib.hid (fun w' (h : Below w.heap.size w w') => RUsed_any (hq.below h) (by omega))
  rw [hsr] at US
  have RS := Lib.hid (fun w' (h : Below w.heap.size w w') => RSlots_any (hq.below h) hl)
  rw [hr] at RS
  have RB := Lib.hid (fun w' (h : Below w.heap.size w w') => RBytes_any (hq.below h) hl (by rw [hr]; exact hs) hk hid)
  rw [hr] at RB
  have hpl := pageB_length' kind id st hs
  have hql := lt_of_block hq.2.choose_spec.choose_spec.1
  obtain ⟨ab, cb, ah, ch, h1, _⟩ := hq.open
  have c0 : w.cell? ⟨q, 0, none⟩ = some (.int .i64 kind) := by simp [World.cell?, h1]
  have c1 : w.cell? ⟨q, 1, none⟩ = some (.int .i64 id) := by simp [World.cell?, h1]
  have hsz : 16 ≤ sizeS st := by unfold sizeS; omega
  have FreeZ := Lib.hid (fun w' (h : Below w.heap.size w w') => Free_any (hp.below h))
  generalize hZ : sizeS st = Z at *
  have eZ : IntKind.i64.wrap ((512 : Int) - (Z : Int)) = (512 : Int) - (Z : Int) := IntWalk.i64_in _ (by omega)
  clear hp hq h1 hr hsr
  go_enter Tryd.func22, Tryd.ntmps22
  go_wp2_with fail
  refine wp_region_noPanic ?_
  refine wp_region_held_drew (S := fun w' => Below w.heap.size w w') (by kernel_rfl) (Below.refl _ _).drew (fun hHeld => ?_)
  generalize w.drew = D at hHeld ⊢
  have k1 : Below w.heap.size w D := hHeld
  refine wpAnyH_take (i := 0) (oi := ⟨some 5, _, _, _, _, _⟩) (v := ?qv0sm) rfl (by kernel_rfl) (by kernel_rfl) (by kernel_rfl) (fun _ _ _ h => h) (Or.inl ⟨by rfl, ?qy0sm⟩) hHeld ?qr0sm
  case qy0sm => (intro w' hSw; go_simp; try with_reducible rfl)
  try simp only [Act.put, List.setIfInBounds_toArray, List.set_cons_zero, List.set_cons_succ]
  refine wpAnyH_take (i := 2) (oi := ⟨some 7, _, _, _, _, _⟩) (v := ?qv2sm) rfl (by kernel_rfl) (by kernel_rfl) (by kernel_rfl) (fun _ _ _ h => h) (Or.inl ⟨by rfl, ?qy2sm⟩) hHeld ?qr2sm
  case qy2sm => (intro w' hSw; go_simp; try with_reducible rfl)
  try simp only [Act.put, List.setIfInBounds_toArray, List.set_cons_zero, List.set_cons_succ]
  refine wpAnyH_take (i := 3) (oi := ⟨some 8, _, _, _, _, _⟩) (v := ?qv3sm) rfl (by kernel_rfl) (by kernel_rfl) (by kernel_rfl) (fun _ _ _ h => h) (Or.inl ⟨by rfl, ?qy3sm⟩) hHeld ?qr3sm
  case qy3sm => (intro w' hSw; go_simp; try with_reducible rfl)
  try simp only [Act.put, List.setIfInBounds_toArray, List.set_cons_zero, List.set_cons_succ]
  refine wpAnyH_take (i := 4) (oi := ⟨some 9, _, _, _, _, _⟩) (v := ?qv4sm) rfl (by kernel_rfl) (by kernel_rfl) (by kernel_rfl) (fun _ _ _ h => h) (Or.inl ⟨by rfl, ?qy4sm⟩) hHeld ?qr4sm
  case qy4sm => (intro w' hSw; go_simp; try with_reducible rfl)
  try simp only [Act.put, List.setIfInBounds_toArray, List.set_cons_zero, List.set_cons_succ]
  refine wpAnyH_take (i := 5) (oi := ⟨some 10, _, _, _, _, _⟩) (v := ?qv5sm) rfl (by kernel_rfl) (by kernel_rfl) (by kernel_rfl) (fun _ _ _ h => h) (Or.inl ⟨by rfl, ?qy5sm⟩) hHeld ?qr5sm
  case qy5sm => (intro w' hSw; have z2 := (hSw.cell (p := ⟨q, 0, none⟩) hql).trans c0; have z3 := (hSw.cell (p := ⟨q, 1, none⟩) hql).trans c1; go_simp; try with_reducible rfl)
  try simp only [Act.put, List.setIfInBounds_toArray, List.set_cons_zero, List.set_cons_succ]
  refine wpAnyH_ready (rs := [1]) (by kernel_rfl) (by simp) ?_
  refine AllReadyH.cons (o := ⟨some 6, _, _, _, _, _⟩) rfl (fun K hK => ?_) AllReadyH.nil
  refine step_go (by rfl) 40 _ _ (by rfl) (fun _ _ => by kernel_rfl) _ (by rfl) (Kind_any (P.out _ k1)) ?_
  rintro e w1 ⟨rfl, rfl⟩
  refine ⟨_, rfl, ?_⟩
  refine hK.out _ _ (k1) (fun hHeld => ?_)
  clear hK K
  try simp only [Act.put, List.setIfInBounds_toArray, List.set_cons_zero, List.set_cons_succ]
  refine wpAnyH_take (i := 6) (oi := ⟨some 11, _, _, _, _, _⟩) (v := ?qv6sm) rfl (by kernel_rfl) (by kernel_rfl) (by kernel_rfl) (fun _ _ _ h => h) (Or.inl ⟨by rfl, ?qy6sm⟩) hHeld ?qr6sm
  case qy6sm => (intro w' hSw; go_simp; try with_reducible rfl)
  try simp only [Act.put, List.setIfInBounds_toArray, List.set_cons_zero, List.set_cons_succ]
  refine wpAnyH_take (i := 7) (oi := ⟨some 12, _, _, _, _, _⟩) (v := ?qv7sm) rfl (by kernel_rfl) (by kernel_rfl) (by kernel_rfl) (fun _ _ _ h => h) (Or.inl ⟨by rfl, ?qy7sm⟩) hHeld ?qr7sm
  case qy7sm => (intro w' hSw; go_simp; try with_reducible rfl)
  try simp only [Act.put, List.setIfInBounds_toArray, List.set_cons_zero, List.set_cons_succ]
  refine wpAnyH_take (i := 8) (oi := ⟨some 13, _, _, _, _, _⟩) (v := ?qv8sm) rfl (by kernel_rfl) (by kernel_rfl) (by kernel_rfl) (fun _ _ _ h => h) (Or.inl ⟨by rfl, ?qy8sm⟩) hHeld ?qr8sm
  case qy8sm => (intro w' hSw; go_simp; try with_reducible rfl)
  try simp only [Act.put, List.setIfInBounds_toArray, List.set_cons_zero, List.set_cons_succ]
  refine wpAnyH_take (i := 10) (oi := ⟨some 15, _, _, _, _, _⟩) (v := ?qv10sm) rfl (by kernel_rfl) (by kernel_rfl) (by kernel_rfl) (fun _ _ _ h => h) (Or.inl ⟨by rfl, ?qy10sm⟩) hHeld ?qr10sm
  case qy10sm => (intro w' hSw; go_simp; try with_reducible rfl)
  try simp only [Act.put, List.setIfInBounds_toArray, List.set_cons_zero, List.set_cons_succ]
  refine wpAnyH_take (i := 11) (oi := ⟨some 16, _, _, _, _, _⟩) (v := ?qv11sm) rfl (by kernel_rfl) (by kernel_rfl) (by kernel_rfl) (fun _ _ _ h => h) (Or.inl ⟨by rfl, ?qy11sm⟩) hHeld ?qr11sm
  case qy11sm => (intro w' hSw; go_simp; try with_reducible rfl)
  try simp only [Act.put, List.setIfInBounds_toArray, List.set_cons_zero, List.set_cons_succ]
  refine wpAnyH_take (i := 12) (oi := ⟨some 17, _, _, _, _, _⟩) (v := ?qv12sm) rfl (by kernel_rfl) (by kernel_rfl) (by kernel_rfl) (fun _ _ _ h => h) (Or.inl ⟨by rfl, ?qy12sm⟩) hHeld ?qr12sm
  case qy12sm => (intro w' hSw; go_simp; try with_reducible rfl)
  try simp only [Act.put, List.setIfInBounds_toArray, List.set_cons_zero, List.set_cons_succ]
  refine wpAnyH_take (i := 13) (oi := ⟨some 18, _, _, _, _, _⟩) (v := ?qv13sm) rfl (by kernel_rfl) (by kernel_rfl) (by kernel_rfl) (fun _ _ _ h => h) (Or.inl ⟨by rfl, ?qy13sm⟩) hHeld ?qr13sm
  case qy13sm => (intro w' hSw; have z2 := (hSw.cell (p := ⟨q, 0, none⟩) hql).trans c0; have z3 := (hSw.cell (p := ⟨q, 1, none⟩) hql).trans c1; go_simp; try with_reducible rfl)
  try simp only [Act.put, List.setIfInBounds_toArray, List.set_cons_zero, List.set_cons_succ]
  refine wpAnyH_ready (rs := [9]) (by kernel_rfl) (by simp) ?_
  refine AllReadyH.cons (o := ⟨some 14, _, _, _, _, _⟩) rfl (fun K hK => ?_) AllReadyH.nil
  refine step_go (by rfl) 24 _ _ (by rfl) (fun _ _ => by kernel_rfl) _ (by rfl) (ID_any (P.out _ k1)) ?_
  rintro e w1 ⟨rfl, rfl⟩
  refine ⟨_, rfl, ?_⟩
  refine hK.out _ _ (k1) (fun hHeld => ?_)
  clear hK K
  try simp only [Act.put, List.setIfInBounds_toArray, List.set_cons_zero, List.set_cons_succ]
  refine wpAnyH_take (i := 14) (oi := ⟨some 19, _, _, _, _, _⟩) (v := ?qv14sm) rfl (by kernel_rfl) (by kernel_rfl) (by kernel_rfl) (fun _ _ _ h => h) (Or.inl ⟨by rfl, ?qy14sm⟩) hHeld ?qr14sm
  case qy14sm => (intro w' hSw; go_simp; try with_reducible rfl)
  try simp only [Act.put, List.setIfInBounds_toArray, List.set_cons_zero, List.set_cons_succ]
  refine wpAnyH_take (i := 15) (oi := ⟨some 20, _, _, _, _, _⟩) (v := ?qv15sm) rfl (by kernel_rfl) (by kernel_rfl) (by kernel_rfl) (fun _ _ _ h => h) (Or.inl ⟨by rfl, ?qy15sm⟩) hHeld ?qr15sm
  case qy15sm => (intro w' hSw; go_simp; try with_reducible rfl)
  try simp only [Act.put, List.setIfInBounds_toArray, List.set_cons_zero, List.set_cons_succ]
  refine wpAnyH_take (i := 16) (oi := ⟨some 21, _, _, _, _, _⟩) (v := ?qv16sm) rfl (by kernel_rfl) (by kernel_rfl) (by kernel_rfl) (fun _ _ _ h => h) (Or.inl ⟨by rfl, ?qy16sm⟩) hHeld ?qr16sm
  case qy16sm => (intro w' hSw; go_simp; try with_reducible rfl)
  try simp only [Act.put, List.setIfInBounds_toArray, List.set_cons_zero, List.set_cons_succ]
  refine wpAnyH_take (i := 17) (oi := ⟨some 22, _, _, _, _, _⟩) (v := ?qv17sm) rfl (by kernel_rfl) (by kernel_rfl) (by kernel_rfl) (fun _ _ _ h => h) (Or.inl ⟨by rfl, ?qy17sm⟩) hHeld ?qr17sm
  case qy17sm => (intro w' hSw; go_simp; try with_reducible rfl)
  try simp only [Act.put, List.setIfInBounds_toArray, List.set_cons_zero, List.set_cons_succ]
  refine wpAnyH_take (i := 19) (oi := ⟨some 24, _, _, _, _, _⟩) (v := ?qv19sm) rfl (by kernel_rfl) (by kernel_rfl) (by kernel_rfl) (fun _ _ _ h => h) (Or.inl ⟨by rfl, ?qy19sm⟩) hHeld ?qr19sm
  case qy19sm => (intro w' hSw; go_simp; try with_reducible rfl)
  try simp only [Act.put, List.setIfInBounds_toArray, List.set_cons_zero, List.set_cons_succ]
  refine wpAnyH_ready (rs := [18]) (by kernel_rfl) (by simp) ?_
  refine AllReadyH.cons (o := ⟨some 23, _, _, _, _, _⟩) rfl (fun K hK => ?_) AllReadyH.nil
  refine step_go (by rfl) 23 _ _ (by rfl) (fun _ _ => by kernel_rfl) _ (by rfl) (FreeZ.out _ k1) ?_
  rintro e w2 ⟨rfl, b2⟩
  refine ⟨_, rfl, ?_⟩
  have B2 := k1.trans (b2.mono k1.size)
  refine hK.out _ _ (B2) (fun hHeld => ?_)
  clear hK K
  try simp only [Act.put, List.setIfInBounds_toArray, List.set_cons_zero, List.set_cons_succ]
  refine wpAnyH_ready (rs := [20]) (by kernel_rfl) (by simp) ?_
  refine AllReadyH.cons (o := ⟨some 25, _, _, _, _, _⟩) rfl (fun K hK => ?_) AllReadyH.nil
  refine step_go (by rfl) 35 _ _ (by rfl) (fun _ _ => by kernel_rfl) _ (by rfl) (US.out _ B2) ?_
  rintro e w3 ⟨rfl, rfl⟩
  refine ⟨_, rfl, ?_⟩
  refine hK.out _ _ (B2) (fun hHeld => ?_)
  clear hK K
  try simp only [Act.put, List.setIfInBounds_toArray, List.set_cons_zero, List.set_cons_succ]
  refine wpAnyH_take (i := 21) (oi := ⟨some 26, _, _, _, _, _⟩) (v := ?qv21sm) rfl (by kernel_rfl) (by kernel_rfl) (by kernel_rfl) (fun _ _ _ h => h) (Or.inl ⟨by rfl, ?qy21sm⟩) hHeld ?qr21sm
  case qy21sm => (intro w' hSw; go_simp; try with_reducible rfl)
  try simp only [Act.put, List.setIfInBounds_toArray, List.set_cons_zero, List.set_cons_succ]
  refine wpAnyH_take (i := 22) (oi := ⟨some 27, _, _, _, _, _⟩) (v := ?qv22sm) rfl (by kernel_rfl) (by kernel_rfl) (by kernel_rfl) (fun _ _ _ h => h) (Or.inl ⟨by rfl, ?qy22sm⟩) hHeld ?qr22sm
  case qy22sm => (intro w' hSw; go_simp; try with_reducible rfl)
  try simp only [Act.put, List.setIfInBounds_toArray, List.set_cons_zero, List.set_cons_succ]
  refine wpAnyH_take (i := 23) (oi := ⟨some 28, _, _, _, _, _⟩) (v := ?qv23sm) rfl (by kernel_rfl) (by kernel_rfl) (by kernel_rfl) (fun _ _ _ h => h) (Or.inl ⟨by rfl, ?qy23sm⟩) hHeld ?qr23sm
  case qy23sm => (intro w' hSw; go_simp; try with_reducible rfl)
  try simp only [Act.put, List.setIfInBounds_toArray, List.set_cons_zero, List.set_cons_succ]
  refine wpAnyH_take (i := 24) (oi := ⟨some 29, _, _, _, _, _⟩) (v := ?qv24sm) rfl (by kernel_rfl) (by kernel_rfl) (by kernel_rfl) (fun _ _ _ h => h) (Or.inl ⟨by rfl, ?qy24sm⟩) hHeld ?qr24sm
  case qy24sm => (intro w' hSw; go_simp; try with_reducible rfl)
  try simp only [Act.put, List.setIfInBounds_toArray, List.set_cons_zero, List.set_cons_succ]
  refine wpAnyH_take (i := 25) (oi := ⟨some 30, _, _, _, _, _⟩) (v := ?qv25sm) rfl (by kernel_rfl) (by kernel_rfl) (by kernel_rfl) (fun _ _ _ h => h) (Or.inl ⟨by rfl, ?qy25sm⟩) hHeld ?qr25sm
  case qy25sm => (intro w' hSw; go_simp; try with_reducible rfl)
  try simp only [Act.put, List.setIfInBounds_toArray, List.set_cons_zero, List.set_cons_succ]
  refine wpAnyH_take (i := 27) (oi := ⟨some 32, _, _, _, _, _⟩) (v := ?qv27sm) rfl (by kernel_rfl) (by kernel_rfl) (by kernel_rfl) (fun _ _ _ h => h) (Or.inl ⟨by rfl, ?qy27sm⟩) hHeld ?qr27sm
  case qy27sm => (intro w' hSw; go_simp; try with_reducible rfl)
  try simp only [Act.put, List.setIfInBounds_toArray, List.set_cons_zero, List.set_cons_succ]
  refine wpAnyH_ready (rs := [26]) (by kernel_rfl) (by simp) ?_
  refine AllReadyH.cons (o := ⟨some 31, _, _, _, _, _⟩) rfl (fun K hK => ?_) AllReadyH.nil
  refine step_go (by rfl) 42 _ _ (by rfl) (fun _ _ => by kernel_rfl) _ (by rfl) (Slots_any (P.out _ B2)) ?_
  rintro e w4 ⟨v4, rfl, o4, b4⟩
  refine ⟨_, rfl, ?_⟩
  have B4 := B2.trans (b4.mono B2.size)
  obtain ⟨a4, c4, rfl⟩ := o4.form
  refine hK.out _ _ (B4) (fun hHeld => ?_)
  clear hK K
  try simp only [Act.put, List.setIfInBounds_toArray, List.set_cons_zero, List.set_cons_succ]
  refine wpAnyH_ready (rs := [28]) (by kernel_rfl) (by simp) ?_
  refine AllReadyH.cons (o := ⟨some 33, _, _, _, _, _⟩) rfl (fun K hK => ?_) AllReadyH.nil
  refine step_go (by rfl) 43 _ _ (by rfl) (fun _ _ => by kernel_rfl) _ (by rfl) (RS.out _ B4) ?_
  rintro e w5 ⟨v5, rfl, o5, b5⟩
  refine ⟨_, rfl, ?_⟩
  have B5 := B4.trans (b5.mono B4.size)
  obtain ⟨a5, c5, rfl⟩ := o5.form
  refine hK.out _ _ (B5) (fun hHeld => ?_)
  clear hK K
  try simp only [Act.put, List.setIfInBounds_toArray, List.set_cons_zero, List.set_cons_succ]
  refine wpAnyH_ready (rs := [29]) (by kernel_rfl) (by simp) ?_
  refine AllReadyH.cons (o := ⟨some 34, _, _, _, _, _⟩) rfl (fun K hK => ?_) AllReadyH.nil
  refine step_go (by rfl) 41 _ _ (by rfl) (fun _ _ => by kernel_rfl) _ (by rfl) (Ints_any _ _ _ _ _ (o4.nums.below b5) o5.nums) ?_
  rintro e w6 ⟨rfl, n6, rfl⟩
  refine ⟨_, rfl, ?_⟩
  have B6 := below_drewN B5 n6
  refine hK.out _ _ (B6) (fun hHeld => ?_)
  clear hK K
  try simp only [Act.put, List.setIfInBounds_toArray, List.set_cons_zero, List.set_cons_succ]
  refine wpAnyH_take (i := 30) (oi := ⟨some 35, _, _, _, _, _⟩) (v := ?qv30sm) rfl (by kernel_rfl) (by kernel_rfl) (by kernel_rfl) (fun _ _ _ h => h) (Or.inl ⟨by rfl, ?qy30sm⟩) hHeld ?qr30sm
  case qy30sm => (intro w' hSw; go_simp; try with_reducible rfl)
  try simp only [Act.put, List.setIfInBounds_toArray, List.set_cons_zero, List.set_cons_succ]
  refine wpAnyH_take (i := 31) (oi := ⟨some 36, _, _, _, _, _⟩) (v := ?qv31sm) rfl (by kernel_rfl) (by kernel_rfl) (by kernel_rfl) (fun _ _ _ h => h) (Or.inl ⟨by rfl, ?qy31sm⟩) hHeld ?qr31sm
  case qy31sm => (intro w' hSw; go_simp; try with_reducible rfl)
  try simp only [Act.put, List.setIfInBounds_toArray, List.set_cons_zero, List.set_cons_succ]
  refine wpAnyH_take (i := 32) (oi := ⟨some 37, _, _, _, _, _⟩) (v := ?qv32sm) rfl (by kernel_rfl) (by kernel_rfl) (by kernel_rfl) (fun _ _ _ h => h) (Or.inl ⟨by rfl, ?qy32sm⟩) hHeld ?qr32sm
  case qy32sm => (intro w' hSw; go_simp; try with_reducible rfl)
  try simp only [Act.put, List.setIfInBounds_toArray, List.set_cons_zero, List.set_cons_succ]
  refine wpAnyH_take (i := 34) (oi := ⟨some 39, _, _, _, _, _⟩) (v := ?qv34sm) rfl (by kernel_rfl) (by kernel_rfl) (by kernel_rfl) (fun _ _ _ h => h) (Or.inl ⟨by rfl, ?qy34sm⟩) hHeld ?qr34sm
  case qy34sm => (intro w' hSw; go_simp; try with_reducible rfl)
  try simp only [Act.put, List.setIfInBounds_toArray, List.set_cons_zero, List.set_cons_succ]
  refine wpAnyH_ready (rs := [33]) (by kernel_rfl) (by simp) ?_
  refine AllReadyH.cons (o := ⟨some 38, _, _, _, _, _⟩) rfl (fun K hK => ?_) AllReadyH.nil
  refine step_go (by rfl) 9 _ _ (by rfl) (fun _ _ => by kernel_rfl) _ (by rfl) (PBytes_any (kind := kind) (id := id) (P.out _ B6)) ?_
  rintro e w7 ⟨g7, rfl, _, K7, b7⟩
  refine ⟨_, rfl, ?_⟩
  have B7 := B6.trans (b7.mono B6.size)
  refine hK.out _ _ (B7) (fun hHeld => ?_)
  clear hK K
  try simp only [Act.put, List.setIfInBounds_toArray, List.set_cons_zero, List.set_cons_succ]
  refine wpAnyH_ready (rs := [35]) (by kernel_rfl) (by simp) ?_
  refine AllReadyH.cons (o := ⟨some 40, _, _, _, _, _⟩) rfl (fun K hK => ?_) AllReadyH.nil
  refine step_go (by rfl) 44 _ _ (by rfl) (fun _ _ => by kernel_rfl) _ (by rfl) (RB.out _ B7) ?_
  rintro e w8 ⟨g8, rfl, _, K8, b8⟩
  refine ⟨_, rfl, ?_⟩
  have B8 := B7.trans (b8.mono B7.size)
  refine hK.out _ _ (B8) (fun hHeld => ?_)
  clear hK K
  try simp only [Act.put, List.setIfInBounds_toArray, List.set_cons_zero, List.set_cons_succ]
  refine wpAnyH_ready (rs := [36]) (by kernel_rfl) (by simp) ?_
  refine AllReadyH.cons (o := ⟨some 41, _, _, _, _, _⟩) rfl (fun K hK => ?_) AllReadyH.nil
  refine step_go (by rfl) 21 _ _ (by rfl) (fun _ _ => by kernel_rfl) _ (by rfl) (Bytes_any _ _ (pageB kind id st) (pageB kind id st) _ ((K7.byt hpl).below b8) (K8.byt hpl)) ?_
  rintro e w9 ⟨rfl, n9, rfl⟩
  refine ⟨_, rfl, ?_⟩
  have B9 := below_drewN B8 n9
  refine hK.out _ _ (B9) (fun hHeld => ?_)
  clear hK K
  try simp only [Act.put, List.setIfInBounds_toArray, List.set_cons_zero, List.set_cons_succ]
  refine wpAnyH_take (i := 37) (oi := ⟨some 42, _, _, _, _, _⟩) (v := ?qv37sm) rfl (by kernel_rfl) (by kernel_rfl) (by kernel_rfl) (fun _ _ _ h => h) (Or.inl ⟨by rfl, ?qy37sm⟩) hHeld ?qr37sm
  case qy37sm => (intro w' hSw; go_simp; try with_reducible rfl)
  try simp only [Act.put, List.setIfInBounds_toArray, List.set_cons_zero, List.set_cons_succ]
  refine wpAnyH_take (i := 38) (oi := ⟨some 4, _, _, _, _, _⟩) (v := ?qv38sm) rfl (by kernel_rfl) (by kernel_rfl) (by kernel_rfl) (fun _ _ _ h => h) (Or.inl ⟨by rfl, ?qy38sm⟩) hHeld ?qr38sm
  case qy38sm => (intro w' hSw; go_simp; try with_reducible rfl)
  try simp only [Act.put, List.setIfInBounds_toArray, List.set_cons_zero, List.set_cons_succ]
  refine wpAnyH_done (by kernel_rfl) ?_ _
  refine NoPanic.normal ?_
  have BF := Lib.hid (show Below w.heap.size w (w8.drewN n9) from hHeld)
  go_wp2_with fail
  go_ret
  exact ⟨by simp, BF.out⟩
end Go.Proofs.YtdeibgljibcnlaaDoor
