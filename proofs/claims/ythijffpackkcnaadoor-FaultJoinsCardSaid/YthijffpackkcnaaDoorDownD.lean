/- fault.down, Root, Deep at any error; fault.New. -/
import Derived.Test.YthijffpackkcnaaDoorWrappedD
import Derived.Deep.LoopGhost
namespace Go.Proofs.YthijffpackkcnaaDoor
open Go.RowKit

/-- is there one? -/
def En.isNone : En → Bool | .none => true | _ => false
theorem En.isNone_iff {e : En} : e.isNone = true ↔ e = .none := by cases e <;> simp [En.isNone]
/-- the last error that is wrapped, one by one; how many steps -/
def En.down : En → En × Nat
  | .fault op id x => if x.isNone then (.fault op id x, 0) else (x.down.1, x.down.2 + 1)
  | .cover x => if x.isNone then (.cover x, 0) else (x.down.1, x.down.2 + 1)
  | e => (e, 0)
theorem En.down_one (e : En) : e.down = if e.one.isNone then (e, 0) else (e.one.down.1, e.one.down.2 + 1) := by
  cases e with
  | fault op id x => rw [En.down]; rfl
  | cover x => rw [En.down]; rfl
  | _ => simp [En.down, En.one, En.isNone]
theorem En.one_sz (e : En) (h : e.one.isNone = false) : e.one.sz < e.sz := by
  cases e <;> simp [En.one, En.isNone, En.sz] at h ⊢
theorem En.down_le : ∀ e : En, e.down.2 < e.sz
  | .none => by simp [En.down, En.sz]
  | .num _ => by simp [En.down, En.sz]
  | .fault op id x => by
    have := En.down_le x
    simp only [En.down, En.sz]
    split <;> simp <;> omega
  | .many _ _ => by simp [En.down, En.sz]
  | .plain _ => by simp [En.down, En.sz]
  | .nilf => by simp [En.down, En.sz]
  | .cover x => by
    have := En.down_le x
    simp only [En.down, En.sz]
    split <;> simp <;> omega

def DownRet (w : World) (r : En × Nat) (e : Ending) (w' : World) : Prop := ∃ v, e = .returned (.tuple #[v, .int .i64 (r.2 : Int)]) ∧ r.1.Is w v ∧ w = w'

set_option maxHeartbeats 1000000 in
theorem down_any (e : En) (u : Value) (w : World) (he : e.Is w u) (hz : e.sz ≤ 1000000) :
    Calls Tryd.prog 24 #[u] w (DownRet w e.down) := by
  by_cases h0 : e = .none
  · subst h0
    obtain rfl : u = .nilIface := he
    go_enter Tryd.func24, Tryd.ntmps24
    go_wp2
    refine wp_loop_rounds 1 ?_
    rw [rounds_succ]
    go_wp2
    go_ret2
    exact ⟨_, rfl, rfl, rfl⟩
  · have H0 := Lib.hid h0
    have HE := Lib.hid he
    clear h0 he
    have hd := e.down_le
    generalize hD : e.down = D at *
    have HD := Lib.hid hD
    have hD2 : D.2 ≤ 1000000 := by omega
    clear hD hd hz
    go_enter Tryd.func24, Tryd.ntmps24
    go_wp2
    go_loopg [0, 3] e.sz (fun n v s wr => w = wr ∧ ∃ (x : En) (k : Nat), Hid (x.Is w v) ∧ Hid (x ≠ .none) ∧ s = .int .i64 k ∧ x.sz ≤ n ∧ Hid (D = (x.down.1, k + x.down.2)))
    case atStart => exact ⟨rfl, e, 0, HE, H0, rfl, Nat.le_refl _, Lib.hid (by rw [← HD.out]; simp)⟩
    case round =>
      obtain ⟨rfl, x, k, hx, hn, rfl, hsz, hr⟩ := hrel
      obtain ⟨T, v, rfl⟩ := hx.out.some hn.out
      have hk : k ≤ 1000000 := by have := congrArg Prod.snd hr.out; simp at this; omega
      cases hone : x.one.isNone with
      | true =>
        have hfin : D = (x, k) := by rw [hr.out, En.down_one, hone]; simp
        have HF := Lib.hid hfin
        have hon : x.one = .none := En.isNone_iff.1 hone
        have HO := Lib.hid hon
        clear hfin hon hone
        go_wp2_with (go_at_call 32; refine (Unwrap_any x _ _ hx.out hn.out).mono ?_; rw [HO.out]; rintro ev w' ⟨y, rfl, rfl, rfl⟩)
        go_ret2
        refine ⟨_, by rw [HF.out]; rfl, ?_, rfl⟩
        rw [HF.out]; exact hx.out
      | false =>
        have hlt := x.one_sz hone
        have hr' : D = (x.one.down.1, (k + 1) + x.one.down.2) := by rw [hr.out, En.down_one x, hone]; simp; omega
        obtain ⟨y, hy⟩ : ∃ y, x.one = y := ⟨_, rfl⟩
        rw [hy] at hone hlt hr'
        have HY := Lib.hid hy
        have HN := Lib.hid (show y ≠ .none from fun h => by rw [h] at hone; cases hone)
        have hlt' : y.sz < gk := by omega
        have HR := Lib.hid hr'
        clear hr' hone hlt hy
        go_wp2_with fail
        refine (Unwrap_any x _ _ hx.out hn.out).mono ?_
        rw [HY.out]
        rintro ev w' ⟨q, rfl, hq, rfl⟩
        obtain ⟨T2, v2, rfl⟩ := hq.some HN.out
        have HQ := Lib.hid hq
        clear hq hx
        go_wp2_with fail
        go_roundg y.sz
        case measure => exact hlt'
        case rel => exact ⟨rfl, y, k + 1, HQ, HN, by go_num, Nat.le_refl _, HR⟩

theorem Deep_any (e : En) (u : Value) (w : World) (he : e.Is w u) (hz : e.sz ≤ 1000000) :
    Calls Tryd.prog 10 #[u] w fun ev w' => ev = .returned (.int .i64 (e.down.2 : Int)) ∧ w = w' := by
  have HE := Lib.hid he
  clear he
  generalize hD : e.down = D
  have HD := Lib.hid hD
  clear hD
  go_enter Tryd.func10, Tryd.ntmps10
  go_wp2_with (go_at_call 24; refine (down_any e _ _ HE.out hz).mono ?_; rw [HD.out]; rintro ev w' ⟨v, rfl, hv, rfl⟩)
  go_ret
  exact ⟨rfl, rfl⟩

/-- what fault.New makes of an error -/
def En.wrap (op : ByteArray) (id : Int) (e : En) : En := if e.isNone then .none else .fault op id e
/-- The call hands back an error. -/
def EnRet (w : World) (x : En) (e : Ending) (w' : World) : Prop := ∃ v, e = .returned v ∧ x.Is w' v ∧ Below w.heap.size w w'
theorem New_en (op : ByteArray) (id : Int) (e : En) (u : Value) (w : World) (he : e.Is w u) :
    Calls Tryd.prog 6 #[.string op, .int .i64 id, u] w (EnRet w (e.wrap op id)) := by
  cases hn : e.isNone with
  | true =>
    obtain rfl := En.isNone_iff.1 hn
    obtain rfl : u = .nilIface := he
    clear hn
    go_enter Tryd.func6, Tryd.ntmps6
    go_wp2
    go_ret
    exact ⟨_, rfl, rfl, Below.refl _ _⟩
  | false =>
    obtain ⟨T, v, rfl⟩ := he.some (fun h => by rw [h] at hn; cases hn)
    have hw : e.wrap op id = .fault op id e := by simp [En.wrap, hn]
    rw [hw]
    have hb : Below w.heap.size w (w.alloc (.cells #[.string op, .int .i64 id, .iface T v] 33)) := (Below.refl _ _).alloc (Nat.le_refl _) _
    have hv' := Lib.hid (En.Is.below hb he)
    clear he hn hw
    go_enter Tryd.func6, Tryd.ntmps6
    go_wp2
    go_ret
    exact ⟨_, rfl, ⟨_, _, rfl, by simp, by simp, by simp, by simp, hv'.out⟩, hb⟩
end Go.Proofs.YthijffpackkcnaaDoor
