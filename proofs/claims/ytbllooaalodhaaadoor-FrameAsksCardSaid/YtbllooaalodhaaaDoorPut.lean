/- frame.put and frame.Put: what they lay. -/
import Derived.Test.YtbllooaalodhaaaDoorSum
import Derived.Test.YtbllooaalodhaaaDoorErr
namespace Go.Proofs.YtbllooaalodhaaaDoor
open Go.RowKit

/-- The call hands back a new row of bytes. -/
def NewBytes (w : World) (l : List UInt8) (e : Ending) (w' : World) : Prop := ∃ v, e = .returned v ∧ Own w' w.heap.size v l ∧ Below w.heap.size w w'

theorem own4 (w : World) (a b c d : Int) (x y z t : UInt8) (ha : a = (x.toNat : Int)) (hb : b = (y.toNat : Int)) (hc : c = (z.toNat : Int)) (hd : d = (t.toNat : Int)) :
    Own (w.alloc (.cells #[.int .u8 a, .int .u8 b, .int .u8 c, .int .u8 d] 5)) w.heap.size (.slice (some ⟨w.heap.size, 0, none⟩) 4 4) [x, y, z, t] := by
  subst ha hb hc hd
  exact World.ownsRow_lit (base := w.heap.size) (e := 5) (size := 1) w #[.int .u8 (x.toNat : Int), .int .u8 (y.toNat : Int), .int .u8 (z.toNat : Int), .int .u8 (t.toNat : Int)] 4 (Nat.le_refl _) (by simp [maxLen]) rfl

theorem put_any (x : BitVec 32) (w : World) : Calls Tryd.prog 23 #[.int .u32 (x.toNat : Int)] w (NewBytes w (le32 x)) := by
  have hx := x.isLt
  go_enter Tryd.func23, Tryd.ntmps23
  go_wp2
  go_ret
  exact ⟨_, rfl, own4 _ _ _ _ _ _ _ _ _ (byte_of _) (by rw [UInt8.toNat_ofNat']; omega) (by rw [UInt8.toNat_ofNat']; omega) (by rw [UInt8.toNat_ofNat']; omega), (Below.refl _ _).alloc (Nat.le_refl _) _⟩

theorem put_at (n : Int) (x : BitVec 32) (w : World) (hn : n = (x.toNat : Int)) : Calls Tryd.prog 23 #[.int .u32 n] w (NewBytes w (le32 x)) := by
  subst hn; exact put_any x w

/-- what a frame is -/
def frameOf (p : List UInt8) : List UInt8 := le32 (BitVec.ofNat 32 p.length) ++ p ++ le32 (crcSum (le32 (BitVec.ofNat 32 p.length) ++ p))

/-- The call hands back new bytes and no error. -/
def NewBytesOk (w : World) (l : List UInt8) (e : Ending) (w' : World) : Prop := ∃ v, e = .returned (.tuple #[v, .nilIface]) ∧ Own w' w.heap.size v l ∧ Below w.heap.size w w'

theorem Put_ok (v : Value) (p : List UInt8) (w : World) (hv : Byt w v p) (hp : p.length ≤ 65536) :
    Calls Tryd.prog 8 #[v] w (NewBytesOk w (frameOf p)) := by
  obtain ⟨ao, c, rfl, h1, h2, h0, h3⟩ := hv.open
  clear h3
  unfold maxLen at h2
  have hlt : ¬ (65536 : Int) < (p.length : Int) := by omega
  go_enter Tryd.func8, Tryd.ntmps8
  go_wp2_with fail
  refine (put_at _ (BitVec.ofNat 32 p.length) w (by simp; omega)).mono ?_
  rintro e w1 ⟨v1, rfl, ho1, hb1⟩
  have hv1 := hv.below hb1
  have hs1 := hb1.size
  have hL : (le32 (BitVec.ofNat 32 p.length)).length = 4 := rfl
  go_wp2_with (at_builtin; refine wpList_append_byt rfl _ _ rfl w.heap.size _ _ rfl ho1 _ _ rfl hv1 ?c1 ?c2 ?_)
  case c1 => rw [hL]; omega
  case c2 => exact hs1
  intro v2 w2 ho2 hb2
  have hs2 := hb2.size
  have hs2' : w.heap.size ≤ w2.heap.size := Nat.le_trans hs1 hs2
  go_wp2_with (go_at_call 20; refine (sum_any _ _ _ ho2.byt).mono ?_; rintro e w' ⟨rfl, rfl⟩)
  refine (put_any _ _).mono ?_
  rintro e w3 ⟨v3, rfl, ho3, hb3⟩
  have ho2' := ho2.below hb3
  have hs3 := hb3.size
  go_wp2_with (at_builtin; refine wpList_append_byt rfl _ _ rfl w.heap.size _ _ rfl ho2' _ _ rfl ho3.byt ?c1 ?c2 ?_)
  case c1 => have h4 : ∀ x, (le32 x).length = 4 := fun _ => rfl
             rw [List.length_append, h4, h4]; omega
  case c2 => omega
  intro v4 w4 ho4 hb4
  go_wp2
  go_ret2
  exact ⟨_, rfl, ho4, ((hb1.trans hb2).trans (hb3.mono hs2')).trans hb4⟩


/-- The call hands back no bytes and an error. -/
def NoBytes (w : World) (E : Er) (e : Ending) (w' : World) : Prop := ∃ u, e = .returned (.tuple #[.slice none 0 0, u]) ∧ E.Is w' u ∧ Below w.heap.size w w'

theorem Put_many (v : Value) (p : List UInt8) (w : World) (hv : Byt w v p) (hp : 65536 < p.length) :
    Calls Tryd.prog 8 #[v] w (NoBytes w (.fault ⟨#[102, 114, 97, 109, 101]⟩ 0 (.num 13))) := by
  obtain ⟨ao, c, rfl, h1, h2, h0, h3⟩ := hv.open
  clear h3
  unfold maxLen at h2
  have hlt : (65536 : Int) < (p.length : Int) := by omega
  go_enter Tryd.func8, Tryd.ntmps8
  go_wp2_with (go_at_call 22; refine (New_er _ _ (.num 13) _ _ rfl).mono ?_; rintro e w1 ⟨u, rfl, he, hb⟩)
  go_ret2
  exact ⟨_, rfl, he, hb⟩
end Go.Proofs.YtbllooaalodhaaaDoor
