/- errors.Is(e, number) of what is joined. -/
import Derived.Test.YthijffpackkcnaaDoorJoin
namespace Go.Proofs.YthijffpackkcnaaDoor
open Go.RowKit Go.Extern.Stop Go.Stop Go.Extern

/-- an error of the fewer kinds, as one of all -/
def Er.en : Er → En
  | .none => .none
  | .num k => .num k
  | .fault op id e => .fault op id e.en
theorem Er.en_is {w : World} : ∀ {E : Er} {v : Value}, E.en.Is w v → E.Is w v
  | .none, _, h => h
  | .num _, _, h => h
  | .fault _ _ _, _, ⟨b, u, h1, h2, h3, h4, h5, h6⟩ => ⟨b, u, h1, h2, h3, h4, h5, Er.en_is h6⟩
theorem Er.is_en {w : World} : ∀ {E : Er} {v : Value}, E.Is w v → E.en.Is w v
  | .none, _, h => h
  | .num _, _, h => h
  | .fault _ _ _, _, ⟨b, u, h1, h2, h3, h4, h5, h6⟩ => ⟨b, u, h1, h2, h3, h4, h5, Er.is_en h6⟩

theorem noIsJ (v : Value) (xT : TypeId) (w : World) : (Instr.typeAssert (.iface 81 v) xT 76 true).run Tryd.prog w = .ok (.tuple #[.nilIface, .bool false]) w := run_typeAssert_lacksB Tryd.underlying76 (by kernel_rfl) (by kernel_rfl) v xT w

set_option maxHeartbeats 2000000 in
set_option maxRecDepth 100000 in
theorem is_many (es : List Er) (hne : ∀ e ∈ es, e ≠ .none) (k : Int) (v : Value) (w : World) (hv : (En.many true (es.map Er.en)).Is w v) :
    Calls Tryd.prog 21 #[v, .iface 25 (.int .i64 k), .bool true] w fun e w' => e = .returned (.bool (es.any fun e => e.has k)) ∧ w = w' := by
  obtain ⟨_, b, s, vs, rfl, hbl, hs, hr, hes⟩ := hv
  rw [show manyT true = 81 from rfl]
  have hlen := hes.length
  rw [List.length_map] at hr hlen
  obtain ⟨ao, c, rfl, h1, h2, _, h3⟩ := hr
  unfold maxLen at h2
  have nJ := noIsJ
  have uJ := as1_lacks_join
  have vJ := as2_has_join
  have mJ := m_join
  have hty := run_eql_iface_types (P := Tryd.prog) 81 25 (.pointer (some ⟨b, 0, none⟩)) (.int .i64 k) Tryd.underlying27 (by decide) w
  have HC := Lib.hid h3
  have HE := Lib.hid hes
  have HN := Lib.hid hne
  have HL := Lib.hid hlen
  have HU := Lib.hid (U_join b _ w hs)
  clear h3 hes hne hlen hs
  go_enter Tryd.func21, Tryd.ntmps21
  go_wp2
  go_loopg [0] 0 (fun n u wr => w = wr ∧ u = .iface 81 (.pointer (some ⟨b, 0, none⟩)))
  case atStart => exact ⟨rfl, rfl⟩
  case round =>
    obtain ⟨rfl, rfl⟩ := hrel
    go_wp2_with (go_at_call 68; refine HU.out.mono ?_; rintro e w' ⟨rfl, rfl⟩)
    go_loopw [45] (fun i wr => ∃ q : Nat, q ≤ es.length ∧ i = .int .i64 q ∧ Hid ((es.take q).any (fun e => e.has k) = false) ∧ w = wr) (fun i _ => es.length - (intOf i).toNat)
    case atStart => exact ⟨0, Nat.zero_le _, rfl, Lib.hid rfl, rfl⟩
    case round =>
      obtain ⟨q, hq, rfl, hn, rfl⟩ := hrel
      by_cases hlt : q < es.length
      · have hlt' : q < vs.length := by rw [HL.out]; exact hlt
        obtain ⟨b', off, rfl, hbl', hc⟩ := HC.out q hlt'
        have hi0 := HE.out.get q (by rw [List.length_map]; exact hlt) hlt'
        rw [List.getElem_map] at hi0
        have hi := Er.en_is hi0
        clear hi0
        have hno := HN.out _ (List.getElem_mem hlt)
        have HI := Lib.hid (is_loop es[q] k _ _ hi hno)
        have i0 : (0 : Int) ≤ (q : Int) := by omega
        have i1 : (q : Int) < (es.length : Int) := by omega
        have hstep : (es.take (q + 1)).any (fun e => e.has k) = ((es.take q).any (fun e => e.has k) || es[q].has k) := by
          rw [List.take_succ_eq_append_getElem hlt, List.any_append]; simp
        have hmem : es[q].has k = true → (es.any fun e => e.has k) = true := fun h => List.any_eq_true.2 ⟨_, List.getElem_mem hlt, h⟩
        rw [hn.out, Bool.false_or] at hstep
        cases hh : es[q].has k with
        | true =>
          have HT := Lib.hid (hmem hh)
          rw [hh] at HI
          clear hstep hmem hh hi hno hn
          go_wp2_with fail
          refine HI.out.mono ?_
          rintro e w' ⟨rfl, rfl⟩
          go_wp2_with fail
          go_ret
          exact ⟨by rw [HT.out]; rfl, rfl⟩
        | false =>
          rw [hh] at hstep HI
          have HT := Lib.hid hstep
          clear hstep hmem hh hi hno hn
          go_wp2_with fail
          refine HI.out.mono ?_
          rintro e w' ⟨rfl, rfl⟩
          go_wp2_with fail
          go_roundw
          case rel => exact ⟨q + 1, hlt, by go_num, HT, trivial⟩
          case measure => simp [intOf]; omega
      · obtain rfl : q = es.length := by omega
        have HT := Lib.hid (show (es.any fun e => e.has k) = false by have h := hn.out; rwa [List.take_length] at h)
        clear hn
        go_wp2_with fail
        go_ret
        exact ⟨by rw [HT.out]; rfl, rfl⟩

/-- errors.Is(e, number) of what is joined -/
theorem IsJ_any (es : List Er) (hne : ∀ e ∈ es, e ≠ .none) (k : Int) (v : Value) (w : World) (hv : (En.many true (es.map Er.en)).Is w v) :
    Calls Tryd.prog 8 #[v, .iface 25 (.int .i64 k)] w fun e w' => e = .returned (.bool (es.any fun e => e.has k)) ∧ w = w' := by
  have h8 := @run_callFunc_extern Tryd.prog 20 _ Extern.ReflectliteType.typeOf Tryd.func20 (by kernel_rfl) (by kernel_rfl) (by kernel_rfl) (by kernel_rfl)
  have h32 := @run_callFunc_extern Tryd.prog 58 _ comparableFn Tryd.func58 (by kernel_rfl) (by kernel_rfl) (by kernel_rfl) (by kernel_rfl)
  have tT := isTypeOf
  have cT := isComparable
  have mR := isMethodComparable
  have HI := Lib.hid (is_many es hne k v w hv)
  obtain ⟨_, b, s, vs, rfl, _⟩ := hv
  rw [show manyT true = 81 from rfl] at HI ⊢
  go_enter Tryd.func8, Tryd.ntmps8
  go_wp2_with (go_at_call 21; refine HI.out.mono ?_; rintro e w' ⟨rfl, rfl⟩)
  go_ret
  exact ⟨rfl, rfl⟩
end Go.Proofs.YthijffpackkcnaaDoor
