/-
  NARROWER THAN 'FOR EVERY INPUT', by the rows' own cells (each row's printed sentence says how): FrameFlips: laid · FrameTorn: laid · FrameRest: laid · FrameAsks: laid.
  DERIVED. THE GIVEN ROWS OF THIS SEAT. 4 by the template 'for every input the law returns true; each argument reads behind the call as it read before'; 0 by the template 'total and deterministic' (their statements: YtbllooaalodhaaaDoorTotals.lean).
  GIVEN WITH THE SEED: the statements are not yours to turn. If you find one false, say at which input.
  Laid BY PROGRAM, IN A SANDBOX (cutbox-rows.mjs): the forced cells as the released guide's own fill.sh prints them over the translation 5e6b01acd9a3252c… (all of the seat's roots in one cut). By AI agents, Wed Nov 11 2026. No macro, syntax, notation, axiom, sorry.
-/
import Derived.Test.YtbllooaalodhaaaDoorChecked
import GoSem.Claim
import GoSem.ClaimJoined
import GoSem.ClaimMapViews
import Derived.JoinedTies
import Derived.KernelRfl
namespace Go.Proofs.YtbllooaalodhaaaDoor
/- THE CELL 'sum', in the pinned program and in every row, IS THE sha256 OF THE DUMP (.gsa) THAT YtbllooaalodhaaaDoorProg.lean LOADS. Nothing in Lean hashes anything: it is a label: what it is worth is what the hold of that sum in a sandbox is worth. -/
noncomputable def Tryd.pinned : Pinned := { name := "ytbllooaalodhaaadoor", sum := "5e6b01acd9a3252cb90adbb8ee561c1c87c425f09bc3f31a06126b1d63d8bec3", checked := Tryd.checked }
namespace Rows
def none {H : Type} : Left H := { results := [], args := [] }

/- WHAT THE LISTED PACKAGE-LEVEL VARIABLES READ AS WHEN THE CALL BEGINS. Each datum BY PROGRAM (the guide's laid-datum.mjs) off the statement by which the dump's own 'gosem.cut.vars' lays the variable. In a bare row this is a premise. The card (YtbllooaalodhaaaDoorCards.lean) ties it to the program's text. -/
def laid_errors_errorType {H : Type} : DataW H := .iface "internal/reflectlite.rtype" (.agg [.ptr (.lit (.string [101, 114, 114, 111, 114]))])

/-- 'pergolalaw9.FrameFlips': WHATEVER THE INPUT: true; the input reads as it did. -/
def frameFlipsSpec : ChangeSpec := { name := "frameFlips", fn := fun _ => fun
  | [d1, d2] => { results := [.lit (.bool true)], args := [d1, d2] }
  | _ => none }
def frameFlipsRow : OpenClaim := { program := "ytbllooaalodhaaadoor", sum := "5e6b01acd9a3252cb90adbb8ee561c1c87c425f09bc3f31a06126b1d63d8bec3", func := "pergola/pergolalaw9.FrameFlips", spec := "frameFlips", inPlace := ["internal/reflectlite.TypeOf", "internal/reflectlite.ValueOf", "(internal/reflectlite.Value).Type", "(internal/reflectlite.Value).IsNil", "(internal/reflectlite.Value).Elem", "(internal/reflectlite.Value).Set"], unfollowed := true, recurses := true, named := ["errors.errorType"], apart := false, laid := [("errors.errorType", laid_errors_errorType)] }
def FrameFlipsSaid : Prop := frameFlipsRow.holds Tryd.pinned (OpenSpec.ofChange frameFlipsSpec)

/-- ITS FALSE NEIGHBOUR: 'it returns false'. Refute it at one input. -/
def frameFlipsWrong : ChangeSpec := { name := "frameFlips", fn := fun _ => fun
  | [d1, d2] => { results := [.lit (.bool false)], args := [d1, d2] }
  | _ => none }
def FrameFlipsWrongFalsely : Prop := frameFlipsRow.holds Tryd.pinned (OpenSpec.ofChange frameFlipsWrong)

/-- 'pergolalaw9.FrameTorn': WHATEVER THE INPUT: true; the input reads as it did. -/
def frameTornSpec : ChangeSpec := { name := "frameTorn", fn := fun _ => fun
  | [d1, d2] => { results := [.lit (.bool true)], args := [d1, d2] }
  | _ => none }
def frameTornRow : OpenClaim := { program := "ytbllooaalodhaaadoor", sum := "5e6b01acd9a3252cb90adbb8ee561c1c87c425f09bc3f31a06126b1d63d8bec3", func := "pergola/pergolalaw9.FrameTorn", spec := "frameTorn", inPlace := ["internal/reflectlite.TypeOf", "internal/reflectlite.ValueOf", "(internal/reflectlite.Value).Type", "(internal/reflectlite.Value).IsNil", "(internal/reflectlite.Value).Elem", "(internal/reflectlite.Value).Set"], unfollowed := true, recurses := true, named := ["errors.errorType"], apart := false, laid := [("errors.errorType", laid_errors_errorType)] }
def FrameTornSaid : Prop := frameTornRow.holds Tryd.pinned (OpenSpec.ofChange frameTornSpec)

/-- ITS FALSE NEIGHBOUR: 'it returns false'. Refute it at one input. -/
def frameTornWrong : ChangeSpec := { name := "frameTorn", fn := fun _ => fun
  | [d1, d2] => { results := [.lit (.bool false)], args := [d1, d2] }
  | _ => none }
def FrameTornWrongFalsely : Prop := frameTornRow.holds Tryd.pinned (OpenSpec.ofChange frameTornWrong)

/-- 'pergolalaw9.FrameRest': WHATEVER THE INPUT: true; the input reads as it did. -/
def frameRestSpec : ChangeSpec := { name := "frameRest", fn := fun _ => fun
  | [d1, d2, d3] => { results := [.lit (.bool true)], args := [d1, d2, d3] }
  | _ => none }
def frameRestRow : OpenClaim := { program := "ytbllooaalodhaaadoor", sum := "5e6b01acd9a3252cb90adbb8ee561c1c87c425f09bc3f31a06126b1d63d8bec3", func := "pergola/pergolalaw9.FrameRest", spec := "frameRest", inPlace := ["internal/reflectlite.TypeOf", "internal/reflectlite.ValueOf", "(internal/reflectlite.Value).Type", "(internal/reflectlite.Value).IsNil", "(internal/reflectlite.Value).Elem", "(internal/reflectlite.Value).Set"], unfollowed := true, recurses := true, named := ["errors.errorType"], apart := false, laid := [("errors.errorType", laid_errors_errorType)] }
def FrameRestSaid : Prop := frameRestRow.holds Tryd.pinned (OpenSpec.ofChange frameRestSpec)

/-- ITS FALSE NEIGHBOUR: 'it returns false'. Refute it at one input. -/
def frameRestWrong : ChangeSpec := { name := "frameRest", fn := fun _ => fun
  | [d1, d2, d3] => { results := [.lit (.bool false)], args := [d1, d2, d3] }
  | _ => none }
def FrameRestWrongFalsely : Prop := frameRestRow.holds Tryd.pinned (OpenSpec.ofChange frameRestWrong)

/-- 'pergolalaw9.FrameAsks': WHATEVER THE INPUT: true; the input reads as it did. -/
def frameAsksSpec : ChangeSpec := { name := "frameAsks", fn := fun _ => fun
  | [d1, d2] => { results := [.lit (.bool true)], args := [d1, d2] }
  | _ => none }
def frameAsksRow : OpenClaim := { program := "ytbllooaalodhaaadoor", sum := "5e6b01acd9a3252cb90adbb8ee561c1c87c425f09bc3f31a06126b1d63d8bec3", func := "pergola/pergolalaw9.FrameAsks", spec := "frameAsks", inPlace := ["internal/reflectlite.TypeOf", "internal/reflectlite.ValueOf", "(internal/reflectlite.Value).Type", "(internal/reflectlite.Value).IsNil", "(internal/reflectlite.Value).Elem", "(internal/reflectlite.Value).Set"], unfollowed := true, recurses := true, named := ["errors.errorType"], apart := false, laid := [("errors.errorType", laid_errors_errorType)] }
def FrameAsksSaid : Prop := frameAsksRow.holds Tryd.pinned (OpenSpec.ofChange frameAsksSpec)

/-- ITS FALSE NEIGHBOUR: 'it returns false'. Refute it at one input. -/
def frameAsksWrong : ChangeSpec := { name := "frameAsks", fn := fun _ => fun
  | [d1, d2] => { results := [.lit (.bool false)], args := [d1, d2] }
  | _ => none }
def FrameAsksWrongFalsely : Prop := frameAsksRow.holds Tryd.pinned (OpenSpec.ofChange frameAsksWrong)

/- THE SECOND FORM. 'bulk': how many values and letters a reading holds, each counted each time it is reached (what is shared counts as often as it is met; a slice's spare places count too). A statement '..UptoSaid' is the law's where the arguments, and the package variables that the reading takes, are together of bulk at most 1048576: NARROWER than '..Said'. Prove '..Said' where nothing that the law and all that it calls make is longer than what came in: it says more and counts as full. Else prove '..UptoSaid'. A law counts once. -/
mutual
def uptoBulk {H : Type} : DataW H → Nat
  | .lit (.string bytes) => bytes.length + 1
  | .lit _ => 1
  | .nil => 1
  | .ptr d => uptoBulk d + 1
  | .slice elems spare => uptoBulkAll elems + uptoBulkAll spare + 1
  | .agg parts => uptoBulkAll parts + 1
  | .iface _ d => uptoBulk d + 1
  | .map entries => uptoBulkEntries entries + 1
  | .held _ => 1
def uptoBulkAll {H : Type} : List (DataW H) → Nat
  | [] => 0
  | d :: r => uptoBulk d + uptoBulkAll r
def uptoBulkEntries {H : Type} : List (Lit × DataW H) → Nat
  | [] => 0
  | x :: r => uptoBulkEntry x + uptoBulkEntries r
def uptoBulkEntry {H : Type} : Lit × DataW H → Nat
  | (.string bytes, d) => bytes.length + uptoBulk d + 1
  | (_, d) => uptoBulk d + 1
 end
def uptoSmall : (H : Type) → List (DataW H) → Bool := fun _ ds => decide (uptoBulkAll ds ≤ 1048576)
def OpenSpec.upto (s : _root_.Go.ChangeSpec) : _root_.Go.OpenSpec := { _root_.Go.OpenSpec.ofChange s with cond := some uptoSmall }

/-- 'pergolalaw9.FrameFlips', WHERE WHAT IT READS IS OF BULK AT MOST 1048576: true; the input reads as it did. -/
def frameFlipsUptoRow : OpenClaim := { program := "ytbllooaalodhaaadoor", sum := "5e6b01acd9a3252cb90adbb8ee561c1c87c425f09bc3f31a06126b1d63d8bec3", func := "pergola/pergolalaw9.FrameFlips", spec := "frameFlips", inPlace := ["internal/reflectlite.TypeOf", "internal/reflectlite.ValueOf", "(internal/reflectlite.Value).Type", "(internal/reflectlite.Value).IsNil", "(internal/reflectlite.Value).Elem", "(internal/reflectlite.Value).Set"], unfollowed := true, recurses := true, named := ["errors.errorType"], apart := false, laid := [("errors.errorType", laid_errors_errorType)], narrowed := true }
def FrameFlipsUptoSaid : Prop := frameFlipsUptoRow.holds Tryd.pinned (OpenSpec.upto frameFlipsSpec)

/-- 'pergolalaw9.FrameTorn', WHERE WHAT IT READS IS OF BULK AT MOST 1048576: true; the input reads as it did. -/
def frameTornUptoRow : OpenClaim := { program := "ytbllooaalodhaaadoor", sum := "5e6b01acd9a3252cb90adbb8ee561c1c87c425f09bc3f31a06126b1d63d8bec3", func := "pergola/pergolalaw9.FrameTorn", spec := "frameTorn", inPlace := ["internal/reflectlite.TypeOf", "internal/reflectlite.ValueOf", "(internal/reflectlite.Value).Type", "(internal/reflectlite.Value).IsNil", "(internal/reflectlite.Value).Elem", "(internal/reflectlite.Value).Set"], unfollowed := true, recurses := true, named := ["errors.errorType"], apart := false, laid := [("errors.errorType", laid_errors_errorType)], narrowed := true }
def FrameTornUptoSaid : Prop := frameTornUptoRow.holds Tryd.pinned (OpenSpec.upto frameTornSpec)

/-- 'pergolalaw9.FrameRest', WHERE WHAT IT READS IS OF BULK AT MOST 1048576: true; the input reads as it did. -/
def frameRestUptoRow : OpenClaim := { program := "ytbllooaalodhaaadoor", sum := "5e6b01acd9a3252cb90adbb8ee561c1c87c425f09bc3f31a06126b1d63d8bec3", func := "pergola/pergolalaw9.FrameRest", spec := "frameRest", inPlace := ["internal/reflectlite.TypeOf", "internal/reflectlite.ValueOf", "(internal/reflectlite.Value).Type", "(internal/reflectlite.Value).IsNil", "(internal/reflectlite.Value).Elem", "(internal/reflectlite.Value).Set"], unfollowed := true, recurses := true, named := ["errors.errorType"], apart := false, laid := [("errors.errorType", laid_errors_errorType)], narrowed := true }
def FrameRestUptoSaid : Prop := frameRestUptoRow.holds Tryd.pinned (OpenSpec.upto frameRestSpec)

/-- 'pergolalaw9.FrameAsks', WHERE WHAT IT READS IS OF BULK AT MOST 1048576: true; the input reads as it did. -/
def frameAsksUptoRow : OpenClaim := { program := "ytbllooaalodhaaadoor", sum := "5e6b01acd9a3252cb90adbb8ee561c1c87c425f09bc3f31a06126b1d63d8bec3", func := "pergola/pergolalaw9.FrameAsks", spec := "frameAsks", inPlace := ["internal/reflectlite.TypeOf", "internal/reflectlite.ValueOf", "(internal/reflectlite.Value).Type", "(internal/reflectlite.Value).IsNil", "(internal/reflectlite.Value).Elem", "(internal/reflectlite.Value).Set"], unfollowed := true, recurses := true, named := ["errors.errorType"], apart := false, laid := [("errors.errorType", laid_errors_errorType)], narrowed := true }
def FrameAsksUptoSaid : Prop := frameAsksUptoRow.holds Tryd.pinned (OpenSpec.upto frameAsksSpec)

end Rows
end Go.Proofs.YtbllooaalodhaaaDoor
