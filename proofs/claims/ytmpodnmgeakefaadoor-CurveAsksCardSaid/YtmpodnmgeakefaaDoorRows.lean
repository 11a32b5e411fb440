/-
  NARROWER THAN 'FOR EVERY INPUT', by the rows' own cells (each row's printed sentence says how): CurveGrows: laid · CurveCentre: laid · CurveNeighbours: laid · CurveQuarters: laid · CurveBack: laid · CurveAsks: laid.
  DERIVED. THE GIVEN ROWS OF THIS SEAT. 6 by the template 'for every input the law returns true; each argument reads behind the call as it read before'; 0 by the template 'total and deterministic' (their statements: YtmpodnmgeakefaaDoorTotals.lean).
  GIVEN WITH THE SEED: the statements are not yours to turn. If you find one false, say at which input.
  Laid BY PROGRAM, IN A SANDBOX (cutbox-rows.mjs): the forced cells as the released guide's own fill.sh prints them over the translation 436ccf9307d03960… (all of the seat's roots in one cut). By AI agents, Wed Nov 11 2026. No macro, syntax, notation, axiom, sorry.
-/
import Derived.Test.YtmpodnmgeakefaaDoorChecked
import GoSem.Claim
import GoSem.ClaimJoined
import GoSem.ClaimMapViews
import Derived.JoinedTies
import Derived.KernelRfl
namespace Go.Proofs.YtmpodnmgeakefaaDoor
/- THE CELL 'sum', in the pinned program and in every row, IS THE sha256 OF THE DUMP (.gsa) THAT YtmpodnmgeakefaaDoorProg.lean LOADS. Nothing in Lean hashes anything: it is a label: what it is worth is what the hold of that sum in a sandbox is worth. -/
noncomputable def Tryd.pinned : Pinned := { name := "ytmpodnmgeakefaadoor", sum := "436ccf9307d039607e26a569604ca305e2c940ef1093d4403af1d93467977aef", checked := Tryd.checked }
namespace Rows
def none {H : Type} : Left H := { results := [], args := [] }

/- WHAT THE LISTED PACKAGE-LEVEL VARIABLES READ AS WHEN THE CALL BEGINS. Each datum BY PROGRAM (the guide's laid-datum.mjs) off the statement by which the dump's own 'gosem.cut.vars' lays the variable. In a bare row this is a premise. The card (YtmpodnmgeakefaaDoorCards.lean) ties it to the program's text. -/
def laid_errors_errorType {H : Type} : DataW H := .iface "internal/reflectlite.rtype" (.agg [.ptr (.lit (.string [101, 114, 114, 111, 114]))])

/-- 'pergolalaw19.CurveGrows': WHATEVER THE INPUT: true; the input reads as it did. -/
def curveGrowsSpec : ChangeSpec := { name := "curveGrows", fn := fun _ => fun
  | [d1, d2] => { results := [.lit (.bool true)], args := [d1, d2] }
  | _ => none }
def curveGrowsRow : OpenClaim := { program := "ytmpodnmgeakefaadoor", sum := "436ccf9307d039607e26a569604ca305e2c940ef1093d4403af1d93467977aef", func := "pergola/pergolalaw19.CurveGrows", spec := "curveGrows", inPlace := ["internal/reflectlite.TypeOf", "internal/reflectlite.ValueOf", "(internal/reflectlite.Value).Type", "(internal/reflectlite.Value).IsNil", "(internal/reflectlite.Value).Elem", "(internal/reflectlite.Value).Set"], unfollowed := true, recurses := true, named := ["errors.errorType"], apart := false, laid := [("errors.errorType", laid_errors_errorType)] }
def CurveGrowsSaid : Prop := curveGrowsRow.holds Tryd.pinned (OpenSpec.ofChange curveGrowsSpec)

/-- ITS FALSE NEIGHBOUR: 'it returns false'. Refute it at one input. -/
def curveGrowsWrong : ChangeSpec := { name := "curveGrows", fn := fun _ => fun
  | [d1, d2] => { results := [.lit (.bool false)], args := [d1, d2] }
  | _ => none }
def CurveGrowsWrongFalsely : Prop := curveGrowsRow.holds Tryd.pinned (OpenSpec.ofChange curveGrowsWrong)

/-- 'pergolalaw19.CurveCentre': WHATEVER THE INPUT: true; the input reads as it did. -/
def curveCentreSpec : ChangeSpec := { name := "curveCentre", fn := fun _ => fun
  | [d] => { results := [.lit (.bool true)], args := [d] }
  | _ => none }
def curveCentreRow : OpenClaim := { program := "ytmpodnmgeakefaadoor", sum := "436ccf9307d039607e26a569604ca305e2c940ef1093d4403af1d93467977aef", func := "pergola/pergolalaw19.CurveCentre", spec := "curveCentre", inPlace := ["internal/reflectlite.TypeOf", "internal/reflectlite.ValueOf", "(internal/reflectlite.Value).Type", "(internal/reflectlite.Value).IsNil", "(internal/reflectlite.Value).Elem", "(internal/reflectlite.Value).Set"], unfollowed := true, recurses := true, named := ["errors.errorType"], apart := false, laid := [("errors.errorType", laid_errors_errorType)] }
def CurveCentreSaid : Prop := curveCentreRow.holds Tryd.pinned (OpenSpec.ofChange curveCentreSpec)

/-- ITS FALSE NEIGHBOUR: 'it returns false'. Refute it at one input. -/
def curveCentreWrong : ChangeSpec := { name := "curveCentre", fn := fun _ => fun
  | [d] => { results := [.lit (.bool false)], args := [d] }
  | _ => none }
def CurveCentreWrongFalsely : Prop := curveCentreRow.holds Tryd.pinned (OpenSpec.ofChange curveCentreWrong)

/-- 'pergolalaw19.CurveNeighbours': WHATEVER THE INPUT: true; the input reads as it did. -/
def curveNeighboursSpec : ChangeSpec := { name := "curveNeighbours", fn := fun _ => fun
  | [d1, d2] => { results := [.lit (.bool true)], args := [d1, d2] }
  | _ => none }
def curveNeighboursRow : OpenClaim := { program := "ytmpodnmgeakefaadoor", sum := "436ccf9307d039607e26a569604ca305e2c940ef1093d4403af1d93467977aef", func := "pergola/pergolalaw19.CurveNeighbours", spec := "curveNeighbours", inPlace := ["internal/reflectlite.TypeOf", "internal/reflectlite.ValueOf", "(internal/reflectlite.Value).Type", "(internal/reflectlite.Value).IsNil", "(internal/reflectlite.Value).Elem", "(internal/reflectlite.Value).Set"], unfollowed := true, recurses := true, named := ["errors.errorType"], apart := false, laid := [("errors.errorType", laid_errors_errorType)] }
def CurveNeighboursSaid : Prop := curveNeighboursRow.holds Tryd.pinned (OpenSpec.ofChange curveNeighboursSpec)

/-- ITS FALSE NEIGHBOUR: 'it returns false'. Refute it at one input. -/
def curveNeighboursWrong : ChangeSpec := { name := "curveNeighbours", fn := fun _ => fun
  | [d1, d2] => { results := [.lit (.bool false)], args := [d1, d2] }
  | _ => none }
def CurveNeighboursWrongFalsely : Prop := curveNeighboursRow.holds Tryd.pinned (OpenSpec.ofChange curveNeighboursWrong)

/-- 'pergolalaw19.CurveQuarters': WHATEVER THE INPUT: true; the input reads as it did. -/
def curveQuartersSpec : ChangeSpec := { name := "curveQuarters", fn := fun _ => fun
  | [d1, d2, d3] => { results := [.lit (.bool true)], args := [d1, d2, d3] }
  | _ => none }
def curveQuartersRow : OpenClaim := { program := "ytmpodnmgeakefaadoor", sum := "436ccf9307d039607e26a569604ca305e2c940ef1093d4403af1d93467977aef", func := "pergola/pergolalaw19.CurveQuarters", spec := "curveQuarters", inPlace := ["internal/reflectlite.TypeOf", "internal/reflectlite.ValueOf", "(internal/reflectlite.Value).Type", "(internal/reflectlite.Value).IsNil", "(internal/reflectlite.Value).Elem", "(internal/reflectlite.Value).Set"], unfollowed := true, recurses := true, named := ["errors.errorType"], apart := false, laid := [("errors.errorType", laid_errors_errorType)] }
def CurveQuartersSaid : Prop := curveQuartersRow.holds Tryd.pinned (OpenSpec.ofChange curveQuartersSpec)

/-- ITS FALSE NEIGHBOUR: 'it returns false'. Refute it at one input. -/
def curveQuartersWrong : ChangeSpec := { name := "curveQuarters", fn := fun _ => fun
  | [d1, d2, d3] => { results := [.lit (.bool false)], args := [d1, d2, d3] }
  | _ => none }
def CurveQuartersWrongFalsely : Prop := curveQuartersRow.holds Tryd.pinned (OpenSpec.ofChange curveQuartersWrong)

/-- 'pergolalaw19.CurveBack': WHATEVER THE INPUT: true; the input reads as it did. -/
def curveBackSpec : ChangeSpec := { name := "curveBack", fn := fun _ => fun
  | [d1, d2, d3] => { results := [.lit (.bool true)], args := [d1, d2, d3] }
  | _ => none }
def curveBackRow : OpenClaim := { program := "ytmpodnmgeakefaadoor", sum := "436ccf9307d039607e26a569604ca305e2c940ef1093d4403af1d93467977aef", func := "pergola/pergolalaw19.CurveBack", spec := "curveBack", inPlace := ["internal/reflectlite.TypeOf", "internal/reflectlite.ValueOf", "(internal/reflectlite.Value).Type", "(internal/reflectlite.Value).IsNil", "(internal/reflectlite.Value).Elem", "(internal/reflectlite.Value).Set"], unfollowed := true, recurses := true, named := ["errors.errorType"], apart := false, laid := [("errors.errorType", laid_errors_errorType)] }
def CurveBackSaid : Prop := curveBackRow.holds Tryd.pinned (OpenSpec.ofChange curveBackSpec)

/-- ITS FALSE NEIGHBOUR: 'it returns false'. Refute it at one input. -/
def curveBackWrong : ChangeSpec := { name := "curveBack", fn := fun _ => fun
  | [d1, d2, d3] => { results := [.lit (.bool false)], args := [d1, d2, d3] }
  | _ => none }
def CurveBackWrongFalsely : Prop := curveBackRow.holds Tryd.pinned (OpenSpec.ofChange curveBackWrong)

/-- 'pergolalaw19.CurveAsks': WHATEVER THE INPUT: true; the input reads as it did. -/
def curveAsksSpec : ChangeSpec := { name := "curveAsks", fn := fun _ => fun
  | [d1, d2, d3, d4] => { results := [.lit (.bool true)], args := [d1, d2, d3, d4] }
  | _ => none }
def curveAsksRow : OpenClaim := { program := "ytmpodnmgeakefaadoor", sum := "436ccf9307d039607e26a569604ca305e2c940ef1093d4403af1d93467977aef", func := "pergola/pergolalaw19.CurveAsks", spec := "curveAsks", inPlace := ["internal/reflectlite.TypeOf", "internal/reflectlite.ValueOf", "(internal/reflectlite.Value).Type", "(internal/reflectlite.Value).IsNil", "(internal/reflectlite.Value).Elem", "(internal/reflectlite.Value).Set"], unfollowed := true, recurses := true, named := ["errors.errorType"], apart := false, laid := [("errors.errorType", laid_errors_errorType)] }
def CurveAsksSaid : Prop := curveAsksRow.holds Tryd.pinned (OpenSpec.ofChange curveAsksSpec)

/-- ITS FALSE NEIGHBOUR: 'it returns false'. Refute it at one input. -/
def curveAsksWrong : ChangeSpec := { name := "curveAsks", fn := fun _ => fun
  | [d1, d2, d3, d4] => { results := [.lit (.bool false)], args := [d1, d2, d3, d4] }
  | _ => none }
def CurveAsksWrongFalsely : Prop := curveAsksRow.holds Tryd.pinned (OpenSpec.ofChange curveAsksWrong)

/- THE SECOND FORM. 'bulk': how many values and letters a reading holds, each counted each time it is reached (what is shared counts as often as it is met; a slice's spare places count too). A statement '..UptoSaid' is the law's where the arguments, and the package variables that the reading takes, are together of bulk at most 1048576: NARROWER than '..Said'. Prove '..Said' where nothing that the law and all that it calls make is longer than what came in: it says more and counts as full. Else prove '..UptoSaid'. A law counts once. -/
mutual
def uptoBulk {H : Type} : DataW H → Nat
  | .lit (.string bytes) => bytes.length + 1
  | .lit _ => 1
  | .nil => 1
  | .ptr d => uptoBulk d + 1
  | .slice elems spare => uptoBulkAll elems + uptoBulkAll spare + 1
  | .agg parts => uptoBulkAll parts + 1
  | .iface _ d => uptoBulk d + 1
  | .map entries => uptoBulkEntries entries + 1
  | .held _ => 1
def uptoBulkAll {H : Type} : List (DataW H) → Nat
  | [] => 0
  | d :: r => uptoBulk d + uptoBulkAll r
def uptoBulkEntries {H : Type} : List (Lit × DataW H) → Nat
  | [] => 0
  | x :: r => uptoBulkEntry x + uptoBulkEntries r
def uptoBulkEntry {H : Type} : Lit × DataW H → Nat
  | (.string bytes, d) => bytes.length + uptoBulk d + 1
  | (_, d) => uptoBulk d + 1
 end
def uptoSmall : (H : Type) → List (DataW H) → Bool := fun _ ds => decide (uptoBulkAll ds ≤ 1048576)
def OpenSpec.upto (s : _root_.Go.ChangeSpec) : _root_.Go.OpenSpec := { _root_.Go.OpenSpec.ofChange s with cond := some uptoSmall }

/-- 'pergolalaw19.CurveGrows', WHERE WHAT IT READS IS OF BULK AT MOST 1048576: true; the input reads as it did. -/
def curveGrowsUptoRow : OpenClaim := { program := "ytmpodnmgeakefaadoor", sum := "436ccf9307d039607e26a569604ca305e2c940ef1093d4403af1d93467977aef", func := "pergola/pergolalaw19.CurveGrows", spec := "curveGrows", inPlace := ["internal/reflectlite.TypeOf", "internal/reflectlite.ValueOf", "(internal/reflectlite.Value).Type", "(internal/reflectlite.Value).IsNil", "(internal/reflectlite.Value).Elem", "(internal/reflectlite.Value).Set"], unfollowed := true, recurses := true, named := ["errors.errorType"], apart := false, laid := [("errors.errorType", laid_errors_errorType)], narrowed := true }
def CurveGrowsUptoSaid : Prop := curveGrowsUptoRow.holds Tryd.pinned (OpenSpec.upto curveGrowsSpec)

/-- 'pergolalaw19.CurveCentre', WHERE WHAT IT READS IS OF BULK AT MOST 1048576: true; the input reads as it did. -/
def curveCentreUptoRow : OpenClaim := { program := "ytmpodnmgeakefaadoor", sum := "436ccf9307d039607e26a569604ca305e2c940ef1093d4403af1d93467977aef", func := "pergola/pergolalaw19.CurveCentre", spec := "curveCentre", inPlace := ["internal/reflectlite.TypeOf", "internal/reflectlite.ValueOf", "(internal/reflectlite.Value).Type", "(internal/reflectlite.Value).IsNil", "(internal/reflectlite.Value).Elem", "(internal/reflectlite.Value).Set"], unfollowed := true, recurses := true, named := ["errors.errorType"], apart := false, laid := [("errors.errorType", laid_errors_errorType)], narrowed := true }
def CurveCentreUptoSaid : Prop := curveCentreUptoRow.holds Tryd.pinned (OpenSpec.upto curveCentreSpec)

/-- 'pergolalaw19.CurveNeighbours', WHERE WHAT IT READS IS OF BULK AT MOST 1048576: true; the input reads as it did. -/
def curveNeighboursUptoRow : OpenClaim := { program := "ytmpodnmgeakefaadoor", sum := "436ccf9307d039607e26a569604ca305e2c940ef1093d4403af1d93467977aef", func := "pergola/pergolalaw19.CurveNeighbours", spec := "curveNeighbours", inPlace := ["internal/reflectlite.TypeOf", "internal/reflectlite.ValueOf", "(internal/reflectlite.Value).Type", "(internal/reflectlite.Value).IsNil", "(internal/reflectlite.Value).Elem", "(internal/reflectlite.Value).Set"], unfollowed := true, recurses := true, named := ["errors.errorType"], apart := false, laid := [("errors.errorType", laid_errors_errorType)], narrowed := true }
def CurveNeighboursUptoSaid : Prop := curveNeighboursUptoRow.holds Tryd.pinned (OpenSpec.upto curveNeighboursSpec)

/-- 'pergolalaw19.CurveQuarters', WHERE WHAT IT READS IS OF BULK AT MOST 1048576: true; the input reads as it did. -/
def curveQuartersUptoRow : OpenClaim := { program := "ytmpodnmgeakefaadoor", sum := "436ccf9307d039607e26a569604ca305e2c940ef1093d4403af1d93467977aef", func := "pergola/pergolalaw19.CurveQuarters", spec := "curveQuarters", inPlace := ["internal/reflectlite.TypeOf", "internal/reflectlite.ValueOf", "(internal/reflectlite.Value).Type", "(internal/reflectlite.Value).IsNil", "(internal/reflectlite.Value).Elem", "(internal/reflectlite.Value).Set"], unfollowed := true, recurses := true, named := ["errors.errorType"], apart := false, laid := [("errors.errorType", laid_errors_errorType)], narrowed := true }
def CurveQuartersUptoSaid : Prop := curveQuartersUptoRow.holds Tryd.pinned (OpenSpec.upto curveQuartersSpec)

/-- 'pergolalaw19.CurveBack', WHERE WHAT IT READS IS OF BULK AT MOST 1048576: true; the input reads as it did. -/
def curveBackUptoRow : OpenClaim := { program := "ytmpodnmgeakefaadoor", sum := "436ccf9307d039607e26a569604ca305e2c940ef1093d4403af1d93467977aef", func := "pergola/pergolalaw19.CurveBack", spec := "curveBack", inPlace := ["internal/reflectlite.TypeOf", "internal/reflectlite.ValueOf", "(internal/reflectlite.Value).Type", "(internal/reflectlite.Value).IsNil", "(internal/reflectlite.Value).Elem", "(internal/reflectlite.Value).Set"], unfollowed := true, recurses := true, named := ["errors.errorType"], apart := false, laid := [("errors.errorType", laid_errors_errorType)], narrowed := true }
def CurveBackUptoSaid : Prop := curveBackUptoRow.holds Tryd.pinned (OpenSpec.upto curveBackSpec)

/-- 'pergolalaw19.CurveAsks', WHERE WHAT IT READS IS OF BULK AT MOST 1048576: true; the input reads as it did. -/
def curveAsksUptoRow : OpenClaim := { program := "ytmpodnmgeakefaadoor", sum := "436ccf9307d039607e26a569604ca305e2c940ef1093d4403af1d93467977aef", func := "pergola/pergolalaw19.CurveAsks", spec := "curveAsks", inPlace := ["internal/reflectlite.TypeOf", "internal/reflectlite.ValueOf", "(internal/reflectlite.Value).Type", "(internal/reflectlite.Value).IsNil", "(internal/reflectlite.Value).Elem", "(internal/reflectlite.Value).Set"], unfollowed := true, recurses := true, named := ["errors.errorType"], apart := false, laid := [("errors.errorType", laid_errors_errorType)], narrowed := true }
def CurveAsksUptoSaid : Prop := curveAsksUptoRow.holds Tryd.pinned (OpenSpec.upto curveAsksSpec)

end Rows
end Go.Proofs.YtmpodnmgeakefaaDoor
