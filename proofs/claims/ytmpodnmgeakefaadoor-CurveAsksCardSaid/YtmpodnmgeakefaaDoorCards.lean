/-
  DERIVED. GIVEN WITH THE SEED: THE CARDS: each row of YtmpodnmgeakefaaDoorRows.lean that lists a variable, with what it lists TIED to the program's text (the seventh form; the later family's looks); each row that meets fmt, with fmt's text TOLD by the authors' own Lean function (tested against real Go, not proved from fmt's source: count such statements apart). THE CARD IS WHAT COUNTS. Prove the row's statement (the work); the ties are given (YtmpodnmgeakefaaDoorTie.lean); close each card by the builder's one call (the guide's Derived/Test/ToyasCard.lean, 'card_holds'). Laid BY PROGRAM, IN A SANDBOX (cutbox-door.mjs). By AI agents, Wed Nov 11 2026. No macro, syntax, notation, axiom, sorry.
-/
import Derived.Test.YtmpodnmgeakefaaDoorRows
import GoSem.ClaimSeven
namespace Go.Proofs.YtmpodnmgeakefaaDoor
namespace Rows

/-- THE TIED CARD OF 'pergolalaw19.CurveGrows'. -/
def curveGrowsCard : Claim7 := { stood := { row := curveGrowsRow, standIns := [], harness := (true, "39f491ce5a7fab752fb683c00cb0291d099d0fb57b48f3cf9fdee5fa0a5a1902"), looks := true }, kinds := [], alts := [], laidByText := true, laidKinds := [.handle], laidTests := true, laidLooks := .later }
def CurveGrowsCardSaid : Prop := Claim7.holds Tryd.pinned (.plain (OpenSpec.ofChange curveGrowsSpec)) curveGrowsCard

/-- THE TIED CARD OF 'pergolalaw19.CurveCentre'. -/
def curveCentreCard : Claim7 := { stood := { row := curveCentreRow, standIns := [], harness := (true, "39f491ce5a7fab752fb683c00cb0291d099d0fb57b48f3cf9fdee5fa0a5a1902"), looks := true }, kinds := [], alts := [], laidByText := true, laidKinds := [.handle], laidTests := true, laidLooks := .later }
def CurveCentreCardSaid : Prop := Claim7.holds Tryd.pinned (.plain (OpenSpec.ofChange curveCentreSpec)) curveCentreCard

/-- THE TIED CARD OF 'pergolalaw19.CurveNeighbours'. -/
def curveNeighboursCard : Claim7 := { stood := { row := curveNeighboursRow, standIns := [], harness := (true, "39f491ce5a7fab752fb683c00cb0291d099d0fb57b48f3cf9fdee5fa0a5a1902"), looks := true }, kinds := [], alts := [], laidByText := true, laidKinds := [.handle], laidTests := true, laidLooks := .later }
def CurveNeighboursCardSaid : Prop := Claim7.holds Tryd.pinned (.plain (OpenSpec.ofChange curveNeighboursSpec)) curveNeighboursCard

/-- THE TIED CARD OF 'pergolalaw19.CurveQuarters'. -/
def curveQuartersCard : Claim7 := { stood := { row := curveQuartersRow, standIns := [], harness := (true, "39f491ce5a7fab752fb683c00cb0291d099d0fb57b48f3cf9fdee5fa0a5a1902"), looks := true }, kinds := [], alts := [], laidByText := true, laidKinds := [.handle], laidTests := true, laidLooks := .later }
def CurveQuartersCardSaid : Prop := Claim7.holds Tryd.pinned (.plain (OpenSpec.ofChange curveQuartersSpec)) curveQuartersCard

/-- THE TIED CARD OF 'pergolalaw19.CurveBack'. -/
def curveBackCard : Claim7 := { stood := { row := curveBackRow, standIns := [], harness := (true, "39f491ce5a7fab752fb683c00cb0291d099d0fb57b48f3cf9fdee5fa0a5a1902"), looks := true }, kinds := [], alts := [], laidByText := true, laidKinds := [.handle], laidTests := true, laidLooks := .later }
def CurveBackCardSaid : Prop := Claim7.holds Tryd.pinned (.plain (OpenSpec.ofChange curveBackSpec)) curveBackCard

/-- THE TIED CARD OF 'pergolalaw19.CurveAsks'. -/
def curveAsksCard : Claim7 := { stood := { row := curveAsksRow, standIns := [], harness := (true, "39f491ce5a7fab752fb683c00cb0291d099d0fb57b48f3cf9fdee5fa0a5a1902"), looks := true }, kinds := [], alts := [], laidByText := true, laidKinds := [.handle], laidTests := true, laidLooks := .later }
def CurveAsksCardSaid : Prop := Claim7.holds Tryd.pinned (.plain (OpenSpec.ofChange curveAsksSpec)) curveAsksCard

/-- THE SECOND FORM's CARD OF 'pergolalaw19.CurveGrows'. -/
def curveGrowsUptoCard : Claim7 := { stood := { row := curveGrowsUptoRow, standIns := [], harness := (true, "39f491ce5a7fab752fb683c00cb0291d099d0fb57b48f3cf9fdee5fa0a5a1902"), looks := true }, kinds := [], alts := [], laidByText := true, laidKinds := [.handle], laidTests := true, laidLooks := .later }
def CurveGrowsUptoCardSaid : Prop := Claim7.holds Tryd.pinned (.plain (OpenSpec.upto curveGrowsSpec)) curveGrowsUptoCard

/-- THE SECOND FORM's CARD OF 'pergolalaw19.CurveCentre'. -/
def curveCentreUptoCard : Claim7 := { stood := { row := curveCentreUptoRow, standIns := [], harness := (true, "39f491ce5a7fab752fb683c00cb0291d099d0fb57b48f3cf9fdee5fa0a5a1902"), looks := true }, kinds := [], alts := [], laidByText := true, laidKinds := [.handle], laidTests := true, laidLooks := .later }
def CurveCentreUptoCardSaid : Prop := Claim7.holds Tryd.pinned (.plain (OpenSpec.upto curveCentreSpec)) curveCentreUptoCard

/-- THE SECOND FORM's CARD OF 'pergolalaw19.CurveNeighbours'. -/
def curveNeighboursUptoCard : Claim7 := { stood := { row := curveNeighboursUptoRow, standIns := [], harness := (true, "39f491ce5a7fab752fb683c00cb0291d099d0fb57b48f3cf9fdee5fa0a5a1902"), looks := true }, kinds := [], alts := [], laidByText := true, laidKinds := [.handle], laidTests := true, laidLooks := .later }
def CurveNeighboursUptoCardSaid : Prop := Claim7.holds Tryd.pinned (.plain (OpenSpec.upto curveNeighboursSpec)) curveNeighboursUptoCard

/-- THE SECOND FORM's CARD OF 'pergolalaw19.CurveQuarters'. -/
def curveQuartersUptoCard : Claim7 := { stood := { row := curveQuartersUptoRow, standIns := [], harness := (true, "39f491ce5a7fab752fb683c00cb0291d099d0fb57b48f3cf9fdee5fa0a5a1902"), looks := true }, kinds := [], alts := [], laidByText := true, laidKinds := [.handle], laidTests := true, laidLooks := .later }
def CurveQuartersUptoCardSaid : Prop := Claim7.holds Tryd.pinned (.plain (OpenSpec.upto curveQuartersSpec)) curveQuartersUptoCard

/-- THE SECOND FORM's CARD OF 'pergolalaw19.CurveBack'. -/
def curveBackUptoCard : Claim7 := { stood := { row := curveBackUptoRow, standIns := [], harness := (true, "39f491ce5a7fab752fb683c00cb0291d099d0fb57b48f3cf9fdee5fa0a5a1902"), looks := true }, kinds := [], alts := [], laidByText := true, laidKinds := [.handle], laidTests := true, laidLooks := .later }
def CurveBackUptoCardSaid : Prop := Claim7.holds Tryd.pinned (.plain (OpenSpec.upto curveBackSpec)) curveBackUptoCard

/-- THE SECOND FORM's CARD OF 'pergolalaw19.CurveAsks'. -/
def curveAsksUptoCard : Claim7 := { stood := { row := curveAsksUptoRow, standIns := [], harness := (true, "39f491ce5a7fab752fb683c00cb0291d099d0fb57b48f3cf9fdee5fa0a5a1902"), looks := true }, kinds := [], alts := [], laidByText := true, laidKinds := [.handle], laidTests := true, laidLooks := .later }
def CurveAsksUptoCardSaid : Prop := Claim7.holds Tryd.pinned (.plain (OpenSpec.upto curveAsksSpec)) curveAsksUptoCard
end Rows
end Go.Proofs.YtmpodnmgeakefaaDoor
