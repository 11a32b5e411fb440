/-
  DERIVED. GIVEN WITH THE SEED: THE CARDS: each row of YtbllooaalodhaaaDoorRows.lean that lists a variable, with what it lists TIED to the program's text (the seventh form; the later family's looks); each row that meets fmt, with fmt's text TOLD by the authors' own Lean function (tested against real Go, not proved from fmt's source: count such statements apart). THE CARD IS WHAT COUNTS. Prove the row's statement (the work); the ties are given (YtbllooaalodhaaaDoorTie.lean); close each card by the builder's one call (the guide's Derived/Test/ToyasCard.lean, 'card_holds'). Laid BY PROGRAM, IN A SANDBOX (cutbox-door.mjs). By AI agents, Wed Nov 11 2026. No macro, syntax, notation, axiom, sorry.
-/
import Derived.Test.YtbllooaalodhaaaDoorRows
import GoSem.ClaimSeven
namespace Go.Proofs.YtbllooaalodhaaaDoor
namespace Rows

/-- THE TIED CARD OF 'pergolalaw9.FrameFlips'. -/
def frameFlipsCard : Claim7 := { stood := { row := frameFlipsRow, standIns := [], harness := (true, "b7fe36e923c937e67567746063c075218ac4dbca4d1ed139ba4ae943d63c441f"), looks := true }, kinds := [], alts := [], laidByText := true, laidKinds := [.handle], laidTests := true, laidLooks := .later }
def FrameFlipsCardSaid : Prop := Claim7.holds Tryd.pinned (.plain (OpenSpec.ofChange frameFlipsSpec)) frameFlipsCard

/-- THE TIED CARD OF 'pergolalaw9.FrameTorn'. -/
def frameTornCard : Claim7 := { stood := { row := frameTornRow, standIns := [], harness := (true, "b7fe36e923c937e67567746063c075218ac4dbca4d1ed139ba4ae943d63c441f"), looks := true }, kinds := [], alts := [], laidByText := true, laidKinds := [.handle], laidTests := true, laidLooks := .later }
def FrameTornCardSaid : Prop := Claim7.holds Tryd.pinned (.plain (OpenSpec.ofChange frameTornSpec)) frameTornCard

/-- THE TIED CARD OF 'pergolalaw9.FrameRest'. -/
def frameRestCard : Claim7 := { stood := { row := frameRestRow, standIns := [], harness := (true, "b7fe36e923c937e67567746063c075218ac4dbca4d1ed139ba4ae943d63c441f"), looks := true }, kinds := [], alts := [], laidByText := true, laidKinds := [.handle], laidTests := true, laidLooks := .later }
def FrameRestCardSaid : Prop := Claim7.holds Tryd.pinned (.plain (OpenSpec.ofChange frameRestSpec)) frameRestCard

/-- THE TIED CARD OF 'pergolalaw9.FrameAsks'. -/
def frameAsksCard : Claim7 := { stood := { row := frameAsksRow, standIns := [], harness := (true, "b7fe36e923c937e67567746063c075218ac4dbca4d1ed139ba4ae943d63c441f"), looks := true }, kinds := [], alts := [], laidByText := true, laidKinds := [.handle], laidTests := true, laidLooks := .later }
def FrameAsksCardSaid : Prop := Claim7.holds Tryd.pinned (.plain (OpenSpec.ofChange frameAsksSpec)) frameAsksCard

/-- THE SECOND FORM's CARD OF 'pergolalaw9.FrameFlips'. -/
def frameFlipsUptoCard : Claim7 := { stood := { row := frameFlipsUptoRow, standIns := [], harness := (true, "b7fe36e923c937e67567746063c075218ac4dbca4d1ed139ba4ae943d63c441f"), looks := true }, kinds := [], alts := [], laidByText := true, laidKinds := [.handle], laidTests := true, laidLooks := .later }
def FrameFlipsUptoCardSaid : Prop := Claim7.holds Tryd.pinned (.plain (OpenSpec.upto frameFlipsSpec)) frameFlipsUptoCard

/-- THE SECOND FORM's CARD OF 'pergolalaw9.FrameTorn'. -/
def frameTornUptoCard : Claim7 := { stood := { row := frameTornUptoRow, standIns := [], harness := (true, "b7fe36e923c937e67567746063c075218ac4dbca4d1ed139ba4ae943d63c441f"), looks := true }, kinds := [], alts := [], laidByText := true, laidKinds := [.handle], laidTests := true, laidLooks := .later }
def FrameTornUptoCardSaid : Prop := Claim7.holds Tryd.pinned (.plain (OpenSpec.upto frameTornSpec)) frameTornUptoCard

/-- THE SECOND FORM's CARD OF 'pergolalaw9.FrameRest'. -/
def frameRestUptoCard : Claim7 := { stood := { row := frameRestUptoRow, standIns := [], harness := (true, "b7fe36e923c937e67567746063c075218ac4dbca4d1ed139ba4ae943d63c441f"), looks := true }, kinds := [], alts := [], laidByText := true, laidKinds := [.handle], laidTests := true, laidLooks := .later }
def FrameRestUptoCardSaid : Prop := Claim7.holds Tryd.pinned (.plain (OpenSpec.upto frameRestSpec)) frameRestUptoCard

/-- THE SECOND FORM's CARD OF 'pergolalaw9.FrameAsks'. -/
def frameAsksUptoCard : Claim7 := { stood := { row := frameAsksUptoRow, standIns := [], harness := (true, "b7fe36e923c937e67567746063c075218ac4dbca4d1ed139ba4ae943d63c441f"), looks := true }, kinds := [], alts := [], laidByText := true, laidKinds := [.handle], laidTests := true, laidLooks := .later }
def FrameAsksUptoCardSaid : Prop := Claim7.holds Tryd.pinned (.plain (OpenSpec.upto frameAsksSpec)) frameAsksUptoCard
end Rows
end Go.Proofs.YtbllooaalodhaaaDoor
