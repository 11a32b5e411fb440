/-
  DERIVED. GIVEN WITH THE SEED: THE CARDS: each row of YtdeibgljibcnlaaDoorRows.lean that lists a variable, with what it lists TIED to the program's text (the seventh form; the later family's looks); each row that meets fmt, with fmt's text TOLD by the authors' own Lean function (tested against real Go, not proved from fmt's source: count such statements apart). THE CARD IS WHAT COUNTS. Prove the row's statement (the work); the ties are given (YtdeibgljibcnlaaDoorTie.lean); close each card by the builder's one call (the guide's Derived/Test/ToyasCard.lean, 'card_holds'). Laid BY PROGRAM, IN A SANDBOX (cutbox-door.mjs). By AI agents, Wed Nov 11 2026. No macro, syntax, notation, axiom, sorry.
-/
import Derived.Test.YtdeibgljibcnlaaDoorRows
import GoSem.ClaimSeven
namespace Go.Proofs.YtdeibgljibcnlaaDoor
namespace Rows

/-- THE TIED CARD OF 'pergolalaw11.SlotsFlips'. -/
def slotsFlipsCard : Claim7 := { stood := { row := slotsFlipsRow, standIns := [], harness := (true, "df67fda1d0373105fda87ac93d53829388d75a80e585f6bffd81239f24405281"), looks := true }, kinds := [], alts := [], laidByText := true, laidKinds := [.handle], laidTests := true, laidLooks := .later }
def SlotsFlipsCardSaid : Prop := Claim7.holds Tryd.pinned (.plain (OpenSpec.ofChange slotsFlipsSpec)) slotsFlipsCard

/-- THE TIED CARD OF 'pergolalaw11.SlotsPlays'. -/
def slotsPlaysCard : Claim7 := { stood := { row := slotsPlaysRow, standIns := [], harness := (true, "df67fda1d0373105fda87ac93d53829388d75a80e585f6bffd81239f24405281"), looks := true }, kinds := [], alts := [], laidByText := true, laidKinds := [.handle], laidTests := true, laidLooks := .later }
def SlotsPlaysCardSaid : Prop := Claim7.holds Tryd.pinned (.plain (OpenSpec.ofChange slotsPlaysSpec)) slotsPlaysCard

/-- THE SECOND FORM's CARD OF 'pergolalaw11.SlotsFlips'. -/
def slotsFlipsUptoCard : Claim7 := { stood := { row := slotsFlipsUptoRow, standIns := [], harness := (true, "df67fda1d0373105fda87ac93d53829388d75a80e585f6bffd81239f24405281"), looks := true }, kinds := [], alts := [], laidByText := true, laidKinds := [.handle], laidTests := true, laidLooks := .later }
def SlotsFlipsUptoCardSaid : Prop := Claim7.holds Tryd.pinned (.plain (OpenSpec.upto slotsFlipsSpec)) slotsFlipsUptoCard

/-- THE SECOND FORM's CARD OF 'pergolalaw11.SlotsPlays'. -/
def slotsPlaysUptoCard : Claim7 := { stood := { row := slotsPlaysUptoRow, standIns := [], harness := (true, "df67fda1d0373105fda87ac93d53829388d75a80e585f6bffd81239f24405281"), looks := true }, kinds := [], alts := [], laidByText := true, laidKinds := [.handle], laidTests := true, laidLooks := .later }
def SlotsPlaysUptoCardSaid : Prop := Claim7.holds Tryd.pinned (.plain (OpenSpec.upto slotsPlaysSpec)) slotsPlaysUptoCard
end Rows
end Go.Proofs.YtdeibgljibcnlaaDoor
