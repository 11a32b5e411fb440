/-
  DERIVED. GIVEN WITH THE SEED: THE CARDS: each row of YtoggbmfjjenbaaaGreatDoorRows.lean that lists a variable, with what it lists TIED to the program's text (the seventh form; the later family's looks); each row that meets fmt, with fmt's text TOLD by the authors' own Lean function (tested against real Go, not proved from fmt's source: count such statements apart). THE CARD IS WHAT COUNTS. Prove the row's statement (the work); the ties are given (YtoggbmfjjenbaaaGreatDoorTie.lean); close each card by the builder's one call (the guide's Derived/Test/ToyasCard.lean, 'card_holds'). Laid BY PROGRAM, IN A SANDBOX (cutbox-door.mjs). By AI agents, Wed Nov 11 2026. No macro, syntax, notation, axiom, sorry.
-/
import Derived.Test.YtoggbmfjjenbaaaGreatDoorRows
import GoSem.ClaimSeven
namespace Go.Proofs.YtoggbmfjjenbaaaGreatDoor
namespace Rows

/-- THE TIED CARD OF 'pergolalaw20.SorterSorts'. -/
def sorterSortsCard : Claim7 := { stood := { row := sorterSortsRow, standIns := [], harness := (true, "00a817f4ba2ac0c6a7e714c6819e1210e7ad09f03252d9b8d31e18a6763e21a1"), looks := true }, kinds := [], alts := [], laidByText := true, laidKinds := [.handle], laidTests := true, laidLooks := .later }
def SorterSortsCardSaid : Prop := Claim7.holds Tryz.pinned (.plain (OpenSpec.ofChange sorterSortsSpec)) sorterSortsCard

/-- THE SECOND FORM's CARD OF 'pergolalaw20.SorterSorts'. -/
def sorterSortsUptoCard : Claim7 := { stood := { row := sorterSortsUptoRow, standIns := [], harness := (true, "00a817f4ba2ac0c6a7e714c6819e1210e7ad09f03252d9b8d31e18a6763e21a1"), looks := true }, kinds := [], alts := [], laidByText := true, laidKinds := [.handle], laidTests := true, laidLooks := .later }
def SorterSortsUptoCardSaid : Prop := Claim7.holds Tryz.pinned (.plain (OpenSpec.upto sorterSortsSpec)) sorterSortsUptoCard
end Rows
end Go.Proofs.YtoggbmfjjenbaaaGreatDoor
