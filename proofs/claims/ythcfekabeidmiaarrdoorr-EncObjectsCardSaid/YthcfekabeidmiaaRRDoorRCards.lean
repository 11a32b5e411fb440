/-
  DERIVED. GIVEN WITH THE SEED: THE CARDS: each row of YthcfekabeidmiaaRRDoorRRows.lean that lists a variable, with what it lists TIED to the program's text (the seventh form; the later family's looks); each row that meets fmt, with fmt's text TOLD by the authors' own Lean function (tested against real Go, not proved from fmt's source: count such statements apart). THE CARD IS WHAT COUNTS. Prove the row's statement (the work); the ties are given (YthcfekabeidmiaaRRDoorRTie.lean); close each card by the builder's one call (the guide's Derived/Test/ToyasCard.lean, 'card_holds'). Laid BY PROGRAM, IN A SANDBOX (cutbox-door.mjs). By AI agents, Wed Nov 11 2026. No macro, syntax, notation, axiom, sorry.
-/
import Derived.Test.YthcfekabeidmiaaRRDoorRRows
import GoSem.ClaimSeven
namespace Go.Proofs.YthcfekabeidmiaaRRDoorR
namespace Rows

/-- THE TIED CARD OF 'pergolalaw8.EncObjects'. -/
def encObjectsCard : Claim7 := { stood := { row := encObjectsRow, standIns := [], harness := (true, "e889bca2aeee84d0ea814dc4aa67decb0be2df246eca0a3e4e1a175107920711"), looks := true }, kinds := [], alts := [], laidByText := true, laidKinds := [.handle], laidTests := true, laidLooks := .later }
def EncObjectsCardSaid : Prop := Claim7.holds Tryd.pinned (.plain (OpenSpec.ofChange encObjectsSpec)) encObjectsCard

/-- THE SECOND FORM's CARD OF 'pergolalaw8.EncObjects'. -/
def encObjectsUptoCard : Claim7 := { stood := { row := encObjectsUptoRow, standIns := [], harness := (true, "e889bca2aeee84d0ea814dc4aa67decb0be2df246eca0a3e4e1a175107920711"), looks := true }, kinds := [], alts := [], laidByText := true, laidKinds := [.handle], laidTests := true, laidLooks := .later }
def EncObjectsUptoCardSaid : Prop := Claim7.holds Tryd.pinned (.plain (OpenSpec.upto encObjectsSpec)) encObjectsUptoCard
end Rows
end Go.Proofs.YthcfekabeidmiaaRRDoorR
