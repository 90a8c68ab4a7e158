/-
  DERIVED. GIVEN WITH THE SEED: THE CARDS: each row of YthbihemmfhdkoaaGreatDoorRows.lean that lists a variable, with what it lists TIED to the program's text (the seventh form; the later family's looks); each row that meets fmt, with fmt's text TOLD by the authors' own Lean function (tested against real Go, not proved from fmt's source: count such statements apart). THE CARD IS WHAT COUNTS. Prove the row's statement (the work); the ties are given (YthbihemmfhdkoaaGreatDoorTie.lean); close each card by the builder's one call (the guide's Derived/Test/ToyasCard.lean, 'card_holds'). Laid BY PROGRAM, IN A SANDBOX (cutbox-door.mjs). By AI agents, Wed Nov 11 2026. No macro, syntax, notation, axiom, sorry.
-/
import Derived.Test.YthbihemmfhdkoaaGreatDoorRows
import GoSem.ClaimSeven
namespace Go.Proofs.YthbihemmfhdkoaaGreatDoor
namespace Rows

/-- THE TIED CARD OF 'surtitlelaw14.SrtNames'. -/
def srtNamesCard : Claim7 := { stood := { row := srtNamesRow, standIns := [], harness := (true, "5084f97ccf86905eccf50a216c8e870a0dee58de5de64d443e5098c28af36544"), looks := true }, kinds := [], alts := [], laidByText := true, laidKinds := [.data, .data, .data, .data, .pinned], laidTests := true, laidLooks := .later }
def SrtNamesCardSaid : Prop := Claim7.holds Tryz.pinned (.plain (OpenSpec.ofChange srtNamesSpec)) srtNamesCard

/-- THE SECOND FORM's CARD OF 'surtitlelaw14.SrtNames'. -/
def srtNamesUptoCard : Claim7 := { stood := { row := srtNamesUptoRow, standIns := [], harness := (true, "5084f97ccf86905eccf50a216c8e870a0dee58de5de64d443e5098c28af36544"), looks := true }, kinds := [], alts := [], laidByText := true, laidKinds := [.data, .data, .data, .data, .pinned], laidTests := true, laidLooks := .later }
def SrtNamesUptoCardSaid : Prop := Claim7.holds Tryz.pinned (.plain (OpenSpec.upto srtNamesSpec)) srtNamesUptoCard
end Rows
end Go.Proofs.YthbihemmfhdkoaaGreatDoor
