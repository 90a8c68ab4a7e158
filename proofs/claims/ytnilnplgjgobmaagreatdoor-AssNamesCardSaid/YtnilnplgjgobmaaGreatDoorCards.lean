/-
  DERIVED. GIVEN WITH THE SEED: THE CARDS: each row of YtnilnplgjgobmaaGreatDoorRows.lean that lists a variable, with what it lists TIED to the program's text (the seventh form; the later family's looks); each row that meets fmt, with fmt's text TOLD by the authors' own Lean function (tested against real Go, not proved from fmt's source: count such statements apart). THE CARD IS WHAT COUNTS. Prove the row's statement (the work); the ties are given (YtnilnplgjgobmaaGreatDoorTie.lean); close each card by the builder's one call (the guide's Derived/Test/ToyasCard.lean, 'card_holds'). Laid BY PROGRAM, IN A SANDBOX (cutbox-door.mjs). By AI agents, Wed Nov 11 2026. No macro, syntax, notation, axiom, sorry.
-/
import Derived.Test.YtnilnplgjgobmaaGreatDoorRows
import GoSem.ClaimSeven
namespace Go.Proofs.YtnilnplgjgobmaaGreatDoor
namespace Rows

/-- THE TIED CARD OF 'surtitlelaw17.AssNames'. -/
def assNamesCard : Claim7 := { stood := { row := assNamesRow, standIns := [], harness := (true, "ba6796f35954a5b5122e84d57cb55ab0414b1fb1621716eac57c0577fca491a6"), looks := true }, kinds := [], alts := [], laidByText := true, laidKinds := [.data, .data, .data, .data, .pinned], laidTests := true, laidLooks := .later }
def AssNamesCardSaid : Prop := Claim7.holds Tryz.pinned (.plain (OpenSpec.ofChange assNamesSpec)) assNamesCard

/-- THE SECOND FORM's CARD OF 'surtitlelaw17.AssNames'. -/
def assNamesUptoCard : Claim7 := { stood := { row := assNamesUptoRow, standIns := [], harness := (true, "ba6796f35954a5b5122e84d57cb55ab0414b1fb1621716eac57c0577fca491a6"), looks := true }, kinds := [], alts := [], laidByText := true, laidKinds := [.data, .data, .data, .data, .pinned], laidTests := true, laidLooks := .later }
def AssNamesUptoCardSaid : Prop := Claim7.holds Tryz.pinned (.plain (OpenSpec.upto assNamesSpec)) assNamesUptoCard
end Rows
end Go.Proofs.YtnilnplgjgobmaaGreatDoor
