/-
  DERIVED. GIVEN WITH THE SEED: THE CARDS: each row of YtppcjgegihghnaaGreatDoorRows.lean that lists a variable, with what it lists TIED to the program's text (the seventh form; the later family's looks); each row that meets fmt, with fmt's text TOLD by the authors' own Lean function (tested against real Go, not proved from fmt's source: count such statements apart). THE CARD IS WHAT COUNTS. Prove the row's statement (the work); the ties are given (YtppcjgegihghnaaGreatDoorTie.lean); close each card by the builder's one call (the guide's Derived/Test/ToyasCard.lean, 'card_holds'). Laid BY PROGRAM, IN A SANDBOX (cutbox-door.mjs). By AI agents, Wed Nov 11 2026. No macro, syntax, notation, axiom, sorry.
-/
import Derived.Test.YtppcjgegihghnaaGreatDoorRows
import GoSem.ClaimSeven
namespace Go.Proofs.YtppcjgegihghnaaGreatDoor
namespace Rows

/-- THE TIED CARD OF 'surtitlelaw18.ConvNames'. -/
def convNamesCard : Claim7 := { stood := { row := convNamesRow, standIns := [], harness := (true, "492edfe1033b8be4c249b019060e5c40da96071798871a7cb8e228ff40949c82"), looks := true }, kinds := [], alts := [], laidByText := true, laidKinds := [.data, .data, .data, .data, .pinned], laidTests := true, laidLooks := .later }
def ConvNamesCardSaid : Prop := Claim7.holds Tryz.pinned (.plain (OpenSpec.ofChange convNamesSpec)) convNamesCard

/-- THE SECOND FORM's CARD OF 'surtitlelaw18.ConvNames'. -/
def convNamesUptoCard : Claim7 := { stood := { row := convNamesUptoRow, standIns := [], harness := (true, "492edfe1033b8be4c249b019060e5c40da96071798871a7cb8e228ff40949c82"), looks := true }, kinds := [], alts := [], laidByText := true, laidKinds := [.data, .data, .data, .data, .pinned], laidTests := true, laidLooks := .later }
def ConvNamesUptoCardSaid : Prop := Claim7.holds Tryz.pinned (.plain (OpenSpec.upto convNamesSpec)) convNamesUptoCard
end Rows
end Go.Proofs.YtppcjgegihghnaaGreatDoor
