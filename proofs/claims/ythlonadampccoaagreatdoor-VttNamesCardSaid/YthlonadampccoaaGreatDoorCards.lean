/-
  DERIVED. GIVEN WITH THE SEED: THE CARDS: each row of YthlonadampccoaaGreatDoorRows.lean that lists a variable, with what it lists TIED to the program's text (the seventh form; the later family's looks); each row that meets fmt, with fmt's text TOLD by the authors' own Lean function (tested against real Go, not proved from fmt's source: count such statements apart). THE CARD IS WHAT COUNTS. Prove the row's statement (the work); the ties are given (YthlonadampccoaaGreatDoorTie.lean); close each card by the builder's one call (the guide's Derived/Test/ToyasCard.lean, 'card_holds'). Laid BY PROGRAM, IN A SANDBOX (cutbox-door.mjs). By AI agents, Wed Nov 11 2026. No macro, syntax, notation, axiom, sorry.
-/
import Derived.Test.YthlonadampccoaaGreatDoorRows
import GoSem.ClaimSeven
namespace Go.Proofs.YthlonadampccoaaGreatDoor
namespace Rows

/-- THE TIED CARD OF 'surtitlelaw15.VttNames'. -/
def vttNamesCard : Claim7 := { stood := { row := vttNamesRow, standIns := [], harness := (true, "e671b4b10ee9b1af843224f53fe767bab5e0ade48bed51f2fd92fe41c88d2f78"), looks := true }, kinds := [], alts := [], laidByText := true, laidKinds := [.data, .data, .data, .data, .pinned], laidTests := true, laidLooks := .later }
def VttNamesCardSaid : Prop := Claim7.holds Tryz.pinned (.plain (OpenSpec.ofChange vttNamesSpec)) vttNamesCard

/-- THE SECOND FORM's CARD OF 'surtitlelaw15.VttNames'. -/
def vttNamesUptoCard : Claim7 := { stood := { row := vttNamesUptoRow, standIns := [], harness := (true, "e671b4b10ee9b1af843224f53fe767bab5e0ade48bed51f2fd92fe41c88d2f78"), looks := true }, kinds := [], alts := [], laidByText := true, laidKinds := [.data, .data, .data, .data, .pinned], laidTests := true, laidLooks := .later }
def VttNamesUptoCardSaid : Prop := Claim7.holds Tryz.pinned (.plain (OpenSpec.upto vttNamesSpec)) vttNamesUptoCard
end Rows
end Go.Proofs.YthlonadampccoaaGreatDoor
