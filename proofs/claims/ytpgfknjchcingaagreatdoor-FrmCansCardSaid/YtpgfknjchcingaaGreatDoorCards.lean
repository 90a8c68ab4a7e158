/-
  DERIVED. GIVEN WITH THE SEED: THE CARDS: each row of YtpgfknjchcingaaGreatDoorRows.lean that lists a variable, with what it lists TIED to the program's text (the seventh form; the later family's looks); each row that meets fmt, with fmt's text TOLD by the authors' own Lean function (tested against real Go, not proved from fmt's source: count such statements apart). THE CARD IS WHAT COUNTS. Prove the row's statement (the work); the ties are given (YtpgfknjchcingaaGreatDoorTie.lean); close each card by the builder's one call (the guide's Derived/Test/ToyasCard.lean, 'card_holds'). Laid BY PROGRAM, IN A SANDBOX (cutbox-door.mjs). By AI agents, Wed Nov 11 2026. No macro, syntax, notation, axiom, sorry.
-/
import Derived.Test.YtpgfknjchcingaaGreatDoorRows
import GoSem.ClaimSeven
namespace Go.Proofs.YtpgfknjchcingaaGreatDoor
namespace Rows

/-- THE TIED CARD OF 'surtitlelaw16.FrmCans'. -/
def frmCansCard : Claim7 := { stood := { row := frmCansRow, standIns := [], harness := (true, "576160e979814b650ab8865658703cf73ac677e9adaf30b9bf55be9e188cb045"), looks := true }, kinds := [], alts := [], laidByText := true, laidKinds := [.data, .pinned], laidTests := true, laidLooks := .later }
def FrmCansCardSaid : Prop := Claim7.holds Tryz.pinned (.plain (OpenSpec.ofChange frmCansSpec)) frmCansCard

/-- THE TIED CARD OF 'surtitlelaw16.FrmNames'. -/
def frmNamesCard : Claim7 := { stood := { row := frmNamesRow, standIns := [], harness := (true, "576160e979814b650ab8865658703cf73ac677e9adaf30b9bf55be9e188cb045"), looks := true }, kinds := [], alts := [], laidByText := true, laidKinds := [.data, .pinned], laidTests := true, laidLooks := .later }
def FrmNamesCardSaid : Prop := Claim7.holds Tryz.pinned (.plain (OpenSpec.ofChange frmNamesSpec)) frmNamesCard

/-- THE SECOND FORM's CARD OF 'surtitlelaw16.FrmCans'. -/
def frmCansUptoCard : Claim7 := { stood := { row := frmCansUptoRow, standIns := [], harness := (true, "576160e979814b650ab8865658703cf73ac677e9adaf30b9bf55be9e188cb045"), looks := true }, kinds := [], alts := [], laidByText := true, laidKinds := [.data, .pinned], laidTests := true, laidLooks := .later }
def FrmCansUptoCardSaid : Prop := Claim7.holds Tryz.pinned (.plain (OpenSpec.upto frmCansSpec)) frmCansUptoCard

/-- THE SECOND FORM's CARD OF 'surtitlelaw16.FrmNames'. -/
def frmNamesUptoCard : Claim7 := { stood := { row := frmNamesUptoRow, standIns := [], harness := (true, "576160e979814b650ab8865658703cf73ac677e9adaf30b9bf55be9e188cb045"), looks := true }, kinds := [], alts := [], laidByText := true, laidKinds := [.data, .pinned], laidTests := true, laidLooks := .later }
def FrmNamesUptoCardSaid : Prop := Claim7.holds Tryz.pinned (.plain (OpenSpec.upto frmNamesSpec)) frmNamesUptoCard
end Rows
end Go.Proofs.YtpgfknjchcingaaGreatDoor
