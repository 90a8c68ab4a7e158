/-
  DERIVED. GIVEN WITH THE SEED: THE CARDS: each row of YtlkdhhkncoekgaaGreatDoorRows.lean that lists a variable, with what it lists TIED to the program's text (the seventh form; the later family's looks); each row that meets fmt, with fmt's text TOLD by the authors' own Lean function (tested against real Go, not proved from fmt's source: count such statements apart). THE CARD IS WHAT COUNTS. Prove the row's statement (the work); the ties are given (YtlkdhhkncoekgaaGreatDoorTie.lean); close each card by the builder's one call (the guide's Derived/Test/ToyasCard.lean, 'card_holds'). Laid BY PROGRAM, IN A SANDBOX (cutbox-door.mjs). By AI agents, Wed Nov 11 2026. No macro, syntax, notation, axiom, sorry.
-/
import Derived.Test.YtlkdhhkncoekgaaGreatDoorRows
import GoSem.ClaimSeven
namespace Go.Proofs.YtlkdhhkncoekgaaGreatDoor
namespace Rows

/-- THE TIED CARD OF 'surtitlelaw8.MarkKeeps'. -/
def markKeepsCard : Claim7 := { stood := { row := markKeepsRow, standIns := [], harness := (true, "4895b0bc7c3c59bbb41af8daa88da881f70ab6965baf373c979f3bca8f5814a4"), looks := true }, kinds := [], alts := [], laidByText := true, laidKinds := [.data, .pinned], laidTests := true, laidLooks := .later }
def MarkKeepsCardSaid : Prop := Claim7.holds Tryz.pinned (.plain (OpenSpec.ofChange markKeepsSpec)) markKeepsCard

/-- THE TIED CARD OF 'surtitlelaw8.MarkTold'. -/
def markToldCard : Claim7 := { stood := { row := markToldRow, standIns := [], harness := (true, "4895b0bc7c3c59bbb41af8daa88da881f70ab6965baf373c979f3bca8f5814a4"), looks := true }, kinds := [], alts := [], laidByText := true, laidKinds := [.data, .pinned], laidTests := true, laidLooks := .later }
def MarkToldCardSaid : Prop := Claim7.holds Tryz.pinned (.plain (OpenSpec.ofChange markToldSpec)) markToldCard

/-- THE TIED CARD OF 'surtitlelaw8.MarkPrints'. -/
def markPrintsCard : Claim7 := { stood := { row := markPrintsRow, standIns := [], harness := (true, "4895b0bc7c3c59bbb41af8daa88da881f70ab6965baf373c979f3bca8f5814a4"), looks := true }, kinds := [], alts := [], laidByText := true, laidKinds := [.data, .pinned], laidTests := true, laidLooks := .later }
def MarkPrintsCardSaid : Prop := Claim7.holds Tryz.pinned (.plain (OpenSpec.ofChange markPrintsSpec)) markPrintsCard

/-- THE TIED CARD OF 'surtitlelaw8.MarkSays'. -/
def markSaysCard : Claim7 := { stood := { row := markSaysRow, standIns := [], harness := (true, "4895b0bc7c3c59bbb41af8daa88da881f70ab6965baf373c979f3bca8f5814a4"), looks := true }, kinds := [], alts := [], laidByText := true, laidKinds := [.data, .pinned], laidTests := true, laidLooks := .later }
def MarkSaysCardSaid : Prop := Claim7.holds Tryz.pinned (.plain (OpenSpec.ofChange markSaysSpec)) markSaysCard

/-- THE TIED CARD OF 'surtitlelaw8.MarkBack'. -/
def markBackCard : Claim7 := { stood := { row := markBackRow, standIns := [], harness := (true, "4895b0bc7c3c59bbb41af8daa88da881f70ab6965baf373c979f3bca8f5814a4"), looks := true }, kinds := [], alts := [], laidByText := true, laidKinds := [.data, .pinned], laidTests := true, laidLooks := .later }
def MarkBackCardSaid : Prop := Claim7.holds Tryz.pinned (.plain (OpenSpec.ofChange markBackSpec)) markBackCard

/-- THE SECOND FORM's CARD OF 'surtitlelaw8.MarkKeeps'. -/
def markKeepsUptoCard : Claim7 := { stood := { row := markKeepsUptoRow, standIns := [], harness := (true, "4895b0bc7c3c59bbb41af8daa88da881f70ab6965baf373c979f3bca8f5814a4"), looks := true }, kinds := [], alts := [], laidByText := true, laidKinds := [.data, .pinned], laidTests := true, laidLooks := .later }
def MarkKeepsUptoCardSaid : Prop := Claim7.holds Tryz.pinned (.plain (OpenSpec.upto markKeepsSpec)) markKeepsUptoCard

/-- THE SECOND FORM's CARD OF 'surtitlelaw8.MarkTold'. -/
def markToldUptoCard : Claim7 := { stood := { row := markToldUptoRow, standIns := [], harness := (true, "4895b0bc7c3c59bbb41af8daa88da881f70ab6965baf373c979f3bca8f5814a4"), looks := true }, kinds := [], alts := [], laidByText := true, laidKinds := [.data, .pinned], laidTests := true, laidLooks := .later }
def MarkToldUptoCardSaid : Prop := Claim7.holds Tryz.pinned (.plain (OpenSpec.upto markToldSpec)) markToldUptoCard

/-- THE SECOND FORM's CARD OF 'surtitlelaw8.MarkPrints'. -/
def markPrintsUptoCard : Claim7 := { stood := { row := markPrintsUptoRow, standIns := [], harness := (true, "4895b0bc7c3c59bbb41af8daa88da881f70ab6965baf373c979f3bca8f5814a4"), looks := true }, kinds := [], alts := [], laidByText := true, laidKinds := [.data, .pinned], laidTests := true, laidLooks := .later }
def MarkPrintsUptoCardSaid : Prop := Claim7.holds Tryz.pinned (.plain (OpenSpec.upto markPrintsSpec)) markPrintsUptoCard

/-- THE SECOND FORM's CARD OF 'surtitlelaw8.MarkSays'. -/
def markSaysUptoCard : Claim7 := { stood := { row := markSaysUptoRow, standIns := [], harness := (true, "4895b0bc7c3c59bbb41af8daa88da881f70ab6965baf373c979f3bca8f5814a4"), looks := true }, kinds := [], alts := [], laidByText := true, laidKinds := [.data, .pinned], laidTests := true, laidLooks := .later }
def MarkSaysUptoCardSaid : Prop := Claim7.holds Tryz.pinned (.plain (OpenSpec.upto markSaysSpec)) markSaysUptoCard

/-- THE SECOND FORM's CARD OF 'surtitlelaw8.MarkBack'. -/
def markBackUptoCard : Claim7 := { stood := { row := markBackUptoRow, standIns := [], harness := (true, "4895b0bc7c3c59bbb41af8daa88da881f70ab6965baf373c979f3bca8f5814a4"), looks := true }, kinds := [], alts := [], laidByText := true, laidKinds := [.data, .pinned], laidTests := true, laidLooks := .later }
def MarkBackUptoCardSaid : Prop := Claim7.holds Tryz.pinned (.plain (OpenSpec.upto markBackSpec)) markBackUptoCard
end Rows
end Go.Proofs.YtlkdhhkncoekgaaGreatDoor
