/-
  DERIVED. GIVEN WITH THE SEED: THE CARDS: each row of YtlkdhhkncoekgaaDoorRows.lean that lists a variable, with what it lists TIED to the program's text (the seventh form; the later family's looks); each row that meets fmt, with fmt's text TOLD by the authors' own Lean function (tested against real Go, not proved from fmt's source: count such statements apart). THE CARD IS WHAT COUNTS. Prove the row's statement (the work); the ties are given (YtlkdhhkncoekgaaDoorTie.lean); close each card by the builder's one call (the guide's Derived/Test/ToyasCard.lean, 'card_holds'). Laid BY PROGRAM, IN A SANDBOX (cutbox-door.mjs). By AI agents, Wed Nov 11 2026. No macro, syntax, notation, axiom, sorry.
-/
import Derived.Test.YtlkdhhkncoekgaaDoorRows
import GoSem.ClaimSeven
namespace Go.Proofs.YtlkdhhkncoekgaaDoor
namespace Rows

/-- THE TIED CARD OF 'surtitlelaw8.MarkNumbers'. -/
def markNumbersCard : Claim7 := { stood := { row := markNumbersRow, standIns := [], harness := (true, "24f743163b4b41560b89f73048c7a86fb6ac35d3fe397a38b143e6e39405e2ab"), looks := false }, kinds := [], alts := [], laidByText := true, laidKinds := [.data, .pinned], laidTests := true, laidLooks := .later }
def MarkNumbersCardSaid : Prop := Claim7.holds Tryd.pinned (.plain (OpenSpec.ofChange markNumbersSpec)) markNumbersCard

/-- THE TIED CARD OF 'surtitlelaw8.MarkPlain'. -/
def markPlainCard : Claim7 := { stood := { row := markPlainRow, standIns := [], harness := (true, "24f743163b4b41560b89f73048c7a86fb6ac35d3fe397a38b143e6e39405e2ab"), looks := false }, kinds := [], alts := [], laidByText := true, laidKinds := [.data, .pinned], laidTests := true, laidLooks := .later }
def MarkPlainCardSaid : Prop := Claim7.holds Tryd.pinned (.plain (OpenSpec.ofChange markPlainSpec)) markPlainCard

/-- THE TIED CARD OF 'surtitlelaw8.MarkTotal'. -/
def markTotalCard : Claim7 := { stood := { row := markTotalRow, standIns := [], harness := (true, "24f743163b4b41560b89f73048c7a86fb6ac35d3fe397a38b143e6e39405e2ab"), looks := false }, kinds := [], alts := [], laidByText := true, laidKinds := [.data, .pinned], laidTests := true, laidLooks := .later }
def MarkTotalCardSaid : Prop := Claim7.holds Tryd.pinned (.plain (OpenSpec.ofChange markTotalSpec)) markTotalCard

/-- THE TIED CARD OF 'surtitlelaw8.MarkSeams'. -/
def markSeamsCard : Claim7 := { stood := { row := markSeamsRow, standIns := [], harness := (true, "24f743163b4b41560b89f73048c7a86fb6ac35d3fe397a38b143e6e39405e2ab"), looks := false }, kinds := [], alts := [], laidByText := true, laidKinds := [.data, .pinned], laidTests := true, laidLooks := .later }
def MarkSeamsCardSaid : Prop := Claim7.holds Tryd.pinned (.plain (OpenSpec.ofChange markSeamsSpec)) markSeamsCard

/-- THE TIED CARD OF 'surtitlelaw8.MarkLong'. -/
def markLongCard : Claim7 := { stood := { row := markLongRow, standIns := [], harness := (true, "24f743163b4b41560b89f73048c7a86fb6ac35d3fe397a38b143e6e39405e2ab"), looks := false }, kinds := [], alts := [], laidByText := true, laidKinds := [.data, .pinned], laidTests := true, laidLooks := .later }
def MarkLongCardSaid : Prop := Claim7.holds Tryd.pinned (.plain (OpenSpec.ofChange markLongSpec)) markLongCard

/-- THE TIED CARD OF 'surtitlelaw8.MarkNames'. -/
def markNamesCard : Claim7 := { stood := { row := markNamesRow, standIns := [], harness := (true, "24f743163b4b41560b89f73048c7a86fb6ac35d3fe397a38b143e6e39405e2ab"), looks := false }, kinds := [], alts := [], laidByText := true, laidKinds := [.data, .pinned], laidTests := true, laidLooks := .later }
def MarkNamesCardSaid : Prop := Claim7.holds Tryd.pinned (.plain (OpenSpec.ofChange markNamesSpec)) markNamesCard

/-- THE TIED CARD OF 'surtitlelaw8.MarkCounts'. -/
def markCountsCard : Claim7 := { stood := { row := markCountsRow, standIns := [], harness := (true, "24f743163b4b41560b89f73048c7a86fb6ac35d3fe397a38b143e6e39405e2ab"), looks := false }, kinds := [], alts := [], laidByText := true, laidKinds := [.data, .pinned], laidTests := true, laidLooks := .later }
def MarkCountsCardSaid : Prop := Claim7.holds Tryd.pinned (.plain (OpenSpec.ofChange markCountsSpec)) markCountsCard

/-- THE SECOND FORM's CARD OF 'surtitlelaw8.MarkNumbers'. -/
def markNumbersUptoCard : Claim7 := { stood := { row := markNumbersUptoRow, standIns := [], harness := (true, "24f743163b4b41560b89f73048c7a86fb6ac35d3fe397a38b143e6e39405e2ab"), looks := false }, kinds := [], alts := [], laidByText := true, laidKinds := [.data, .pinned], laidTests := true, laidLooks := .later }
def MarkNumbersUptoCardSaid : Prop := Claim7.holds Tryd.pinned (.plain (OpenSpec.upto markNumbersSpec)) markNumbersUptoCard

/-- THE SECOND FORM's CARD OF 'surtitlelaw8.MarkPlain'. -/
def markPlainUptoCard : Claim7 := { stood := { row := markPlainUptoRow, standIns := [], harness := (true, "24f743163b4b41560b89f73048c7a86fb6ac35d3fe397a38b143e6e39405e2ab"), looks := false }, kinds := [], alts := [], laidByText := true, laidKinds := [.data, .pinned], laidTests := true, laidLooks := .later }
def MarkPlainUptoCardSaid : Prop := Claim7.holds Tryd.pinned (.plain (OpenSpec.upto markPlainSpec)) markPlainUptoCard

/-- THE SECOND FORM's CARD OF 'surtitlelaw8.MarkTotal'. -/
def markTotalUptoCard : Claim7 := { stood := { row := markTotalUptoRow, standIns := [], harness := (true, "24f743163b4b41560b89f73048c7a86fb6ac35d3fe397a38b143e6e39405e2ab"), looks := false }, kinds := [], alts := [], laidByText := true, laidKinds := [.data, .pinned], laidTests := true, laidLooks := .later }
def MarkTotalUptoCardSaid : Prop := Claim7.holds Tryd.pinned (.plain (OpenSpec.upto markTotalSpec)) markTotalUptoCard

/-- THE SECOND FORM's CARD OF 'surtitlelaw8.MarkSeams'. -/
def markSeamsUptoCard : Claim7 := { stood := { row := markSeamsUptoRow, standIns := [], harness := (true, "24f743163b4b41560b89f73048c7a86fb6ac35d3fe397a38b143e6e39405e2ab"), looks := false }, kinds := [], alts := [], laidByText := true, laidKinds := [.data, .pinned], laidTests := true, laidLooks := .later }
def MarkSeamsUptoCardSaid : Prop := Claim7.holds Tryd.pinned (.plain (OpenSpec.upto markSeamsSpec)) markSeamsUptoCard

/-- THE SECOND FORM's CARD OF 'surtitlelaw8.MarkLong'. -/
def markLongUptoCard : Claim7 := { stood := { row := markLongUptoRow, standIns := [], harness := (true, "24f743163b4b41560b89f73048c7a86fb6ac35d3fe397a38b143e6e39405e2ab"), looks := false }, kinds := [], alts := [], laidByText := true, laidKinds := [.data, .pinned], laidTests := true, laidLooks := .later }
def MarkLongUptoCardSaid : Prop := Claim7.holds Tryd.pinned (.plain (OpenSpec.upto markLongSpec)) markLongUptoCard

/-- THE SECOND FORM's CARD OF 'surtitlelaw8.MarkNames'. -/
def markNamesUptoCard : Claim7 := { stood := { row := markNamesUptoRow, standIns := [], harness := (true, "24f743163b4b41560b89f73048c7a86fb6ac35d3fe397a38b143e6e39405e2ab"), looks := false }, kinds := [], alts := [], laidByText := true, laidKinds := [.data, .pinned], laidTests := true, laidLooks := .later }
def MarkNamesUptoCardSaid : Prop := Claim7.holds Tryd.pinned (.plain (OpenSpec.upto markNamesSpec)) markNamesUptoCard

/-- THE SECOND FORM's CARD OF 'surtitlelaw8.MarkCounts'. -/
def markCountsUptoCard : Claim7 := { stood := { row := markCountsUptoRow, standIns := [], harness := (true, "24f743163b4b41560b89f73048c7a86fb6ac35d3fe397a38b143e6e39405e2ab"), looks := false }, kinds := [], alts := [], laidByText := true, laidKinds := [.data, .pinned], laidTests := true, laidLooks := .later }
def MarkCountsUptoCardSaid : Prop := Claim7.holds Tryd.pinned (.plain (OpenSpec.upto markCountsSpec)) markCountsUptoCard
end Rows
end Go.Proofs.YtlkdhhkncoekgaaDoor
