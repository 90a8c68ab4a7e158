/- A fact of the row: what the program says of named. -/
import Derived.Test.YtppcjgegihghnaaGreatDoorCards
import Derived.Test.YtppcjgegihghnaaGreatDoorTie
import Derived.SevenTiedAt
namespace Go.Proofs.YtppcjgegihghnaaGreatDoor.convNames
open Go
theorem fact_named : (Rows.convNamesRow.named == Tryz.pinned.checked.prog.varsNamed 3) = true := by kernel_rfl
end Go.Proofs.YtppcjgegihghnaaGreatDoor.convNames
