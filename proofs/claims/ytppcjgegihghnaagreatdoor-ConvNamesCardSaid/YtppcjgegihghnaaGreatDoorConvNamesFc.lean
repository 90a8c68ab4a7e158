/- A fact of the row: what the program says of recurses. -/
import Derived.Test.YtppcjgegihghnaaGreatDoorCards
import Derived.Test.YtppcjgegihghnaaGreatDoorTie
import Derived.SevenTiedAt
namespace Go.Proofs.YtppcjgegihghnaaGreatDoor.convNames
open Go
theorem fact_recurses : (Rows.convNamesRow.recurses == Tryz.pinned.checked.prog.recurses 3) = true := by kernel_rfl
end Go.Proofs.YtppcjgegihghnaaGreatDoor.convNames
