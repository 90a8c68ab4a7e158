/- A fact of the row: what the program says of inPlace. -/
import Derived.Test.YtppcjgegihghnaaGreatDoorCards
import Derived.Test.YtppcjgegihghnaaGreatDoorTie
import Derived.SevenTiedAt
namespace Go.Proofs.YtppcjgegihghnaaGreatDoor.convNames
open Go
theorem fact_inPlace : (Rows.convNamesRow.inPlace == Tryz.pinned.checked.prog.inPlace 3) = true := by kernel_rfl
end Go.Proofs.YtppcjgegihghnaaGreatDoor.convNames
