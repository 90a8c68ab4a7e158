/- A fact of the row: what the program says of unfollowed. -/
import Derived.Test.YtppcjgegihghnaaGreatDoorCards
import Derived.Test.YtppcjgegihghnaaGreatDoorTie
import Derived.SevenTiedAt
namespace Go.Proofs.YtppcjgegihghnaaGreatDoor.convNames
open Go
theorem fact_unfollowed : (Rows.convNamesRow.unfollowed == Tryz.pinned.checked.prog.unfollowed 3) = true := by kernel_rfl
end Go.Proofs.YtppcjgegihghnaaGreatDoor.convNames
