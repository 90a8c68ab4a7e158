/- The laws' own known words, reckoned by the kernel. -/
import Derived.Test.YtlkdhhkncoekgaaGreatDoorTabs
import Derived.Test.YtlkdhhkncoekgaaGreatDoorAmTri
namespace Go.Proofs.YtlkdhhkncoekgaaGreatDoor
open Go.Am Go
theorem FK (e1 e2:TypeId):(jX Tryz.prog ext 2000 8 [] (fH lu (bO e1 e2))).map (·.1)=some (.bool true):=by kernel_rfl
end Go.Proofs.YtlkdhhkncoekgaaGreatDoor
