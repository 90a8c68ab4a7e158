/- The laws' own first words (head), reckoned by the kernel. -/
import Derived.Test.YtpgfknjchcingaaGreatDoorTabs
import Derived.Test.YtpgfknjchcingaaGreatDoorAmY
namespace Go.Proofs.YtpgfknjchcingaaGreatDoor
open Go.Am Go
theorem head_run (e1 e2 : TypeId) : (runCallF Tryz.prog ext 20000 7 [] (startH nGlob (startTabs e1 e2))).map (·.1) = some (.bool true) := by kernel_rfl

end Go.Proofs.YtpgfknjchcingaaGreatDoor
