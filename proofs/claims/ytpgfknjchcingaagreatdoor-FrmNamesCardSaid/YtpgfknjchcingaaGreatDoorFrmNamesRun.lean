/- The run of FrmNames, reckoned by the kernel. -/
import Derived.Test.YtpgfknjchcingaaGreatDoorTabs
namespace Go.Proofs.YtpgfknjchcingaaGreatDoor.frmNames
open Go.Am Go
theorem reckoned (e1 e2 : TypeId) : (runCallF Tryz.prog ext 20000 4 [] (startH nGlob (startTabs e1 e2))).map (·.1) = some (.bool true) := by kernel_rfl
end Go.Proofs.YtpgfknjchcingaaGreatDoor.frmNames
