/- The laws' own known words, reckoned by the kernel. -/
import Derived.Test.YtlkdhhkncoekgaaDoorTabs
import Derived.Test.YtlkdhhkncoekgaaDoorAmTri
namespace Go.Proofs.YtlkdhhkncoekgaaDoor
open Go.Am Go
theorem known_run (e1 e2 : TypeId) : (runCallF Tryd.prog ext 2000 10 [] (startH nGlob (startTabs e1 e2))).map (·.1) = some (.bool true) := by kernel_rfl

end Go.Proofs.YtlkdhhkncoekgaaDoor
