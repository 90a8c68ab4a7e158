/- The run of MarkNumbers, reckoned by the kernel. -/
import Derived.Test.YtlkdhhkncoekgaaDoorTabs
namespace Go.Proofs.YtlkdhhkncoekgaaDoor.markNumbers
open Go.Am Go
theorem reckoned (e1 e2 : TypeId) : (runCallF Tryd.prog ext 1000 3 [] (startH 3 (startTabs e1 e2))).map (·.1) = some (.bool true) := by kernel_rfl
end Go.Proofs.YtlkdhhkncoekgaaDoor.markNumbers
