/- The laws' own known words, reckoned by the kernel. -/
import Derived.Test.YtlkdhhkncoekgaaDoorTabs
import Derived.Test.YtlkdhhkncoekgaaDoorAmTri
namespace Go.Proofs.YtlkdhhkncoekgaaDoor
open Go.Am Go
theorem E9 (e1 e2:TypeId):(jz Tryd.prog ext 2000 10 [] (fA kG (bG e1 e2))).map (·.1)=some (.bool true):=by kernel_rfl
end Go.Proofs.YtlkdhhkncoekgaaDoor
