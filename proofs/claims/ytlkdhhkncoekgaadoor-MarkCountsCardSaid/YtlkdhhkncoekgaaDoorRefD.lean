/- A span laid into a row in order, by the reference's functions. -/
import Derived.Test.YtlkdhhkncoekgaaDoorRefC
section
namespace Go.Proofs.YtlkdhhkncoekgaaDoor
open Go.Am Go
end Go.Proofs.YtlkdhhkncoekgaaDoor
end
