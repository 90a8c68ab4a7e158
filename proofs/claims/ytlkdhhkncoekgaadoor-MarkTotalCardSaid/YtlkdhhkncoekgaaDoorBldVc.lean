/- What functions ask: builders. -/
import Derived.Test.YtlkdhhkncoekgaaDoorAmTri
import Derived.Test.YtlkdhhkncoekgaaDoorTabs
namespace Go.Proofs.YtlkdhhkncoekgaaDoor
open Go.Am Go
open _root_.Go.Am.AV (int slice ptr str bool agg tuple)
open _root_.Go.IntKind (i64 i32 u8 u64)
open _root_.Go.Am.AObj (cells)

theorem bWrS_vc (X:Atoms) (p:Nat) (s : List UInt8) (H:AH) (Q : AV → AH → Prop) : (vcF X Tryd.prog [] 46 [.ptr (some (p, 0)), .str s] H Q) =
(X.call 75 [ptr (some (p, 0))] H fun (_v1:AV) (H1:AH) =>
∃ (q1 : Option (Nat × Nat)),
∃ (k1 k2:Nat),
X.rd1 H1 p 1 = some (slice q1 k1 k2) ∧
∃ (q2 : Option (Nat × Nat)),
∃ (k3 k4:Nat),
∃ (H2:AH),
X.app 39 9 (slice q1 k1 k2) (str s) H1 = some (slice q2 k3 k4, H2) ∧
[slice q2 k3 k4].length = (1:Nat) ∧ ∃ (H3:AH), X.wr H2 p (1:Nat) [slice q2 k3 k4] = some H3 ∧ Q (tuple [int i64 (↑s.length : Int), AV.nilIface]) H3) := by kernel_rfl

theorem bWrB_vc (X:Atoms) (p:Nat) (c:Int) (H:AH) (Q : AV → AH → Prop) : (vcF X Tryd.prog [] 47 [.ptr (some (p, 0)), .int .u8 c] H Q) =
(X.call 75 [ptr (some (p, 0))] H fun (_v1:AV) (H1:AH) =>
∃ (q1 : Option (Nat × Nat)),
∃ (k1 k2:Nat),
X.rd1 H1 p 1 = some (slice q1 k1 k2) ∧
(1 ≤ 16777216 ∧ 1 = 1 ∧ 0 < 1 ∧ true = true ∧ true = true) ∧
∃ (q2 : Option (Nat × Nat)),
∃ (k3 k4:Nat),
∃ (H2:AH),
X.app 39 39 (slice q1 k1 k2) (slice (some (X.n H1, 0)) 1 1) (X.al H1 (cells [int u8 c] 5 { whole := true })) = some (slice q2 k3 k4, H2) ∧
[slice q2 k3 k4].length = 1 ∧ ∃ (H3:AH), X.wr H2 p 1 [slice q2 k3 k4] = some H3 ∧ Q AV.nilIface H3) := by kernel_rfl

theorem bChk_vc (X:Atoms) (p:Nat) (H:AH) (Q : AV → AH → Prop) : (vcF X Tryd.prog [] 75 [.ptr (some (p, 0))] H Q) =
((∃ (k1 k2:Nat),
X.rd1 H p 0 = some (ptr (some (k1, k2))) ∧
∃ (b1:Bool),
some false = some b1 ∧
bif b1 then
X.cvs 88 140 (ptr (some (p, 0))) H = some (ptr (some (p, 0)), H) ∧
X.call 90 [ptr (some (p, 0))] H fun (v1:AV) (H1:AH) =>
(∃ (k3 k4:Nat),
v1 = ptr (some (k3, k4)) ∧
X.cvs 140 88 (ptr (some (k3, k4))) H1 = some (ptr (some (k3, k4)), H1) ∧
[ptr (some (k3, k4))].length = 1 ∧ ∃ (H2:AH), X.wr H1 p 0 [ptr (some (k3, k4))] = some H2 ∧ Q (tuple []) H2) ∨
v1 = ptr none ∧ False
else
(∃ (k5 k6:Nat),
X.rd1 H p 0 = some (ptr (some (k5, k6))) ∧ ∃ (b2:Bool), eqV Tryd.prog 8 88 (ptr (some (k5, k6))) (ptr (some (p, 0))) = some b2 ∧ bif !b2 then False else Q (tuple []) H) ∨
X.rd1 H p 0 = some (ptr none) ∧ ∃ (b3:Bool), some false = some b3 ∧ bif !b3 then False else Q (tuple []) H) ∨
X.rd1 H p 0 = some (ptr none) ∧
∃ (b4:Bool),
some true = some b4 ∧
bif b4 then
X.cvs 88 140 (ptr (some (p, 0))) H = some (ptr (some (p, 0)), H) ∧
X.call 90 [ptr (some (p, 0))] H fun (v2:AV) (H3:AH) =>
(∃ (k7 k8:Nat),
v2 = ptr (some (k7, k8)) ∧
X.cvs 140 88 (ptr (some (k7, k8))) H3 = some (ptr (some (k7, k8)), H3) ∧
[ptr (some (k7, k8))].length = 1 ∧ ∃ (H4:AH), X.wr H3 p 0 [ptr (some (k7, k8))] = some H4 ∧ Q (tuple []) H4) ∨
v2 = ptr none ∧ False
else
(∃ (k9 k10:Nat),
X.rd1 H p 0 = some (ptr (some (k9, k10))) ∧ ∃ (b5:Bool), eqV Tryd.prog 8 88 (ptr (some (k9, k10))) (ptr (some (p, 0))) = some b5 ∧ bif !b5 then False else Q (tuple []) H) ∨
X.rd1 H p 0 = some (ptr none) ∧ ∃ (b6:Bool), some false = some b6 ∧ bif !b6 then False else Q (tuple []) H) := by kernel_rfl

end Go.Proofs.YtlkdhhkncoekgaaDoor
