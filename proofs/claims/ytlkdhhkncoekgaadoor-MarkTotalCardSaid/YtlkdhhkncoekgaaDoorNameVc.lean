/- What functions ask: names. -/
import Derived.Test.YtlkdhhkncoekgaaDoorAmTri
import Derived.Test.YtlkdhhkncoekgaaDoorTabs
namespace Go.Proofs.YtlkdhhkncoekgaaDoor
open Go.Am Go
open _root_.Go.Am.AV (int slice ptr str bool agg tuple)
open _root_.Go.IntKind (i64 i32 u8 u64)
open _root_.Go.Am.AObj (cells)

theorem low_vc (X:Atoms) (c:Int) (H:AH) (Q : AV → AH → Prop) : (vcF X Tryd.prog [] 60 [.int .i32 c] H Q) =
(Q (bool (decide (c < (32:Int)))) H) := by kernel_rfl

theorem indexFunc_vc (X:Atoms) (s : List UInt8) (H:AH) (Q : AV → AH → Prop) (I : Nat → AH → Nat → Prop) : (vcF X Tryd.prog [⟨2, Nat, [1, 2, 10], fun _ => [.func (.func 60) [] [], .bool true, .ptr (some (X.n H, 0))], I⟩] 82 [.str s, .func (.func 60) [] [], .bool true] H Q) =
((∃ (k1 k2:Nat),
[AV.func (Fn.func (60:FuncId)) [] [], bool true, ptr (some (X.n H, 0))] = [AV.func (Fn.func (60:FuncId)) [] [], bool true, ptr (some (X.n H, 0))] ∧ I k1 (X.al H (AObj.iter s 0)) k2) ∧
∀ (k3:Nat) (H1:AH) (k4:Nat),
I k3 H1 k4 →
∃ (s1 : List UInt8),
∃ (k5:Nat),
X.get H1 (X.n H) = some (AObj.iter s1 k5) ∧
(k5 < s1.length →
X.call (60:FuncId) [int i32 (↑(decodeL s1 k5).1 : Int)] (X.set H1 (X.n H) (AObj.iter s1 (k5 + (decodeL s1 k5).2))) fun (v1:AV) (H2:AH) =>
∃ (b1:Bool),
v1 = bool b1 ∧
bif b1 == true then Q (int i64 (↑k5 : Int)) H2
else
∃ (k6 k7:Nat),
k7 < k4 ∧ [AV.func (Fn.func (60:FuncId)) [] [], bool true, ptr (some (X.n H, 0))] = [AV.func (Fn.func (60:FuncId)) [] [], bool true, ptr (some (X.n H, 0))] ∧ I k6 H2 k7) ∧
(¬k5 < s1.length → Q (int i64 (-1 : Int)) H1)) := by kernel_rfl

theorem IndexFunc_vc (X:Atoms) (s : List UInt8) (H:AH) (Q : AV → AH → Prop) : (vcF X Tryd.prog [] 59 [.str s, .func (.func 60) [] []] H Q) =
(X.call 82 [str s, AV.func (Fn.func (60:FuncId)) [] [], bool true] H fun (v1:AV) (H1:AH) => ∃ (n1:Int), v1 = int i64 n1 ∧ Q (int i64 n1) H1) := by kernel_rfl

theorem isName_vc (X:Atoms) (s : List UInt8) (H:AH) (Q : AV → AH → Prop) : (vcF X Tryd.prog [] 33 [.str s] H Q) =
(bif decide ((↑s.length : Int) > (64:Int)) then Q (bool false) H
else X.call 59 [str s, AV.func (Fn.func 60) [] []] H fun (v1:AV) (H1:AH) => ∃ (n1:Int), v1 = int i64 n1 ∧ Q (bool (decide (n1 < (0:Int)))) H1) := by kernel_rfl

end Go.Proofs.YtlkdhhkncoekgaaDoor
