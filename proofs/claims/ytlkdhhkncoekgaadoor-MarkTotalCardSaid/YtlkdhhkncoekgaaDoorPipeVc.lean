/- What functions ask: lines' forms. -/
import Derived.Test.YtlkdhhkncoekgaaDoorAmTri
import Derived.Test.YtlkdhhkncoekgaaDoorTabs
namespace Go.Proofs.YtlkdhhkncoekgaaDoor
open Go.Am Go
open _root_.Go.Am.AV (int slice ptr str bool agg tuple)
open _root_.Go.IntKind (i64 i32 u8 u64)
open _root_.Go.Am.AObj (cells)

theorem pipe2_vc (X : Option Nat → Atoms) (It : FuncId → List AV → List AV → (AH → Prop) → List (List AV) → Prop) (p:Nat) (t : List UInt8) (H:AH) (Q : AV → AH → Prop) : (vcG X It Tryd.prog [⟨200003, Int × Bool, [0, 1, 5, 25], fun x => [.ptr (some (p, 0)), .str t, .int .i64 x.1, .bool x.2], fun _ _ _ => True⟩, ⟨8, Int × Nat × (Option (Nat × Nat) × Nat × Nat) × Int × Int, [0, 5, 8, 39, 40, 41], fun x => [.ptr (some (p, 0)), .int .i64 x.1, .ptr (some (x.2.1, 0)), .slice x.2.2.1.1 x.2.2.1.2.1 x.2.2.1.2.2, .int .i64 x.2.2.2.1, .int .i64 x.2.2.2.2], fun _ _ _ => True⟩, ⟨200026, Int × Int × Bool, [0, 5, 13, 87], fun x => [.ptr (some (p, 0)), .int .i64 x.1, .int .i64 x.2.1, .bool x.2.2], fun _ _ _ => True⟩] [] 26 [.ptr (some (p, 0)), .str t] H Q) =
((X none).call 44 [str t, int u8 (125:Int)] H fun (v1:AV) (H1:AH) =>
∃ (n1:Int),
v1 = int i64 n1 ∧
∃ (x1 : Int × Bool → AH → Prop),
(bif decide (n1 < (0:Int)) == false then
(X none).call 45 [ptr (some (p, 0)), int i64 ((X none).wrap i64 (n1 + (1:Int)))] H1 fun (v2:AV) (H2:AH) =>
∃ (b1:Bool),
v2 = bool b1 ∧
∃ (x2 : Int × Bool), ∃ (_k1:Nat), True ∧ [ptr (some (p, 0)), str t, int i64 n1, bool !b1] = [ptr (some (p, 0)), str t, int i64 x2.1, bool x2.2] ∧ x1 x2 H2
else ∃ (x3 : Int × Bool), ∃ (_k2:Nat), True ∧ [ptr (some (p, 0)), str t, int i64 n1, bool true] = [ptr (some (p, 0)), str t, int i64 x3.1, bool x3.2] ∧ x1 x3 H1) ∧
∀ (x4 : Int × Bool) (H3:AH),
x1 x4 H3 →
bif x4.2 then Q (int i64 0) H3
else
((0:Int) ≤ (0:Int) ∧ (0:Int) ≤ x4.1 ∧ x4.1 ≤ (↑t.length : Int)) ∧
(X none).call 43 [str (List.take (x4.1 - (0:Int)).toNat t), str [(123:UInt8), (121:UInt8), (58:UInt8)]] H3 fun (v3:AV) (H4:AH) =>
∃ (s1 : List UInt8),
∃ (b2:Bool),
v3 = tuple [str s1, bool b2] ∧
bif b2 then
∃ (b3 b4 b5 b6:Bool),
∃ (n2:Int),
(X none).rdn H4 p 11 5 = some [bool b3, bool b4, bool b5, bool b6, int i64 n2] ∧
[bool b3, bool b4, bool b5, bool b6, int i64 n2].length = 5 ∧
∃ (H5:AH),
(X none).wr ((X none).al H4 (cells [bool false, bool false, bool false, bool false, int i64 0] 53 { whole := true })) ((X none).n H4) 0
[bool b3, bool b4, bool b5, bool b6, int i64 n2] =
some H5 ∧
(X none).call 52 [str s1, str [(44:UInt8)]] H5 fun (v4:AV) (H6:AH) =>
∃ (q1 : Option (Nat × Nat)),
∃ (k3 k4:Nat),
v4 = slice q1 k3 k4 ∧
∃ (x5 : Int × Nat × (Option (Nat × Nat) × Nat × Nat) × Int × Int → AH → Nat → Prop),
(∃ (x6 : Int × Nat × (Option (Nat × Nat) × Nat × Nat) × Int × Int),
∃ (k5:Nat),
[ptr (some (p, (0:Nat))), int i64 x4.1, ptr (some ((X none).n H4, (0:Nat))), slice q1 k3 k4, int i64 (↑k3 : Int),
int i64 0] =
[ptr (some (p, 0)), int i64 x6.1, ptr (some (x6.2.1, 0)), slice x6.2.2.1.1 x6.2.2.1.2.1 x6.2.2.1.2.2,
int i64 x6.2.2.2.1, int i64 x6.2.2.2.2] ∧
x5 x6 H6 k5) ∧
∀ (x7 : Int × Nat × (Option (Nat × Nat) × Nat × Nat) × Int × Int) (H7:AH) (k6:Nat),
x5 x7 H7 k6 →
bif decide (x7.2.2.2.2 < x7.2.2.2.1) then
∃ (k7 k8:Nat),
(x7.2.2.1.1 = some (k7, k8) ∧ (0:Int) ≤ x7.2.2.2.2 ∧ x7.2.2.2.2 < (↑x7.2.2.1.2.1 : Int)) ∧
∃ (s2 : List UInt8),
(X none).rd1 H7 k7 (k8 + x7.2.2.2.2.toNat * 1) = some (str s2) ∧
bif s2 == [(98:UInt8)] then
1 = 1 ∧
∃ (H8:AH),
(X none).wr H7 x7.2.1 0 [bool true] = some H8 ∧
∃ (x8 : Int × Nat × (Option (Nat × Nat) × Nat × Nat) × Int × Int),
∃ (k9:Nat),
k9 < k6 ∧
[ptr (some (p, 0)), int i64 x7.1, ptr (some (x7.2.1, 0)),
slice x7.2.2.1.1 x7.2.2.1.2.1 x7.2.2.1.2.2, int i64 x7.2.2.2.1,
int i64 ((X none).wrap i64 (x7.2.2.2.2 + (1:Int)))] =
[ptr (some (p, 0)), int i64 x8.1, ptr (some (x8.2.1, 0)),
slice x8.2.2.1.1 x8.2.2.1.2.1 x8.2.2.1.2.2, int i64 x8.2.2.2.1,
int i64 x8.2.2.2.2] ∧
x5 x8 H8 k9
else
bif s2 == [(105:UInt8)] then
1 = 1 ∧
∃ (H9:AH),
(X none).wr H7 x7.2.1 1 [bool true] = some H9 ∧
∃ (x9 : Int × Nat × (Option (Nat × Nat) × Nat × Nat) × Int × Int),
∃ (k10:Nat),
k10 < k6 ∧
[ptr (some (p, 0)), int i64 x7.1, ptr (some (x7.2.1, 0)),
slice x7.2.2.1.1 x7.2.2.1.2.1 x7.2.2.1.2.2, int i64 x7.2.2.2.1,
int i64 ((X none).wrap i64 (x7.2.2.2.2 + (1:Int)))] =
[ptr (some (p, 0)), int i64 x9.1, ptr (some (x9.2.1, 0)),
slice x9.2.2.1.1 x9.2.2.1.2.1 x9.2.2.1.2.2, int i64 x9.2.2.2.1,
int i64 x9.2.2.2.2] ∧
x5 x9 H9 k10
else
bif s2 == [(117:UInt8)] then
1 = 1 ∧
∃ (H10:AH),
(X none).wr H7 x7.2.1 2 [bool true] = some H10 ∧
∃ (x10 : Int × Nat × (Option (Nat × Nat) × Nat × Nat) × Int × Int),
∃ (k11:Nat),
k11 < k6 ∧
[ptr (some (p, 0)), int i64 x7.1, ptr (some (x7.2.1, 0)),
slice x7.2.2.1.1 x7.2.2.1.2.1 x7.2.2.1.2.2, int i64 x7.2.2.2.1,
int i64 ((X none).wrap i64 (x7.2.2.2.2 + (1:Int)))] =
[ptr (some (p, 0)), int i64 x10.1, ptr (some (x10.2.1, 0)),
slice x10.2.2.1.1 x10.2.2.1.2.1 x10.2.2.1.2.2, int i64 x10.2.2.2.1,
int i64 x10.2.2.2.2] ∧
x5 x10 H10 k11
else
bif s2 == [(115:UInt8)] then
1 = 1 ∧
∃ (H11:AH),
(X none).wr H7 x7.2.1 3 [bool true] = some H11 ∧
∃ (x11 : Int × Nat × (Option (Nat × Nat) × Nat × Nat) × Int × Int),
∃ (k12:Nat),
k12 < k6 ∧
[ptr (some (p, 0)), int i64 x7.1, ptr (some (x7.2.1, 0)),
slice x7.2.2.1.1 x7.2.2.1.2.1 x7.2.2.1.2.2, int i64 x7.2.2.2.1,
int i64 ((X none).wrap i64 (x7.2.2.2.2 + (1:Int)))] =
[ptr (some (p, 0)), int i64 x11.1, ptr (some (x11.2.1, 0)),
slice x11.2.2.1.1 x11.2.2.1.2.1 x11.2.2.1.2.2, int i64 x11.2.2.2.1,
int i64 x11.2.2.2.2] ∧
x5 x11 H11 k12
else Q (int i64 0) H7
else
∃ (b7 b8 b9 b10:Bool),
∃ (n3:Int),
(X none).rdn H7 x7.2.1 0 5 = some [bool b7, bool b8, bool b9, bool b10, int i64 n3] ∧
[bool b7, bool b8, bool b9, bool b10, int i64 n3].length = 5 ∧
∃ (H12:AH),
(X none).wr H7 p 11 [bool b7, bool b8, bool b9, bool b10, int i64 n3] = some H12 ∧
Q (int i64 ((X none).wrap i64 (x7.1 + (1:Int)))) H12
else
((0:Int) ≤ (0:Int) ∧ (0:Int) ≤ x4.1 ∧ x4.1 ≤ (↑t.length : Int)) ∧
(X none).call 43 [str (List.take (x4.1 - (0:Int)).toNat t), str [(123:UInt8), (99:UInt8), (58:UInt8), (36:UInt8)]] H4 fun (v5:AV) (H13:AH) =>
∃ (s3 : List UInt8),
∃ (b11:Bool),
v5 = tuple [str s3, bool b11] ∧
(X none).call 50 [str s3, bool true] H13 fun (v6:AV) (H14:AH) =>
∃ (n4:Int),
∃ (b12:Bool),
v6 = tuple [int i64 n4, bool b12] ∧
∃ (x12 : Int × Int × Bool → AH → Prop),
(∃ (x13 : Int × Int × Bool),
∃ (_k13:Nat),
True ∧
[ptr (some (p, (0:Nat))), int i64 x4.1, int i64 n4, bool (!b11 || !b12 || (↑s3.length : Int) != (6:Int))] =
[ptr (some (p, 0)), int i64 x13.1, int i64 x13.2.1, bool x13.2.2] ∧
x12 x13 H14) ∧
∀ (x14 : Int × Int × Bool) (H15:AH),
x12 x14 H15 →
bif x14.2.2 then Q (int i64 0) H15
else
[int i64 x14.2.1].length = 1 ∧
∃ (H16:AH), (X none).wr H15 p 15 [int i64 x14.2.1] = some H16 ∧ Q (int i64 ((X none).wrap i64 (x14.1 + (1:Int)))) H16) := by kernel_rfl

theorem sIndex_vc (X:Atoms) (s : List UInt8) (H:AH) (Q : AV → AH → Prop) : (vcF X Tryd.prog [] 83 [.str s, .str [44]] H Q) =
(bif false || [(44:UInt8)] == s then Q (int i64 0) H
else ((0:Int) ≤ (0:Int) ∧ (0:Int) < (1:Int)) ∧ X.call 73 [str s, int u8 (44:Int)] H fun (v1:AV) (H1:AH) => ∃ (n1:Int), v1 = int i64 n1 ∧ Q (int i64 n1) H1) := by kernel_rfl

theorem Index_vc (X:Atoms) (s t : List UInt8) (H:AH) (Q : AV → AH → Prop) : (vcF X Tryd.prog [] 61 [.str s, .str t] H Q) =
(X.call 83 [str s, str t] H fun (v1:AV) (H1:AH) => ∃ (n1:Int), v1 = int i64 n1 ∧ Q (int i64 n1) H1) := by kernel_rfl

end Go.Proofs.YtlkdhhkncoekgaaDoor
