/- What functions ask: BraceVc. -/
import Derived.Test.YtlkdhhkncoekgaaDoorAmTri
import Derived.Test.YtlkdhhkncoekgaaDoorTabs
namespace Go.Proofs.YtlkdhhkncoekgaaDoor
open Go.Am Go
open _root_.Go.Am.AV (int slice ptr str bool agg tuple)
open _root_.Go.IntKind (i64 i32 u8 u64)
open _root_.Go.Am.AObj (cells)

theorem brace_vc (X : Option Nat → Atoms) (It : FuncId → List AV → List AV → (AH → Prop) → List (List AV) → Prop) (p:Nat) (t : List UInt8) (H:AH) (Q : AV → AH → Prop) : (vcG X It Tryd.prog [⟨200003, Int × Bool, [0, 1, 5, 25], fun x => [.ptr (some (p, 0)), .str t, .int .i64 x.1, .bool x.2], fun _ _ _ => True⟩, ⟨6, Int × Nat × Int × List UInt8, [0, 5, 6, 7, 8], fun x => [.ptr (some (p, 0)), .int .i64 x.1, .ptr (some (x.2.1, 0)), .int .i64 x.2.2.1, .str x.2.2.2], fun _ _ _ => True⟩, ⟨200009, (Int × Nat × Int × List UInt8) × Int × Bool, [0, 5, 6, 7, 8, 9, 56], fun x => [.ptr (some (p, 0)), .int .i64 x.1.1, .ptr (some (x.1.2.1, 0)), .int .i64 x.1.2.2.1, .str x.1.2.2.2, .int .i64 x.2.1, .bool x.2.2], fun _ _ _ => True⟩, ⟨200021, (Int × Nat × Int × List UInt8) × Int, [0, 5, 6, 7, 8, 9], fun x => [.ptr (some (p, 0)), .int .i64 x.1.1, .ptr (some (x.1.2.1, 0)), .int .i64 x.1.2.2.1, .str x.1.2.2.2, .int .i64 x.2], fun _ _ _ => True⟩, ⟨200023, (Int × Nat × Int × List UInt8) × Int × List UInt8 × Bool, [0, 5, 6, 7, 8, 9, 11, 87], fun x => [.ptr (some (p, 0)), .int .i64 x.1.1, .ptr (some (x.1.2.1, 0)), .int .i64 x.1.2.2.1, .str x.1.2.2.2, .int .i64 x.2.1, .str x.2.2.1, .bool x.2.2.2], fun _ _ _ => True⟩, ⟨200025, (Int × Nat × Int × List UInt8) × Int × Int × Bool, [0, 5, 6, 7, 8, 9, 13, 103], fun x => [.ptr (some (p, 0)), .int .i64 x.1.1, .ptr (some (x.1.2.1, 0)), .int .i64 x.1.2.2.1, .str x.1.2.2.2, .int .i64 x.2.1, .int .i64 x.2.2.1, .bool x.2.2.2], fun _ _ _ => True⟩, ⟨200026, (Int × Nat × Int × List UInt8) × Int, [0, 5, 6, 7, 8, 9], fun x => [.ptr (some (p, 0)), .int .i64 x.1.1, .ptr (some (x.1.2.1, 0)), .int .i64 x.1.2.2.1, .str x.1.2.2.2, .int .i64 x.2], fun _ _ _ => True⟩, ⟨200027, (Int × Nat × Int × List UInt8) × Int × Bool, [0, 5, 6, 7, 8, 9, 111], fun x => [.ptr (some (p, 0)), .int .i64 x.1.1, .ptr (some (x.1.2.1, 0)), .int .i64 x.1.2.2.1, .str x.1.2.2.2, .int .i64 x.2.1, .bool x.2.2], fun _ _ _ => True⟩, ⟨200028, (Int × Nat × Int × List UInt8) × Int, [0, 5, 6, 7, 8, 9], fun x => [.ptr (some (p, 0)), .int .i64 x.1.1, .ptr (some (x.1.2.1, 0)), .int .i64 x.1.2.2.1, .str x.1.2.2.2, .int .i64 x.2], fun _ _ _ => True⟩, ⟨200029, (Int × Nat × Int × List UInt8) × Int × Bool, [0, 5, 6, 7, 8, 9, 125], fun x => [.ptr (some (p, 0)), .int .i64 x.1.1, .ptr (some (x.1.2.1, 0)), .int .i64 x.1.2.2.1, .str x.1.2.2.2, .int .i64 x.2.1, .bool x.2.2], fun _ _ _ => True⟩, ⟨200030, (Int × Nat × Int × List UInt8) × Int, [0, 5, 6, 7, 8, 9], fun x => [.ptr (some (p, 0)), .int .i64 x.1.1, .ptr (some (x.1.2.1, 0)), .int .i64 x.1.2.2.1, .str x.1.2.2.2, .int .i64 x.2], fun _ _ _ => True⟩] [] 28 [.ptr (some (p, 0)), .str t] H Q) =
((X none).call 44 [str t, int u8 (125:Int)] H fun (v1:AV) (H1:AH) =>
∃ (n1:Int),
v1 = int i64 n1 ∧
∃ (x1 : Int × Bool → AH → Prop),
(bif decide (n1 < (2:Int)) == false then
(X none).call 45 [ptr (some (p, 0)), int i64 ((X none).wrap i64 (n1 + (1:Int)))] H1 fun (v2:AV) (H2:AH) =>
∃ (b1:Bool),
v2 = bool b1 ∧
∃ (x2 : Int × Bool), ∃ (_k1:Nat), True ∧ [ptr (some (p, 0)), str t, int i64 n1, bool !b1] = [ptr (some (p, 0)), str t, int i64 x2.1, bool x2.2] ∧ x1 x2 H2
else ∃ (x3 : Int × Bool), ∃ (_k2:Nat), True ∧ [ptr (some (p, 0)), str t, int i64 n1, bool true] = [ptr (some (p, 0)), str t, int i64 x3.1, bool x3.2] ∧ x1 x3 H1) ∧
∀ (x4 : Int × Bool) (H3:AH),
x1 x4 H3 →
bif x4.2 then Q (int i64 0) H3
else
∃ (b2 b3 b4 b5:Bool),
∃ (n2:Int),
(X none).rdn H3 p 11 5 = some [bool b2, bool b3, bool b4, bool b5, int i64 n2] ∧
∃ (n3:Int),
(X none).rd1 H3 p 18 = some (int i64 n3) ∧
(∃ (n4:Int),
(X none).rd1 ((X none).al H3 (cells [bool false, bool false, bool false, bool false, int i64 0] 53 { whole := true })) p 18 =
some (int i64 n4) ∧
int i64 n4 = int i64 n3) ∧
(∃ (b6 b7 b8 b9:Bool),
∃ (n5:Int),
(X none).rdn ((X none).al H3 (cells [bool false, bool false, bool false, bool false, int i64 0] 53 { whole := true })) p 11 5 =
some [bool b6, bool b7, bool b8, bool b9, int i64 n5] ∧
agg [bool b6, bool b7, bool b8, bool b9, int i64 n5] = agg [bool b2, bool b3, bool b4, bool b5, int i64 n2]) ∧
[bool b2, bool b3, bool b4, bool b5, int i64 n2].length = 5 ∧
∃ (H4:AH),
(X none).wr ((X none).al H3 (cells [bool false, bool false, bool false, bool false, int i64 0] 53 { whole := true })) ((X none).n H3) 0
[bool b2, bool b3, bool b4, bool b5, int i64 n2] =
some H4 ∧
(∃ (n6:Int), (X none).rd1 H4 p 18 = some (int i64 n6) ∧ int i64 n6 = int i64 n3) ∧
((0:Int) ≤ (1:Int) ∧ (1:Int) ≤ x4.1 ∧ x4.1 ≤ (↑t.length : Int)) ∧
∃ (x5 : Int × Nat × Int × List UInt8 → AH → Nat → Prop),
(∃ (x6 : Int × Nat × Int × List UInt8),
∃ (k3:Nat),
[ptr (some (p, 0)), int i64 x4.1, ptr (some ((X none).n H3, 0)), int i64 n3,
str (List.take (x4.1 - (1:Int)).toNat (List.drop 1 t))] =
[ptr (some (p, 0)), int i64 x6.1, ptr (some (x6.2.1, 0)), int i64 x6.2.2.1, str x6.2.2.2] ∧
x5 x6 H4 k3) ∧
∀ (x7 : Int × Nat × Int × List UInt8) (H5:AH) (k4:Nat),
x5 x7 H5 k4 →
bif !x7.2.2.2 == [] then
∃ (x8 : (Int × Nat × Int × List UInt8) × Int → AH → Prop),
(∃ (x9 : (Int × Nat × Int × List UInt8) × Int × Bool → AH → Prop),
(((decide ((↑x7.2.2.2.length : Int) ≥ (3:Int)) == true) = true → (0:Int) ≤ (0:Int) ∧ (0:Int) < (↑x7.2.2.2.length : Int)) ∧
(((decide ((↑x7.2.2.2.length : Int) ≥ (3:Int)) && (↑(x7.2.2.2[(0:Nat)]?.getD (0:UInt8)).toNat : Int) == (92:Int)) == true) = true →
(0:Int) ≤ (2:Int) ∧ (2:Int) < (↑x7.2.2.2.length : Int)) ∧
(((decide ((↑x7.2.2.2.length : Int) ≥ (3:Int)) && (↑(x7.2.2.2[(0:Nat)]?.getD (0:UInt8)).toNat : Int) == (92:Int)) == true &&
((↑(x7.2.2.2[(2:Nat)]?.getD (0:UInt8)).toNat : Int) == (48:Int)) == false) =
true →
(0:Int) ≤ (2:Int) ∧ (2:Int) < (↑x7.2.2.2.length : Int)) ∧
∃ (x10 : (Int × Nat × Int × List UInt8) × Int × Bool),
∃ (_k5:Nat),
True ∧
[ptr (some (p, 0)), int i64 x7.1, ptr (some (x7.2.1, 0)), int i64 x7.2.2.1, str x7.2.2.2,
int i64 0,
bool
(decide ((↑x7.2.2.2.length : Int) ≥ (3:Int)) && (↑(x7.2.2.2[(0:Nat)]?.getD (0:UInt8)).toNat : Int) == (92:Int) &&
((↑(x7.2.2.2[(2:Nat)]?.getD (0:UInt8)).toNat : Int) == (48:Int) ||
(↑(x7.2.2.2[(2:Nat)]?.getD (0:UInt8)).toNat : Int) == (49:Int)))] =
[ptr (some (p, 0)), int i64 x10.1.1, ptr (some (x10.1.2.1, 0)), int i64 x10.1.2.2.1,
str x10.1.2.2.2, int i64 x10.2.1, bool x10.2.2] ∧
x9 x10 H5) ∧
∀ (x11 : (Int × Nat × Int × List UInt8) × Int × Bool) (H6:AH),
x9 x11 H6 →
bif x11.2.2 then
((0:Int) ≤ (2:Int) ∧ (2:Int) < (↑x11.1.2.2.2.length : Int)) ∧
((0:Int) ≤ (1:Int) ∧ (1:Int) < (↑x11.1.2.2.2.length : Int)) ∧
bif (↑(x11.1.2.2.2[(1:Nat)]?.getD (0:UInt8)).toNat : Int) == (98:Int) then
[bool ((↑(x11.1.2.2.2[(2:Nat)]?.getD (0:UInt8)).toNat : Int) == (49:Int))].length = (1:Nat) ∧
∃ (H7:AH),
(X none).wr H6 x11.1.2.1 (0:Nat) [bool ((↑(x11.1.2.2.2[(2:Nat)]?.getD (0:UInt8)).toNat : Int) == (49:Int))] = some H7 ∧
∃ (x12 : (Int × Nat × Int × List UInt8) × Int),
∃ (_k6:Nat),
True ∧
[ptr (some (p, 0)), int i64 x11.1.1, ptr (some (x11.1.2.1, 0)), int i64 x11.1.2.2.1,
str x11.1.2.2.2, int i64 3] =
[ptr (some (p, 0)), int i64 x12.1.1, ptr (some (x12.1.2.1, 0)), int i64 x12.1.2.2.1,
str x12.1.2.2.2, int i64 x12.2] ∧
x8 x12 H7
else
bif (↑(x11.1.2.2.2[(1:Nat)]?.getD (0:UInt8)).toNat : Int) == (105:Int) then
[bool ((↑(x11.1.2.2.2[(2:Nat)]?.getD (0:UInt8)).toNat : Int) == (49:Int))].length = (1:Nat) ∧
∃ (H8:AH),
(X none).wr H6 x11.1.2.1 (1:Nat) [bool ((↑(x11.1.2.2.2[(2:Nat)]?.getD (0:UInt8)).toNat : Int) == (49:Int))] = some H8 ∧
∃ (x13 : (Int × Nat × Int × List UInt8) × Int),
∃ (_k7:Nat),
True ∧
[ptr (some (p, 0)), int i64 x11.1.1, ptr (some (x11.1.2.1, 0)), int i64 x11.1.2.2.1,
str x11.1.2.2.2, int i64 3] =
[ptr (some (p, 0)), int i64 x13.1.1, ptr (some (x13.1.2.1, 0)), int i64 x13.1.2.2.1,
str x13.1.2.2.2, int i64 x13.2] ∧
x8 x13 H8
else
bif (↑(x11.1.2.2.2[(1:Nat)]?.getD (0:UInt8)).toNat : Int) == (117:Int) then
[bool ((↑(x11.1.2.2.2[(2:Nat)]?.getD (0:UInt8)).toNat : Int) == (49:Int))].length = (1:Nat) ∧
∃ (H9:AH),
(X none).wr H6 x11.1.2.1 (2:Nat) [bool ((↑(x11.1.2.2.2[(2:Nat)]?.getD (0:UInt8)).toNat : Int) == (49:Int))] = some H9 ∧
∃ (x14 : (Int × Nat × Int × List UInt8) × Int),
∃ (_k8:Nat),
True ∧
[ptr (some (p, 0)), int i64 x11.1.1, ptr (some (x11.1.2.1, 0)), int i64 x11.1.2.2.1,
str x11.1.2.2.2, int i64 3] =
[ptr (some (p, 0)), int i64 x14.1.1, ptr (some (x14.1.2.1, 0)),
int i64 x14.1.2.2.1, str x14.1.2.2.2, int i64 x14.2] ∧
x8 x14 H9
else
bif (↑(x11.1.2.2.2[(1:Nat)]?.getD (0:UInt8)).toNat : Int) == (115:Int) then
[bool ((↑(x11.1.2.2.2[(2:Nat)]?.getD (0:UInt8)).toNat : Int) == (49:Int))].length = (1:Nat) ∧
∃ (H10:AH),
(X none).wr H6 x11.1.2.1 (3:Nat) [bool ((↑(x11.1.2.2.2[(2:Nat)]?.getD (0:UInt8)).toNat : Int) == (49:Int))] = some H10 ∧
∃ (x15 : (Int × Nat × Int × List UInt8) × Int),
∃ (_k9:Nat),
True ∧
[ptr (some (p, 0)), int i64 x11.1.1, ptr (some (x11.1.2.1, 0)), int i64 x11.1.2.2.1,
str x11.1.2.2.2, int i64 3] =
[ptr (some (p, 0)), int i64 x15.1.1, ptr (some (x15.1.2.1, 0)),
int i64 x15.1.2.2.1, str x15.1.2.2.2, int i64 x15.2] ∧
x8 x15 H10
else
∃ (x16 : (Int × Nat × Int × List UInt8) × Int),
∃ (_k10:Nat),
True ∧
[ptr (some (p, 0)), int i64 x11.1.1, ptr (some (x11.1.2.1, 0)), int i64 x11.1.2.2.1,
str x11.1.2.2.2, int i64 0] =
[ptr (some (p, 0)), int i64 x16.1.1, ptr (some (x16.1.2.1, 0)), int i64 x16.1.2.2.1,
str x16.1.2.2.2, int i64 x16.2] ∧
x8 x16 H6
else
∃ (x17 : (Int × Nat × Int × List UInt8) × Int),
∃ (_k11:Nat),
True ∧
[ptr (some (p, 0)), int i64 x11.1.1, ptr (some (x11.1.2.1, 0)), int i64 x11.1.2.2.1,
str x11.1.2.2.2, int i64 x11.2.1] =
[ptr (some (p, 0)), int i64 x17.1.1, ptr (some (x17.1.2.1, 0)), int i64 x17.1.2.2.1,
str x17.1.2.2.2, int i64 x17.2] ∧
x8 x17 H6) ∧
∀ (x18 : (Int × Nat × Int × List UInt8) × Int) (H11:AH),
x8 x18 H11 →
∃ (x19 : (Int × Nat × Int × List UInt8) × Int → AH → Prop),
((X none).call 43 [str x18.1.2.2.2, str [(92:UInt8), (99:UInt8), (38:UInt8), (72:UInt8)]] H11 fun (v3:AV) (H12:AH) =>
∃ (s1 : List UInt8),
∃ (b10:Bool),
v3 = tuple [str s1, bool b10] ∧
∃ (x20 : (Int × Nat × Int × List UInt8) × Int × List UInt8 × Bool → AH → Prop),
(∃ (x21 : (Int × Nat × Int × List UInt8) × Int × List UInt8 × Bool),
∃ (_k12:Nat),
True ∧
[ptr (some (p, 0)), int i64 x18.1.1, ptr (some (x18.1.2.1, 0)), int i64 x18.1.2.2.1,
str x18.1.2.2.2, int i64 x18.2, str s1, bool (b10 && x18.2 == (0:Int))] =
[ptr (some (p, 0)), int i64 x21.1.1, ptr (some (x21.1.2.1, 0)), int i64 x21.1.2.2.1,
str x21.1.2.2.2, int i64 x21.2.1, str x21.2.2.1, bool x21.2.2.2] ∧
x20 x21 H12) ∧
∀ (x22 : (Int × Nat × Int × List UInt8) × Int × List UInt8 × Bool) (H13:AH),
x20 x22 H13 →
bif x22.2.2.2 then
(X none).call 50 [str x22.2.2.1, bool true] H13 fun (v4:AV) (H14:AH) =>
∃ (n7:Int),
∃ (b11:Bool),
v4 = tuple [int i64 n7, bool b11] ∧
∃ (x23 : (Int × Nat × Int × List UInt8) × Int × Int × Bool → AH → Prop),
((((b11 && decide ((↑x22.2.2.1.length : Int) > (6:Int))) == true) = true →
(0:Int) ≤ (6:Int) ∧ (6:Int) < (↑x22.2.2.1.length : Int)) ∧
∃ (x24 : (Int × Nat × Int × List UInt8) × Int × Int × Bool),
∃ (_k13:Nat),
True ∧
[ptr (some (p, 0)), int i64 x22.1.1, ptr (some (x22.1.2.1, 0)),
int i64 x22.1.2.2.1, str x22.1.2.2.2, int i64 x22.2.1, int i64 n7,
bool
(b11 && decide ((↑x22.2.2.1.length : Int) > (6:Int)) &&
(↑(x22.2.2.1[(6:Nat)]?.getD (0:UInt8)).toNat : Int) == (38:Int))] =
[ptr (some (p, 0)), int i64 x24.1.1, ptr (some (x24.1.2.1, 0)),
int i64 x24.1.2.2.1, str x24.1.2.2.2, int i64 x24.2.1,
int i64 x24.2.2.1, bool x24.2.2.2] ∧
x23 x24 H14) ∧
∀ (x25 : (Int × Nat × Int × List UInt8) × Int × Int × Bool) (H15:AH),
x23 x25 H15 →
bif x25.2.2.2 then
[int i64 x25.2.2.1].length = 1 ∧
∃ (H16:AH),
(X none).wr H15 x25.1.2.1 4 [int i64 x25.2.2.1] = some H16 ∧
∃ (x26 : (Int × Nat × Int × List UInt8) × Int),
∃ (_k14:Nat),
True ∧
[ptr (some (p, 0)), int i64 x25.1.1, ptr (some (x25.1.2.1, 0)),
int i64 x25.1.2.2.1, str x25.1.2.2.2, int i64 11] =
[ptr (some (p, 0)), int i64 x26.1.1, ptr (some (x26.1.2.1, 0)),
int i64 x26.1.2.2.1, str x26.1.2.2.2, int i64 x26.2] ∧
x19 x26 H16
else
∃ (x27 : (Int × Nat × Int × List UInt8) × Int),
∃ (_k15:Nat),
True ∧
[ptr (some (p, 0)), int i64 x25.1.1, ptr (some (x25.1.2.1, 0)),
int i64 x25.1.2.2.1, str x25.1.2.2.2, int i64 x25.2.1] =
[ptr (some (p, 0)), int i64 x27.1.1, ptr (some (x27.1.2.1, 0)),
int i64 x27.1.2.2.1, str x27.1.2.2.2, int i64 x27.2] ∧
x19 x27 H15
else
∃ (x28 : (Int × Nat × Int × List UInt8) × Int),
∃ (_k16:Nat),
True ∧
[ptr (some (p, 0)), int i64 x22.1.1, ptr (some (x22.1.2.1, 0)), int i64 x22.1.2.2.1,
str x22.1.2.2.2, int i64 x22.2.1] =
[ptr (some (p, 0)), int i64 x28.1.1, ptr (some (x28.1.2.1, 0)),
int i64 x28.1.2.2.1, str x28.1.2.2.2, int i64 x28.2] ∧
x19 x28 H13) ∧
∀ (x29 : (Int × Nat × Int × List UInt8) × Int) (H17:AH),
x19 x29 H17 →
∃ (x30 : (Int × Nat × Int × List UInt8) × Int → AH → Prop),
(∃ (x31 : (Int × Nat × Int × List UInt8) × Int × Bool → AH → Prop),
(bif (x29.2 == (0:Int)) == true then
(X none).call 27 [str x29.1.2.2.2, str [(92:UInt8), (99:UInt8)]] H17 fun (v5:AV) (H18:AH) =>
∃ (b12:Bool),
v5 = bool b12 ∧
∃ (x32 : (Int × Nat × Int × List UInt8) × Int × Bool),
∃ (_k17:Nat),
True ∧
[ptr (some (p, 0)), int i64 x29.1.1, ptr (some (x29.1.2.1, 0)), int i64 x29.1.2.2.1,
str x29.1.2.2.2, int i64 x29.2, bool b12] =
[ptr (some (p, 0)), int i64 x32.1.1, ptr (some (x32.1.2.1, 0)),
int i64 x32.1.2.2.1, str x32.1.2.2.2, int i64 x32.2.1, bool x32.2.2] ∧
x31 x32 H18
else
∃ (x33 : (Int × Nat × Int × List UInt8) × Int × Bool),
∃ (_k18:Nat),
True ∧
[ptr (some (p, 0)), int i64 x29.1.1, ptr (some (x29.1.2.1, 0)), int i64 x29.1.2.2.1,
str x29.1.2.2.2, int i64 x29.2, bool false] =
[ptr (some (p, 0)), int i64 x33.1.1, ptr (some (x33.1.2.1, 0)), int i64 x33.1.2.2.1,
str x33.1.2.2.2, int i64 x33.2.1, bool x33.2.2] ∧
x31 x33 H17) ∧
∀ (x34 : (Int × Nat × Int × List UInt8) × Int × Bool) (H19:AH),
x31 x34 H19 →
bif x34.2.2 then
1 = 1 ∧
∃ (H20:AH),
(X none).wr H19 x34.1.2.1 4 [int i64 0] = some H20 ∧
∃ (x35 : (Int × Nat × Int × List UInt8) × Int),
∃ (_k19:Nat),
True ∧
[ptr (some (p, 0)), int i64 x34.1.1, ptr (some (x34.1.2.1, 0)),
int i64 x34.1.2.2.1, str x34.1.2.2.2, int i64 2] =
[ptr (some (p, 0)), int i64 x35.1.1, ptr (some (x35.1.2.1, 0)),
int i64 x35.1.2.2.1, str x35.1.2.2.2, int i64 x35.2] ∧
x30 x35 H20
else
∃ (x36 : (Int × Nat × Int × List UInt8) × Int),
∃ (_k20:Nat),
True ∧
[ptr (some (p, 0)), int i64 x34.1.1, ptr (some (x34.1.2.1, 0)), int i64 x34.1.2.2.1,
str x34.1.2.2.2, int i64 x34.2.1] =
[ptr (some (p, 0)), int i64 x36.1.1, ptr (some (x36.1.2.1, 0)),
int i64 x36.1.2.2.1, str x36.1.2.2.2, int i64 x36.2] ∧
x30 x36 H19) ∧
∀ (x37 : (Int × Nat × Int × List UInt8) × Int) (H21:AH),
x30 x37 H21 →
∃ (x38 : (Int × Nat × Int × List UInt8) × Int → AH → Prop),
(∃ (x39 : (Int × Nat × Int × List UInt8) × Int × Bool → AH → Prop),
(∃ (n8:Int),
(X none).rd1 H21 p 2 = some (int i64 n8) ∧
bif (x37.2 == (0:Int) && n8 == (0:Int)) == true then
(X none).call 27 [str x37.1.2.2.2, str [(92:UInt8), (97:UInt8), (110:UInt8), (56:UInt8)]] H21
fun (v6:AV) (H22:AH) =>
∃ (b13:Bool),
v6 = bool b13 ∧
∃ (x40 : (Int × Nat × Int × List UInt8) × Int × Bool),
∃ (_k21:Nat),
True ∧
[ptr (some (p, 0)), int i64 x37.1.1, ptr (some (x37.1.2.1, 0)),
int i64 x37.1.2.2.1, str x37.1.2.2.2, int i64 x37.2, bool b13] =
[ptr (some (p, 0)), int i64 x40.1.1, ptr (some (x40.1.2.1, 0)),
int i64 x40.1.2.2.1, str x40.1.2.2.2, int i64 x40.2.1, bool x40.2.2] ∧
x39 x40 H22
else
∃ (x41 : (Int × Nat × Int × List UInt8) × Int × Bool),
∃ (_k22:Nat),
True ∧
[ptr (some (p, 0)), int i64 x37.1.1, ptr (some (x37.1.2.1, 0)),
int i64 x37.1.2.2.1, str x37.1.2.2.2, int i64 x37.2, bool false] =
[ptr (some (p, 0)), int i64 x41.1.1, ptr (some (x41.1.2.1, 0)),
int i64 x41.1.2.2.1, str x41.1.2.2.2, int i64 x41.2.1, bool x41.2.2] ∧
x39 x41 H21) ∧
∀ (x42 : (Int × Nat × Int × List UInt8) × Int × Bool) (H23:AH),
x39 x42 H23 →
bif x42.2.2 then
∃ (x43 : (Int × Nat × Int × List UInt8) × Int),
∃ (_k23:Nat),
True ∧
[ptr (some (p, 0)), int i64 x42.1.1, ptr (some (x42.1.2.1, 0)), int i64 1,
str x42.1.2.2.2, int i64 4] =
[ptr (some (p, 0)), int i64 x43.1.1, ptr (some (x43.1.2.1, 0)),
int i64 x43.1.2.2.1, str x43.1.2.2.2, int i64 x43.2] ∧
x38 x43 H23
else
∃ (x44 : (Int × Nat × Int × List UInt8) × Int),
∃ (_k24:Nat),
True ∧
[ptr (some (p, 0)), int i64 x42.1.1, ptr (some (x42.1.2.1, 0)),
int i64 x42.1.2.2.1, str x42.1.2.2.2, int i64 x42.2.1] =
[ptr (some (p, 0)), int i64 x44.1.1, ptr (some (x44.1.2.1, 0)),
int i64 x44.1.2.2.1, str x44.1.2.2.2, int i64 x44.2] ∧
x38 x44 H23) ∧
∀ (x45 : (Int × Nat × Int × List UInt8) × Int) (H24:AH),
x38 x45 H24 →
bif x45.2 == (0:Int) then Q (int i64 0) H24
else
((0:Int) ≤ x45.2 ∧ x45.2 ≤ (↑x45.1.2.2.2.length : Int) ∧ (↑x45.1.2.2.2.length : Int) ≤ (↑x45.1.2.2.2.length : Int)) ∧
∃ (x46 : Int × Nat × Int × List UInt8),
∃ (k25:Nat),
k25 < k4 ∧
[ptr (some (p, 0)), int i64 x45.1.1, ptr (some (x45.1.2.1, 0)),
int i64 x45.1.2.2.1,
str (List.take ((↑x45.1.2.2.2.length : Int) - x45.2).toNat (List.drop x45.2.toNat x45.1.2.2.2))] =
[ptr (some (p, 0)), int i64 x46.1, ptr (some (x46.2.1, 0)), int i64 x46.2.2.1,
str x46.2.2.2] ∧
x5 x46 H24 k25
else
∃ (b14 b15 b16 b17:Bool),
∃ (n9:Int),
(X none).rdn H5 x7.2.1 0 5 = some [bool b14, bool b15, bool b16, bool b17, int i64 n9] ∧
[bool b14, bool b15, bool b16, bool b17, int i64 n9].length = 5 ∧
∃ (H25:AH),
(X none).wr H5 p 11 [bool b14, bool b15, bool b16, bool b17, int i64 n9] = some H25 ∧
[int i64 x7.2.2.1].length = 1 ∧
∃ (H26:AH),
(X none).wr H25 p 18 [int i64 x7.2.2.1] = some H26 ∧ Q (int i64 ((X none).wrap i64 (x7.1 + (1:Int)))) H26) := by kernel_rfl


theorem Split_vc (X:Atoms) (s t : List UInt8) (H:AH) (Q : AV → AH → Prop) : (vcF X Tryd.prog [] 52 [.str s, .str t] H Q) =
(X.call 76 [str s, str t, int i64 0, int i64 (-1 : Int)] H fun (v1:AV) (H1:AH) => ∃ (q1 : Option (Nat × Nat)), ∃ (k1:Nat), ∃ (k2:Nat), v1 = slice q1 k1 k2 ∧ Q (slice q1 k1 k2) H1) := by kernel_rfl

theorem genSplit_vc (X : Option Nat → Atoms) (It : FuncId → List AV → List AV → (AH → Prop) → List (List AV) → Prop) (s : List UInt8) (H:AH) (Q : AV → AH → Prop) : (vcG X It Tryd.prog [⟨11, List UInt8 × Int × (Option (Nat × Nat) × Nat) × Int, [0, 1, 2, 3, 9, 10], fun x => [.str x.1, .str [44], .int .i64 0, .int .i64 x.2.1, .slice x.2.2.1.1 x.2.2.1.2 x.2.2.1.2, .int .i64 x.2.2.2], fun _ _ _ => True⟩] [] 76 [.str s, .str [44], .int .i64 0, .int .i64 (-1)] H Q) =
((X none).call 92 [str s, str [(44:UInt8)]] H fun (v1:AV) (H1:AH) =>
∃ (n1:Int),
v1 = int i64 n1 ∧
∃ (q1 : Option (Nat × Nat)),
∃ (k1 k2:Nat),
∃ (H2:AH),
(X none).mks 102
(if (X none).wrap i64 ((↑s.length : Int) + (1:Int)) < (X none).wrap i64 (n1 + (1:Int)) then (X none).wrap i64 ((↑s.length : Int) + (1:Int)) else (X none).wrap i64 (n1 + (1:Int)))
(if (X none).wrap i64 ((↑s.length : Int) + (1:Int)) < (X none).wrap i64 (n1 + (1:Int)) then (X none).wrap i64 ((↑s.length : Int) + (1:Int)) else (X none).wrap i64 (n1 + (1:Int)))
H1 =
some (slice q1 k1 k2, H2) ∧
∃ (x1 : List UInt8 × Int × (Option (Nat × Nat) × Nat) × Int → AH → Nat → Prop),
(∃ (x2 : List UInt8 × Int × (Option (Nat × Nat) × Nat) × Int),
∃ (k3:Nat),
[str s, str [(44:UInt8)], int i64 0,
int i64
((X none).wrap i64
((if (X none).wrap i64 ((↑s.length : Int) + (1:Int)) < (X none).wrap i64 (n1 + (1:Int)) then (X none).wrap i64 ((↑s.length : Int) + (1:Int))
else (X none).wrap i64 (n1 + (1:Int))) -
(1:Int))),
slice q1 k1 k2, int i64 0] =
[str x2.1, str [(44:UInt8)], int i64 0, int i64 x2.2.1, slice x2.2.2.1.1 x2.2.2.1.2 x2.2.2.1.2, int i64 x2.2.2.2] ∧
x1 x2 H2 k3) ∧
∀ (x3 : List UInt8 × Int × (Option (Nat × Nat) × Nat) × Int) (H3:AH) (k4:Nat),
x1 x3 H3 k4 →
bif decide (x3.2.2.2 < x3.2.1) then
(X none).call 61 [str x3.1, str [(44:UInt8)]] H3 fun (v2:AV) (H4:AH) =>
∃ (n2:Int),
v2 = int i64 n2 ∧
bif decide (n2 < (0:Int)) then
∃ (k5 k6:Nat),
(x3.2.2.1.1 = some (k5, k6) ∧ (0:Int) ≤ x3.2.2.2 ∧ x3.2.2.2 < (↑x3.2.2.1.2 : Int)) ∧
[str x3.1].length = 1 ∧
∃ (H5:AH),
(X none).wr H4 k5 (k6 + x3.2.2.2.toNat * 1) [str x3.1] = some H5 ∧
∃ (q2 : Option (Nat × Nat)),
∃ (k7 k8:Nat),
(X none).slc 102 (slice x3.2.2.1.1 x3.2.2.1.2 x3.2.2.1.2) none (some (int i64 ((X none).wrap i64 (x3.2.2.2 + (1:Int))))) none
H5 =
some (slice q2 k7 k8) ∧
Q (slice q2 k7 k8) H5
else
((0:Int) ≤ (0:Int) ∧ (0:Int) ≤ (X none).wrap i64 (n2 + (0:Int)) ∧ (X none).wrap i64 (n2 + (0:Int)) ≤ (↑x3.1.length : Int)) ∧
∃ (k9 k10:Nat),
(x3.2.2.1.1 = some (k9, k10) ∧ (0:Int) ≤ x3.2.2.2 ∧ x3.2.2.2 < (↑x3.2.2.1.2 : Int)) ∧
[str (List.take ((X none).wrap i64 (n2 + (0:Int)) - (0:Int)).toNat (List.drop 0 x3.1))].length = 1 ∧
∃ (H6:AH),
(X none).wr H4 k9 (k10 + x3.2.2.2.toNat * 1) [str (List.take ((X none).wrap i64 (n2 + (0:Int)) - (0:Int)).toNat (List.drop 0 x3.1))] = some H6 ∧
((0:Int) ≤ (X none).wrap i64 (n2 + (1:Int)) ∧ (X none).wrap i64 (n2 + (1:Int)) ≤ (↑x3.1.length : Int) ∧ (↑x3.1.length : Int) ≤ (↑x3.1.length : Int)) ∧
∃ (x4 : List UInt8 × Int × (Option (Nat × Nat) × Nat) × Int),
∃ (k11:Nat),
k11 < k4 ∧
[str (List.take ((↑x3.1.length : Int) - (X none).wrap i64 (n2 + (1:Int))).toNat (List.drop ((X none).wrap i64 (n2 + (1:Int))).toNat x3.1)),
str [(44:UInt8)], int i64 0, int i64 x3.2.1, slice x3.2.2.1.1 x3.2.2.1.2 x3.2.2.1.2,
int i64 ((X none).wrap i64 (x3.2.2.2 + (1:Int)))] =
[str x4.1, str [(44:UInt8)], int i64 0, int i64 x4.2.1, slice x4.2.2.1.1 x4.2.2.1.2 x4.2.2.1.2,
int i64 x4.2.2.2] ∧
x1 x4 H6 k11
else
∃ (k12 k13:Nat),
(x3.2.2.1.1 = some (k12, k13) ∧ (0:Int) ≤ x3.2.2.2 ∧ x3.2.2.2 < (↑x3.2.2.1.2 : Int)) ∧
[str x3.1].length = 1 ∧
∃ (H7:AH),
(X none).wr H3 k12 (k13 + x3.2.2.2.toNat * 1) [str x3.1] = some H7 ∧
∃ (q3 : Option (Nat × Nat)),
∃ (k14 k15:Nat),
(X none).slc 102 (slice x3.2.2.1.1 x3.2.2.1.2 x3.2.2.1.2) none (some (int i64 ((X none).wrap i64 (x3.2.2.2 + (1:Int))))) none H7 =
some (slice q3 k14 k15) ∧
Q (slice q3 k14 k15) H7) := by kernel_rfl

theorem sCount_vc (X : Option Nat → Atoms) (It : FuncId → List AV → List AV → (AH → Prop) → List (List AV) → Prop) (s : List UInt8) (H:AH) (Q : AV → AH → Prop) : (vcG X It Tryd.prog [⟨6, List UInt8 × Int, [0, 1, 5], fun x => [.str x.1, .str [44], .int .i64 x.2], fun _ _ _ => True⟩] [] 92 [.str s, .str [44]] H Q) =
(((0:Int) ≤ (0:Int) ∧ (0:Int) < (1:Int)) ∧ (X none).call 109 [str s, int u8 (44:Int)] H fun (v1:AV) (H1:AH) => ∃ (n1:Int), v1 = int i64 n1 ∧ Q (int i64 n1) H1) := by kernel_rfl

end Go.Proofs.YtlkdhhkncoekgaaDoor
