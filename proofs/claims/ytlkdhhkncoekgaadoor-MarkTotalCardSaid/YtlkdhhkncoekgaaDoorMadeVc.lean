/- What functions ask: made. -/
import Derived.Test.YtlkdhhkncoekgaaDoorAmTri
import Derived.Test.YtlkdhhkncoekgaaDoorTabs
namespace Go.Proofs.YtlkdhhkncoekgaaDoor
open Go.Am Go
open _root_.Go.Am.AV (int slice ptr str bool agg tuple)
open _root_.Go.IntKind (i64 i32 u8 u64)
open _root_.Go.Am.AObj (cells)

theorem made2_vc (X : Option Nat → Atoms) (It : FuncId → List AV → List AV → (AH → Prop) → List (List AV) → Prop) (q : Option (Nat × Nat)) (k:Nat) (H:AH) (Q : AV → AH → Prop) : (vcG X It Tryd.prog [⟨4, Int × (Option (Nat × Nat) × Nat) × (Option (Nat × Nat) × Nat), [0, 3, 4, 5], fun x => [.slice q k k, .slice x.2.1.1 x.2.1.2 x.2.1.2, .slice x.2.2.1 x.2.2.2 x.2.2.2, .int .i64 x.1], fun _ _ _ => True⟩, ⟨8, (Int × (Option (Nat × Nat) × Nat) × (Option (Nat × Nat) × Nat)) × Int × Int, [0, 3, 4, 5, 6, 7], fun x => [.slice q k k, .slice x.1.2.1.1 x.1.2.1.2 x.1.2.1.2, .slice x.1.2.2.1 x.1.2.2.2 x.1.2.2.2, .int .i64 x.1.1, .int .i64 x.2.1, .int .i64 x.2.2], fun _ _ _ => True⟩, ⟨11, ((Int × (Option (Nat × Nat) × Nat) × (Option (Nat × Nat) × Nat)) × Int × Int) × Int × Int, [0, 3, 4, 5, 6, 7, 8, 9], fun x => [.slice q k k, .slice x.1.1.2.1.1 x.1.1.2.1.2 x.1.1.2.1.2, .slice x.1.1.2.2.1 x.1.1.2.2.2 x.1.1.2.2.2, .int .i64 x.1.1.1, .int .i64 x.1.2.1, .int .i64 x.1.2.2, .int .i64 x.2.1, .int .i64 x.2.2], fun _ _ _ => True⟩, ⟨200013, ((Int × (Option (Nat × Nat) × Nat) × (Option (Nat × Nat) × Nat)) × Int × Int) × Int × Int, [0, 3, 4, 5, 6, 7, 8, 9], fun x => [.slice q k k, .slice x.1.1.2.1.1 x.1.1.2.1.2 x.1.1.2.1.2, .slice x.1.1.2.2.1 x.1.1.2.2.2 x.1.1.2.2.2, .int .i64 x.1.1.1, .int .i64 x.1.2.1, .int .i64 x.1.2.2, .int .i64 x.2.1, .int .i64 x.2.2], fun _ _ _ => True⟩, ⟨200017, ((Int × (Option (Nat × Nat) × Nat) × (Option (Nat × Nat) × Nat)) × Int × Int) × Nat, [0, 3, 4, 5, 6, 9, 10], fun x => [.slice q k k, .slice x.1.1.2.1.1 x.1.1.2.1.2 x.1.1.2.1.2, .slice x.1.1.2.2.1 x.1.1.2.2.2 x.1.1.2.2.2, .int .i64 x.1.1.1, .int .i64 x.1.2.1, .int .i64 x.1.2.2, .ptr (some (x.2, 0))], fun _ _ _ => True⟩, ⟨200018, (Int × (Option (Nat × Nat) × Nat) × (Option (Nat × Nat) × Nat)) × Int × Int, [0, 3, 4, 5, 6, 9], fun x => [.slice q k k, .slice x.1.2.1.1 x.1.2.1.2 x.1.2.1.2, .slice x.1.2.2.1 x.1.2.2.2 x.1.2.2.2, .int .i64 x.1.1, .int .i64 x.2.1, .int .i64 x.2.2], fun _ _ _ => True⟩, ⟨20, (Int × (Option (Nat × Nat) × Nat) × (Option (Nat × Nat) × Nat)) × (Option (Nat × Nat) × Nat × Nat) × Int × Int, [0, 3, 4, 5, 76, 77, 78], fun x => [.slice q k k, .slice x.1.2.1.1 x.1.2.1.2 x.1.2.1.2, .slice x.1.2.2.1 x.1.2.2.2 x.1.2.2.2, .int .i64 x.1.1, .slice x.2.1.1 x.2.1.2.1 x.2.1.2.2, .int .i64 x.2.2.1, .int .i64 x.2.2.2], fun _ _ _ => True⟩] [] 93 [.slice q k k] H Q) =
(∃ (q1 : Option (Nat × Nat)),
∃ (k1 k2:Nat),
∃ (H1:AH),
(X none).mks (129:Nat) ((X none).wrap i64 ((↑k : Int) + (1:Int))) ((X none).wrap i64 ((↑k : Int) + (1:Int))) H = some (slice q1 k1 k2, H1) ∧
∃ (x1 : Int × (Option (Nat × Nat) × Nat) × Option (Nat × Nat) × Nat → AH → Nat → Prop),
(∃ (x2 : Int × (Option (Nat × Nat) × Nat) × Option (Nat × Nat) × Nat),
∃ (k3:Nat),
[slice q k k, slice q1 k1 k2, slice none 0 0, int i64 1] =
[slice q k k, slice x2.2.1.1 x2.2.1.2 x2.2.1.2, slice x2.2.2.1 x2.2.2.2 x2.2.2.2, int i64 x2.1] ∧
x1 x2 H1 k3) ∧
∀ (x3 : Int × (Option (Nat × Nat) × Nat) × Option (Nat × Nat) × Nat) (H2:AH) (k4:Nat),
x1 x3 H2 k4 →
bif decide (x3.1 ≤ (5:Int)) then
∃ (x4 : (Int × (Option (Nat × Nat) × Nat) × Option (Nat × Nat) × Nat) × Int × Int → AH → Nat → Prop),
(∃ (x5 : (Int × (Option (Nat × Nat) × Nat) × Option (Nat × Nat) × Nat) × Int × Int),
∃ (k5:Nat),
[slice q k k, slice x3.2.1.1 x3.2.1.2 x3.2.1.2, slice x3.2.2.1 x3.2.2.2 x3.2.2.2, int i64 x3.1, int i64 (↑x3.2.2.2 : Int),
int i64 0] =
[slice q k k, slice x5.1.2.1.1 x5.1.2.1.2 x5.1.2.1.2, slice x5.1.2.2.1 x5.1.2.2.2 x5.1.2.2.2, int i64 x5.1.1,
int i64 x5.2.1, int i64 x5.2.2] ∧
x4 x5 H2 k5) ∧
∀ (x6 : (Int × (Option (Nat × Nat) × Nat) × Option (Nat × Nat) × Nat) × Int × Int) (H3:AH) (k6:Nat),
x4 x6 H3 k6 →
bif decide (x6.2.2 < (↑k : Int)) then
∃ (k7 k8:Nat),
(q = some (k7, k8) ∧ (0:Int) ≤ x6.2.2 ∧ x6.2.2 < (↑k : Int)) ∧
∃ (b1 b2 b3 b4:Bool),
∃ (n1:Int),
(X none).rdn H3 k7 (k8 + x6.2.2.toNat * 5) 5 = some [bool b1, bool b2, bool b3, bool b4, int i64 n1] ∧
(X none).call 110 [agg [bool b1, bool b2, bool b3, bool b4, int i64 n1], int i64 x6.1.1] H3 fun (v1:AV) (H4:AH) =>
∃ (n2:Int),
v1 = int i64 n2 ∧
∃ (x7 : ((Int × (Option (Nat × Nat) × Nat) × Option (Nat × Nat) × Nat) × Int × Int) × Int × Int → AH → Prop),
(∃ (x8 : ((Int × (Option (Nat × Nat) × Nat) × Option (Nat × Nat) × Nat) × Int × Int) × Int × Int → AH → Nat → Prop),
(∃ (x9 : ((Int × (Option (Nat × Nat) × Nat) × Option (Nat × Nat) × Nat) × Int × Int) × Int × Int),
∃ (k9:Nat),
[slice q k k, slice x6.1.2.1.1 x6.1.2.1.2 x6.1.2.1.2, slice x6.1.2.2.1 x6.1.2.2.2 x6.1.2.2.2,
int i64 x6.1.1, int i64 x6.2.1, int i64 x6.2.2, int i64 n2,
int i64 ((X none).wrap i64 (x6.2.2 + (1:Int)))] =
[slice q k k, slice x9.1.1.2.1.1 x9.1.1.2.1.2 x9.1.1.2.1.2,
slice x9.1.1.2.2.1 x9.1.1.2.2.2 x9.1.1.2.2.2, int i64 x9.1.1.1, int i64 x9.1.2.1,
int i64 x9.1.2.2, int i64 x9.2.1, int i64 x9.2.2] ∧
x8 x9 H4 k9) ∧
∀ (x10 : ((Int × (Option (Nat × Nat) × Nat) × Option (Nat × Nat) × Nat) × Int × Int) × Int × Int) (H5:AH) (k10:Nat),
x8 x10 H5 k10 →
∃ (k11 k12:Nat),
((decide (x10.2.2 < (↑k : Int)) == true) = true → q = some (k11, k12) ∧ (0:Int) ≤ x10.2.2 ∧ x10.2.2 < (↑k : Int)) ∧
∃ (b5 b6 b7 b8:Bool),
∃ (n3:Int),
((decide (x10.2.2 < (↑k : Int)) == true) = true →
(X none).rdn H5 k11 (k12 + x10.2.2.toNat * 5) 5 = some [bool b5, bool b6, bool b7, bool b8, int i64 n3]) ∧
bif decide (x10.2.2 < (↑k : Int)) == true then
(X none).call 110 [agg [bool b5, bool b6, bool b7, bool b8, int i64 n3], int i64 x10.1.1.1] H5
fun (v2:AV) (H6:AH) =>
∃ (n4:Int),
v2 = int i64 n4 ∧
∃ (k13 k14:Nat),
(((n4 == x10.2.1) == true) = true →
x10.1.1.2.1.1 = some (k13, k14) ∧ (0:Int) ≤ x10.2.2 ∧ x10.2.2 < (↑x10.1.1.2.1.2 : Int)) ∧
∃ (b9:Bool),
(((n4 == x10.2.1) == true) = true → (X none).rd1 H6 k13 (k14 + x10.2.2.toNat * 1) = some (bool b9)) ∧
bif n4 == x10.2.1 && !b9 then
∃ (x11 : ((Int × (Option (Nat × Nat) × Nat) × Option (Nat × Nat) × Nat) × Int × Int) × Int × Int),
∃ (k15:Nat),
k15 < k10 ∧
[slice q k k, slice x10.1.1.2.1.1 x10.1.1.2.1.2 x10.1.1.2.1.2,
slice x10.1.1.2.2.1 x10.1.1.2.2.2 x10.1.1.2.2.2, int i64 x10.1.1.1,
int i64 x10.1.2.1, int i64 x10.1.2.2, int i64 x10.2.1,
int i64 ((X none).wrap i64 (x10.2.2 + (1:Int)))] =
[slice q k k, slice x11.1.1.2.1.1 x11.1.1.2.1.2 x11.1.1.2.1.2,
slice x11.1.1.2.2.1 x11.1.1.2.2.2 x11.1.1.2.2.2, int i64 x11.1.1.1,
int i64 x11.1.2.1, int i64 x11.1.2.2, int i64 x11.2.1,
int i64 x11.2.2] ∧
x8 x11 H6 k15
else
∃ (x12 : ((Int × (Option (Nat × Nat) × Nat) × Option (Nat × Nat) × Nat) × Int × Int) × Int × Int),
∃ (_k16:Nat),
True ∧
[slice q k k, slice x10.1.1.2.1.1 x10.1.1.2.1.2 x10.1.1.2.1.2,
slice x10.1.1.2.2.1 x10.1.1.2.2.2 x10.1.1.2.2.2, int i64 x10.1.1.1,
int i64 x10.1.2.1, int i64 x10.1.2.2, int i64 x10.2.1,
int i64 x10.2.2] =
[slice q k k, slice x12.1.1.2.1.1 x12.1.1.2.1.2 x12.1.1.2.1.2,
slice x12.1.1.2.2.1 x12.1.1.2.2.2 x12.1.1.2.2.2, int i64 x12.1.1.1,
int i64 x12.1.2.1, int i64 x12.1.2.2, int i64 x12.2.1,
int i64 x12.2.2] ∧
x7 x12 H6
else
∃ (k17 k18:Nat),
(false = true → x10.1.1.2.1.1 = some (k17, k18) ∧ (0:Int) ≤ x10.2.2 ∧ x10.2.2 < (↑x10.1.1.2.1.2 : Int)) ∧
∃ (b10:Bool),
(false = true → (X none).rd1 H5 k17 (k18 + x10.2.2.toNat * 1) = some (bool b10)) ∧
∃ (x13 : ((Int × (Option (Nat × Nat) × Nat) × Option (Nat × Nat) × Nat) × Int × Int) × Int × Int),
∃ (_k19:Nat),
True ∧
[slice q k k, slice x10.1.1.2.1.1 x10.1.1.2.1.2 x10.1.1.2.1.2,
slice x10.1.1.2.2.1 x10.1.1.2.2.2 x10.1.1.2.2.2, int i64 x10.1.1.1,
int i64 x10.1.2.1, int i64 x10.1.2.2, int i64 x10.2.1,
int i64 x10.2.2] =
[slice q k k, slice x13.1.1.2.1.1 x13.1.1.2.1.2 x13.1.1.2.1.2,
slice x13.1.1.2.2.1 x13.1.1.2.2.2 x13.1.1.2.2.2, int i64 x13.1.1.1,
int i64 x13.1.2.1, int i64 x13.1.2.2, int i64 x13.2.1,
int i64 x13.2.2] ∧
x7 x13 H5) ∧
∀ (x14 : ((Int × (Option (Nat × Nat) × Nat) × Option (Nat × Nat) × Nat) × Int × Int) × Int × Int) (H7:AH),
x7 x14 H7 →
∃ (x15 : (Int × (Option (Nat × Nat) × Nat) × Option (Nat × Nat) × Nat) × Int × Int → AH → Prop),
(bif x14.2.1 != (0:Int) then
[int i64 x14.1.2.2, int i64 x14.2.2, int i64 x14.1.1.1, int i64 0].length = 4 ∧
∃ (H8:AH),
(X none).wr
((X none).al H7
(cells [int i64 0, int i64 0, int i64 0, int i64 0] 41
{ whole := true }))
((X none).n H7) 0 [int i64 x14.1.2.2, int i64 x14.2.2, int i64 x14.1.1.1, int i64 0] =
some H8 ∧
∃ (x16 : ((Int × (Option (Nat × Nat) × Nat) × Option (Nat × Nat) × Nat) × Int × Int) × Nat → AH → Prop),
(bif x14.1.1.1 == (5:Int) then
[int i64 ((X none).wrap i64 (x14.2.1 - (1:Int)))].length = 1 ∧
∃ (H9:AH),
(X none).wr H8 ((X none).n H7) 3 [int i64 ((X none).wrap i64 (x14.2.1 - (1:Int)))] = some H9 ∧
∃ (x17 : ((Int × (Option (Nat × Nat) × Nat) × Option (Nat × Nat) × Nat) × Int × Int) × Nat),
∃ (_k20:Nat),
True ∧
[slice q k k, slice x14.1.1.2.1.1 x14.1.1.2.1.2 x14.1.1.2.1.2,
slice x14.1.1.2.2.1 x14.1.1.2.2.2 x14.1.1.2.2.2, int i64 x14.1.1.1,
int i64 x14.1.2.1, int i64 x14.2.2, ptr (some ((X none).n H7, 0))] =
[slice q k k, slice x17.1.1.2.1.1 x17.1.1.2.1.2 x17.1.1.2.1.2,
slice x17.1.1.2.2.1 x17.1.1.2.2.2 x17.1.1.2.2.2, int i64 x17.1.1.1,
int i64 x17.1.2.1, int i64 x17.1.2.2, ptr (some (x17.2, 0))] ∧
x16 x17 H9
else
∃ (x18 : ((Int × (Option (Nat × Nat) × Nat) × Option (Nat × Nat) × Nat) × Int × Int) × Nat),
∃ (_k21:Nat),
True ∧
[slice q k k, slice x14.1.1.2.1.1 x14.1.1.2.1.2 x14.1.1.2.1.2,
slice x14.1.1.2.2.1 x14.1.1.2.2.2 x14.1.1.2.2.2, int i64 x14.1.1.1,
int i64 x14.1.2.1, int i64 x14.2.2, ptr (some ((X none).n H7, 0))] =
[slice q k k, slice x18.1.1.2.1.1 x18.1.1.2.1.2 x18.1.1.2.1.2,
slice x18.1.1.2.2.1 x18.1.1.2.2.2 x18.1.1.2.2.2, int i64 x18.1.1.1,
int i64 x18.1.2.1, int i64 x18.1.2.2, ptr (some (x18.2, 0))] ∧
x16 x18 H8) ∧
∀ (x19 : ((Int × (Option (Nat × Nat) × Nat) × Option (Nat × Nat) × Nat) × Int × Int) × Nat) (H10:AH),
x16 x19 H10 →
∃ (n5 n6 n7 n8:Int),
(X none).rdn H10 x19.2 0 4 = some [int i64 n5, int i64 n6, int i64 n7, int i64 n8] ∧
(4 ≤ 16777216 ∧ 4 = 4 ∧ 0 < 4 ∧ true = true ∧ true = true) ∧
∃ (q2 : Option (Nat × Nat)),
∃ (k22 k23:Nat),
∃ (H11:AH),
(X none).app 24 24 (slice x19.1.1.2.2.1 x19.1.1.2.2.2 x19.1.1.2.2.2)
(slice (some ((X none).n H10, 0)) 1 1)
((X none).al H10
(cells [int i64 n5, int i64 n6, int i64 n7, int i64 n8] 41
{ whole := true })) =
some (slice q2 k22 k23, H11) ∧
∃ (x20 : (Int × (Option (Nat × Nat) × Nat) × Option (Nat × Nat) × Nat) × Int × Int),
∃ (_k24:Nat),
True ∧
[slice q k k, slice x19.1.1.2.1.1 x19.1.1.2.1.2 x19.1.1.2.1.2, slice q2 k22 k23,
int i64 x19.1.1.1, int i64 x19.1.2.1, int i64 x19.1.2.2] =
[slice q k k, slice x20.1.2.1.1 x20.1.2.1.2 x20.1.2.1.2,
slice x20.1.2.2.1 x20.1.2.2.2 x20.1.2.2.2, int i64 x20.1.1,
int i64 x20.2.1, int i64 x20.2.2] ∧
x15 x20 H11
else
∃ (x21 : (Int × (Option (Nat × Nat) × Nat) × Option (Nat × Nat) × Nat) × Int × Int),
∃ (_k25:Nat),
True ∧
[slice q k k, slice x14.1.1.2.1.1 x14.1.1.2.1.2 x14.1.1.2.1.2,
slice x14.1.1.2.2.1 x14.1.1.2.2.2 x14.1.1.2.2.2, int i64 x14.1.1.1, int i64 x14.1.2.1,
int i64 x14.2.2] =
[slice q k k, slice x21.1.2.1.1 x21.1.2.1.2 x21.1.2.1.2, slice x21.1.2.2.1 x21.1.2.2.2 x21.1.2.2.2,
int i64 x21.1.1, int i64 x21.2.1, int i64 x21.2.2] ∧
x15 x21 H7) ∧
∀ (x22 : (Int × (Option (Nat × Nat) × Nat) × Option (Nat × Nat) × Nat) × Int × Int) (H12:AH),
x15 x22 H12 →
∃ (x23 : (Int × (Option (Nat × Nat) × Nat) × Option (Nat × Nat) × Nat) × Int × Int),
∃ (k26:Nat),
k26 < k6 ∧
[slice q k k, slice x22.1.2.1.1 x22.1.2.1.2 x22.1.2.1.2, slice x22.1.2.2.1 x22.1.2.2.2 x22.1.2.2.2,
int i64 x22.1.1, int i64 x22.2.1, int i64 x22.2.2] =
[slice q k k, slice x23.1.2.1.1 x23.1.2.1.2 x23.1.2.1.2, slice x23.1.2.2.1 x23.1.2.2.2 x23.1.2.2.2,
int i64 x23.1.1, int i64 x23.2.1, int i64 x23.2.2] ∧
x4 x23 H12 k26
else
∃ (q3 : Option (Nat × Nat)),
∃ (k27 k28:Nat),
(X none).slc 24 (slice x6.1.2.2.1 x6.1.2.2.2 x6.1.2.2.2) (some (int i64 x6.2.1)) none none H3 = some (slice q3 k27 k28) ∧
∃ (x24 : (Int × (Option (Nat × Nat) × Nat) × Option (Nat × Nat) × Nat) × (Option (Nat × Nat) × Nat × Nat) × Int × Int → AH → Nat → Prop),
(∃ (x25 : (Int × (Option (Nat × Nat) × Nat) × Option (Nat × Nat) × Nat) × (Option (Nat × Nat) × Nat × Nat) × Int × Int),
∃ (k29:Nat),
[slice q k k, slice x6.1.2.1.1 x6.1.2.1.2 x6.1.2.1.2, slice x6.1.2.2.1 x6.1.2.2.2 x6.1.2.2.2, int i64 x6.1.1,
slice q3 k27 k28, int i64 (↑k27 : Int), int i64 0] =
[slice q k k, slice x25.1.2.1.1 x25.1.2.1.2 x25.1.2.1.2, slice x25.1.2.2.1 x25.1.2.2.2 x25.1.2.2.2, int i64 x25.1.1,
slice x25.2.1.1 x25.2.1.2.1 x25.2.1.2.2, int i64 x25.2.2.1, int i64 x25.2.2.2] ∧
x24 x25 H3 k29) ∧
∀ (x26 : (Int × (Option (Nat × Nat) × Nat) × Option (Nat × Nat) × Nat) × (Option (Nat × Nat) × Nat × Nat) × Int × Int) (H13:AH) (k30:Nat),
x24 x26 H13 k30 →
bif decide (x26.2.2.2 < x26.2.2.1) then
∃ (k31 k32:Nat),
(x26.2.1.1 = some (k31, k32) ∧ (0:Int) ≤ x26.2.2.2 ∧ x26.2.2.2 < (↑x26.2.1.2.1 : Int)) ∧
∃ (n9 n10 n11 n12:Int),
(X none).rdn H13 k31 (k32 + x26.2.2.2.toNat * 4) 4 = some [int i64 n9, int i64 n10, int i64 n11, int i64 n12] ∧
[int i64 n9, int i64 n10, int i64 n11, int i64 n12].length = 4 ∧
∃ (H14:AH),
(X none).wr
((X none).al H13
(cells [int i64 0, int i64 0, int i64 0, int i64 0] 41 { whole := true }))
((X none).n H13) 0 [int i64 n9, int i64 n10, int i64 n11, int i64 n12] =
some H14 ∧
∃ (n13:Int),
(X none).rd1 H14 ((X none).n H13) 0 = some (int i64 n13) ∧
∃ (n14:Int),
(X none).rd1 H14 ((X none).n H13) 1 = some (int i64 n14) ∧
∃ (k33 k34:Nat),
(x26.1.2.1.1 = some (k33, k34) ∧ (0:Int) ≤ n13 ∧ n13 < (↑x26.1.2.1.2 : Int)) ∧
1 = 1 ∧
∃ (H15:AH),
(X none).wr H14 k33 (k34 + n13.toNat * 1) [bool true] = some H15 ∧
(∃ (n15:Int), (X none).rd1 H15 ((X none).n H13) 1 = some (int i64 n15) ∧ int i64 n15 = int i64 n14) ∧
∃ (k35 k36:Nat),
(x26.1.2.1.1 = some (k35, k36) ∧ (0:Int) ≤ n14 ∧ n14 < (↑x26.1.2.1.2 : Int)) ∧
1 = 1 ∧
∃ (H16:AH),
(X none).wr H15 k35 (k36 + n14.toNat * 1) [bool true] = some H16 ∧
∃ (x27 : (Int × (Option (Nat × Nat) × Nat) × Option (Nat × Nat) × Nat) × (Option (Nat × Nat) × Nat × Nat) × Int × Int),
∃ (k37:Nat),
k37 < k30 ∧
[slice q k k, slice x26.1.2.1.1 x26.1.2.1.2 x26.1.2.1.2,
slice x26.1.2.2.1 x26.1.2.2.2 x26.1.2.2.2, int i64 x26.1.1,
slice x26.2.1.1 x26.2.1.2.1 x26.2.1.2.2, int i64 x26.2.2.1,
int i64 ((X none).wrap i64 (x26.2.2.2 + (1:Int)))] =
[slice q k k, slice x27.1.2.1.1 x27.1.2.1.2 x27.1.2.1.2,
slice x27.1.2.2.1 x27.1.2.2.2 x27.1.2.2.2, int i64 x27.1.1,
slice x27.2.1.1 x27.2.1.2.1 x27.2.1.2.2, int i64 x27.2.2.1,
int i64 x27.2.2.2] ∧
x24 x27 H16 k37
else
∃ (x28 : Int × (Option (Nat × Nat) × Nat) × Option (Nat × Nat) × Nat),
∃ (k38:Nat),
k38 < k4 ∧
[slice q k k, slice x26.1.2.1.1 x26.1.2.1.2 x26.1.2.1.2, slice x26.1.2.2.1 x26.1.2.2.2 x26.1.2.2.2,
int i64 ((X none).wrap i64 (x26.1.1 + (1:Int)))] =
[slice q k k, slice x28.2.1.1 x28.2.1.2 x28.2.1.2, slice x28.2.2.1 x28.2.2.2 x28.2.2.2, int i64 x28.1] ∧
x1 x28 H13 k38
else (X none).call 99 [slice x3.2.2.1 x3.2.2.2 x3.2.2.2, AV.func (Fn.func 111) [] []] H2 fun (_v3:AV) (H17:AH) => Q (slice x3.2.2.1 x3.2.2.2 x3.2.2.2) H17) := by kernel_rfl

end Go.Proofs.YtlkdhhkncoekgaaDoor
