/- What functions ask: SortVc. -/
import Derived.Test.YtlkdhhkncoekgaaDoorAmTri
import Derived.Test.YtlkdhhkncoekgaaDoorTabs
namespace Go.Proofs.YtlkdhhkncoekgaaDoor
open Go.Am Go
open _root_.Go.Am.AV (int slice ptr str bool agg tuple)
open _root_.Go.IntKind (i64 i32 u8 u64)
open _root_.Go.Am.AObj (cells)

theorem swapR_vc (X : Option Nat → Atoms) (It : FuncId → List AV → List AV → (AH → Prop) → List (List AV) → Prop) (bk n : Nat) (a b m : Int) (H:AH) (Q : AV → AH → Prop) : (vcG X It Tryd.prog [⟨1, Int, [0, 1, 2, 3, 10], fun x => [.slice (some (bk, 0)) n n, .int .i64 a, .int .i64 b, .int .i64 m, .int .i64 x], fun _ _ _ => True⟩] [] 119 [.slice (some (bk, 0)) n n, .int .i64 a, .int .i64 b, .int .i64 m, .func (.func 111) [] []] H Q) =
(∃ (x1 : Int → AH → Nat → Prop),
(∃ (n1:Int),
∃ (k1:Nat),
[slice (some (bk, 0)) n n, int i64 a, int i64 b, int i64 m, int i64 0] =
[slice (some (bk, 0)) n n, int i64 a, int i64 b, int i64 m, int i64 n1] ∧
x1 n1 H k1) ∧
∀ (n2:Int) (H1:AH) (k2:Nat),
x1 n2 H1 k2 →
bif decide (n2 < m) then
∃ (k3 k4:Nat),
(some (bk, (0:Nat)) = some (k3, k4) ∧ (0:Int) ≤ (X none).wrap i64 (b + n2) ∧ (X none).wrap i64 (b + n2) < (↑n : Int)) ∧
∃ (n3 n4 n5 n6:Int),
(X none).rdn H1 k3 (k4 + ((X none).wrap i64 (b + n2)).toNat * 4) 4 = some [int i64 n3, int i64 n4, int i64 n5, int i64 n6] ∧
∃ (k5 k6:Nat),
(some (bk, (0:Nat)) = some (k5, k6) ∧ (0:Int) ≤ (X none).wrap i64 (a + n2) ∧ (X none).wrap i64 (a + n2) < (↑n : Int)) ∧
∃ (n7 n8 n9 n10:Int),
(X none).rdn H1 k5 (k6 + ((X none).wrap i64 (a + n2)).toNat * 4) 4 = some [int i64 n7, int i64 n8, int i64 n9, int i64 n10] ∧
∃ (k7 k8:Nat),
(some (bk, (0:Nat)) = some (k7, k8) ∧ (0:Int) ≤ (X none).wrap i64 (a + n2) ∧ (X none).wrap i64 (a + n2) < (↑n : Int)) ∧
[int i64 n3, int i64 n4, int i64 n5, int i64 n6].length = 4 ∧
∃ (H2:AH),
(X none).wr H1 k7 (k8 + ((X none).wrap i64 (a + n2)).toNat * 4) [int i64 n3, int i64 n4, int i64 n5, int i64 n6] = some H2 ∧
∃ (k9 k10:Nat),
(some (bk, (0:Nat)) = some (k9, k10) ∧ (0:Int) ≤ (X none).wrap i64 (b + n2) ∧ (X none).wrap i64 (b + n2) < (↑n : Int)) ∧
[int i64 n7, int i64 n8, int i64 n9, int i64 n10].length = 4 ∧
∃ (H3:AH),
(X none).wr H2 k9 (k10 + ((X none).wrap i64 (b + n2)).toNat * 4) [int i64 n7, int i64 n8, int i64 n9, int i64 n10] =
some H3 ∧
∃ (n11:Int),
∃ (k11:Nat),
k11 < k2 ∧
[slice (some (bk, 0)) n n, int i64 a, int i64 b, int i64 m,
int i64 ((X none).wrap i64 (n2 + (1:Int)))] =
[slice (some (bk, 0)) n n, int i64 a, int i64 b, int i64 m, int i64 n11] ∧
x1 n11 H3 k11
else Q (tuple []) H1) := by kernel_rfl

theorem rotate_vc (X : Option Nat → Atoms) (It : FuncId → List AV → List AV → (AH → Prop) → List (List AV) → Prop) (bk n : Nat) (a m b : Int) (H:AH) (Q : AV → AH → Prop) : (vcG X It Tryd.prog [⟨2, Int × Int, [0, 1, 2, 3, 4, 10, 11], fun x => [.slice (some (bk, 0)) n n, .int .i64 a, .int .i64 m, .int .i64 b, .func (.func 111) [] [], .int .i64 x.1, .int .i64 x.2], fun _ _ _ => True⟩] [] 118 [.slice (some (bk, 0)) n n, .int .i64 a, .int .i64 m, .int .i64 b, .func (.func 111) [] []] H Q) =
(∃ (x1 : Int × Int → AH → Nat → Prop),
(∃ (x2 : Int × Int),
∃ (k1:Nat),
[slice (some (bk, 0)) n n, int i64 a, int i64 m, int i64 b, AV.func (Fn.func (111:FuncId)) [] [], int i64 ((X none).wrap i64 (m - a)),
int i64 ((X none).wrap i64 (b - m))] =
[slice (some (bk, 0)) n n, int i64 a, int i64 m, int i64 b, AV.func (Fn.func (111:FuncId)) [] [], int i64 x2.1, int i64 x2.2] ∧
x1 x2 H k1) ∧
∀ (x3 : Int × Int) (H1:AH) (k2:Nat),
x1 x3 H1 k2 →
bif x3.1 != x3.2 then
bif decide (x3.1 > x3.2) then
(X none).call 119 [slice (some (bk, 0)) n n, int i64 ((X none).wrap i64 (m - x3.1)), int i64 m, int i64 x3.2, AV.func (Fn.func (111:FuncId)) [] []] H1
fun (_v1:AV) (H2:AH) =>
∃ (x4 : Int × Int),
∃ (k3:Nat),
k3 < k2 ∧
[slice (some (bk, 0)) n n, int i64 a, int i64 m, int i64 b, AV.func (Fn.func (111:FuncId)) [] [], int i64 ((X none).wrap i64 (x3.1 - x3.2)),
int i64 x3.2] =
[slice (some (bk, 0)) n n, int i64 a, int i64 m, int i64 b, AV.func (Fn.func (111:FuncId)) [] [], int i64 x4.1, int i64 x4.2] ∧
x1 x4 H2 k3
else
(X none).call 119
[slice (some (bk, 0)) n n, int i64 ((X none).wrap i64 (m - x3.1)), int i64 ((X none).wrap i64 ((X none).wrap i64 (m + x3.2) - x3.1)), int i64 x3.1,
AV.func (Fn.func (111:FuncId)) [] []]
H1 fun (_v2:AV) (H3:AH) =>
∃ (x5 : Int × Int),
∃ (k4:Nat),
k4 < k2 ∧
[slice (some (bk, 0)) n n, int i64 a, int i64 m, int i64 b, AV.func (Fn.func (111:FuncId)) [] [], int i64 x3.1,
int i64 ((X none).wrap i64 (x3.2 - x3.1))] =
[slice (some (bk, 0)) n n, int i64 a, int i64 m, int i64 b, AV.func (Fn.func (111:FuncId)) [] [], int i64 x5.1, int i64 x5.2] ∧
x1 x5 H3 k4
else
(X none).call 119 [slice (some (bk, 0)) n n, int i64 ((X none).wrap i64 (m - x3.1)), int i64 m, int i64 x3.1, AV.func (Fn.func (111:FuncId)) [] []] H1
fun (_v3:AV) (H4:AH) => Q (tuple []) H4) := by kernel_rfl

theorem insert_vc (X : Option Nat → Atoms) (It : FuncId → List AV → List AV → (AH → Prop) → List (List AV) → Prop) (bk n : Nat) (a b : Int) (H:AH) (Q : AV → AH → Prop) : (vcG X It Tryd.prog [⟨1, Int, [0, 1, 2, 3, 8], fun x => [.slice (some (bk, 0)) n n, .int .i64 a, .int .i64 b, .func (.func 111) [] [], .int .i64 x], fun _ _ _ => True⟩, ⟨4, Int × Int, [0, 1, 2, 3, 8, 9], fun x => [.slice (some (bk, 0)) n n, .int .i64 a, .int .i64 b, .func (.func 111) [] [], .int .i64 x.1, .int .i64 x.2], fun _ _ _ => True⟩] [] 116 [.slice (some (bk, 0)) n n, .int .i64 a, .int .i64 b, .func (.func 111) [] []] H Q) =
(∃ (x1 : Int → AH → Nat → Prop),
(∃ (n1:Int),
∃ (k1:Nat),
[slice (some (bk, 0)) n n, int i64 a, int i64 b, AV.func (Fn.func (111:FuncId)) [] [], int i64 ((X none).wrap i64 (a + (1:Int)))] =
[slice (some (bk, 0)) n n, int i64 a, int i64 b, AV.func (Fn.func (111:FuncId)) [] [], int i64 n1] ∧
x1 n1 H k1) ∧
∀ (n2:Int) (H1:AH) (k2:Nat),
x1 n2 H1 k2 →
bif decide (n2 < b) then
∃ (x2 : Int × Int → AH → Nat → Prop),
(∃ (x3 : Int × Int),
∃ (k3:Nat),
[slice (some (bk, 0)) n n, int i64 a, int i64 b, AV.func (Fn.func (111:FuncId)) [] [], int i64 n2, int i64 n2] =
[slice (some (bk, 0)) n n, int i64 a, int i64 b, AV.func (Fn.func (111:FuncId)) [] [], int i64 x3.1, int i64 x3.2] ∧
x2 x3 H1 k3) ∧
∀ (x4 : Int × Int) (H2:AH) (k4:Nat),
x2 x4 H2 k4 →
bif decide (x4.2 > a) == true then
∃ (k5 k6:Nat),
(some (bk, (0:Nat)) = some (k5, k6) ∧ (0:Int) ≤ x4.2 ∧ x4.2 < (↑n : Int)) ∧
∃ (n3 n4 n5 n6:Int),
(X none).rdn H2 k5 (k6 + x4.2.toNat * 4) 4 = some [int i64 n3, int i64 n4, int i64 n5, int i64 n6] ∧
∃ (k7 k8:Nat),
(some (bk, (0:Nat)) = some (k7, k8) ∧ (0:Int) ≤ (X none).wrap i64 (x4.2 - (1:Int)) ∧ (X none).wrap i64 (x4.2 - (1:Int)) < (↑n : Int)) ∧
∃ (n7 n8 n9 n10:Int),
(X none).rdn H2 k7 (k8 + ((X none).wrap i64 (x4.2 - (1:Int))).toNat * 4) 4 =
some [int i64 n7, int i64 n8, int i64 n9, int i64 n10] ∧
(X none).call (111:FuncId)
[agg [int i64 n3, int i64 n4, int i64 n5, int i64 n6],
agg [int i64 n7, int i64 n8, int i64 n9, int i64 n10]]
H2 fun (v1:AV) (H3:AH) =>
∃ (n11:Int),
v1 = int i64 n11 ∧
bif decide (n11 < (0:Int)) then
∃ (k9 k10:Nat),
(some (bk, (0:Nat)) = some (k9, k10) ∧ (0:Int) ≤ (X none).wrap i64 (x4.2 - (1:Int)) ∧ (X none).wrap i64 (x4.2 - (1:Int)) < (↑n : Int)) ∧
∃ (n12 n13 n14 n15:Int),
(X none).rdn H3 k9 (k10 + ((X none).wrap i64 (x4.2 - (1:Int))).toNat * 4) 4 =
some [int i64 n12, int i64 n13, int i64 n14, int i64 n15] ∧
∃ (k11 k12:Nat),
(some (bk, (0:Nat)) = some (k11, k12) ∧ (0:Int) ≤ x4.2 ∧ x4.2 < (↑n : Int)) ∧
∃ (n16 n17 n18 n19:Int),
(X none).rdn H3 k11 (k12 + x4.2.toNat * 4) 4 =
some [int i64 n16, int i64 n17, int i64 n18, int i64 n19] ∧
∃ (k13 k14:Nat),
(some (bk, (0:Nat)) = some (k13, k14) ∧ (0:Int) ≤ x4.2 ∧ x4.2 < (↑n : Int)) ∧
[int i64 n12, int i64 n13, int i64 n14, int i64 n15].length = 4 ∧
∃ (H4:AH),
(X none).wr H3 k13 (k14 + x4.2.toNat * 4)
[int i64 n12, int i64 n13, int i64 n14, int i64 n15] =
some H4 ∧
∃ (k15 k16:Nat),
(some (bk, 0) = some (k15, k16) ∧
(0:Int) ≤ (X none).wrap i64 (x4.2 - (1:Int)) ∧ (X none).wrap i64 (x4.2 - (1:Int)) < (↑n : Int)) ∧
[int i64 n16, int i64 n17, int i64 n18, int i64 n19].length = 4 ∧
∃ (H5:AH),
(X none).wr H4 k15 (k16 + ((X none).wrap i64 (x4.2 - (1:Int))).toNat * 4)
[int i64 n16, int i64 n17, int i64 n18, int i64 n19] =
some H5 ∧
∃ (x5 : Int × Int),
∃ (k17:Nat),
k17 < k4 ∧
[slice (some (bk, 0)) n n, int i64 a, int i64 b,
AV.func (Fn.func (111:FuncId)) [] [], int i64 x4.1,
int i64 ((X none).wrap i64 (x4.2 - (1:Int)))] =
[slice (some (bk, 0)) n n, int i64 a, int i64 b,
AV.func (Fn.func (111:FuncId)) [] [], int i64 x5.1, int i64 x5.2] ∧
x2 x5 H5 k17
else
∃ (n20:Int),
∃ (k18:Nat),
k18 < k2 ∧
[slice (some (bk, 0)) n n, int i64 a, int i64 b, AV.func (Fn.func (111:FuncId)) [] [],
int i64 ((X none).wrap i64 (x4.1 + (1:Int)))] =
[slice (some (bk, 0)) n n, int i64 a, int i64 b, AV.func (Fn.func (111:FuncId)) [] [], int i64 n20] ∧
x1 n20 H3 k18
else
∃ (n21:Int),
∃ (k19:Nat),
k19 < k2 ∧
[slice (some (bk, 0)) n n, int i64 a, int i64 b, AV.func (Fn.func (111:FuncId)) [] [], int i64 ((X none).wrap i64 (x4.1 + (1:Int)))] =
[slice (some (bk, 0)) n n, int i64 a, int i64 b, AV.func (Fn.func (111:FuncId)) [] [], int i64 n21] ∧
x1 n21 H2 k19
else Q (tuple []) H1) := by kernel_rfl

theorem symMerge_vc (X : Option Nat → Atoms) (It : FuncId → List AV → List AV → (AH → Prop) → List (List AV) → Prop) (bk n : Nat) (a m b : Int) (H:AH) (Q : AV → AH → Prop) : (vcG X It Tryd.prog [⟨3, Int × Int, [0, 1, 2, 3, 4, 10, 11], fun x => [.slice (some (bk, 0)) n n, .int .i64 a, .int .i64 m, .int .i64 b, .func (.func 111) [] [], .int .i64 x.1, .int .i64 x.2], fun _ _ _ => True⟩, ⟨9, Int × Int, [0, 1, 2, 3, 4, 10, 13], fun x => [.slice (some (bk, 0)) n n, .int .i64 a, .int .i64 m, .int .i64 b, .func (.func 111) [] [], .int .i64 x.1, .int .i64 x.2], fun _ _ _ => True⟩, ⟨15, Int × Int, [0, 1, 2, 3, 4, 14, 15], fun x => [.slice (some (bk, 0)) n n, .int .i64 a, .int .i64 m, .int .i64 b, .func (.func 111) [] [], .int .i64 x.1, .int .i64 x.2], fun _ _ _ => True⟩, ⟨21, Int × Int, [0, 1, 2, 3, 4, 14, 17], fun x => [.slice (some (bk, 0)) n n, .int .i64 a, .int .i64 m, .int .i64 b, .func (.func 111) [] [], .int .i64 x.1, .int .i64 x.2], fun _ _ _ => True⟩, ⟨200032, Int × Int × Int × Int, [0, 1, 2, 3, 4, 18, 19, 20, 21], fun x => [.slice (some (bk, 0)) n n, .int .i64 a, .int .i64 m, .int .i64 b, .func (.func 111) [] [], .int .i64 x.1, .int .i64 x.2.1, .int .i64 x.2.2.1, .int .i64 x.2.2.2], fun _ _ _ => True⟩, ⟨33, Int × Int × Int × Int × Int, [0, 1, 2, 3, 4, 18, 19, 20, 21, 22], fun x => [.slice (some (bk, 0)) n n, .int .i64 a, .int .i64 m, .int .i64 b, .func (.func 111) [] [], .int .i64 x.1, .int .i64 x.2.1, .int .i64 x.2.2.1, .int .i64 x.2.2.2.1, .int .i64 x.2.2.2.2], fun _ _ _ => True⟩, ⟨200041, Int × Int × Int, [0, 1, 2, 3, 4, 18, 20, 24], fun x => [.slice (some (bk, 0)) n n, .int .i64 a, .int .i64 m, .int .i64 b, .func (.func 111) [] [], .int .i64 x.1, .int .i64 x.2.1, .int .i64 x.2.2], fun _ _ _ => True⟩, ⟨200043, Int × Int × Int, [0, 1, 2, 3, 4, 18, 20, 24], fun x => [.slice (some (bk, 0)) n n, .int .i64 a, .int .i64 m, .int .i64 b, .func (.func 111) [] [], .int .i64 x.1, .int .i64 x.2.1, .int .i64 x.2.2], fun _ _ _ => True⟩] [] 117 [.slice (some (bk, 0)) n n, .int .i64 a, .int .i64 m, .int .i64 b, .func (.func 111) [] []] H Q) =
(bif (X none).wrap i64 (m - a) == (1:Int) then
∃ (x1 : Int × Int → AH → Nat → Prop),
(∃ (x2 : Int × Int),
∃ (k1:Nat),
[slice (some (bk, 0)) n n, int i64 a, int i64 m, int i64 b, AV.func (Fn.func (111:FuncId)) [] [], int i64 m, int i64 b] =
[slice (some (bk, 0)) n n, int i64 a, int i64 m, int i64 b, AV.func (Fn.func (111:FuncId)) [] [], int i64 x2.1, int i64 x2.2] ∧
x1 x2 H k1) ∧
∀ (x3 : Int × Int) (H1:AH) (k2:Nat),
x1 x3 H1 k2 →
bif decide (x3.1 < x3.2) then
(0:Int) ≤ (1:Int) ∧
∃ (k3 k4:Nat),
(some (bk, 0) = some (k3, k4) ∧
(0:Int) ≤ (X none).wrap i64 (((X none).wrap u64 ((X none).wrap i64 (x3.1 + x3.2))).fdiv (2:Int)) ∧
(X none).wrap i64 (((X none).wrap u64 ((X none).wrap i64 (x3.1 + x3.2))).fdiv (2:Int)) < (↑n : Int)) ∧
∃ (n1 n2 n3 n4:Int),
(X none).rdn H1 k3 (k4 + ((X none).wrap i64 (((X none).wrap u64 ((X none).wrap i64 (x3.1 + x3.2))).fdiv (2:Int))).toNat * 4) 4 =
some [int i64 n1, int i64 n2, int i64 n3, int i64 n4] ∧
∃ (k5 k6:Nat),
(some (bk, (0:Nat)) = some (k5, k6) ∧ (0:Int) ≤ a ∧ a < (↑n : Int)) ∧
∃ (n5 n6 n7 n8:Int),
(X none).rdn H1 k5 (k6 + a.toNat * 4) 4 = some [int i64 n5, int i64 n6, int i64 n7, int i64 n8] ∧
(X none).call (111:FuncId)
[agg [int i64 n1, int i64 n2, int i64 n3, int i64 n4],
agg [int i64 n5, int i64 n6, int i64 n7, int i64 n8]]
H1 fun (v1:AV) (H2:AH) =>
∃ (n9:Int),
v1 = int i64 n9 ∧
bif decide (n9 < (0:Int)) then
∃ (x4 : Int × Int),
∃ (k7:Nat),
k7 < k2 ∧
[slice (some (bk, 0)) n n, int i64 a, int i64 m, int i64 b, AV.func (Fn.func (111:FuncId)) [] [],
int i64
((X none).wrap i64 ((X none).wrap i64 (((X none).wrap u64 ((X none).wrap i64 (x3.1 + x3.2))).fdiv (2:Int)) + (1:Int))),
int i64 x3.2] =
[slice (some (bk, 0)) n n, int i64 a, int i64 m, int i64 b, AV.func (Fn.func (111:FuncId)) [] [], int i64 x4.1,
int i64 x4.2] ∧
x1 x4 H2 k7
else
∃ (x5 : Int × Int),
∃ (k8:Nat),
k8 < k2 ∧
[slice (some (bk, 0)) n n, int i64 a, int i64 m, int i64 b, AV.func (Fn.func (111:FuncId)) [] [], int i64 x3.1,
int i64 ((X none).wrap i64 (((X none).wrap u64 ((X none).wrap i64 (x3.1 + x3.2))).fdiv (2:Int)))] =
[slice (some (bk, 0)) n n, int i64 a, int i64 m, int i64 b, AV.func (Fn.func (111:FuncId)) [] [], int i64 x5.1,
int i64 x5.2] ∧
x1 x5 H2 k8
else
∃ (x6 : Int × Int → AH → Nat → Prop),
(∃ (x7 : Int × Int),
∃ (k9:Nat),
[slice (some (bk, 0)) n n, int i64 a, int i64 m, int i64 b, AV.func (Fn.func (111:FuncId)) [] [], int i64 x3.1, int i64 a] =
[slice (some (bk, 0)) n n, int i64 a, int i64 m, int i64 b, AV.func (Fn.func (111:FuncId)) [] [], int i64 x7.1, int i64 x7.2] ∧
x6 x7 H1 k9) ∧
∀ (x8 : Int × Int) (H3:AH) (k10:Nat),
x6 x8 H3 k10 →
bif decide (x8.2 < (X none).wrap i64 (x8.1 - (1:Int))) then
∃ (k11 k12:Nat),
(some (bk, (0:Nat)) = some (k11, k12) ∧ (0:Int) ≤ (X none).wrap i64 (x8.2 + (1:Int)) ∧ (X none).wrap i64 (x8.2 + (1:Int)) < (↑n : Int)) ∧
∃ (n10 n11 n12 n13:Int),
(X none).rdn H3 k11 (k12 + ((X none).wrap i64 (x8.2 + (1:Int))).toNat * 4) 4 =
some [int i64 n10, int i64 n11, int i64 n12, int i64 n13] ∧
∃ (k13 k14:Nat),
(some (bk, (0:Nat)) = some (k13, k14) ∧ (0:Int) ≤ x8.2 ∧ x8.2 < (↑n : Int)) ∧
∃ (n14 n15 n16 n17:Int),
(X none).rdn H3 k13 (k14 + x8.2.toNat * 4) 4 = some [int i64 n14, int i64 n15, int i64 n16, int i64 n17] ∧
∃ (k15 k16:Nat),
(some (bk, (0:Nat)) = some (k15, k16) ∧ (0:Int) ≤ x8.2 ∧ x8.2 < (↑n : Int)) ∧
[int i64 n10, int i64 n11, int i64 n12, int i64 n13].length = 4 ∧
∃ (H4:AH),
(X none).wr H3 k15 (k16 + x8.2.toNat * 4) [int i64 n10, int i64 n11, int i64 n12, int i64 n13] = some H4 ∧
∃ (k17 k18:Nat),
(some (bk, (0:Nat)) = some (k17, k18) ∧ (0:Int) ≤ (X none).wrap i64 (x8.2 + (1:Int)) ∧ (X none).wrap i64 (x8.2 + (1:Int)) < (↑n : Int)) ∧
[int i64 n14, int i64 n15, int i64 n16, int i64 n17].length = 4 ∧
∃ (H5:AH),
(X none).wr H4 k17 (k18 + ((X none).wrap i64 (x8.2 + (1:Int))).toNat * 4)
[int i64 n14, int i64 n15, int i64 n16, int i64 n17] =
some H5 ∧
∃ (x9 : Int × Int),
∃ (k19:Nat),
k19 < k10 ∧
[slice (some (bk, 0)) n n, int i64 a, int i64 m, int i64 b, AV.func (Fn.func (111:FuncId)) [] [],
int i64 x8.1, int i64 ((X none).wrap i64 (x8.2 + (1:Int)))] =
[slice (some (bk, 0)) n n, int i64 a, int i64 m, int i64 b, AV.func (Fn.func (111:FuncId)) [] [],
int i64 x9.1, int i64 x9.2] ∧
x6 x9 H5 k19
else Q (tuple []) H3
else
bif (X none).wrap i64 (b - m) == (1:Int) then
∃ (x10 : Int × Int → AH → Nat → Prop),
(∃ (x11 : Int × Int),
∃ (k20:Nat),
[slice (some (bk, 0)) n n, int i64 a, int i64 m, int i64 b, AV.func (Fn.func (111:FuncId)) [] [], int i64 a, int i64 m] =
[slice (some (bk, 0)) n n, int i64 a, int i64 m, int i64 b, AV.func (Fn.func (111:FuncId)) [] [], int i64 x11.1, int i64 x11.2] ∧
x10 x11 H k20) ∧
∀ (x12 : Int × Int) (H6:AH) (k21:Nat),
x10 x12 H6 k21 →
bif decide (x12.1 < x12.2) then
(0:Int) ≤ (1:Int) ∧
∃ (k22 k23:Nat),
(some (bk, (0:Nat)) = some (k22, k23) ∧ (0:Int) ≤ m ∧ m < (↑n : Int)) ∧
∃ (n18 n19 n20 n21:Int),
(X none).rdn H6 k22 (k23 + m.toNat * 4) 4 = some [int i64 n18, int i64 n19, int i64 n20, int i64 n21] ∧
∃ (k24 k25:Nat),
(some (bk, 0) = some (k24, k25) ∧
(0:Int) ≤ (X none).wrap i64 (((X none).wrap u64 ((X none).wrap i64 (x12.1 + x12.2))).fdiv (2:Int)) ∧
(X none).wrap i64 (((X none).wrap u64 ((X none).wrap i64 (x12.1 + x12.2))).fdiv (2:Int)) < (↑n : Int)) ∧
∃ (n22 n23 n24 n25:Int),
(X none).rdn H6 k24 (k25 + ((X none).wrap i64 (((X none).wrap u64 ((X none).wrap i64 (x12.1 + x12.2))).fdiv (2:Int))).toNat * 4) 4 =
some [int i64 n22, int i64 n23, int i64 n24, int i64 n25] ∧
(X none).call (111:FuncId)
[agg [int i64 n18, int i64 n19, int i64 n20, int i64 n21],
agg [int i64 n22, int i64 n23, int i64 n24, int i64 n25]]
H6 fun (v2:AV) (H7:AH) =>
∃ (n26:Int),
v2 = int i64 n26 ∧
bif !decide (n26 < (0:Int)) then
∃ (x13 : Int × Int),
∃ (k26:Nat),
k26 < k21 ∧
[slice (some (bk, 0)) n n, int i64 a, int i64 m, int i64 b, AV.func (Fn.func (111:FuncId)) [] [],
int i64
((X none).wrap i64 ((X none).wrap i64 (((X none).wrap u64 ((X none).wrap i64 (x12.1 + x12.2))).fdiv (2:Int)) + (1:Int))),
int i64 x12.2] =
[slice (some (bk, 0)) n n, int i64 a, int i64 m, int i64 b, AV.func (Fn.func (111:FuncId)) [] [], int i64 x13.1,
int i64 x13.2] ∧
x10 x13 H7 k26
else
∃ (x14 : Int × Int),
∃ (k27:Nat),
k27 < k21 ∧
[slice (some (bk, 0)) n n, int i64 a, int i64 m, int i64 b, AV.func (Fn.func (111:FuncId)) [] [], int i64 x12.1,
int i64 ((X none).wrap i64 (((X none).wrap u64 ((X none).wrap i64 (x12.1 + x12.2))).fdiv (2:Int)))] =
[slice (some (bk, 0)) n n, int i64 a, int i64 m, int i64 b, AV.func (Fn.func (111:FuncId)) [] [], int i64 x14.1,
int i64 x14.2] ∧
x10 x14 H7 k27
else
∃ (x15 : Int × Int → AH → Nat → Prop),
(∃ (x16 : Int × Int),
∃ (k28:Nat),
[slice (some (bk, 0)) n n, int i64 a, int i64 m, int i64 b, AV.func (Fn.func (111:FuncId)) [] [], int i64 x12.1, int i64 m] =
[slice (some (bk, 0)) n n, int i64 a, int i64 m, int i64 b, AV.func (Fn.func (111:FuncId)) [] [], int i64 x16.1, int i64 x16.2] ∧
x15 x16 H6 k28) ∧
∀ (x17 : Int × Int) (H8:AH) (k29:Nat),
x15 x17 H8 k29 →
bif decide (x17.2 > x17.1) then
∃ (k30 k31:Nat),
(some (bk, (0:Nat)) = some (k30, k31) ∧ (0:Int) ≤ (X none).wrap i64 (x17.2 - (1:Int)) ∧ (X none).wrap i64 (x17.2 - (1:Int)) < (↑n : Int)) ∧
∃ (n27 n28 n29 n30:Int),
(X none).rdn H8 k30 (k31 + ((X none).wrap i64 (x17.2 - (1:Int))).toNat * 4) 4 =
some [int i64 n27, int i64 n28, int i64 n29, int i64 n30] ∧
∃ (k32 k33:Nat),
(some (bk, (0:Nat)) = some (k32, k33) ∧ (0:Int) ≤ x17.2 ∧ x17.2 < (↑n : Int)) ∧
∃ (n31 n32 n33 n34:Int),
(X none).rdn H8 k32 (k33 + x17.2.toNat * 4) 4 = some [int i64 n31, int i64 n32, int i64 n33, int i64 n34] ∧
∃ (k34 k35:Nat),
(some (bk, (0:Nat)) = some (k34, k35) ∧ (0:Int) ≤ x17.2 ∧ x17.2 < (↑n : Int)) ∧
[int i64 n27, int i64 n28, int i64 n29, int i64 n30].length = 4 ∧
∃ (H9:AH),
(X none).wr H8 k34 (k35 + x17.2.toNat * 4) [int i64 n27, int i64 n28, int i64 n29, int i64 n30] = some H9 ∧
∃ (k36 k37:Nat),
(some (bk, (0:Nat)) = some (k36, k37) ∧ (0:Int) ≤ (X none).wrap i64 (x17.2 - (1:Int)) ∧ (X none).wrap i64 (x17.2 - (1:Int)) < (↑n : Int)) ∧
[int i64 n31, int i64 n32, int i64 n33, int i64 n34].length = 4 ∧
∃ (H10:AH),
(X none).wr H9 k36 (k37 + ((X none).wrap i64 (x17.2 - (1:Int))).toNat * 4)
[int i64 n31, int i64 n32, int i64 n33, int i64 n34] =
some H10 ∧
∃ (x18 : Int × Int),
∃ (k38:Nat),
k38 < k29 ∧
[slice (some (bk, 0)) n n, int i64 a, int i64 m, int i64 b, AV.func (Fn.func (111:FuncId)) [] [],
int i64 x17.1, int i64 ((X none).wrap i64 (x17.2 - (1:Int)))] =
[slice (some (bk, 0)) n n, int i64 a, int i64 m, int i64 b, AV.func (Fn.func (111:FuncId)) [] [],
int i64 x18.1, int i64 x18.2] ∧
x15 x18 H10 k38
else Q (tuple []) H8
else
(0:Int) ≤ (1:Int) ∧
∃ (x19 : Int × Int × Int × Int → AH → Prop),
(bif decide (m > (X none).wrap i64 (((X none).wrap u64 ((X none).wrap i64 (a + b))).fdiv ((2:Int) ^ min (Int.toNat (1:Int)) u64.bits))) then
∃ (x20 : Int × Int × Int × Int),
∃ (_k39:Nat),
True ∧
[slice (some (bk, 0)) n n, int i64 a, int i64 m, int i64 b, AV.func (Fn.func (111:FuncId)) [] [],
int i64 ((X none).wrap i64 (((X none).wrap u64 ((X none).wrap i64 (a + b))).fdiv (2:Int))),
int i64 ((X none).wrap i64 ((X none).wrap i64 (((X none).wrap u64 ((X none).wrap i64 (a + b))).fdiv (2:Int)) + m)),
int i64 ((X none).wrap i64 ((X none).wrap i64 ((X none).wrap i64 (((X none).wrap u64 ((X none).wrap i64 (a + b))).fdiv (2:Int)) + m) - b)),
int i64 ((X none).wrap i64 (((X none).wrap u64 ((X none).wrap i64 (a + b))).fdiv (2:Int)))] =
[slice (some (bk, 0)) n n, int i64 a, int i64 m, int i64 b, AV.func (Fn.func (111:FuncId)) [] [], int i64 x20.1, int i64 x20.2.1,
int i64 x20.2.2.1, int i64 x20.2.2.2] ∧
x19 x20 H
else
∃ (x21 : Int × Int × Int × Int),
∃ (_k40:Nat),
True ∧
[slice (some (bk, 0)) n n, int i64 a, int i64 m, int i64 b, AV.func (Fn.func (111:FuncId)) [] [],
int i64 ((X none).wrap i64 (((X none).wrap u64 ((X none).wrap i64 (a + b))).fdiv (2:Int))),
int i64 ((X none).wrap i64 ((X none).wrap i64 (((X none).wrap u64 ((X none).wrap i64 (a + b))).fdiv (2:Int)) + m)), int i64 a, int i64 m] =
[slice (some (bk, 0)) n n, int i64 a, int i64 m, int i64 b, AV.func (Fn.func (111:FuncId)) [] [], int i64 x21.1, int i64 x21.2.1,
int i64 x21.2.2.1, int i64 x21.2.2.2] ∧
x19 x21 H) ∧
∀ (x22 : Int × Int × Int × Int) (H11:AH),
x19 x22 H11 →
∃ (x23 : Int × Int × Int × Int × Int → AH → Nat → Prop),
(∃ (x24 : Int × Int × Int × Int × Int),
∃ (k41:Nat),
[slice (some (bk, 0)) n n, int i64 a, int i64 m, int i64 b, AV.func (Fn.func (111:FuncId)) [] [], int i64 x22.1, int i64 x22.2.1,
int i64 x22.2.2.1, int i64 x22.2.2.2, int i64 ((X none).wrap i64 (x22.2.1 - (1:Int)))] =
[slice (some (bk, 0)) n n, int i64 a, int i64 m, int i64 b, AV.func (Fn.func (111:FuncId)) [] [], int i64 x24.1, int i64 x24.2.1,
int i64 x24.2.2.1, int i64 x24.2.2.2.1, int i64 x24.2.2.2.2] ∧
x23 x24 H11 k41) ∧
∀ (x25 : Int × Int × Int × Int × Int) (H12:AH) (k42:Nat),
x23 x25 H12 k42 →
bif decide (x25.2.2.1 < x25.2.2.2.1) then
(0:Int) ≤ (1:Int) ∧
∃ (k43 k44:Nat),
(some (bk, 0) = some (k43, k44) ∧
(0:Int) ≤ (X none).wrap i64 (x25.2.2.2.2 - (X none).wrap i64 (((X none).wrap u64 ((X none).wrap i64 (x25.2.2.1 + x25.2.2.2.1))).fdiv (2:Int))) ∧
(X none).wrap i64 (x25.2.2.2.2 - (X none).wrap i64 (((X none).wrap u64 ((X none).wrap i64 (x25.2.2.1 + x25.2.2.2.1))).fdiv (2:Int))) < (↑n : Int)) ∧
∃ (n35 n36 n37 n38:Int),
(X none).rdn H12 k43
(k44 +
((X none).wrap i64
(x25.2.2.2.2 - (X none).wrap i64 (((X none).wrap u64 ((X none).wrap i64 (x25.2.2.1 + x25.2.2.2.1))).fdiv (2:Int)))).toNat *
4)
4 =
some [int i64 n35, int i64 n36, int i64 n37, int i64 n38] ∧
∃ (k45 k46:Nat),
(some (bk, 0) = some (k45, k46) ∧
(0:Int) ≤ (X none).wrap i64 (((X none).wrap u64 ((X none).wrap i64 (x25.2.2.1 + x25.2.2.2.1))).fdiv (2:Int)) ∧
(X none).wrap i64 (((X none).wrap u64 ((X none).wrap i64 (x25.2.2.1 + x25.2.2.2.1))).fdiv (2:Int)) < (↑n : Int)) ∧
∃ (n39 n40 n41 n42:Int),
(X none).rdn H12 k45
(k46 + ((X none).wrap i64 (((X none).wrap u64 ((X none).wrap i64 (x25.2.2.1 + x25.2.2.2.1))).fdiv (2:Int))).toNat * 4) 4 =
some [int i64 n39, int i64 n40, int i64 n41, int i64 n42] ∧
(X none).call (111:FuncId)
[agg [int i64 n35, int i64 n36, int i64 n37, int i64 n38],
agg [int i64 n39, int i64 n40, int i64 n41, int i64 n42]]
H12 fun (v3:AV) (H13:AH) =>
∃ (n43:Int),
v3 = int i64 n43 ∧
bif !decide (n43 < (0:Int)) then
∃ (x26 : Int × Int × Int × Int × Int),
∃ (k47:Nat),
k47 < k42 ∧
[slice (some (bk, 0)) n n, int i64 a, int i64 m, int i64 b, AV.func (Fn.func (111:FuncId)) [] [],
int i64 x25.1, int i64 x25.2.1,
int i64
((X none).wrap i64
((X none).wrap i64 (((X none).wrap u64 ((X none).wrap i64 (x25.2.2.1 + x25.2.2.2.1))).fdiv (2:Int)) + (1:Int))),
int i64 x25.2.2.2.1, int i64 x25.2.2.2.2] =
[slice (some (bk, 0)) n n, int i64 a, int i64 m, int i64 b, AV.func (Fn.func (111:FuncId)) [] [],
int i64 x26.1, int i64 x26.2.1, int i64 x26.2.2.1, int i64 x26.2.2.2.1,
int i64 x26.2.2.2.2] ∧
x23 x26 H13 k47
else
∃ (x27 : Int × Int × Int × Int × Int),
∃ (k48:Nat),
k48 < k42 ∧
[slice (some (bk, 0)) n n, int i64 a, int i64 m, int i64 b, AV.func (Fn.func (111:FuncId)) [] [],
int i64 x25.1, int i64 x25.2.1, int i64 x25.2.2.1,
int i64 ((X none).wrap i64 (((X none).wrap u64 ((X none).wrap i64 (x25.2.2.1 + x25.2.2.2.1))).fdiv (2:Int))),
int i64 x25.2.2.2.2] =
[slice (some (bk, 0)) n n, int i64 a, int i64 m, int i64 b, AV.func (Fn.func (111:FuncId)) [] [],
int i64 x27.1, int i64 x27.2.1, int i64 x27.2.2.1, int i64 x27.2.2.2.1,
int i64 x27.2.2.2.2] ∧
x23 x27 H13 k48
else
∃ (x28 : Int × Int × Int → AH → Prop),
(bif decide (x25.2.2.1 < m) && decide (m < (X none).wrap i64 (x25.2.1 - x25.2.2.1)) then
(X none).call 118
[slice (some (bk, 0)) n n, int i64 x25.2.2.1, int i64 m, int i64 ((X none).wrap i64 (x25.2.1 - x25.2.2.1)),
AV.func (Fn.func (111:FuncId)) [] []]
H12 fun (_v4:AV) (H14:AH) =>
∃ (x29 : Int × Int × Int),
∃ (_k49:Nat),
True ∧
[slice (some (bk, 0)) n n, int i64 a, int i64 m, int i64 b, AV.func (Fn.func (111:FuncId)) [] [], int i64 x25.1,
int i64 x25.2.2.1, int i64 ((X none).wrap i64 (x25.2.1 - x25.2.2.1))] =
[slice (some (bk, 0)) n n, int i64 a, int i64 m, int i64 b, AV.func (Fn.func (111:FuncId)) [] [], int i64 x29.1,
int i64 x29.2.1, int i64 x29.2.2] ∧
x28 x29 H14
else
∃ (x30 : Int × Int × Int),
∃ (_k50:Nat),
True ∧
[slice (some (bk, 0)) n n, int i64 a, int i64 m, int i64 b, AV.func (Fn.func (111:FuncId)) [] [], int i64 x25.1,
int i64 x25.2.2.1, int i64 ((X none).wrap i64 (x25.2.1 - x25.2.2.1))] =
[slice (some (bk, 0)) n n, int i64 a, int i64 m, int i64 b, AV.func (Fn.func (111:FuncId)) [] [], int i64 x30.1,
int i64 x30.2.1, int i64 x30.2.2] ∧
x28 x30 H12) ∧
∀ (x31 : Int × Int × Int) (H15:AH),
x28 x31 H15 →
∃ (x32 : Int × Int × Int → AH → Prop),
(bif decide (a < x31.2.1) && decide (x31.2.1 < x31.1) then
(X none).call 117 [slice (some (bk, 0)) n n, int i64 a, int i64 x31.2.1, int i64 x31.1, AV.func (Fn.func (111:FuncId)) [] []] H15
fun (_v5:AV) (H16:AH) =>
∃ (x33 : Int × Int × Int),
∃ (_k51:Nat),
True ∧
[slice (some (bk, 0)) n n, int i64 a, int i64 m, int i64 b, AV.func (Fn.func (111:FuncId)) [] [], int i64 x31.1,
int i64 x31.2.1, int i64 x31.2.2] =
[slice (some (bk, 0)) n n, int i64 a, int i64 m, int i64 b, AV.func (Fn.func (111:FuncId)) [] [], int i64 x33.1,
int i64 x33.2.1, int i64 x33.2.2] ∧
x32 x33 H16
else
∃ (x34 : Int × Int × Int),
∃ (_k52:Nat),
True ∧
[slice (some (bk, 0)) n n, int i64 a, int i64 m, int i64 b, AV.func (Fn.func (111:FuncId)) [] [], int i64 x31.1,
int i64 x31.2.1, int i64 x31.2.2] =
[slice (some (bk, 0)) n n, int i64 a, int i64 m, int i64 b, AV.func (Fn.func (111:FuncId)) [] [], int i64 x34.1,
int i64 x34.2.1, int i64 x34.2.2] ∧
x32 x34 H15) ∧
∀ (x35 : Int × Int × Int) (H17:AH),
x32 x35 H17 →
bif decide (x35.1 < x35.2.2) && decide (x35.2.2 < b) then
(X none).call 117 [slice (some (bk, 0)) n n, int i64 x35.1, int i64 x35.2.2, int i64 b, AV.func (Fn.func (111:FuncId)) [] []] H17
fun (_v6:AV) (H18:AH) => Q (tuple []) H18
else Q (tuple []) H17) := by kernel_rfl

theorem stable_vc (X : Option Nat → Atoms) (It : FuncId → List AV → List AV → (AH → Prop) → List (List AV) → Prop) (bk n : Nat) (H:AH) (Q : AV → AH → Prop) : (vcG X It Tryd.prog [⟨2, Int × Int × Int, [0, 1, 2, 6, 7, 8], fun x => [.slice (some (bk, 0)) n n, .int .i64 n, .func (.func 111) [] [], .int .i64 x.1, .int .i64 x.2.1, .int .i64 x.2.2], fun _ _ _ => True⟩, ⟨7, Int, [0, 1, 2, 6], fun x => [.slice (some (bk, 0)) n n, .int .i64 n, .func (.func 111) [] [], .int .i64 x], fun _ _ _ => True⟩, ⟨9, Int × Int × Int, [0, 1, 2, 6, 7, 8], fun x => [.slice (some (bk, 0)) n n, .int .i64 n, .func (.func 111) [] [], .int .i64 x.1, .int .i64 x.2.1, .int .i64 x.2.2], fun _ _ _ => True⟩, ⟨200016, Int, [0, 1, 2, 6], fun x => [.slice (some (bk, 0)) n n, .int .i64 n, .func (.func 111) [] [], .int .i64 x], fun _ _ _ => True⟩] [] 113 [.slice (some (bk, 0)) n n, .int .i64 n, .func (.func 111) [] []] H Q) =
(∃ (x1 : Int × Int × Int → AH → Nat → Prop),
(∃ (x2 : Int × Int × Int),
∃ (k1:Nat),
[slice (some (bk, (0:Nat))) n n, int i64 (↑n : Int), AV.func (Fn.func (111:FuncId)) [] [], int i64 20, int i64 0, int i64 20] =
[slice (some (bk, (0:Nat))) n n, int i64 (↑n : Int), AV.func (Fn.func (111:FuncId)) [] [], int i64 x2.1, int i64 x2.2.1, int i64 x2.2.2] ∧
x1 x2 H k1) ∧
∀ (x3 : Int × Int × Int) (H1:AH) (k2:Nat),
x1 x3 H1 k2 →
bif decide (x3.2.2 ≤ (↑n : Int)) then
(X none).call 116 [slice (some (bk, 0)) n n, int i64 x3.2.1, int i64 x3.2.2, AV.func (Fn.func (111:FuncId)) [] []] H1 fun (_v1:AV) (H2:AH) =>
∃ (x4 : Int × Int × Int),
∃ (k3:Nat),
k3 < k2 ∧
[slice (some (bk, (0:Nat))) n n, int i64 (↑n : Int), AV.func (Fn.func (111:FuncId)) [] [], int i64 x3.1, int i64 x3.2.2,
int i64 ((X none).wrap i64 (x3.2.2 + x3.1))] =
[slice (some (bk, (0:Nat))) n n, int i64 (↑n : Int), AV.func (Fn.func (111:FuncId)) [] [], int i64 x4.1, int i64 x4.2.1, int i64 x4.2.2] ∧
x1 x4 H2 k3
else
(X none).call (116:Nat) [slice (some (bk, (0:Nat))) n n, int i64 x3.2.1, int i64 (↑n : Int), AV.func (Fn.func (111:FuncId)) [] []] H1 fun (_v2:AV) (H3:AH) =>
∃ (x5 : Int → AH → Nat → Prop),
(∃ (n1:Int),
∃ (k4:Nat),
[slice (some (bk, (0:Nat))) n n, int i64 (↑n : Int), AV.func (Fn.func (111:FuncId)) [] [], int i64 x3.1] =
[slice (some (bk, (0:Nat))) n n, int i64 (↑n : Int), AV.func (Fn.func (111:FuncId)) [] [], int i64 n1] ∧
x5 n1 H3 k4) ∧
∀ (n2:Int) (H4:AH) (k5:Nat),
x5 n2 H4 k5 →
bif decide (n2 < (↑n : Int)) then
∃ (x6 : Int × Int × Int → AH → Nat → Prop),
(∃ (x7 : Int × Int × Int),
∃ (k6:Nat),
[slice (some (bk, (0:Nat))) n n, int i64 (↑n : Int), AV.func (Fn.func (111:FuncId)) [] [], int i64 n2, int i64 0,
int i64 ((X none).wrap i64 ((2:Int) * n2))] =
[slice (some (bk, (0:Nat))) n n, int i64 (↑n : Int), AV.func (Fn.func (111:FuncId)) [] [], int i64 x7.1, int i64 x7.2.1, int i64 x7.2.2] ∧
x6 x7 H4 k6) ∧
∀ (x8 : Int × Int × Int) (H5:AH) (k7:Nat),
x6 x8 H5 k7 →
bif decide (x8.2.2 ≤ (↑n : Int)) then
(X none).call 117
[slice (some (bk, 0)) n n, int i64 x8.2.1, int i64 ((X none).wrap i64 (x8.2.1 + x8.1)), int i64 x8.2.2,
AV.func (Fn.func (111:FuncId)) [] []]
H5 fun (_v3:AV) (H6:AH) =>
∃ (x9 : Int × Int × Int),
∃ (k8:Nat),
k8 < k7 ∧
[slice (some (bk, (0:Nat))) n n, int i64 (↑n : Int), AV.func (Fn.func (111:FuncId)) [] [], int i64 x8.1, int i64 x8.2.2,
int i64 ((X none).wrap i64 (x8.2.2 + (X none).wrap i64 ((2:Int) * x8.1)))] =
[slice (some (bk, (0:Nat))) n n, int i64 (↑n : Int), AV.func (Fn.func (111:FuncId)) [] [], int i64 x9.1, int i64 x9.2.1,
int i64 x9.2.2] ∧
x6 x9 H6 k8
else
∃ (x10 : Int → AH → Prop),
(bif decide ((X none).wrap i64 (x8.2.1 + x8.1) < (↑n : Int)) then
(X none).call 117
[slice (some (bk, (0:Nat))) n n, int i64 x8.2.1, int i64 ((X none).wrap i64 (x8.2.1 + x8.1)), int i64 (↑n : Int),
AV.func (Fn.func (111:FuncId)) [] []]
H5 fun (_v4:AV) (H7:AH) =>
∃ (n3:Int),
∃ (_k9:Nat),
True ∧
[slice (some (bk, (0:Nat))) n n, int i64 (↑n : Int), AV.func (Fn.func (111:FuncId)) [] [], int i64 x8.1] =
[slice (some (bk, (0:Nat))) n n, int i64 (↑n : Int), AV.func (Fn.func (111:FuncId)) [] [], int i64 n3] ∧
x10 n3 H7
else
∃ (n4:Int),
∃ (_k10:Nat),
True ∧
[slice (some (bk, (0:Nat))) n n, int i64 (↑n : Int), AV.func (Fn.func (111:FuncId)) [] [], int i64 x8.1] =
[slice (some (bk, (0:Nat))) n n, int i64 (↑n : Int), AV.func (Fn.func (111:FuncId)) [] [], int i64 n4] ∧
x10 n4 H5) ∧
∀ (n5:Int) (H8:AH),
x10 n5 H8 →
∃ (n6:Int),
∃ (k11:Nat),
k11 < k5 ∧
[slice (some (bk, (0:Nat))) n n, int i64 (↑n : Int), AV.func (Fn.func (111:FuncId)) [] [], int i64 ((X none).wrap i64 (n5 * (2:Int)))] =
[slice (some (bk, (0:Nat))) n n, int i64 (↑n : Int), AV.func (Fn.func (111:FuncId)) [] [], int i64 n6] ∧
x5 n6 H8 k11
else Q (tuple []) H4) := by kernel_rfl

theorem sortS_vc (X : Option Nat → Atoms) (It : FuncId → List AV → List AV → (AH → Prop) → List (List AV) → Prop) (bk n : Nat) (H:AH) (Q : AV → AH → Prop) : (vcG X It Tryd.prog [] [] 99 [.slice (some (bk, 0)) n n, .func (.func 111) [] []] H Q) =
((X none).call (113:Nat) [slice (some (bk, (0:Nat))) n n, int i64 (↑n : Int), AV.func (Fn.func (111:FuncId)) [] []] H fun (_v1:AV) (H1:AH) => Q (tuple []) H1) := by kernel_rfl

theorem cmpS_vc (X : Option Nat → Atoms) (It : FuncId → List AV → List AV → (AH → Prop) → List (List AV) → Prop) (x1 x2 x3 x4 y1 y2 y3 y4 : Int) (H:AH) (Q : AV → AH → Prop) : (vcG X It Tryd.prog [] [] 111 [.agg [.int .i64 x1, .int .i64 x2, .int .i64 x3, .int .i64 x4], .agg [.int .i64 y1, .int .i64 y2, .int .i64 y3, .int .i64 y4]] H Q) =
(true = true ∧
true = true ∧
∃ (n1:Int),
(X none).rd1
((X none).al ((X none).al H (cells [int i64 x1, int i64 x2, int i64 x3, int i64 x4] 41 { whole := true }))
(cells [int i64 y1, int i64 y2, int i64 y3, int i64 y4] 41 { whole := true }))
((X none).n H) 0 =
some (int i64 n1) ∧
∃ (n2:Int),
(X none).rd1
((X none).al ((X none).al H (cells [int i64 x1, int i64 x2, int i64 x3, int i64 x4] 41 { whole := true }))
(cells [int i64 y1, int i64 y2, int i64 y3, int i64 y4] 41 { whole := true }))
((X none).n ((X none).al H (cells [int i64 x1, int i64 x2, int i64 x3, int i64 x4] 41 { whole := true }))) 0 =
some (int i64 n2) ∧
∃ (n3:Int),
(X none).rd1
((X none).al ((X none).al H (cells [int i64 x1, int i64 x2, int i64 x3, int i64 x4] 41 { whole := true }))
(cells [int i64 y1, int i64 y2, int i64 y3, int i64 y4] 41 { whole := true }))
((X none).n ((X none).al H (cells [int i64 x1, int i64 x2, int i64 x3, int i64 x4] 41 { whole := true }))) 1 =
some (int i64 n3) ∧
∃ (n4:Int),
(X none).rd1
((X none).al ((X none).al H (cells [int i64 x1, int i64 x2, int i64 x3, int i64 x4] 41 { whole := true }))
(cells [int i64 y1, int i64 y2, int i64 y3, int i64 y4] 41 { whole := true }))
((X none).n H) 1 =
some (int i64 n4) ∧
∃ (n5:Int),
(X none).rd1
((X none).al ((X none).al H (cells [int i64 x1, int i64 x2, int i64 x3, int i64 x4] 41 { whole := true }))
(cells [int i64 y1, int i64 y2, int i64 y3, int i64 y4] 41 { whole := true }))
((X none).n H) 2 =
some (int i64 n5) ∧
∃ (n6:Int),
(X none).rd1
((X none).al ((X none).al H (cells [int i64 x1, int i64 x2, int i64 x3, int i64 x4] 41 { whole := true }))
(cells [int i64 y1, int i64 y2, int i64 y3, int i64 y4] 41 { whole := true }))
((X none).n ((X none).al H (cells [int i64 x1, int i64 x2, int i64 x3, int i64 x4] 41 { whole := true }))) 2 =
some (int i64 n6) ∧
(X none).call 102 [int i64 n1, int i64 n2]
((X none).al ((X none).al H (cells [int i64 x1, int i64 x2, int i64 x3, int i64 x4] 41 { whole := true }))
(cells [int i64 y1, int i64 y2, int i64 y3, int i64 y4] 41 { whole := true }))
fun (v1:AV) (H1:AH) =>
∃ (n7:Int),
v1 = int i64 n7 ∧
(∃ (n8:Int),
(X none).rd1 H1 ((X none).n ((X none).al H (cells [int i64 x1, int i64 x2, int i64 x3, int i64 x4] 41 { whole := true }))) 2 =
some (int i64 n8) ∧
int i64 n8 = int i64 n6) ∧
(∃ (n9:Int), (X none).rd1 H1 ((X none).n H) 2 = some (int i64 n9) ∧ int i64 n9 = int i64 n5) ∧
(∃ (n10:Int), (X none).rd1 H1 ((X none).n H) 1 = some (int i64 n10) ∧ int i64 n10 = int i64 n4) ∧
(∃ (n11:Int),
(X none).rd1 H1 ((X none).n ((X none).al H (cells [int i64 x1, int i64 x2, int i64 x3, int i64 x4] 41 { whole := true }))) 1 =
some (int i64 n11) ∧
int i64 n11 = int i64 n3) ∧
(X none).call 102 [int i64 n3, int i64 n4] H1 fun (v2:AV) (H2:AH) =>
∃ (n12:Int),
v2 = int i64 n12 ∧
(∃ (n13:Int),
(X none).rd1 H2 ((X none).n ((X none).al H (cells [int i64 x1, int i64 x2, int i64 x3, int i64 x4] 41 { whole := true })))
2 =
some (int i64 n13) ∧
int i64 n13 = int i64 n6) ∧
(∃ (n14:Int), (X none).rd1 H2 ((X none).n H) 2 = some (int i64 n14) ∧ int i64 n14 = int i64 n5) ∧
(X none).call 102 [int i64 n5, int i64 n6] H2 fun (v3:AV) (H3:AH) =>
∃ (n15:Int),
v3 = int i64 n15 ∧
(3 ≤ 16777216 ∧ 1 = 1 ∧ 0 < 1 ∧ true = true ∧ true = true) ∧
(X none).call 101 [slice (some ((X none).n H3, 0)) 3 3]
((X none).al H3 (cells [int i64 n7, int i64 n12, int i64 n15] 3 { whole := true })) fun (v4:AV) (H4:AH) =>
∃ (n16:Int), v4 = int i64 n16 ∧ Q (int i64 n16) H4) := by kernel_rfl

theorem cmpOr_vc (X : Option Nat → Atoms) (It : FuncId → List AV → List AV → (AH → Prop) → List (List AV) → Prop) (bk:Nat) (H:AH) (Q : AV → AH → Prop) : (vcG X It Tryd.prog [⟨3, Int, [3, 6, 7, 8], fun x => [.int .i64 0, .slice (some (bk, 0)) 3 3, .int .i64 3, .int .i64 x], fun _ _ _ => True⟩] [] 101 [.slice (some (bk, 0)) 3 3] H Q) =
(∃ (x1 : Int → AH → Nat → Prop),
(∃ (n1:Int),
∃ (k1:Nat),
[int i64 0, slice (some (bk, 0)) 3 3, int i64 3, int i64 0] =
[int i64 0, slice (some (bk, 0)) 3 3, int i64 3, int i64 n1] ∧
x1 n1 H k1) ∧
∀ (n2:Int) (H1:AH) (k2:Nat),
x1 n2 H1 k2 →
bif decide (n2 < (3:Int)) then
∃ (k3 k4:Nat),
(some (bk, 0) = some (k3, k4) ∧ (0:Int) ≤ n2 ∧ n2 < (3:Int)) ∧
∃ (n3:Int),
(X none).rd1 H1 k3 (k4 + n2.toNat * 1) = some (int i64 n3) ∧
bif n3 != (0:Int) then Q (int i64 n3) H1
else
∃ (n4:Int),
∃ (k5:Nat),
k5 < k2 ∧
[int i64 0, slice (some (bk, 0)) 3 3, int i64 3, int i64 ((X none).wrap i64 (n2 + (1:Int)))] =
[int i64 0, slice (some (bk, 0)) 3 3, int i64 3, int i64 n4] ∧
x1 n4 H1 k5
else Q (int i64 0) H1) := by kernel_rfl

theorem compare_vc (X : Option Nat → Atoms) (It : FuncId → List AV → List AV → (AH → Prop) → List (List AV) → Prop) (a b : Int) (H:AH) (Q : AV → AH → Prop) : (vcG X It Tryd.prog [] [] 102 [.int .i64 a, .int .i64 b] H Q) =
((X none).call 114 [int i64 a] H fun (v1:AV) (H1:AH) =>
∃ (b1:Bool),
v1 = bool b1 ∧
(X none).call 114 [int i64 b] H1 fun (v2:AV) (H2:AH) =>
∃ (b2:Bool),
v2 = bool b2 ∧
bif b1 then bif b2 then Q (int i64 0) H2 else Q (int i64 (-1 : Int)) H2
else bif b2 then Q (int i64 1) H2 else bif decide (a < b) then Q (int i64 (-1 : Int)) H2 else bif decide (a > b) then Q (int i64 1) H2 else Q (int i64 0) H2) := by kernel_rfl

theorem isNaN_vc (X : Option Nat → Atoms) (It : FuncId → List AV → List AV → (AH → Prop) → List (List AV) → Prop) (a:Int) (H:AH) (Q : AV → AH → Prop) : (vcG X It Tryd.prog [] [] 114 [.int .i64 a] H Q) =
(Q (bool (a != a)) H) := by kernel_rfl

end Go.Proofs.YtlkdhhkncoekgaaDoor
