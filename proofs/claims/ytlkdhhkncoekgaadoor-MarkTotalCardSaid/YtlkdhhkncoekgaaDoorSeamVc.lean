/- What functions ask: seams. -/
import Derived.Test.YtlkdhhkncoekgaaDoorAmTri
import Derived.Test.YtlkdhhkncoekgaaDoorTabs
namespace Go.Proofs.YtlkdhhkncoekgaaDoor
open Go.Am Go
open _root_.Go.Am.AV (int slice ptr str bool agg tuple)
open _root_.Go.IntKind (i64 i32 u8 u64)
open _root_.Go.Am.AObj (cells)

theorem Melts_vc (X : Option Nat → Atoms) (It : FuncId → List AV → List AV → (AH → Prop) → List (List AV) → Prop) (a b : List UInt8) (H:AH) (Q : AV → AH → Prop) (xs : List (Int × Int × Int × Bool)) (cap : AV → AH → Prop) (I : Nat → List Nat → AH → Prop) (S : AEx → List Nat → AH → Prop) : (vcG X It Tryd.prog [] [⟨2, AV, Int × Int × Int × Bool, 77, fun z => ([], [z]), fun x => [.agg [.int .i64 x.1, .int .i64 x.2.1, .int .i32 x.2.2.1, .bool x.2.2.2]], fun _ => xs, cap, fun _ => I, [.ret], fun _ => S⟩] 74 [.str a, .str b] H Q) =
(true = true ∧
∃ (s1 : List UInt8),
(X none).rd1 ((X none).al ((X none).al H (cells [str a] 9 { whole := true })) (cells [bool false] 4 { whole := true })) ((X none).n H) 0 = some (str s1) ∧
(↑(s1.length + b.length) : Int) ≤ (9223372036854775807:Int) ∧
(X none).call 54 [str (s1 ++ b)] ((X none).al ((X none).al H (cells [str a] 9 { whole := true })) (cells [bool false] 4 { whole := true })) fun (v1:AV) (H1:AH) =>
∃ (v2:AV),
v1 = v2 ∧
∃ (v3:AV),
v2 = AV.func (Fn.func (nat_lit 77)) [] [v3] ∧
It (nat_lit 77) [] [v3] (fun (H2:AH) => cap v3 H2)
(List.map (fun (x : Int × Int × Int × Bool) => [agg [int i64 x.1, int i64 x.2.1, int i32 x.2.2.1, bool x.2.2.2]]) xs) ∧
(RClosed (fun (k1:Nat) (cs1 : List Nat) (H3:AH) => I k1 cs1 H3) (fun (x1:AEx) (cs2 : List Nat) (H4:AH) => S x1 cs2 H4) fun (H5:AH) => cap v3 H5) ∧
(∀ (x2 : Int × Int × Int × Bool), [agg [int i64 x2.1, int i64 x2.2.1, int i32 x2.2.2.1, bool x2.2.2.2]].length = 1) ∧
(∀ (H6:AH), RBegin H1 H6 → I 0 [(X none).n H1 + 1, (X none).n H1] H6) ∧
(∀ (k2:Nat) (cs3 : List Nat) (H7:AH) (x3 : Int × Int × Int × Bool),
xs[k2]? = some x3 →
I k2 cs3 H7 →
AllLt cs3 H7 →
InW ((X none).n H1 + 1) cs3 →
[int i64 x3.1, int i64 x3.2.1, int i32 x3.2.2.1, bool x3.2.2.2].length = 4 ∧
∃ (H8:AH),
(X (some ((X none).n H1 + 1))).wr
((X (some ((X none).n H1 + 1))).al H7
(cells [int i64 0, int i64 0, int i32 (0:Int), bool false] 77 { whole := true }))
((X (some ((X none).n H1 + 1))).n H7) 0 [int i64 x3.1, int i64 x3.2.1, int i32 x3.2.2.1, bool x3.2.2.2] =
some H8 ∧
Still cs3 H7 H7 H8 ∧
∀ (H9:AH),
But ((X none).n H1 + 1) H8 H9 →
∃ (n1:Int),
(X (some ((X none).n H1 + 1))).rd1 H9 ((X (some ((X none).n H1 + 1))).n H7) 0 = some (int i64 n1) ∧
∃ (s2 : List UInt8),
(X (some ((X none).n H1 + 1))).rd1 H9 ((X none).n H) 0 = some (str s2) ∧
∃ (n2:Int),
(X (some ((X none).n H1 + 1))).rd1 H9 ((X (some ((X none).n H1 + 1))).n H7) 0 = some (int i64 n2) ∧
∃ (n3:Int),
(X (some ((X none).n H1 + 1))).rd1 H9 ((X (some ((X none).n H1 + 1))).n H7) 1 = some (int i64 n3) ∧
∃ (s3 : List UInt8),
(X (some ((X none).n H1 + 1))).rd1 H9 ((X none).n H) 0 = some (str s3) ∧
bif decide (n1 < (↑s2.length : Int)) && decide ((X (some ((X none).n H1 + (1:Nat)))).wrap i64 (n2 + n3) > (↑s3.length : Int)) then
1 = 1 ∧
∃ (H10:AH),
(X (some ((X none).n H1 + 1))).wr H9 ((X none).n ((X none).al H (cells [str a] 9 { whole := true }))) 0 [bool true] = some H10 ∧
Still cs3 H7 H9 H10 ∧ ∀ (H11:AH), But ((X none).n H1 + 1) H10 H11 → S AEx.ret cs3 H11
else Still cs3 H7 H9 H9 ∧ ∀ (H12:AH), But ((X none).n H1 + 1) H9 H12 → I (k2 + 1) cs3 H12) ∧
(∀ (cs4 : List Nat) (H13 H14 : AH),
I xs.length cs4 H13 →
But ((X none).n H1 + 1) H13 H14 →
Dfr ((X none).n H1) H14 →
1 = 1 ∧
∃ (H15:AH),
(X none).wr H14 ((X none).n ((X none).al H (cells [str a] 9 { whole := true }))) 0 [bool false] = some H15 ∧
∃ (H16:AH),
(X none).tm [Mk.mark ((X none).n H1)] H15 = some H16 ∧
∃ (b1:Bool), (X none).rd1 H16 ((X none).n ((X none).al H (cells [str a] 9 { whole := true }))) 0 = some (bool b1) ∧ Q (bool b1) H16) ∧
∀ (cs5 : List Nat) (H17 H18 : AH),
S AEx.ret cs5 H17 →
But ((X none).n H1 + 1) H17 H18 →
Dfr ((X none).n H1) H18 →
∃ (H19:AH),
(X none).tm [Mk.mark ((X none).n H1)] H18 = some H19 ∧
∃ (b2:Bool), (X none).rd1 H19 ((X none).n ((X none).al H (cells [str a] 9 { whole := true }))) 0 = some (bool b2) ∧ Q (bool b2) H19) := by kernel_rfl

theorem passes_vc (X:Atoms) (p:Nat) (n:Int) (H:AH) (Q : AV → AH → Prop) : (vcF X Tryd.prog [] 45 [.ptr (some (p, 0)), .int .i64 n] H Q) =
(∃ (q1 : Option (Nat × Nat)),
∃ (k1 k2:Nat),
X.rd1 H p 3 = some (slice q1 k1 k2) ∧
∃ (q2 : Option (Nat × Nat)),
∃ (k3 k4:Nat),
X.rd1 H p 3 = some (slice q2 k3 k4) ∧
∃ (q3 : Option (Nat × Nat)),
∃ (k5 k6:Nat),
X.slc (39:Nat) (slice q1 k1 k2) (some (int i64 (if X.wrap i64 ((↑k3 : Int) - (4:Int)) > (0:Int) then X.wrap i64 ((↑k3 : Int) - (4:Int)) else (0:Int)))) none none H =
some (slice q3 k5 k6) ∧
∃ (s1 : List UInt8),
X.rd1 H p 1 = some (str s1) ∧
∃ (n1:Int),
X.rd1 H p 2 = some (int i64 n1) ∧
∃ (s2 : List UInt8),
X.rd1 H p 1 = some (str s2) ∧
∃ (n2:Int),
X.rd1 H p 2 = some (int i64 n2) ∧
((0:Int) ≤ X.wrap i64 (n1 + n) ∧
(X.wrap i64 (n1 + n) ≤
if X.wrap i64 (X.wrap i64 (n2 + n) + (4:Int)) < (↑s2.length : Int) then X.wrap i64 (X.wrap i64 (n2 + n) + (4:Int)) else (↑s2.length : Int)) ∧
(if X.wrap i64 (X.wrap i64 (n2 + n) + (4:Int)) < (↑s2.length : Int) then X.wrap i64 (X.wrap i64 (n2 + n) + (4:Int)) else (↑s2.length : Int)) ≤
(↑s1.length : Int)) ∧
∃ (s3 : List UInt8),
X.str (slice q3 k5 k6) H = some s3 ∧
(((0:Int) ≤ X.wrap i64 (n1 + n) ∧
(X.wrap i64 (n1 + n) ≤
if X.wrap i64 (X.wrap i64 (n2 + n) + (4:Int)) < (↑s2.length : Int) then X.wrap i64 (X.wrap i64 (n2 + n) + (4:Int)) else (↑s2.length : Int)) ∧
(if X.wrap i64 (X.wrap i64 (n2 + n) + (4:Int)) < (↑s2.length : Int) then X.wrap i64 (X.wrap i64 (n2 + n) + (4:Int)) else (↑s2.length : Int)) ≤
(↑s1.length : Int)) ∧
str
(List.take
((if X.wrap i64 (X.wrap i64 (n2 + n) + (4:Int)) < (↑s2.length : Int) then X.wrap i64 (X.wrap i64 (n2 + n) + (4:Int)) else (↑s2.length : Int)) -
X.wrap i64 (n1 + n)).toNat
(List.drop (X.wrap i64 (n1 + n)).toNat s1)) =
str
(List.take
((if X.wrap i64 (X.wrap i64 (n2 + n) + (4:Int)) < (↑s2.length : Int) then X.wrap i64 (X.wrap i64 (n2 + n) + (4:Int)) else (↑s2.length : Int)) -
X.wrap i64 (n1 + n)).toNat
(List.drop (X.wrap i64 (n1 + n)).toNat s1))) ∧
int i64
(if X.wrap i64 (X.wrap i64 (n2 + n) + (4:Int)) < (↑s2.length : Int) then X.wrap i64 (X.wrap i64 (n2 + n) + (4:Int)) else (↑s2.length : Int)) =
int i64
(if X.wrap i64 (X.wrap i64 (n2 + n) + (4:Int)) < (↑s2.length : Int) then X.wrap i64 (X.wrap i64 (n2 + n) + (4:Int)) else (↑s2.length : Int)) ∧
(∃ (n3:Int), X.rd1 H p 2 = some (int i64 n3) ∧ int i64 n3 = int i64 n2) ∧
int i64 (↑s2.length : Int) = int i64 (↑s2.length : Int) ∧
(∃ (s4 : List UInt8), X.rd1 H p 1 = some (str s4) ∧ str s4 = str s2) ∧
(∃ (n4:Int), X.rd1 H p 2 = some (int i64 n4) ∧ int i64 n4 = int i64 n1) ∧
(∃ (s5 : List UInt8), X.rd1 H p 1 = some (str s5) ∧ str s5 = str s1) ∧
X.call 74
[str s3,
str
(List.take
((if X.wrap i64 (X.wrap i64 (n2 + n) + (4:Int)) < (↑s2.length : Int) then X.wrap i64 (X.wrap i64 (n2 + n) + (4:Int))
else (↑s2.length : Int)) -
X.wrap i64 (n1 + n)).toNat
(List.drop (X.wrap i64 (n1 + n)).toNat s1))]
H fun (v1:AV) (H1:AH) => ∃ (b1:Bool), v1 = bool b1 ∧ Q (bool !b1) H1) := by kernel_rfl

theorem angle_vc (X : Option Nat → Atoms) (It : FuncId → List AV → List AV → (AH → Prop) → List (List AV) → Prop) (p:Nat) (t : List UInt8) (H:AH) (Q : AV → AH → Prop) : (vcG X It Tryd.prog [⟨200005, Bool × List UInt8, [0, 1, 5, 6], fun x => [.ptr (some (p, 0)), .str t, .bool x.1, .str x.2], fun _ _ _ => True⟩, ⟨200006, (Bool × List UInt8) × Bool, [0, 1, 5, 6, 42], fun x => [.ptr (some (p, 0)), .str t, .bool x.1.1, .str x.1.2, .bool x.2], fun _ _ _ => True⟩, ⟨200009, Bool × Bool, [0, 1, 5, 74], fun x => [.ptr (some (p, 0)), .str t, .bool x.1, .bool x.2], fun _ _ _ => True⟩, ⟨200011, Int × Bool, [0, 7, 88], fun x => [.ptr (some (p, 0)), .int .i64 x.1, .bool x.2], fun _ _ _ => True⟩, ⟨200017, List UInt8 × List UInt8 × List UInt8, [0, 1, 8, 9, 10], fun x => [.ptr (some (p, 0)), .str t, .str x.1, .str x.2.1, .str x.2.2], fun _ _ _ => True⟩, ⟨200022, Int × Int × Bool, [0, 13, 15, 129], fun x => [.ptr (some (p, 0)), .int .i64 x.1, .int .i64 x.2.1, .bool x.2.2], fun _ _ _ => True⟩, ⟨200026, List UInt8 × Bool, [0, 10, 157], fun x => [.ptr (some (p, 0)), .str x.1, .bool x.2], fun _ _ _ => True⟩] [] 23 [.ptr (some (p, 0)), .str t] H Q) =
(∃ (n1:Int),
(X none).rd1 H p 0 = some (int i64 n1) ∧
((0:Int) ≤ (1:Int) ∧ (1:Int) ≤ (5:Int) ∧ (5:Int) ≤ (5:Int)) ∧
∃ (x1 : Bool × List UInt8 → AH → Prop),
(bif n1 == (2:Int) then
((0:Int) ≤ (1:Int) ∧ (1:Int) ≤ (4:Int) ∧ (4:Int) ≤ (5:Int)) ∧
∃ (x2 : Bool × List UInt8),
∃ (_k1:Nat),
True ∧ [ptr (some (p, 0)), str t, bool (n1 == (2:Int)), str [(98:UInt8), (105:UInt8), (117:UInt8)]] = [ptr (some (p, 0)), str t, bool x2.1, str x2.2] ∧ x1 x2 H
else
∃ (x3 : Bool × List UInt8),
∃ (_k2:Nat),
True ∧
[ptr (some (p, 0)), str t, bool (n1 == (2:Int)), str [(98:UInt8), (105:UInt8), (117:UInt8), (115:UInt8)]] = [ptr (some (p, 0)), str t, bool x3.1, str x3.2] ∧ x1 x3 H) ∧
∀ (x4 : Bool × List UInt8) (H1:AH),
x1 x4 H1 →
∃ (x5 : (Bool × List UInt8) × Bool → AH → Prop),
(((decide ((↑t.length : Int) ≥ (3:Int)) == true) = true → (0:Int) ≤ (2:Int) ∧ (2:Int) < (↑t.length : Int)) ∧
(((decide ((↑t.length : Int) ≥ (3:Int)) && (↑(t[(2:Nat)]?.getD (0:UInt8)).toNat : Int) == (62:Int)) == true) = true → (0:Int) ≤ (1:Int) ∧ (1:Int) < (↑t.length : Int)) ∧
bif (decide ((↑t.length : Int) ≥ (3:Int)) && (↑(t[(2:Nat)]?.getD (0:UInt8)).toNat : Int) == (62:Int)) == true then
(X none).call (44:Nat) [str x4.2, int u8 (↑(t[(1:Nat)]?.getD (0:UInt8)).toNat : Int)] H1 fun (v1:AV) (H2:AH) =>
∃ (n2:Int),
v1 = int i64 n2 ∧
bif decide (n2 ≥ (0:Int)) == true then
(X none).call 45 [ptr (some (p, 0)), int i64 3] H2 fun (v2:AV) (H3:AH) =>
∃ (b1:Bool),
v2 = bool b1 ∧
∃ (x6 : (Bool × List UInt8) × Bool),
∃ (_k3:Nat),
True ∧
[ptr (some (p, 0)), str t, bool x4.1, str x4.2, bool b1] = [ptr (some (p, 0)), str t, bool x6.1.1, str x6.1.2, bool x6.2] ∧ x5 x6 H3
else
∃ (x7 : (Bool × List UInt8) × Bool),
∃ (_k4:Nat),
True ∧ [ptr (some (p, 0)), str t, bool x4.1, str x4.2, bool false] = [ptr (some (p, 0)), str t, bool x7.1.1, str x7.1.2, bool x7.2] ∧ x5 x7 H2
else
∃ (x8 : (Bool × List UInt8) × Bool),
∃ (_k5:Nat),
True ∧ [ptr (some (p, 0)), str t, bool x4.1, str x4.2, bool false] = [ptr (some (p, 0)), str t, bool x8.1.1, str x8.1.2, bool x8.2] ∧ x5 x8 H1) ∧
∀ (x9 : (Bool × List UInt8) × Bool) (H4:AH),
x5 x9 H4 →
bif x9.2 then
((0:Int) ≤ (1:Int) ∧ (1:Int) < (↑t.length : Int)) ∧
(X none).call (44:Nat) [str [(32:UInt8), (98:UInt8), (105:UInt8), (117:UInt8), (115:UInt8)], int u8 (↑(t[(1:Nat)]?.getD (0:UInt8)).toNat : Int)] H4 fun (v3:AV) (H5:AH) =>
∃ (n3:Int),
v3 = int i64 n3 ∧
((0:Int) ≤ n3 ∧ n3 < (5:Int)) ∧
∃ (n4:Int),
(X none).rd1 H5 p (5 + n3.toNat * 1) = some (int i64 n4) ∧
((0:Int) ≤ n3 ∧ n3 < (5:Int)) ∧
[int i64 ((X none).wrap i64 (n4 + (1:Int)))].length = 1 ∧
∃ (H6:AH), (X none).wr H5 p (5 + n3.toNat * 1) [int i64 ((X none).wrap i64 (n4 + (1:Int)))] = some H6 ∧ Q (int i64 3) H6
else
∃ (x10 : Bool × Bool → AH → Prop),
(((decide ((↑t.length : Int) ≥ (4:Int)) == true) = true → (0:Int) ≤ (1:Int) ∧ (1:Int) < (↑t.length : Int)) ∧
(((decide ((↑t.length : Int) ≥ (4:Int)) && (↑(t[(1:Nat)]?.getD (0:UInt8)).toNat : Int) == (47:Int)) == true) = true → (0:Int) ≤ (3:Int) ∧ (3:Int) < (↑t.length : Int)) ∧
(((decide ((↑t.length : Int) ≥ (4:Int)) && (↑(t[(1:Nat)]?.getD (0:UInt8)).toNat : Int) == (47:Int) && (↑(t[(3:Nat)]?.getD (0:UInt8)).toNat : Int) == (62:Int)) == true) = true →
(0:Int) ≤ (2:Int) ∧ (2:Int) < (↑t.length : Int)) ∧
bif (decide ((↑t.length : Int) ≥ (4:Int)) && (↑(t[(1:Nat)]?.getD (0:UInt8)).toNat : Int) == (47:Int) && (↑(t[(3:Nat)]?.getD (0:UInt8)).toNat : Int) == (62:Int)) == true then
(X none).call (44:Nat) [str x9.1.2, int u8 (↑(t[(2:Nat)]?.getD (0:UInt8)).toNat : Int)] H4 fun (v4:AV) (H7:AH) =>
∃ (n5:Int),
v4 = int i64 n5 ∧
∃ (x11 : Bool × Bool),
∃ (_k6:Nat),
True ∧ [ptr (some (p, 0)), str t, bool x9.1.1, bool (decide (n5 ≥ (0:Int)))] = [ptr (some (p, 0)), str t, bool x11.1, bool x11.2] ∧ x10 x11 H7
else
∃ (x12 : Bool × Bool),
∃ (_k7:Nat), True ∧ [ptr (some (p, 0)), str t, bool x9.1.1, bool false] = [ptr (some (p, 0)), str t, bool x12.1, bool x12.2] ∧ x10 x12 H4) ∧
∀ (x13 : Bool × Bool) (H8:AH),
x10 x13 H8 →
bif x13.2 then
((0:Int) ≤ (2:Int) ∧ (2:Int) < (↑t.length : Int)) ∧
(X none).call (44:Nat) [str [(32:UInt8), (98:UInt8), (105:UInt8), (117:UInt8), (115:UInt8)], int u8 (↑(t[(2:Nat)]?.getD (0:UInt8)).toNat : Int)] H8 fun (v5:AV) (H9:AH) =>
∃ (n6:Int),
v5 = int i64 n6 ∧
∃ (x14 : Int × Bool → AH → Prop),
(((0:Int) ≤ n6 ∧ n6 < (5:Int)) ∧
∃ (n7:Int),
(X none).rd1 H9 p (5 + n6.toNat * 1) = some (int i64 n7) ∧
bif decide (n7 > (0:Int)) == true then
(X none).call 45 [ptr (some (p, 0)), int i64 4] H9 fun (v6:AV) (H10:AH) =>
∃ (b2:Bool),
v6 = bool b2 ∧
∃ (x15 : Int × Bool),
∃ (_k8:Nat), True ∧ [ptr (some (p, 0)), int i64 n6, bool b2] = [ptr (some (p, 0)), int i64 x15.1, bool x15.2] ∧ x14 x15 H10
else
∃ (x16 : Int × Bool),
∃ (_k9:Nat), True ∧ [ptr (some (p, 0)), int i64 n6, bool false] = [ptr (some (p, 0)), int i64 x16.1, bool x16.2] ∧ x14 x16 H9) ∧
∀ (x17 : Int × Bool) (H11:AH),
x14 x17 H11 →
bif x17.2 then
((0:Int) ≤ x17.1 ∧ x17.1 < (5:Int)) ∧
∃ (n8:Int),
(X none).rd1 H11 p (5 + x17.1.toNat * 1) = some (int i64 n8) ∧
((0:Int) ≤ x17.1 ∧ x17.1 < (5:Int)) ∧
[int i64 ((X none).wrap i64 (n8 - (1:Int)))].length = 1 ∧
∃ (H12:AH),
(X none).wr H11 p (5 + x17.1.toNat * 1) [int i64 ((X none).wrap i64 (n8 - (1:Int)))] = some H12 ∧ Q (int i64 4) H12
else Q (int i64 0) H11
else
∃ (x18 : List UInt8 × List UInt8 × List UInt8 → AH → Prop),
(bif x13.1 then
∃ (x19 : List UInt8 × List UInt8 × List UInt8),
∃ (_k10:Nat),
True ∧
[ptr (some (p, 0)), str t, str [(60:UInt8), (99:UInt8), (46:UInt8)], str [(62:UInt8)], str [(60:UInt8), (47:UInt8), (99:UInt8), (62:UInt8)]] =
[ptr (some (p, 0)), str t, str x19.1, str x19.2.1, str x19.2.2] ∧
x18 x19 H8
else
∃ (x20 : List UInt8 × List UInt8 × List UInt8),
∃ (_k11:Nat),
True ∧
[ptr (some (p, 0)), str t,
str
[(60:UInt8), (102:UInt8), (111:UInt8), (110:UInt8), (116:UInt8), (32:UInt8), (99:UInt8), (111:UInt8), (108:UInt8), (111:UInt8), (114:UInt8), (61:UInt8),
(34:UInt8), (35:UInt8)],
str [(34:UInt8), (62:UInt8)], str [(60:UInt8), (47:UInt8), (102:UInt8), (111:UInt8), (110:UInt8), (116:UInt8), (62:UInt8)]] =
[ptr (some (p, 0)), str t, str x20.1, str x20.2.1, str x20.2.2] ∧
x18 x20 H8) ∧
∀ (x21 : List UInt8 × List UInt8 × List UInt8) (H13:AH),
x18 x21 H13 →
(X none).call 43 [str t, str x21.1] H13 fun (v7:AV) (H14:AH) =>
∃ (s1 : List UInt8),
∃ (b3:Bool),
v7 = tuple [str s1, bool b3] ∧
bif b3 then
(X none).call 50 [str s1, bool false] H14 fun (v8:AV) (H15:AH) =>
∃ (n9:Int),
∃ (b4:Bool),
v8 = tuple [int i64 n9, bool b4] ∧
∃ (x22 : Int × Int × Bool → AH → Prop),
(((b4 == true) = true → (0:Int) ≤ (6:Int) ∧ (6:Int) ≤ (↑s1.length : Int) ∧ (↑s1.length : Int) ≤ (↑s1.length : Int)) ∧
bif b4 == true then
(X none).call (27:Nat) [str (List.take ((↑s1.length : Int) - (6:Int)).toNat (List.drop (6:Nat) s1)), str x21.2.1] H15 fun (v9:AV) (H16:AH) =>
∃ (b5:Bool),
v9 = bool b5 ∧
bif b5 == true then
(X none).call 45
[ptr (some (p, 0)),
int i64 ((X none).wrap i64 ((X none).wrap i64 ((↑x21.1.length : Int) + (6:Int)) + (↑x21.2.1.length : Int)))]
H16 fun (v10:AV) (H17:AH) =>
∃ (b6:Bool),
v10 = bool b6 ∧
∃ (x23 : Int × Int × Bool),
∃ (_k12:Nat),
True ∧
[ptr (some (p, 0)), int i64 n9,
int i64 ((X none).wrap i64 ((X none).wrap i64 ((↑x21.1.length : Int) + (6:Int)) + (↑x21.2.1.length : Int))),
bool b6] =
[ptr (some (p, 0)), int i64 x23.1, int i64 x23.2.1, bool x23.2.2] ∧
x22 x23 H17
else
∃ (x24 : Int × Int × Bool),
∃ (_k13:Nat),
True ∧
[ptr (some (p, 0)), int i64 n9,
int i64 ((X none).wrap i64 ((X none).wrap i64 ((↑x21.1.length : Int) + (6:Int)) + (↑x21.2.1.length : Int))),
bool false] =
[ptr (some (p, 0)), int i64 x24.1, int i64 x24.2.1, bool x24.2.2] ∧
x22 x24 H16
else
∃ (x25 : Int × Int × Bool),
∃ (_k14:Nat),
True ∧
[ptr (some (p, 0)), int i64 n9,
int i64 ((X none).wrap i64 ((X none).wrap i64 ((↑x21.1.length : Int) + (6:Int)) + (↑x21.2.1.length : Int))), bool false] =
[ptr (some (p, 0)), int i64 x25.1, int i64 x25.2.1, bool x25.2.2] ∧
x22 x25 H15) ∧
∀ (x26 : Int × Int × Bool) (H18:AH),
x22 x26 H18 →
bif x26.2.2 then
∃ (q1 : Option (Nat × Nat)),
∃ (k15 k16:Nat),
(X none).rd1 H18 p 10 = some (slice q1 k15 k16) ∧
(1 ≤ 16777216 ∧ 1 = 1 ∧ 0 < 1 ∧ true = true ∧ true = true) ∧
∃ (q2 : Option (Nat × Nat)),
∃ (k17 k18:Nat),
∃ (H19:AH),
(X none).app 58 58 (slice q1 k15 k16) (slice (some ((X none).n H18, 0)) 1 1)
((X none).al H18 (cells [int i64 x26.1] 3 { whole := true })) =
some (slice q2 k17 k18, H19) ∧
[slice q2 k17 k18].length = 1 ∧
∃ (H20:AH), (X none).wr H19 p 10 [slice q2 k17 k18] = some H20 ∧ Q (int i64 x26.2.1) H20
else Q (int i64 0) H18
else
∃ (x27 : List UInt8 × Bool → AH → Prop),
((X none).call 27 [str t, str x21.2.2] H14 fun (v11:AV) (H21:AH) =>
∃ (b7:Bool),
v11 = bool b7 ∧
∃ (q3 : Option (Nat × Nat)),
∃ (k19 k20:Nat),
(X none).rd1 H21 p 10 = some (slice q3 k19 k20) ∧
bif (b7 && decide ((↑k19 : Int) > (0:Int))) == true then
(X none).call (45:Nat) [ptr (some (p, (0:Nat))), int i64 (↑x21.2.2.length : Int)] H21 fun (v12:AV) (H22:AH) =>
∃ (b8:Bool),
v12 = bool b8 ∧
∃ (x28 : List UInt8 × Bool),
∃ (_k21:Nat),
True ∧ [ptr (some (p, 0)), str x21.2.2, bool b8] = [ptr (some (p, 0)), str x28.1, bool x28.2] ∧ x27 x28 H22
else
∃ (x29 : List UInt8 × Bool),
∃ (_k22:Nat),
True ∧ [ptr (some (p, 0)), str x21.2.2, bool false] = [ptr (some (p, 0)), str x29.1, bool x29.2] ∧ x27 x29 H21) ∧
∀ (x30 : List UInt8 × Bool) (H23:AH),
x27 x30 H23 →
bif x30.2 then
∃ (q4 : Option (Nat × Nat)),
∃ (k23 k24:Nat),
(X none).rd1 H23 p 10 = some (slice q4 k23 k24) ∧
∃ (q5 : Option (Nat × Nat)),
∃ (k25 k26:Nat),
(X none).rd1 H23 p 10 = some (slice q5 k25 k26) ∧
∃ (q6 : Option (Nat × Nat)),
∃ (k27 k28:Nat),
(X none).slc (58:Nat) (slice q4 k23 k24) none (some (int i64 ((X none).wrap i64 ((↑k25 : Int) - (1:Int))))) none H23 =
some (slice q6 k27 k28) ∧
[slice q6 k27 k28].length = 1 ∧
∃ (H24:AH), (X none).wr H23 p (10:Nat) [slice q6 k27 k28] = some H24 ∧ Q (int i64 (↑x30.1.length : Int)) H24
else Q (int i64 0) H23) := by kernel_rfl



end Go.Proofs.YtlkdhhkncoekgaaDoor
