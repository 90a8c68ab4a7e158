/- What functions ask: plain texts. -/
import Derived.Test.YtlkdhhkncoekgaaDoorAmTri
import Derived.Test.YtlkdhhkncoekgaaDoorTabs
namespace Go.Proofs.YtlkdhhkncoekgaaDoor
open Go.Am Go
open _root_.Go.Am.AV (int slice ptr str bool agg tuple)
open _root_.Go.IntKind (i64 i32 u8 u64)
open _root_.Go.Am.AObj (cells)

theorem signOf_vc (X : Option Nat → Atoms) (It : FuncId → List AV → List AV → (AH → Prop) → List (List AV) → Prop) (s : List UInt8) (H:AH) (Q : AV → AH → Prop) (xs : List (Int × Int × Int × Bool)) (cap : AV → AH → Prop) (I : Nat → List Nat → AH → Prop) (S : AEx → List Nat → AH → Prop) : (vcG X It Tryd.prog [] [⟨2, AV, Int × Int × Int × Bool, 77, fun z => ([], [z]), fun x => [.agg [.int .i64 x.1, .int .i64 x.2.1, .int .i32 x.2.2.1, .bool x.2.2.2]], fun _ => xs, cap, fun _ => I, [.ret], fun _ => S⟩] 29 [.str s] H Q) =
(true = true ∧
∃ (s1 : List UInt8),
(X none).rd1 ((X none).al ((X none).al H (cells [str s] 9 { whole := true })) (cells [str []] 9 { whole := true })) ((X none).n H) 0 = some (str s1) ∧
(X none).call 54 [str s1] ((X none).al ((X none).al H (cells [str s] 9 { whole := true })) (cells [str []] 9 { whole := true })) fun (v1:AV) (H1:AH) =>
∃ (v2:AV),
v1 = v2 ∧
∃ (v3:AV),
v2 = AV.func (Fn.func (nat_lit 77)) [] [v3] ∧
It (nat_lit 77) [] [v3] (fun (H2:AH) => cap v3 H2)
(List.map (fun (x : Int × Int × Int × Bool) => [agg [int i64 x.1, int i64 x.2.1, int i32 x.2.2.1, bool x.2.2.2]]) xs) ∧
(RClosed (fun (k1:Nat) (cs1 : List Nat) (H3:AH) => I k1 cs1 H3) (fun (x1:AEx) (cs2 : List Nat) (H4:AH) => S x1 cs2 H4) fun (H5:AH) => cap v3 H5) ∧
(∀ (x2 : Int × Int × Int × Bool), [agg [int i64 x2.1, int i64 x2.2.1, int i32 x2.2.2.1, bool x2.2.2.2]].length = 1) ∧
(∀ (H6:AH), RBegin H1 H6 → I 0 [(X none).n H1 + 1, (X none).n H1] H6) ∧
(∀ (k2:Nat) (cs3 : List Nat) (H7:AH) (x3 : Int × Int × Int × Bool),
xs[k2]? = some x3 →
I k2 cs3 H7 →
AllLt cs3 H7 →
InW ((X none).n H1 + 1) cs3 →
[int i64 x3.1, int i64 x3.2.1, int i32 x3.2.2.1, bool x3.2.2.2].length = 4 ∧
∃ (H8:AH),
(X (some ((X none).n H1 + 1))).wr
((X (some ((X none).n H1 + 1))).al H7 (cells [int i64 0, int i64 0, int i32 (0:Int), bool false] 77 { whole := true }))
((X (some ((X none).n H1 + 1))).n H7) 0 [int i64 x3.1, int i64 x3.2.1, int i32 x3.2.2.1, bool x3.2.2.2] =
some H8 ∧
Still cs3 H7 H7 H8 ∧
∀ (H9:AH),
But ((X none).n H1 + 1) H8 H9 →
∃ (s2 : List UInt8),
(X (some ((X none).n H1 + 1))).rd1 H9 ((X none).n H) 0 = some (str s2) ∧
∃ (n1:Int),
(X (some ((X none).n H1 + 1))).rd1 H9 ((X (some ((X none).n H1 + 1))).n H7) 1 = some (int i64 n1) ∧
((0:Int) ≤ (0:Int) ∧ (0:Int) ≤ n1 ∧ n1 ≤ (↑s2.length : Int)) ∧
[str (List.take (n1 - (0:Int)).toNat s2)].length = 1 ∧
∃ (H10:AH),
(X (some ((X none).n H1 + 1))).wr H9 ((X none).n ((X none).al H (cells [str s] 9 { whole := true }))) 0
[str (List.take (n1 - (0:Int)).toNat s2)] =
some H10 ∧
Still cs3 H7 H9 H10 ∧ ∀ (H11:AH), But ((X none).n H1 + 1) H10 H11 → S AEx.ret cs3 H11) ∧
(∀ (cs4 : List Nat) (H12 H13 : AH),
I xs.length cs4 H12 →
But ((X none).n H1 + 1) H12 H13 →
Dfr ((X none).n H1) H13 →
1 = 1 ∧
∃ (H14:AH),
(X none).wr H13 ((X none).n ((X none).al H (cells [str s] 9 { whole := true }))) 0 [str []] = some H14 ∧
∃ (H15:AH),
(X none).tm [Mk.mark ((X none).n H1)] H14 = some H15 ∧
∃ (s3 : List UInt8), (X none).rd1 H15 ((X none).n ((X none).al H (cells [str s] 9 { whole := true }))) 0 = some (str s3) ∧ Q (str s3) H15) ∧
∀ (cs5 : List Nat) (H16 H17 : AH),
S AEx.ret cs5 H16 →
But ((X none).n H1 + 1) H16 H17 →
Dfr ((X none).n H1) H17 →
∃ (H18:AH),
(X none).tm [Mk.mark ((X none).n H1)] H17 = some H18 ∧
∃ (s4 : List UInt8), (X none).rd1 H18 ((X none).n ((X none).al H (cells [str s] 9 { whole := true }))) 0 = some (str s4) ∧ Q (str s4) H18) := by kernel_rfl

theorem dialects_vc (X:Atoms) (d:Int) (H:AH) (Q : AV → AH → Prop) : (vcF X Tryd.prog [] 11 [.int .i64 d] H Q) =
(Q (bool (decide (d ≥ (1:Int)) && decide (d ≤ (4:Int)))) H) := by kernel_rfl

theorem runeLen_vc (X:Atoms) (c:Int) (H:AH) (Q : AV → AH → Prop) : (vcF X Tryd.prog [] 78 [.int .i32 c] H Q) =
(bif decide (c < (0:Int)) then Q (int i64 (-1 : Int)) H
else
bif decide (c ≤ (127:Int)) then Q (int i64 1) H
else
bif decide (c ≤ (2047:Int)) then Q (int i64 2) H
else
bif decide ((55296:Int) ≤ c) && decide (c ≤ (57343:Int)) then Q (int i64 (-1 : Int)) H
else bif decide (c ≤ (65535:Int)) then Q (int i64 3) H else bif decide (c ≤ (1114111:Int)) then Q (int i64 4) H else Q (int i64 (-1 : Int)) H) := by kernel_rfl

theorem sHasPrefix_vc (X:Atoms) (s t : List UInt8) (H:AH) (Q : AV → AH → Prop) : (vcF X Tryd.prog [] 53 [.str s, .str t] H Q) =
(((decide ((↑s.length : Int) ≥ (↑t.length : Int)) == true) = true → (0:Int) ≤ (0:Int) ∧ (0:Int) ≤ (↑t.length : Int) ∧ (↑t.length : Int) ≤ (↑s.length : Int)) ∧
Q (bool (decide ((↑s.length : Int) ≥ (↑t.length : Int)) && List.take ((↑t.length : Int) - (0:Int)).toNat s == t)) H) := by kernel_rfl

theorem HasPrefix_vc (X:Atoms) (s t : List UInt8) (H:AH) (Q : AV → AH → Prop) : (vcF X Tryd.prog [] 27 [.str s, .str t] H Q) =
(X.call 53 [str s, str t] H fun (v1:AV) (H1:AH) => ∃ (b1:Bool), v1 = bool b1 ∧ Q (bool b1) H1) := by kernel_rfl

theorem sCutPrefix_vc (X:Atoms) (s t : List UInt8) (H:AH) (Q : AV → AH → Prop) : (vcF X Tryd.prog [] 72 [.str s, .str t] H Q) =
(X.call 53 [str s, str t] H fun (v1:AV) (H1:AH) =>
∃ (b1:Bool),
v1 = bool b1 ∧
bif !b1 then Q (tuple [str s, bool false]) H1
else
((0:Int) ≤ (↑t.length : Int) ∧ (↑t.length : Int) ≤ (↑s.length : Int) ∧ (↑s.length : Int) ≤ (↑s.length : Int)) ∧
Q (tuple [str (List.take ((↑s.length : Int) - (↑t.length : Int)).toNat (List.drop (↑t.length : Int).toNat s)), bool true]) H1) := by kernel_rfl

theorem CutPrefix_vc (X:Atoms) (s t : List UInt8) (H:AH) (Q : AV → AH → Prop) : (vcF X Tryd.prog [] 43 [.str s, .str t] H Q) =
(X.call 72 [str s, str t] H fun (v1:AV) (H1:AH) => ∃ (s1 : List UInt8), ∃ (b1:Bool), v1 = tuple [str s1, bool b1] ∧ Q (tuple [str s1, bool b1]) H1) := by kernel_rfl

theorem sIndexByte_vc (X:Atoms) (s : List UInt8) (c:Int) (H:AH) (Q : AV → AH → Prop) : (vcF X Tryd.prog [] 73 [.str s, .int .u8 c] H Q) =
(X.call 89 [str s, int u8 c] H fun (v1:AV) (H1:AH) => ∃ (n1:Int), v1 = int i64 n1 ∧ Q (int i64 n1) H1) := by kernel_rfl

theorem IndexByte_vc (X:Atoms) (s : List UInt8) (c:Int) (H:AH) (Q : AV → AH → Prop) : (vcF X Tryd.prog [] 44 [.str s, .int .u8 c] H Q) =
(X.call 73 [str s, int u8 c] H fun (v1:AV) (H1:AH) => ∃ (n1:Int), v1 = int i64 n1 ∧ Q (int i64 n1) H1) := by kernel_rfl

theorem value_vc (X:Atoms) (b i u k : Bool) (c n : Int) (H:AH) (Q : AV → AH → Prop) : (vcF X Tryd.prog [] 110 [.agg [.bool b, .bool i, .bool u, .bool k, .int .i64 c], .int .i64 n] H Q) =
(true = true ∧
∃ (b1:Bool),
X.rd1 (X.al H (cells [bool b, bool i, bool u, bool k, int i64 c] 53 { whole := true })) (X.n H) 0 = some (bool b1) ∧
bif n == (1:Int) && b1 then
bif n == (1:Int) && b1 then Q (int i64 1) (X.al H (cells [bool b, bool i, bool u, bool k, int i64 c] 53 { whole := true }))
else
bif n == (5:Int) then
∃ (n1:Int),
X.rd1 (X.al H (cells [bool b, bool i, bool u, bool k, int i64 c] 53 { whole := true })) (X.n H) 4 = some (int i64 n1) ∧
Q (int i64 n1) (X.al H (cells [bool b, bool i, bool u, bool k, int i64 c] 53 { whole := true }))
else Q (int i64 0) (X.al H (cells [bool b, bool i, bool u, bool k, int i64 c] 53 { whole := true }))
else
∃ (b2:Bool),
X.rd1 (X.al H (cells [bool b, bool i, bool u, bool k, int i64 c] 53 { whole := true })) (X.n H) 1 = some (bool b2) ∧
bif n == (2:Int) && b2 then
bif n == (2:Int) && b2 then Q (int i64 1) (X.al H (cells [bool b, bool i, bool u, bool k, int i64 c] 53 { whole := true }))
else
bif n == (5:Int) then
∃ (n2:Int),
X.rd1 (X.al H (cells [bool b, bool i, bool u, bool k, int i64 c] 53 { whole := true })) (X.n H) 4 = some (int i64 n2) ∧
Q (int i64 n2) (X.al H (cells [bool b, bool i, bool u, bool k, int i64 c] 53 { whole := true }))
else Q (int i64 0) (X.al H (cells [bool b, bool i, bool u, bool k, int i64 c] 53 { whole := true }))
else
∃ (b3:Bool),
X.rd1 (X.al H (cells [bool b, bool i, bool u, bool k, int i64 c] 53 { whole := true })) (X.n H) 2 = some (bool b3) ∧
bif n == (3:Int) && b3 then
bif n == (3:Int) && b3 then Q (int i64 1) (X.al H (cells [bool b, bool i, bool u, bool k, int i64 c] 53 { whole := true }))
else
bif n == (5:Int) then
∃ (n3:Int),
X.rd1 (X.al H (cells [bool b, bool i, bool u, bool k, int i64 c] 53 { whole := true })) (X.n H) 4 = some (int i64 n3) ∧
Q (int i64 n3) (X.al H (cells [bool b, bool i, bool u, bool k, int i64 c] 53 { whole := true }))
else Q (int i64 0) (X.al H (cells [bool b, bool i, bool u, bool k, int i64 c] 53 { whole := true }))
else
∃ (b4:Bool),
X.rd1 (X.al H (cells [bool b, bool i, bool u, bool k, int i64 c] 53 { whole := true })) (X.n H) 3 = some (bool b4) ∧
bif n == (4:Int) && b4 then Q (int i64 1) (X.al H (cells [bool b, bool i, bool u, bool k, int i64 c] 53 { whole := true }))
else
bif n == (5:Int) then
∃ (n4:Int),
X.rd1 (X.al H (cells [bool b, bool i, bool u, bool k, int i64 c] 53 { whole := true })) (X.n H) 4 = some (int i64 n4) ∧
Q (int i64 n4) (X.al H (cells [bool b, bool i, bool u, bool k, int i64 c] 53 { whole := true }))
else Q (int i64 0) (X.al H (cells [bool b, bool i, bool u, bool k, int i64 c] 53 { whole := true }))) := by kernel_rfl

theorem Count_vc (X:Atoms) (s : List UInt8) (H:AH) (Q : AV → AH → Prop) (I : Int → AH → Nat → Prop) : (vcF X Tryd.prog [⟨3, Int, [3, 5], fun i => [.int .i64 i, .ptr (some (X.n H, 0))], I⟩] 62 [.str s] H Q) =
((∃ (n1:Int), ∃ (k1:Nat), [int i64 0, ptr (some (X.n H, 0))] = [int i64 n1, ptr (some (X.n H, 0))] ∧ I n1 (X.al H (AObj.iter s 0)) k1) ∧
∀ (n2:Int) (H1:AH) (k2:Nat),
I n2 H1 k2 →
∃ (s1 : List UInt8),
∃ (k3:Nat),
X.get H1 (X.n H) = some (AObj.iter s1 k3) ∧
(k3 < s1.length →
∃ (n3:Int),
∃ (k4:Nat),
k4 < k2 ∧
[int i64 (X.wrap i64 (n2 + (1:Int))), ptr (some (X.n H, 0))] = [int i64 n3, ptr (some (X.n H, 0))] ∧
I n3 (X.set H1 (X.n H) (AObj.iter s1 (k3 + (decodeL s1 k3).2))) k4) ∧
(¬k3 < s1.length → Q (int i64 n2) H1)) := by kernel_rfl

theorem Signs_vc (X:Atoms) (s : List UInt8) (H:AH) (Q : AV → AH → Prop) : (vcF X Tryd.prog [] 54 [.str s] H Q) =
(true = true ∧ Q (AV.func (Fn.func 77) [] [ptr (some (X.n H, 0))]) (X.al H (cells [str s] 9 { whole := true }))) := by kernel_rfl

theorem now_vc (X:Atoms) (p:Nat) (H:AH) (Q : AV → AH → Prop) : (vcF X Tryd.prog [] 51 [.ptr (some (p, 0))] H Q) =
(∃ (b1 b2 b3 b4:Bool),
∃ (n1:Int),
X.rdn (X.al H (cells [bool false, bool false, bool false, bool false, int i64 0] 53 { whole := true })) p 11 5 =
some [bool b1, bool b2, bool b3, bool b4, int i64 n1] ∧
[bool b1, bool b2, bool b3, bool b4, int i64 n1].length = 5 ∧
∃ (H1:AH),
X.wr
(X.al (X.al H (cells [bool false, bool false, bool false, bool false, int i64 0] 53 { whole := true }))
(cells [bool false, bool false, bool false, bool false, int i64 0] 53 { whole := true }))
(X.n (X.al H (cells [bool false, bool false, bool false, bool false, int i64 0] 53 { whole := true }))) 0
[bool b1, bool b2, bool b3, bool b4, int i64 n1] =
some H1 ∧
∃ (n2:Int),
X.rd1 H1 p 0 = some (int i64 n2) ∧
∃ (n3:Int),
X.rd1 H1 p 0 = some (int i64 n3) ∧
bif n2 == (1:Int) || n3 == (2:Int) then
((0:Int) ≤ (1:Int) ∧ (1:Int) < (5:Int)) ∧
∃ (n4:Int),
X.rd1 H1 p 6 = some (int i64 n4) ∧
((0:Int) ≤ (2:Int) ∧ (2:Int) < (5:Int)) ∧
∃ (n5:Int),
X.rd1 H1 p 7 = some (int i64 n5) ∧
((0:Int) ≤ (3:Int) ∧ (3:Int) < (5:Int)) ∧
∃ (n6:Int),
X.rd1 H1 p 8 = some (int i64 n6) ∧
((0:Int) ≤ (4:Int) ∧ (4:Int) < (5:Int)) ∧
∃ (n7:Int),
X.rd1 H1 p 9 = some (int i64 n7) ∧
[bool (decide (n4 > (0:Int))), bool (decide (n5 > (0:Int))), bool (decide (n6 > (0:Int))), bool (decide (n7 > (0:Int))), int i64 0].length =
5 ∧
∃ (H2:AH),
X.wr H1 (X.n (X.al H (cells [bool false, bool false, bool false, bool false, int i64 0] 53 { whole := true }))) 0
[bool (decide (n4 > (0:Int))), bool (decide (n5 > (0:Int))), bool (decide (n6 > (0:Int))), bool (decide (n7 > (0:Int))), int i64 0] =
some H2 ∧
∃ (q1 : Option (Nat × Nat)),
∃ (k1 k2:Nat),
X.rd1 H2 p 10 = some (slice q1 k1 k2) ∧
bif decide ((↑k1 : Int) > (0:Int)) then
∃ (q2 : Option (Nat × Nat)),
∃ (k3 k4:Nat),
X.rd1 H2 p 10 = some (slice q2 k3 k4) ∧
∃ (k5 k6:Nat),
(q2 = some (k5, k6) ∧ (0:Int) ≤ X.wrap i64 ((↑k1 : Int) - (1:Int)) ∧ X.wrap i64 ((↑k1 : Int) - (1:Int)) < (↑k3 : Int)) ∧
∃ (n8:Int),
X.rd1 H2 k5 (k6 + (X.wrap i64 ((↑k1 : Int) - (1:Int))).toNat * (1:Nat)) = some (int i64 n8) ∧
[int i64 n8].length = 1 ∧
∃ (H3:AH),
X.wr H2
(X.n
(X.al H (cells [bool false, bool false, bool false, bool false, int i64 0] 53 { whole := true })))
4 [int i64 n8] =
some H3 ∧
∃ (b5 b6 b7 b8:Bool),
∃ (n9:Int),
X.rdn H3
(X.n
(X.al H
(cells [bool false, bool false, bool false, bool false, int i64 0] 53
{ whole := true })))
0 5 =
some [bool b5, bool b6, bool b7, bool b8, int i64 n9] ∧
[bool b5, bool b6, bool b7, bool b8, int i64 n9].length = 5 ∧
∃ (H4:AH),
X.wr H3 (X.n H) 0 [bool b5, bool b6, bool b7, bool b8, int i64 n9] = some H4 ∧
∃ (b9 b10 b11 b12:Bool),
∃ (n10:Int),
X.rdn H4 (X.n H) 0 5 =
some [bool b9, bool b10, bool b11, bool b12, int i64 n10] ∧
Q (agg [bool b9, bool b10, bool b11, bool b12, int i64 n10]) H4
else
∃ (b13 b14 b15 b16:Bool),
∃ (n11:Int),
X.rdn H2 (X.n (X.al H (cells [bool false, bool false, bool false, bool false, int i64 0] 53 { whole := true })))
0 5 =
some [bool b13, bool b14, bool b15, bool b16, int i64 n11] ∧
[bool b13, bool b14, bool b15, bool b16, int i64 n11].length = 5 ∧
∃ (H5:AH),
X.wr H2 (X.n H) 0 [bool b13, bool b14, bool b15, bool b16, int i64 n11] = some H5 ∧
∃ (b17 b18 b19 b20:Bool),
∃ (n12:Int),
X.rdn H5 (X.n H) 0 5 = some [bool b17, bool b18, bool b19, bool b20, int i64 n12] ∧
Q (agg [bool b17, bool b18, bool b19, bool b20, int i64 n12]) H5
else
∃ (b21 b22 b23 b24:Bool),
∃ (n13:Int),
X.rdn H1 (X.n (X.al H (cells [bool false, bool false, bool false, bool false, int i64 0] 53 { whole := true }))) 0 5 =
some [bool b21, bool b22, bool b23, bool b24, int i64 n13] ∧
[bool b21, bool b22, bool b23, bool b24, int i64 n13].length = 5 ∧
∃ (H6:AH),
X.wr H1 (X.n H) 0 [bool b21, bool b22, bool b23, bool b24, int i64 n13] = some H6 ∧
∃ (b25 b26 b27 b28:Bool),
∃ (n14:Int),
X.rdn H6 (X.n H) 0 5 = some [bool b25, bool b26, bool b27, bool b28, int i64 n14] ∧
Q (agg [bool b25, bool b26, bool b27, bool b28, int i64 n14]) H6) := by kernel_rfl

theorem put_vc (X:Atoms) (p:Nat) (s : List UInt8) (H:AH) (Q : AV → AH → Prop) : (vcF X Tryd.prog [] 25 [.ptr (some (p, 0)), .str s] H Q) =
(∃ (q1 : Option (Nat × Nat)),
∃ (k1 k2:Nat),
X.rd1 H p 4 = some (slice q1 k1 k2) ∧
X.call 51 [ptr (some (p, 0))] H fun (v1:AV) (H1:AH) =>
∃ (b1 b2 b3 b4:Bool),
∃ (n1:Int),
v1 = agg [bool b1, bool b2, bool b3, bool b4, int i64 n1] ∧
(∃ (q2 : Option (Nat × Nat)), ∃ (k3:Nat), ∃ (k4:Nat), X.rd1 H1 p 4 = some (slice q2 k3 k4) ∧ slice q2 k3 k4 = slice q1 k1 k2) ∧
(6 ≤ 16777216 ∧ 6 = 6 ∧ 0 < 6 ∧ true = true ∧ true = true) ∧
(∃ (q3 : Option (Nat × Nat)),
∃ (k5 k6:Nat),
X.rd1 (X.al H1 (cells [str s, bool b1, bool b2, bool b3, bool b4, int i64 n1] 79 { whole := true })) p 4 = some (slice q3 k5 k6) ∧
slice q3 k5 k6 = slice q1 k1 k2) ∧
∃ (q4 : Option (Nat × Nat)),
∃ (k7 k8:Nat),
∃ (H2:AH),
X.app 56 56 (slice q1 k1 k2) (slice (some (X.n H1, 0)) 1 1)
(X.al H1 (cells [str s, bool b1, bool b2, bool b3, bool b4, int i64 n1] 79 { whole := true })) =
some (slice q4 k7 k8, H2) ∧
[slice q4 k7 k8].length = 1 ∧
∃ (H3:AH),
X.wr H2 p 4 [slice q4 k7 k8] = some H3 ∧
∃ (q5 : Option (Nat × Nat)),
∃ (k9 k10:Nat),
X.rd1 H3 p 3 = some (slice q5 k9 k10) ∧
∃ (q6 : Option (Nat × Nat)),
∃ (k11 k12:Nat),
∃ (H4:AH),
X.app 39 9 (slice q5 k9 k10) (str s) H3 = some (slice q6 k11 k12, H4) ∧
[slice q6 k11 k12].length = 1 ∧ ∃ (H5:AH), X.wr H4 p 3 [slice q6 k11 k12] = some H5 ∧ Q (tuple []) H5) := by kernel_rfl

theorem text_vc (X:Atoms) (s : List UInt8) (q : Option (Nat × Nat)) (k:Nat) (H:AH) (Q : AV → AH → Prop) : (vcF X Tryd.prog [] 79 [.str s, .slice q k k] H Q) =
(X.call 93 [slice q k k] (X.al H (cells [str [], slice none 0 0] 26 { whole := true })) fun (v1:AV) (H1:AH) =>
∃ (q1 : Option (Nat × Nat)),
∃ (k1 k2:Nat),
v1 = slice q1 k1 k2 ∧
bif decide ((↑k1 : Int) > (256:Int)) then
[str [], slice none 0 0].length = 2 ∧
∃ (H2:AH),
X.wr H1 (X.n H) 0 [str [], slice none 0 0] = some H2 ∧
∃ (s1 : List UInt8),
∃ (q2 : Option (Nat × Nat)), ∃ (k3:Nat), ∃ (k4:Nat), X.rdn H2 (X.n H) 0 2 = some [str s1, slice q2 k3 k4] ∧ Q (tuple [agg [str s1, slice q2 k3 k4], int i64 2]) H2
else
[str s, slice q1 k1 k2].length = 2 ∧
∃ (H3:AH),
X.wr H1 (X.n H) 0 [str s, slice q1 k1 k2] = some H3 ∧
∃ (s2 : List UInt8),
∃ (q3 : Option (Nat × Nat)), ∃ (k5:Nat), ∃ (k6:Nat), X.rdn H3 (X.n H) 0 2 = some [str s2, slice q3 k5 k6] ∧ Q (tuple [agg [str s2, slice q3 k5 k6], int i64 0]) H3) := by kernel_rfl

theorem laid_vc (X:Atoms) (q : Option (Nat × Nat)) (k:Nat) (H:AH) (Q : AV → AH → Prop) (I1 : Int × Option (Nat × Nat) × Nat → AH → Nat → Prop) (I2 : Int × (Option (Nat × Nat) × Nat) × (Option (Nat × Nat) × Nat) → AH → Nat → Prop) : (vcF X Tryd.prog [⟨3, Int × Option (Nat × Nat) × Nat, [0, 2, 3, 4, 11, 12, 13], fun x => [.slice q k k, .ptr (some (X.n H, 0)), .int .i64 0, .slice x.2.1 x.2.2 x.2.2, .slice q k k, .int .i64 k, .int .i64 x.1], I1⟩, ⟨11, Int × (Option (Nat × Nat) × Nat) × (Option (Nat × Nat) × Nat), [2, 3, 4, 7, 30, 31, 32], fun x => [.ptr (some (X.n H, 0)), .int .i64 0, .slice x.2.1.1 x.2.1.2 x.2.1.2, .slice x.2.2.1 x.2.2.2 x.2.2.2, .slice q k k, .int .i64 k, .int .i64 x.1], I2⟩] 30 [.slice q k k] H Q) =
((∃ (x1 : Int × Option (Nat × Nat) × Nat),
∃ (k1:Nat),
[slice q k k, ptr (some (X.n H, (0:Nat))), int i64 0, slice none (0:Nat) (0:Nat), slice q k k, int i64 (↑k : Int), int i64 0] =
[slice q k k, ptr (some (X.n H, (0:Nat))), int i64 0, slice x1.2.1 x1.2.2 x1.2.2, slice q k k, int i64 (↑k : Int), int i64 x1.1] ∧
I1 x1 (X.al H (cells [str [], slice none 0 0] 26 { whole := true })) k1) ∧
∀ (x2 : Int × Option (Nat × Nat) × Nat) (H1:AH) (k2:Nat),
I1 x2 H1 k2 →
bif decide (x2.1 < (↑k : Int)) then
∃ (k3 k4:Nat),
(q = some (k3, k4) ∧ (0:Int) ≤ x2.1 ∧ x2.1 < (↑k : Int)) ∧
∃ (s1 : List UInt8),
∃ (b1 b2 b3 b4:Bool),
∃ (n1:Int),
X.rdn H1 k3 (k4 + x2.1.toNat * 6) 6 = some [str s1, bool b1, bool b2, bool b3, bool b4, int i64 n1] ∧
[str s1, bool b1, bool b2, bool b3, bool b4, int i64 n1].length = 6 ∧
∃ (H2:AH),
X.wr (X.al H1 (cells [str [], bool false, bool false, bool false, bool false, int i64 0] 79 { whole := true })) (X.n H1) 0
[str s1, bool b1, bool b2, bool b3, bool b4, int i64 n1] =
some H2 ∧
∃ (s2 : List UInt8),
X.rd1 H2 (X.n H1) 0 = some (str s2) ∧
bif decide (X.wrap i64 ((↑x2.2.2 : Int) + (↑s2.length : Int)) > (4096:Int)) then
[str [], slice none 0 0].length = 2 ∧
∃ (H3:AH),
X.wr H2 (X.n H) 0 [str [], slice none 0 0] = some H3 ∧
∃ (s3 : List UInt8),
∃ (q1 : Option (Nat × Nat)),
∃ (k5:Nat), ∃ (k6:Nat), X.rdn H3 (X.n H) 0 2 = some [str s3, slice q1 k5 k6] ∧ Q (tuple [agg [str s3, slice q1 k5 k6], int i64 3]) H3
else
∃ (s4 : List UInt8),
X.rd1 H2 (X.n H1) 0 = some (str s4) ∧
∃ (q2 : Option (Nat × Nat)),
∃ (k7 k8:Nat),
∃ (H4:AH),
X.app 39 9 (slice x2.2.1 x2.2.2 x2.2.2) (str s4) H2 = some (slice q2 k7 k8, H4) ∧
∃ (x3 : Int × Option (Nat × Nat) × Nat),
∃ (k9:Nat),
k9 < k2 ∧
[slice q k k, ptr (some (X.n H, (0:Nat))), int i64 0, slice q2 k7 k8, slice q k k, int i64 (↑k : Int),
int i64 (X.wrap i64 (x2.1 + (1:Int)))] =
[slice q k k, ptr (some (X.n H, (0:Nat))), int i64 0, slice x3.2.1 x3.2.2 x3.2.2, slice q k k, int i64 (↑k : Int),
int i64 x3.1] ∧
I1 x3 H4 k9
else
(∃ (x4 : Int × (Option (Nat × Nat) × Nat) × Option (Nat × Nat) × Nat),
∃ (k10:Nat),
[ptr (some (X.n H, (0:Nat))), int i64 0, slice x2.2.1 x2.2.2 x2.2.2, slice none (0:Nat) (0:Nat), slice q k k, int i64 (↑k : Int), int i64 0] =
[ptr (some (X.n H, (0:Nat))), int i64 0, slice x4.2.1.1 x4.2.1.2 x4.2.1.2, slice x4.2.2.1 x4.2.2.2 x4.2.2.2, slice q k k, int i64 (↑k : Int),
int i64 x4.1] ∧
I2 x4 H1 k10) ∧
∀ (x5 : Int × (Option (Nat × Nat) × Nat) × Option (Nat × Nat) × Nat) (H5:AH) (k11:Nat),
I2 x5 H5 k11 →
bif decide (x5.1 < (↑k : Int)) then
∃ (k12 k13:Nat),
(q = some (k12, k13) ∧ (0:Int) ≤ x5.1 ∧ x5.1 < (↑k : Int)) ∧
∃ (s5 : List UInt8),
∃ (b5 b6 b7 b8:Bool),
∃ (n2:Int),
X.rdn H5 k12 (k13 + x5.1.toNat * 6) 6 = some [str s5, bool b5, bool b6, bool b7, bool b8, int i64 n2] ∧
[str s5, bool b5, bool b6, bool b7, bool b8, int i64 n2].length = 6 ∧
∃ (H6:AH),
X.wr (X.al H5 (cells [str [], bool false, bool false, bool false, bool false, int i64 0] 79 { whole := true })) (X.n H5) 0
[str s5, bool b5, bool b6, bool b7, bool b8, int i64 n2] =
some H6 ∧
bif decide ((↑x5.2.2.2 : Int) > (0:Int)) == true then
∃ (k14 k15:Nat),
(x5.2.2.1 = some (k14, k15) ∧ (0:Int) ≤ X.wrap i64 ((↑x5.2.2.2 : Int) - (1:Int)) ∧ X.wrap i64 ((↑x5.2.2.2 : Int) - (1:Int)) < (↑x5.2.2.2 : Int)) ∧
∃ (b9 b10 b11 b12:Bool),
∃ (n3:Int),
X.rdn H6 k14 (k15 + (X.wrap i64 ((↑x5.2.2.2 : Int) - (1:Int))).toNat * (7:Nat) + (2:Nat)) (5:Nat) =
some [bool b9, bool b10, bool b11, bool b12, int i64 n3] ∧
∃ (b13 b14 b15 b16:Bool),
∃ (n4:Int),
X.rdn H6 (X.n H5) 1 5 = some [bool b13, bool b14, bool b15, bool b16, int i64 n4] ∧
bif b9 == b13 && (b10 == b14 && (b11 == b15 && (b12 == b16 && (n3 == n4 && true)))) then
∃ (k16 k17:Nat),
(x5.2.2.1 = some (k16, k17) ∧
(0:Int) ≤ X.wrap i64 ((↑x5.2.2.2 : Int) - (1:Int)) ∧ X.wrap i64 ((↑x5.2.2.2 : Int) - (1:Int)) < (↑x5.2.2.2 : Int)) ∧
∃ (n5:Int),
X.rd1 H6 k16 (k17 + (X.wrap i64 ((↑x5.2.2.2 : Int) - (1:Int))).toNat * (7:Nat) + (1:Nat)) = some (int i64 n5) ∧
∃ (k18 k19:Nat),
(x5.2.2.1 = some (k18, k19) ∧
(0:Int) ≤ X.wrap i64 ((↑x5.2.2.2 : Int) - (1:Int)) ∧
X.wrap i64 ((↑x5.2.2.2 : Int) - (1:Int)) < (↑x5.2.2.2 : Int)) ∧
[int i64 (X.wrap i64 (n5 + (1:Int)))].length = 1 ∧
∃ (H7:AH),
X.wr H6 k18 (k19 + (X.wrap i64 ((↑x5.2.2.2 : Int) - (1:Int))).toNat * (7:Nat) + (1:Nat))
[int i64 (X.wrap i64 (n5 + (1:Int)))] =
some H7 ∧
∃ (x6 : Int × (Option (Nat × Nat) × Nat) × Option (Nat × Nat) × Nat),
∃ (k20:Nat),
k20 < k11 ∧
[ptr (some (X.n H, 0)), int i64 0, slice x5.2.1.1 x5.2.1.2 x5.2.1.2,
slice x5.2.2.1 x5.2.2.2 x5.2.2.2, slice q k k, int i64 (↑k : Int),
int i64 (X.wrap i64 (x5.1 + (1:Int)))] =
[ptr (some (X.n H, 0)), int i64 0, slice x6.2.1.1 x6.2.1.2 x6.2.1.2,
slice x6.2.2.1 x6.2.2.2 x6.2.2.2, slice q k k, int i64 (↑k : Int), int i64 x6.1] ∧
I2 x6 H7 k20
else
∃ (b17 b18 b19 b20:Bool),
∃ (n6:Int),
X.rdn H6 (X.n H5) 1 5 = some [bool b17, bool b18, bool b19, bool b20, int i64 n6] ∧
(7 ≤ 16777216 ∧ 7 = 7 ∧ 0 < 7 ∧ true = true ∧ true = true) ∧
∃ (q3 : Option (Nat × Nat)),
∃ (k21 k22:Nat),
∃ (H8:AH),
X.app 107 107 (slice x5.2.2.1 x5.2.2.2 x5.2.2.2)
(slice (some (X.n H6, 0)) 1 1)
(X.al H6
(cells
[int i64 x5.1, int i64 (X.wrap i64 (x5.1 + (1:Int))), bool b17, bool b18, bool b19,
bool b20, int i64 n6]
109 { whole := true })) =
some (slice q3 k21 k22, H8) ∧
∃ (x7 : Int × (Option (Nat × Nat) × Nat) × Option (Nat × Nat) × Nat),
∃ (k23:Nat),
k23 < k11 ∧
[ptr (some (X.n H, 0)), int i64 0, slice x5.2.1.1 x5.2.1.2 x5.2.1.2,
slice q3 k21 k22, slice q k k, int i64 (↑k : Int),
int i64 (X.wrap i64 (x5.1 + (1:Int)))] =
[ptr (some (X.n H, 0)), int i64 0, slice x7.2.1.1 x7.2.1.2 x7.2.1.2,
slice x7.2.2.1 x7.2.2.2 x7.2.2.2, slice q k k, int i64 (↑k : Int),
int i64 x7.1] ∧
I2 x7 H8 k23
else
∃ (b21 b22 b23 b24:Bool),
∃ (n7:Int),
X.rdn H6 (X.n H5) 1 5 = some [bool b21, bool b22, bool b23, bool b24, int i64 n7] ∧
(7 ≤ 16777216 ∧ 7 = 7 ∧ 0 < 7 ∧ true = true ∧ true = true) ∧
∃ (q4 : Option (Nat × Nat)),
∃ (k24 k25:Nat),
∃ (H9:AH),
X.app 107 107 (slice x5.2.2.1 x5.2.2.2 x5.2.2.2) (slice (some (X.n H6, 0)) 1 1)
(X.al H6
(cells
[int i64 x5.1, int i64 (X.wrap i64 (x5.1 + (1:Int))), bool b21, bool b22, bool b23, bool b24, int i64 n7]
109 { whole := true })) =
some (slice q4 k24 k25, H9) ∧
∃ (x8 : Int × (Option (Nat × Nat) × Nat) × Option (Nat × Nat) × Nat),
∃ (k26:Nat),
k26 < k11 ∧
[ptr (some (X.n H, 0)), int i64 0, slice x5.2.1.1 x5.2.1.2 x5.2.1.2, slice q4 k24 k25, slice q k k,
int i64 (↑k : Int), int i64 (X.wrap i64 (x5.1 + (1:Int)))] =
[ptr (some (X.n H, 0)), int i64 0, slice x8.2.1.1 x8.2.1.2 x8.2.1.2,
slice x8.2.2.1 x8.2.2.2 x8.2.2.2, slice q k k, int i64 (↑k : Int), int i64 x8.1] ∧
I2 x8 H9 k26
else
∃ (s6 : List UInt8),
X.str (slice x5.2.1.1 x5.2.1.2 x5.2.1.2) H5 = some s6 ∧
X.call 55 [str s6, slice x5.2.2.1 x5.2.2.2 x5.2.2.2] H5 fun (v1:AV) (H10:AH) =>
∃ (s7 : List UInt8),
∃ (q5 : Option (Nat × Nat)),
∃ (k27 k28:Nat),
∃ (n8:Int),
v1 = tuple [agg [str s7, slice q5 k27 k28], int i64 n8] ∧
[str s7, slice q5 k27 k28].length = 2 ∧
∃ (H11:AH),
X.wr H10 (X.n H) 0 [str s7, slice q5 k27 k28] = some H11 ∧
∃ (s8 : List UInt8),
∃ (q6 : Option (Nat × Nat)),
∃ (k29:Nat), ∃ (k30:Nat), X.rdn H11 (X.n H) 0 2 = some [str s8, slice q6 k29 k30] ∧ Q (tuple [agg [str s8, slice q6 k29 k30], int i64 n8]) H11) := by kernel_rfl

theorem Make_vc (X : Option Nat → Atoms) (It : FuncId → List AV → List AV → (AH → Prop) → List (List AV) → Prop) (s : List UInt8) (q : Option (Nat × Nat)) (k:Nat) (H:AH) (Q : AV → AH → Prop) : (vcG X It Tryd.prog [⟨6, Int × Int × Option (Nat × Nat) × Nat, [0, 4, 5, 6, 7, 16, 17, 18], fun x => [.str s, .ptr (some ((X none).n H, 0)), .int .i64 0, .slice x.2.2.1 x.2.2.2 x.2.2.2, .int .i64 x.2.1, .slice q k k, .int .i64 k, .int .i64 x.1], fun _ _ _ => True⟩, ⟨11, Int × Int × (Option (Nat × Nat) × Nat) × Nat × Int × Int, [0, 4, 5, 6, 7, 9, 16, 17, 18, 57, 58], fun x => [.str s, .ptr (some ((X none).n H, 0)), .int .i64 0, .slice x.2.2.1.1 x.2.2.1.2 x.2.2.1.2, .int .i64 x.2.1, .ptr (some (x.2.2.2.1, 0)), .slice q k k, .int .i64 k, .int .i64 x.1, .int .i64 x.2.2.2.2.1, .int .i64 x.2.2.2.2.2], fun _ _ _ => True⟩] [] 55 [.str s, .slice q k k] H Q) =
(bif decide ((↑s.length : Int) > (4096:Int)) then
[str [], slice none 0 0].length = 2 ∧
∃ (H1:AH),
(X none).wr ((X none).al H (cells [str [], slice none 0 0] 26 { whole := true })) ((X none).n H) 0 [str [], slice none 0 0] = some H1 ∧
∃ (s1 : List UInt8),
∃ (q1 : Option (Nat × Nat)),
∃ (k1:Nat), ∃ (k2:Nat), (X none).rdn H1 ((X none).n H) 0 2 = some [str s1, slice q1 k1 k2] ∧ Q (tuple [agg [str s1, slice q1 k1 k2], int i64 3]) H1
else
(X none).call 62 [str s] ((X none).al H (cells [str [], slice none 0 0] 26 { whole := true })) fun (v1:AV) (H2:AH) =>
∃ (n1:Int),
v1 = int i64 n1 ∧
∃ (x1 : Int × Int × Option (Nat × Nat) × Nat → AH → Nat → Prop),
(∃ (x2 : Int × Int × Option (Nat × Nat) × Nat),
∃ (k3:Nat),
[str s, ptr (some ((X none).n H, (0:Nat))), int i64 0, slice none (0:Nat) (0:Nat), int i64 n1, slice q k k, int i64 (↑k : Int), int i64 0] =
[str s, ptr (some ((X none).n H, (0:Nat))), int i64 0, slice x2.2.2.1 x2.2.2.2 x2.2.2.2, int i64 x2.2.1, slice q k k, int i64 (↑k : Int),
int i64 x2.1] ∧
x1 x2 H2 k3) ∧
∀ (x3 : Int × Int × Option (Nat × Nat) × Nat) (H3:AH) (k4:Nat),
x1 x3 H3 k4 →
bif decide (x3.1 < (↑k : Int)) then
∃ (k5 k6:Nat),
(q = some (k5, k6) ∧ (0:Int) ≤ x3.1 ∧ x3.1 < (↑k : Int)) ∧
∃ (n2 n3:Int),
∃ (b1 b2 b3 b4:Bool),
∃ (n4:Int),
(X none).rdn H3 k5 (k6 + x3.1.toNat * 7) 7 = some [int i64 n2, int i64 n3, bool b1, bool b2, bool b3, bool b4, int i64 n4] ∧
[int i64 n2, int i64 n3, bool b1, bool b2, bool b3, bool b4, int i64 n4].length = 7 ∧
∃ (H4:AH),
(X none).wr
((X none).al H3
(cells [int i64 0, int i64 0, bool false, bool false, bool false, bool false, int i64 0] 109
{ whole := true }))
((X none).n H3) 0 [int i64 n2, int i64 n3, bool b1, bool b2, bool b3, bool b4, int i64 n4] =
some H4 ∧
∃ (n5:Int),
(X none).rd1 H4 ((X none).n H3) 0 = some (int i64 n5) ∧
∃ (n6:Int),
(X none).rd1 H4 ((X none).n H3) 1 = some (int i64 n6) ∧
∃ (n7:Int),
(X none).rd1 H4 ((X none).n H3) 0 = some (int i64 n7) ∧
∃ (n8:Int),
(X none).rd1 H4 ((X none).n H3) 1 = some (int i64 n8) ∧
∃ (n9:Int),
(X none).rd1 H4 ((X none).n H3) 6 = some (int i64 n9) ∧
∃ (n10:Int),
(X none).rd1 H4 ((X none).n H3) 6 = some (int i64 n10) ∧
bif n5 != (↑x3.2.2.2 : Int) || decide (n6 ≤ n7) || decide (n8 > x3.2.1) || decide (n9 < (0:Int)) || decide (n10 > (16777216:Int)) then
[str [], slice none 0 0].length = 2 ∧
∃ (H5:AH),
(X none).wr H4 ((X none).n H) 0 [str [], slice none 0 0] = some H5 ∧
∃ (s2 : List UInt8),
∃ (q2 : Option (Nat × Nat)),
∃ (k7 k8:Nat),
(X none).rdn H5 ((X none).n H) 0 2 = some [str s2, slice q2 k7 k8] ∧
Q (tuple [agg [str s2, slice q2 k7 k8], int i64 1]) H5
else
∃ (n11:Int),
(X none).rd1 H4 ((X none).n H3) 1 = some (int i64 n11) ∧
∃ (n12:Int),
(X none).rd1 H4 ((X none).n H3) 0 = some (int i64 n12) ∧
∃ (x4 : Int × Int × (Option (Nat × Nat) × Nat) × Nat × Int × Int → AH → Nat → Prop),
(∃ (x5 : Int × Int × (Option (Nat × Nat) × Nat) × Nat × Int × Int),
∃ (k9:Nat),
[str s, ptr (some ((X none).n H, 0)), int i64 0, slice x3.2.2.1 x3.2.2.2 x3.2.2.2,
int i64 x3.2.1, ptr (some ((X none).n H3, (0:Nat))), slice q k k, int i64 (↑k : Int), int i64 x3.1,
int i64 ((X none).wrap i64 (n11 - n12)), int i64 0] =
[str s, ptr (some ((X none).n H, 0)), int i64 0, slice x5.2.2.1.1 x5.2.2.1.2 x5.2.2.1.2,
int i64 x5.2.1, ptr (some (x5.2.2.2.1, (0:Nat))), slice q k k, int i64 (↑k : Int),
int i64 x5.1, int i64 x5.2.2.2.2.1, int i64 x5.2.2.2.2.2] ∧
x4 x5 H4 k9) ∧
∀ (x6 : Int × Int × (Option (Nat × Nat) × Nat) × Nat × Int × Int) (H6:AH) (k10:Nat),
x4 x6 H6 k10 →
bif decide (x6.2.2.2.2.2 < x6.2.2.2.2.1) then
∃ (b5 b6 b7 b8:Bool),
∃ (n13:Int),
(X none).rdn H6 x6.2.2.2.1 2 5 = some [bool b5, bool b6, bool b7, bool b8, int i64 n13] ∧
(5 ≤ 16777216 ∧ 5 = 5 ∧ 0 < 5 ∧ true = true ∧ true = true) ∧
∃ (q3 : Option (Nat × Nat)),
∃ (k11 k12:Nat),
∃ (H7:AH),
(X none).app 50 50 (slice x6.2.2.1.1 x6.2.2.1.2 x6.2.2.1.2)
(slice (some ((X none).n H6, 0)) 1 1)
((X none).al H6
(cells [bool b5, bool b6, bool b7, bool b8, int i64 n13] 53 { whole := true })) =
some (slice q3 k11 k12, H7) ∧
∃ (x7 : Int × Int × (Option (Nat × Nat) × Nat) × Nat × Int × Int),
∃ (k13:Nat),
k13 < k10 ∧
[str s, ptr (some ((X none).n H, 0)), int i64 0, slice q3 k11 k12,
int i64 x6.2.1, ptr (some (x6.2.2.2.1, 0)), slice q k k,
int i64 (↑k : Int), int i64 x6.1, int i64 x6.2.2.2.2.1,
int i64 ((X none).wrap i64 (x6.2.2.2.2.2 + (1:Int)))] =
[str s, ptr (some ((X none).n H, 0)), int i64 0,
slice x7.2.2.1.1 x7.2.2.1.2 x7.2.2.1.2, int i64 x7.2.1,
ptr (some (x7.2.2.2.1, (0:Nat))), slice q k k, int i64 (↑k : Int),
int i64 x7.1, int i64 x7.2.2.2.2.1, int i64 x7.2.2.2.2.2] ∧
x4 x7 H7 k13
else
∃ (x8 : Int × Int × Option (Nat × Nat) × Nat),
∃ (k14:Nat),
k14 < k4 ∧
[str s, ptr (some ((X none).n H, 0)), int i64 0,
slice x6.2.2.1.1 x6.2.2.1.2 x6.2.2.1.2, int i64 x6.2.1, slice q k k,
int i64 (↑k : Int), int i64 ((X none).wrap i64 (x6.1 + (1:Int)))] =
[str s, ptr (some ((X none).n H, 0)), int i64 0, slice x8.2.2.1 x8.2.2.2 x8.2.2.2,
int i64 x8.2.1, slice q k k, int i64 (↑k : Int), int i64 x8.1] ∧
x1 x8 H6 k14
else
bif (↑x3.2.2.2 : Int) != x3.2.1 then
[str [], slice none 0 0].length = 2 ∧
∃ (H8:AH),
(X none).wr H3 ((X none).n H) 0 [str [], slice none 0 0] = some H8 ∧
∃ (s3 : List UInt8),
∃ (q4 : Option (Nat × Nat)),
∃ (k15:Nat), ∃ (k16:Nat), (X none).rdn H8 ((X none).n H) 0 2 = some [str s3, slice q4 k15 k16] ∧ Q (tuple [agg [str s3, slice q4 k15 k16], int i64 1]) H8
else
(X none).call 79 [str s, slice x3.2.2.1 x3.2.2.2 x3.2.2.2] H3 fun (v2:AV) (H9:AH) =>
∃ (s4 : List UInt8),
∃ (q5 : Option (Nat × Nat)),
∃ (k17 k18:Nat),
∃ (n14:Int),
v2 = tuple [agg [str s4, slice q5 k17 k18], int i64 n14] ∧
[str s4, slice q5 k17 k18].length = 2 ∧
∃ (H10:AH),
(X none).wr H9 ((X none).n H) 0 [str s4, slice q5 k17 k18] = some H10 ∧
∃ (s5 : List UInt8),
∃ (q6 : Option (Nat × Nat)),
∃ (k19 k20:Nat), (X none).rdn H10 ((X none).n H) 0 2 = some [str s5, slice q6 k19 k20] ∧ Q (tuple [agg [str s5, slice q6 k19 k20], int i64 n14]) H10) := by kernel_rfl


theorem signs1_vc (X:Atoms) (b p : Nat) (H:AH) (Q : AV → AH → Prop) (I : Unit → AH → Nat → Prop) : (vcF X Tryd.prog [⟨1, Unit, [0, 1, 7], fun _ => [.yld b, .ptr (some (p, 0)), .ptr (some (X.n H, 0))], I⟩] 77 [.yld b, .ptr (some (p, 0))] H Q) =
(∃ (s1 : List UInt8),
X.rd1 H p 0 = some (str s1) ∧
(∃ (x1:PUnit), ∃ (k1:Nat), [AV.yld b, ptr (some (p, 0)), ptr (some (X.n H, 0))] = [AV.yld b, ptr (some (p, 0)), ptr (some (X.n H, 0))] ∧ I x1 (X.al H (AObj.iter s1 0)) k1) ∧
∀ (x2:PUnit) (H1:AH) (k2:Nat),
I x2 H1 k2 →
∃ (s2 : List UInt8),
∃ (k3:Nat),
X.get H1 (X.n H) = some (AObj.iter s2 k3) ∧
(k3 < s2.length →
bif (↑(decodeL s2 k3).1 : Int) != (65533:Int) then
X.call (78:Nat) [int i32 (↑(decodeL s2 k3).1 : Int)] (X.set H1 (X.n H) (AObj.iter s2 (k3 + (decodeL s2 k3).2))) fun (v1:AV) (H2:AH) =>
∃ (n1:Int),
v1 = int i64 n1 ∧
X.yld b [agg [int i64 (↑k3 : Int), int i64 n1, int i32 (↑(decodeL s2 k3).1 : Int), bool ((↑(decodeL s2 k3).1 : Int) == (65533:Int) && n1 == (1:Int))]] H2
fun (v2:AV) (H3:AH) =>
∃ (b1:Bool),
v2 = bool b1 ∧
bif !b1 then Q (tuple []) H3
else
∃ (x3:PUnit), ∃ (k4:Nat), k4 < k2 ∧ [AV.yld b, ptr (some (p, 0)), ptr (some (X.n H, 0))] = [AV.yld b, ptr (some (p, 0)), ptr (some (X.n H, 0))] ∧ I x3 H3 k4
else
∃ (s3 : List UInt8),
X.rd1 (X.set H1 (X.n H) (AObj.iter s2 (k3 + (decodeL s2 k3).2))) p 0 = some (str s3) ∧
((0:Int) ≤ (↑k3 : Int) ∧ (↑k3 : Int) ≤ (↑s3.length : Int) ∧ (↑s3.length : Int) ≤ (↑s3.length : Int)) ∧
X.call (27:Nat) [str (List.take ((↑s3.length : Int) - (↑k3 : Int)).toNat (List.drop (↑k3 : Int).toNat s3)), str [(239:UInt8), (191:UInt8), (189:UInt8)]]
(X.set H1 (X.n H) (AObj.iter s2 (k3 + (decodeL s2 k3).2))) fun (v3:AV) (H4:AH) =>
∃ (b2:Bool),
v3 = bool b2 ∧
bif b2 then
X.yld b [agg [int i64 (↑k3 : Int), int i64 3, int i32 (↑(decodeL s2 k3).1 : Int), bool ((↑(decodeL s2 k3).1 : Int) == (65533:Int) && false)]] H4
fun (v4:AV) (H5:AH) =>
∃ (b3:Bool),
v4 = bool b3 ∧
bif !b3 then Q (tuple []) H5
else
∃ (x4:PUnit),
∃ (k5:Nat), k5 < k2 ∧ [AV.yld b, ptr (some (p, 0)), ptr (some (X.n H, 0))] = [AV.yld b, ptr (some (p, 0)), ptr (some (X.n H, 0))] ∧ I x4 H5 k5
else
X.yld b [agg [int i64 (↑k3 : Int), int i64 1, int i32 (↑(decodeL s2 k3).1 : Int), bool ((↑(decodeL s2 k3).1 : Int) == (65533:Int) && true)]] H4
fun (v5:AV) (H6:AH) =>
∃ (b4:Bool),
v5 = bool b4 ∧
bif !b4 then Q (tuple []) H6
else
∃ (x5:PUnit),
∃ (k6:Nat), k6 < k2 ∧ [AV.yld b, ptr (some (p, 0)), ptr (some (X.n H, 0))] = [AV.yld b, ptr (some (p, 0)), ptr (some (X.n H, 0))] ∧ I x5 H6 k6) ∧
(¬k3 < s2.length → Q (tuple []) H1)) := by kernel_rfl



end Go.Proofs.YtlkdhhkncoekgaaDoor
