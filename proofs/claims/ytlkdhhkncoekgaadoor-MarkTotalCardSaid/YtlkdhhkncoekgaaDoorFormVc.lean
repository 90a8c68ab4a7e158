/- What functions ask: FormVc. -/
import Derived.Test.YtlkdhhkncoekgaaDoorAmTri
import Derived.Test.YtlkdhhkncoekgaaDoorTabs
namespace Go.Proofs.YtlkdhhkncoekgaaDoor
open Go.Am Go
open _root_.Go.Am.AV (int slice ptr str bool agg tuple)
open _root_.Go.IntKind (i64 i32 u8 u64)
open _root_.Go.Am.AObj (cells)

theorem colour_vc (X : Option Nat → Atoms) (It : FuncId → List AV → List AV → (AH → Prop) → List (List AV) → Prop) (s : List UInt8) (u:Bool) (H:AH) (Q : AV → AH → Prop) : (vcG X It Tryd.prog [⟨5, Int × Nat × Int, [1, 6, 15, 16, 17], fun x => [.bool u, .int .i64 x.1, .slice (some (x.2.1, 0)) 6 6, .int .i64 6, .int .i64 x.2.2], fun _ _ _ => True⟩, ⟨200013, (Int × Nat × Int) × Int, [1, 6, 9, 15, 16, 17], fun x => [.bool u, .int .i64 x.1.1, .int .i64 x.2, .slice (some (x.1.2.1, 0)) 6 6, .int .i64 6, .int .i64 x.1.2.2], fun _ _ _ => True⟩] [] 50 [.str s, .bool u] H Q) =
(bif decide ((↑s.length : Int) < (6:Int)) then Q (tuple [int i64 0, bool false]) H
else
((0:Int) ≤ (0:Int) ∧ (0:Int) ≤ (6:Int) ∧ (6:Int) ≤ (↑s.length : Int)) ∧
∃ (q1 : Option (Nat × Nat)),
∃ (k1 k2:Nat),
∃ (H1:AH),
(X none).bs 9 39 (List.take 6 s) H = some (slice q1 k1 k2, H1) ∧
∃ (x1 : Int × Nat × Int → AH → Nat → Prop),
(∃ (x2 : Int × Nat × Int),
∃ (k3:Nat),
[bool u, int i64 0, slice q1 k1 k2, int i64 (↑k1 : Int), int i64 0] =
[bool u, int i64 x2.1, slice (some (x2.2.1, 0)) 6 6, int i64 6, int i64 x2.2.2] ∧
x1 x2 H1 k3) ∧
∀ (x3 : Int × Nat × Int) (H2:AH) (k4:Nat),
x1 x3 H2 k4 →
bif decide (x3.2.2 < (6:Int)) then
∃ (k5 k6:Nat),
(some (x3.2.1, 0) = some (k5, k6) ∧ (0:Int) ≤ x3.2.2 ∧ x3.2.2 < (6:Int)) ∧
∃ (n1:Int),
(X none).rd1 H2 k5 (k6 + x3.2.2.toNat * 1) = some (int u8 n1) ∧
∃ (x4 : (Int × Nat × Int) × Int → AH → Prop),
(bif decide (n1 ≥ (48:Int)) && decide (n1 ≤ (57:Int)) then
∃ (x5 : (Int × Nat × Int) × Int),
∃ (_k7:Nat),
True ∧
[bool u, int i64 x3.1, int i64 ((X none).wrap i64 ((X none).wrap u8 (n1 - (48:Int)))), slice (some (x3.2.1, 0)) 6 6,
int i64 6, int i64 x3.2.2] =
[bool u, int i64 x5.1.1, int i64 x5.2, slice (some (x5.1.2.1, 0)) 6 6, int i64 6,
int i64 x5.1.2.2] ∧
x4 x5 H2
else
bif
decide ((X none).wrap u8 (↑(BitVec.ofInt u8.bits n1 ||| BitVec.ofInt u8.bits (32:Int)).toNat : Int) ≥ (97:Int)) &&
decide ((X none).wrap u8 (↑(BitVec.ofInt u8.bits n1 ||| BitVec.ofInt u8.bits (32:Int)).toNat : Int) ≤ (102:Int)) then
∃ (x6 : (Int × Nat × Int) × Int),
∃ (_k8:Nat),
True ∧
[bool u, int i64 x3.1,
int i64
((X none).wrap i64
((X none).wrap i64 ((X none).wrap u8 ((X none).wrap u8 (↑(BitVec.ofInt (8:Nat) n1 ||| BitVec.ofInt (8:Nat) (32:Int)).toNat : Int) - (97:Int))) +
(10:Int))),
slice (some (x3.2.1, 0)) 6 6, int i64 6, int i64 x3.2.2] =
[bool u, int i64 x6.1.1, int i64 x6.2, slice (some (x6.1.2.1, 0)) 6 6, int i64 6,
int i64 x6.1.2.2] ∧
x4 x6 H2
else Q (tuple [int i64 0, bool false]) H2) ∧
∀ (x7 : (Int × Nat × Int) × Int) (H3:AH),
x4 x7 H3 →
∃ (x8 : Int × Nat × Int),
∃ (k9:Nat),
k9 < k4 ∧
[bool u, int i64 ((X none).wrap i64 ((X none).wrap i64 ((16:Int) * x7.1.1) + x7.2)), slice (some (x7.1.2.1, 0)) 6 6,
int i64 6, int i64 ((X none).wrap i64 (x7.1.2.2 + (1:Int)))] =
[bool u, int i64 x8.1, slice (some (x8.2.1, 0)) 6 6, int i64 6, int i64 x8.2.2] ∧
x1 x8 H3 k9
else
bif u then
(0:Int) ≤ (16:Int) ∧
(0:Int) ≤ (16:Int) ∧
Q
(tuple
[int i64
((X none).wrap i64
((X none).wrap i64
(↑(BitVec.ofInt (64:Nat)
((X none).wrap i64
(↑(BitVec.ofInt (64:Nat)
((X none).wrap i64 ((X none).wrap i64 (↑(BitVec.ofInt (64:Nat) x3.1 &&& BitVec.ofInt (64:Nat) (255:Int)).toNat : Int) * (65536:Int))) |||
BitVec.ofInt (64:Nat) ((X none).wrap i64 (↑(BitVec.ofInt (64:Nat) x3.1 &&& BitVec.ofInt (64:Nat) (65280:Int)).toNat : Int))).toNat :
Int)) |||
BitVec.ofInt 64 (x3.1.fdiv (65536:Int))).toNat :
Int) +
(1:Int))),
bool true])
H2
else Q (tuple [int i64 ((X none).wrap i64 (x3.1 + (1:Int))), bool true]) H2) := by kernel_rfl

theorem entity_vc (X : Option Nat → Atoms) (It : FuncId → List AV → List AV → (AH → Prop) → List (List AV) → Prop) (s : List UInt8) (H:AH) (Q : AV → AH → Prop) : (vcG X It Tryd.prog [⟨2, Nat × Int, [0, 12, 13, 14], fun x => [.str s, .slice (some (x.1, 0)) 6 6, .int .i64 6, .int .i64 x.2], fun _ _ _ => True⟩] [] 24 [.str s] H Q) =
((12 ≤ 16777216 ∧ 2 = 2 ∧ 0 < 2 ∧ true = true ∧ true = true) ∧
∃ (x1 : Nat × Int → AH → Nat → Prop),
(∃ (x2 : Nat × Int),
∃ (k1:Nat),
[str s, slice (some ((X none).n H, 0)) 6 6, int i64 6, int i64 0] =
[str s, slice (some (x2.1, 0)) 6 6, int i64 6, int i64 x2.2] ∧
x1 x2
((X none).al H
(cells
[str [(38:UInt8), (108:UInt8), (116:UInt8), (59:UInt8)], str [(60:UInt8)], str [(38:UInt8), (103:UInt8), (116:UInt8), (59:UInt8)], str [(62:UInt8)],
str [(38:UInt8), (97:UInt8), (109:UInt8), (112:UInt8), (59:UInt8)], str [(38:UInt8)], str [(38:UInt8), (110:UInt8), (98:UInt8), (115:UInt8), (112:UInt8), (59:UInt8)],
str [(194:UInt8), (160:UInt8)], str [(38:UInt8), (108:UInt8), (114:UInt8), (109:UInt8), (59:UInt8)], str [(226:UInt8), (128:UInt8), (142:UInt8)],
str [(38:UInt8), (114:UInt8), (108:UInt8), (109:UInt8), (59:UInt8)], str [(226:UInt8), (128:UInt8), (143:UInt8)]]
99 { whole := true }))
k1) ∧
∀ (x3 : Nat × Int) (H1:AH) (k2:Nat),
x1 x3 H1 k2 →
bif decide (x3.2 < (6:Int)) then
∃ (k3 k4:Nat),
(some (x3.1, 0) = some (k3, k4) ∧ (0:Int) ≤ x3.2 ∧ x3.2 < (6:Int)) ∧
∃ (s1 s2:List UInt8),
(X none).rdn H1 k3 (k4 + x3.2.toNat * 2) 2 = some [str s1, str s2] ∧
[str s1, str s2].length = 2 ∧
∃ (H2:AH),
(X none).wr ((X none).al H1 (cells [str [], str []] 99 { whole := true })) ((X none).n H1) 0 [str s1, str s2] = some H2 ∧
((0:Int) ≤ (0:Int) ∧ (0:Int) < (2:Int)) ∧
∃ (s3 : List UInt8),
(X none).rd1 H2 ((X none).n H1) 0 = some (str s3) ∧
(X none).call 27 [str s, str s3] H2 fun (v1:AV) (H3:AH) =>
∃ (b1:Bool),
v1 = bool b1 ∧
bif b1 then
((0:Int) ≤ (1:Int) ∧ (1:Int) < (2:Int)) ∧
∃ (s4 : List UInt8),
(X none).rd1 H3 ((X none).n H1) 1 = some (str s4) ∧
((0:Int) ≤ (0:Int) ∧ (0:Int) < (2:Int)) ∧
∃ (s5 : List UInt8), (X none).rd1 H3 ((X none).n H1) (0:Nat) = some (str s5) ∧ Q (tuple [str s4, int i64 (↑s5.length : Int)]) H3
else
∃ (x4 : Nat × Int),
∃ (k5:Nat),
k5 < k2 ∧
[str s, slice (some (x3.1, 0)) 6 6, int i64 6, int i64 ((X none).wrap i64 (x3.2 + (1:Int)))] =
[str s, slice (some (x4.1, 0)) 6 6, int i64 6, int i64 x4.2] ∧
x1 x4 H3 k5
else Q (tuple [str [], int i64 0]) H1) := by kernel_rfl

theorem bLen_vc (X : Option Nat → Atoms) (It : FuncId → List AV → List AV → (AH → Prop) → List (List AV) → Prop) (p:Nat) (H:AH) (Q : AV → AH → Prop) : (vcG X It Tryd.prog [] [] 48 [.ptr (some (p, 0))] H Q) =
(∃ (q1 : Option (Nat × Nat)), ∃ (k1:Nat), ∃ (k2:Nat), (X none).rd1 H p (1:Nat) = some (slice q1 k1 k2) ∧ Q (int i64 (↑k1 : Int)) H) := by kernel_rfl

theorem bStr_vc (X : Option Nat → Atoms) (It : FuncId → List AV → List AV → (AH → Prop) → List (List AV) → Prop) (p:Nat) (H:AH) (Q : AV → AH → Prop) : (vcG X It Tryd.prog [] [] 49 [.ptr (some (p, 0))] H Q) =
(∃ (q1 : Option (Nat × Nat)),
∃ (k1 k2:Nat),
(X none).rd1 H p 1 = some (slice q1 k1 k2) ∧
∃ (q2 : Option (Nat × Nat)),
∃ (k3 k4:Nat),
(X none).rd1 H p 1 = some (slice q2 k3 k4) ∧
∃ (x1 : Nat × Nat),
(k2 ≠ 0 ∧ q1 = some x1) ∧
int i64 (↑k3 : Int) = int i64 (↑k3 : Int) ∧
(∃ (q3 : Option (Nat × Nat)), ∃ (k5:Nat), ∃ (k6:Nat), (X none).rd1 H p 1 = some (slice q3 k5 k6) ∧ slice q3 k5 k6 = slice q2 k3 k4) ∧
∃ (s1 : List UInt8), ∃ (H1:AH), (X none).ustr (123:Nat) (ptr (some x1)) (int i64 (↑k3 : Int)) H = some (str s1, H1) ∧ Q (str s1) H1) := by kernel_rfl

theorem voice2_vc (X : Option Nat → Atoms) (It : FuncId → List AV → List AV → (AH → Prop) → List (List AV) → Prop) (p:Nat) (H:AH) (Q : AV → AH → Prop) : (vcG X It Tryd.prog [⟨200004, List UInt8 × Int × Bool, [0, 3, 5, 33], fun x => [.ptr (some (p, 0)), .str x.1, .int .i64 x.2.1, .bool x.2.2], fun _ _ _ => True⟩, ⟨7, List UInt8 × Int × Nat × List UInt8, [0, 3, 5, 6, 7], fun x => [.ptr (some (p, 0)), .str x.1, .int .i64 x.2.1, .ptr (some (x.2.2.1, 0)), .str x.2.2.2], fun _ _ _ => True⟩, ⟨200015, Int × Nat × Bool, [0, 5, 6, 62], fun x => [.ptr (some (p, 0)), .int .i64 x.1, .ptr (some (x.2.1, 0)), .bool x.2.2], fun _ _ _ => True⟩] [] 22 [.ptr (some (p, 0))] H Q) =
(∃ (s1 : List UInt8),
(X none).rd1 H p 1 = some (str s1) ∧
(X none).call 43 [str s1, str [(60:UInt8), (118:UInt8), (32:UInt8)]] H fun (v1:AV) (H1:AH) =>
∃ (s2 : List UInt8),
∃ (b1:Bool),
v1 = tuple [str s2, bool b1] ∧
(X none).call 44 [str s2, int u8 (62:Int)] H1 fun (v2:AV) (H2:AH) =>
∃ (n1:Int),
v2 = int i64 n1 ∧
∃ (x1 : List UInt8 × Int × Bool → AH → Prop),
(bif (!b1 || decide (n1 < (0:Int))) == false then
(X none).call 45 [ptr (some (p, 0)), int i64 ((X none).wrap i64 ((X none).wrap i64 ((3:Int) + n1) + (1:Int)))] H2 fun (v3:AV) (H3:AH) =>
∃ (b2:Bool),
v3 = bool b2 ∧
∃ (x2 : List UInt8 × Int × Bool),
∃ (_k1:Nat), True ∧ [ptr (some (p, 0)), str s2, int i64 n1, bool !b2] = [ptr (some (p, 0)), str x2.1, int i64 x2.2.1, bool x2.2.2] ∧ x1 x2 H3
else
∃ (x3 : List UInt8 × Int × Bool),
∃ (_k2:Nat), True ∧ [ptr (some (p, 0)), str s2, int i64 n1, bool true] = [ptr (some (p, 0)), str x3.1, int i64 x3.2.1, bool x3.2.2] ∧ x1 x3 H2) ∧
∀ (x4 : List UInt8 × Int × Bool) (H4:AH),
x1 x4 H4 →
bif x4.2.2 then Q (int i64 0) H4
else
((0:Int) ≤ (0:Int) ∧ (0:Int) ≤ x4.2.1 ∧ x4.2.1 ≤ (↑x4.1.length : Int)) ∧
∃ (x5 : List UInt8 × Int × Nat × List UInt8 → AH → Nat → Prop),
(∃ (x6 : List UInt8 × Int × Nat × List UInt8),
∃ (k3:Nat),
[ptr (some (p, 0)), str x4.1, int i64 x4.2.1, ptr (some ((X none).n H4, 0)), str (List.take (x4.2.1 - (0:Int)).toNat (List.drop 0 x4.1))] =
[ptr (some (p, 0)), str x6.1, int i64 x6.2.1, ptr (some (x6.2.2.1, 0)), str x6.2.2.2] ∧
x5 x6 ((X none).al H4 (cells [ptr none, slice none 0 0] 90 { whole := true })) k3) ∧
∀ (x7 : List UInt8 × Int × Nat × List UInt8) (H5:AH) (k4:Nat),
x5 x7 H5 k4 →
bif !x7.2.2.2 == [] then
(X none).call 24 [str x7.2.2.2] H5 fun (v4:AV) (H6:AH) =>
∃ (s3 : List UInt8),
∃ (n2:Int),
v4 = tuple [str s3, int i64 n2] ∧
bif decide (n2 > (0:Int)) then
(X none).call 46 [ptr (some (x7.2.2.1, 0)), str s3] H6 fun (v5:AV) (H7:AH) =>
∃ (n3:Int),
∃ (v6:AV),
v5 = tuple [int i64 n3, v6] ∧
((0:Int) ≤ n2 ∧ n2 ≤ (↑x7.2.2.2.length : Int) ∧ (↑x7.2.2.2.length : Int) ≤ (↑x7.2.2.2.length : Int)) ∧
∃ (x8 : List UInt8 × Int × Nat × List UInt8),
∃ (k5:Nat),
k5 < k4 ∧
[ptr (some (p, 0)), str x7.1, int i64 x7.2.1, ptr (some (x7.2.2.1, 0)),
str (List.take ((↑x7.2.2.2.length : Int) - n2).toNat (List.drop n2.toNat x7.2.2.2))] =
[ptr (some (p, 0)), str x8.1, int i64 x8.2.1, ptr (some (x8.2.2.1, 0)), str x8.2.2.2] ∧
x5 x8 H7 k5
else
((0:Int) ≤ (0:Int) ∧ (0:Int) < (↑x7.2.2.2.length : Int)) ∧
(X none).call (47:Nat) [ptr (some (x7.2.2.1, (0:Nat))), int u8 (↑(x7.2.2.2[(0:Nat)]?.getD (0:UInt8)).toNat : Int)] H6 fun (v7:AV) (H8:AH) =>
∃ (v8:AV),
v7 = v8 ∧
((0:Int) ≤ (1:Int) ∧ (1:Int) ≤ (↑x7.2.2.2.length : Int) ∧ (↑x7.2.2.2.length : Int) ≤ (↑x7.2.2.2.length : Int)) ∧
∃ (x9 : List UInt8 × Int × Nat × List UInt8),
∃ (k6:Nat),
k6 < k4 ∧
[ptr (some (p, 0)), str x7.1, int i64 x7.2.1, ptr (some (x7.2.2.1, 0)),
str (List.take ((↑x7.2.2.2.length : Int) - (1:Int)).toNat (List.drop (1:Nat) x7.2.2.2))] =
[ptr (some (p, 0)), str x9.1, int i64 x9.2.1, ptr (some (x9.2.2.1, 0)), str x9.2.2.2] ∧
x5 x9 H8 k6
else
∃ (x10 : Int × Nat × Bool → AH → Prop),
((X none).call 48 [ptr (some (x7.2.2.1, 0))] H5 fun (v9:AV) (H9:AH) =>
∃ (n4:Int),
v9 = int i64 n4 ∧
bif (n4 == (0:Int)) == false then
(X none).call 49 [ptr (some (x7.2.2.1, 0))] H9 fun (v10:AV) (H10:AH) =>
∃ (s4 : List UInt8),
v10 = str s4 ∧
(X none).call 33 [str s4] H10 fun (v11:AV) (H11:AH) =>
∃ (b3:Bool),
v11 = bool b3 ∧
∃ (x11 : Int × Nat × Bool),
∃ (_k7:Nat),
True ∧
[ptr (some (p, 0)), int i64 x7.2.1, ptr (some (x7.2.2.1, 0)), bool !b3] =
[ptr (some (p, 0)), int i64 x11.1, ptr (some (x11.2.1, 0)), bool x11.2.2] ∧
x10 x11 H11
else
∃ (x12 : Int × Nat × Bool),
∃ (_k8:Nat),
True ∧
[ptr (some (p, 0)), int i64 x7.2.1, ptr (some (x7.2.2.1, 0)), bool true] =
[ptr (some (p, 0)), int i64 x12.1, ptr (some (x12.2.1, 0)), bool x12.2.2] ∧
x10 x12 H9) ∧
∀ (x13 : Int × Nat × Bool) (H12:AH),
x10 x13 H12 →
bif x13.2.2 then Q (int i64 0) H12
else
(X none).call 49 [ptr (some (x13.2.1, 0))] H12 fun (v12:AV) (H13:AH) =>
∃ (s5 : List UInt8),
v12 = str s5 ∧
[str s5].length = 1 ∧
∃ (H14:AH),
(X none).wr H13 p 17 [str s5] = some H14 ∧ Q (int i64 ((X none).wrap i64 ((X none).wrap i64 ((3:Int) + x13.1) + (1:Int)))) H14) := by kernel_rfl

end Go.Proofs.YtlkdhhkncoekgaaDoor
