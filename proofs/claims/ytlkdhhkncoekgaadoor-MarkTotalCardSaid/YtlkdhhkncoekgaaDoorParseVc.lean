/- What functions ask: parse. -/
import Derived.Test.YtlkdhhkncoekgaaDoorAmTri
import Derived.Test.YtlkdhhkncoekgaaDoorTabs
namespace Go.Proofs.YtlkdhhkncoekgaaDoor
open Go.Am Go
open _root_.Go.Am.AV (int slice ptr str bool agg tuple)
open _root_.Go.IntKind (i64 i32 u8 u64)
open _root_.Go.Am.AObj (cells)

theorem Parse_vc (X : Option Nat → Atoms) (It : FuncId → List AV → List AV → (AH → Prop) → List (List AV) → Prop) (d:Int) (s : List UInt8) (H:AH) (Q : AV → AH → Prop) (J0 J1 J2 : Int × Nat × Nat → AH → Nat → Prop) : (vcG X It Tryd.prog [⟨100000, Int × Nat × Nat, [0, 1, 4, 5, 6, 7], fun x => [.int .i64 d, .str s, .ptr (some (x.2.1, 0)), .int .i64 0, .ptr (some (x.2.2, 0)), .int .i64 x.1], J0⟩, ⟨100001, Int × Nat × Nat, [0, 1, 4, 5, 6, 7], fun x => [.int .i64 d, .str s, .ptr (some (x.2.1, 0)), .int .i64 0, .ptr (some (x.2.2, 0)), .int .i64 x.1], J1⟩, ⟨100002, Int × Nat × Nat, [0, 1, 4, 5, 6, 7], fun x => [.int .i64 d, .str s, .ptr (some (x.2.1, 0)), .int .i64 0, .ptr (some (x.2.2, 0)), .int .i64 x.1], J2⟩] [] 12 [.int .i64 d, .str s] H Q) =
((bif decide (d < (1:Int)) || decide (d > (4:Int)) then
[str [], slice none 0 0, str [], int i64 0].length = 4 ∧
∃ (H1:AH),
(X none).wr ((X none).al H (cells [str [], slice none 0 0, str [], int i64 0] 28 { whole := true })) ((X none).n H) 0
[str [], slice none 0 0, str [], int i64 0] =
some H1 ∧
∃ (s1 : List UInt8),
∃ (q1 : Option (Nat × Nat)),
∃ (k1 k2:Nat),
∃ (s2 : List UInt8),
∃ (n1:Int),
(X none).rdn H1 ((X none).n H) 0 4 = some [str s1, slice q1 k1 k2, str s2, int i64 n1] ∧
Q (tuple [agg [str s1, slice q1 k1 k2, str s2, int i64 n1], int i64 5]) H1
else
bif decide ((↑s.length : Int) > (4194304:Int)) then
[str [], slice none 0 0, str [], int i64 0].length = 4 ∧
∃ (H2:AH),
(X none).wr ((X none).al H (cells [str [], slice none 0 0, str [], int i64 0] 28 { whole := true })) ((X none).n H) 0
[str [], slice none 0 0, str [], int i64 0] =
some H2 ∧
∃ (s3 : List UInt8),
∃ (q2 : Option (Nat × Nat)),
∃ (k3 k4:Nat),
∃ (s4 : List UInt8),
∃ (n2:Int),
(X none).rdn H2 ((X none).n H) 0 4 = some [str s3, slice q2 k3 k4, str s4, int i64 n2] ∧
Q (tuple [agg [str s3, slice q2 k3 k4, str s4, int i64 n2], int i64 3]) H2
else
true = true ∧
bif d == (2:Int) then
(X none).call 22 [ptr (some ((X none).n ((X none).al H (cells [str [], slice none 0 0, str [], int i64 0] 28 { whole := true })), 0))]
((X none).al ((X none).al H (cells [str [], slice none 0 0, str [], int i64 0] 28 { whole := true }))
(cells
[int i64 d, str s, int i64 0, slice none 0 0, slice none 0 0, int i64 0, int i64 0, int i64 0,
int i64 0, int i64 0, slice none 0 0, bool false, bool false, bool false, bool false, int i64 0, bool true, str [],
int i64 0]
60 { whole := true }))
fun (v1:AV) (H3:AH) =>
∃ (n3:Int),
v1 = int i64 n3 ∧
[int i64 n3].length = 1 ∧
∃ (H4:AH),
(X none).wr H3 ((X none).n ((X none).al H (cells [str [], slice none 0 0, str [], int i64 0] 28 { whole := true }))) 2 [int i64 n3] = some H4 ∧
∃ (x1 : Int × Nat × Nat),
∃ (k5:Nat),
True ∧
[int i64 d, str s, ptr (some ((X none).n H, 0)), int i64 0,
ptr (some ((X none).n ((X none).al H (cells [str [], slice none 0 0, str [], int i64 0] 28 { whole := true })), 0)),
int i64 0] =
[int i64 d, str s, ptr (some (x1.2.1, 0)), int i64 0, ptr (some (x1.2.2, 0)), int i64 x1.1] ∧
J1 x1 H4 k5
else
∃ (x2 : Int × Nat × Nat),
∃ (k6:Nat),
True ∧
[int i64 d, str s, ptr (some ((X none).n H, 0)), int i64 0,
ptr (some ((X none).n ((X none).al H (cells [str [], slice none 0 0, str [], int i64 0] 28 { whole := true })), 0)), int i64 0] =
[int i64 d, str s, ptr (some (x2.2.1, 0)), int i64 0, ptr (some (x2.2.2, 0)), int i64 x2.1] ∧
J1 x2
((X none).al ((X none).al H (cells [str [], slice none 0 0, str [], int i64 0] 28 { whole := true }))
(cells
[int i64 d, str s, int i64 0, slice none 0 0, slice none 0 0, int i64 0, int i64 0,
int i64 0, int i64 0, int i64 0, slice none 0 0, bool false, bool false, bool false, bool false, int i64 0,
bool true, str [], int i64 0]
60 { whole := true }))
k6) ∧
(∀ (x3 : Int × Nat × Nat) (H5:AH) (k7:Nat),
J1 x3 H5 k7 →
∃ (n4:Int),
(X none).rd1 H5 x3.2.2 2 = some (int i64 n4) ∧
bif decide (n4 ≥ (↑s.length : Int)) then
∃ (x4 : Int × Nat × Nat),
∃ (k8:Nat),
k8 < k7 ∧
[int i64 d, str s, ptr (some (x3.2.1, 0)), int i64 0, ptr (some (x3.2.2, 0)), int i64 x3.1] =
[int i64 d, str s, ptr (some (x4.2.1, 0)), int i64 0, ptr (some (x4.2.2, 0)), int i64 x4.1] ∧
J0 x4 H5 k8
else
∃ (q3 : Option (Nat × Nat)),
∃ (k9 k10:Nat),
(X none).rd1 H5 x3.2.2 3 = some (slice q3 k9 k10) ∧
bif decide ((↑k9 : Int) > (4096:Int)) then
[str [], slice none 0 0, str [], int i64 0].length = 4 ∧
∃ (H6:AH),
(X none).wr H5 x3.2.1 0 [str [], slice none 0 0, str [], int i64 0] = some H6 ∧
∃ (s5 : List UInt8),
∃ (q4 : Option (Nat × Nat)),
∃ (k11 k12:Nat),
∃ (s6 : List UInt8),
∃ (n5:Int),
(X none).rdn H6 x3.2.1 0 4 = some [str s5, slice q4 k11 k12, str s6, int i64 n5] ∧
Q (tuple [agg [str s5, slice q4 k11 k12, str s6, int i64 n5], int i64 3]) H6
else
∃ (n6:Int),
(X none).rd1 H5 x3.2.2 2 = some (int i64 n6) ∧
((0:Int) ≤ n6 ∧ n6 < (↑s.length : Int)) ∧
bif (↑(s[n6.toNat]?.getD (0:UInt8)).toNat : Int) == (60:Int) && (d == (1:Int) || d == (2:Int)) then
∃ (n7:Int),
(X none).rd1 H5 x3.2.2 2 = some (int i64 n7) ∧
((0:Int) ≤ n7 ∧ n7 ≤ (↑s.length : Int) ∧ (↑s.length : Int) ≤ (↑s.length : Int)) ∧
(X none).call (23:Nat) [ptr (some (x3.2.2, (0:Nat))), str (List.take ((↑s.length : Int) - n7).toNat (List.drop n7.toNat s))] H5 fun (v2:AV) (H7:AH) =>
∃ (n8:Int),
v2 = int i64 n8 ∧
bif decide (n8 > (0:Int)) then
∃ (n9:Int),
(X none).rd1 H7 x3.2.2 2 = some (int i64 n9) ∧
[int i64 ((X none).wrap i64 (n9 + n8))].length = 1 ∧
∃ (H8:AH),
(X none).wr H7 x3.2.2 2 [int i64 ((X none).wrap i64 (n9 + n8))] = some H8 ∧
∃ (x5 : Int × Nat × Nat),
∃ (k13:Nat),
k13 < k7 ∧
[int i64 d, str s, ptr (some (x3.2.1, 0)), int i64 0, ptr (some (x3.2.2, 0)), int i64 n8] =
[int i64 d, str s, ptr (some (x5.2.1, 0)), int i64 0, ptr (some (x5.2.2, 0)), int i64 x5.1] ∧
J1 x5 H8 k13
else
∃ (x6 : Int × Nat × Nat),
∃ (k14:Nat),
k14 < k7 ∧
[int i64 d, str s, ptr (some (x3.2.1, 0)), int i64 0, ptr (some (x3.2.2, 0)), int i64 n8] =
[int i64 d, str s, ptr (some (x6.2.1, 0)), int i64 0, ptr (some (x6.2.2, 0)), int i64 x6.1] ∧
J2 x6 H7 k14
else
bif (↑(s[n6.toNat]?.getD (0:UInt8)).toNat : Int) == (38:Int) && d == (2:Int) then
∃ (n10:Int),
(X none).rd1 H5 x3.2.2 2 = some (int i64 n10) ∧
((0:Int) ≤ n10 ∧ n10 ≤ (↑s.length : Int) ∧ (↑s.length : Int) ≤ (↑s.length : Int)) ∧
(X none).call (24:Nat) [str (List.take ((↑s.length : Int) - n10).toNat (List.drop n10.toNat s))] H5 fun (v3:AV) (H9:AH) =>
∃ (s7 : List UInt8),
∃ (n11:Int),
v3 = tuple [str s7, int i64 n11] ∧
bif n11 == (0:Int) then
∃ (x7 : Int × Nat × Nat),
∃ (k15:Nat),
k15 < k7 ∧
[int i64 d, str s, ptr (some (x3.2.1, 0)), int i64 0, ptr (some (x3.2.2, 0)), int i64 x3.1] =
[int i64 d, str s, ptr (some (x7.2.1, 0)), int i64 0, ptr (some (x7.2.2, 0)), int i64 x7.1] ∧
J2 x7 H9 k15
else
(X none).call 25 [ptr (some (x3.2.2, 0)), str s7] H9 fun (_v4:AV) (H10:AH) =>
∃ (n12:Int),
(X none).rd1 H10 x3.2.2 2 = some (int i64 n12) ∧
[int i64 ((X none).wrap i64 (n12 + n11))].length = 1 ∧
∃ (H11:AH),
(X none).wr H10 x3.2.2 2 [int i64 ((X none).wrap i64 (n12 + n11))] = some H11 ∧
∃ (x8 : Int × Nat × Nat),
∃ (k16:Nat),
k16 < k7 ∧
[int i64 d, str s, ptr (some (x3.2.1, 0)), int i64 0, ptr (some (x3.2.2, 0)), int i64 x3.1] =
[int i64 d, str s, ptr (some (x8.2.1, 0)), int i64 0, ptr (some (x8.2.2, 0)),
int i64 x8.1] ∧
J1 x8 H11 k16
else
bif (↑(s[n6.toNat]?.getD (0:UInt8)).toNat : Int) == (124:Int) && d == (3:Int) then
(X none).call 25 [ptr (some (x3.2.2, 0)), str [(10:UInt8)]] H5 fun (_v5:AV) (H12:AH) =>
[bool false, bool false, bool false, bool false, int i64 0].length = 5 ∧
∃ (H13:AH),
(X none).wr H12 x3.2.2 11 [bool false, bool false, bool false, bool false, int i64 0] = some H13 ∧
1 = 1 ∧
∃ (H14:AH),
(X none).wr H13 x3.2.2 16 [bool true] = some H14 ∧
∃ (n13:Int),
(X none).rd1 H14 x3.2.2 2 = some (int i64 n13) ∧
[int i64 ((X none).wrap i64 (n13 + (1:Int)))].length = 1 ∧
∃ (H15:AH),
(X none).wr H14 x3.2.2 2 [int i64 ((X none).wrap i64 (n13 + (1:Int)))] = some H15 ∧
∃ (x9 : Int × Nat × Nat),
∃ (k17:Nat),
k17 < k7 ∧
[int i64 d, str s, ptr (some (x3.2.1, 0)), int i64 0, ptr (some (x3.2.2, 0)), int i64 x3.1] =
[int i64 d, str s, ptr (some (x9.2.1, 0)), int i64 0, ptr (some (x9.2.2, 0)), int i64 x9.1] ∧
J1 x9 H15 k17
else
∃ (b1:Bool),
(X none).rd1 H5 x3.2.2 16 = some (bool b1) ∧
bif (↑(s[n6.toNat]?.getD (0:UInt8)).toNat : Int) == (123:Int) && d == (3:Int) && b1 then
∃ (n14:Int),
(X none).rd1 H5 x3.2.2 2 = some (int i64 n14) ∧
((0:Int) ≤ n14 ∧ n14 ≤ (↑s.length : Int) ∧ (↑s.length : Int) ≤ (↑s.length : Int)) ∧
(X none).call (26:Nat) [ptr (some (x3.2.2, (0:Nat))), str (List.take ((↑s.length : Int) - n14).toNat (List.drop n14.toNat s))] H5 fun (v6:AV) (H16:AH) =>
∃ (n15:Int),
v6 = int i64 n15 ∧
bif decide (n15 > (0:Int)) then
∃ (n16:Int),
(X none).rd1 H16 x3.2.2 2 = some (int i64 n16) ∧
[int i64 ((X none).wrap i64 (n16 + n15))].length = 1 ∧
∃ (H17:AH),
(X none).wr H16 x3.2.2 2 [int i64 ((X none).wrap i64 (n16 + n15))] = some H17 ∧
∃ (x10 : Int × Nat × Nat),
∃ (k18:Nat),
k18 < k7 ∧
[int i64 d, str s, ptr (some (x3.2.1, 0)), int i64 0, ptr (some (x3.2.2, 0)), int i64 n15] =
[int i64 d, str s, ptr (some (x10.2.1, 0)), int i64 0, ptr (some (x10.2.2, 0)),
int i64 x10.1] ∧
J1 x10 H17 k18
else
∃ (x11 : Int × Nat × Nat),
∃ (k19:Nat),
k19 < k7 ∧
[int i64 d, str s, ptr (some (x3.2.1, 0)), int i64 0, ptr (some (x3.2.2, 0)), int i64 n15] =
[int i64 d, str s, ptr (some (x11.2.1, 0)), int i64 0, ptr (some (x11.2.2, 0)), int i64 x11.1] ∧
J2 x11 H16 k19
else
∃ (n17:Int),
(X none).rd1 H5 x3.2.2 2 = some (int i64 n17) ∧
((((↑(s[n6.toNat]?.getD (0:UInt8)).toNat : Int) == (92:Int) && d == (4:Int)) == true) = true → (0:Int) ≤ n17 ∧ n17 ≤ (↑s.length : Int) ∧ (↑s.length : Int) ≤ (↑s.length : Int)) ∧
bif ((↑(s[n6.toNat]?.getD (0:UInt8)).toNat : Int) == (92:Int) && d == (4:Int)) == true then
(X none).call (27:Nat) [str (List.take ((↑s.length : Int) - n17).toNat (List.drop n17.toNat s)), str [(92:UInt8), (78:UInt8)]] H5 fun (v7:AV) (H18:AH) =>
∃ (b2:Bool),
v7 = bool b2 ∧
bif b2 then
(X none).call 25 [ptr (some (x3.2.2, 0)), str [(10:UInt8)]] H18 fun (_v8:AV) (H19:AH) =>
∃ (n18:Int),
(X none).rd1 H19 x3.2.2 2 = some (int i64 n18) ∧
[int i64 ((X none).wrap i64 (n18 + (2:Int)))].length = 1 ∧
∃ (H20:AH),
(X none).wr H19 x3.2.2 2 [int i64 ((X none).wrap i64 (n18 + (2:Int)))] = some H20 ∧
∃ (x12 : Int × Nat × Nat),
∃ (k20:Nat),
k20 < k7 ∧
[int i64 d, str s, ptr (some (x3.2.1, 0)), int i64 0, ptr (some (x3.2.2, 0)),
int i64 x3.1] =
[int i64 d, str s, ptr (some (x12.2.1, 0)), int i64 0, ptr (some (x12.2.2, 0)),
int i64 x12.1] ∧
J1 x12 H20 k20
else
bif (↑(s[n6.toNat]?.getD (0:UInt8)).toNat : Int) == (123:Int) && d == (4:Int) then
∃ (n19:Int),
(X none).rd1 H18 x3.2.2 2 = some (int i64 n19) ∧
((0:Int) ≤ n19 ∧ n19 ≤ (↑s.length : Int) ∧ (↑s.length : Int) ≤ (↑s.length : Int)) ∧
(X none).call (28:Nat) [ptr (some (x3.2.2, (0:Nat))), str (List.take ((↑s.length : Int) - n19).toNat (List.drop n19.toNat s))] H18 fun (v9:AV) (H21:AH) =>
∃ (n20:Int),
v9 = int i64 n20 ∧
bif decide (n20 > (0:Int)) then
∃ (n21:Int),
(X none).rd1 H21 x3.2.2 2 = some (int i64 n21) ∧
[int i64 ((X none).wrap i64 (n21 + n20))].length = 1 ∧
∃ (H22:AH),
(X none).wr H21 x3.2.2 2 [int i64 ((X none).wrap i64 (n21 + n20))] = some H22 ∧
∃ (x13 : Int × Nat × Nat),
∃ (k21:Nat),
k21 < k7 ∧
[int i64 d, str s, ptr (some (x3.2.1, 0)), int i64 0, ptr (some (x3.2.2, 0)),
int i64 n20] =
[int i64 d, str s, ptr (some (x13.2.1, 0)), int i64 0, ptr (some (x13.2.2, 0)),
int i64 x13.1] ∧
J1 x13 H22 k21
else
∃ (x14 : Int × Nat × Nat),
∃ (k22:Nat),
k22 < k7 ∧
[int i64 d, str s, ptr (some (x3.2.1, 0)), int i64 0, ptr (some (x3.2.2, 0)),
int i64 n20] =
[int i64 d, str s, ptr (some (x14.2.1, 0)), int i64 0, ptr (some (x14.2.2, 0)),
int i64 x14.1] ∧
J2 x14 H21 k22
else
∃ (x15 : Int × Nat × Nat),
∃ (k23:Nat),
k23 < k7 ∧
[int i64 d, str s, ptr (some (x3.2.1, 0)), int i64 0, ptr (some (x3.2.2, 0)), int i64 x3.1] =
[int i64 d, str s, ptr (some (x15.2.1, 0)), int i64 0, ptr (some (x15.2.2, 0)),
int i64 x15.1] ∧
J2 x15 H18 k23
else
bif (↑(s[n6.toNat]?.getD (0:UInt8)).toNat : Int) == (123:Int) && d == (4:Int) then
∃ (n22:Int),
(X none).rd1 H5 x3.2.2 2 = some (int i64 n22) ∧
((0:Int) ≤ n22 ∧ n22 ≤ (↑s.length : Int) ∧ (↑s.length : Int) ≤ (↑s.length : Int)) ∧
(X none).call (28:Nat) [ptr (some (x3.2.2, (0:Nat))), str (List.take ((↑s.length : Int) - n22).toNat (List.drop n22.toNat s))] H5 fun (v10:AV) (H23:AH) =>
∃ (n23:Int),
v10 = int i64 n23 ∧
bif decide (n23 > (0:Int)) then
∃ (n24:Int),
(X none).rd1 H23 x3.2.2 2 = some (int i64 n24) ∧
[int i64 ((X none).wrap i64 (n24 + n23))].length = 1 ∧
∃ (H24:AH),
(X none).wr H23 x3.2.2 2 [int i64 ((X none).wrap i64 (n24 + n23))] = some H24 ∧
∃ (x16 : Int × Nat × Nat),
∃ (k24:Nat),
k24 < k7 ∧
[int i64 d, str s, ptr (some (x3.2.1, 0)), int i64 0, ptr (some (x3.2.2, 0)),
int i64 n23] =
[int i64 d, str s, ptr (some (x16.2.1, 0)), int i64 0, ptr (some (x16.2.2, 0)),
int i64 x16.1] ∧
J1 x16 H24 k24
else
∃ (x17 : Int × Nat × Nat),
∃ (k25:Nat),
k25 < k7 ∧
[int i64 d, str s, ptr (some (x3.2.1, 0)), int i64 0, ptr (some (x3.2.2, 0)), int i64 n23] =
[int i64 d, str s, ptr (some (x17.2.1, 0)), int i64 0, ptr (some (x17.2.2, 0)),
int i64 x17.1] ∧
J2 x17 H23 k25
else
∃ (x18 : Int × Nat × Nat),
∃ (k26:Nat),
k26 < k7 ∧
[int i64 d, str s, ptr (some (x3.2.1, 0)), int i64 0, ptr (some (x3.2.2, 0)), int i64 x3.1] =
[int i64 d, str s, ptr (some (x18.2.1, 0)), int i64 0, ptr (some (x18.2.2, 0)), int i64 x18.1] ∧
J2 x18 H5 k26) ∧
(∀ (x19 : Int × Nat × Nat) (H25:AH) (k27:Nat),
J2 x19 H25 k27 →
∃ (n25:Int),
(X none).rd1 H25 x19.2.2 2 = some (int i64 n25) ∧
∃ (n26:Int),
(X none).rd1 H25 x19.2.2 2 = some (int i64 n26) ∧
((0:Int) ≤ n25 ∧
(n25 ≤ if (X none).wrap i64 (n26 + (4:Int)) < (↑s.length : Int) then (X none).wrap i64 (n26 + (4:Int)) else (↑s.length : Int)) ∧
(if (X none).wrap i64 (n26 + (4:Int)) < (↑s.length : Int) then (X none).wrap i64 (n26 + (4:Int)) else (↑s.length : Int)) ≤ (↑s.length : Int)) ∧
(X none).call 29
[str (List.take ((if (X none).wrap i64 (n26 + (4:Int)) < (↑s.length : Int) then (X none).wrap i64 (n26 + (4:Int)) else (↑s.length : Int)) - n25).toNat (List.drop n25.toNat s))] H25
fun (v11:AV) (H26:AH) =>
∃ (s8 : List UInt8),
v11 = str s8 ∧
(X none).call 25 [ptr (some (x19.2.2, 0)), str s8] H26 fun (_v12:AV) (H27:AH) =>
∃ (n27:Int),
(X none).rd1 H27 x19.2.2 2 = some (int i64 n27) ∧
[int i64 ((X none).wrap i64 (n27 + (↑s8.length : Int)))].length = (1:Nat) ∧
∃ (H28:AH),
(X none).wr H27 x19.2.2 (2:Nat) [int i64 ((X none).wrap i64 (n27 + (↑s8.length : Int)))] = some H28 ∧
1 = 1 ∧
∃ (H29:AH),
(X none).wr H28 x19.2.2 16 [bool false] = some H29 ∧
∃ (x20 : Int × Nat × Nat),
∃ (k28:Nat),
k28 < k27 ∧
[int i64 d, str s, ptr (some (x19.2.1, 0)), int i64 0, ptr (some (x19.2.2, 0)), int i64 x19.1] =
[int i64 d, str s, ptr (some (x20.2.1, 0)), int i64 0, ptr (some (x20.2.2, 0)), int i64 x20.1] ∧
J1 x20 H29 k28) ∧
∀ (x21 : Int × Nat × Nat) (H30:AH) (k29:Nat),
J0 x21 H30 k29 →
∃ (q5 : Option (Nat × Nat)),
∃ (k30 k31:Nat),
(X none).rd1 H30 x21.2.2 4 = some (slice q5 k30 k31) ∧
(X none).call 30 [slice q5 k30 k31] H30 fun (v13:AV) (H31:AH) =>
∃ (s9 : List UInt8),
∃ (q6 : Option (Nat × Nat)),
∃ (k32 k33:Nat),
∃ (n28:Int),
v13 = tuple [agg [str s9, slice q6 k32 k33], int i64 n28] ∧
[str s9, slice q6 k32 k33].length = 2 ∧
∃ (H32:AH),
(X none).wr ((X none).al H31 (cells [str [], slice none 0 0] 26 { whole := true })) ((X none).n H31) 0 [str s9, slice q6 k32 k33] = some H32 ∧
bif n28 != (0:Int) then
[str [], slice none 0 0, str [], int i64 0].length = 4 ∧
∃ (H33:AH),
(X none).wr H32 x21.2.1 0 [str [], slice none 0 0, str [], int i64 0] = some H33 ∧
∃ (s10 : List UInt8),
∃ (q7 : Option (Nat × Nat)),
∃ (k34 k35:Nat),
∃ (s11 : List UInt8),
∃ (n29:Int),
(X none).rdn H33 x21.2.1 0 4 = some [str s10, slice q7 k34 k35, str s11, int i64 n29] ∧
Q (tuple [agg [str s10, slice q7 k34 k35, str s11, int i64 n29], int i64 n28]) H33
else
∃ (s12 : List UInt8),
∃ (q8 : Option (Nat × Nat)),
∃ (k36 k37:Nat),
(X none).rdn H32 ((X none).n H31) 0 2 = some [str s12, slice q8 k36 k37] ∧
∃ (s13 : List UInt8),
(X none).rd1 H32 x21.2.2 17 = some (str s13) ∧
∃ (n30:Int),
(X none).rd1 H32 x21.2.2 18 = some (int i64 n30) ∧
[str s12, slice q8 k36 k37, str s13, int i64 n30].length = 4 ∧
∃ (H34:AH),
(X none).wr H32 x21.2.1 0 [str s12, slice q8 k36 k37, str s13, int i64 n30] = some H34 ∧
∃ (s14 : List UInt8),
∃ (q9 : Option (Nat × Nat)),
∃ (k38 k39:Nat),
∃ (s15 : List UInt8),
∃ (n31:Int),
(X none).rdn H34 x21.2.1 0 4 = some [str s14, slice q9 k38 k39, str s15, int i64 n31] ∧
Q (tuple [agg [str s14, slice q9 k38 k39, str s15, int i64 n31], int i64 0]) H34) := by kernel_rfl

end Go.Proofs.YtlkdhhkncoekgaaDoor
