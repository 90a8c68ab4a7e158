/- What functions ask: RefVc. -/
import Derived.Test.YtlkdhhkncoekgaaDoorAmTri
import Derived.Test.YtlkdhhkncoekgaaDoorTabs
namespace Go.Proofs.YtlkdhhkncoekgaaDoor
open Go.Am Go
open _root_.Go.Am.AV (int slice ptr str bool agg tuple)
open _root_.Go.IntKind (i64 i32 u8 u64)
open _root_.Go.Am.AObj (cells)

theorem rWithin_vc (X:Atoms) (xf xt xk xv yf yt yk yv : Int) (H:AH) (Q : AV → AH → Prop) : (vcF X Tryd.prog [] 71 [.agg [.int .i64 xf, .int .i64 xt, .int .i64 xk, .int .i64 xv], .agg [.int .i64 yf, .int .i64 yt, .int .i64 yk, .int .i64 yv]] H Q) =
(true = true ∧
true = true ∧
∃ (n1:Int),
X.rd1
(X.al (X.al H (cells [int i64 xf, int i64 xt, int i64 xk, int i64 xv] 41 { whole := true }))
(cells [int i64 yf, int i64 yt, int i64 yk, int i64 yv] 41 { whole := true }))
(X.n H) 0 =
some (int i64 n1) ∧
∃ (n2:Int),
X.rd1
(X.al (X.al H (cells [int i64 xf, int i64 xt, int i64 xk, int i64 xv] 41 { whole := true }))
(cells [int i64 yf, int i64 yt, int i64 yk, int i64 yv] 41 { whole := true }))
(X.n (X.al H (cells [int i64 xf, int i64 xt, int i64 xk, int i64 xv] 41 { whole := true }))) 0 =
some (int i64 n2) ∧
∃ (n3:Int),
X.rd1
(X.al (X.al H (cells [int i64 xf, int i64 xt, int i64 xk, int i64 xv] 41 { whole := true }))
(cells [int i64 yf, int i64 yt, int i64 yk, int i64 yv] 41 { whole := true }))
(X.n H) 1 =
some (int i64 n3) ∧
∃ (n4:Int),
X.rd1
(X.al (X.al H (cells [int i64 xf, int i64 xt, int i64 xk, int i64 xv] 41 { whole := true }))
(cells [int i64 yf, int i64 yt, int i64 yk, int i64 yv] 41 { whole := true }))
(X.n (X.al H (cells [int i64 xf, int i64 xt, int i64 xk, int i64 xv] 41 { whole := true }))) 1 =
some (int i64 n4) ∧
Q (bool (decide (n1 ≥ n2) && decide (n3 ≤ n4)))
(X.al (X.al H (cells [int i64 xf, int i64 xt, int i64 xk, int i64 xv] 41 { whole := true }))
(cells [int i64 yf, int i64 yt, int i64 yk, int i64 yv] 41 { whole := true }))) := by kernel_rfl

theorem rCross_vc (X:Atoms) (xf xt xk xv yf yt yk yv : Int) (H:AH) (Q : AV → AH → Prop) : (vcF X Tryd.prog [] 57 [.agg [.int .i64 xf, .int .i64 xt, .int .i64 xk, .int .i64 xv], .agg [.int .i64 yf, .int .i64 yt, .int .i64 yk, .int .i64 yv]] H Q) =
(true = true ∧
true = true ∧
∃ (n1:Int),
X.rd1
(X.al (X.al H (cells [int i64 xf, int i64 xt, int i64 xk, int i64 xv] 41 { whole := true }))
(cells [int i64 yf, int i64 yt, int i64 yk, int i64 yv] 41 { whole := true }))
(X.n H) 0 =
some (int i64 n1) ∧
∃ (n2:Int),
X.rd1
(X.al (X.al H (cells [int i64 xf, int i64 xt, int i64 xk, int i64 xv] 41 { whole := true }))
(cells [int i64 yf, int i64 yt, int i64 yk, int i64 yv] 41 { whole := true }))
(X.n (X.al H (cells [int i64 xf, int i64 xt, int i64 xk, int i64 xv] 41 { whole := true }))) 1 =
some (int i64 n2) ∧
∃ (n3:Int),
X.rd1
(X.al (X.al H (cells [int i64 xf, int i64 xt, int i64 xk, int i64 xv] 41 { whole := true }))
(cells [int i64 yf, int i64 yt, int i64 yk, int i64 yv] 41 { whole := true }))
(X.n (X.al H (cells [int i64 xf, int i64 xt, int i64 xk, int i64 xv] 41 { whole := true }))) 0 =
some (int i64 n3) ∧
∃ (n4:Int),
X.rd1
(X.al (X.al H (cells [int i64 xf, int i64 xt, int i64 xk, int i64 xv] 41 { whole := true }))
(cells [int i64 yf, int i64 yt, int i64 yk, int i64 yv] 41 { whole := true }))
(X.n H) 1 =
some (int i64 n4) ∧
∃ (n5 n6 n7 n8:Int),
X.rdn
(X.al (X.al H (cells [int i64 xf, int i64 xt, int i64 xk, int i64 xv] 41 { whole := true }))
(cells [int i64 yf, int i64 yt, int i64 yk, int i64 yv] 41 { whole := true }))
(X.n H) 0 4 =
some [int i64 n5, int i64 n6, int i64 n7, int i64 n8] ∧
∃ (n9 n10 n11 n12:Int),
X.rdn
(X.al (X.al H (cells [int i64 xf, int i64 xt, int i64 xk, int i64 xv] 41 { whole := true }))
(cells [int i64 yf, int i64 yt, int i64 yk, int i64 yv] 41 { whole := true }))
(X.n (X.al H (cells [int i64 xf, int i64 xt, int i64 xk, int i64 xv] 41 { whole := true }))) 0 4 =
some [int i64 n9, int i64 n10, int i64 n11, int i64 n12] ∧
bif (decide (n1 < n2) && decide (n3 < n4)) == true then
X.call 71
[agg [int i64 n5, int i64 n6, int i64 n7, int i64 n8],
agg [int i64 n9, int i64 n10, int i64 n11, int i64 n12]]
(X.al (X.al H (cells [int i64 xf, int i64 xt, int i64 xk, int i64 xv] 41 { whole := true }))
(cells [int i64 yf, int i64 yt, int i64 yk, int i64 yv] 41 { whole := true }))
fun (v1:AV) (H1:AH) =>
∃ (b1:Bool),
v1 = bool b1 ∧
∃ (n13 n14 n15 n16:Int),
X.rdn H1 (X.n (X.al H (cells [int i64 xf, int i64 xt, int i64 xk, int i64 xv] 41 { whole := true }))) 0 4 =
some [int i64 n13, int i64 n14, int i64 n15, int i64 n16] ∧
∃ (n17 n18 n19 n20:Int),
X.rdn H1 (X.n H) 0 4 = some [int i64 n17, int i64 n18, int i64 n19, int i64 n20] ∧
bif (!b1) == true then
X.call 71
[agg [int i64 n13, int i64 n14, int i64 n15, int i64 n16],
agg [int i64 n17, int i64 n18, int i64 n19, int i64 n20]]
H1 fun (v2:AV) (H2:AH) => ∃ (b2:Bool), v2 = bool b2 ∧ Q (bool !b2) H2
else Q (bool false) H1
else
∃ (n21 n22 n23 n24:Int),
X.rdn
(X.al (X.al H (cells [int i64 xf, int i64 xt, int i64 xk, int i64 xv] 41 { whole := true }))
(cells [int i64 yf, int i64 yt, int i64 yk, int i64 yv] 41 { whole := true }))
(X.n (X.al H (cells [int i64 xf, int i64 xt, int i64 xk, int i64 xv] 41 { whole := true }))) 0 4 =
some [int i64 n21, int i64 n22, int i64 n23, int i64 n24] ∧
∃ (n25 n26 n27 n28:Int),
X.rdn
(X.al (X.al H (cells [int i64 xf, int i64 xt, int i64 xk, int i64 xv] 41 { whole := true }))
(cells [int i64 yf, int i64 yt, int i64 yk, int i64 yv] 41 { whole := true }))
(X.n H) 0 4 =
some [int i64 n25, int i64 n26, int i64 n27, int i64 n28] ∧
Q (bool false)
(X.al (X.al H (cells [int i64 xf, int i64 xt, int i64 xk, int i64 xv] 41 { whole := true }))
(cells [int i64 yf, int i64 yt, int i64 yk, int i64 yv] 41 { whole := true }))) := by kernel_rfl

theorem rAhead_vc (X:Atoms) (xf xt xk xv yf yt yk yv : Int) (H:AH) (Q : AV → AH → Prop) : (vcF X Tryd.prog [] 94 [.agg [.int .i64 xf, .int .i64 xt, .int .i64 xk, .int .i64 xv], .agg [.int .i64 yf, .int .i64 yt, .int .i64 yk, .int .i64 yv]] H Q) =
(true = true ∧
true = true ∧
∃ (n1:Int),
X.rd1
(X.al (X.al H (cells [int i64 xf, int i64 xt, int i64 xk, int i64 xv] 41 { whole := true }))
(cells [int i64 yf, int i64 yt, int i64 yk, int i64 yv] 41 { whole := true }))
(X.n H) 0 =
some (int i64 n1) ∧
∃ (n2:Int),
X.rd1
(X.al (X.al H (cells [int i64 xf, int i64 xt, int i64 xk, int i64 xv] 41 { whole := true }))
(cells [int i64 yf, int i64 yt, int i64 yk, int i64 yv] 41 { whole := true }))
(X.n (X.al H (cells [int i64 xf, int i64 xt, int i64 xk, int i64 xv] 41 { whole := true }))) 0 =
some (int i64 n2) ∧
bif n1 != n2 then
∃ (n3:Int),
X.rd1
(X.al (X.al H (cells [int i64 xf, int i64 xt, int i64 xk, int i64 xv] 41 { whole := true }))
(cells [int i64 yf, int i64 yt, int i64 yk, int i64 yv] 41 { whole := true }))
(X.n H) 0 =
some (int i64 n3) ∧
∃ (n4:Int),
X.rd1
(X.al (X.al H (cells [int i64 xf, int i64 xt, int i64 xk, int i64 xv] 41 { whole := true }))
(cells [int i64 yf, int i64 yt, int i64 yk, int i64 yv] 41 { whole := true }))
(X.n (X.al H (cells [int i64 xf, int i64 xt, int i64 xk, int i64 xv] 41 { whole := true }))) 0 =
some (int i64 n4) ∧
Q (bool (decide (n3 < n4)))
(X.al (X.al H (cells [int i64 xf, int i64 xt, int i64 xk, int i64 xv] 41 { whole := true }))
(cells [int i64 yf, int i64 yt, int i64 yk, int i64 yv] 41 { whole := true }))
else
∃ (n5:Int),
X.rd1
(X.al (X.al H (cells [int i64 xf, int i64 xt, int i64 xk, int i64 xv] 41 { whole := true }))
(cells [int i64 yf, int i64 yt, int i64 yk, int i64 yv] 41 { whole := true }))
(X.n H) 1 =
some (int i64 n5) ∧
∃ (n6:Int),
X.rd1
(X.al (X.al H (cells [int i64 xf, int i64 xt, int i64 xk, int i64 xv] 41 { whole := true }))
(cells [int i64 yf, int i64 yt, int i64 yk, int i64 yv] 41 { whole := true }))
(X.n (X.al H (cells [int i64 xf, int i64 xt, int i64 xk, int i64 xv] 41 { whole := true }))) 1 =
some (int i64 n6) ∧
bif n5 != n6 then
∃ (n7:Int),
X.rd1
(X.al (X.al H (cells [int i64 xf, int i64 xt, int i64 xk, int i64 xv] 41 { whole := true }))
(cells [int i64 yf, int i64 yt, int i64 yk, int i64 yv] 41 { whole := true }))
(X.n H) 1 =
some (int i64 n7) ∧
∃ (n8:Int),
X.rd1
(X.al (X.al H (cells [int i64 xf, int i64 xt, int i64 xk, int i64 xv] 41 { whole := true }))
(cells [int i64 yf, int i64 yt, int i64 yk, int i64 yv] 41 { whole := true }))
(X.n (X.al H (cells [int i64 xf, int i64 xt, int i64 xk, int i64 xv] 41 { whole := true }))) 1 =
some (int i64 n8) ∧
Q (bool (decide (n7 > n8)))
(X.al (X.al H (cells [int i64 xf, int i64 xt, int i64 xk, int i64 xv] 41 { whole := true }))
(cells [int i64 yf, int i64 yt, int i64 yk, int i64 yv] 41 { whole := true }))
else
∃ (n9:Int),
X.rd1
(X.al (X.al H (cells [int i64 xf, int i64 xt, int i64 xk, int i64 xv] 41 { whole := true }))
(cells [int i64 yf, int i64 yt, int i64 yk, int i64 yv] 41 { whole := true }))
(X.n H) 2 =
some (int i64 n9) ∧
∃ (n10:Int),
X.rd1
(X.al (X.al H (cells [int i64 xf, int i64 xt, int i64 xk, int i64 xv] 41 { whole := true }))
(cells [int i64 yf, int i64 yt, int i64 yk, int i64 yv] 41 { whole := true }))
(X.n (X.al H (cells [int i64 xf, int i64 xt, int i64 xk, int i64 xv] 41 { whole := true }))) 2 =
some (int i64 n10) ∧
Q (bool (decide (n9 < n10)))
(X.al (X.al H (cells [int i64 xf, int i64 xt, int i64 xk, int i64 xv] 41 { whole := true }))
(cells [int i64 yf, int i64 yt, int i64 yk, int i64 yv] 41 { whole := true }))) := by kernel_rfl

theorem rFits_vc (X:Atoms) (xf xt xk xv : Int) (n:Int) (H:AH) (Q : AV → AH → Prop) : (vcF X Tryd.prog [] 56 [.agg [.int .i64 xf, .int .i64 xt, .int .i64 xk, .int .i64 xv], .int .i64 n] H Q) =
(true = true ∧
∃ (n1:Int),
X.rd1 (X.al H (cells [int i64 xf, int i64 xt, int i64 xk, int i64 xv] 41 { whole := true })) (X.n H) 0 = some (int i64 n1) ∧
∃ (n2:Int),
X.rd1 (X.al H (cells [int i64 xf, int i64 xt, int i64 xk, int i64 xv] 41 { whole := true })) (X.n H) 1 = some (int i64 n2) ∧
∃ (n3:Int),
X.rd1 (X.al H (cells [int i64 xf, int i64 xt, int i64 xk, int i64 xv] 41 { whole := true })) (X.n H) 0 = some (int i64 n3) ∧
∃ (n4:Int),
X.rd1 (X.al H (cells [int i64 xf, int i64 xt, int i64 xk, int i64 xv] 41 { whole := true })) (X.n H) 1 = some (int i64 n4) ∧
∃ (n5:Int),
X.rd1 (X.al H (cells [int i64 xf, int i64 xt, int i64 xk, int i64 xv] 41 { whole := true })) (X.n H) 2 = some (int i64 n5) ∧
∃ (n6:Int),
X.rd1 (X.al H (cells [int i64 xf, int i64 xt, int i64 xk, int i64 xv] 41 { whole := true })) (X.n H) 2 = some (int i64 n6) ∧
bif decide (n1 < (0:Int)) || decide (n2 > n) || decide (n3 ≥ n4) || decide (n5 < (1:Int)) || decide (n6 > (5:Int)) then
Q (bool false) (X.al H (cells [int i64 xf, int i64 xt, int i64 xk, int i64 xv] 41 { whole := true }))
else
∃ (n7:Int),
X.rd1 (X.al H (cells [int i64 xf, int i64 xt, int i64 xk, int i64 xv] 41 { whole := true })) (X.n H) 2 = some (int i64 n7) ∧
bif n7 == (5:Int) then
∃ (n8:Int),
X.rd1 (X.al H (cells [int i64 xf, int i64 xt, int i64 xk, int i64 xv] 41 { whole := true })) (X.n H) 3 = some (int i64 n8) ∧
∃ (n9:Int),
X.rd1 (X.al H (cells [int i64 xf, int i64 xt, int i64 xk, int i64 xv] 41 { whole := true })) (X.n H) 3 = some (int i64 n9) ∧
Q (bool (decide (n8 ≥ (0:Int)) && decide (n9 ≤ (16777215:Int))))
(X.al H (cells [int i64 xf, int i64 xt, int i64 xk, int i64 xv] 41 { whole := true }))
else
∃ (n10:Int),
X.rd1 (X.al H (cells [int i64 xf, int i64 xt, int i64 xk, int i64 xv] 41 { whole := true })) (X.n H) 3 = some (int i64 n10) ∧
Q (bool (n10 == (0:Int))) (X.al H (cells [int i64 xf, int i64 xt, int i64 xk, int i64 xv] 41 { whole := true }))) := by kernel_rfl

theorem rHas_vc (X:Atoms) (b i u k : Bool) (c n : Int) (H:AH) (Q : AV → AH → Prop) : (vcF X Tryd.prog [] 80 [.agg [.bool b, .bool i, .bool u, .bool k, .int .i64 c], .int .i64 n] H Q) =
(true = true ∧
bif n == (1:Int) then
∃ (b1:Bool),
X.rd1 (X.al H (cells [bool b, bool i, bool u, bool k, int i64 c] 53 { whole := true })) (X.n H) 0 = some (bool b1) ∧
bif b1 then Q (int i64 1) (X.al H (cells [bool b, bool i, bool u, bool k, int i64 c] 53 { whole := true }))
else Q (int i64 0) (X.al H (cells [bool b, bool i, bool u, bool k, int i64 c] 53 { whole := true }))
else
bif n == (2:Int) then
∃ (b2:Bool),
X.rd1 (X.al H (cells [bool b, bool i, bool u, bool k, int i64 c] 53 { whole := true })) (X.n H) 1 = some (bool b2) ∧
bif b2 then Q (int i64 1) (X.al H (cells [bool b, bool i, bool u, bool k, int i64 c] 53 { whole := true }))
else Q (int i64 0) (X.al H (cells [bool b, bool i, bool u, bool k, int i64 c] 53 { whole := true }))
else
bif n == (3:Int) then
∃ (b3:Bool),
X.rd1 (X.al H (cells [bool b, bool i, bool u, bool k, int i64 c] 53 { whole := true })) (X.n H) 2 = some (bool b3) ∧
bif b3 then Q (int i64 1) (X.al H (cells [bool b, bool i, bool u, bool k, int i64 c] 53 { whole := true }))
else Q (int i64 0) (X.al H (cells [bool b, bool i, bool u, bool k, int i64 c] 53 { whole := true }))
else
bif n == (4:Int) then
∃ (b4:Bool),
X.rd1 (X.al H (cells [bool b, bool i, bool u, bool k, int i64 c] 53 { whole := true })) (X.n H) 3 = some (bool b4) ∧
bif b4 then Q (int i64 1) (X.al H (cells [bool b, bool i, bool u, bool k, int i64 c] 53 { whole := true }))
else Q (int i64 0) (X.al H (cells [bool b, bool i, bool u, bool k, int i64 c] 53 { whole := true }))
else
∃ (n1:Int),
X.rd1 (X.al H (cells [bool b, bool i, bool u, bool k, int i64 c] 53 { whole := true })) (X.n H) 4 = some (int i64 n1) ∧
Q (int i64 n1) (X.al H (cells [bool b, bool i, bool u, bool k, int i64 c] 53 { whole := true }))) := by kernel_rfl

theorem rMade_vc (X:Atoms) (s : List UInt8) (q : Option (Nat × Nat)) (k:Nat) (H:AH) (Q : AV → AH → Prop) : (vcF X Tryd.prog [] 32 [.str s, .slice q k k] H Q) =
(X.call 58 [slice q k k] (X.al H (cells [str [], slice none 0 0] 26 { whole := true })) fun (v1:AV) (H1:AH) =>
∃ (q1 : Option (Nat × Nat)),
∃ (k1 k2:Nat),
∃ (b1:Bool),
v1 = tuple [slice q1 k1 k2, bool b1] ∧
bif !b1 then
[str [], slice none 0 0].length = 2 ∧
∃ (H2:AH),
X.wr H1 (X.n H) 0 [str [], slice none 0 0] = some H2 ∧
∃ (s1 : List UInt8),
∃ (q2 : Option (Nat × Nat)),
∃ (k3:Nat), ∃ (k4:Nat), X.rdn H2 (X.n H) 0 2 = some [str s1, slice q2 k3 k4] ∧ Q (tuple [agg [str s1, slice q2 k3 k4], int i64 2]) H2
else
[str s, slice q1 k1 k2].length = 2 ∧
∃ (H3:AH),
X.wr H1 (X.n H) 0 [str s, slice q1 k1 k2] = some H3 ∧
∃ (s2 : List UInt8),
∃ (q3 : Option (Nat × Nat)),
∃ (k5:Nat), ∃ (k6:Nat), X.rdn H3 (X.n H) 0 2 = some [str s2, slice q3 k5 k6] ∧ Q (tuple [agg [str s2, slice q3 k5 k6], int i64 0]) H3) := by kernel_rfl

theorem rNorm_vc (X:Atoms) (s : List UInt8) (q : Option (Nat × Nat)) (k:Nat) (H:AH) (Q : AV → AH → Prop) : (vcF X Tryd.prog [] 13 [.agg [.str s, .slice q k k]] H Q) =
(true = true ∧
∃ (s1 : List UInt8),
∃ (q1 : Option (Nat × Nat)),
∃ (k1 k2:Nat),
X.rdn (X.al (X.al H (cells [str s, slice q k k] 26 { whole := true })) (cells [str [], slice none 0 0] 26 { whole := true })) (X.n H) 0 2 =
some [str s1, slice q1 k1 k2] ∧
X.call 31 [agg [str s1, slice q1 k1 k2]]
(X.al (X.al H (cells [str s, slice q k k] 26 { whole := true })) (cells [str [], slice none 0 0] 26 { whole := true })) fun (v1:AV) (H1:AH) =>
∃ (n1:Int),
v1 = int i64 n1 ∧
bif n1 != (0:Int) then
[str [], slice none 0 0].length = 2 ∧
∃ (H2:AH),
X.wr H1 (X.n (X.al H (cells [str s, slice q k k] 26 { whole := true }))) 0 [str [], slice none 0 0] = some H2 ∧
∃ (s2 : List UInt8),
∃ (q2 : Option (Nat × Nat)),
∃ (k3 k4:Nat),
X.rdn H2 (X.n (X.al H (cells [str s, slice q k k] 26 { whole := true }))) 0 2 = some [str s2, slice q2 k3 k4] ∧
Q (tuple [agg [str s2, slice q2 k3 k4], int i64 n1]) H2
else
∃ (s3 : List UInt8),
X.rd1 H1 (X.n H) 0 = some (str s3) ∧
∃ (s4 : List UInt8),
∃ (q3 : Option (Nat × Nat)),
∃ (k5 k6:Nat),
X.rdn H1 (X.n H) 0 2 = some [str s4, slice q3 k5 k6] ∧
X.call 21 [agg [str s4, slice q3 k5 k6]] H1 fun (v2:AV) (H3:AH) =>
∃ (q4 : Option (Nat × Nat)),
∃ (k7 k8:Nat),
v2 = slice q4 k7 k8 ∧
(∃ (s5 : List UInt8), X.rd1 H3 (X.n H) 0 = some (str s5) ∧ str s5 = str s3) ∧
X.call 32 [str s3, slice q4 k7 k8] H3 fun (v3:AV) (H4:AH) =>
∃ (s6 : List UInt8),
∃ (q5 : Option (Nat × Nat)),
∃ (k9 k10:Nat),
∃ (n2:Int),
v3 = tuple [agg [str s6, slice q5 k9 k10], int i64 n2] ∧
[str s6, slice q5 k9 k10].length = 2 ∧
∃ (H5:AH),
X.wr H4 (X.n (X.al H (cells [str s, slice q k k] 26 { whole := true }))) 0 [str s6, slice q5 k9 k10] = some H5 ∧
∃ (s7 : List UInt8),
∃ (q6 : Option (Nat × Nat)),
∃ (k11 k12:Nat),
X.rdn H5 (X.n (X.al H (cells [str s, slice q k k] 26 { whole := true }))) 0 2 = some [str s7, slice q6 k11 k12] ∧
Q (tuple [agg [str s7, slice q6 k11 k12], int i64 n2]) H5) := by kernel_rfl

theorem rRight_vc (X:Atoms) (s : List UInt8) (q : Option (Nat × Nat)) (k:Nat) (H:AH) (Q : AV → AH → Prop) : (vcF X Tryd.prog [] 14 [.agg [.str s, .slice q k k]] H Q) =
(true = true ∧
∃ (s1 : List UInt8),
∃ (q1 : Option (Nat × Nat)),
∃ (k1 k2:Nat),
X.rdn (X.al H (cells [str s, slice q k k] 26 { whole := true })) (X.n H) 0 2 = some [str s1, slice q1 k1 k2] ∧
X.call 31 [agg [str s1, slice q1 k1 k2]] (X.al H (cells [str s, slice q k k] 26 { whole := true })) fun (v1:AV) (H1:AH) =>
∃ (n1:Int), v1 = int i64 n1 ∧ Q (bool (n1 == (0:Int))) H1) := by kernel_rfl

theorem rCheck_vc (X : Option Nat → Atoms) (It : FuncId → List AV → List AV → (AH → Prop) → List (List AV) → Prop) (s : List UInt8) (q : Option (Nat × Nat)) (k:Nat) (H:AH) (Q : AV → AH → Prop) : (vcG X It Tryd.prog [⟨7, Nat × Int × Int, [1, 3, 4], fun x => [.ptr (some (x.1, 0)), .int .i64 x.2.1, .int .i64 x.2.2], fun _ _ _ => True⟩, ⟨12, Nat × Int, [1, 5], fun x => [.ptr (some (x.1, 0)), .int .i64 x.2], fun _ _ _ => True⟩, ⟨15, Nat × Int × Int, [1, 5, 6], fun x => [.ptr (some (x.1, 0)), .int .i64 x.2.1, .int .i64 x.2.2], fun _ _ _ => True⟩] [] 31 [.agg [.str s, .slice q k k]] H Q) =
(true = true ∧
∃ (s1 : List UInt8),
(X none).rd1 ((X none).al H (cells [str s, slice q k k] 26 { whole := true })) ((X none).n H) 0 = some (str s1) ∧
bif decide ((↑s1.length : Int) > (4096:Int)) then Q (int i64 3) ((X none).al H (cells [str s, slice q k k] (26:Nat) { whole := true }))
else
∃ (q1 : Option (Nat × Nat)),
∃ (k1 k2:Nat),
(X none).rd1 ((X none).al H (cells [str s, slice q k k] 26 { whole := true })) ((X none).n H) 1 = some (slice q1 k1 k2) ∧
bif decide ((↑k1 : Int) > (256:Int)) then Q (int i64 2) ((X none).al H (cells [str s, slice q k k] (26:Nat) { whole := true }))
else
∃ (s2 : List UInt8),
(X none).rd1 ((X none).al H (cells [str s, slice q k k] 26 { whole := true })) ((X none).n H) 0 = some (str s2) ∧
(X none).call 41 [str s2] ((X none).al H (cells [str s, slice q k k] 26 { whole := true })) fun (v1:AV) (H1:AH) =>
∃ (n1:Int),
v1 = int i64 n1 ∧
∃ (x1 : Nat × Int × Int → AH → Nat → Prop),
(∃ (x2 : Nat × Int × Int),
∃ (k3:Nat),
[ptr (some ((X none).n H, 0)), int i64 n1, int i64 0] = [ptr (some (x2.1, 0)), int i64 x2.2.1, int i64 x2.2.2] ∧
x1 x2 H1 k3) ∧
∀ (x3 : Nat × Int × Int) (H2:AH) (k4:Nat),
x1 x3 H2 k4 →
∃ (q2 : Option (Nat × Nat)),
∃ (k5 k6:Nat),
(X none).rd1 H2 x3.1 1 = some (slice q2 k5 k6) ∧
bif decide (x3.2.2 < (↑k5 : Int)) then
∃ (q3 : Option (Nat × Nat)),
∃ (k7 k8:Nat),
(X none).rd1 H2 x3.1 1 = some (slice q3 k7 k8) ∧
∃ (k9 k10:Nat),
(q3 = some (k9, k10) ∧ (0:Int) ≤ x3.2.2 ∧ x3.2.2 < (↑k7 : Int)) ∧
∃ (n2 n3 n4 n5:Int),
(X none).rdn H2 k9 (k10 + x3.2.2.toNat * 4) 4 = some [int i64 n2, int i64 n3, int i64 n4, int i64 n5] ∧
(X none).call 56 [agg [int i64 n2, int i64 n3, int i64 n4, int i64 n5], int i64 x3.2.1] H2
fun (v2:AV) (H3:AH) =>
∃ (b1:Bool),
v2 = bool b1 ∧
bif !b1 then Q (int i64 23) H3
else
∃ (x4 : Nat × Int × Int),
∃ (k11:Nat),
k11 < k4 ∧
[ptr (some (x3.1, 0)), int i64 x3.2.1, int i64 ((X none).wrap i64 (x3.2.2 + (1:Int)))] =
[ptr (some (x4.1, 0)), int i64 x4.2.1, int i64 x4.2.2] ∧
x1 x4 H3 k11
else
∃ (x5 : Nat × Int → AH → Nat → Prop),
(∃ (x6 : Nat × Int), ∃ (k12:Nat), [ptr (some (x3.1, 0)), int i64 0] = [ptr (some (x6.1, 0)), int i64 x6.2] ∧ x5 x6 H2 k12) ∧
∀ (x7 : Nat × Int) (H4:AH) (k13:Nat),
x5 x7 H4 k13 →
∃ (q4 : Option (Nat × Nat)),
∃ (k14 k15:Nat),
(X none).rd1 H4 x7.1 1 = some (slice q4 k14 k15) ∧
bif decide (x7.2 < (↑k14 : Int)) then
∃ (x8 : Nat × Int × Int → AH → Nat → Prop),
(∃ (x9 : Nat × Int × Int),
∃ (k16:Nat),
[ptr (some (x7.1, 0)), int i64 x7.2, int i64 0] =
[ptr (some (x9.1, 0)), int i64 x9.2.1, int i64 x9.2.2] ∧
x8 x9 H4 k16) ∧
∀ (x10 : Nat × Int × Int) (H5:AH) (k17:Nat),
x8 x10 H5 k17 →
bif decide (x10.2.2 < x10.2.1) then
∃ (q5 : Option (Nat × Nat)),
∃ (k18 k19:Nat),
(X none).rd1 H5 x10.1 1 = some (slice q5 k18 k19) ∧
∃ (k20 k21:Nat),
(q5 = some (k20, k21) ∧ (0:Int) ≤ x10.2.1 ∧ x10.2.1 < (↑k18 : Int)) ∧
∃ (n6 n7 n8 n9:Int),
(X none).rdn H5 k20 (k21 + x10.2.1.toNat * 4) 4 =
some [int i64 n6, int i64 n7, int i64 n8, int i64 n9] ∧
∃ (q6 : Option (Nat × Nat)),
∃ (k22 k23:Nat),
(X none).rd1 H5 x10.1 1 = some (slice q6 k22 k23) ∧
∃ (k24 k25:Nat),
(q6 = some (k24, k25) ∧ (0:Int) ≤ x10.2.2 ∧ x10.2.2 < (↑k22 : Int)) ∧
∃ (n10 n11 n12 n13:Int),
(X none).rdn H5 k24 (k25 + x10.2.2.toNat * 4) 4 =
some [int i64 n10, int i64 n11, int i64 n12, int i64 n13] ∧
(X none).call 57
[agg [int i64 n6, int i64 n7, int i64 n8, int i64 n9],
agg [int i64 n10, int i64 n11, int i64 n12, int i64 n13]]
H5 fun (v3:AV) (H6:AH) =>
∃ (b2:Bool),
v3 = bool b2 ∧
bif b2 then Q (int i64 23) H6
else
∃ (x11 : Nat × Int × Int),
∃ (k26:Nat),
k26 < k17 ∧
[ptr (some (x10.1, 0)), int i64 x10.2.1,
int i64 ((X none).wrap i64 (x10.2.2 + (1:Int)))] =
[ptr (some (x11.1, 0)), int i64 x11.2.1,
int i64 x11.2.2] ∧
x8 x11 H6 k26
else
∃ (x12 : Nat × Int),
∃ (k27:Nat),
k27 < k13 ∧
[ptr (some (x10.1, 0)), int i64 ((X none).wrap i64 (x10.2.1 + (1:Int)))] =
[ptr (some (x12.1, 0)), int i64 x12.2] ∧
x5 x12 H5 k27
else Q (int i64 0) H4) := by kernel_rfl

theorem rAll_vc (X : Option Nat → Atoms) (It : FuncId → List AV → List AV → (AH → Prop) → List (List AV) → Prop) (s : List UInt8) (q : Option (Nat × Nat)) (k:Nat) (H:AH) (Q : AV → AH → Prop) : (vcG X It Tryd.prog [⟨4, Nat × Int × (Option (Nat × Nat) × Nat) × Int, [1, 3, 4, 5], fun x => [.ptr (some (x.1, 0)), .int .i64 x.2.1, .slice x.2.2.1.1 x.2.2.1.2 x.2.2.1.2, .int .i64 x.2.2.2], fun _ _ _ => True⟩] [] 21 [.agg [.str s, .slice q k k]] H Q) =
(true = true ∧
∃ (s1 : List UInt8),
(X none).rd1 ((X none).al H (cells [str s, slice q k k] 26 { whole := true })) ((X none).n H) 0 = some (str s1) ∧
(X none).call 41 [str s1] ((X none).al H (cells [str s, slice q k k] 26 { whole := true })) fun (v1:AV) (H1:AH) =>
∃ (n1:Int),
v1 = int i64 n1 ∧
∃ (x1 : Nat × Int × (Option (Nat × Nat) × Nat) × Int → AH → Nat → Prop),
(∃ (x2 : Nat × Int × (Option (Nat × Nat) × Nat) × Int),
∃ (k1:Nat),
[ptr (some ((X none).n H, 0)), int i64 n1, slice none 0 0, int i64 0] =
[ptr (some (x2.1, 0)), int i64 x2.2.1, slice x2.2.2.1.1 x2.2.2.1.2 x2.2.2.1.2, int i64 x2.2.2.2] ∧
x1 x2 H1 k1) ∧
∀ (x3 : Nat × Int × (Option (Nat × Nat) × Nat) × Int) (H2:AH) (k2:Nat),
x1 x3 H2 k2 →
bif decide (x3.2.2.2 < x3.2.1) then
∃ (s2 : List UInt8),
∃ (q1 : Option (Nat × Nat)),
∃ (k3 k4:Nat),
(X none).rdn H2 x3.1 0 2 = some [str s2, slice q1 k3 k4] ∧
(X none).call 42 [agg [str s2, slice q1 k3 k4], int i64 x3.2.2.2] H2 fun (v2:AV) (H3:AH) =>
∃ (b1 b2 b3 b4:Bool),
∃ (n2:Int),
v2 = agg [bool b1, bool b2, bool b3, bool b4, int i64 n2] ∧
(5 ≤ 16777216 ∧ 5 = 5 ∧ 0 < 5 ∧ true = true ∧ true = true) ∧
∃ (q2 : Option (Nat × Nat)),
∃ (k5 k6:Nat),
∃ (H4:AH),
(X none).app 50 50 (slice x3.2.2.1.1 x3.2.2.1.2 x3.2.2.1.2) (slice (some ((X none).n H3, 0)) 1 1)
((X none).al H3 (cells [bool b1, bool b2, bool b3, bool b4, int i64 n2] 53 { whole := true })) =
some (slice q2 k5 k6, H4) ∧
∃ (x4 : Nat × Int × (Option (Nat × Nat) × Nat) × Int),
∃ (k7:Nat),
k7 < k2 ∧
[ptr (some (x3.1, 0)), int i64 x3.2.1, slice q2 k5 k6, int i64 ((X none).wrap i64 (x3.2.2.2 + (1:Int)))] =
[ptr (some (x4.1, 0)), int i64 x4.2.1, slice x4.2.2.1.1 x4.2.2.1.2 x4.2.2.1.2, int i64 x4.2.2.2] ∧
x1 x4 H4 k7
else Q (slice x3.2.2.1.1 x3.2.2.1.2 x3.2.2.1.2) H2) := by kernel_rfl

theorem rLooks_vc (X : Option Nat → Atoms) (It : FuncId → List AV → List AV → (AH → Prop) → List (List AV) → Prop) (s : List UInt8) (q : Option (Nat × Nat)) (k:Nat) (n:Int) (H:AH) (Q : AV → AH → Prop) : (vcG X It Tryd.prog [⟨4, Nat × Nat × Nat × Int × Int, [1, 2, 4, 5, 6, 7], fun x => [.int .i64 n, .ptr (some (x.1, 0)), .ptr (some (x.2.1, 0)), .ptr (some (x.2.2.1, 0)), .int .i64 x.2.2.2.1, .int .i64 x.2.2.2.2], fun _ _ _ => True⟩, ⟨200005, Nat × Nat × Nat × Int × Int, [1, 2, 4, 5, 6, 7], fun x => [.int .i64 n, .ptr (some (x.1, 0)), .ptr (some (x.2.1, 0)), .ptr (some (x.2.2.1, 0)), .int .i64 x.2.2.2.1, .int .i64 x.2.2.2.2], fun _ _ _ => True⟩, ⟨200010, (Nat × Nat × Nat × Int × Int) × Nat × Bool, [1, 2, 4, 5, 6, 7, 8, 44], fun x => [.int .i64 n, .ptr (some (x.1.1, 0)), .ptr (some (x.1.2.1, 0)), .ptr (some (x.1.2.2.1, 0)), .int .i64 x.1.2.2.2.1, .int .i64 x.1.2.2.2.2, .ptr (some (x.2.1, 0)), .bool x.2.2], fun _ _ _ => True⟩] [] 42 [.agg [.str s, .slice q k k], .int .i64 n] H Q) =
(true = true ∧
[bool false, bool false, bool false, bool false, int i64 0].length = 5 ∧
∃ (H1:AH),
(X none).wr
((X none).al
((X none).al ((X none).al H (cells [str s, slice q k k] 26 { whole := true }))
(cells [bool false, bool false, bool false, bool false, int i64 0] 53 { whole := true }))
(cells [bool false, bool false, bool false, bool false, int i64 0] 53 { whole := true }))
((X none).n
((X none).al ((X none).al H (cells [str s, slice q k k] 26 { whole := true }))
(cells [bool false, bool false, bool false, bool false, int i64 0] 53 { whole := true })))
0 [bool false, bool false, bool false, bool false, int i64 0] =
some H1 ∧
∃ (x1 : Nat × Nat × Nat × Int × Int → AH → Nat → Prop),
(∃ (x2 : Nat × Nat × Nat × Int × Int),
∃ (k1:Nat),
[int i64 n, ptr (some ((X none).n H, 0)), ptr (some ((X none).n ((X none).al H (cells [str s, slice q k k] 26 { whole := true })), 0)),
ptr
(some
((X none).n
((X none).al ((X none).al H (cells [str s, slice q k k] 26 { whole := true }))
(cells [bool false, bool false, bool false, bool false, int i64 0] 53 { whole := true })),
0)),
int i64 (-1 : Int), int i64 0] =
[int i64 n, ptr (some (x2.1, 0)), ptr (some (x2.2.1, 0)), ptr (some (x2.2.2.1, 0)), int i64 x2.2.2.2.1, int i64 x2.2.2.2.2] ∧
x1 x2 H1 k1) ∧
∀ (x3 : Nat × Nat × Nat × Int × Int) (H2:AH) (k2:Nat),
x1 x3 H2 k2 →
∃ (q1 : Option (Nat × Nat)),
∃ (k3 k4:Nat),
(X none).rd1 H2 x3.1 1 = some (slice q1 k3 k4) ∧
bif decide (x3.2.2.2.2 < (↑k3 : Int)) then
∃ (x4 : Nat × Nat × Nat × Int × Int → AH → Prop),
(∃ (q2 : Option (Nat × Nat)),
∃ (k5 k6:Nat),
(X none).rd1 H2 x3.1 1 = some (slice q2 k5 k6) ∧
∃ (k7 k8:Nat),
(q2 = some (k7, k8) ∧ (0:Int) ≤ x3.2.2.2.2 ∧ x3.2.2.2.2 < (↑k5 : Int)) ∧
∃ (n1 n2 n3 n4:Int),
(X none).rdn H2 k7 (k8 + x3.2.2.2.2.toNat * 4) 4 = some [int i64 n1, int i64 n2, int i64 n3, int i64 n4] ∧
[int i64 n1, int i64 n2, int i64 n3, int i64 n4].length = 4 ∧
∃ (H3:AH),
(X none).wr
((X none).al H2
(cells [int i64 0, int i64 0, int i64 0, int i64 0] 41 { whole := true }))
((X none).n H2) 0 [int i64 n1, int i64 n2, int i64 n3, int i64 n4] =
some H3 ∧
∃ (n5:Int),
(X none).rd1 H3 ((X none).n H2) 0 = some (int i64 n5) ∧
∃ (n6:Int),
(X none).rd1 H3 ((X none).n H2) 1 = some (int i64 n6) ∧
bif decide (n < n5) || decide (n ≥ n6) then
∃ (x5 : Nat × Nat × Nat × Int × Int),
∃ (_k9:Nat),
True ∧
[int i64 n, ptr (some (x3.1, 0)), ptr (some (x3.2.1, 0)), ptr (some (x3.2.2.1, 0)),
int i64 x3.2.2.2.1, int i64 x3.2.2.2.2] =
[int i64 n, ptr (some (x5.1, 0)), ptr (some (x5.2.1, 0)), ptr (some (x5.2.2.1, 0)),
int i64 x5.2.2.2.1, int i64 x5.2.2.2.2] ∧
x4 x5 H3
else
∃ (n7:Int),
(X none).rd1 H3 ((X none).n H2) 2 = some (int i64 n7) ∧
bif n7 == (1:Int) then
1 = 1 ∧
∃ (H4:AH),
(X none).wr H3 x3.2.2.1 0 [bool true] = some H4 ∧
∃ (x6 : Nat × Nat × Nat × Int × Int),
∃ (_k10:Nat),
True ∧
[int i64 n, ptr (some (x3.1, 0)), ptr (some (x3.2.1, 0)), ptr (some (x3.2.2.1, 0)),
int i64 x3.2.2.2.1, int i64 x3.2.2.2.2] =
[int i64 n, ptr (some (x6.1, 0)), ptr (some (x6.2.1, 0)), ptr (some (x6.2.2.1, 0)),
int i64 x6.2.2.2.1, int i64 x6.2.2.2.2] ∧
x4 x6 H4
else
bif n7 == (2:Int) then
1 = 1 ∧
∃ (H5:AH),
(X none).wr H3 x3.2.2.1 1 [bool true] = some H5 ∧
∃ (x7 : Nat × Nat × Nat × Int × Int),
∃ (_k11:Nat),
True ∧
[int i64 n, ptr (some (x3.1, 0)), ptr (some (x3.2.1, 0)), ptr (some (x3.2.2.1, 0)),
int i64 x3.2.2.2.1, int i64 x3.2.2.2.2] =
[int i64 n, ptr (some (x7.1, 0)), ptr (some (x7.2.1, 0)), ptr (some (x7.2.2.1, 0)),
int i64 x7.2.2.2.1, int i64 x7.2.2.2.2] ∧
x4 x7 H5
else
bif n7 == (3:Int) then
1 = 1 ∧
∃ (H6:AH),
(X none).wr H3 x3.2.2.1 2 [bool true] = some H6 ∧
∃ (x8 : Nat × Nat × Nat × Int × Int),
∃ (_k12:Nat),
True ∧
[int i64 n, ptr (some (x3.1, 0)), ptr (some (x3.2.1, 0)), ptr (some (x3.2.2.1, 0)),
int i64 x3.2.2.2.1, int i64 x3.2.2.2.2] =
[int i64 n, ptr (some (x8.1, 0)), ptr (some (x8.2.1, 0)), ptr (some (x8.2.2.1, 0)),
int i64 x8.2.2.2.1, int i64 x8.2.2.2.2] ∧
x4 x8 H6
else
bif n7 == (4:Int) then
1 = 1 ∧
∃ (H7:AH),
(X none).wr H3 x3.2.2.1 3 [bool true] = some H7 ∧
∃ (x9 : Nat × Nat × Nat × Int × Int),
∃ (_k13:Nat),
True ∧
[int i64 n, ptr (some (x3.1, 0)), ptr (some (x3.2.1, 0)), ptr (some (x3.2.2.1, 0)),
int i64 x3.2.2.2.1, int i64 x3.2.2.2.2] =
[int i64 n, ptr (some (x9.1, 0)), ptr (some (x9.2.1, 0)), ptr (some (x9.2.2.1, 0)),
int i64 x9.2.2.2.1, int i64 x9.2.2.2.2] ∧
x4 x9 H7
else
∃ (x10 : (Nat × Nat × Nat × Int × Int) × Nat × Bool → AH → Prop),
(bif decide (x3.2.2.2.1 < (0:Int)) == false then
∃ (n8 n9 n10 n11:Int),
(X none).rdn H3 ((X none).n H2) 0 4 =
some [int i64 n8, int i64 n9, int i64 n10, int i64 n11] ∧
∃ (q3 : Option (Nat × Nat)),
∃ (k14 k15:Nat),
(X none).rd1 H3 x3.1 1 = some (slice q3 k14 k15) ∧
∃ (k16 k17:Nat),
(q3 = some (k16, k17) ∧ (0:Int) ≤ x3.2.2.2.1 ∧ x3.2.2.2.1 < (↑k14 : Int)) ∧
∃ (n12 n13 n14 n15:Int),
(X none).rdn H3 k16 (k17 + x3.2.2.2.1.toNat * 4) 4 =
some [int i64 n12, int i64 n13, int i64 n14, int i64 n15] ∧
(X none).call 71
[agg [int i64 n8, int i64 n9, int i64 n10, int i64 n11],
agg [int i64 n12, int i64 n13, int i64 n14, int i64 n15]]
H3 fun (v1:AV) (H8:AH) =>
∃ (b1:Bool),
v1 = bool b1 ∧
∃ (x11 : (Nat × Nat × Nat × Int × Int) × Nat × Bool),
∃ (_k18:Nat),
True ∧
[int i64 n, ptr (some (x3.1, 0)), ptr (some (x3.2.1, 0)),
ptr (some (x3.2.2.1, 0)), int i64 x3.2.2.2.1,
int i64 x3.2.2.2.2, ptr (some ((X none).n H2, 0)), bool b1] =
[int i64 n, ptr (some (x11.1.1, 0)),
ptr (some (x11.1.2.1, 0)), ptr (some (x11.1.2.2.1, 0)),
int i64 x11.1.2.2.2.1, int i64 x11.1.2.2.2.2,
ptr (some (x11.2.1, 0)), bool x11.2.2] ∧
x10 x11 H8
else
∃ (x12 : (Nat × Nat × Nat × Int × Int) × Nat × Bool),
∃ (_k19:Nat),
True ∧
[int i64 n, ptr (some (x3.1, 0)), ptr (some (x3.2.1, 0)), ptr (some (x3.2.2.1, 0)),
int i64 x3.2.2.2.1, int i64 x3.2.2.2.2, ptr (some ((X none).n H2, 0)), bool true] =
[int i64 n, ptr (some (x12.1.1, 0)), ptr (some (x12.1.2.1, 0)),
ptr (some (x12.1.2.2.1, 0)), int i64 x12.1.2.2.2.1, int i64 x12.1.2.2.2.2,
ptr (some (x12.2.1, 0)), bool x12.2.2] ∧
x10 x12 H3) ∧
∀ (x13 : (Nat × Nat × Nat × Int × Int) × Nat × Bool) (H9:AH),
x10 x13 H9 →
bif x13.2.2 then
∃ (n16:Int),
(X none).rd1 H9 x13.2.1 3 = some (int i64 n16) ∧
[int i64 ((X none).wrap i64 (n16 + (1:Int)))].length = 1 ∧
∃ (H10:AH),
(X none).wr H9 x13.1.2.2.1 4 [int i64 ((X none).wrap i64 (n16 + (1:Int)))] = some H10 ∧
∃ (x14 : Nat × Nat × Nat × Int × Int),
∃ (_k20:Nat),
True ∧
[int i64 n, ptr (some (x13.1.1, 0)), ptr (some (x13.1.2.1, 0)),
ptr (some (x13.1.2.2.1, 0)), int i64 x13.1.2.2.2.2,
int i64 x13.1.2.2.2.2] =
[int i64 n, ptr (some (x14.1, 0)), ptr (some (x14.2.1, 0)),
ptr (some (x14.2.2.1, 0)), int i64 x14.2.2.2.1, int i64 x14.2.2.2.2] ∧
x4 x14 H10
else
∃ (x15 : Nat × Nat × Nat × Int × Int),
∃ (_k21:Nat),
True ∧
[int i64 n, ptr (some (x13.1.1, 0)), ptr (some (x13.1.2.1, 0)),
ptr (some (x13.1.2.2.1, 0)), int i64 x13.1.2.2.2.1,
int i64 x13.1.2.2.2.2] =
[int i64 n, ptr (some (x15.1, 0)), ptr (some (x15.2.1, 0)),
ptr (some (x15.2.2.1, 0)), int i64 x15.2.2.2.1, int i64 x15.2.2.2.2] ∧
x4 x15 H9) ∧
∀ (x16 : Nat × Nat × Nat × Int × Int) (H11:AH),
x4 x16 H11 →
∃ (x17 : Nat × Nat × Nat × Int × Int),
∃ (k22:Nat),
k22 < k2 ∧
[int i64 n, ptr (some (x16.1, 0)), ptr (some (x16.2.1, 0)), ptr (some (x16.2.2.1, 0)), int i64 x16.2.2.2.1,
int i64 ((X none).wrap i64 (x16.2.2.2.2 + (1:Int)))] =
[int i64 n, ptr (some (x17.1, 0)), ptr (some (x17.2.1, 0)), ptr (some (x17.2.2.1, 0)), int i64 x17.2.2.2.1,
int i64 x17.2.2.2.2] ∧
x1 x17 H11 k22
else
∃ (b2 b3 b4 b5:Bool),
∃ (n17:Int),
(X none).rdn H2 x3.2.2.1 0 5 = some [bool b2, bool b3, bool b4, bool b5, int i64 n17] ∧
[bool b2, bool b3, bool b4, bool b5, int i64 n17].length = 5 ∧
∃ (H12:AH),
(X none).wr H2 x3.2.1 0 [bool b2, bool b3, bool b4, bool b5, int i64 n17] = some H12 ∧
∃ (b6 b7 b8 b9:Bool),
∃ (n18:Int),
(X none).rdn H12 x3.2.1 0 5 = some [bool b6, bool b7, bool b8, bool b9, int i64 n18] ∧
Q (agg [bool b6, bool b7, bool b8, bool b9, int i64 n18]) H12) := by kernel_rfl

theorem rNormal_vc (X : Option Nat → Atoms) (It : FuncId → List AV → List AV → (AH → Prop) → List (List AV) → Prop) (q : Option (Nat × Nat)) (k:Nat) (H:AH) (Q : AV → AH → Prop) : (vcG X It Tryd.prog [⟨5, Int × (Option (Nat × Nat) × Nat) × (Option (Nat × Nat) × Nat) × Int, [0, 4, 5, 6, 7], fun x => [.slice q k k, .int .i64 x.1, .slice x.2.1.1 x.2.1.2 x.2.1.2, .slice x.2.2.1.1 x.2.2.1.2 x.2.2.1.2, .int .i64 x.2.2.2], fun _ _ _ => True⟩, ⟨9, (Int × (Option (Nat × Nat) × Nat) × (Option (Nat × Nat) × Nat) × Int) × (Option (Nat × Nat) × Nat) × Int, [0, 4, 5, 6, 7, 8, 9], fun x => [.slice q k k, .int .i64 x.1.1, .slice x.1.2.1.1 x.1.2.1.2 x.1.2.1.2, .slice x.1.2.2.1.1 x.1.2.2.1.2 x.1.2.2.1.2, .int .i64 x.1.2.2.2, .slice x.2.1.1 x.2.1.2 x.2.1.2, .int .i64 x.2.2], fun _ _ _ => True⟩, ⟨12, ((Int × (Option (Nat × Nat) × Nat) × (Option (Nat × Nat) × Nat) × Int) × (Option (Nat × Nat) × Nat) × Int) × Int × Int, [0, 4, 5, 6, 7, 8, 9, 10, 11], fun x => [.slice q k k, .int .i64 x.1.1.1, .slice x.1.1.2.1.1 x.1.1.2.1.2 x.1.1.2.1.2, .slice x.1.1.2.2.1.1 x.1.1.2.2.1.2 x.1.1.2.2.1.2, .int .i64 x.1.1.2.2.2, .slice x.1.2.1.1 x.1.2.1.2 x.1.2.1.2, .int .i64 x.1.2.2, .int .i64 x.2.1, .int .i64 x.2.2], fun _ _ _ => True⟩, ⟨200014, ((Int × (Option (Nat × Nat) × Nat) × (Option (Nat × Nat) × Nat) × Int) × (Option (Nat × Nat) × Nat) × Int) × Int × Int, [0, 4, 5, 6, 7, 8, 9, 10, 11], fun x => [.slice q k k, .int .i64 x.1.1.1, .slice x.1.1.2.1.1 x.1.1.2.1.2 x.1.1.2.1.2, .slice x.1.1.2.2.1.1 x.1.1.2.2.1.2 x.1.1.2.2.1.2, .int .i64 x.1.1.2.2.2, .slice x.1.2.1.1 x.1.2.1.2 x.1.2.1.2, .int .i64 x.1.2.2, .int .i64 x.2.1, .int .i64 x.2.2], fun _ _ _ => True⟩, ⟨200018, ((Int × (Option (Nat × Nat) × Nat) × (Option (Nat × Nat) × Nat) × Int) × (Option (Nat × Nat) × Nat) × Int) × Int × Nat, [0, 4, 5, 6, 7, 8, 9, 11, 12], fun x => [.slice q k k, .int .i64 x.1.1.1, .slice x.1.1.2.1.1 x.1.1.2.1.2 x.1.1.2.1.2, .slice x.1.1.2.2.1.1 x.1.1.2.2.1.2 x.1.1.2.2.1.2, .int .i64 x.1.1.2.2.2, .slice x.1.2.1.1 x.1.2.1.2 x.1.2.1.2, .int .i64 x.1.2.2, .int .i64 x.2.1, .ptr (some (x.2.2, 0))], fun _ _ _ => True⟩, ⟨200019, ((Int × (Option (Nat × Nat) × Nat) × (Option (Nat × Nat) × Nat) × Int) × (Option (Nat × Nat) × Nat) × Int) × Int, [0, 4, 5, 6, 7, 8, 9, 11], fun x => [.slice q k k, .int .i64 x.1.1.1, .slice x.1.1.2.1.1 x.1.1.2.1.2 x.1.1.2.1.2, .slice x.1.1.2.2.1.1 x.1.1.2.2.1.2 x.1.1.2.2.1.2, .int .i64 x.1.1.2.2.2, .slice x.1.2.1.1 x.1.2.1.2 x.1.2.1.2, .int .i64 x.1.2.2, .int .i64 x.2], fun _ _ _ => True⟩, ⟨23, (Int × (Option (Nat × Nat) × Nat) × (Option (Nat × Nat) × Nat) × Int) × (Option (Nat × Nat) × Nat) × Int, [0, 4, 5, 6, 7, 8, 13], fun x => [.slice q k k, .int .i64 x.1.1, .slice x.1.2.1.1 x.1.2.1.2 x.1.2.1.2, .slice x.1.2.2.1.1 x.1.2.2.1.2 x.1.2.2.1.2, .int .i64 x.1.2.2.2, .slice x.2.1.1 x.2.1.2 x.2.1.2, .int .i64 x.2.2], fun _ _ _ => True⟩] [] 58 [.slice q k k] H Q) =
(∃ (q1 : Option (Nat × Nat)),
∃ (k1 k2:Nat),
∃ (H1:AH),
(X none).mks (129:Nat) ((X none).wrap i64 ((↑k : Int) + (1:Int))) ((X none).wrap i64 ((↑k : Int) + (1:Int))) H = some (slice q1 k1 k2, H1) ∧
∃ (x1 : Int × (Option (Nat × Nat) × Nat) × (Option (Nat × Nat) × Nat) × Int → AH → Nat → Prop),
(∃ (x2 : Int × (Option (Nat × Nat) × Nat) × (Option (Nat × Nat) × Nat) × Int),
∃ (k3:Nat),
[slice q k k, int i64 (↑k : Int), slice q1 k1 k2, slice none (0:Nat) (0:Nat), int i64 1] =
[slice q k k, int i64 x2.1, slice x2.2.1.1 x2.2.1.2 x2.2.1.2, slice x2.2.2.1.1 x2.2.2.1.2 x2.2.2.1.2, int i64 x2.2.2.2] ∧
x1 x2 H1 k3) ∧
∀ (x3 : Int × (Option (Nat × Nat) × Nat) × (Option (Nat × Nat) × Nat) × Int) (H2:AH) (k4:Nat),
x1 x3 H2 k4 →
bif decide (x3.2.2.2 ≤ (5:Int)) then
∃ (x4 : (Int × (Option (Nat × Nat) × Nat) × (Option (Nat × Nat) × Nat) × Int) × (Option (Nat × Nat) × Nat) × Int → AH → Nat → Prop),
(∃ (x5 : (Int × (Option (Nat × Nat) × Nat) × (Option (Nat × Nat) × Nat) × Int) × (Option (Nat × Nat) × Nat) × Int),
∃ (k5:Nat),
[slice q k k, int i64 x3.1, slice x3.2.1.1 x3.2.1.2 x3.2.1.2, slice x3.2.2.1.1 x3.2.2.1.2 x3.2.2.1.2, int i64 x3.2.2.2,
slice none 0 0, int i64 0] =
[slice q k k, int i64 x5.1.1, slice x5.1.2.1.1 x5.1.2.1.2 x5.1.2.1.2, slice x5.1.2.2.1.1 x5.1.2.2.1.2 x5.1.2.2.1.2,
int i64 x5.1.2.2.2, slice x5.2.1.1 x5.2.1.2 x5.2.1.2, int i64 x5.2.2] ∧
x4 x5 H2 k5) ∧
∀ (x6 : (Int × (Option (Nat × Nat) × Nat) × (Option (Nat × Nat) × Nat) × Int) × (Option (Nat × Nat) × Nat) × Int) (H3:AH) (k6:Nat),
x4 x6 H3 k6 →
bif decide (x6.2.2 < x6.1.1) then
∃ (k7 k8:Nat),
(q = some (k7, k8) ∧ (0:Int) ≤ x6.2.2 ∧ x6.2.2 < (↑k : Int)) ∧
∃ (b1 b2 b3 b4:Bool),
∃ (n1:Int),
(X none).rdn H3 k7 (k8 + x6.2.2.toNat * 5) 5 = some [bool b1, bool b2, bool b3, bool b4, int i64 n1] ∧
(X none).call 80 [agg [bool b1, bool b2, bool b3, bool b4, int i64 n1], int i64 x6.1.2.2.2] H3 fun (v1:AV) (H4:AH) =>
∃ (n2:Int),
v1 = int i64 n2 ∧
∃ (x7 : ((Int × (Option (Nat × Nat) × Nat) × (Option (Nat × Nat) × Nat) × Int) × (Option (Nat × Nat) × Nat) × Int) × Int × Int → AH → Prop),
(∃ (x8 : ((Int × (Option (Nat × Nat) × Nat) × (Option (Nat × Nat) × Nat) × Int) × (Option (Nat × Nat) × Nat) × Int) × Int × Int → AH → Nat → Prop),
(∃ (x9 : ((Int × (Option (Nat × Nat) × Nat) × (Option (Nat × Nat) × Nat) × Int) × (Option (Nat × Nat) × Nat) × Int) × Int × Int),
∃ (k9:Nat),
[slice q k k, int i64 x6.1.1, slice x6.1.2.1.1 x6.1.2.1.2 x6.1.2.1.2,
slice x6.1.2.2.1.1 x6.1.2.2.1.2 x6.1.2.2.1.2, int i64 x6.1.2.2.2,
slice x6.2.1.1 x6.2.1.2 x6.2.1.2, int i64 x6.2.2, int i64 n2,
int i64 ((X none).wrap i64 (x6.2.2 + (1:Int)))] =
[slice q k k, int i64 x9.1.1.1, slice x9.1.1.2.1.1 x9.1.1.2.1.2 x9.1.1.2.1.2,
slice x9.1.1.2.2.1.1 x9.1.1.2.2.1.2 x9.1.1.2.2.1.2, int i64 x9.1.1.2.2.2,
slice x9.1.2.1.1 x9.1.2.1.2 x9.1.2.1.2, int i64 x9.1.2.2, int i64 x9.2.1, int i64 x9.2.2] ∧
x8 x9 H4 k9) ∧
∀ (x10 : ((Int × (Option (Nat × Nat) × Nat) × (Option (Nat × Nat) × Nat) × Int) × (Option (Nat × Nat) × Nat) × Int) × Int × Int) (H5:AH) (k10:Nat),
x8 x10 H5 k10 →
∃ (k11 k12:Nat),
((decide (x10.2.2 < x10.1.1.1) == true) = true → q = some (k11, k12) ∧ (0:Int) ≤ x10.2.2 ∧ x10.2.2 < (↑k : Int)) ∧
∃ (b5 b6 b7 b8:Bool),
∃ (n3:Int),
((decide (x10.2.2 < x10.1.1.1) == true) = true →
(X none).rdn H5 k11 (k12 + x10.2.2.toNat * 5) 5 = some [bool b5, bool b6, bool b7, bool b8, int i64 n3]) ∧
bif decide (x10.2.2 < x10.1.1.1) == true then
(X none).call 80 [agg [bool b5, bool b6, bool b7, bool b8, int i64 n3], int i64 x10.1.1.2.2.2] H5
fun (v2:AV) (H6:AH) =>
∃ (n4:Int),
v2 = int i64 n4 ∧
∃ (k13 k14:Nat),
(((n4 == x10.2.1) == true) = true →
x10.1.1.2.1.1 = some (k13, k14) ∧ (0:Int) ≤ x10.2.2 ∧ x10.2.2 < (↑x10.1.1.2.1.2 : Int)) ∧
∃ (b9:Bool),
(((n4 == x10.2.1) == true) = true → (X none).rd1 H6 k13 (k14 + x10.2.2.toNat * 1) = some (bool b9)) ∧
bif n4 == x10.2.1 && !b9 then
∃ (x11 : ((Int × (Option (Nat × Nat) × Nat) × (Option (Nat × Nat) × Nat) × Int) × (Option (Nat × Nat) × Nat) × Int) × Int × Int),
∃ (k15:Nat),
k15 < k10 ∧
[slice q k k, int i64 x10.1.1.1,
slice x10.1.1.2.1.1 x10.1.1.2.1.2 x10.1.1.2.1.2,
slice x10.1.1.2.2.1.1 x10.1.1.2.2.1.2 x10.1.1.2.2.1.2,
int i64 x10.1.1.2.2.2, slice x10.1.2.1.1 x10.1.2.1.2 x10.1.2.1.2,
int i64 x10.1.2.2, int i64 x10.2.1,
int i64 ((X none).wrap i64 (x10.2.2 + (1:Int)))] =
[slice q k k, int i64 x11.1.1.1,
slice x11.1.1.2.1.1 x11.1.1.2.1.2 x11.1.1.2.1.2,
slice x11.1.1.2.2.1.1 x11.1.1.2.2.1.2 x11.1.1.2.2.1.2,
int i64 x11.1.1.2.2.2, slice x11.1.2.1.1 x11.1.2.1.2 x11.1.2.1.2,
int i64 x11.1.2.2, int i64 x11.2.1, int i64 x11.2.2] ∧
x8 x11 H6 k15
else
∃ (x12 : ((Int × (Option (Nat × Nat) × Nat) × (Option (Nat × Nat) × Nat) × Int) × (Option (Nat × Nat) × Nat) × Int) × Int × Int),
∃ (_k16:Nat),
True ∧
[slice q k k, int i64 x10.1.1.1,
slice x10.1.1.2.1.1 x10.1.1.2.1.2 x10.1.1.2.1.2,
slice x10.1.1.2.2.1.1 x10.1.1.2.2.1.2 x10.1.1.2.2.1.2,
int i64 x10.1.1.2.2.2, slice x10.1.2.1.1 x10.1.2.1.2 x10.1.2.1.2,
int i64 x10.1.2.2, int i64 x10.2.1, int i64 x10.2.2] =
[slice q k k, int i64 x12.1.1.1,
slice x12.1.1.2.1.1 x12.1.1.2.1.2 x12.1.1.2.1.2,
slice x12.1.1.2.2.1.1 x12.1.1.2.2.1.2 x12.1.1.2.2.1.2,
int i64 x12.1.1.2.2.2, slice x12.1.2.1.1 x12.1.2.1.2 x12.1.2.1.2,
int i64 x12.1.2.2, int i64 x12.2.1, int i64 x12.2.2] ∧
x7 x12 H6
else
∃ (k17 k18:Nat),
(false = true → x10.1.1.2.1.1 = some (k17, k18) ∧ (0:Int) ≤ x10.2.2 ∧ x10.2.2 < (↑x10.1.1.2.1.2 : Int)) ∧
∃ (b10:Bool),
(false = true → (X none).rd1 H5 k17 (k18 + x10.2.2.toNat * 1) = some (bool b10)) ∧
∃ (x13 : ((Int × (Option (Nat × Nat) × Nat) × (Option (Nat × Nat) × Nat) × Int) × (Option (Nat × Nat) × Nat) × Int) × Int × Int),
∃ (_k19:Nat),
True ∧
[slice q k k, int i64 x10.1.1.1, slice x10.1.1.2.1.1 x10.1.1.2.1.2 x10.1.1.2.1.2,
slice x10.1.1.2.2.1.1 x10.1.1.2.2.1.2 x10.1.1.2.2.1.2,
int i64 x10.1.1.2.2.2, slice x10.1.2.1.1 x10.1.2.1.2 x10.1.2.1.2,
int i64 x10.1.2.2, int i64 x10.2.1, int i64 x10.2.2] =
[slice q k k, int i64 x13.1.1.1, slice x13.1.1.2.1.1 x13.1.1.2.1.2 x13.1.1.2.1.2,
slice x13.1.1.2.2.1.1 x13.1.1.2.2.1.2 x13.1.1.2.2.1.2,
int i64 x13.1.1.2.2.2, slice x13.1.2.1.1 x13.1.2.1.2 x13.1.2.1.2,
int i64 x13.1.2.2, int i64 x13.2.1, int i64 x13.2.2] ∧
x7 x13 H5) ∧
∀ (x14 : ((Int × (Option (Nat × Nat) × Nat) × (Option (Nat × Nat) × Nat) × Int) × (Option (Nat × Nat) × Nat) × Int) × Int × Int) (H7:AH),
x7 x14 H7 →
∃ (x15 : ((Int × (Option (Nat × Nat) × Nat) × (Option (Nat × Nat) × Nat) × Int) × (Option (Nat × Nat) × Nat) × Int) × Int → AH → Prop),
(bif decide (x14.2.1 > (0:Int)) then
[int i64 x14.1.2.2, int i64 x14.2.2, int i64 x14.1.1.2.2.2, int i64 0].length = 4 ∧
∃ (H8:AH),
(X none).wr
((X none).al H7
(cells [int i64 0, int i64 0, int i64 0, int i64 0] 41
{ whole := true }))
((X none).n H7) 0
[int i64 x14.1.2.2, int i64 x14.2.2, int i64 x14.1.1.2.2.2, int i64 0] =
some H8 ∧
∃ (x16 : ((Int × (Option (Nat × Nat) × Nat) × (Option (Nat × Nat) × Nat) × Int) × (Option (Nat × Nat) × Nat) × Int) × Int × Nat → AH → Prop),
(bif x14.1.1.2.2.2 == (5:Int) then
[int i64 ((X none).wrap i64 (x14.2.1 - (1:Int)))].length = 1 ∧
∃ (H9:AH),
(X none).wr H8 ((X none).n H7) 3 [int i64 ((X none).wrap i64 (x14.2.1 - (1:Int)))] = some H9 ∧
∃ (x17 : ((Int × (Option (Nat × Nat) × Nat) × (Option (Nat × Nat) × Nat) × Int) × (Option (Nat × Nat) × Nat) × Int) × Int × Nat),
∃ (_k20:Nat),
True ∧
[slice q k k, int i64 x14.1.1.1, slice x14.1.1.2.1.1 x14.1.1.2.1.2 x14.1.1.2.1.2,
slice x14.1.1.2.2.1.1 x14.1.1.2.2.1.2 x14.1.1.2.2.1.2, int i64 x14.1.1.2.2.2,
slice x14.1.2.1.1 x14.1.2.1.2 x14.1.2.1.2, int i64 x14.1.2.2, int i64 x14.2.2,
ptr (some ((X none).n H7, 0))] =
[slice q k k, int i64 x17.1.1.1, slice x17.1.1.2.1.1 x17.1.1.2.1.2 x17.1.1.2.1.2,
slice x17.1.1.2.2.1.1 x17.1.1.2.2.1.2 x17.1.1.2.2.1.2, int i64 x17.1.1.2.2.2,
slice x17.1.2.1.1 x17.1.2.1.2 x17.1.2.1.2, int i64 x17.1.2.2, int i64 x17.2.1,
ptr (some (x17.2.2, 0))] ∧
x16 x17 H9
else
∃ (x18 : ((Int × (Option (Nat × Nat) × Nat) × (Option (Nat × Nat) × Nat) × Int) × (Option (Nat × Nat) × Nat) × Int) × Int × Nat),
∃ (_k21:Nat),
True ∧
[slice q k k, int i64 x14.1.1.1, slice x14.1.1.2.1.1 x14.1.1.2.1.2 x14.1.1.2.1.2,
slice x14.1.1.2.2.1.1 x14.1.1.2.2.1.2 x14.1.1.2.2.1.2, int i64 x14.1.1.2.2.2,
slice x14.1.2.1.1 x14.1.2.1.2 x14.1.2.1.2, int i64 x14.1.2.2, int i64 x14.2.2,
ptr (some ((X none).n H7, 0))] =
[slice q k k, int i64 x18.1.1.1, slice x18.1.1.2.1.1 x18.1.1.2.1.2 x18.1.1.2.1.2,
slice x18.1.1.2.2.1.1 x18.1.1.2.2.1.2 x18.1.1.2.2.1.2, int i64 x18.1.1.2.2.2,
slice x18.1.2.1.1 x18.1.2.1.2 x18.1.2.1.2, int i64 x18.1.2.2, int i64 x18.2.1,
ptr (some (x18.2.2, 0))] ∧
x16 x18 H8) ∧
∀ (x19 : ((Int × (Option (Nat × Nat) × Nat) × (Option (Nat × Nat) × Nat) × Int) × (Option (Nat × Nat) × Nat) × Int) × Int × Nat) (H10:AH),
x16 x19 H10 →
∃ (n5 n6 n7 n8:Int),
(X none).rdn H10 x19.2.2 0 4 = some [int i64 n5, int i64 n6, int i64 n7, int i64 n8] ∧
(4 ≤ 16777216 ∧ 4 = 4 ∧ 0 < 4 ∧ true = true ∧ true = true) ∧
∃ (q2 : Option (Nat × Nat)),
∃ (k22 k23:Nat),
∃ (H11:AH),
(X none).app 24 24 (slice x19.1.2.1.1 x19.1.2.1.2 x19.1.2.1.2)
(slice (some ((X none).n H10, 0)) 1 1)
((X none).al H10
(cells [int i64 n5, int i64 n6, int i64 n7, int i64 n8] 41
{ whole := true })) =
some (slice q2 k22 k23, H11) ∧
∃ (x20 : ((Int × (Option (Nat × Nat) × Nat) × (Option (Nat × Nat) × Nat) × Int) × (Option (Nat × Nat) × Nat) × Int) × Int),
∃ (_k24:Nat),
True ∧
[slice q k k, int i64 x19.1.1.1,
slice x19.1.1.2.1.1 x19.1.1.2.1.2 x19.1.1.2.1.2,
slice x19.1.1.2.2.1.1 x19.1.1.2.2.1.2 x19.1.1.2.2.1.2,
int i64 x19.1.1.2.2.2, slice q2 k22 k23, int i64 x19.1.2.2,
int i64 x19.2.1] =
[slice q k k, int i64 x20.1.1.1,
slice x20.1.1.2.1.1 x20.1.1.2.1.2 x20.1.1.2.1.2,
slice x20.1.1.2.2.1.1 x20.1.1.2.2.1.2 x20.1.1.2.2.1.2,
int i64 x20.1.1.2.2.2, slice x20.1.2.1.1 x20.1.2.1.2 x20.1.2.1.2,
int i64 x20.1.2.2, int i64 x20.2] ∧
x15 x20 H11
else
∃ (x21 : ((Int × (Option (Nat × Nat) × Nat) × (Option (Nat × Nat) × Nat) × Int) × (Option (Nat × Nat) × Nat) × Int) × Int),
∃ (_k25:Nat),
True ∧
[slice q k k, int i64 x14.1.1.1, slice x14.1.1.2.1.1 x14.1.1.2.1.2 x14.1.1.2.1.2,
slice x14.1.1.2.2.1.1 x14.1.1.2.2.1.2 x14.1.1.2.2.1.2, int i64 x14.1.1.2.2.2,
slice x14.1.2.1.1 x14.1.2.1.2 x14.1.2.1.2, int i64 x14.1.2.2, int i64 x14.2.2] =
[slice q k k, int i64 x21.1.1.1, slice x21.1.1.2.1.1 x21.1.1.2.1.2 x21.1.1.2.1.2,
slice x21.1.1.2.2.1.1 x21.1.1.2.2.1.2 x21.1.1.2.2.1.2, int i64 x21.1.1.2.2.2,
slice x21.1.2.1.1 x21.1.2.1.2 x21.1.2.1.2, int i64 x21.1.2.2, int i64 x21.2] ∧
x15 x21 H7) ∧
∀ (x22 : ((Int × (Option (Nat × Nat) × Nat) × (Option (Nat × Nat) × Nat) × Int) × (Option (Nat × Nat) × Nat) × Int) × Int) (H12:AH),
x15 x22 H12 →
bif decide ((X none).wrap i64 ((↑x22.1.1.2.2.1.2 : Int) + (↑x22.1.2.1.2 : Int)) > (256:Int)) then
Q (tuple [slice none 0 0, bool false]) H12
else
∃ (x23 : (Int × (Option (Nat × Nat) × Nat) × (Option (Nat × Nat) × Nat) × Int) × (Option (Nat × Nat) × Nat) × Int),
∃ (k26:Nat),
k26 < k6 ∧
[slice q k k, int i64 x22.1.1.1, slice x22.1.1.2.1.1 x22.1.1.2.1.2 x22.1.1.2.1.2,
slice x22.1.1.2.2.1.1 x22.1.1.2.2.1.2 x22.1.1.2.2.1.2, int i64 x22.1.1.2.2.2,
slice x22.1.2.1.1 x22.1.2.1.2 x22.1.2.1.2, int i64 x22.2] =
[slice q k k, int i64 x23.1.1, slice x23.1.2.1.1 x23.1.2.1.2 x23.1.2.1.2,
slice x23.1.2.2.1.1 x23.1.2.2.1.2 x23.1.2.2.1.2, int i64 x23.1.2.2.2,
slice x23.2.1.1 x23.2.1.2 x23.2.1.2, int i64 x23.2.2] ∧
x4 x23 H12 k26
else
∃ (x24 : (Int × (Option (Nat × Nat) × Nat) × (Option (Nat × Nat) × Nat) × Int) × (Option (Nat × Nat) × Nat) × Int → AH → Nat → Prop),
(∃ (x25 : (Int × (Option (Nat × Nat) × Nat) × (Option (Nat × Nat) × Nat) × Int) × (Option (Nat × Nat) × Nat) × Int),
∃ (k27:Nat),
[slice q k k, int i64 x6.1.1, slice x6.1.2.1.1 x6.1.2.1.2 x6.1.2.1.2, slice x6.1.2.2.1.1 x6.1.2.2.1.2 x6.1.2.2.1.2,
int i64 x6.1.2.2.2, slice x6.2.1.1 x6.2.1.2 x6.2.1.2, int i64 0] =
[slice q k k, int i64 x25.1.1, slice x25.1.2.1.1 x25.1.2.1.2 x25.1.2.1.2,
slice x25.1.2.2.1.1 x25.1.2.2.1.2 x25.1.2.2.1.2, int i64 x25.1.2.2.2, slice x25.2.1.1 x25.2.1.2 x25.2.1.2,
int i64 x25.2.2] ∧
x24 x25 H3 k27) ∧
∀ (x26 : (Int × (Option (Nat × Nat) × Nat) × (Option (Nat × Nat) × Nat) × Int) × (Option (Nat × Nat) × Nat) × Int) (H13:AH) (k28:Nat),
x24 x26 H13 k28 →
bif decide (x26.2.2 < (↑x26.2.1.2 : Int)) then
∃ (k29 k30:Nat),
(x26.2.1.1 = some (k29, k30) ∧ (0:Int) ≤ x26.2.2 ∧ x26.2.2 < (↑x26.2.1.2 : Int)) ∧
∃ (n9:Int),
(X none).rd1 H13 k29 (k30 + x26.2.2.toNat * 4 + 0) = some (int i64 n9) ∧
∃ (k31 k32:Nat),
(x26.1.2.1.1 = some (k31, k32) ∧ (0:Int) ≤ n9 ∧ n9 < (↑x26.1.2.1.2 : Int)) ∧
1 = 1 ∧
∃ (H14:AH),
(X none).wr H13 k31 (k32 + n9.toNat * 1) [bool true] = some H14 ∧
∃ (k33 k34:Nat),
(x26.2.1.1 = some (k33, k34) ∧ (0:Int) ≤ x26.2.2 ∧ x26.2.2 < (↑x26.2.1.2 : Int)) ∧
∃ (n10:Int),
(X none).rd1 H14 k33 (k34 + x26.2.2.toNat * 4 + 1) = some (int i64 n10) ∧
∃ (k35 k36:Nat),
(x26.1.2.1.1 = some (k35, k36) ∧ (0:Int) ≤ n10 ∧ n10 < (↑x26.1.2.1.2 : Int)) ∧
1 = 1 ∧
∃ (H15:AH),
(X none).wr H14 k35 (k36 + n10.toNat * 1) [bool true] = some H15 ∧
∃ (k37 k38:Nat),
(x26.2.1.1 = some (k37, k38) ∧ (0:Int) ≤ x26.2.2 ∧ x26.2.2 < (↑x26.2.1.2 : Int)) ∧
∃ (n11 n12 n13 n14:Int),
(X none).rdn H15 k37 (k38 + x26.2.2.toNat * 4) 4 =
some [int i64 n11, int i64 n12, int i64 n13, int i64 n14] ∧
(X none).call 81
[slice x26.1.2.2.1.1 x26.1.2.2.1.2 x26.1.2.2.1.2,
agg [int i64 n11, int i64 n12, int i64 n13, int i64 n14]]
H15 fun (v3:AV) (H16:AH) =>
∃ (q3 : Option (Nat × Nat)),
∃ (k39 k40:Nat),
v3 = slice q3 k39 k40 ∧
∃ (x27 : (Int × (Option (Nat × Nat) × Nat) × (Option (Nat × Nat) × Nat) × Int) × (Option (Nat × Nat) × Nat) × Int),
∃ (k41:Nat),
k41 < k28 ∧
[slice q k k, int i64 x26.1.1, slice x26.1.2.1.1 x26.1.2.1.2 x26.1.2.1.2,
slice q3 k39 k40, int i64 x26.1.2.2.2, slice x26.2.1.1 x26.2.1.2 x26.2.1.2,
int i64 ((X none).wrap i64 (x26.2.2 + (1:Int)))] =
[slice q k k, int i64 x27.1.1, slice x27.1.2.1.1 x27.1.2.1.2 x27.1.2.1.2,
slice x27.1.2.2.1.1 x27.1.2.2.1.2 x27.1.2.2.1.2,
int i64 x27.1.2.2.2, slice x27.2.1.1 x27.2.1.2 x27.2.1.2,
int i64 x27.2.2] ∧
x24 x27 H16 k41
else
∃ (x28 : Int × (Option (Nat × Nat) × Nat) × (Option (Nat × Nat) × Nat) × Int),
∃ (k42:Nat),
k42 < k4 ∧
[slice q k k, int i64 x26.1.1, slice x26.1.2.1.1 x26.1.2.1.2 x26.1.2.1.2,
slice x26.1.2.2.1.1 x26.1.2.2.1.2 x26.1.2.2.1.2, int i64 ((X none).wrap i64 (x26.1.2.2.2 + (1:Int)))] =
[slice q k k, int i64 x28.1, slice x28.2.1.1 x28.2.1.2 x28.2.1.2, slice x28.2.2.1.1 x28.2.2.1.2 x28.2.2.1.2,
int i64 x28.2.2.2] ∧
x1 x28 H13 k42
else Q (tuple [slice x3.2.2.1.1 x3.2.2.1.2 x3.2.2.1.2, bool true]) H2) := by kernel_rfl

theorem rLay_vc (X : Option Nat → Atoms) (It : FuncId → List AV → List AV → (AH → Prop) → List (List AV) → Prop) (q : Option (Nat × Nat)) (k:Nat) (xf xt xk xv : Int) (H:AH) (Q : AV → AH → Prop) : (vcG X It Tryd.prog [⟨2, Nat × Int, [0, 3, 5], fun x => [.slice q k k, .ptr (some (x.1, 0)), .int .i64 x.2], fun _ _ _ => True⟩, ⟨200004, Nat × Int, [0, 3, 5], fun x => [.slice q k k, .ptr (some (x.1, 0)), .int .i64 x.2], fun _ _ _ => True⟩] [] 81 [.slice q k k, .agg [.int .i64 xf, .int .i64 xt, .int .i64 xk, .int .i64 xv]] H Q) =
(true = true ∧
∃ (x1 : Nat × Int → AH → Prop),
(∃ (x2 : Nat × Int → AH → Nat → Prop),
(∃ (x3 : Nat × Int),
∃ (k1:Nat),
[slice q k k, ptr (some ((X none).n H, (0:Nat))), int i64 (↑k : Int)] = [slice q k k, ptr (some (x3.1, (0:Nat))), int i64 x3.2] ∧
x2 x3 ((X none).al H (cells [int i64 xf, int i64 xt, int i64 xk, int i64 xv] 41 { whole := true })) k1) ∧
∀ (x4 : Nat × Int) (H1:AH) (k2:Nat),
x2 x4 H1 k2 →
bif decide (x4.2 > (0:Int)) == true then
∃ (n1 n2 n3 n4:Int),
(X none).rdn H1 x4.1 0 4 = some [int i64 n1, int i64 n2, int i64 n3, int i64 n4] ∧
∃ (k3 k4:Nat),
(q = some (k3, k4) ∧ (0:Int) ≤ (X none).wrap i64 (x4.2 - (1:Int)) ∧ (X none).wrap i64 (x4.2 - (1:Int)) < (↑k : Int)) ∧
∃ (n5 n6 n7 n8:Int),
(X none).rdn H1 k3 (k4 + ((X none).wrap i64 (x4.2 - (1:Int))).toNat * 4) 4 =
some [int i64 n5, int i64 n6, int i64 n7, int i64 n8] ∧
(X none).call 94
[agg [int i64 n1, int i64 n2, int i64 n3, int i64 n4],
agg [int i64 n5, int i64 n6, int i64 n7, int i64 n8]]
H1 fun (v1:AV) (H2:AH) =>
∃ (b1:Bool),
v1 = bool b1 ∧
bif b1 then
∃ (x5 : Nat × Int),
∃ (k5:Nat),
k5 < k2 ∧
[slice q k k, ptr (some (x4.1, 0)), int i64 ((X none).wrap i64 (x4.2 - (1:Int)))] =
[slice q k k, ptr (some (x5.1, 0)), int i64 x5.2] ∧
x2 x5 H2 k5
else
∃ (x6 : Nat × Int),
∃ (_k6:Nat),
True ∧ [slice q k k, ptr (some (x4.1, 0)), int i64 x4.2] = [slice q k k, ptr (some (x6.1, 0)), int i64 x6.2] ∧ x1 x6 H2
else ∃ (x7 : Nat × Int), ∃ (_k7:Nat), True ∧ [slice q k k, ptr (some (x4.1, 0)), int i64 x4.2] = [slice q k k, ptr (some (x7.1, 0)), int i64 x7.2] ∧ x1 x7 H1) ∧
∀ (x8 : Nat × Int) (H3:AH),
x1 x8 H3 →
∃ (q1 : Option (Nat × Nat)),
∃ (k8 k9:Nat),
(X none).slc 24 (slice q k k) none (some (int i64 x8.2)) none H3 = some (slice q1 k8 k9) ∧
∃ (q2 : Option (Nat × Nat)),
∃ (k10 k11:Nat),
∃ (H4:AH),
(X none).app 24 24 (slice none 0 0) (slice q1 k8 k9) H3 = some (slice q2 k10 k11, H4) ∧
∃ (n9 n10 n11 n12:Int),
(X none).rdn H4 x8.1 0 4 = some [int i64 n9, int i64 n10, int i64 n11, int i64 n12] ∧
(4 ≤ 16777216 ∧ 4 = 4 ∧ 0 < 4 ∧ true = true ∧ true = true) ∧
∃ (q3 : Option (Nat × Nat)),
∃ (k12 k13:Nat),
∃ (H5:AH),
(X none).app 24 24 (slice q2 k10 k11) (slice (some ((X none).n H4, 0)) 1 1)
((X none).al H4 (cells [int i64 n9, int i64 n10, int i64 n11, int i64 n12] 41 { whole := true })) =
some (slice q3 k12 k13, H5) ∧
∃ (q4 : Option (Nat × Nat)),
∃ (k14 k15:Nat),
(X none).slc 24 (slice q k k) (some (int i64 x8.2)) none none H5 = some (slice q4 k14 k15) ∧
∃ (q5 : Option (Nat × Nat)),
∃ (k16 k17:Nat), ∃ (H6:AH), (X none).app 24 24 (slice q3 k12 k13) (slice q4 k14 k15) H5 = some (slice q5 k16 k17, H6) ∧ Q (slice q5 k16 k17) H6) := by kernel_rfl

theorem rCount_vc (X:Atoms) (s : List UInt8) (H:AH) (Q : AV → AH → Prop) : (vcF X Tryd.prog [] 41 [.str s] H Q) =
(X.call (70:Nat) [str s] H fun (v1:AV) (H1:AH) => ∃ (q1 : Option (Nat × Nat)), ∃ (k1:Nat), ∃ (k2:Nat), v1 = slice q1 k1 k2 ∧ Q (int i64 (↑k1 : Int)) H1) := by kernel_rfl

theorem rLong_vc (X:Atoms) (c:Int) (H:AH) (Q : AV → AH → Prop) : (vcF X Tryd.prog [] 103 [.int .u8 c] H Q) =
(bif decide (c < (128:Int)) then Q (int i64 1) H
else
bif decide (c ≥ (194:Int)) && decide (c ≤ (223:Int)) then Q (int i64 2) H
else
bif decide (c ≥ (224:Int)) && decide (c ≤ (239:Int)) then Q (int i64 3) H
else bif decide (c ≥ (240:Int)) && decide (c ≤ (244:Int)) then Q (int i64 4) H else Q (int i64 0) H) := by kernel_rfl

theorem rSecond_vc (X:Atoms) (c d : Int) (H:AH) (Q : AV → AH → Prop) : (vcF X Tryd.prog [] 104 [.int .u8 c, .int .u8 d] H Q) =
(bif c == (224:Int) then Q (bool (decide (d ≥ (160:Int)) && decide (d ≤ (191:Int)))) H
else
bif c == (237:Int) then Q (bool (decide (d ≥ (128:Int)) && decide (d ≤ (159:Int)))) H
else
bif c == (240:Int) then Q (bool (decide (d ≥ (144:Int)) && decide (d ≤ (191:Int)))) H
else bif c == (244:Int) then Q (bool (decide (d ≥ (128:Int)) && decide (d ≤ (143:Int)))) H else Q (bool (decide (d ≥ (128:Int)) && decide (d ≤ (191:Int)))) H) := by kernel_rfl

theorem rRest_vc (X:Atoms) (b k : Nat) (i:Int) (H:AH) (Q : AV → AH → Prop) : (vcF X Tryd.prog [] 105 [.slice (some (b, 0)) k k, .int .i64 i] H Q) =
(∃ (k1 k2:Nat),
(some (b, (0:Nat)) = some (k1, k2) ∧ (0:Int) ≤ i ∧ i < (↑k : Int)) ∧
∃ (n1:Int), X.rd1 H k1 (k2 + i.toNat * 1) = some (int u8 n1) ∧ Q (int i64 (X.wrap i64 (X.wrap i64 n1 - (128:Int)))) H) := by kernel_rfl

theorem rMore_vc (X:Atoms) (b k : Nat) (i:Int) (H:AH) (Q : AV → AH → Prop) : (vcF X Tryd.prog [] 106 [.slice (some (b, 0)) k k, .int .i64 i] H Q) =
(∃ (k1 k2:Nat),
((decide (i < (↑k : Int)) == true) = true → some (b, (0:Nat)) = some (k1, k2) ∧ (0:Int) ≤ i ∧ i < (↑k : Int)) ∧
∃ (n1:Int),
((decide (i < (↑k : Int)) == true) = true → X.rd1 H k1 (k2 + i.toNat * (1:Nat)) = some (int u8 n1)) ∧
∃ (k3 k4:Nat),
(((decide (i < (↑k : Int)) && decide (n1 ≥ (128:Int))) == true) = true → some (b, (0:Nat)) = some (k3, k4) ∧ (0:Int) ≤ i ∧ i < (↑k : Int)) ∧
∃ (n2:Int),
(((decide (i < (↑k : Int)) && decide (n1 ≥ (128:Int))) == true) = true → X.rd1 H k3 (k4 + i.toNat * (1:Nat)) = some (int u8 n2)) ∧
Q (bool (decide (i < (↑k : Int)) && decide (n1 ≥ (128:Int)) && decide (n2 ≤ (191:Int)))) H) := by kernel_rfl

theorem rOne_vc (X : Option Nat → Atoms) (It : FuncId → List AV → List AV → (AH → Prop) → List (List AV) → Prop) (b k : Nat) (i:Int) (H:AH) (Q : AV → AH → Prop) : (vcG X It Tryd.prog [⟨200009, Nat × Int × Nat × Bool, [0, 1, 4, 5, 6, 46], fun x => [.slice (some (b, 0)) k k, .int .i64 i, .ptr (some (x.1, 0)), .int .i64 x.2.1, .ptr (some (x.2.2.1, 0)), .bool x.2.2.2], fun _ _ _ => True⟩, ⟨12, Nat × Int × Nat × Int × Int, [0, 1, 4, 5, 6, 7, 8], fun x => [.slice (some (b, 0)) k k, .int .i64 i, .ptr (some (x.1, 0)), .int .i64 x.2.1, .ptr (some (x.2.2.1, 0)), .int .i64 x.2.2.2.1, .int .i64 x.2.2.2.2], fun _ _ _ => True⟩] [] 88 [.slice (some (b, 0)) k k, .int .i64 i] H Q) =
(∃ (k1 k2:Nat),
(some (b, (0:Nat)) = some (k1, k2) ∧ (0:Int) ≤ i ∧ i < (↑k : Int)) ∧
∃ (n1:Int),
(X none).rd1 ((X none).al H (cells [int i64 0, int i64 0, int i64 0, bool false] 138 { whole := true })) k1 (k2 + i.toNat * 1) =
some (int u8 n1) ∧
(X none).call 103 [int u8 n1] ((X none).al H (cells [int i64 0, int i64 0, int i64 0, bool false] 138 { whole := true }))
fun (v1:AV) (H1:AH) =>
∃ (n2:Int),
v1 = int i64 n2 ∧
[int i64 i, int i64 1, int i64 65533, bool true].length = 4 ∧
∃ (H2:AH),
(X none).wr ((X none).al H1 (cells [int i64 0, int i64 0, int i64 0, bool false] 138 { whole := true })) ((X none).n H1) 0
[int i64 i, int i64 1, int i64 65533, bool true] =
some H2 ∧
bif n2 == (0:Int) then
∃ (n3 n4 n5:Int),
∃ (b1:Bool),
(X none).rdn H2 ((X none).n H1) 0 4 = some [int i64 n3, int i64 n4, int i64 n5, bool b1] ∧
[int i64 n3, int i64 n4, int i64 n5, bool b1].length = 4 ∧
∃ (H3:AH),
(X none).wr H2 ((X none).n H) 0 [int i64 n3, int i64 n4, int i64 n5, bool b1] = some H3 ∧
∃ (n6 n7 n8:Int),
∃ (b2:Bool),
(X none).rdn H3 ((X none).n H) 0 4 = some [int i64 n6, int i64 n7, int i64 n8, bool b2] ∧
Q (agg [int i64 n6, int i64 n7, int i64 n8, bool b2]) H3
else
bif n2 == (1:Int) then
∃ (k3 k4:Nat),
(some (b, (0:Nat)) = some (k3, k4) ∧ (0:Int) ≤ i ∧ i < (↑k : Int)) ∧
∃ (n9:Int),
(X none).rd1 H2 k3 (k4 + i.toNat * 1) = some (int u8 n9) ∧
[int i64 i, int i64 1, int i64 ((X none).wrap i64 n9), bool false].length = 4 ∧
∃ (H4:AH),
(X none).wr H2 ((X none).n H) 0 [int i64 i, int i64 1, int i64 ((X none).wrap i64 n9), bool false] = some H4 ∧
∃ (n10 n11 n12:Int),
∃ (b3:Bool),
(X none).rdn H4 ((X none).n H) 0 4 = some [int i64 n10, int i64 n11, int i64 n12, bool b3] ∧
Q (agg [int i64 n10, int i64 n11, int i64 n12, bool b3]) H4
else
∃ (x1 : Nat × Int × Nat × Bool → AH → Prop),
(bif decide ((X none).wrap i64 (i + (1:Int)) ≥ (↑k : Int)) == false then
∃ (k5 k6:Nat),
(some (b, (0:Nat)) = some (k5, k6) ∧ (0:Int) ≤ i ∧ i < (↑k : Int)) ∧
∃ (n13:Int),
(X none).rd1 H2 k5 (k6 + i.toNat * 1) = some (int u8 n13) ∧
∃ (k7 k8:Nat),
(some (b, (0:Nat)) = some (k7, k8) ∧ (0:Int) ≤ (X none).wrap i64 (i + (1:Int)) ∧ (X none).wrap i64 (i + (1:Int)) < (↑k : Int)) ∧
∃ (n14:Int),
(X none).rd1 H2 k7 (k8 + ((X none).wrap i64 (i + (1:Int))).toNat * 1) = some (int u8 n14) ∧
(X none).call 104 [int u8 n13, int u8 n14] H2 fun (v2:AV) (H5:AH) =>
∃ (b4:Bool),
v2 = bool b4 ∧
∃ (x2 : Nat × Int × Nat × Bool),
∃ (_k9:Nat),
True ∧
[slice (some (b, 0)) k k, int i64 i, ptr (some ((X none).n H, 0)), int i64 n2, ptr (some ((X none).n H1, 0)),
bool !b4] =
[slice (some (b, 0)) k k, int i64 i, ptr (some (x2.1, 0)), int i64 x2.2.1, ptr (some (x2.2.2.1, 0)),
bool x2.2.2.2] ∧
x1 x2 H5
else
∃ (x3 : Nat × Int × Nat × Bool),
∃ (_k10:Nat),
True ∧
[slice (some (b, 0)) k k, int i64 i, ptr (some ((X none).n H, 0)), int i64 n2, ptr (some ((X none).n H1, 0)), bool true] =
[slice (some (b, 0)) k k, int i64 i, ptr (some (x3.1, 0)), int i64 x3.2.1, ptr (some (x3.2.2.1, 0)), bool x3.2.2.2] ∧
x1 x3 H2) ∧
∀ (x4 : Nat × Int × Nat × Bool) (H6:AH),
x1 x4 H6 →
bif x4.2.2.2 then
∃ (n15 n16 n17:Int),
∃ (b5:Bool),
(X none).rdn H6 x4.2.2.1 0 4 = some [int i64 n15, int i64 n16, int i64 n17, bool b5] ∧
[int i64 n15, int i64 n16, int i64 n17, bool b5].length = 4 ∧
∃ (H7:AH),
(X none).wr H6 x4.1 0 [int i64 n15, int i64 n16, int i64 n17, bool b5] = some H7 ∧
∃ (n18 n19 n20:Int),
∃ (b6:Bool),
(X none).rdn H7 x4.1 0 4 = some [int i64 n18, int i64 n19, int i64 n20, bool b6] ∧
Q (agg [int i64 n18, int i64 n19, int i64 n20, bool b6]) H7
else
(X none).call 105 [slice (some (b, 0)) k k, int i64 ((X none).wrap i64 (i + (1:Int)))] H6 fun (v3:AV) (H8:AH) =>
∃ (n21:Int),
v3 = int i64 n21 ∧
∃ (x5 : Nat × Int × Nat × Int × Int → AH → Nat → Prop),
(∃ (x6 : Nat × Int × Nat × Int × Int),
∃ (k11:Nat),
[slice (some (b, 0)) k k, int i64 i, ptr (some (x4.1, 0)), int i64 x4.2.1, ptr (some (x4.2.2.1, 0)),
int i64 n21, int i64 2] =
[slice (some (b, 0)) k k, int i64 i, ptr (some (x6.1, 0)), int i64 x6.2.1, ptr (some (x6.2.2.1, 0)),
int i64 x6.2.2.2.1, int i64 x6.2.2.2.2] ∧
x5 x6 H8 k11) ∧
∀ (x7 : Nat × Int × Nat × Int × Int) (H9:AH) (k12:Nat),
x5 x7 H9 k12 →
bif decide (x7.2.2.2.2 < x7.2.1) then
(X none).call 106 [slice (some (b, 0)) k k, int i64 ((X none).wrap i64 (i + x7.2.2.2.2))] H9 fun (v4:AV) (H10:AH) =>
∃ (b7:Bool),
v4 = bool b7 ∧
bif !b7 then
∃ (n22 n23 n24:Int),
∃ (b8:Bool),
(X none).rdn H10 x7.2.2.1 0 4 = some [int i64 n22, int i64 n23, int i64 n24, bool b8] ∧
[int i64 n22, int i64 n23, int i64 n24, bool b8].length = 4 ∧
∃ (H11:AH),
(X none).wr H10 x7.1 0 [int i64 n22, int i64 n23, int i64 n24, bool b8] = some H11 ∧
∃ (n25 n26 n27:Int),
∃ (b9:Bool),
(X none).rdn H11 x7.1 0 4 = some [int i64 n25, int i64 n26, int i64 n27, bool b9] ∧
Q (agg [int i64 n25, int i64 n26, int i64 n27, bool b9]) H11
else
(X none).call 105 [slice (some (b, 0)) k k, int i64 ((X none).wrap i64 (i + x7.2.2.2.2))] H10 fun (v5:AV) (H12:AH) =>
∃ (n28:Int),
v5 = int i64 n28 ∧
∃ (x8 : Nat × Int × Nat × Int × Int),
∃ (k13:Nat),
k13 < k12 ∧
[slice (some (b, 0)) k k, int i64 i, ptr (some (x7.1, 0)), int i64 x7.2.1, ptr (some (x7.2.2.1, 0)),
int i64 ((X none).wrap i64 ((X none).wrap i64 ((64:Int) * x7.2.2.2.1) + n28)),
int i64 ((X none).wrap i64 (x7.2.2.2.2 + (1:Int)))] =
[slice (some (b, 0)) k k, int i64 i, ptr (some (x8.1, 0)), int i64 x8.2.1,
ptr (some (x8.2.2.1, 0)), int i64 x8.2.2.2.1, int i64 x8.2.2.2.2] ∧
x5 x8 H12 k13
else
bif x7.2.1 == (2:Int) then
∃ (k14 k15:Nat),
(some (b, (0:Nat)) = some (k14, k15) ∧ (0:Int) ≤ i ∧ i < (↑k : Int)) ∧
∃ (n29:Int),
(X none).rd1 H9 k14 (k15 + i.toNat * 1) = some (int u8 n29) ∧
[int i64 i, int i64 x7.2.1,
int i64
((X none).wrap i64 (x7.2.2.2.1 + (X none).wrap i64 ((64:Int) * (X none).wrap i64 ((X none).wrap i64 n29 - (192:Int))))),
bool false].length =
4 ∧
∃ (H13:AH),
(X none).wr H9 x7.1 0
[int i64 i, int i64 x7.2.1,
int i64
((X none).wrap i64
(x7.2.2.2.1 + (X none).wrap i64 ((64:Int) * (X none).wrap i64 ((X none).wrap i64 n29 - (192:Int))))),
bool false] =
some H13 ∧
∃ (n30 n31 n32:Int),
∃ (b10:Bool),
(X none).rdn H13 x7.1 0 4 = some [int i64 n30, int i64 n31, int i64 n32, bool b10] ∧
Q (agg [int i64 n30, int i64 n31, int i64 n32, bool b10]) H13
else
bif x7.2.1 == (3:Int) then
∃ (k16 k17:Nat),
(some (b, (0:Nat)) = some (k16, k17) ∧ (0:Int) ≤ i ∧ i < (↑k : Int)) ∧
∃ (n33:Int),
(X none).rd1 H9 k16 (k17 + i.toNat * 1) = some (int u8 n33) ∧
[int i64 i, int i64 x7.2.1,
int i64
((X none).wrap i64
(x7.2.2.2.1 + (X none).wrap i64 ((4096:Int) * (X none).wrap i64 ((X none).wrap i64 n33 - (224:Int))))),
bool false].length =
4 ∧
∃ (H14:AH),
(X none).wr H9 x7.1 0
[int i64 i, int i64 x7.2.1,
int i64
((X none).wrap i64
(x7.2.2.2.1 + (X none).wrap i64 ((4096:Int) * (X none).wrap i64 ((X none).wrap i64 n33 - (224:Int))))),
bool false] =
some H14 ∧
∃ (n34 n35 n36:Int),
∃ (b11:Bool),
(X none).rdn H14 x7.1 0 4 = some [int i64 n34, int i64 n35, int i64 n36, bool b11] ∧
Q (agg [int i64 n34, int i64 n35, int i64 n36, bool b11]) H14
else
bif x7.2.1 == (4:Int) then
∃ (k18 k19:Nat),
(some (b, (0:Nat)) = some (k18, k19) ∧ (0:Int) ≤ i ∧ i < (↑k : Int)) ∧
∃ (n37:Int),
(X none).rd1 H9 k18 (k19 + i.toNat * 1) = some (int u8 n37) ∧
[int i64 i, int i64 x7.2.1,
int i64
((X none).wrap i64
(x7.2.2.2.1 + (X none).wrap i64 ((262144:Int) * (X none).wrap i64 ((X none).wrap i64 n37 - (240:Int))))),
bool false].length =
4 ∧
∃ (H15:AH),
(X none).wr H9 x7.1 0
[int i64 i, int i64 x7.2.1,
int i64
((X none).wrap i64
(x7.2.2.2.1 + (X none).wrap i64 ((262144:Int) * (X none).wrap i64 ((X none).wrap i64 n37 - (240:Int))))),
bool false] =
some H15 ∧
∃ (n38 n39 n40:Int),
∃ (b12:Bool),
(X none).rdn H15 x7.1 0 4 = some [int i64 n38, int i64 n39, int i64 n40, bool b12] ∧
Q (agg [int i64 n38, int i64 n39, int i64 n40, bool b12]) H15
else
[int i64 i, int i64 x7.2.1, int i64 x7.2.2.2.1, bool false].length = 4 ∧
∃ (H16:AH),
(X none).wr H9 x7.1 0 [int i64 i, int i64 x7.2.1, int i64 x7.2.2.2.1, bool false] = some H16 ∧
∃ (n41 n42 n43:Int),
∃ (b13:Bool),
(X none).rdn H16 x7.1 0 4 = some [int i64 n41, int i64 n42, int i64 n43, bool b13] ∧
Q (agg [int i64 n41, int i64 n42, int i64 n43, bool b13]) H16) := by kernel_rfl

theorem rSigns_vc (X : Option Nat → Atoms) (It : FuncId → List AV → List AV → (AH → Prop) → List (List AV) → Prop) (s : List UInt8) (H:AH) (Q : AV → AH → Prop) : (vcG X It Tryd.prog [⟨4, (Nat × Nat) × (Option (Nat × Nat) × Nat) × Int, [3, 4, 5], fun x => [.slice (some (x.1.1, 0)) x.1.2 x.1.2, .slice x.2.1.1 x.2.1.2 x.2.1.2, .int .i64 x.2.2], fun _ _ _ => True⟩] [] 70 [.str s] H Q) =
(∃ (q1 : Option (Nat × Nat)),
∃ (k1 k2:Nat),
∃ (H1:AH),
(X none).bs 9 39 s H = some (slice q1 k1 k2, H1) ∧
∃ (x1 : (Nat × Nat) × (Option (Nat × Nat) × Nat) × Int → AH → Nat → Prop),
(∃ (x2 : (Nat × Nat) × (Option (Nat × Nat) × Nat) × Int),
∃ (k3:Nat),
[slice q1 k1 k2, slice none 0 0, int i64 0] =
[slice (some (x2.1.1, 0)) x2.1.2 x2.1.2, slice x2.2.1.1 x2.2.1.2 x2.2.1.2, int i64 x2.2.2] ∧
x1 x2 H1 k3) ∧
∀ (x3 : (Nat × Nat) × (Option (Nat × Nat) × Nat) × Int) (H2:AH) (k4:Nat),
x1 x3 H2 k4 →
bif decide (x3.2.2 < (↑x3.1.2 : Int)) then
(X none).call 88 [slice (some (x3.1.1, 0)) x3.1.2 x3.1.2, int i64 x3.2.2] H2 fun (v1:AV) (H3:AH) =>
∃ (n1 n2 n3:Int),
∃ (b1:Bool),
v1 = agg [int i64 n1, int i64 n2, int i64 n3, bool b1] ∧
[int i64 n1, int i64 n2, int i64 n3, bool b1].length = 4 ∧
∃ (H4:AH),
(X none).wr ((X none).al H3 (cells [int i64 0, int i64 0, int i64 0, bool false] 138 { whole := true })) ((X none).n H3) 0
[int i64 n1, int i64 n2, int i64 n3, bool b1] =
some H4 ∧
∃ (n4 n5 n6:Int),
∃ (b2:Bool),
(X none).rdn H4 ((X none).n H3) 0 4 = some [int i64 n4, int i64 n5, int i64 n6, bool b2] ∧
(4 ≤ 16777216 ∧ 4 = 4 ∧ 0 < 4 ∧ true = true ∧ true = true) ∧
∃ (q2 : Option (Nat × Nat)),
∃ (k5 k6:Nat),
∃ (H5:AH),
(X none).app 121 121 (slice x3.2.1.1 x3.2.1.2 x3.2.1.2) (slice (some ((X none).n H4, 0)) 1 1)
((X none).al H4 (cells [int i64 n4, int i64 n5, int i64 n6, bool b2] 138 { whole := true })) =
some (slice q2 k5 k6, H5) ∧
∃ (n7:Int),
(X none).rd1 H5 ((X none).n H3) 1 = some (int i64 n7) ∧
∃ (x4 : (Nat × Nat) × (Option (Nat × Nat) × Nat) × Int),
∃ (k7:Nat),
k7 < k4 ∧
[slice (some (x3.1.1, 0)) x3.1.2 x3.1.2, slice q2 k5 k6, int i64 ((X none).wrap i64 (x3.2.2 + n7))] =
[slice (some (x4.1.1, 0)) x4.1.2 x4.1.2, slice x4.2.1.1 x4.2.1.2 x4.2.1.2, int i64 x4.2.2] ∧
x1 x4 H5 k7
else Q (slice x3.2.1.1 x3.2.1.2 x3.2.1.2) H2) := by kernel_rfl

theorem rSame_vc (X : Option Nat → Atoms) (It : FuncId → List AV → List AV → (AH → Prop) → List (List AV) → Prop) (s t : List UInt8) (q r : Option (Nat × Nat)) (k m : Nat) (H:AH) (Q : AV → AH → Prop) : (vcG X It Tryd.prog [⟨4, Nat × Nat × Int, [2, 3, 5], fun x => [.ptr (some (x.1, 0)), .ptr (some (x.2.1, 0)), .int .i64 x.2.2], fun _ _ _ => True⟩] [] 15 [.agg [.str s, .slice q k k], .agg [.str t, .slice r m m]] H Q) =
(true = true ∧
true = true ∧
∃ (s1 : List UInt8),
(X none).rd1 ((X none).al ((X none).al H (cells [str s, slice q k k] 26 { whole := true })) (cells [str t, slice r m m] 26 { whole := true })) ((X none).n H) 0 = some (str s1) ∧
∃ (s2 : List UInt8),
(X none).rd1 ((X none).al ((X none).al H (cells [str s, slice q k k] 26 { whole := true })) (cells [str t, slice r m m] 26 { whole := true }))
((X none).n ((X none).al H (cells [str s, slice q k k] 26 { whole := true }))) 0 =
some (str s2) ∧
∃ (q1 : Option (Nat × Nat)),
∃ (k1 k2:Nat),
(X none).rd1 ((X none).al ((X none).al H (cells [str s, slice q k k] 26 { whole := true })) (cells [str t, slice r m m] 26 { whole := true })) ((X none).n H) 1 =
some (slice q1 k1 k2) ∧
∃ (q2 : Option (Nat × Nat)),
∃ (k3 k4:Nat),
(X none).rd1 ((X none).al ((X none).al H (cells [str s, slice q k k] 26 { whole := true })) (cells [str t, slice r m m] 26 { whole := true }))
((X none).n ((X none).al H (cells [str s, slice q k k] 26 { whole := true }))) 1 =
some (slice q2 k3 k4) ∧
bif !s1 == s2 || (↑k1 : Int) != (↑k3 : Int) then
Q (bool false) ((X none).al ((X none).al H (cells [str s, slice q k k] 26 { whole := true })) (cells [str t, slice r m m] 26 { whole := true }))
else
∃ (x1 : Nat × Nat × Int → AH → Nat → Prop),
(∃ (x2 : Nat × Nat × Int),
∃ (k5:Nat),
[ptr (some ((X none).n H, 0)), ptr (some ((X none).n ((X none).al H (cells [str s, slice q k k] 26 { whole := true })), 0)), int i64 0] =
[ptr (some (x2.1, 0)), ptr (some (x2.2.1, 0)), int i64 x2.2.2] ∧
x1 x2 ((X none).al ((X none).al H (cells [str s, slice q k k] 26 { whole := true })) (cells [str t, slice r m m] 26 { whole := true })) k5) ∧
∀ (x3 : Nat × Nat × Int) (H1:AH) (k6:Nat),
x1 x3 H1 k6 →
∃ (q3 : Option (Nat × Nat)),
∃ (k7 k8:Nat),
(X none).rd1 H1 x3.1 1 = some (slice q3 k7 k8) ∧
bif decide (x3.2.2 < (↑k7 : Int)) then
∃ (q4 : Option (Nat × Nat)),
∃ (k9 k10:Nat),
(X none).rd1 H1 x3.1 1 = some (slice q4 k9 k10) ∧
∃ (k11 k12:Nat),
(q4 = some (k11, k12) ∧ (0:Int) ≤ x3.2.2 ∧ x3.2.2 < (↑k9 : Int)) ∧
∃ (n1 n2 n3 n4:Int),
(X none).rdn H1 k11 (k12 + x3.2.2.toNat * 4) 4 = some [int i64 n1, int i64 n2, int i64 n3, int i64 n4] ∧
∃ (q5 : Option (Nat × Nat)),
∃ (k13 k14:Nat),
(X none).rd1 H1 x3.2.1 1 = some (slice q5 k13 k14) ∧
∃ (k15 k16:Nat),
(q5 = some (k15, k16) ∧ (0:Int) ≤ x3.2.2 ∧ x3.2.2 < (↑k13 : Int)) ∧
∃ (n5 n6 n7 n8:Int),
(X none).rdn H1 k15 (k16 + x3.2.2.toNat * 4) 4 =
some [int i64 n5, int i64 n6, int i64 n7, int i64 n8] ∧
bif !(n1 == n5 && (n2 == n6 && (n3 == n7 && (n4 == n8 && true)))) then Q (bool false) H1
else
∃ (x4 : Nat × Nat × Int),
∃ (k17:Nat),
k17 < k6 ∧
[ptr (some (x3.1, 0)), ptr (some (x3.2.1, 0)),
int i64 ((X none).wrap i64 (x3.2.2 + (1:Int)))] =
[ptr (some (x4.1, 0)), ptr (some (x4.2.1, 0)), int i64 x4.2.2] ∧
x1 x4 H1 k17
else Q (bool true) H1) := by kernel_rfl

theorem total_vc (X:Atoms) (d:Int) (s : List UInt8) (H:AH) (Q : AV → AH → Prop) : (vcF X Tryd.prog [] 5 [.int .i64 d, .str s] H Q) =
(X.call 10 [] H fun (v1:AV) (H1:AH) =>
∃ (b1:Bool),
v1 = bool b1 ∧
bif !b1 then Q (bool false) H1
else
X.call 12 [int i64 d, str s] H1 fun (v2:AV) (H2:AH) =>
∃ (s1 : List UInt8),
∃ (q1 : Option (Nat × Nat)),
∃ (k1 k2:Nat),
∃ (s2 : List UInt8),
∃ (n1 n2:Int),
v2 = tuple [agg [str s1, slice q1 k1 k2, str s2, int i64 n1], int i64 n2] ∧
[str s1, slice q1 k1 k2, str s2, int i64 n1].length = 4 ∧
∃ (H3:AH),
X.wr (X.al H2 (cells [str [], slice none 0 0, str [], int i64 0] 28 { whole := true })) (X.n H2) 0
[str s1, slice q1 k1 k2, str s2, int i64 n1] =
some H3 ∧
X.call 11 [int i64 d] H3 fun (v3:AV) (H4:AH) =>
∃ (b2:Bool),
v3 = bool b2 ∧
bif !b2 then Q (bool (n2 == (5:Int))) H4
else
bif n2 != (0:Int) then
∃ (s3 : List UInt8),
X.rd1 H4 (X.n H2) 0 = some (str s3) ∧
∃ (q2 : Option (Nat × Nat)),
∃ (k3 k4:Nat),
X.rd1 H4 (X.n H2) 1 = some (slice q2 k3 k4) ∧
∃ (s4 : List UInt8),
X.rd1 H4 (X.n H2) 2 = some (str s4) ∧
∃ (n3:Int),
X.rd1 H4 (X.n H2) 3 = some (int i64 n3) ∧
Q
(bool
((n2 == (3:Int) && decide ((↑s.length : Int) > (4096:Int)) || n2 == (2:Int) && decide ((↑s.length : Int) > (256:Int))) && s3 == [] && (↑k3 : Int) == (0:Int) &&
s4 == [] &&
n3 == (0:Int)))
H4
else
∃ (s5 : List UInt8),
∃ (q3 : Option (Nat × Nat)),
∃ (k5 k6:Nat),
X.rdn H4 (X.n H2) 0 2 = some [str s5, slice q3 k5 k6] ∧
X.call 13 [agg [str s5, slice q3 k5 k6]] H4 fun (v4:AV) (H5:AH) =>
∃ (s6 : List UInt8),
∃ (q4 : Option (Nat × Nat)),
∃ (k7 k8:Nat),
∃ (n4:Int),
v4 = tuple [agg [str s6, slice q4 k7 k8], int i64 n4] ∧
[str s6, slice q4 k7 k8].length = 2 ∧
∃ (H6:AH),
X.wr (X.al H5 (cells [str [], slice none 0 0] 26 { whole := true })) (X.n H5) 0 [str s6, slice q4 k7 k8] = some H6 ∧
∃ (s7 : List UInt8),
∃ (q5 : Option (Nat × Nat)),
∃ (k9 k10:Nat),
X.rdn H6 (X.n H2) 0 2 = some [str s7, slice q5 k9 k10] ∧
X.call 14 [agg [str s7, slice q5 k9 k10]] H6 fun (v5:AV) (H7:AH) =>
∃ (b3:Bool),
v5 = bool b3 ∧
∃ (s8 : List UInt8),
∃ (q6 : Option (Nat × Nat)),
∃ (k11 k12:Nat),
X.rdn H7 (X.n H5) 0 2 = some [str s8, slice q6 k11 k12] ∧
∃ (s9 : List UInt8),
∃ (q7 : Option (Nat × Nat)),
∃ (k13 k14:Nat),
X.rdn H7 (X.n H2) 0 2 = some [str s9, slice q7 k13 k14] ∧
bif (b3 && n4 == (0:Int)) == true then
X.call 15 [agg [str s8, slice q6 k11 k12], agg [str s9, slice q7 k13 k14]] H7 fun (v6:AV) (H8:AH) =>
∃ (b4:Bool),
v6 = bool b4 ∧
∃ (n5:Int),
X.rd1 H8 (X.n H2) 3 = some (int i64 n5) ∧
∃ (n6:Int),
X.rd1 H8 (X.n H2) 3 = some (int i64 n6) ∧
∃ (s10 : List UInt8),
X.rd1 H8 (X.n H2) 2 = some (str s10) ∧
∃ (s11 : List UInt8),
X.rd1 H8 (X.n H2) 2 = some (str s11) ∧
Q
(bool
(b4 && (n5 == (0:Int) || n6 == (1:Int) && d == (4:Int)) && (s10 == [] || d == (2:Int)) &&
decide ((64:Int) ≥ (↑s11.length : Int))))
H8
else
∃ (n7:Int),
X.rd1 H7 (X.n H2) 3 = some (int i64 n7) ∧
∃ (n8:Int),
X.rd1 H7 (X.n H2) 3 = some (int i64 n8) ∧
∃ (s12 : List UInt8),
X.rd1 H7 (X.n H2) 2 = some (str s12) ∧
∃ (s13 : List UInt8), X.rd1 H7 (X.n H2) 2 = some (str s13) ∧ Q (bool false) H7) := by kernel_rfl

end Go.Proofs.YtlkdhhkncoekgaaDoor
