/- What functions ask (printed). -/
import Derived.Test.YtlkdhhkncoekgaaGreatDoorAmTri
import Derived.Test.YtlkdhhkncoekgaaGreatDoorTabs
namespace Go.Proofs.YtlkdhhkncoekgaaGreatDoor
open Go.Am Go
open _root_.Go.Am.AV (int slice ptr str bool agg tuple)
open _root_.Go.IntKind (i64 i32 u8 u64)
open _root_.Go.Am.aY (cells)
theorem Cy (X:aO) (xf xt xk xv yf yt yk yv:Int) (H:AH) (Q:AV→AH→Prop):(fG X Tryz.prog [] 108 [.agg [.int .i64 xf,.int .i64 xt,.int .i64 xk,.int .i64 xv],.agg [.int .i64 yf,.int .i64 yt,.int .i64 yk,.int .i64 yv]] H Q) =
(true=true ∧
true=true ∧
∃(n1:Int),
X.aM
(X.al (X.al H (cells [int i64 xf,int i64 xt,int i64 xk,int i64 xv] 54 { whole:=true }))
(cells [int i64 yf,int i64 yt,int i64 yk,int i64 yv] 54 { whole:=true }))
(X.n H) 0 =
some (int i64 n1) ∧
∃(n2:Int),
X.aM
(X.al (X.al H (cells [int i64 xf,int i64 xt,int i64 xk,int i64 xv] 54 { whole:=true }))
(cells [int i64 yf,int i64 yt,int i64 yk,int i64 yv] 54 { whole:=true }))
(X.n (X.al H (cells [int i64 xf,int i64 xt,int i64 xk,int i64 xv] 54 { whole:=true }))) 0 =
some (int i64 n2) ∧
∃(n3:Int),
X.aM
(X.al (X.al H (cells [int i64 xf,int i64 xt,int i64 xk,int i64 xv] 54 { whole:=true }))
(cells [int i64 yf,int i64 yt,int i64 yk,int i64 yv] 54 { whole:=true }))
(X.n H) 1 =
some (int i64 n3) ∧
∃(n4:Int),
X.aM
(X.al (X.al H (cells [int i64 xf,int i64 xt,int i64 xk,int i64 xv] 54 { whole:=true }))
(cells [int i64 yf,int i64 yt,int i64 yk,int i64 yv] 54 { whole:=true }))
(X.n (X.al H (cells [int i64 xf,int i64 xt,int i64 xk,int i64 xv] 54 { whole:=true }))) 1 =
some (int i64 n4) ∧
Q (bool (decide (n1≥n2) && decide (n3≤n4)))
(X.al (X.al H (cells [int i64 xf,int i64 xt,int i64 xk,int i64 xv] 54 { whole:=true }))
(cells [int i64 yf,int i64 yt,int i64 yk,int i64 yv] 54 { whole:=true }))):=by kernel_rfl
theorem Fq (X:aO) (xf xt xk xv yf yt yk yv:Int) (H:AH) (Q:AV→AH→Prop):(fG X Tryz.prog [] 66 [.agg [.int .i64 xf,.int .i64 xt,.int .i64 xk,.int .i64 xv],.agg [.int .i64 yf,.int .i64 yt,.int .i64 yk,.int .i64 yv]] H Q) =
(true=true ∧
true=true ∧
∃(n1:Int),
X.aM
(X.al (X.al H (cells [int i64 xf,int i64 xt,int i64 xk,int i64 xv] 54 { whole:=true }))
(cells [int i64 yf,int i64 yt,int i64 yk,int i64 yv] 54 { whole:=true }))
(X.n H) 0 =
some (int i64 n1) ∧
∃(n2:Int),
X.aM
(X.al (X.al H (cells [int i64 xf,int i64 xt,int i64 xk,int i64 xv] 54 { whole:=true }))
(cells [int i64 yf,int i64 yt,int i64 yk,int i64 yv] 54 { whole:=true }))
(X.n (X.al H (cells [int i64 xf,int i64 xt,int i64 xk,int i64 xv] 54 { whole:=true }))) 1 =
some (int i64 n2) ∧
∃(n3:Int),
X.aM
(X.al (X.al H (cells [int i64 xf,int i64 xt,int i64 xk,int i64 xv] 54 { whole:=true }))
(cells [int i64 yf,int i64 yt,int i64 yk,int i64 yv] 54 { whole:=true }))
(X.n (X.al H (cells [int i64 xf,int i64 xt,int i64 xk,int i64 xv] 54 { whole:=true }))) 0 =
some (int i64 n3) ∧
∃(n4:Int),
X.aM
(X.al (X.al H (cells [int i64 xf,int i64 xt,int i64 xk,int i64 xv] 54 { whole:=true }))
(cells [int i64 yf,int i64 yt,int i64 yk,int i64 yv] 54 { whole:=true }))
(X.n H) 1 =
some (int i64 n4) ∧
∃(n5 n6 n7 n8:Int),
X.bC
(X.al (X.al H (cells [int i64 xf,int i64 xt,int i64 xk,int i64 xv] 54 { whole:=true }))
(cells [int i64 yf,int i64 yt,int i64 yk,int i64 yv] 54 { whole:=true }))
(X.n H) 0 4 =
some [int i64 n5,int i64 n6,int i64 n7,int i64 n8] ∧
∃(n9 eK iC j6:Int),
X.bC
(X.al (X.al H (cells [int i64 xf,int i64 xt,int i64 xk,int i64 xv] 54 { whole:=true }))
(cells [int i64 yf,int i64 yt,int i64 yk,int i64 yv] 54 { whole:=true }))
(X.n (X.al H (cells [int i64 xf,int i64 xt,int i64 xk,int i64 xv] 54 { whole:=true }))) 0 4 =
some [int i64 n9,int i64 eK,int i64 iC,int i64 j6] ∧
bif (decide (n1<n2) && decide (n3<n4)) == true then
X.call 108
[agg [int i64 n5,int i64 n6,int i64 n7,int i64 n8],
agg [int i64 n9,int i64 eK,int i64 iC,int i64 j6]]
(X.al (X.al H (cells [int i64 xf,int i64 xt,int i64 xk,int i64 xv] 54 { whole:=true }))
(cells [int i64 yf,int i64 yt,int i64 yk,int i64 yv] 54 { whole:=true }))
fun (v1:AV) (H1:AH) =>
∃(b1:Bool),
v1=bool b1 ∧
∃(kO lD pI qt:Int),
X.bC H1 (X.n (X.al H (cells [int i64 xf,int i64 xt,int i64 xk,int i64 xv] 54 { whole:=true }))) 0 4 =
some [int i64 kO,int i64 lD,int i64 pI,int i64 qt] ∧
∃(sX vt yL wJ:Int),
X.bC H1 (X.n H) 0 4=some [int i64 sX,int i64 vt,int i64 yL,int i64 wJ] ∧
bif (!b1) == true then
X.call 108
[agg [int i64 kO,int i64 lD,int i64 pI,int i64 qt],
agg [int i64 sX,int i64 vt,int i64 yL,int i64 wJ]]
H1 fun (v2:AV) (H2:AH)=>∃(b2:Bool),v2=bool b2∧Q (bool !b2) H2
else Q (bool false) H1
else
∃(BQ D5 CN FE:Int),
X.bC
(X.al (X.al H (cells [int i64 xf,int i64 xt,int i64 xk,int i64 xv] 54 { whole:=true }))
(cells [int i64 yf,int i64 yt,int i64 yk,int i64 yv] 54 { whole:=true }))
(X.n (X.al H (cells [int i64 xf,int i64 xt,int i64 xk,int i64 xv] 54 { whole:=true }))) 0 4 =
some [int i64 BQ,int i64 D5,int i64 CN,int i64 FE] ∧
∃(FD FC DZ DY:Int),
X.bC
(X.al (X.al H (cells [int i64 xf,int i64 xt,int i64 xk,int i64 xv] 54 { whole:=true }))
(cells [int i64 yf,int i64 yt,int i64 yk,int i64 yv] 54 { whole:=true }))
(X.n H) 0 4 =
some [int i64 FD,int i64 FC,int i64 DZ,int i64 DY] ∧
Q (bool false)
(X.al (X.al H (cells [int i64 xf,int i64 xt,int i64 xk,int i64 xv] 54 { whole:=true }))
(cells [int i64 yf,int i64 yt,int i64 yk,int i64 yv] 54 { whole:=true }))):=by kernel_rfl
theorem Ft (X:aO) (xf xt xk xv yf yt yk yv:Int) (H:AH) (Q:AV→AH→Prop):(fG X Tryz.prog [] 133 [.agg [.int .i64 xf,.int .i64 xt,.int .i64 xk,.int .i64 xv],.agg [.int .i64 yf,.int .i64 yt,.int .i64 yk,.int .i64 yv]] H Q) =
(true=true ∧
true=true ∧
∃(n1:Int),
X.aM
(X.al (X.al H (cells [int i64 xf,int i64 xt,int i64 xk,int i64 xv] 54 { whole:=true }))
(cells [int i64 yf,int i64 yt,int i64 yk,int i64 yv] 54 { whole:=true }))
(X.n H) 0 =
some (int i64 n1) ∧
∃(n2:Int),
X.aM
(X.al (X.al H (cells [int i64 xf,int i64 xt,int i64 xk,int i64 xv] 54 { whole:=true }))
(cells [int i64 yf,int i64 yt,int i64 yk,int i64 yv] 54 { whole:=true }))
(X.n (X.al H (cells [int i64 xf,int i64 xt,int i64 xk,int i64 xv] 54 { whole:=true }))) 0 =
some (int i64 n2) ∧
bif n1 != n2 then
∃(n3:Int),
X.aM
(X.al (X.al H (cells [int i64 xf,int i64 xt,int i64 xk,int i64 xv] 54 { whole:=true }))
(cells [int i64 yf,int i64 yt,int i64 yk,int i64 yv] 54 { whole:=true }))
(X.n H) 0 =
some (int i64 n3) ∧
∃(n4:Int),
X.aM
(X.al (X.al H (cells [int i64 xf,int i64 xt,int i64 xk,int i64 xv] 54 { whole:=true }))
(cells [int i64 yf,int i64 yt,int i64 yk,int i64 yv] 54 { whole:=true }))
(X.n (X.al H (cells [int i64 xf,int i64 xt,int i64 xk,int i64 xv] 54 { whole:=true }))) 0 =
some (int i64 n4) ∧
Q (bool (decide (n3<n4)))
(X.al (X.al H (cells [int i64 xf,int i64 xt,int i64 xk,int i64 xv] 54 { whole:=true }))
(cells [int i64 yf,int i64 yt,int i64 yk,int i64 yv] 54 { whole:=true }))
else
∃(n5:Int),
X.aM
(X.al (X.al H (cells [int i64 xf,int i64 xt,int i64 xk,int i64 xv] 54 { whole:=true }))
(cells [int i64 yf,int i64 yt,int i64 yk,int i64 yv] 54 { whole:=true }))
(X.n H) 1 =
some (int i64 n5) ∧
∃(n6:Int),
X.aM
(X.al (X.al H (cells [int i64 xf,int i64 xt,int i64 xk,int i64 xv] 54 { whole:=true }))
(cells [int i64 yf,int i64 yt,int i64 yk,int i64 yv] 54 { whole:=true }))
(X.n (X.al H (cells [int i64 xf,int i64 xt,int i64 xk,int i64 xv] 54 { whole:=true }))) 1 =
some (int i64 n6) ∧
bif n5 != n6 then
∃(n7:Int),
X.aM
(X.al (X.al H (cells [int i64 xf,int i64 xt,int i64 xk,int i64 xv] 54 { whole:=true }))
(cells [int i64 yf,int i64 yt,int i64 yk,int i64 yv] 54 { whole:=true }))
(X.n H) 1 =
some (int i64 n7) ∧
∃(n8:Int),
X.aM
(X.al (X.al H (cells [int i64 xf,int i64 xt,int i64 xk,int i64 xv] 54 { whole:=true }))
(cells [int i64 yf,int i64 yt,int i64 yk,int i64 yv] 54 { whole:=true }))
(X.n (X.al H (cells [int i64 xf,int i64 xt,int i64 xk,int i64 xv] 54 { whole:=true }))) 1 =
some (int i64 n8) ∧
Q (bool (decide (n7 > n8)))
(X.al (X.al H (cells [int i64 xf,int i64 xt,int i64 xk,int i64 xv] 54 { whole:=true }))
(cells [int i64 yf,int i64 yt,int i64 yk,int i64 yv] 54 { whole:=true }))
else
∃(n9:Int),
X.aM
(X.al (X.al H (cells [int i64 xf,int i64 xt,int i64 xk,int i64 xv] 54 { whole:=true }))
(cells [int i64 yf,int i64 yt,int i64 yk,int i64 yv] 54 { whole:=true }))
(X.n H) 2 =
some (int i64 n9) ∧
∃(eK:Int),
X.aM
(X.al (X.al H (cells [int i64 xf,int i64 xt,int i64 xk,int i64 xv] 54 { whole:=true }))
(cells [int i64 yf,int i64 yt,int i64 yk,int i64 yv] 54 { whole:=true }))
(X.n (X.al H (cells [int i64 xf,int i64 xt,int i64 xk,int i64 xv] 54 { whole:=true }))) 2 =
some (int i64 eK) ∧
Q (bool (decide (n9<eK)))
(X.al (X.al H (cells [int i64 xf,int i64 xt,int i64 xk,int i64 xv] 54 { whole:=true }))
(cells [int i64 yf,int i64 yt,int i64 yk,int i64 yv] 54 { whole:=true }))):=by kernel_rfl
theorem Ib (X:aO) (xf xt xk xv:Int) (n:Int) (H:AH) (Q:AV→AH→Prop):(fG X Tryz.prog [] 65 [.agg [.int .i64 xf,.int .i64 xt,.int .i64 xk,.int .i64 xv],.int .i64 n] H Q) =
(true=true ∧
∃(n1:Int),
X.aM (X.al H (cells [int i64 xf,int i64 xt,int i64 xk,int i64 xv] 54 { whole:=true })) (X.n H) 0=some (int i64 n1) ∧
∃(n2:Int),
X.aM (X.al H (cells [int i64 xf,int i64 xt,int i64 xk,int i64 xv] 54 { whole:=true })) (X.n H) 1=some (int i64 n2) ∧
∃(n3:Int),
X.aM (X.al H (cells [int i64 xf,int i64 xt,int i64 xk,int i64 xv] 54 { whole:=true })) (X.n H) 0=some (int i64 n3) ∧
∃(n4:Int),
X.aM (X.al H (cells [int i64 xf,int i64 xt,int i64 xk,int i64 xv] 54 { whole:=true })) (X.n H) 1=some (int i64 n4) ∧
∃(n5:Int),
X.aM (X.al H (cells [int i64 xf,int i64 xt,int i64 xk,int i64 xv] 54 { whole:=true })) (X.n H) 2=some (int i64 n5) ∧
∃(n6:Int),
X.aM (X.al H (cells [int i64 xf,int i64 xt,int i64 xk,int i64 xv] 54 { whole:=true })) (X.n H) 2=some (int i64 n6) ∧
bif decide (n1<(0:Int)) || decide (n2 > n) || decide (n3≥n4) || decide (n5<(1:Int)) || decide (n6 > (5:Int)) then
Q (bool false) (X.al H (cells [int i64 xf,int i64 xt,int i64 xk,int i64 xv] 54 { whole:=true }))
else
∃(n7:Int),
X.aM (X.al H (cells [int i64 xf,int i64 xt,int i64 xk,int i64 xv] 54 { whole:=true })) (X.n H) 2=some (int i64 n7) ∧
bif n7 == (5:Int) then
∃(n8:Int),
X.aM (X.al H (cells [int i64 xf,int i64 xt,int i64 xk,int i64 xv] 54 { whole:=true })) (X.n H) 3=some (int i64 n8) ∧
∃(n9:Int),
X.aM (X.al H (cells [int i64 xf,int i64 xt,int i64 xk,int i64 xv] 54 { whole:=true })) (X.n H) 3=some (int i64 n9) ∧
Q (bool (decide (n8≥(0:Int)) && decide (n9≤(16777215:Int))))
(X.al H (cells [int i64 xf,int i64 xt,int i64 xk,int i64 xv] 54 { whole:=true }))
else
∃(eK:Int),
X.aM (X.al H (cells [int i64 xf,int i64 xt,int i64 xk,int i64 xv] 54 { whole:=true })) (X.n H) 3=some (int i64 eK) ∧
Q (bool (eK == (0:Int))) (X.al H (cells [int i64 xf,int i64 xt,int i64 xk,int i64 xv] 54 { whole:=true }))):=by kernel_rfl
theorem KT (X:aO) (b i u k:Bool) (c n:Int) (H:AH) (Q:AV→AH→Prop):(fG X Tryz.prog [] 109 [.agg [.bool b,.bool i,.bool u,.bool k,.int .i64 c],.int .i64 n] H Q) =
(true=true ∧
bif n == (1:Int) then
∃(b1:Bool),
X.aM (X.al H (cells [bool b,bool i,bool u,bool k,int i64 c] 63 { whole:=true })) (X.n H) 0=some (bool b1) ∧
bif b1 then Q (int i64 1) (X.al H (cells [bool b,bool i,bool u,bool k,int i64 c] 63 { whole:=true }))
else Q (int i64 0) (X.al H (cells [bool b,bool i,bool u,bool k,int i64 c] 63 { whole:=true }))
else
bif n == (2:Int) then
∃(b2:Bool),
X.aM (X.al H (cells [bool b,bool i,bool u,bool k,int i64 c] 63 { whole:=true })) (X.n H) 1=some (bool b2) ∧
bif b2 then Q (int i64 1) (X.al H (cells [bool b,bool i,bool u,bool k,int i64 c] 63 { whole:=true }))
else Q (int i64 0) (X.al H (cells [bool b,bool i,bool u,bool k,int i64 c] 63 { whole:=true }))
else
bif n == (3:Int) then
∃(b3:Bool),
X.aM (X.al H (cells [bool b,bool i,bool u,bool k,int i64 c] 63 { whole:=true })) (X.n H) 2=some (bool b3) ∧
bif b3 then Q (int i64 1) (X.al H (cells [bool b,bool i,bool u,bool k,int i64 c] 63 { whole:=true }))
else Q (int i64 0) (X.al H (cells [bool b,bool i,bool u,bool k,int i64 c] 63 { whole:=true }))
else
bif n == (4:Int) then
∃(b4:Bool),
X.aM (X.al H (cells [bool b,bool i,bool u,bool k,int i64 c] 63 { whole:=true })) (X.n H) 3=some (bool b4) ∧
bif b4 then Q (int i64 1) (X.al H (cells [bool b,bool i,bool u,bool k,int i64 c] 63 { whole:=true }))
else Q (int i64 0) (X.al H (cells [bool b,bool i,bool u,bool k,int i64 c] 63 { whole:=true }))
else
∃(n1:Int),
X.aM (X.al H (cells [bool b,bool i,bool u,bool k,int i64 c] 63 { whole:=true })) (X.n H) 4=some (int i64 n1) ∧
Q (int i64 n1) (X.al H (cells [bool b,bool i,bool u,bool k,int i64 c] 63 { whole:=true }))):=by kernel_rfl
theorem HY (X:aO) (s:List UInt8) (q:Option (Nat×Nat)) (k:Nat) (H:AH) (Q:AV→AH→Prop):(fG X Tryz.prog [] 36 [.str s,.slice q k k] H Q) =
(X.call 72 [slice q k k] (X.al H (cells [str [],slice none 0 0] 24 { whole:=true })) fun (v1:AV) (H1:AH) =>
∃(q1:Option (Nat×Nat)),
∃(k1 k2:Nat),
∃(b1:Bool),
v1=tuple [slice q1 k1 k2,bool b1] ∧
bif !b1 then
[str [],slice none 0 0].length=2 ∧
∃(H2:AH),
X.wr H1 (X.n H) 0 [str [],slice none 0 0]=some H2 ∧
∃(s1:List UInt8),
∃(q2:Option (Nat×Nat)),
∃(k3:Nat),∃(k4:Nat),X.bC H2 (X.n H) 0 2=some [str s1,slice q2 k3 k4]∧Q (tuple [agg [str s1,slice q2 k3 k4],int i64 2]) H2
else
[str s,slice q1 k1 k2].length=2 ∧
∃(H3:AH),
X.wr H1 (X.n H) 0 [str s,slice q1 k1 k2]=some H3 ∧
∃(s2:List UInt8),
∃(q3:Option (Nat×Nat)),
∃(k5:Nat),∃(k6:Nat),X.bC H3 (X.n H) 0 2=some [str s2,slice q3 k5 k6]∧Q (tuple [agg [str s2,slice q3 k5 k6],int i64 0]) H3):=by kernel_rfl
theorem HW (X:aO) (s:List UInt8) (q:Option (Nat×Nat)) (k c:Nat) (H:AH) (Q:AV→AH→Prop):(fG X Tryz.prog [] 17 [.agg [.str s,.slice q k c]] H Q) =
(true=true ∧
∃(s1:List UInt8),
∃(q1:Option (Nat×Nat)),
∃(k1 k2:Nat),
X.bC (X.al (X.al H (cells [str s,slice q k c] 24 { whole:=true })) (cells [str [],slice none 0 0] 24 { whole:=true })) (X.n H) 0 2 =
some [str s1,slice q1 k1 k2] ∧
X.call 29 [agg [str s1,slice q1 k1 k2]]
(X.al (X.al H (cells [str s,slice q k c] 24 { whole:=true })) (cells [str [],slice none 0 0] 24 { whole:=true })) fun (v1:AV) (H1:AH) =>
∃(n1:Int),
v1=int i64 n1 ∧
bif n1 != (0:Int) then
[str [],slice none 0 0].length=2 ∧
∃(H2:AH),
X.wr H1 (X.n (X.al H (cells [str s,slice q k c] 24 { whole:=true }))) 0 [str [],slice none 0 0]=some H2 ∧
∃(s2:List UInt8),
∃(q2:Option (Nat×Nat)),
∃(k3 k4:Nat),
X.bC H2 (X.n (X.al H (cells [str s,slice q k c] 24 { whole:=true }))) 0 2=some [str s2,slice q2 k3 k4] ∧
Q (tuple [agg [str s2,slice q2 k3 k4],int i64 n1]) H2
else
∃(s3:List UInt8),
X.aM H1 (X.n H) 0=some (str s3) ∧
∃(s4:List UInt8),
∃(q3:Option (Nat×Nat)),
∃(k5 k6:Nat),
X.bC H1 (X.n H) 0 2=some [str s4,slice q3 k5 k6] ∧
X.call 35 [agg [str s4,slice q3 k5 k6]] H1 fun (v2:AV) (H3:AH) =>
∃(q4:Option (Nat×Nat)),
∃(k7 k8:Nat),
v2=slice q4 k7 k8 ∧
(∃(s5:List UInt8),X.aM H3 (X.n H) 0=some (str s5)∧str s5=str s3) ∧
X.call 36 [str s3,slice q4 k7 k8] H3 fun (v3:AV) (H4:AH) =>
∃(s6:List UInt8),
∃(q5:Option (Nat×Nat)),
∃(k9 jb:Nat),
∃(n2:Int),
v3=tuple [agg [str s6,slice q5 k9 jb],int i64 n2] ∧
[str s6,slice q5 k9 jb].length=2 ∧
∃(H5:AH),
X.wr H4 (X.n (X.al H (cells [str s,slice q k c] 24 { whole:=true }))) 0 [str s6,slice q5 k9 jb]=some H5 ∧
∃(s7:List UInt8),
∃(q6:Option (Nat×Nat)),
∃(fN iq:Nat),
X.bC H5 (X.n (X.al H (cells [str s,slice q k c] 24 { whole:=true }))) 0 2=some [str s7,slice q6 fN iq] ∧
Q (tuple [agg [str s7,slice q6 fN iq],int i64 n2]) H5):=by kernel_rfl
theorem wz (X:aO) (s:List UInt8) (q:Option (Nat×Nat)) (k c:Nat) (H:AH) (Q:AV→AH→Prop):(fG X Tryz.prog [] 15 [.agg [.str s,.slice q k c]] H Q) =
(true=true ∧
∃(s1:List UInt8),
∃(q1:Option (Nat×Nat)),
∃(k1 k2:Nat),
X.bC (X.al H (cells [str s,slice q k c] 24 { whole:=true })) (X.n H) 0 2=some [str s1,slice q1 k1 k2] ∧
X.call 29 [agg [str s1,slice q1 k1 k2]] (X.al H (cells [str s,slice q k c] 24 { whole:=true })) fun (v1:AV) (H1:AH) =>
∃(n1:Int),v1=int i64 n1∧Q (bool (n1 == (0:Int))) H1):=by kernel_rfl
theorem wB (X:Option Nat→aO) (It:FuncId→List AV→List AV→(AH→Prop)→List (List AV)→Prop) (s:List UInt8) (q:Option (Nat×Nat)) (k c:Nat) (H:AH) (Q:AV→AH→Prop):(nx X It Tryz.prog [⟨7,Nat×Int×Int,[1,3,4],fun x=>[.ptr (some (x.1,0)),.int .i64 x.2.1,.int .i64 x.2.2],fun _ _ _=>True⟩,⟨12,Nat×Int,[1,5],fun x=>[.ptr (some (x.1,0)),.int .i64 x.2],fun _ _ _=>True⟩,⟨15,Nat×Int×Int,[1,5,6],fun x=>[.ptr (some (x.1,0)),.int .i64 x.2.1,.int .i64 x.2.2],fun _ _ _=>True⟩] [] 29 [.agg [.str s,.slice q k c]] H Q) =
(true=true ∧
∃(s1:List UInt8),
(X none).aM ((X none).al H (cells [str s,slice q k c] 24 { whole:=true })) ((X none).n H) 0=some (str s1) ∧
bif decide ((↑s1.length:Int) > (4096:Int)) then Q (int i64 3) ((X none).al H (cells [str s,slice q k c] (24:Nat) { whole:=true }))
else
∃(q1:Option (Nat×Nat)),
∃(k1 k2:Nat),
(X none).aM ((X none).al H (cells [str s,slice q k c] 24 { whole:=true })) ((X none).n H) 1=some (slice q1 k1 k2) ∧
bif decide ((↑k1:Int) > (256:Int)) then Q (int i64 2) ((X none).al H (cells [str s,slice q k c] (24:Nat) { whole:=true }))
else
∃(s2:List UInt8),
(X none).aM ((X none).al H (cells [str s,slice q k c] 24 { whole:=true })) ((X none).n H) 0=some (str s2) ∧
(X none).call 64 [str s2] ((X none).al H (cells [str s,slice q k c] 24 { whole:=true })) fun (v1:AV) (H1:AH) =>
∃(n1:Int),
v1=int i64 n1 ∧
∃(x1:Nat×Int×Int→AH→Nat→Prop),
(∃(x2:Nat×Int×Int),
∃(k3:Nat),
[ptr (some ((X none).n H,0)),int i64 n1,int i64 0]=[ptr (some (x2.1,0)),int i64 x2.2.1,int i64 x2.2.2] ∧
x1 x2 H1 k3) ∧
∀(x3:Nat×Int×Int) (H2:AH) (k4:Nat),
x1 x3 H2 k4 →
∃(q2:Option (Nat×Nat)),
∃(k5 k6:Nat),
(X none).aM H2 x3.1 1=some (slice q2 k5 k6) ∧
bif decide (x3.2.2<(↑k5:Int)) then
∃(q3:Option (Nat×Nat)),
∃(k7 k8:Nat),
(X none).aM H2 x3.1 1=some (slice q3 k7 k8) ∧
∃(k9 jb:Nat),
(q3=some (k9,jb)∧(0:Int)≤x3.2.2∧x3.2.2<(↑k7:Int)) ∧
∃(n2 n3 n4 n5:Int),
(X none).bC H2 k9 (jb+x3.2.2.toNat*4) 4=some [int i64 n2,int i64 n3,int i64 n4,int i64 n5] ∧
(X none).call 65 [agg [int i64 n2,int i64 n3,int i64 n4,int i64 n5],int i64 x3.2.1] H2
fun (v2:AV) (H3:AH) =>
∃(b1:Bool),
v2=bool b1 ∧
bif !b1 then Q (int i64 23) H3
else
∃(x4:Nat×Int×Int),
∃(fN:Nat),
fN<k4 ∧
[ptr (some (x3.1,0)),int i64 x3.2.1,int i64 ((X none).wrap i64 (x3.2.2+(1:Int)))] =
[ptr (some (x4.1,0)),int i64 x4.2.1,int i64 x4.2.2] ∧
x1 x4 H3 fN
else
∃(x5:Nat×Int→AH→Nat→Prop),
(∃(x6:Nat×Int),∃(iq:Nat),[ptr (some (x3.1,0)),int i64 0]=[ptr (some (x6.1,0)),int i64 x6.2]∧x5 x6 H2 iq) ∧
∀(x7:Nat×Int) (H4:AH) (jM:Nat),
x5 x7 H4 jM →
∃(q4:Option (Nat×Nat)),
∃(iD jr:Nat),
(X none).aM H4 x7.1 1=some (slice q4 iD jr) ∧
bif decide (x7.2<(↑iD:Int)) then
∃(x8:Nat×Int×Int→AH→Nat→Prop),
(∃(x9:Nat×Int×Int),
∃(m6:Nat),
[ptr (some (x7.1,0)),int i64 x7.2,int i64 0] =
[ptr (some (x9.1,0)),int i64 x9.2.1,int i64 x9.2.2] ∧
x8 x9 H4 m6) ∧
∀(bp:Nat×Int×Int) (H5:AH) (jq:Nat),
x8 bp H5 jq →
bif decide (bp.2.2<bp.2.1) then
∃(q5:Option (Nat×Nat)),
∃(lK sB:Nat),
(X none).aM H5 bp.1 1=some (slice q5 lK sB) ∧
∃(zL qA:Nat),
(q5=some (zL,qA)∧(0:Int)≤bp.2.1∧bp.2.1<(↑lK:Int)) ∧
∃(n6 n7 n8 n9:Int),
(X none).bC H5 zL (qA+bp.2.1.toNat*4) 4 =
some [int i64 n6,int i64 n7,int i64 n8,int i64 n9] ∧
∃(q6:Option (Nat×Nat)),
∃(pN rR:Nat),
(X none).aM H5 bp.1 1=some (slice q6 pN rR) ∧
∃(vL FP:Nat),
(q6=some (vL,FP)∧(0:Int)≤bp.2.2∧bp.2.2<(↑pN:Int)) ∧
∃(eK iC j6 kO:Int),
(X none).bC H5 vL (FP+bp.2.2.toNat*4) 4 =
some [int i64 eK,int i64 iC,int i64 j6,int i64 kO] ∧
(X none).call 66
[agg [int i64 n6,int i64 n7,int i64 n8,int i64 n9],
agg [int i64 eK,int i64 iC,int i64 j6,int i64 kO]]
H5 fun (v3:AV) (H6:AH) =>
∃(b2:Bool),
v3=bool b2 ∧
bif b2 then Q (int i64 23) H6
else
∃(eL:Nat×Int×Int),
∃(wR:Nat),
wR<jq ∧
[ptr (some (bp.1,0)),int i64 bp.2.1,
int i64 ((X none).wrap i64 (bp.2.2+(1:Int)))] =
[ptr (some (eL.1,0)),int i64 eL.2.1,
int i64 eL.2.2] ∧
x8 eL H6 wR
else
∃(dL:Nat×Int),
∃(ny:Nat),
ny<jM ∧
[ptr (some (bp.1,0)),int i64 ((X none).wrap i64 (bp.2.1+(1:Int)))] =
[ptr (some (dL.1,0)),int i64 dL.2] ∧
x5 dL H5 ny
else Q (int i64 0) H4):=by kernel_rfl
theorem KU (X:Option Nat→aO) (It:FuncId→List AV→List AV→(AH→Prop)→List (List AV)→Prop) (s:List UInt8) (q:Option (Nat×Nat)) (k c:Nat) (H:AH) (Q:AV→AH→Prop):(nx X It Tryz.prog [⟨4,Nat×Int×(Option (Nat×Nat)×Nat)×Int,[1,3,4,5],fun x=>[.ptr (some (x.1,0)),.int .i64 x.2.1,.slice x.2.2.1.1 x.2.2.1.2 x.2.2.1.2,.int .i64 x.2.2.2],fun _ _ _=>True⟩] [] 35 [.agg [.str s,.slice q k c]] H Q) =
(true=true ∧
∃(s1:List UInt8),
(X none).aM ((X none).al H (cells [str s,slice q k c] 24 { whole:=true })) ((X none).n H) 0=some (str s1) ∧
(X none).call 64 [str s1] ((X none).al H (cells [str s,slice q k c] 24 { whole:=true })) fun (v1:AV) (H1:AH) =>
∃(n1:Int),
v1=int i64 n1 ∧
∃(x1:Nat×Int×(Option (Nat×Nat)×Nat)×Int→AH→Nat→Prop),
(∃(x2:Nat×Int×(Option (Nat×Nat)×Nat)×Int),
∃(k1:Nat),
[ptr (some ((X none).n H,0)),int i64 n1,slice none 0 0,int i64 0] =
[ptr (some (x2.1,0)),int i64 x2.2.1,slice x2.2.2.1.1 x2.2.2.1.2 x2.2.2.1.2,int i64 x2.2.2.2] ∧
x1 x2 H1 k1) ∧
∀(x3:Nat×Int×(Option (Nat×Nat)×Nat)×Int) (H2:AH) (k2:Nat),
x1 x3 H2 k2 →
bif decide (x3.2.2.2<x3.2.1) then
∃(s2:List UInt8),
∃(q1:Option (Nat×Nat)),
∃(k3 k4:Nat),
(X none).bC H2 x3.1 0 2=some [str s2,slice q1 k3 k4] ∧
(X none).call 71 [agg [str s2,slice q1 k3 k4],int i64 x3.2.2.2] H2 fun (v2:AV) (H3:AH) =>
∃(b1 b2 b3 b4:Bool),
∃(n2:Int),
v2=agg [bool b1,bool b2,bool b3,bool b4,int i64 n2] ∧
(5≤16777216∧5=5∧0<5∧true=true∧true=true) ∧
∃(q2:Option (Nat×Nat)),
∃(k5 k6:Nat),
∃(H4:AH),
(X none).app 83 83 (slice x3.2.2.1.1 x3.2.2.1.2 x3.2.2.1.2) (slice (some ((X none).n H3,0)) 1 1)
((X none).al H3 (cells [bool b1,bool b2,bool b3,bool b4,int i64 n2] 63 { whole:=true })) =
some (slice q2 k5 k6,H4) ∧
∃(x4:Nat×Int×(Option (Nat×Nat)×Nat)×Int),
∃(k7:Nat),
k7<k2 ∧
[ptr (some (x3.1,0)),int i64 x3.2.1,slice q2 k5 k6,int i64 ((X none).wrap i64 (x3.2.2.2+(1:Int)))] =
[ptr (some (x4.1,0)),int i64 x4.2.1,slice x4.2.2.1.1 x4.2.2.1.2 x4.2.2.1.2,int i64 x4.2.2.2] ∧
x1 x4 H4 k7
else Q (slice x3.2.2.1.1 x3.2.2.1.2 x3.2.2.1.2) H2):=by kernel_rfl
theorem Fp (X:Option Nat→aO) (It:FuncId→List AV→List AV→(AH→Prop)→List (List AV)→Prop) (s:List UInt8) (q:Option (Nat×Nat)) (k c:Nat) (n:Int) (H:AH) (Q:AV→AH→Prop):(nx X It Tryz.prog [⟨4,Nat×Nat×Nat×Int×Int,[1,2,4,5,6,7],fun x=>[.int .i64 n,.ptr (some (x.1,0)),.ptr (some (x.2.1,0)),.ptr (some (x.2.2.1,0)),.int .i64 x.2.2.2.1,.int .i64 x.2.2.2.2],fun _ _ _=>True⟩,⟨200005,Nat×Nat×Nat×Int×Int,[1,2,4,5,6,7],fun x=>[.int .i64 n,.ptr (some (x.1,0)),.ptr (some (x.2.1,0)),.ptr (some (x.2.2.1,0)),.int .i64 x.2.2.2.1,.int .i64 x.2.2.2.2],fun _ _ _=>True⟩,⟨200010,(Nat×Nat×Nat×Int×Int)×Nat×Bool,[1,2,4,5,6,7,8,44],fun x=>[.int .i64 n,.ptr (some (x.1.1,0)),.ptr (some (x.1.2.1,0)),.ptr (some (x.1.2.2.1,0)),.int .i64 x.1.2.2.2.1,.int .i64 x.1.2.2.2.2,.ptr (some (x.2.1,0)),.bool x.2.2],fun _ _ _=>True⟩] [] 71 [.agg [.str s,.slice q k c],.int .i64 n] H Q) =
(true=true ∧
[bool false,bool false,bool false,bool false,int i64 0].length=5 ∧
∃(H1:AH),
(X none).wr
((X none).al
((X none).al ((X none).al H (cells [str s,slice q k c] 24 { whole:=true }))
(cells [bool false,bool false,bool false,bool false,int i64 0] 63 { whole:=true }))
(cells [bool false,bool false,bool false,bool false,int i64 0] 63 { whole:=true }))
((X none).n
((X none).al ((X none).al H (cells [str s,slice q k c] 24 { whole:=true }))
(cells [bool false,bool false,bool false,bool false,int i64 0] 63 { whole:=true })))
0 [bool false,bool false,bool false,bool false,int i64 0] =
some H1 ∧
∃(x1:Nat×Nat×Nat×Int×Int→AH→Nat→Prop),
(∃(x2:Nat×Nat×Nat×Int×Int),
∃(k1:Nat),
[int i64 n,ptr (some ((X none).n H,0)),ptr (some ((X none).n ((X none).al H (cells [str s,slice q k c] 24 { whole:=true })),0)),
ptr
(some
((X none).n
((X none).al ((X none).al H (cells [str s,slice q k c] 24 { whole:=true }))
(cells [bool false,bool false,bool false,bool false,int i64 0] 63 { whole:=true })),
0)),
int i64 (-1:Int),int i64 0] =
[int i64 n,ptr (some (x2.1,0)),ptr (some (x2.2.1,0)),ptr (some (x2.2.2.1,0)),int i64 x2.2.2.2.1,int i64 x2.2.2.2.2] ∧
x1 x2 H1 k1) ∧
∀(x3:Nat×Nat×Nat×Int×Int) (H2:AH) (k2:Nat),
x1 x3 H2 k2 →
∃(q1:Option (Nat×Nat)),
∃(k3 k4:Nat),
(X none).aM H2 x3.1 1=some (slice q1 k3 k4) ∧
bif decide (x3.2.2.2.2<(↑k3:Int)) then
∃(x4:Nat×Nat×Nat×Int×Int→AH→Prop),
(∃(q2:Option (Nat×Nat)),
∃(k5 k6:Nat),
(X none).aM H2 x3.1 1=some (slice q2 k5 k6) ∧
∃(k7 k8:Nat),
(q2=some (k7,k8)∧(0:Int)≤x3.2.2.2.2∧x3.2.2.2.2<(↑k5:Int)) ∧
∃(n1 n2 n3 n4:Int),
(X none).bC H2 k7 (k8+x3.2.2.2.2.toNat*4) 4=some [int i64 n1,int i64 n2,int i64 n3,int i64 n4] ∧
[int i64 n1,int i64 n2,int i64 n3,int i64 n4].length=4 ∧
∃(H3:AH),
(X none).wr
((X none).al H2
(cells [int i64 0,int i64 0,int i64 0,int i64 0] 54 { whole:=true }))
((X none).n H2) 0 [int i64 n1,int i64 n2,int i64 n3,int i64 n4] =
some H3 ∧
∃(n5:Int),
(X none).aM H3 ((X none).n H2) 0=some (int i64 n5) ∧
∃(n6:Int),
(X none).aM H3 ((X none).n H2) 1=some (int i64 n6) ∧
bif decide (n<n5) || decide (n≥n6) then
∃(x5:Nat×Nat×Nat×Int×Int),
∃(_k9:Nat),
True ∧
[int i64 n,ptr (some (x3.1,0)),ptr (some (x3.2.1,0)),ptr (some (x3.2.2.1,0)),
int i64 x3.2.2.2.1,int i64 x3.2.2.2.2] =
[int i64 n,ptr (some (x5.1,0)),ptr (some (x5.2.1,0)),ptr (some (x5.2.2.1,0)),
int i64 x5.2.2.2.1,int i64 x5.2.2.2.2] ∧
x4 x5 H3
else
∃(n7:Int),
(X none).aM H3 ((X none).n H2) 2=some (int i64 n7) ∧
bif n7 == (1:Int) then
1=1 ∧
∃(H4:AH),
(X none).wr H3 x3.2.2.1 0 [bool true]=some H4 ∧
∃(x6:Nat×Nat×Nat×Int×Int),
∃(_k10:Nat),
True ∧
[int i64 n,ptr (some (x3.1,0)),ptr (some (x3.2.1,0)),ptr (some (x3.2.2.1,0)),
int i64 x3.2.2.2.1,int i64 x3.2.2.2.2] =
[int i64 n,ptr (some (x6.1,0)),ptr (some (x6.2.1,0)),ptr (some (x6.2.2.1,0)),
int i64 x6.2.2.2.1,int i64 x6.2.2.2.2] ∧
x4 x6 H4
else
bif n7 == (2:Int) then
1=1 ∧
∃(H5:AH),
(X none).wr H3 x3.2.2.1 1 [bool true]=some H5 ∧
∃(x7:Nat×Nat×Nat×Int×Int),
∃(_k11:Nat),
True ∧
[int i64 n,ptr (some (x3.1,0)),ptr (some (x3.2.1,0)),ptr (some (x3.2.2.1,0)),
int i64 x3.2.2.2.1,int i64 x3.2.2.2.2] =
[int i64 n,ptr (some (x7.1,0)),ptr (some (x7.2.1,0)),ptr (some (x7.2.2.1,0)),
int i64 x7.2.2.2.1,int i64 x7.2.2.2.2] ∧
x4 x7 H5
else
bif n7 == (3:Int) then
1=1 ∧
∃(H6:AH),
(X none).wr H3 x3.2.2.1 2 [bool true]=some H6 ∧
∃(x8:Nat×Nat×Nat×Int×Int),
∃(_k12:Nat),
True ∧
[int i64 n,ptr (some (x3.1,0)),ptr (some (x3.2.1,0)),ptr (some (x3.2.2.1,0)),
int i64 x3.2.2.2.1,int i64 x3.2.2.2.2] =
[int i64 n,ptr (some (x8.1,0)),ptr (some (x8.2.1,0)),ptr (some (x8.2.2.1,0)),
int i64 x8.2.2.2.1,int i64 x8.2.2.2.2] ∧
x4 x8 H6
else
bif n7 == (4:Int) then
1=1 ∧
∃(H7:AH),
(X none).wr H3 x3.2.2.1 3 [bool true]=some H7 ∧
∃(x9:Nat×Nat×Nat×Int×Int),
∃(_k13:Nat),
True ∧
[int i64 n,ptr (some (x3.1,0)),ptr (some (x3.2.1,0)),ptr (some (x3.2.2.1,0)),
int i64 x3.2.2.2.1,int i64 x3.2.2.2.2] =
[int i64 n,ptr (some (x9.1,0)),ptr (some (x9.2.1,0)),ptr (some (x9.2.2.1,0)),
int i64 x9.2.2.2.1,int i64 x9.2.2.2.2] ∧
x4 x9 H7
else
∃(bp:(Nat×Nat×Nat×Int×Int)×Nat×Bool→AH→Prop),
(bif decide (x3.2.2.2.1<(0:Int)) == false then
∃(n8 n9 eK iC:Int),
(X none).bC H3 ((X none).n H2) 0 4 =
some [int i64 n8,int i64 n9,int i64 eK,int i64 iC] ∧
∃(q3:Option (Nat×Nat)),
∃(iD jr:Nat),
(X none).aM H3 x3.1 1=some (slice q3 iD jr) ∧
∃(m6 jq:Nat),
(q3=some (m6,jq)∧(0:Int)≤x3.2.2.2.1∧x3.2.2.2.1<(↑iD:Int)) ∧
∃(j6 kO lD pI:Int),
(X none).bC H3 m6 (jq+x3.2.2.2.1.toNat*4) 4 =
some [int i64 j6,int i64 kO,int i64 lD,int i64 pI] ∧
(X none).call 108
[agg [int i64 n8,int i64 n9,int i64 eK,int i64 iC],
agg [int i64 j6,int i64 kO,int i64 lD,int i64 pI]]
H3 fun (v1:AV) (H8:AH) =>
∃(b1:Bool),
v1=bool b1 ∧
∃(eL:(Nat×Nat×Nat×Int×Int)×Nat×Bool),
∃(_k18:Nat),
True ∧
[int i64 n,ptr (some (x3.1,0)),ptr (some (x3.2.1,0)),
ptr (some (x3.2.2.1,0)),int i64 x3.2.2.2.1,
int i64 x3.2.2.2.2,ptr (some ((X none).n H2,0)),bool b1] =
[int i64 n,ptr (some (eL.1.1,0)),
ptr (some (eL.1.2.1,0)),ptr (some (eL.1.2.2.1,0)),
int i64 eL.1.2.2.2.1,int i64 eL.1.2.2.2.2,
ptr (some (eL.2.1,0)),bool eL.2.2] ∧
bp eL H8
else
∃(dL:(Nat×Nat×Nat×Int×Int)×Nat×Bool),
∃(_k19:Nat),
True ∧
[int i64 n,ptr (some (x3.1,0)),ptr (some (x3.2.1,0)),ptr (some (x3.2.2.1,0)),
int i64 x3.2.2.2.1,int i64 x3.2.2.2.2,ptr (some ((X none).n H2,0)),bool true] =
[int i64 n,ptr (some (dL.1.1,0)),ptr (some (dL.1.2.1,0)),
ptr (some (dL.1.2.2.1,0)),int i64 dL.1.2.2.2.1,int i64 dL.1.2.2.2.2,
ptr (some (dL.2.1,0)),bool dL.2.2] ∧
bp dL H3) ∧
∀(gX:(Nat×Nat×Nat×Int×Int)×Nat×Bool) (H9:AH),
bp gX H9 →
bif gX.2.2 then
∃(qt:Int),
(X none).aM H9 gX.2.1 3=some (int i64 qt) ∧
[int i64 ((X none).wrap i64 (qt+(1:Int)))].length=1 ∧
∃(jd:AH),
(X none).wr H9 gX.1.2.2.1 4 [int i64 ((X none).wrap i64 (qt+(1:Int)))]=some jd ∧
∃(bW:Nat×Nat×Nat×Int×Int),
∃(_k20:Nat),
True ∧
[int i64 n,ptr (some (gX.1.1,0)),ptr (some (gX.1.2.1,0)),
ptr (some (gX.1.2.2.1,0)),int i64 gX.1.2.2.2.2,
int i64 gX.1.2.2.2.2] =
[int i64 n,ptr (some (bW.1,0)),ptr (some (bW.2.1,0)),
ptr (some (bW.2.2.1,0)),int i64 bW.2.2.2.1,int i64 bW.2.2.2.2] ∧
x4 bW jd
else
∃(fF:Nat×Nat×Nat×Int×Int),
∃(_k21:Nat),
True ∧
[int i64 n,ptr (some (gX.1.1,0)),ptr (some (gX.1.2.1,0)),
ptr (some (gX.1.2.2.1,0)),int i64 gX.1.2.2.2.1,
int i64 gX.1.2.2.2.2] =
[int i64 n,ptr (some (fF.1,0)),ptr (some (fF.2.1,0)),
ptr (some (fF.2.2.1,0)),int i64 fF.2.2.2.1,int i64 fF.2.2.2.2] ∧
x4 fF H9) ∧
∀(vr:Nat×Nat×Nat×Int×Int) (nT:AH),
x4 vr nT →
∃(dN:Nat×Nat×Nat×Int×Int),
∃(pN:Nat),
pN<k2 ∧
[int i64 n,ptr (some (vr.1,0)),ptr (some (vr.2.1,0)),ptr (some (vr.2.2.1,0)),int i64 vr.2.2.2.1,
int i64 ((X none).wrap i64 (vr.2.2.2.2+(1:Int)))] =
[int i64 n,ptr (some (dN.1,0)),ptr (some (dN.2.1,0)),ptr (some (dN.2.2.1,0)),int i64 dN.2.2.2.1,
int i64 dN.2.2.2.2] ∧
x1 dN nT pN
else
∃(b2 b3 b4 b5:Bool),
∃(sX:Int),
(X none).bC H2 x3.2.2.1 0 5=some [bool b2,bool b3,bool b4,bool b5,int i64 sX] ∧
[bool b2,bool b3,bool b4,bool b5,int i64 sX].length=5 ∧
∃(oK:AH),
(X none).wr H2 x3.2.1 0 [bool b2,bool b3,bool b4,bool b5,int i64 sX]=some oK ∧
∃(b6 b7 b8 b9:Bool),
∃(vt:Int),
(X none).bC oK x3.2.1 0 5=some [bool b6,bool b7,bool b8,bool b9,int i64 vt] ∧
Q (agg [bool b6,bool b7,bool b8,bool b9,int i64 vt]) oK):=by kernel_rfl
theorem CA (X:Option Nat→aO) (It:FuncId→List AV→List AV→(AH→Prop)→List (List AV)→Prop) (q:Option (Nat×Nat)) (k:Nat) (H:AH) (Q:AV→AH→Prop):(nx X It Tryz.prog [⟨5,Int×(Option (Nat×Nat)×Nat)×(Option (Nat×Nat)×Nat)×Int,[0,4,5,6,7],fun x=>[.slice q k k,.int .i64 x.1,.slice x.2.1.1 x.2.1.2 x.2.1.2,.slice x.2.2.1.1 x.2.2.1.2 x.2.2.1.2,.int .i64 x.2.2.2],fun _ _ _=>True⟩,⟨9,(Int×(Option (Nat×Nat)×Nat)×(Option (Nat×Nat)×Nat)×Int)×(Option (Nat×Nat)×Nat)×Int,[0,4,5,6,7,8,9],fun x=>[.slice q k k,.int .i64 x.1.1,.slice x.1.2.1.1 x.1.2.1.2 x.1.2.1.2,.slice x.1.2.2.1.1 x.1.2.2.1.2 x.1.2.2.1.2,.int .i64 x.1.2.2.2,.slice x.2.1.1 x.2.1.2 x.2.1.2,.int .i64 x.2.2],fun _ _ _=>True⟩,⟨12,((Int×(Option (Nat×Nat)×Nat)×(Option (Nat×Nat)×Nat)×Int)×(Option (Nat×Nat)×Nat)×Int)×Int×Int,[0,4,5,6,7,8,9,10,11],fun x=>[.slice q k k,.int .i64 x.1.1.1,.slice x.1.1.2.1.1 x.1.1.2.1.2 x.1.1.2.1.2,.slice x.1.1.2.2.1.1 x.1.1.2.2.1.2 x.1.1.2.2.1.2,.int .i64 x.1.1.2.2.2,.slice x.1.2.1.1 x.1.2.1.2 x.1.2.1.2,.int .i64 x.1.2.2,.int .i64 x.2.1,.int .i64 x.2.2],fun _ _ _=>True⟩,⟨200014,((Int×(Option (Nat×Nat)×Nat)×(Option (Nat×Nat)×Nat)×Int)×(Option (Nat×Nat)×Nat)×Int)×Int×Int,[0,4,5,6,7,8,9,10,11],fun x=>[.slice q k k,.int .i64 x.1.1.1,.slice x.1.1.2.1.1 x.1.1.2.1.2 x.1.1.2.1.2,.slice x.1.1.2.2.1.1 x.1.1.2.2.1.2 x.1.1.2.2.1.2,.int .i64 x.1.1.2.2.2,.slice x.1.2.1.1 x.1.2.1.2 x.1.2.1.2,.int .i64 x.1.2.2,.int .i64 x.2.1,.int .i64 x.2.2],fun _ _ _=>True⟩,⟨200018,((Int×(Option (Nat×Nat)×Nat)×(Option (Nat×Nat)×Nat)×Int)×(Option (Nat×Nat)×Nat)×Int)×Int×Nat,[0,4,5,6,7,8,9,11,12],fun x=>[.slice q k k,.int .i64 x.1.1.1,.slice x.1.1.2.1.1 x.1.1.2.1.2 x.1.1.2.1.2,.slice x.1.1.2.2.1.1 x.1.1.2.2.1.2 x.1.1.2.2.1.2,.int .i64 x.1.1.2.2.2,.slice x.1.2.1.1 x.1.2.1.2 x.1.2.1.2,.int .i64 x.1.2.2,.int .i64 x.2.1,.ptr (some (x.2.2,0))],fun _ _ _=>True⟩,⟨200019,((Int×(Option (Nat×Nat)×Nat)×(Option (Nat×Nat)×Nat)×Int)×(Option (Nat×Nat)×Nat)×Int)×Int,[0,4,5,6,7,8,9,11],fun x=>[.slice q k k,.int .i64 x.1.1.1,.slice x.1.1.2.1.1 x.1.1.2.1.2 x.1.1.2.1.2,.slice x.1.1.2.2.1.1 x.1.1.2.2.1.2 x.1.1.2.2.1.2,.int .i64 x.1.1.2.2.2,.slice x.1.2.1.1 x.1.2.1.2 x.1.2.1.2,.int .i64 x.1.2.2,.int .i64 x.2],fun _ _ _=>True⟩,⟨23,(Int×(Option (Nat×Nat)×Nat)×(Option (Nat×Nat)×Nat)×Int)×(Option (Nat×Nat)×Nat)×Int,[0,4,5,6,7,8,13],fun x=>[.slice q k k,.int .i64 x.1.1,.slice x.1.2.1.1 x.1.2.1.2 x.1.2.1.2,.slice x.1.2.2.1.1 x.1.2.2.1.2 x.1.2.2.1.2,.int .i64 x.1.2.2.2,.slice x.2.1.1 x.2.1.2 x.2.1.2,.int .i64 x.2.2],fun _ _ _=>True⟩] [] 72 [.slice q k k] H Q) =
(∃(q1:Option (Nat×Nat)),
∃(k1 k2:Nat),
∃(H1:AH),
(X none).Px (164:Nat) ((X none).wrap i64 ((↑k:Int)+(1:Int))) ((X none).wrap i64 ((↑k:Int)+(1:Int))) H=some (slice q1 k1 k2,H1) ∧
∃(x1:Int×(Option (Nat×Nat)×Nat)×(Option (Nat×Nat)×Nat)×Int→AH→Nat→Prop),
(∃(x2:Int×(Option (Nat×Nat)×Nat)×(Option (Nat×Nat)×Nat)×Int),
∃(k3:Nat),
[slice q k k,int i64 (↑k:Int),slice q1 k1 k2,slice none (0:Nat) (0:Nat),int i64 1] =
[slice q k k,int i64 x2.1,slice x2.2.1.1 x2.2.1.2 x2.2.1.2,slice x2.2.2.1.1 x2.2.2.1.2 x2.2.2.1.2,int i64 x2.2.2.2] ∧
x1 x2 H1 k3) ∧
∀(x3:Int×(Option (Nat×Nat)×Nat)×(Option (Nat×Nat)×Nat)×Int) (H2:AH) (k4:Nat),
x1 x3 H2 k4 →
bif decide (x3.2.2.2≤(5:Int)) then
∃(x4:(Int×(Option (Nat×Nat)×Nat)×(Option (Nat×Nat)×Nat)×Int)×(Option (Nat×Nat)×Nat)×Int→AH→Nat→Prop),
(∃(x5:(Int×(Option (Nat×Nat)×Nat)×(Option (Nat×Nat)×Nat)×Int)×(Option (Nat×Nat)×Nat)×Int),
∃(k5:Nat),
[slice q k k,int i64 x3.1,slice x3.2.1.1 x3.2.1.2 x3.2.1.2,slice x3.2.2.1.1 x3.2.2.1.2 x3.2.2.1.2,int i64 x3.2.2.2,
slice none 0 0,int i64 0] =
[slice q k k,int i64 x5.1.1,slice x5.1.2.1.1 x5.1.2.1.2 x5.1.2.1.2,slice x5.1.2.2.1.1 x5.1.2.2.1.2 x5.1.2.2.1.2,
int i64 x5.1.2.2.2,slice x5.2.1.1 x5.2.1.2 x5.2.1.2,int i64 x5.2.2] ∧
x4 x5 H2 k5) ∧
∀(x6:(Int×(Option (Nat×Nat)×Nat)×(Option (Nat×Nat)×Nat)×Int)×(Option (Nat×Nat)×Nat)×Int) (H3:AH) (k6:Nat),
x4 x6 H3 k6 →
bif decide (x6.2.2<x6.1.1) then
∃(k7 k8:Nat),
(q=some (k7,k8)∧(0:Int)≤x6.2.2∧x6.2.2<(↑k:Int)) ∧
∃(b1 b2 b3 b4:Bool),
∃(n1:Int),
(X none).bC H3 k7 (k8+x6.2.2.toNat*5) 5=some [bool b1,bool b2,bool b3,bool b4,int i64 n1] ∧
(X none).call 109 [agg [bool b1,bool b2,bool b3,bool b4,int i64 n1],int i64 x6.1.2.2.2] H3 fun (v1:AV) (H4:AH) =>
∃(n2:Int),
v1=int i64 n2 ∧
∃(x7:((Int×(Option (Nat×Nat)×Nat)×(Option (Nat×Nat)×Nat)×Int)×(Option (Nat×Nat)×Nat)×Int)×Int×Int→AH→Prop),
(∃(x8:((Int×(Option (Nat×Nat)×Nat)×(Option (Nat×Nat)×Nat)×Int)×(Option (Nat×Nat)×Nat)×Int)×Int×Int→AH→Nat→Prop),
(∃(x9:((Int×(Option (Nat×Nat)×Nat)×(Option (Nat×Nat)×Nat)×Int)×(Option (Nat×Nat)×Nat)×Int)×Int×Int),
∃(k9:Nat),
[slice q k k,int i64 x6.1.1,slice x6.1.2.1.1 x6.1.2.1.2 x6.1.2.1.2,
slice x6.1.2.2.1.1 x6.1.2.2.1.2 x6.1.2.2.1.2,int i64 x6.1.2.2.2,
slice x6.2.1.1 x6.2.1.2 x6.2.1.2,int i64 x6.2.2,int i64 n2,
int i64 ((X none).wrap i64 (x6.2.2+(1:Int)))] =
[slice q k k,int i64 x9.1.1.1,slice x9.1.1.2.1.1 x9.1.1.2.1.2 x9.1.1.2.1.2,
slice x9.1.1.2.2.1.1 x9.1.1.2.2.1.2 x9.1.1.2.2.1.2,int i64 x9.1.1.2.2.2,
slice x9.1.2.1.1 x9.1.2.1.2 x9.1.2.1.2,int i64 x9.1.2.2,int i64 x9.2.1,int i64 x9.2.2] ∧
x8 x9 H4 k9) ∧
∀(bp:((Int×(Option (Nat×Nat)×Nat)×(Option (Nat×Nat)×Nat)×Int)×(Option (Nat×Nat)×Nat)×Int)×Int×Int) (H5:AH) (jb:Nat),
x8 bp H5 jb →
∃(fN iq:Nat),
((decide (bp.2.2<bp.1.1.1) == true)=true→q=some (fN,iq)∧(0:Int)≤bp.2.2∧bp.2.2<(↑k:Int)) ∧
∃(b5 b6 b7 b8:Bool),
∃(n3:Int),
((decide (bp.2.2<bp.1.1.1) == true)=true →
(X none).bC H5 fN (iq+bp.2.2.toNat*5) 5=some [bool b5,bool b6,bool b7,bool b8,int i64 n3]) ∧
bif decide (bp.2.2<bp.1.1.1) == true then
(X none).call 109 [agg [bool b5,bool b6,bool b7,bool b8,int i64 n3],int i64 bp.1.1.2.2.2] H5
fun (v2:AV) (H6:AH) =>
∃(n4:Int),
v2=int i64 n4 ∧
∃(jM iD:Nat),
(((n4 == bp.2.1) == true)=true →
bp.1.1.2.1.1=some (jM,iD)∧(0:Int)≤bp.2.2∧bp.2.2<(↑bp.1.1.2.1.2:Int)) ∧
∃(b9:Bool),
(((n4 == bp.2.1) == true)=true→(X none).aM H6 jM (iD+bp.2.2.toNat*1)=some (bool b9)) ∧
bif n4 == bp.2.1 && !b9 then
∃(eL:((Int×(Option (Nat×Nat)×Nat)×(Option (Nat×Nat)×Nat)×Int)×(Option (Nat×Nat)×Nat)×Int)×Int×Int),
∃(jr:Nat),
jr<jb ∧
[slice q k k,int i64 bp.1.1.1,
slice bp.1.1.2.1.1 bp.1.1.2.1.2 bp.1.1.2.1.2,
slice bp.1.1.2.2.1.1 bp.1.1.2.2.1.2 bp.1.1.2.2.1.2,
int i64 bp.1.1.2.2.2,slice bp.1.2.1.1 bp.1.2.1.2 bp.1.2.1.2,
int i64 bp.1.2.2,int i64 bp.2.1,
int i64 ((X none).wrap i64 (bp.2.2+(1:Int)))] =
[slice q k k,int i64 eL.1.1.1,
slice eL.1.1.2.1.1 eL.1.1.2.1.2 eL.1.1.2.1.2,
slice eL.1.1.2.2.1.1 eL.1.1.2.2.1.2 eL.1.1.2.2.1.2,
int i64 eL.1.1.2.2.2,slice eL.1.2.1.1 eL.1.2.1.2 eL.1.2.1.2,
int i64 eL.1.2.2,int i64 eL.2.1,int i64 eL.2.2] ∧
x8 eL H6 jr
else
∃(dL:((Int×(Option (Nat×Nat)×Nat)×(Option (Nat×Nat)×Nat)×Int)×(Option (Nat×Nat)×Nat)×Int)×Int×Int),
∃(_k16:Nat),
True ∧
[slice q k k,int i64 bp.1.1.1,
slice bp.1.1.2.1.1 bp.1.1.2.1.2 bp.1.1.2.1.2,
slice bp.1.1.2.2.1.1 bp.1.1.2.2.1.2 bp.1.1.2.2.1.2,
int i64 bp.1.1.2.2.2,slice bp.1.2.1.1 bp.1.2.1.2 bp.1.2.1.2,
int i64 bp.1.2.2,int i64 bp.2.1,int i64 bp.2.2] =
[slice q k k,int i64 dL.1.1.1,
slice dL.1.1.2.1.1 dL.1.1.2.1.2 dL.1.1.2.1.2,
slice dL.1.1.2.2.1.1 dL.1.1.2.2.1.2 dL.1.1.2.2.1.2,
int i64 dL.1.1.2.2.2,slice dL.1.2.1.1 dL.1.2.1.2 dL.1.2.1.2,
int i64 dL.1.2.2,int i64 dL.2.1,int i64 dL.2.2] ∧
x7 dL H6
else
∃(jq lK:Nat),
(false=true→bp.1.1.2.1.1=some (jq,lK)∧(0:Int)≤bp.2.2∧bp.2.2<(↑bp.1.1.2.1.2:Int)) ∧
∃(BF:Bool),
(false=true→(X none).aM H5 jq (lK+bp.2.2.toNat*1)=some (bool BF)) ∧
∃(gX:((Int×(Option (Nat×Nat)×Nat)×(Option (Nat×Nat)×Nat)×Int)×(Option (Nat×Nat)×Nat)×Int)×Int×Int),
∃(_k19:Nat),
True ∧
[slice q k k,int i64 bp.1.1.1,slice bp.1.1.2.1.1 bp.1.1.2.1.2 bp.1.1.2.1.2,
slice bp.1.1.2.2.1.1 bp.1.1.2.2.1.2 bp.1.1.2.2.1.2,
int i64 bp.1.1.2.2.2,slice bp.1.2.1.1 bp.1.2.1.2 bp.1.2.1.2,
int i64 bp.1.2.2,int i64 bp.2.1,int i64 bp.2.2] =
[slice q k k,int i64 gX.1.1.1,slice gX.1.1.2.1.1 gX.1.1.2.1.2 gX.1.1.2.1.2,
slice gX.1.1.2.2.1.1 gX.1.1.2.2.1.2 gX.1.1.2.2.1.2,
int i64 gX.1.1.2.2.2,slice gX.1.2.1.1 gX.1.2.1.2 gX.1.2.1.2,
int i64 gX.1.2.2,int i64 gX.2.1,int i64 gX.2.2] ∧
x7 gX H5) ∧
∀(bW:((Int×(Option (Nat×Nat)×Nat)×(Option (Nat×Nat)×Nat)×Int)×(Option (Nat×Nat)×Nat)×Int)×Int×Int) (H7:AH),
x7 bW H7 →
∃(fF:((Int×(Option (Nat×Nat)×Nat)×(Option (Nat×Nat)×Nat)×Int)×(Option (Nat×Nat)×Nat)×Int)×Int→AH→Prop),
(bif decide (bW.2.1 > (0:Int)) then
[int i64 bW.1.2.2,int i64 bW.2.2,int i64 bW.1.1.2.2.2,int i64 0].length=4 ∧
∃(H8:AH),
(X none).wr
((X none).al H7
(cells [int i64 0,int i64 0,int i64 0,int i64 0] 54
{ whole:=true }))
((X none).n H7) 0
[int i64 bW.1.2.2,int i64 bW.2.2,int i64 bW.1.1.2.2.2,int i64 0] =
some H8 ∧
∃(vr:((Int×(Option (Nat×Nat)×Nat)×(Option (Nat×Nat)×Nat)×Int)×(Option (Nat×Nat)×Nat)×Int)×Int×Nat→AH→Prop),
(bif bW.1.1.2.2.2 == (5:Int) then
[int i64 ((X none).wrap i64 (bW.2.1 - (1:Int)))].length=1 ∧
∃(H9:AH),
(X none).wr H8 ((X none).n H7) 3 [int i64 ((X none).wrap i64 (bW.2.1 - (1:Int)))]=some H9 ∧
∃(dN:((Int×(Option (Nat×Nat)×Nat)×(Option (Nat×Nat)×Nat)×Int)×(Option (Nat×Nat)×Nat)×Int)×Int×Nat),
∃(_k20:Nat),
True ∧
[slice q k k,int i64 bW.1.1.1,slice bW.1.1.2.1.1 bW.1.1.2.1.2 bW.1.1.2.1.2,
slice bW.1.1.2.2.1.1 bW.1.1.2.2.1.2 bW.1.1.2.2.1.2,int i64 bW.1.1.2.2.2,
slice bW.1.2.1.1 bW.1.2.1.2 bW.1.2.1.2,int i64 bW.1.2.2,int i64 bW.2.2,
ptr (some ((X none).n H7,0))] =
[slice q k k,int i64 dN.1.1.1,slice dN.1.1.2.1.1 dN.1.1.2.1.2 dN.1.1.2.1.2,
slice dN.1.1.2.2.1.1 dN.1.1.2.2.1.2 dN.1.1.2.2.1.2,int i64 dN.1.1.2.2.2,
slice dN.1.2.1.1 dN.1.2.1.2 dN.1.2.1.2,int i64 dN.1.2.2,int i64 dN.2.1,
ptr (some (dN.2.2,0))] ∧
vr dN H9
else
∃(cr:((Int×(Option (Nat×Nat)×Nat)×(Option (Nat×Nat)×Nat)×Int)×(Option (Nat×Nat)×Nat)×Int)×Int×Nat),
∃(_k21:Nat),
True ∧
[slice q k k,int i64 bW.1.1.1,slice bW.1.1.2.1.1 bW.1.1.2.1.2 bW.1.1.2.1.2,
slice bW.1.1.2.2.1.1 bW.1.1.2.2.1.2 bW.1.1.2.2.1.2,int i64 bW.1.1.2.2.2,
slice bW.1.2.1.1 bW.1.2.1.2 bW.1.2.1.2,int i64 bW.1.2.2,int i64 bW.2.2,
ptr (some ((X none).n H7,0))] =
[slice q k k,int i64 cr.1.1.1,slice cr.1.1.2.1.1 cr.1.1.2.1.2 cr.1.1.2.1.2,
slice cr.1.1.2.2.1.1 cr.1.1.2.2.1.2 cr.1.1.2.2.1.2,int i64 cr.1.1.2.2.2,
slice cr.1.2.1.1 cr.1.2.1.2 cr.1.2.1.2,int i64 cr.1.2.2,int i64 cr.2.1,
ptr (some (cr.2.2,0))] ∧
vr cr H8) ∧
∀(lN:((Int×(Option (Nat×Nat)×Nat)×(Option (Nat×Nat)×Nat)×Int)×(Option (Nat×Nat)×Nat)×Int)×Int×Nat) (jd:AH),
vr lN jd →
∃(n5 n6 n7 n8:Int),
(X none).bC jd lN.2.2 0 4=some [int i64 n5,int i64 n6,int i64 n7,int i64 n8] ∧
(4≤16777216∧4=4∧0<4∧true=true∧true=true) ∧
∃(q2:Option (Nat×Nat)),
∃(pN rR:Nat),
∃(nT:AH),
(X none).app 22 22 (slice lN.1.2.1.1 lN.1.2.1.2 lN.1.2.1.2)
(slice (some ((X none).n jd,0)) 1 1)
((X none).al jd
(cells [int i64 n5,int i64 n6,int i64 n7,int i64 n8] 54
{ whole:=true })) =
some (slice q2 pN rR,nT) ∧
∃(lJ:((Int×(Option (Nat×Nat)×Nat)×(Option (Nat×Nat)×Nat)×Int)×(Option (Nat×Nat)×Nat)×Int)×Int),
∃(_k24:Nat),
True ∧
[slice q k k,int i64 lN.1.1.1,
slice lN.1.1.2.1.1 lN.1.1.2.1.2 lN.1.1.2.1.2,
slice lN.1.1.2.2.1.1 lN.1.1.2.2.1.2 lN.1.1.2.2.1.2,
int i64 lN.1.1.2.2.2,slice q2 pN rR,int i64 lN.1.2.2,
int i64 lN.2.1] =
[slice q k k,int i64 lJ.1.1.1,
slice lJ.1.1.2.1.1 lJ.1.1.2.1.2 lJ.1.1.2.1.2,
slice lJ.1.1.2.2.1.1 lJ.1.1.2.2.1.2 lJ.1.1.2.2.1.2,
int i64 lJ.1.1.2.2.2,slice lJ.1.2.1.1 lJ.1.2.1.2 lJ.1.2.1.2,
int i64 lJ.1.2.2,int i64 lJ.2] ∧
fF lJ nT
else
∃(gW:((Int×(Option (Nat×Nat)×Nat)×(Option (Nat×Nat)×Nat)×Int)×(Option (Nat×Nat)×Nat)×Int)×Int),
∃(_k25:Nat),
True ∧
[slice q k k,int i64 bW.1.1.1,slice bW.1.1.2.1.1 bW.1.1.2.1.2 bW.1.1.2.1.2,
slice bW.1.1.2.2.1.1 bW.1.1.2.2.1.2 bW.1.1.2.2.1.2,int i64 bW.1.1.2.2.2,
slice bW.1.2.1.1 bW.1.2.1.2 bW.1.2.1.2,int i64 bW.1.2.2,int i64 bW.2.2] =
[slice q k k,int i64 gW.1.1.1,slice gW.1.1.2.1.1 gW.1.1.2.1.2 gW.1.1.2.1.2,
slice gW.1.1.2.2.1.1 gW.1.1.2.2.1.2 gW.1.1.2.2.1.2,int i64 gW.1.1.2.2.2,
slice gW.1.2.1.1 gW.1.2.1.2 gW.1.2.1.2,int i64 gW.1.2.2,int i64 gW.2] ∧
fF gW H7) ∧
∀(gr:((Int×(Option (Nat×Nat)×Nat)×(Option (Nat×Nat)×Nat)×Int)×(Option (Nat×Nat)×Nat)×Int)×Int) (oK:AH),
fF gr oK →
bif decide ((X none).wrap i64 ((↑gr.1.1.2.2.1.2:Int)+(↑gr.1.2.1.2:Int)) > (256:Int)) then
Q (tuple [slice none 0 0,bool false]) oK
else
∃(hU:(Int×(Option (Nat×Nat)×Nat)×(Option (Nat×Nat)×Nat)×Int)×(Option (Nat×Nat)×Nat)×Int),
∃(wR:Nat),
wR<k6 ∧
[slice q k k,int i64 gr.1.1.1,slice gr.1.1.2.1.1 gr.1.1.2.1.2 gr.1.1.2.1.2,
slice gr.1.1.2.2.1.1 gr.1.1.2.2.1.2 gr.1.1.2.2.1.2,int i64 gr.1.1.2.2.2,
slice gr.1.2.1.1 gr.1.2.1.2 gr.1.2.1.2,int i64 gr.2] =
[slice q k k,int i64 hU.1.1,slice hU.1.2.1.1 hU.1.2.1.2 hU.1.2.1.2,
slice hU.1.2.2.1.1 hU.1.2.2.1.2 hU.1.2.2.1.2,int i64 hU.1.2.2.2,
slice hU.2.1.1 hU.2.1.2 hU.2.1.2,int i64 hU.2.2] ∧
x4 hU oK wR
else
∃(fq:(Int×(Option (Nat×Nat)×Nat)×(Option (Nat×Nat)×Nat)×Int)×(Option (Nat×Nat)×Nat)×Int→AH→Nat→Prop),
(∃(cF:(Int×(Option (Nat×Nat)×Nat)×(Option (Nat×Nat)×Nat)×Int)×(Option (Nat×Nat)×Nat)×Int),
∃(ny:Nat),
[slice q k k,int i64 x6.1.1,slice x6.1.2.1.1 x6.1.2.1.2 x6.1.2.1.2,slice x6.1.2.2.1.1 x6.1.2.2.1.2 x6.1.2.2.1.2,
int i64 x6.1.2.2.2,slice x6.2.1.1 x6.2.1.2 x6.2.1.2,int i64 0] =
[slice q k k,int i64 cF.1.1,slice cF.1.2.1.1 cF.1.2.1.2 cF.1.2.1.2,
slice cF.1.2.2.1.1 cF.1.2.2.1.2 cF.1.2.2.1.2,int i64 cF.1.2.2.2,slice cF.2.1.1 cF.2.1.2 cF.2.1.2,
int i64 cF.2.2] ∧
fq cF H3 ny) ∧
∀(ct:(Int×(Option (Nat×Nat)×Nat)×(Option (Nat×Nat)×Nat)×Int)×(Option (Nat×Nat)×Nat)×Int) (nw:AH) (zK:Nat),
fq ct nw zK →
bif decide (ct.2.2<(↑ct.2.1.2:Int)) then
∃(FO FN:Nat),
(ct.2.1.1=some (FO,FN)∧(0:Int)≤ct.2.2∧ct.2.2<(↑ct.2.1.2:Int)) ∧
∃(n9:Int),
(X none).aM nw FO (FN+ct.2.2.toNat*4+0)=some (int i64 n9) ∧
∃(IM IL:Nat),
(ct.1.2.1.1=some (IM,IL)∧(0:Int)≤n9∧n9<(↑ct.1.2.1.2:Int)) ∧
1=1 ∧
∃(xH:AH),
(X none).wr nw IM (IL+n9.toNat*1) [bool true]=some xH ∧
∃(IK IJ:Nat),
(ct.2.1.1=some (IK,IJ)∧(0:Int)≤ct.2.2∧ct.2.2<(↑ct.2.1.2:Int)) ∧
∃(eK:Int),
(X none).aM xH IK (IJ+ct.2.2.toNat*4+1)=some (int i64 eK) ∧
∃(GI GH:Nat),
(ct.1.2.1.1=some (GI,GH)∧(0:Int)≤eK∧eK<(↑ct.1.2.1.2:Int)) ∧
1=1 ∧
∃(nv:AH),
(X none).wr xH GI (GH+eK.toNat*1) [bool true]=some nv ∧
∃(MS MQ:Nat),
(ct.2.1.1=some (MS,MQ)∧(0:Int)≤ct.2.2∧ct.2.2<(↑ct.2.1.2:Int)) ∧
∃(iC j6 kO lD:Int),
(X none).bC nv MS (MQ+ct.2.2.toNat*4) 4 =
some [int i64 iC,int i64 j6,int i64 kO,int i64 lD] ∧
(X none).call 110
[slice ct.1.2.2.1.1 ct.1.2.2.1.2 ct.1.2.2.1.2,
agg [int i64 iC,int i64 j6,int i64 kO,int i64 lD]]
nv fun (v3:AV) (xG:AH) =>
∃(q3:Option (Nat×Nat)),
∃(QN QM:Nat),
v3=slice q3 QN QM ∧
∃(gF:(Int×(Option (Nat×Nat)×Nat)×(Option (Nat×Nat)×Nat)×Int)×(Option (Nat×Nat)×Nat)×Int),
∃(MP:Nat),
MP<zK ∧
[slice q k k,int i64 ct.1.1,slice ct.1.2.1.1 ct.1.2.1.2 ct.1.2.1.2,
slice q3 QN QM,int i64 ct.1.2.2.2,slice ct.2.1.1 ct.2.1.2 ct.2.1.2,
int i64 ((X none).wrap i64 (ct.2.2+(1:Int)))] =
[slice q k k,int i64 gF.1.1,slice gF.1.2.1.1 gF.1.2.1.2 gF.1.2.1.2,
slice gF.1.2.2.1.1 gF.1.2.2.1.2 gF.1.2.2.1.2,
int i64 gF.1.2.2.2,slice gF.2.1.1 gF.2.1.2 gF.2.1.2,
int i64 gF.2.2] ∧
fq gF xG MP
else
∃(jU:Int×(Option (Nat×Nat)×Nat)×(Option (Nat×Nat)×Nat)×Int),
∃(Lr:Nat),
Lr<k4 ∧
[slice q k k,int i64 ct.1.1,slice ct.1.2.1.1 ct.1.2.1.2 ct.1.2.1.2,
slice ct.1.2.2.1.1 ct.1.2.2.1.2 ct.1.2.2.1.2,int i64 ((X none).wrap i64 (ct.1.2.2.2+(1:Int)))] =
[slice q k k,int i64 jU.1,slice jU.2.1.1 jU.2.1.2 jU.2.1.2,slice jU.2.2.1.1 jU.2.2.1.2 jU.2.2.1.2,
int i64 jU.2.2.2] ∧
x1 jU nw Lr
else Q (tuple [slice x3.2.2.1.1 x3.2.2.1.2 x3.2.2.1.2,bool true]) H2):=by kernel_rfl
theorem KR (X:Option Nat→aO) (It:FuncId→List AV→List AV→(AH→Prop)→List (List AV)→Prop) (q:Option (Nat×Nat)) (k:Nat) (xf xt xk xv:Int) (H:AH) (Q:AV→AH→Prop):(nx X It Tryz.prog [⟨2,Nat×Int,[0,3,5],fun x=>[.slice q k k,.ptr (some (x.1,0)),.int .i64 x.2],fun _ _ _=>True⟩,⟨200004,Nat×Int,[0,3,5],fun x=>[.slice q k k,.ptr (some (x.1,0)),.int .i64 x.2],fun _ _ _=>True⟩] [] 110 [.slice q k k,.agg [.int .i64 xf,.int .i64 xt,.int .i64 xk,.int .i64 xv]] H Q) =
(true=true ∧
∃(x1:Nat×Int→AH→Prop),
(∃(x2:Nat×Int→AH→Nat→Prop),
(∃(x3:Nat×Int),
∃(k1:Nat),
[slice q k k,ptr (some ((X none).n H,(0:Nat))),int i64 (↑k:Int)]=[slice q k k,ptr (some (x3.1,(0:Nat))),int i64 x3.2] ∧
x2 x3 ((X none).al H (cells [int i64 xf,int i64 xt,int i64 xk,int i64 xv] 54 { whole:=true })) k1) ∧
∀(x4:Nat×Int) (H1:AH) (k2:Nat),
x2 x4 H1 k2 →
bif decide (x4.2 > (0:Int)) == true then
∃(n1 n2 n3 n4:Int),
(X none).bC H1 x4.1 0 4=some [int i64 n1,int i64 n2,int i64 n3,int i64 n4] ∧
∃(k3 k4:Nat),
(q=some (k3,k4)∧(0:Int)≤(X none).wrap i64 (x4.2 - (1:Int))∧(X none).wrap i64 (x4.2 - (1:Int))<(↑k:Int)) ∧
∃(n5 n6 n7 n8:Int),
(X none).bC H1 k3 (k4+((X none).wrap i64 (x4.2 - (1:Int))).toNat*4) 4 =
some [int i64 n5,int i64 n6,int i64 n7,int i64 n8] ∧
(X none).call 133
[agg [int i64 n1,int i64 n2,int i64 n3,int i64 n4],
agg [int i64 n5,int i64 n6,int i64 n7,int i64 n8]]
H1 fun (v1:AV) (H2:AH) =>
∃(b1:Bool),
v1=bool b1 ∧
bif b1 then
∃(x5:Nat×Int),
∃(k5:Nat),
k5<k2 ∧
[slice q k k,ptr (some (x4.1,0)),int i64 ((X none).wrap i64 (x4.2 - (1:Int)))] =
[slice q k k,ptr (some (x5.1,0)),int i64 x5.2] ∧
x2 x5 H2 k5
else
∃(x6:Nat×Int),
∃(_k6:Nat),
True∧[slice q k k,ptr (some (x4.1,0)),int i64 x4.2]=[slice q k k,ptr (some (x6.1,0)),int i64 x6.2]∧x1 x6 H2
else ∃(x7:Nat×Int),∃(_k7:Nat),True∧[slice q k k,ptr (some (x4.1,0)),int i64 x4.2]=[slice q k k,ptr (some (x7.1,0)),int i64 x7.2]∧x1 x7 H1) ∧
∀(x8:Nat×Int) (H3:AH),
x1 x8 H3 →
∃(q1:Option (Nat×Nat)),
∃(k8 k9:Nat),
(X none).Hp 22 (slice q k k) none (some (int i64 x8.2)) none H3=some (slice q1 k8 k9) ∧
∃(q2:Option (Nat×Nat)),
∃(jb fN:Nat),
∃(H4:AH),
(X none).app 22 22 (slice none 0 0) (slice q1 k8 k9) H3=some (slice q2 jb fN,H4) ∧
∃(n9 eK iC j6:Int),
(X none).bC H4 x8.1 0 4=some [int i64 n9,int i64 eK,int i64 iC,int i64 j6] ∧
(4≤16777216∧4=4∧0<4∧true=true∧true=true) ∧
∃(q3:Option (Nat×Nat)),
∃(iq jM:Nat),
∃(H5:AH),
(X none).app 22 22 (slice q2 jb fN) (slice (some ((X none).n H4,0)) 1 1)
((X none).al H4 (cells [int i64 n9,int i64 eK,int i64 iC,int i64 j6] 54 { whole:=true })) =
some (slice q3 iq jM,H5) ∧
∃(q4:Option (Nat×Nat)),
∃(iD jr:Nat),
(X none).Hp 22 (slice q k k) (some (int i64 x8.2)) none none H5=some (slice q4 iD jr) ∧
∃(q5:Option (Nat×Nat)),
∃(m6 jq:Nat),∃(H6:AH),(X none).app 22 22 (slice q3 iq jM) (slice q4 iD jr) H5=some (slice q5 m6 jq,H6)∧Q (slice q5 m6 jq) H6):=by kernel_rfl
theorem Fs (X:aO) (s:List UInt8) (H:AH) (Q:AV→AH→Prop):(fG X Tryz.prog [] 64 [.str s] H Q) =
(X.call (107:Nat) [str s] H fun (v1:AV) (H1:AH)=>∃(q1:Option (Nat×Nat)),∃(k1:Nat),∃(k2:Nat),v1=slice q1 k1 k2∧Q (int i64 (↑k1:Int)) H1):=by kernel_rfl
theorem Ia (X:aO) (c:Int) (H:AH) (Q:AV→AH→Prop):(fG X Tryz.prog [] 148 [.int .u8 c] H Q) =
(bif decide (c<(128:Int)) then Q (int i64 1) H
else
bif decide (c≥(194:Int)) && decide (c≤(223:Int)) then Q (int i64 2) H
else
bif decide (c≥(224:Int)) && decide (c≤(239:Int)) then Q (int i64 3) H
else bif decide (c≥(240:Int)) && decide (c≤(244:Int)) then Q (int i64 4) H else Q (int i64 0) H):=by kernel_rfl
theorem Cz (X:aO) (c d:Int) (H:AH) (Q:AV→AH→Prop):(fG X Tryz.prog [] 149 [.int .u8 c,.int .u8 d] H Q) =
(bif c == (224:Int) then Q (bool (decide (d≥(160:Int)) && decide (d≤(191:Int)))) H
else
bif c == (237:Int) then Q (bool (decide (d≥(128:Int)) && decide (d≤(159:Int)))) H
else
bif c == (240:Int) then Q (bool (decide (d≥(144:Int)) && decide (d≤(191:Int)))) H
else bif c == (244:Int) then Q (bool (decide (d≥(128:Int)) && decide (d≤(143:Int)))) H else Q (bool (decide (d≥(128:Int)) && decide (d≤(191:Int)))) H):=by kernel_rfl
theorem HV (X:aO) (b k:Nat) (i:Int) (H:AH) (Q:AV→AH→Prop):(fG X Tryz.prog [] 150 [.slice (some (b,0)) k k,.int .i64 i] H Q) =
(∃(k1 k2:Nat),
(some (b,(0:Nat))=some (k1,k2)∧(0:Int)≤i∧i<(↑k:Int)) ∧
∃(n1:Int),X.aM H k1 (k2+i.toNat*1)=some (int u8 n1)∧Q (int i64 (X.wrap i64 (X.wrap i64 n1 - (128:Int)))) H):=by kernel_rfl
theorem HX (X:aO) (b k:Nat) (i:Int) (H:AH) (Q:AV→AH→Prop):(fG X Tryz.prog [] 151 [.slice (some (b,0)) k k,.int .i64 i] H Q) =
(∃(k1 k2:Nat),
((decide (i<(↑k:Int)) == true)=true→some (b,(0:Nat))=some (k1,k2)∧(0:Int)≤i∧i<(↑k:Int)) ∧
∃(n1:Int),
((decide (i<(↑k:Int)) == true)=true→X.aM H k1 (k2+i.toNat*(1:Nat))=some (int u8 n1)) ∧
∃(k3 k4:Nat),
(((decide (i<(↑k:Int)) && decide (n1≥(128:Int))) == true)=true→some (b,(0:Nat))=some (k3,k4)∧(0:Int)≤i∧i<(↑k:Int)) ∧
∃(n2:Int),
(((decide (i<(↑k:Int)) && decide (n1≥(128:Int))) == true)=true→X.aM H k3 (k4+i.toNat*(1:Nat))=some (int u8 n2)) ∧
Q (bool (decide (i<(↑k:Int)) && decide (n1≥(128:Int)) && decide (n2≤(191:Int)))) H):=by kernel_rfl
theorem KN (X:Option Nat→aO) (It:FuncId→List AV→List AV→(AH→Prop)→List (List AV)→Prop) (b k:Nat) (i:Int) (H:AH) (Q:AV→AH→Prop):(nx X It Tryz.prog [⟨200009,Nat×Int×Nat×Bool,[0,1,4,5,6,46],fun x=>[.slice (some (b,0)) k k,.int .i64 i,.ptr (some (x.1,0)),.int .i64 x.2.1,.ptr (some (x.2.2.1,0)),.bool x.2.2.2],fun _ _ _=>True⟩,⟨12,Nat×Int×Nat×Int×Int,[0,1,4,5,6,7,8],fun x=>[.slice (some (b,0)) k k,.int .i64 i,.ptr (some (x.1,0)),.int .i64 x.2.1,.ptr (some (x.2.2.1,0)),.int .i64 x.2.2.2.1,.int .i64 x.2.2.2.2],fun _ _ _=>True⟩] [] 132 [.slice (some (b,0)) k k,.int .i64 i] H Q) =
(∃(k1 k2:Nat),
(some (b,(0:Nat))=some (k1,k2)∧(0:Int)≤i∧i<(↑k:Int)) ∧
∃(n1:Int),
(X none).aM ((X none).al H (cells [int i64 0,int i64 0,int i64 0,bool false] 183 { whole:=true })) k1 (k2+i.toNat*1) =
some (int u8 n1) ∧
(X none).call 148 [int u8 n1] ((X none).al H (cells [int i64 0,int i64 0,int i64 0,bool false] 183 { whole:=true }))
fun (v1:AV) (H1:AH) =>
∃(n2:Int),
v1=int i64 n2 ∧
[int i64 i,int i64 1,int i64 65533,bool true].length=4 ∧
∃(H2:AH),
(X none).wr ((X none).al H1 (cells [int i64 0,int i64 0,int i64 0,bool false] 183 { whole:=true })) ((X none).n H1) 0
[int i64 i,int i64 1,int i64 65533,bool true] =
some H2 ∧
bif n2 == (0:Int) then
∃(n3 n4 n5:Int),
∃(b1:Bool),
(X none).bC H2 ((X none).n H1) 0 4=some [int i64 n3,int i64 n4,int i64 n5,bool b1] ∧
[int i64 n3,int i64 n4,int i64 n5,bool b1].length=4 ∧
∃(H3:AH),
(X none).wr H2 ((X none).n H) 0 [int i64 n3,int i64 n4,int i64 n5,bool b1]=some H3 ∧
∃(n6 n7 n8:Int),
∃(b2:Bool),
(X none).bC H3 ((X none).n H) 0 4=some [int i64 n6,int i64 n7,int i64 n8,bool b2] ∧
Q (agg [int i64 n6,int i64 n7,int i64 n8,bool b2]) H3
else
bif n2 == (1:Int) then
∃(k3 k4:Nat),
(some (b,(0:Nat))=some (k3,k4)∧(0:Int)≤i∧i<(↑k:Int)) ∧
∃(n9:Int),
(X none).aM H2 k3 (k4+i.toNat*1)=some (int u8 n9) ∧
[int i64 i,int i64 1,int i64 ((X none).wrap i64 n9),bool false].length=4 ∧
∃(H4:AH),
(X none).wr H2 ((X none).n H) 0 [int i64 i,int i64 1,int i64 ((X none).wrap i64 n9),bool false]=some H4 ∧
∃(eK iC j6:Int),
∃(b3:Bool),
(X none).bC H4 ((X none).n H) 0 4=some [int i64 eK,int i64 iC,int i64 j6,bool b3] ∧
Q (agg [int i64 eK,int i64 iC,int i64 j6,bool b3]) H4
else
∃(x1:Nat×Int×Nat×Bool→AH→Prop),
(bif decide ((X none).wrap i64 (i+(1:Int))≥(↑k:Int)) == false then
∃(k5 k6:Nat),
(some (b,(0:Nat))=some (k5,k6)∧(0:Int)≤i∧i<(↑k:Int)) ∧
∃(kO:Int),
(X none).aM H2 k5 (k6+i.toNat*1)=some (int u8 kO) ∧
∃(k7 k8:Nat),
(some (b,(0:Nat))=some (k7,k8)∧(0:Int)≤(X none).wrap i64 (i+(1:Int))∧(X none).wrap i64 (i+(1:Int))<(↑k:Int)) ∧
∃(lD:Int),
(X none).aM H2 k7 (k8+((X none).wrap i64 (i+(1:Int))).toNat*1)=some (int u8 lD) ∧
(X none).call 149 [int u8 kO,int u8 lD] H2 fun (v2:AV) (H5:AH) =>
∃(b4:Bool),
v2=bool b4 ∧
∃(x2:Nat×Int×Nat×Bool),
∃(_k9:Nat),
True ∧
[slice (some (b,0)) k k,int i64 i,ptr (some ((X none).n H,0)),int i64 n2,ptr (some ((X none).n H1,0)),
bool !b4] =
[slice (some (b,0)) k k,int i64 i,ptr (some (x2.1,0)),int i64 x2.2.1,ptr (some (x2.2.2.1,0)),
bool x2.2.2.2] ∧
x1 x2 H5
else
∃(x3:Nat×Int×Nat×Bool),
∃(_k10:Nat),
True ∧
[slice (some (b,0)) k k,int i64 i,ptr (some ((X none).n H,0)),int i64 n2,ptr (some ((X none).n H1,0)),bool true] =
[slice (some (b,0)) k k,int i64 i,ptr (some (x3.1,0)),int i64 x3.2.1,ptr (some (x3.2.2.1,0)),bool x3.2.2.2] ∧
x1 x3 H2) ∧
∀(x4:Nat×Int×Nat×Bool) (H6:AH),
x1 x4 H6 →
bif x4.2.2.2 then
∃(pI qt sX:Int),
∃(b5:Bool),
(X none).bC H6 x4.2.2.1 0 4=some [int i64 pI,int i64 qt,int i64 sX,bool b5] ∧
[int i64 pI,int i64 qt,int i64 sX,bool b5].length=4 ∧
∃(H7:AH),
(X none).wr H6 x4.1 0 [int i64 pI,int i64 qt,int i64 sX,bool b5]=some H7 ∧
∃(vt yL wJ:Int),
∃(b6:Bool),
(X none).bC H7 x4.1 0 4=some [int i64 vt,int i64 yL,int i64 wJ,bool b6] ∧
Q (agg [int i64 vt,int i64 yL,int i64 wJ,bool b6]) H7
else
(X none).call 150 [slice (some (b,0)) k k,int i64 ((X none).wrap i64 (i+(1:Int)))] H6 fun (v3:AV) (H8:AH) =>
∃(BQ:Int),
v3=int i64 BQ ∧
∃(x5:Nat×Int×Nat×Int×Int→AH→Nat→Prop),
(∃(x6:Nat×Int×Nat×Int×Int),
∃(fN:Nat),
[slice (some (b,0)) k k,int i64 i,ptr (some (x4.1,0)),int i64 x4.2.1,ptr (some (x4.2.2.1,0)),
int i64 BQ,int i64 2] =
[slice (some (b,0)) k k,int i64 i,ptr (some (x6.1,0)),int i64 x6.2.1,ptr (some (x6.2.2.1,0)),
int i64 x6.2.2.2.1,int i64 x6.2.2.2.2] ∧
x5 x6 H8 fN) ∧
∀(x7:Nat×Int×Nat×Int×Int) (H9:AH) (iq:Nat),
x5 x7 H9 iq →
bif decide (x7.2.2.2.2<x7.2.1) then
(X none).call 151 [slice (some (b,0)) k k,int i64 ((X none).wrap i64 (i+x7.2.2.2.2))] H9 fun (v4:AV) (jd:AH) =>
∃(b7:Bool),
v4=bool b7 ∧
bif !b7 then
∃(D5 CN FE:Int),
∃(b8:Bool),
(X none).bC jd x7.2.2.1 0 4=some [int i64 D5,int i64 CN,int i64 FE,bool b8] ∧
[int i64 D5,int i64 CN,int i64 FE,bool b8].length=4 ∧
∃(nT:AH),
(X none).wr jd x7.1 0 [int i64 D5,int i64 CN,int i64 FE,bool b8]=some nT ∧
∃(FD FC DZ:Int),
∃(b9:Bool),
(X none).bC nT x7.1 0 4=some [int i64 FD,int i64 FC,int i64 DZ,bool b9] ∧
Q (agg [int i64 FD,int i64 FC,int i64 DZ,bool b9]) nT
else
(X none).call 150 [slice (some (b,0)) k k,int i64 ((X none).wrap i64 (i+x7.2.2.2.2))] jd fun (v5:AV) (oK:AH) =>
∃(DY:Int),
v5=int i64 DY ∧
∃(x8:Nat×Int×Nat×Int×Int),
∃(jM:Nat),
jM<iq ∧
[slice (some (b,0)) k k,int i64 i,ptr (some (x7.1,0)),int i64 x7.2.1,ptr (some (x7.2.2.1,0)),
int i64 ((X none).wrap i64 ((X none).wrap i64 ((64:Int)*x7.2.2.2.1)+DY)),
int i64 ((X none).wrap i64 (x7.2.2.2.2+(1:Int)))] =
[slice (some (b,0)) k k,int i64 i,ptr (some (x8.1,0)),int i64 x8.2.1,
ptr (some (x8.2.2.1,0)),int i64 x8.2.2.2.1,int i64 x8.2.2.2.2] ∧
x5 x8 oK jM
else
bif x7.2.1 == (2:Int) then
∃(iD jr:Nat),
(some (b,(0:Nat))=some (iD,jr)∧(0:Int)≤i∧i<(↑k:Int)) ∧
∃(Is:Int),
(X none).aM H9 iD (jr+i.toNat*1)=some (int u8 Is) ∧
[int i64 i,int i64 x7.2.1,
int i64
((X none).wrap i64 (x7.2.2.2.1+(X none).wrap i64 ((64:Int)*(X none).wrap i64 ((X none).wrap i64 Is - (192:Int))))),
bool false].length =
4 ∧
∃(nw:AH),
(X none).wr H9 x7.1 0
[int i64 i,int i64 x7.2.1,
int i64
((X none).wrap i64
(x7.2.2.2.1+(X none).wrap i64 ((64:Int)*(X none).wrap i64 ((X none).wrap i64 Is - (192:Int))))),
bool false] =
some nw ∧
∃(Lc Lb JY:Int),
∃(BF:Bool),
(X none).bC nw x7.1 0 4=some [int i64 Lc,int i64 Lb,int i64 JY,bool BF] ∧
Q (agg [int i64 Lc,int i64 Lb,int i64 JY,bool BF]) nw
else
bif x7.2.1 == (3:Int) then
∃(m6 jq:Nat),
(some (b,(0:Nat))=some (m6,jq)∧(0:Int)≤i∧i<(↑k:Int)) ∧
∃(Ir:Int),
(X none).aM H9 m6 (jq+i.toNat*1)=some (int u8 Ir) ∧
[int i64 i,int i64 x7.2.1,
int i64
((X none).wrap i64
(x7.2.2.2.1+(X none).wrap i64 ((4096:Int)*(X none).wrap i64 ((X none).wrap i64 Ir - (224:Int))))),
bool false].length =
4 ∧
∃(xH:AH),
(X none).wr H9 x7.1 0
[int i64 i,int i64 x7.2.1,
int i64
((X none).wrap i64
(x7.2.2.2.1+(X none).wrap i64 ((4096:Int)*(X none).wrap i64 ((X none).wrap i64 Ir - (224:Int))))),
bool false] =
some xH ∧
∃(La MO JX:Int),
∃(G0:Bool),
(X none).bC xH x7.1 0 4=some [int i64 La,int i64 MO,int i64 JX,bool G0] ∧
Q (agg [int i64 La,int i64 MO,int i64 JX,bool G0]) xH
else
bif x7.2.1 == (4:Int) then
∃(lK sB:Nat),
(some (b,(0:Nat))=some (lK,sB)∧(0:Int)≤i∧i<(↑k:Int)) ∧
∃(GG:Int),
(X none).aM H9 lK (sB+i.toNat*1)=some (int u8 GG) ∧
[int i64 i,int i64 x7.2.1,
int i64
((X none).wrap i64
(x7.2.2.2.1+(X none).wrap i64 ((262144:Int)*(X none).wrap i64 ((X none).wrap i64 GG - (240:Int))))),
bool false].length =
4 ∧
∃(nv:AH),
(X none).wr H9 x7.1 0
[int i64 i,int i64 x7.2.1,
int i64
((X none).wrap i64
(x7.2.2.2.1+(X none).wrap i64 ((262144:Int)*(X none).wrap i64 ((X none).wrap i64 GG - (240:Int))))),
bool false] =
some nv ∧
∃(MN MM ML:Int),
∃(GZ:Bool),
(X none).bC nv x7.1 0 4=some [int i64 MN,int i64 MM,int i64 ML,bool GZ] ∧
Q (agg [int i64 MN,int i64 MM,int i64 ML,bool GZ]) nv
else
[int i64 i,int i64 x7.2.1,int i64 x7.2.2.2.1,bool false].length=4 ∧
∃(xG:AH),
(X none).wr H9 x7.1 0 [int i64 i,int i64 x7.2.1,int i64 x7.2.2.2.1,bool false]=some xG ∧
∃(MK MJ QB:Int),
∃(GY:Bool),
(X none).bC xG x7.1 0 4=some [int i64 MK,int i64 MJ,int i64 QB,bool GY] ∧
Q (agg [int i64 MK,int i64 MJ,int i64 QB,bool GY]) xG):=by kernel_rfl
theorem Fk (X:Option Nat→aO) (It:FuncId→List AV→List AV→(AH→Prop)→List (List AV)→Prop) (s:List UInt8) (H:AH) (Q:AV→AH→Prop):(nx X It Tryz.prog [⟨4,(Nat×Nat)×(Option (Nat×Nat)×Nat)×Int,[3,4,5],fun x=>[.slice (some (x.1.1,0)) x.1.2 x.1.2,.slice x.2.1.1 x.2.1.2 x.2.1.2,.int .i64 x.2.2],fun _ _ _=>True⟩] [] 107 [.str s] H Q) =
(∃(q1:Option (Nat×Nat)),
∃(k1 k2:Nat),
∃(H1:AH),
(X none).bs 9 94 s H=some (slice q1 k1 k2,H1) ∧
∃(x1:(Nat×Nat)×(Option (Nat×Nat)×Nat)×Int→AH→Nat→Prop),
(∃(x2:(Nat×Nat)×(Option (Nat×Nat)×Nat)×Int),
∃(k3:Nat),
[slice q1 k1 k2,slice none 0 0,int i64 0] =
[slice (some (x2.1.1,0)) x2.1.2 x2.1.2,slice x2.2.1.1 x2.2.1.2 x2.2.1.2,int i64 x2.2.2] ∧
x1 x2 H1 k3) ∧
∀(x3:(Nat×Nat)×(Option (Nat×Nat)×Nat)×Int) (H2:AH) (k4:Nat),
x1 x3 H2 k4 →
bif decide (x3.2.2<(↑x3.1.2:Int)) then
(X none).call 132 [slice (some (x3.1.1,0)) x3.1.2 x3.1.2,int i64 x3.2.2] H2 fun (v1:AV) (H3:AH) =>
∃(n1 n2 n3:Int),
∃(b1:Bool),
v1=agg [int i64 n1,int i64 n2,int i64 n3,bool b1] ∧
[int i64 n1,int i64 n2,int i64 n3,bool b1].length=4 ∧
∃(H4:AH),
(X none).wr ((X none).al H3 (cells [int i64 0,int i64 0,int i64 0,bool false] 183 { whole:=true })) ((X none).n H3) 0
[int i64 n1,int i64 n2,int i64 n3,bool b1] =
some H4 ∧
∃(n4 n5 n6:Int),
∃(b2:Bool),
(X none).bC H4 ((X none).n H3) 0 4=some [int i64 n4,int i64 n5,int i64 n6,bool b2] ∧
(4≤16777216∧4=4∧0<4∧true=true∧true=true) ∧
∃(q2:Option (Nat×Nat)),
∃(k5 k6:Nat),
∃(H5:AH),
(X none).app 162 162 (slice x3.2.1.1 x3.2.1.2 x3.2.1.2) (slice (some ((X none).n H4,0)) 1 1)
((X none).al H4 (cells [int i64 n4,int i64 n5,int i64 n6,bool b2] 183 { whole:=true })) =
some (slice q2 k5 k6,H5) ∧
∃(n7:Int),
(X none).aM H5 ((X none).n H3) 1=some (int i64 n7) ∧
∃(x4:(Nat×Nat)×(Option (Nat×Nat)×Nat)×Int),
∃(k7:Nat),
k7<k4 ∧
[slice (some (x3.1.1,0)) x3.1.2 x3.1.2,slice q2 k5 k6,int i64 ((X none).wrap i64 (x3.2.2+n7))] =
[slice (some (x4.1.1,0)) x4.1.2 x4.1.2,slice x4.2.1.1 x4.2.1.2 x4.2.1.2,int i64 x4.2.2] ∧
x1 x4 H5 k7
else Q (slice x3.2.1.1 x3.2.1.2 x3.2.1.2) H2):=by kernel_rfl
theorem HS (X:Option Nat→aO) (It:FuncId→List AV→List AV→(AH→Prop)→List (List AV)→Prop) (s t:List UInt8) (q r:Option (Nat×Nat)) (k c m e:Nat) (H:AH) (Q:AV→AH→Prop):(nx X It Tryz.prog [⟨4,Nat×Nat×Int,[2,3,5],fun x=>[.ptr (some (x.1,0)),.ptr (some (x.2.1,0)),.int .i64 x.2.2],fun _ _ _=>True⟩] [] 13 [.agg [.str s,.slice q k c],.agg [.str t,.slice r m e]] H Q) =
(true=true ∧
true=true ∧
∃(s1:List UInt8),
(X none).aM ((X none).al ((X none).al H (cells [str s,slice q k c] 24 { whole:=true })) (cells [str t,slice r m e] 24 { whole:=true })) ((X none).n H) 0=some (str s1) ∧
∃(s2:List UInt8),
(X none).aM ((X none).al ((X none).al H (cells [str s,slice q k c] 24 { whole:=true })) (cells [str t,slice r m e] 24 { whole:=true }))
((X none).n ((X none).al H (cells [str s,slice q k c] 24 { whole:=true }))) 0 =
some (str s2) ∧
∃(q1:Option (Nat×Nat)),
∃(k1 k2:Nat),
(X none).aM ((X none).al ((X none).al H (cells [str s,slice q k c] 24 { whole:=true })) (cells [str t,slice r m e] 24 { whole:=true })) ((X none).n H) 1 =
some (slice q1 k1 k2) ∧
∃(q2:Option (Nat×Nat)),
∃(k3 k4:Nat),
(X none).aM ((X none).al ((X none).al H (cells [str s,slice q k c] 24 { whole:=true })) (cells [str t,slice r m e] 24 { whole:=true }))
((X none).n ((X none).al H (cells [str s,slice q k c] 24 { whole:=true }))) 1 =
some (slice q2 k3 k4) ∧
bif !s1 == s2 || (↑k1:Int) != (↑k3:Int) then
Q (bool false) ((X none).al ((X none).al H (cells [str s,slice q k c] 24 { whole:=true })) (cells [str t,slice r m e] 24 { whole:=true }))
else
∃(x1:Nat×Nat×Int→AH→Nat→Prop),
(∃(x2:Nat×Nat×Int),
∃(k5:Nat),
[ptr (some ((X none).n H,0)),ptr (some ((X none).n ((X none).al H (cells [str s,slice q k c] 24 { whole:=true })),0)),int i64 0] =
[ptr (some (x2.1,0)),ptr (some (x2.2.1,0)),int i64 x2.2.2] ∧
x1 x2 ((X none).al ((X none).al H (cells [str s,slice q k c] 24 { whole:=true })) (cells [str t,slice r m e] 24 { whole:=true })) k5) ∧
∀(x3:Nat×Nat×Int) (H1:AH) (k6:Nat),
x1 x3 H1 k6 →
∃(q3:Option (Nat×Nat)),
∃(k7 k8:Nat),
(X none).aM H1 x3.1 1=some (slice q3 k7 k8) ∧
bif decide (x3.2.2<(↑k7:Int)) then
∃(q4:Option (Nat×Nat)),
∃(k9 jb:Nat),
(X none).aM H1 x3.1 1=some (slice q4 k9 jb) ∧
∃(fN iq:Nat),
(q4=some (fN,iq)∧(0:Int)≤x3.2.2∧x3.2.2<(↑k9:Int)) ∧
∃(n1 n2 n3 n4:Int),
(X none).bC H1 fN (iq+x3.2.2.toNat*4) 4=some [int i64 n1,int i64 n2,int i64 n3,int i64 n4] ∧
∃(q5:Option (Nat×Nat)),
∃(jM iD:Nat),
(X none).aM H1 x3.2.1 1=some (slice q5 jM iD) ∧
∃(jr m6:Nat),
(q5=some (jr,m6)∧(0:Int)≤x3.2.2∧x3.2.2<(↑jM:Int)) ∧
∃(n5 n6 n7 n8:Int),
(X none).bC H1 jr (m6+x3.2.2.toNat*4) 4 =
some [int i64 n5,int i64 n6,int i64 n7,int i64 n8] ∧
bif !(n1 == n5 && (n2 == n6 && (n3 == n7 && (n4 == n8 && true)))) then Q (bool false) H1
else
∃(x4:Nat×Nat×Int),
∃(jq:Nat),
jq<k6 ∧
[ptr (some (x3.1,0)),ptr (some (x3.2.1,0)),
int i64 ((X none).wrap i64 (x3.2.2+(1:Int)))] =
[ptr (some (x4.1,0)),ptr (some (x4.2.1,0)),int i64 x4.2.2] ∧
x1 x4 H1 jq
else Q (bool true) H1):=by kernel_rfl
end Go.Proofs.YtlkdhhkncoekgaaGreatDoor
